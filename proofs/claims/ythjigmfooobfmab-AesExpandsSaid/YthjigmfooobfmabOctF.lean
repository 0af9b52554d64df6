/-
  PLAIN LAWS of bytes as a field: doubling, the product of layer 1 and of its reference, the other factor, the box, as functions on eight bits; what the statements of layer 1 say of them. No program in sight.
-/
import Derived.Test.YthjigmfooobfmabGf
namespace Go.Proofs.Ythjigmfooobfmab.Gf

abbrev B8 := BitVec 8
def t2 (a : B8) : B8 := (a <<< 1) ^^^ (27#8 &&& -(a >>> 7))
/-- The product: the sum of the doubles of a that b's bits name. -/
def mul8 (a b : B8) : B8 := mulG t2 BitVec.getLsbD 8 b a

theorem allB (P : B8 → Bool) (h : (List.range 256).all (fun i => P (BitVec.ofNat 8 i)) = true) (a : B8) : P a = true := by
  have := List.all_eq_true.1 h a.toNat (List.mem_range.2 a.isLt)
  simpa using this

theorem mask_sel (x : B8) : 27#8 &&& -(x >>> 7) = sel (x.getLsbD 7) 27#8 :=
  eq_of_beq (allB (fun x => 27#8 &&& -(x >>> 7) == sel (x.getLsbD 7) 27#8) (by decide +kernel) x)
theorem t2_lin : Lin t2 := by
  intro x y
  unfold t2
  rw [mask_sel, mask_sel, mask_sel, BitVec.shiftLeft_xor_distrib, BitVec.getLsbD_xor, sel_bxor, xor4]
theorem getLsbD_add (x y : B8) (i : Nat) : (x ^^^ y).getLsbD i = (x.getLsbD i ^^ y.getLsbD i) := BitVec.getLsbD_xor
theorem basis8 (b : B8) : sumTo 8 (fun i => sel (b.getLsbD i) (pw t2 i 1#8)) = b :=
  eq_of_beq (allB (fun b => sumTo 8 (fun i => sel (b.getLsbD i) (pw t2 i 1#8)) == b) (by decide +kernel) b)

theorem mul8_comm (a b : B8) : mul8 a b = mul8 b a := mulG_comm t2_lin basis8 b a
theorem mul8_assoc (a b c : B8) : mul8 (mul8 a b) c = mul8 a (mul8 b c) := (mulG_assoc t2_lin basis8 c b a).symm
theorem mul8_spread (a b c : B8) : mul8 a (b ^^^ c) = mul8 a b ^^^ mul8 a c := mulG_add_left getLsbD_add b c a
theorem mul8_spread' (a b c : B8) : mul8 (a ^^^ b) c = mul8 a c ^^^ mul8 b c := mulG_add_right t2_lin c a b
theorem mul8_one (a : B8) : mul8 a 1#8 = a := by rw [mul8_comm]; exact mulG_one basis8 a
theorem mul8_zero (a : B8) : mul8 a 0#8 = 0#8 := by rw [mul8_comm]; exact mulG_zero t2_lin a
theorem mul8_two (a : B8) : t2 a = mul8 a 2#8 := by
  have e : (2#8 : B8) = t2 1#8 := by decide +kernel
  rw [e, mul8_comm]
  show t2 a = mulG t2 BitVec.getLsbD 8 a (t2 1#8)
  rw [mulG_T t2_lin, mulG_one basis8]
theorem mul8_three (a : B8) : mul8 a 3#8 = t2 a ^^^ a := by
  have e : (3#8 : B8) = 2#8 ^^^ 1#8 := by decide +kernel
  rw [e, mul8_spread, mul8_one, ← mul8_two]

/-! ### the code's product, round by round -/
/-- What the code's loop holds after k rounds. -/
def mulTo (a b : B8) (k : Nat) : B8 := sumTo k fun i => sel (b.getLsbD i) (pw t2 i a)
theorem mulTo_full (a b : B8) : mulTo a b 8 = mul8 a b := rfl

/-! ### the other factor -/
def invStep (p : B8 × B8) : B8 × B8 := (mul8 p.1 p.1, mul8 p.2 (mul8 p.1 p.1))
def invTo (a : B8) : Nat → B8 × B8
  | 0 => (a, 1#8)
  | k + 1 => invStep (invTo a k)
def inv8 (a : B8) : B8 := (invTo a 7).2
def invOk (a : B8) : Bool := mul8 a (inv8 a) == bif a == 0#8 then 0#8 else 1#8
theorem inv_table : (List.range 256).all (fun i => invOk (BitVec.ofNat 8 i)) = true := by decide +kernel
theorem inv_mul (a : B8) : mul8 a (inv8 a) = bif a == 0#8 then 0#8 else 1#8 := eq_of_beq (allB invOk inv_table a)
theorem inv_zero : inv8 0#8 = 0#8 := by decide +kernel
theorem inv_ne (a : B8) (h : a ≠ 0#8) : mul8 a (inv8 a) = 1#8 := by rw [inv_mul, beq_eq_false_iff_ne.2 h]; rfl
theorem inv_inv (a : B8) : inv8 (inv8 a) = a := by
  by_cases h : a = 0#8
  · rw [h, inv_zero, inv_zero]
  · have h1 := inv_ne a h
    have h2 : inv8 a ≠ 0#8 := by
      intro e
      rw [e, mul8_zero] at h1
      exact absurd h1 (by decide)
    have h3 := inv_ne _ h2
    have e1 : mul8 (mul8 a (inv8 a)) (inv8 (inv8 a)) = mul8 a 1#8 := by rw [mul8_assoc, h3]
    rw [h1, mul8_one, mul8_comm, mul8_one] at e1
    exact e1

/-! ### powers -/
def pow8 (a : B8) : Nat → B8
  | 0 => 1#8
  | k + 1 => mul8 (pow8 a k) a
theorem pow8_add (a : B8) (i j : Nat) : pow8 a (i + j) = mul8 (pow8 a i) (pow8 a j) := by
  induction j with
  | zero => exact (mul8_one _).symm
  | succ j ih => show mul8 (pow8 a (i + j)) a = mul8 (pow8 a i) (mul8 (pow8 a j) a); rw [ih, mul8_assoc]
theorem pow8_one (a : B8) : pow8 a 1 = a := by show mul8 1#8 a = a; rw [mul8_comm, mul8_one]
theorem invTo_eq (a : B8) (k : Nat) : invTo a k = (pow8 a (2 ^ k), pow8 a (2 ^ (k + 1) - 2)) := by
  induction k with
  | zero => show (a, 1#8) = (pow8 a 1, pow8 a 0); rw [pow8_one]; rfl
  | succ k ih =>
    show invStep (invTo a k) = _
    rw [ih]
    have p := Nat.two_pow_pos k
    have e1 : 2 ^ (k + 1) = 2 ^ k + 2 ^ k := by rw [Nat.pow_succ]; omega
    have e2 : 2 ^ (k + 1 + 1) - 2 = (2 ^ (k + 1) - 2) + (2 ^ k + 2 ^ k) := by rw [Nat.pow_succ 2 (k + 1), e1]; omega
    unfold invStep
    rw [e2, pow8_add a (2 ^ (k + 1) - 2), pow8_add a (2 ^ k), ← pow8_add a (2 ^ k), ← e1]
theorem pow_254 (a : B8) : pow8 a 254 = inv8 a := by
  show _ = (invTo a 7).2
  rw [invTo_eq]
theorem pow_255 (a : B8) : pow8 a 255 = bif a == 0#8 then 0#8 else 1#8 := by
  show mul8 (pow8 a 254) a = _
  rw [pow_254, mul8_comm, inv_mul]

/-! ### the reference's product, over a number -/
/-- A shifted factor into the number, where the other factor's bit asks. -/
def clTo (a b : B8) : Nat → BitVec 16
  | 0 => 0#16
  | k + 1 => clTo a b k ^^^ sel (b.getLsbD k) ((a.setWidth 16) <<< k)
/-- One step of taking away: what stands at x^(8 + j). -/
def redStep (t : BitVec 16) (j : Nat) : BitVec 16 := t ^^^ sel (t.getLsbD (8 + j)) (0x11b#16 <<< j)
/-- k steps: from x^14 down. -/
def redTo (t : BitVec 16) : Nat → BitVec 16
  | 0 => t
  | k + 1 => redStep (redTo t k) (6 - k)
def refMul (a b : B8) : B8 := (redTo (clTo a b 8) 7).setWidth 8

theorem redStep_lin (j : Nat) : Lin (fun t => redStep t j) := by
  intro x y
  show redStep _ _ = redStep _ _ ^^^ redStep _ _
  unfold redStep
  rw [BitVec.getLsbD_xor, sel_bxor, xor4]
theorem redTo_lin (k : Nat) : Lin (fun t => redTo t k) := by
  induction k with
  | zero => intro x y; rfl
  | succ k ih =>
    intro x y
    have i := ih x y
    show redStep (redTo (x ^^^ y) k) _ = redStep (redTo x k) _ ^^^ redStep (redTo y k) _
    rw [show redTo (x ^^^ y) k = _ from i]
    exact redStep_lin (6 - k) _ _
def redOkAt (a : B8) (k : Nat) : Bool := (redTo ((a.setWidth 16) <<< k) 7).setWidth 8 == pw t2 k a
def redOk (a : B8) : Bool := (List.range 8).all (redOkAt a)
theorem red_pw_table : (List.range 256).all (fun i => redOk (BitVec.ofNat 8 i)) = true := by decide +kernel
theorem red_pw (a : B8) (k : Nat) (hk : k < 8) : (redTo ((a.setWidth 16) <<< k) 7).setWidth 8 = pw t2 k a :=
  eq_of_beq (show redOkAt a k = true from List.all_eq_true.1 (show (List.range 8).all (redOkAt a) = true from allB redOk red_pw_table a) k (List.mem_range.2 hk))
theorem clTo_eq (a b : B8) (k : Nat) : clTo a b k = sumTo k fun i => sel (b.getLsbD i) ((a.setWidth 16) <<< i) := by
  induction k with
  | zero => rfl
  | succ k ih => show clTo a b k ^^^ _ = _; rw [ih]; rfl
theorem refMul_eq (a b : B8) : refMul a b = mul8 a b := by
  unfold refMul mul8 mulG
  have hl : ∀ x y : BitVec 16, (fun t => (redTo t 7).setWidth 8) (x ^^^ y) = (fun t => (redTo t 7).setWidth 8) x ^^^ (fun t => (redTo t 7).setWidth 8) y := by
    intro x y
    show ((redTo (x ^^^ y) 7).setWidth 8 : B8) = (redTo x 7).setWidth 8 ^^^ (redTo y 7).setWidth 8
    rw [show redTo (x ^^^ y) 7 = _ from redTo_lin 7 x y, BitVec.setWidth_xor]
  rw [clTo_eq]
  have := sumTo_lin (fun t => (redTo t 7).setWidth 8 : BitVec 16 → BitVec 8) hl 8 (fun i => sel (b.getLsbD i) ((a.setWidth 16) <<< i))
  rw [show (redTo (sumTo 8 fun i => sel (b.getLsbD i) ((a.setWidth 16) <<< i)) 7).setWidth 8 = _ from this]
  refine sumTo_congr fun i hi => ?_
  cases h : b.getLsbD i
  · show (redTo 0#16 7).setWidth 8 = 0#8
    decide +kernel
  · exact red_pw a i hi

/-! ### the box -/
def boxBytes : List Nat := [0x63, 0x7c, 0x77, 0x7b, 0xf2, 0x6b, 0x6f, 0xc5, 0x30, 0x01, 0x67, 0x2b, 0xfe, 0xd7, 0xab, 0x76,
  0xca, 0x82, 0xc9, 0x7d, 0xfa, 0x59, 0x47, 0xf0, 0xad, 0xd4, 0xa2, 0xaf, 0x9c, 0xa4, 0x72, 0xc0,
  0xb7, 0xfd, 0x93, 0x26, 0x36, 0x3f, 0xf7, 0xcc, 0x34, 0xa5, 0xe5, 0xf1, 0x71, 0xd8, 0x31, 0x15,
  0x04, 0xc7, 0x23, 0xc3, 0x18, 0x96, 0x05, 0x9a, 0x07, 0x12, 0x80, 0xe2, 0xeb, 0x27, 0xb2, 0x75,
  0x09, 0x83, 0x2c, 0x1a, 0x1b, 0x6e, 0x5a, 0xa0, 0x52, 0x3b, 0xd6, 0xb3, 0x29, 0xe3, 0x2f, 0x84,
  0x53, 0xd1, 0x00, 0xed, 0x20, 0xfc, 0xb1, 0x5b, 0x6a, 0xcb, 0xbe, 0x39, 0x4a, 0x4c, 0x58, 0xcf,
  0xd0, 0xef, 0xaa, 0xfb, 0x43, 0x4d, 0x33, 0x85, 0x45, 0xf9, 0x02, 0x7f, 0x50, 0x3c, 0x9f, 0xa8,
  0x51, 0xa3, 0x40, 0x8f, 0x92, 0x9d, 0x38, 0xf5, 0xbc, 0xb6, 0xda, 0x21, 0x10, 0xff, 0xf3, 0xd2,
  0xcd, 0x0c, 0x13, 0xec, 0x5f, 0x97, 0x44, 0x17, 0xc4, 0xa7, 0x7e, 0x3d, 0x64, 0x5d, 0x19, 0x73,
  0x60, 0x81, 0x4f, 0xdc, 0x22, 0x2a, 0x90, 0x88, 0x46, 0xee, 0xb8, 0x14, 0xde, 0x5e, 0x0b, 0xdb,
  0xe0, 0x32, 0x3a, 0x0a, 0x49, 0x06, 0x24, 0x5c, 0xc2, 0xd3, 0xac, 0x62, 0x91, 0x95, 0xe4, 0x79,
  0xe7, 0xc8, 0x37, 0x6d, 0x8d, 0xd5, 0x4e, 0xa9, 0x6c, 0x56, 0xf4, 0xea, 0x65, 0x7a, 0xae, 0x08,
  0xba, 0x78, 0x25, 0x2e, 0x1c, 0xa6, 0xb4, 0xc6, 0xe8, 0xdd, 0x74, 0x1f, 0x4b, 0xbd, 0x8b, 0x8a,
  0x70, 0x3e, 0xb5, 0x66, 0x48, 0x03, 0xf6, 0x0e, 0x61, 0x35, 0x57, 0xb9, 0x86, 0xc1, 0x1d, 0x9e,
  0xe1, 0xf8, 0x98, 0x11, 0x69, 0xd9, 0x8e, 0x94, 0x9b, 0x1e, 0x87, 0xe9, 0xce, 0x55, 0x28, 0xdf,
  0x8c, 0xa1, 0x89, 0x0d, 0xbf, 0xe6, 0x42, 0x68, 0x41, 0x99, 0x2d, 0x0f, 0xb0, 0x54, 0xbb, 0x16]
def box8 (a : B8) : B8 := BitVec.ofNat 8 (boxBytes.getD a.toNat 0)
/-- Bit i of the reference's box, as the code has it: the whole byte whose lowest bit counts. -/
def boxBit (b : B8) (i : Nat) : B8 := (0x63#8 >>> i) ^^^ (b >>> i) ^^^ (b >>> ((i + 4) % 8)) ^^^ (b >>> ((i + 5) % 8)) ^^^ (b >>> ((i + 6) % 8)) ^^^ (b >>> ((i + 7) % 8))
def boxTo (b : B8) : Nat → B8
  | 0 => 0#8
  | k + 1 => boxTo b k ||| ((boxBit b k &&& 1#8) <<< k)
def refBox (a : B8) : B8 := boxTo (inv8 a) 8
def boxOk (a : B8) : Bool := box8 a == refBox a
theorem box_table : (List.range 256).all (fun i => boxOk (BitVec.ofNat 8 i)) = true := by decide +kernel
theorem box_eq (a : B8) : box8 a = refBox a := eq_of_beq (allB boxOk box_table a)
/-- The box's way back, by search. -/
def unbox (a : B8) : B8 := BitVec.ofNat 8 (boxBytes.idxOf a.toNat)
def unboxOk (a : B8) : Bool := unbox (box8 a) == a
theorem unbox_table : (List.range 256).all (fun i => unboxOk (BitVec.ofNat 8 i)) = true := by decide +kernel
theorem unbox_box (a : B8) : unbox (box8 a) = a := eq_of_beq (allB unboxOk unbox_table a)
theorem box_inj {a b : B8} (h : box8 a = box8 b) : a = b := by rw [← unbox_box a, h, unbox_box]
def movesOk (a : B8) : Bool := box8 a != a && box8 a != ~~~a
theorem box_moves_table : (List.range 256).all (fun i => movesOk (BitVec.ofNat 8 i)) = true := by decide +kernel
theorem box_moves (a : B8) : (box8 a != a) = true ∧ (box8 a != ~~~a) = true := Bool.and_eq_true_iff.1 (allB movesOk box_moves_table a)

end Go.Proofs.Ythjigmfooobfmab.Gf
