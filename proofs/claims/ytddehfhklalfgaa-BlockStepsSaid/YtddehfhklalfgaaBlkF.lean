/-
  PLAIN LAWS of sixteen bytes as a field: a block as 128 bits, its first bit the highest; the product by x; the product; what the reference's row of coefficients comes to; the hash; the next counter. No program in sight.
-/
import Derived.Test.YtddehfhklalfgaaGf
namespace Go.Proofs.Ytddehfhklalfgaa.Gf

abbrev B64 := BitVec 64
abbrev B128 := BitVec 128
/-- times x -/
def tx (b : B128) : B128 := (b >>> 1) ^^^ sel (b.getLsbD 0) (0xe1#128 <<< 120)
def one128 : B128 := 1#128 <<< 127
def mulB (a b : B128) : B128 := mulG tx BitVec.getMsbD 128 a b

theorem shr_xor (n k : Nat) (x y : BitVec n) : (x ^^^ y) >>> k = (x >>> k) ^^^ (y >>> k) := by
  apply BitVec.eq_of_getLsbD_eq
  intro i _
  simp
theorem tx_lin : Lin tx := by
  intro x y
  unfold tx
  rw [shr_xor, BitVec.getLsbD_xor, sel_bxor, xor4]
theorem getMsbD_add (x y : B128) (i : Nat) : (x ^^^ y).getMsbD i = (x.getMsbD i ^^ y.getMsbD i) := BitVec.getMsbD_xor

def pwOk (i : Nat) : Bool := pw tx i one128 == (1#128 <<< (127 - i))
theorem pw_table : (List.range 128).all pwOk = true := by decide +kernel
theorem pw_one (i : Nat) (h : i < 128) : pw tx i one128 = 1#128 <<< (127 - i) := eq_of_beq (show pwOk i = true from List.all_eq_true.1 pw_table i (List.mem_range.2 h))
theorem pw_128 : pw tx 128 one128 = one128 ^^^ pw tx 1 one128 ^^^ pw tx 2 one128 ^^^ pw tx 7 one128 := by decide +kernel

theorem getMsbD_bit (i j : Nat) (hi : i < 128) (hj : j < 128) : (1#128 <<< (127 - i)).getMsbD j = decide (i = j) := by
  rw [BitVec.getMsbD_eq_getLsbD, BitVec.getLsbD_shiftLeft, BitVec.getLsbD_one]
  have e : (i = j) ↔ (127 - i = 127 - j) := by omega
  by_cases h : i = j
  · subst h
    simp; omega
  · rw [decide_eq_false h]
    simp
    omega

/-- What a row of coefficients comes to. -/
def val (c : Nat → Bool) (m : Nat) : B128 := sumTo m fun n => sel (c n) (pw tx n one128)
theorem val_bits (c : Nat → Bool) (m : Nat) (hm : m ≤ 128) (j : Nat) (hj : j < 128) : (val c m).getMsbD j = (decide (j < m) && c j) := by
  induction m with
  | zero => simp [val, sumTo]
  | succ m ih =>
    show (val c m ^^^ sel (c m) (pw tx m one128)).getMsbD j = _
    rw [getMsbD_add, ih (by omega), pw_one m (by omega)]
    have e : (sel (c m) (1#128 <<< (127 - m))).getMsbD j = (c m && decide (m = j)) := by
      cases c m
      · simp [sel]
      · show (1#128 <<< (127 - m)).getMsbD j = _
        rw [getMsbD_bit m j (by omega) hj]; rfl
    rw [e]
    by_cases h1 : j < m
    · have h2 : ¬ m = j := by omega
      have h3 : j < m + 1 := by omega
      simp [h1, h2, h3]
    · by_cases h2 : m = j
      · subst h2; simp
      · have h3 : ¬ j < m + 1 := by omega
        simp [h1, h2, h3]
theorem eq_of_msb {x y : B128} (h : ∀ j, j < 128 → x.getMsbD j = y.getMsbD j) : x = y := by
  apply BitVec.eq_of_getMsbD_eq
  intro i hi
  exact h i hi
theorem basis128 (b : B128) : sumTo 128 (fun i => sel (b.getMsbD i) (pw tx i one128)) = b := by
  apply eq_of_msb
  intro j hj
  show (val (fun i => b.getMsbD i) 128).getMsbD j = _
  rw [val_bits _ _ (Nat.le_refl _) j hj, decide_eq_true hj]; rfl

theorem mulB_comm (a b : B128) : mulB a b = mulB b a := mulG_comm tx_lin basis128 a b
theorem mulB_assoc (a b c : B128) : mulB (mulB a b) c = mulB a (mulB b c) := mulG_assoc tx_lin basis128 a b c
theorem mulB_spread (a b c : B128) : mulB a (b ^^^ c) = mulB a b ^^^ mulB a c := mulG_add_right tx_lin a b c
theorem mulB_spread' (a b c : B128) : mulB (a ^^^ b) c = mulB a c ^^^ mulB b c := mulG_add_left getMsbD_add a b c
theorem mulB_one (a : B128) : mulB a one128 = a := mulG_one basis128 a
theorem mulB_zero (a : B128) : mulB a 0#128 = 0#128 := mulG_zero tx_lin a
theorem mulB_zero' (a : B128) : mulB 0#128 a = 0#128 := by rw [mulB_comm, mulB_zero]

/-! ### the code's product: two words -/
def mulTo (a b : B128) (k : Nat) : B128 := sumTo k fun i => sel (a.getMsbD i) (pw tx i b)
theorem append_xor (a b c d : B64) : ((a ^^^ c) ++ (b ^^^ d) : B128) = (a ++ b) ^^^ (c ++ d) := (BitVec.xor_append).symm
theorem tx_words (h l : B64) : ((((h >>> 1) ^^^ sel (l.getLsbD 0) 0xe100000000000000#64) ++ ((l >>> 1) ||| (h <<< 63))) : B128) = tx (h ++ l) := by
  unfold tx
  have e0 : ((h ++ l : B128)).getLsbD 0 = l.getLsbD 0 := by rw [BitVec.getLsbD_append]; simp
  rw [e0]
  have e1 : (((h >>> 1) ++ ((l >>> 1) ||| (h <<< 63))) : B128) = (h ++ l : B128) >>> 1 := by
    apply BitVec.eq_of_getLsbD_eq
    intro i hi
    have er : ((h ++ l : B128) >>> 1).getLsbD i = if 1 + i < 64 then l.getLsbD (1 + i) else h.getLsbD (1 + i - 64) := by
      rw [BitVec.getLsbD_ushiftRight, BitVec.getLsbD_append]
    rw [er, BitVec.getLsbD_append]
    by_cases h1 : i < 64
    · by_cases h2 : i = 63
      · subst h2; simp
      · have h3 : 1 + i < 64 := by omega
        have h4 : i < 63 := by omega
        simp [h1, h3, h4]
    · have h3 : ¬ 1 + i < 64 := by omega
      have h4 : 1 + (i - 64) = 1 + i - 64 := by omega
      simp [h1, h3, h4]
  rw [← e1]
  cases l.getLsbD 0
  · simp [sel]
  · show ((((h >>> 1) ^^^ 0xe100000000000000#64) ++ ((l >>> 1) ||| (h <<< 63))) : B128) = ((h >>> 1) ++ ((l >>> 1) ||| (h <<< 63))) ^^^ (0xe1#128 <<< 120)
    have e2 : (0xe1#128 <<< 120 : B128) = (0xe100000000000000#64 ++ 0#64 : B128) := by decide +kernel
    rw [e2, ← append_xor]
    simp

/-! ### bytes and blocks -/
abbrev Bf := Nat → BitVec 8
/-- The word of eight bytes from place o on, after k of them. -/
def wordTo (f : Bf) (o : Nat) : Nat → B64
  | 0 => 0#64
  | k + 1 => (wordTo f o k <<< 8) ||| (f (o + k)).setWidth 64
def blk (f : Bf) : B128 := (wordTo f 0 8 ++ wordTo f 8 8)
def byteB (x : B128) (i : Nat) : BitVec 8 := (x >>> (120 - 8 * i)).setWidth 8
theorem wordTo_bit (f : Bf) (o k : Nat) (hk : k ≤ 8) (j : Nat) (hj : j < 64) : (wordTo f o k).getLsbD j = (decide (j < 8 * k) && (f (o + (k - 1 - j / 8))).getLsbD (j % 8)) := by
  induction k generalizing j with
  | zero => simp [wordTo]
  | succ k ih =>
    show ((wordTo f o k <<< 8) ||| (f (o + k)).setWidth 64).getLsbD j = _
    rw [BitVec.getLsbD_or, BitVec.getLsbD_shiftLeft, BitVec.getLsbD_setWidth]
    by_cases h8 : j < 8
    · have e1 : j / 8 = 0 := by omega
      have e2 : j % 8 = j := by omega
      have e3 : j < 8 * (k + 1) := by omega
      simp [h8, e1, e2, e3, hj]
    · have hf : (f (o + k)).getLsbD j = false := BitVec.getLsbD_of_ge _ _ (by omega)
      rw [hf, ih (by omega) (j - 8) (by omega)]
      have e1 : (j - 8) % 8 = j % 8 := by omega
      have e2 : (j - 8) / 8 = j / 8 - 1 := by omega
      have e3 : k - 1 - (j / 8 - 1) = k - j / 8 := by omega
      have e4 : (j - 8 < 8 * k) ↔ (j < 8 * (k + 1)) := by omega
      simp [h8, hj, e1, e2, e3, e4]
theorem blk_bit (f : Bf) (i : Nat) (hi : i < 128) : (blk f).getMsbD i = (f (i / 8)).getLsbD (7 - i % 8) := by
  rw [BitVec.getMsbD_eq_getLsbD, decide_eq_true hi, Bool.true_and]
  unfold blk
  rw [BitVec.getLsbD_append]
  by_cases h : 128 - 1 - i < 64
  · rw [if_pos h, wordTo_bit f 8 8 (by omega) _ h]
    have e1 : 8 + (8 - 1 - (128 - 1 - i) / 8) = i / 8 := by omega
    have e2 : (128 - 1 - i) % 8 = 7 - i % 8 := by omega
    rw [e1, e2, decide_eq_true (by omega), Bool.true_and]
  · rw [if_neg h, wordTo_bit f 0 8 (by omega) _ (by omega)]
    have e1 : 0 + (8 - 1 - (128 - 1 - i - 64) / 8) = i / 8 := by omega
    have e2 : (128 - 1 - i - 64) % 8 = 7 - i % 8 := by omega
    rw [e1, e2, decide_eq_true (by omega), Bool.true_and]
theorem byteB_bit (x : B128) (i : Nat) (hi : i < 16) (j : Nat) (hj : j < 8) : (byteB x i).getLsbD j = x.getMsbD (8 * i + (7 - j)) := by
  unfold byteB
  rw [BitVec.getLsbD_setWidth, BitVec.getLsbD_ushiftRight, BitVec.getMsbD_eq_getLsbD]
  have e : 120 - 8 * i + j = 128 - 1 - (8 * i + (7 - j)) := by omega
  rw [e, decide_eq_true hj, decide_eq_true (show 8 * i + (7 - j) < 128 by omega)]
theorem blk_byteB (x : B128) : blk (byteB x) = x := by
  apply eq_of_msb
  intro j hj
  rw [blk_bit _ j hj, byteB_bit x _ (by omega) _ (by omega)]
  congr 1
  omega
theorem byteB_blk (f : Bf) (i : Nat) (hi : i < 16) : byteB (blk f) i = f i := by
  apply BitVec.eq_of_getLsbD_eq
  intro j hj
  rw [byteB_bit _ i hi j hj, blk_bit _ _ (by omega)]
  have e1 : (8 * i + (7 - j)) / 8 = i := by omega
  have e2 : 7 - (8 * i + (7 - j)) % 8 = j := by omega
  rw [e1, e2]
theorem blk_ext {f g : Bf} (h : ∀ i, i < 16 → f i = g i) : blk f = blk g := by
  apply eq_of_msb
  intro j hj
  rw [blk_bit _ j hj, blk_bit _ j hj, h _ (by omega)]
theorem blk_inj {f g : Bf} (h : blk f = blk g) (i : Nat) (hi : i < 16) : f i = g i := by rw [← byteB_blk f i hi, h, byteB_blk g i hi]
theorem blk_xor (f g : Bf) : blk (fun i => f i ^^^ g i) = blk f ^^^ blk g := by
  apply eq_of_msb
  intro j hj
  rw [getMsbD_add, blk_bit _ j hj, blk_bit _ j hj, blk_bit _ j hj, BitVec.getLsbD_xor]
theorem blk_zero : blk (fun _ => 0#8) = 0#128 := by decide +kernel

end Go.Proofs.Ytddehfhklalfgaa.Gf
