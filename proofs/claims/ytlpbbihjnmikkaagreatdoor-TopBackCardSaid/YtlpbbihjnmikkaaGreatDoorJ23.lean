/-
  Joined: POctW, MacA, LawO
-/
import Derived.Test.YtlpbbihjnmikkaaGreatDoorProg
import Derived.Test.YtlpbbihjnmikkaaGreatDoorJ22
import Derived.WalkKit
import Derived.WalkSpells
import Derived.WalkLawsBesides
import Derived.Laws.BitsAllLaws
import Derived.Deep.QuietTactic
import Derived.BigQuiet
import Derived.Lib.Hide
import Derived.Test.YtlpbbihjnmikkaaGreatDoorJ20
import Derived.Test.YtlpbbihjnmikkaaGreatDoorJ18
set_option maxRecDepth 100000
namespace Go.Proofs.YtlpbbihjnmikkaaGreatDoor.Aes
open Go.RowKit Gf

theorem bits_xor8 (x y : B8) : bits .xor .u8 (x.toNat : Int) (y.toNat : Int) = ((x ^^^ y).toNat : Int) := by
  rw [u8_xor_nat _ _ x.isLt y.isLt, BitVec.toNat_xor]
theorem bits_and8 (x y : B8) : bits .and .u8 (x.toNat : Int) (y.toNat : Int) = ((x &&& y).toNat : Int) := by
  rw [u8_and_nat _ _ x.isLt y.isLt, BitVec.toNat_and]
theorem bits_or8 (x y : B8) : bits .or .u8 (x.toNat : Int) (y.toNat : Int) = ((x ||| y).toNat : Int) := by
  rw [u8_or_nat _ _ x.isLt y.isLt, BitVec.toNat_or]

theorem neg8 (x : B8) : -(x.toNat : Int) % (256 : Int) = ((-x).toNat : Int) := by
  have h := x.isLt
  rw [BitVec.toNat_neg]
  omega
theorem half8 (x : B8) : (x.toNat : Int) / (2 : Int) = ((x >>> 1).toNat : Int) := by
  rw [BitVec.toNat_ushiftRight, Nat.shiftRight_eq_div_pow]
  omega
theorem shr7 (x : B8) : (x.toNat : Int) / (128 : Int) = ((x >>> 7).toNat : Int) := by
  rw [BitVec.toNat_ushiftRight, Nat.shiftRight_eq_div_pow]
  omega
theorem dbl8 (x : B8) : (x.toNat : Int) * (2 : Int) % (256 : Int) = ((x <<< 1).toNat : Int) := by
  rw [BitVec.toNat_shiftLeft, Nat.shiftLeft_eq]
  omega
theorem c27 : (27 : Int) = ((27#8).toNat : Int) := rfl
theorem c1 : (1 : Int) = ((1#8).toNat : Int) := rfl
theorem c0 : (0 : Int) = ((0#8).toNat : Int) := rfl
theorem ret8 {x y : Int} (h : x = y) : Ending.returned (.int .u8 x) = Ending.returned (.int .u8 y) := by rw [h]
theorem val8 {x y : Int} (h : x = y) : Value.int .u8 x = Value.int .u8 y := by rw [h]

theorem t2_val (a : B8) : bits .xor .u8 ((a.toNat : Int) * 2 % 256) (bits .and .u8 27 (-((a.toNat : Int) / 128) % 256)) = ((t2 a).toNat : Int) := by
  rw [shr7, neg8, dbl8, c27, bits_and8, bits_xor8]; rfl

set_option maxHeartbeats 400000 in
theorem times2_any (a : B8) (w : World) :
    Calls Tryz.prog 291 #[.int .u8 a.toNat] w fun e w' => e = .returned (.int .u8 (t2 a).toNat) ∧ w = w' := by
  have ha := a.isLt
  go_enter Tryz.func291, Tryz.ntmps291
  go_wp2
  go_ret
  exact ⟨ret8 (t2_val a), rfl⟩

/-- One round of the code's product. -/
theorem mul_round (a b : B8) (k : Nat) :
    bits .xor .u8 ((mulTo a b k).toNat : Int) (bits .and .u8 ((pw t2 k a).toNat : Int) (-(bits .and .u8 ((b >>> k).toNat : Int) 1) % 256)) = ((mulTo a b (k + 1)).toNat : Int) := by
  rw [c1, bits_and8, neg8, bits_and8, bits_xor8]
  congr 2
  show _ = mulTo a b k ^^^ sel (b.getLsbD k) (pw t2 k a)
  congr 1
  have e : (b >>> k) &&& 1#8 = sel (b.getLsbD k) 1#8 := by
    have h1 : ∀ x : B8, x &&& 1#8 = sel (x.getLsbD 0) 1#8 := fun x => eq_of_beq (allB (fun x => x &&& 1#8 == sel (x.getLsbD 0) 1#8) (by decide +kernel) x)
    rw [h1, BitVec.getLsbD_ushiftRight]; rfl
  rw [e]
  cases b.getLsbD k
  · show pw t2 k a &&& -(0#8) = 0#8
    simp
  · show pw t2 k a &&& -(1#8) = pw t2 k a
    have : -(1#8) = BitVec.allOnes 8 := by decide
    rw [this, BitVec.and_allOnes]
theorem shr_succ (b : B8) (k : Nat) : ((b >>> k).toNat : Int) / (2 : Int) = ((b >>> (k + 1)).toNat : Int) := by
  rw [half8, ← BitVec.shiftRight_add]


/-- The world is the old one, some orders having been drawn. -/
structure Drew (w w' : World) : Prop where
  out : ∃ n, w' = w.drewN n
theorem Drew.refl (w : World) : Drew w w := ⟨⟨0, rfl⟩⟩
theorem Drew.step {w w' : World} (h : Drew w w') (n : Nat) : Drew w (w'.drewN n) := by
  obtain ⟨m, rfl⟩ := h
  exact ⟨⟨m + n, World.drewN_drewN ..⟩⟩
theorem Drew.trans {w w1 w2 : World} (h : Drew w w1) (g : Drew w1 w2) : Drew w w2 := by
  obtain ⟨n, rfl⟩ := g
  exact h.step n
theorem Drew.below {w w' : World} (h : Drew w w') : Below w.heap.size w w' := by
  obtain ⟨n, rfl⟩ := h
  induction n with
  | zero => exact Below.refl _ _
  | succ n ih => rw [← World.drew_drewN]; exact ih.drew

/-! ### the reference -/
theorem shrN (x : B8) (k : Nat) : (x.toNat : Int) / (2 : Int) ^ k = ((x >>> k).toNat : Int) := by
  rw [BitVec.toNat_ushiftRight, Nat.shiftRight_eq_div_pow]
  simp
theorem and_one (x : B8) : x &&& 1#8 = sel (x.getLsbD 0) 1#8 := eq_of_beq (allB (fun x => x &&& 1#8 == sel (x.getLsbD 0) 1#8) (by decide +kernel) x)
theorem bit_asked (b : B8) (k : Nat) : (bits .and .u8 ((b.toNat : Int) / (2 : Int) ^ k) 1 == 1) = b.getLsbD k := by
  rw [shrN, c1, bits_and8, and_one, BitVec.getLsbD_ushiftRight, Nat.add_zero]
  cases b.getLsbD k <;> rfl
theorem bits_xor64 (x y : BitVec 16) : bits .xor .i64 (x.toNat : Int) (y.toNat : Int) = ((x ^^^ y).toNat : Int) := by
  have hx := x.isLt
  have hy := y.isLt
  have h := (x ^^^ y).isLt
  have ha : x.toNat % 2 ^ 64 = x.toNat := Nat.mod_eq_of_lt (by omega)
  have hb : y.toNat % 2 ^ 64 = y.toNat := Nat.mod_eq_of_lt (by omega)
  rw [BitVec.toNat_xor] at h ⊢
  show IntKind.i64.wrap ((BitVec.ofInt 64 (x.toNat : Int) ^^^ BitVec.ofInt 64 (y.toNat : Int)).toNat : Int) = _
  rw [BitVec.ofInt_natCast, BitVec.ofInt_natCast, BitVec.toNat_xor, BitVec.toNat_ofNat, BitVec.toNat_ofNat, ha, hb, IntKind.wrap_i64]
  omega
theorem shl_a (a : B8) (k : Nat) (hk : k < 8) : wrap64 ((a.toNat : Int) * (2 : Int) ^ k) = (((a.setWidth 16) <<< k).toNat : Int) := by
  have ha := a.isLt
  have hp : 2 ^ k < 2 ^ 8 := Nat.pow_lt_pow_right (by decide) hk
  have hm : a.toNat * 2 ^ k < 2 ^ 16 := by
    have := Nat.mul_lt_mul'' ha hp
    omega
  have e : ((a.setWidth 16) <<< k).toNat = a.toNat * 2 ^ k := by
    rw [BitVec.toNat_shiftLeft, BitVec.toNat_setWidth, Nat.shiftLeft_eq, Nat.mod_eq_of_lt (show a.toNat < 2 ^ 16 by omega), Nat.mod_eq_of_lt hm]
  have e2 : (a.toNat : Int) * (2 : Int) ^ k = ((a.toNat * 2 ^ k : Nat) : Int) := by simp
  rw [e, e2]
  unfold wrap64
  omega
theorem cl_yes (a b : B8) (k : Nat) (hk : k < 8) (h : b.getLsbD k = true) :
    bits .xor .i64 ((clTo a b k).toNat : Int) (wrap64 ((a.toNat : Int) * (2 : Int) ^ k)) = ((clTo a b (k + 1)).toNat : Int) := by
  rw [shl_a a k hk, bits_xor64]
  show _ = ((clTo a b k ^^^ sel (b.getLsbD k) ((a.setWidth 16) <<< k)).toNat : Int)
  rw [h]; rfl
theorem cl_no (a b : B8) (k : Nat) (h : b.getLsbD k = false) : ((clTo a b k).toNat : Int) = ((clTo a b (k + 1)).toNat : Int) := by
  show _ = ((clTo a b k ^^^ sel (b.getLsbD k) ((a.setWidth 16) <<< k)).toNat : Int)
  rw [h]; simp [sel]

theorem shrN16 (x : BitVec 16) (k : Nat) : (x.toNat : Int) / (2 : Int) ^ k = ((x >>> k).toNat : Int) := by
  rw [BitVec.toNat_ushiftRight, Nat.shiftRight_eq_div_pow]
  simp
theorem bits_and64_one (x : BitVec 16) : bits .and .i64 (x.toNat : Int) 1 = if x.getLsbD 0 then 1 else 0 := by
  have hx := x.isLt
  have ha : x.toNat % 2 ^ 64 = x.toNat := Nat.mod_eq_of_lt (by omega)
  have e : x.toNat &&& 1 = x.toNat % 2 := nat_mask1 _
  show IntKind.i64.wrap ((BitVec.ofInt 64 (x.toNat : Int) &&& BitVec.ofInt 64 ((1 : Nat) : Int)).toNat : Int) = _
  rw [BitVec.ofInt_natCast, BitVec.ofInt_natCast, BitVec.toNat_and, BitVec.toNat_ofNat, BitVec.toNat_ofNat, ha, show 1 % 2 ^ 64 = 1 from rfl, e, IntKind.wrap_i64, BitVec.getLsbD, Nat.testBit_zero]
  by_cases h : x.toNat % 2 = 1
  · simp [h]
  · have h0 : x.toNat % 2 = 0 := by omega
    simp [h0]
theorem bit_asked16 (x : BitVec 16) (k : Nat) : (bits .and .i64 ((x.toNat : Int) / (2 : Int) ^ k) 1 == 1) = x.getLsbD k := by
  rw [shrN16, bits_and64_one, BitVec.getLsbD_ushiftRight, Nat.add_zero]
  cases x.getLsbD k <;> rfl
theorem red_yes (t : BitVec 16) (k : Nat) (hk : k < 7) (h : (redTo t k).getLsbD (14 - k) = true) :
    bits .xor .i64 ((redTo t k).toNat : Int) (wrap64 (283 * (2 : Int) ^ (6 - k))) = ((redTo t (k + 1)).toNat : Int) := by
  have e : wrap64 (283 * (2 : Int) ^ (6 - k)) = ((0x11b#16 <<< (6 - k)).toNat : Int) := by
    rcases (by omega : k = 0 ∨ k = 1 ∨ k = 2 ∨ k = 3 ∨ k = 4 ∨ k = 5 ∨ k = 6) with rfl | rfl | rfl | rfl | rfl | rfl | rfl <;> decide +kernel
  rw [e, bits_xor64]
  show _ = ((redTo t k ^^^ sel ((redTo t k).getLsbD (8 + (6 - k))) (0x11b#16 <<< (6 - k))).toNat : Int)
  rw [show 8 + (6 - k) = 14 - k by omega, h]; rfl
theorem red_no (t : BitVec 16) (k : Nat) (hk : k < 7) (h : (redTo t k).getLsbD (14 - k) = false) : ((redTo t k).toNat : Int) = ((redTo t (k + 1)).toNat : Int) := by
  show _ = ((redTo t k ^^^ sel ((redTo t k).getLsbD (8 + (6 - k))) (0x11b#16 <<< (6 - k))).toNat : Int)
  rw [show 8 + (6 - k) = 14 - k by omega, h]; simp [sel]
theorem val64 {x y : Int} (h : x = y) : Value.int .i64 x = Value.int .i64 y := by rw [h]

theorem c99 : (99 : Int) = ((99#8).toNat : Int) := rfl
theorem shlN (x : B8) (k : Nat) : (x.toNat : Int) * (2 : Int) ^ k % (256 : Int) = ((x <<< k).toNat : Int) := by
  rw [BitVec.toNat_shiftLeft, Nat.shiftLeft_eq]
  simp
theorem box_round (b : B8) (k : Nat) :
    bits .or .u8 ((boxTo b k).toNat : Int) (bits .and .u8 (bits .xor .u8 (bits .xor .u8 (bits .xor .u8 (bits .xor .u8 (bits .xor .u8 (99 / (2 : Int) ^ k) ((b.toNat : Int) / (2 : Int) ^ k))
      ((b.toNat : Int) / (2 : Int) ^ ((k + 4) % 8))) ((b.toNat : Int) / (2 : Int) ^ ((k + 5) % 8))) ((b.toNat : Int) / (2 : Int) ^ ((k + 6) % 8))) ((b.toNat : Int) / (2 : Int) ^ ((k + 7) % 8))) 1 * (2 : Int) ^ k % (256 : Int))
      = ((boxTo b (k + 1)).toNat : Int) := by
  rw [c99, c1, shrN, shrN, shrN, shrN, shrN, shrN, bits_xor8, bits_xor8, bits_xor8, bits_xor8, bits_xor8, bits_and8, shlN, bits_or8]
  rfl

/-! ### the box -/
def boxArr : ByteArray := ⟨(boxBytes.map UInt8.ofNat).toArray⟩
def boxArrOk (a : B8) : Bool := if h : a.toNat < boxArr.size then (boxArr[a.toNat]'h).toNat == (box8 a).toNat else false
theorem boxArr_table : (List.range 256).all (fun i => boxArrOk (BitVec.ofNat 8 i)) = true := by decide +kernel
theorem boxArr_val (a : B8) (h : a.toNat < boxArr.size) : ((boxArr[a.toNat]'h).toNat : Int) = ((box8 a).toNat : Int) := by
  have := allB boxArrOk boxArr_table a
  unfold boxArrOk at this
  rw [dif_pos h] at this
  rw [eq_of_beq this]
set_option maxRecDepth 100000 in
set_option maxHeartbeats 400000 in
theorem box_any (a : B8) (w : World) :
    Calls Tryz.prog 308 #[.int .u8 a.toNat] w fun e w' => e = .returned (.int .u8 (box8 a).toNat) ∧ w = w' := by
  have ha := a.isLt
  go_enter Tryz.func308, Tryz.ntmps308
  go_wp2_with fail
  go_ret
  exact ⟨ret8 (boxArr_val a (show a.toNat < 256 from ha)), rfl⟩

end Go.Proofs.YtlpbbihjnmikkaaGreatDoor.Aes

namespace Go.Proofs.YtlpbbihjnmikkaaGreatDoor.Exe
set_option linter.unusedSimpArgs false
set_option linter.unusedVariables false
set_option maxRecDepth 100000
open Go.RowKit

/-- An array of bytes. -/
def arrB (n : Nat) (f : Nat → Oct) : Array Value := ((List.range n).map fun i => Value.int .u8 (f i).toNat).toArray
theorem arrB_size (n : Nat) (f : Nat → Oct) : (arrB n f).size = n := by simp [arrB]
theorem arrB_one (n : Nat) (f : Nat → Oct) : (arrB n f).all (·.oneCell') = true := by
  rw [Array.all_eq_true_iff_forall_mem]
  intro v hv
  simp [arrB] at hv
  obtain ⟨i, _, rfl⟩ := hv
  rfl
theorem arrB_get {n : Nat} {f : Nat → Oct} {i : Nat} (h : i < n) : (arrB n f)[i]? = some (.int .u8 (f i).toNat) := by simp [arrB, h]
theorem arrB_octs (n : Nat) (f : Nat → Oct) : arrB n f = (octs ((List.range n).map f)).toArray := by
  unfold arrB octs
  rw [List.map_map]
  rfl
theorem arrB_set {n : Nat} {f g : Nat → Oct} {i : Nat} (h : ∀ j, j < n → g j = if j = i then g i else f j) : (arrB n f).setIfInBounds i (.int .u8 (g i).toNat) = arrB n g := by
  refine Array.ext (by simp [arrB]) fun k h1 h2 => ?_
  have hk : k < n := by simpa [arrB] using h2
  rw [Array.getElem_setIfInBounds (by simpa [arrB] using hk)]
  have e := h k hk
  by_cases e1 : i = k
  · subst e1
    simp [arrB]
  · rw [if_neg e1]
    rw [if_neg (fun e => e1 e.symm)] at e
    simp [arrB, e]
theorem arrB_src {w : World} {g n cap : Nat} {f : Nat → Oct} {t : TypeId} (h : Cells w g (arrB n f) t) (hc : n ≤ cap) : Src (.slice (some ⟨g, 0, none⟩) n cap) ((List.range n).map f) w := by
  refine .inr ⟨g, 0, cap, by simp, by simpa using hc, h.lt, fun j hj => ?_⟩
  have hj' : j < n := by simpa using hj
  rw [Nat.zero_add, h.cell, arrB_get hj']
  simp
theorem cells_src {w : World} {g : Nat} {t : TypeId} {l : List Oct} {n : Nat} (h : Cells w g (octs l).toArray t) (hl : l.length = n) : Src (.slice (some ⟨g, 0, none⟩) n n) l w := by
  refine .inr ⟨g, 0, n, by rw [hl], by omega, h.lt, fun j hj => ?_⟩
  rw [Nat.zero_add, h.cell]
  simp [octs, hj]
theorem xor54 (x : Oct) : bits .xor .u8 (x.toNat : Int) 54 = ((x ^^^ 54#8).toNat : Int) := Aes.bits_xor8 x 54#8
theorem xor92 (x : Oct) : bits .xor .u8 (x.toNat : Int) 92 = ((x ^^^ 92#8).toNat : Int) := Aes.bits_xor8 x 92#8
abbrev z64 : Array Value := #[.int .u8 0, .int .u8 0, .int .u8 0, .int .u8 0, .int .u8 0, .int .u8 0, .int .u8 0, .int .u8 0, .int .u8 0, .int .u8 0, .int .u8 0, .int .u8 0, .int .u8 0, .int .u8 0, .int .u8 0, .int .u8 0, .int .u8 0, .int .u8 0, .int .u8 0, .int .u8 0, .int .u8 0, .int .u8 0, .int .u8 0, .int .u8 0, .int .u8 0, .int .u8 0, .int .u8 0, .int .u8 0, .int .u8 0, .int .u8 0, .int .u8 0, .int .u8 0, .int .u8 0, .int .u8 0, .int .u8 0, .int .u8 0, .int .u8 0, .int .u8 0, .int .u8 0, .int .u8 0, .int .u8 0, .int .u8 0, .int .u8 0, .int .u8 0, .int .u8 0, .int .u8 0, .int .u8 0, .int .u8 0, .int .u8 0, .int .u8 0, .int .u8 0, .int .u8 0, .int .u8 0, .int .u8 0, .int .u8 0, .int .u8 0, .int .u8 0, .int .u8 0, .int .u8 0, .int .u8 0, .int .u8 0, .int .u8 0, .int .u8 0, .int .u8 0]
/-- A key, over 64 bytes; XOR a byte, the first ones. -/
def padK (k : List Oct) (i : Nat) : Oct := k.getD i 0
def xorK (f : Nat → Oct) (c : Oct) (n : Nat) : Nat → Oct := fun i => if i < n then f i ^^^ c else f i
def pieceK (k : List Oct) (c : Oct) : List Oct := (List.range 64).map (xorK (padK k) c 64)
/-- A sum by a key. -/
noncomputable def macF (k l : List Oct) : List Oct := shaF (pieceK k 92#8 ++ shaF (pieceK k 54#8 ++ l))
theorem shaF_len (l : List Oct) : (shaF l).length = 32 := by simp [shaF]
theorem macF_len (k l : List Oct) : (macF k l).length = 32 := shaF_len _
theorem pieceK_len (k : List Oct) (c : Oct) : (pieceK k c).length = 64 := by simp [pieceK]
structure Mi (w w' : World) (f : Nat → Oct) (n : Nat) : Prop where
  k : Keeps w.heap.size w w'
  z : Cells w' w.heap.size zeros32 195
  a : Cells w' (w.heap.size + 1) (arrB 64 (xorK f 54#8 n)) 388
  b : Cells w' (w.heap.size + 1 + 1) (arrB 64 (xorK f 92#8 n)) 388
theorem Mi.later {w w1 w2 : World} {f : Nat → Oct} {n : Nat} (h : Mi w w1 f n) (k : Keeps w1.heap.size w1 w2) : Mi w w2 f n :=
  ⟨h.k.trans k h.k.1, h.z.keeps k, h.a.keeps k, h.b.keeps k⟩
theorem Cells.other {w w' : World} {g g' : Nat} {cs : Array Value} {t : TypeId} (h : Cells w g cs t) (hb : Else g' w w') (hne : g ≠ g') : Cells w' g cs t := (hb g hne).trans h
theorem Keeps.allocStore {w w' : World} (o : Obj) (hz : w'.heap.size = (w.alloc o).heap.size) (hb : Else w.heap.size (w.alloc o) w') : Keeps w.heap.size w w' := by
  have k := Keeps.alloc w o
  exact ⟨by rw [hz]; exact k.1, fun i hi => (hb i (by omega)).trans (k.2 i hi), k.3.trans hb.calm⟩
theorem ne12 (n : Nat) : n + 1 + 1 ≠ n + 1 := by omega
theorem info388b (f : Nat → Oct) : (Tryz.prog.info? 388).map (·.size) = some (arrB 64 f).size := by rw [arrB_size]; exact info388
theorem info195s (l : List Oct) : (Tryz.prog.info? 195).map (·.size) = some (octs (shaF l)).toArray.size := by
  rw [show (octs (shaF l)).toArray.size = 32 by simp [octs, shaF_len]]
  kernel_rfl
theorem z32s (l : List Oct) : z32.size = (octs (shaF l)).toArray.size := by
  rw [show (octs (shaF l)).toArray.size = 32 by simp [octs, shaF_len]]
  rfl
theorem shaF_one (l : List Oct) : (octs (shaF l)).toArray.all (·.oneCell') = true := by
  rw [Array.all_eq_true_iff_forall_mem]
  exact fun v hv => octs_one _ v (by simpa using hv)
structure Mz (w w' : World) : Prop where
  k : Keeps w.heap.size w w'
  z : Cells w' w.heap.size zeros32 195
  a : Cells w' (w.heap.size + 1) z64 388
  b : Cells w' (w.heap.size + 1 + 1) z64 388
theorem Mz.start (w : World) : Mz w (((w.alloc (.cells z32 195)).alloc (.cells z64 388)).alloc (.cells z64 388)) := by
  have s1 : (w.alloc (.cells z32 195)).heap.size = w.heap.size + 1 := by simp
  have s2 : ((w.alloc (.cells z32 195)).alloc (.cells z64 388)).heap.size = w.heap.size + 1 + 1 := by simp
  have k1 := Keeps.alloc w (.cells z32 195)
  have k2 := Keeps.alloc (w.alloc (.cells z32 195)) (.cells z64 388)
  have k3 := Keeps.alloc ((w.alloc (.cells z32 195)).alloc (.cells z64 388)) (.cells z64 388)
  refine ⟨(k1.trans k2 k1.1).trans k3 (by omega), ?_, ?_, ?_⟩
  · exact (Cells.keeps (Cells.keeps (heap_new w zeros32 195) k2) k3)
  · have := heap_new (w.alloc (.cells z32 195)) z64 388
    rw [s1] at this
    exact Cells.keeps this k3
  · have := heap_new ((w.alloc (.cells z32 195)).alloc (.cells z64 388)) z64 388
    rw [s2] at this
    exact this
theorem laid_padK {k : List Oct} (hk : k.length = 32) : laidOver z64 0 k = arrB 64 (padK k) := by
  have e : (octs k ++ z64.toList.drop (0 + k.length)) = (List.range 64).map fun i => Value.int .u8 (padK k i).toNat := by
    refine List.ext_getElem (by simp [octs, hk, z64]) fun i h1 h2 => ?_
    have hi : i < 64 := by simpa using h2
    by_cases h : i < k.length
    · rw [List.getElem_append_left (by simpa [octs] using h)]
      simp [octs, padK, h]
    · rw [List.getElem_append_right (by simpa [octs] using Nat.le_of_not_lt h)]
      have e1 : ∀ j (hj : j < z64.toList.length), z64.toList[j] = .int .u8 0 := fun j hj => List.eq_of_mem_replicate (n := 64) ((show z64.toList = List.replicate 64 (Value.int .u8 0) from rfl) ▸ List.getElem_mem hj)
      simp only [List.getElem_drop, List.getElem_map, List.getElem_range, padK]
      rw [List.getD_eq_getElem?_getD, List.getElem?_eq_none (by omega), e1]
      rfl
  unfold laidOver
  rw [List.take_zero, List.nil_append, e]
  rfl
theorem z64_size : z64.size = 64 := rfl
theorem z64b (f : Nat → Oct) : z64.size = (arrB 64 f).size := by rw [arrB_size]; rfl
theorem xorK_zero (f : Nat → Oct) (c : Oct) : xorK f c 0 = f := by funext i; simp [xorK]
theorem Mi.step {w w1 : World} {f : Nat → Oct} {n : Nat} (h : Mi w w1 f n) (hn : n < 64) : Mi w ((w1.setCell ⟨w.heap.size + 1, n, none⟩ (.int .u8 (f n ^^^ 54#8).toNat)).setCell ⟨w.heap.size + 1 + 1, n, none⟩ (.int .u8 (f n ^^^ 92#8).toNat)) f (n + 1) := by
  have h1 := Blk.set_ (show Blk w1 (w.heap.size + 1) 388 _ from h.a) n (.int .u8 (f n ^^^ 54#8).toNat)
  have h1' := Blk.far h1 (p := ⟨w.heap.size + 1 + 1, n, none⟩) (by simp) (.int .u8 (f n ^^^ 92#8).toNat)
  have h2 := Blk.far (show Blk w1 (w.heap.size + 1 + 1) 388 _ from h.b) (p := ⟨w.heap.size + 1, n, none⟩) (by simp) (.int .u8 (f n ^^^ 54#8).toNat)
  have h2' := Blk.set_ h2 n (.int .u8 (f n ^^^ 92#8).toNat)
  have hs : ∀ i : Nat, i ≠ w.heap.size + 1 → i ≠ w.heap.size + 1 + 1 → ((w1.setCell ⟨w.heap.size + 1, n, none⟩ (.int .u8 (f n ^^^ 54#8).toNat)).setCell ⟨w.heap.size + 1 + 1, n, none⟩ (.int .u8 (f n ^^^ 92#8).toNat)).heap[i]? = w1.heap[i]? := fun i a b => (Below.heap_setCell _ ⟨w.heap.size + 1 + 1, n, none⟩ _ i b).trans (Below.heap_setCell w1 ⟨w.heap.size + 1, n, none⟩ _ i a)
  refine ⟨⟨by simpa using h.k.1, fun i hi => (hs i (by omega) (by omega)).trans (h.k.2 i hi), h.k.3.trans ⟨rfl, rfl⟩⟩, (hs _ (by omega) (by omega)).trans h.z, ?_, ?_⟩
  · have e : xorK f 54#8 (n + 1) n = f n ^^^ 54#8 := by simp [xorK]
    have ea := arrB_set (n := 64) (f := xorK f 54#8 n) (g := xorK f 54#8 (n + 1)) (i := n) fun j _ => by
      unfold xorK
      by_cases e : j = n
      · subst e
        simp
      · rw [if_neg e]
        by_cases e1 : j < n
        · rw [if_pos e1, if_pos (by omega)]
        · rw [if_neg e1, if_neg (by omega)]
    rw [e] at ea
    rw [ea] at h1'
    exact h1'
  · have e : xorK f 92#8 (n + 1) n = f n ^^^ 92#8 := by simp [xorK]
    have ea := arrB_set (n := 64) (f := xorK f 92#8 n) (g := xorK f 92#8 (n + 1)) (i := n) fun j _ => by
      unfold xorK
      by_cases e : j = n
      · subst e
        simp
      · rw [if_neg e]
        by_cases e1 : j < n
        · rw [if_pos e1, if_pos (by omega)]
        · rw [if_neg e1, if_neg (by omega)]
    rw [e] at ea
    rw [ea] at h2'
    exact h2'
set_option maxHeartbeats 2000000 in
theorem sum246 {w : World} {u v : Value} {k l : List Oct} (hT : Laid w) (hu : Src u k w) (hk : k.length = 32) (hv : Src v l w) (hl : l.length ≤ 1024) : Calls Tryz.prog 246 #[u, v] w fun e w' => e = .returned (.agg (octs (macF k l)).toArray) ∧ Keeps w.heap.size w w' := by
  obtain ⟨A, c, rfl⟩ := hu.slice
  rw [hk] at hu ⊢
  have H0 := Mz.start w
  have hR0 : Reads (((w.alloc (.cells z32 195)).alloc (.cells z64 388)).alloc (.cells z64 388)) A k := Src.reads (s := []) (by rw [List.append_nil]; exact hu.later H0.k.1 H0.k.2)
  have hcn : k.length = Nat.min 32 64 := by rw [hk]; rfl
  have hk0 : 0 < k.length := by omega
  have hfit : 0 + k.length ≤ z64.size := by rw [hk]; decide
  go_enter Tryz.func246, Tryz.ntmps246
  go_wp2_with (first
    | (with_reducible refine wpList_copy_src rfl (.tmp 16) (.tmp 17) rfl rfl rfl H0.a hR0 hcn hk0 hfit ?_; intro w4 hg4 hz4 hb4; rw [laid_padK hk] at hg4; have hB4 := Cells.other H0.b hb4 (ne12 _))
    | (with_reducible refine wpList_loadA 388 rfl Tryz.underlying388 rfl (.tmp 6) rfl rfl hg4 (info388b _) ?_)
    | (with_reducible refine wpList_storeA 388 rfl (.tmp 7) (.tmp 19) rfl rfl rfl hB4 (info388b _) (z64b _) (arrB_one _ _) ?_; intro w5 hg5 hz5 hb5))
  have hM : Mi w w5 (padK k) 0 := by
    have hb : ∀ i : Nat, i ≠ w.heap.size + 1 → i ≠ w.heap.size + 1 + 1 → w5.heap[i]? = (((w.alloc (.cells z32 195)).alloc (.cells z64 388)).alloc (.cells z64 388)).heap[i]? := fun i a b => (hb5 i b).trans (hb4 i a)
    refine ⟨⟨?_, fun i hi => (hb i (by omega) (by omega)).trans (H0.k.2 i hi), H0.k.3.trans (hb4.calm.trans hb5.calm)⟩, (hb _ (by omega) (by omega)).trans H0.z, ?_, ?_⟩
    · rw [hz5, hz4]
      exact H0.k.1
    · rw [xorK_zero]
      exact (hb5 _ (by omega)).trans hg4
    · rw [xorK_zero]
      exact hg5
  clear hg4 hz4 hb4 hB4 hg5 hz5 hb5 H0 hR0 hcn hk0 hfit
  try simp only [Act.put, List.setIfInBounds_toArray, List.set_cons_zero, List.set_cons_succ]
  go_wp2_with fail
  go_loopw [20] (fun x w' => ∃ n : Nat, n ≤ 64 ∧ x = .int .i64 n ∧ Mi w w' (padK k) n) (fun x _ => 64 - (intOfV x).toNat)
  case atStart => exact ⟨0, by omega, rfl, hM⟩
  case round =>
    clear hM
    obtain ⟨n, hn, rfl, hM⟩ := hrel
    by_cases hn64 : n < 64
    · have hc1 : wr.cell? ⟨w.heap.size + 1, n, none⟩ = some (.int .u8 (padK k n).toNat) := by rw [hM.a.cell, arrB_get hn64]; simp [xorK]
      have hf1 : wr.frozen? ⟨w.heap.size + 1, n, none⟩ = false := Blk.frozen (show Blk wr (w.heap.size + 1) 388 _ from hM.a) n
      have hc2 : ∀ u, (wr.setCell ⟨w.heap.size + 1, n, none⟩ u).cell? ⟨w.heap.size + 1 + 1, n, none⟩ = some (.int .u8 (padK k n).toNat) := fun u => by
        rw [cell_same (Below.heap_setCell wr ⟨w.heap.size + 1, n, none⟩ u (w.heap.size + 1 + 1) (by simp)), hM.b.cell, arrB_get hn64]
        simp [xorK]
      have hf2 : ∀ u, (wr.setCell ⟨w.heap.size + 1, n, none⟩ u).frozen? ⟨w.heap.size + 1 + 1, n, none⟩ = false := fun u => Blk.frozen (Blk.far (show Blk wr (w.heap.size + 1 + 1) 388 _ from hM.b) (p := ⟨w.heap.size + 1, n, none⟩) (by simp) u) n
      have x1 := xor54 (padK k n)
      have x2 := xor92 (padK k n)
      go_wp2
      refine ⟨⟨n + 1, by omega, by go_num, hM.step hn64⟩, ?_⟩
      simp only [intOfV]
      omega
    · obtain rfl : n = 64 := by omega
      have hS1 : Src (.slice (some ⟨w.heap.size + 1, 0, none⟩) 64 64) (pieceK k 54#8) wr := arrB_src hM.a (Nat.le_refl _)
      have hS2 : Src v l wr := hv.later hM.k.1 hM.k.2
      obtain ⟨A2, c2, rfl⟩ := hv.slice
      have hp1 : (pieceK k 54#8).length ≤ 4096 := by rw [pieceK_len]; decide
      have hp0 : 0 < (pieceK k 54#8).length := by rw [pieceK_len]; decide
      have hl4 : l.length ≤ 4096 := by omega
      have hpl : (pieceK k 54#8 ++ l).length ≤ 2048 := by rw [List.length_append, pieceK_len]; omega
      go_wp2_with (first
        | (go_at_call 100; (with_reducible refine (concatNew2 hS1 hS2 hp1 hl4 (Nat.lt_of_lt_of_le hp0 (Nat.le_add_right _ _))).mono ?_); rintro e w6 ⟨v6, rfl, o6, k6⟩; have hM6 := hM.later k6)
        | (go_at_call 289; (with_reducible refine (hash289 (hT.keeps hM6.k.2) o6.rowB.src hpl).mono ?_); rintro e w7 ⟨rfl, k7⟩; have hM7 := hM6.later k7; have hC7 : Cells (w7.alloc (.cells z32 195)) w7.heap.size z32 195 := heap_new w7 z32 195)
        | (with_reducible refine wpList_storeA 195 rfl (.tmp 9) (.tmp 38) rfl rfl rfl hC7 (info195s _) (z32s _) (shaF_one _) ?_; intro w8 hc8 hz8 hb8))
      have hl2 : (shaF (pieceK k 54#8 ++ l)).length = 32 := shaF_len _
      have k8 := Keeps.allocStore _ hz8 hb8
      have hM8 := hM7.later k8
      clear hS1 hS2 hM6 hM7 hC7 hz8 hb8 k8 k6 k7 o6 hp1 hp0 hpl
      obtain ⟨S, hS⟩ : ∃ S, S = shaF (pieceK k 54#8 ++ l) := ⟨_, rfl⟩
      rw [← hS] at hc8 hl2
      rw [← hS]
      replace hS := Lib.hid hS
      simp only [Act.put]
      refine wp_region_begin (by kernel_rfl) ?_
      have kd : Keeps w8.heap.size w8 w8.drew := ⟨Nat.le_refl _, fun _ _ => rfl, rfl, rfl⟩
      have hM8 := hM8.later kd
      have hc8 := hc8.keeps kd
      generalize w8.drew = wd at hM8 hc8 ⊢
      clear kd
      refine wpAny_take (i := 0) (oi := ?_) (v := ?_) ?_ (by kernel_rfl) (by kernel_rfl) (by kernel_rfl) ?_ ?_ ?_
      rotate_left 2
      · simp only [List.getElem?_toArray, List.getElem?_cons_zero, List.getElem?_cons_succ]
        with_reducible rfl
      · exact fun _ _ _ q => q
      · (refine Or.inl ⟨?_, ?_⟩; rfl; intro w; go_simp; with_reducible rfl)
      simp only [Act.put, List.setIfInBounds_toArray, List.set_cons_zero, List.set_cons_succ]
      refine wpAny_take (i := 1) (oi := ?_) (v := ?_) ?_ (by kernel_rfl) (by kernel_rfl) (by kernel_rfl) ?_ ?_ ?_
      rotate_left 2
      · simp only [List.getElem?_toArray, List.getElem?_cons_zero, List.getElem?_cons_succ]
        with_reducible rfl
      · exact fun _ _ _ q => q
      · (refine Or.inl ⟨?_, ?_⟩; rfl; intro w; go_simp; with_reducible rfl)
      simp only [Act.put, List.setIfInBounds_toArray, List.set_cons_zero, List.set_cons_succ]
      refine wpAny_ready (rs := [2]) (by kernel_rfl) (by simp) ?_
      refine AllReady.cons (o := ?_) ?_ (fun K hK => ?_) AllReady.nil
      rotate_left 1
      · simp only [List.getElem?_toArray, List.getElem?_cons_zero, List.getElem?_cons_succ]
        with_reducible rfl
      go_simp
      refine hK _ _ ?_
      clear hK K
      have hq1 : Src (.slice (some ⟨w.heap.size + 1 + 1, 0, none⟩) 64 64) (pieceK k 92#8) wd := arrB_src hM8.b (Nat.le_refl _)
      have hq2 := cells_src hc8 hl2
      have hp1 : (pieceK k 92#8).length ≤ 4096 := by rw [pieceK_len]; decide
      have hp0 : 0 < (pieceK k 92#8).length := by rw [pieceK_len]; decide
      have hl5 : S.length ≤ 4096 := by omega
      have hpl : (pieceK k 92#8 ++ S).length ≤ 2048 := by rw [List.length_append, pieceK_len]; omega
      try simp only [Act.put, List.setIfInBounds_toArray, List.set_cons_zero, List.set_cons_succ]
      refine wpAny_ready (rs := [3]) (by kernel_rfl) (by simp) ?_
      refine AllReady.cons (o := ?_) ?_ (fun K hK => ?_) AllReady.nil
      rotate_left 1
      · simp only [List.getElem?_toArray, List.getElem?_cons_zero, List.getElem?_cons_succ]
        with_reducible rfl
      go_simp
      go_at_call 100
      refine (concatNew2 hq1 hq2 hp1 hl5 (Nat.lt_of_lt_of_le hp0 (Nat.le_add_right _ _))).mono ?_
      rintro e w9 ⟨v9, rfl, o9, k9⟩
      have hM9 := hM8.later k9
      refine hK _ _ ?_
      clear hK K
      try simp only [Act.put, List.setIfInBounds_toArray, List.set_cons_zero, List.set_cons_succ]
      refine wpAny_ready (rs := [4]) (by kernel_rfl) (by simp) ?_
      refine AllReady.cons (o := ?_) ?_ (fun K hK => ?_) AllReady.nil
      rotate_left 1
      · simp only [List.getElem?_toArray, List.getElem?_cons_zero, List.getElem?_cons_succ]
        with_reducible rfl
      go_simp
      go_at_call 289
      refine (hash289 (hT.keeps hM9.k.2) o9.rowB.src hpl).mono ?_
      rintro e w10 ⟨rfl, k10⟩
      have hM10 := hM9.later k10
      refine hK _ _ ?_
      clear hK K
      refine wpAny_ready (rs := [5]) (by kernel_rfl) (by simp) ?_
      refine AllReady.cons (o := ?_) ?_ (fun K hK => ?_) AllReady.nil
      rotate_left 1
      · simp only [List.getElem?_toArray, List.getElem?_cons_zero, List.getElem?_cons_succ]
        with_reducible rfl
      refine step_storeB 195 rfl (.tmp 4) (.tmp 43) rfl rfl rfl hM10.z (info195s _) (z32s _) (shaF_one _) ?_
      intro w11 hc11 hz11 hb11
      refine hK _ _ ?_
      clear hK K
      refine wpAny_done (by kernel_rfl) ?_ _
      go_wp2_with fail
      have hS := hS.out
      subst hS
      refine bodyPost_ret (results_cell_row rfl _ _ w.heap.size _ _ (0, 0) _ rfl hc11 Tryz.underlying195 rfl (info195s _)) rfl ⟨rfl, ⟨by rw [hz11]; exact hM10.k.1, fun i hi => (hb11 i (by omega)).trans (hM10.k.2 i hi), hM10.k.3.trans hb11.calm⟩⟩
end Go.Proofs.YtlpbbihjnmikkaaGreatDoor.Exe

namespace Go.Proofs.YtlpbbihjnmikkaaGreatDoor.Exe
set_option linter.unusedSimpArgs false
set_option linter.unusedVariables false
set_option maxRecDepth 100000
open Go.RowKit

theorem bytesFor_le {w : Word} : ∀ (n : Nat) {j : Nat} {h : Heap D} {nx r wr : Nat} {l : List Cell} {h' : Heap D} {nx' r' w' : Nat}, bytesFor w n j h nx r wr = .ok l h' nx' r' w' → nx ≤ nx'
  | 0, j, h, nx, r, wr, l, h', nx', r', w', he => by cases he; exact Nat.le_refl _
  | n + 1, j, h, nx, r, wr, l, h', nx', r', w', he => by
    have he : (M.bind (new (.data (.byte w j))) fun k => M.bind (bytesFor w n (j + 1)) fun l => M.ret (.tok k :: l) : M D (List Cell)) h nx r wr = .ok l h' nx' r' w' := he
    obtain ⟨k, h1, n1, r1, w1, e1, e2⟩ := bind_ok he
    obtain ⟨hk3, rfl, rfl, rfl, rfl, rfl⟩ := new_ok e1
    obtain ⟨l1, h2, n2, r2, w2, e3, e4⟩ := bind_ok e2
    cases e4
    have := bytesFor_le n e3
    omega
/-- The bytes of a word, from one on. -/
theorem bytesFor_ok {C : Ciph} {P : Program} {w : Word} : ∀ (n : Nat) {j : Nat} {h : Heap D} {nx r wr : Nat} {l : List Cell} {h' : Heap D} {nx' r' w' : Nat} {ν : Nu} {W : World}, bytesFor w n j h nx r wr = .ok l h' nx' r' w' → j + n ≤ (byt C w).length → Ok P (lore C) ν h W → Fresh ν nx nx' →
    nx ≤ nx' ∧ ∃ ν', Ext ν ν' nx nx' ∧ Ok P (lore C) ν' h' W ∧ RepL ν' l (octs (((byt C w).drop j).take n))
  | 0, j, h, nx, r, wr, l, h', nx', r', w', ν, W, he, hj, hok, hf => by
    cases he
    exact ⟨Nat.le_refl _, ν, Ext.refl _ _, hok, by rw [List.take_zero]; exact .nil⟩
  | n + 1, j, h, nx, r, wr, l, h', nx', r', w', ν, W, he, hj, hok, hf => by
    have he : (M.bind (new (.data (.byte w j))) fun k => M.bind (bytesFor w n (j + 1)) fun l => M.ret (.tok k :: l) : M D (List Cell)) h nx r wr = .ok l h' nx' r' w' := he
    obtain ⟨k, h1, n1, r1, w1, e1, e2⟩ := bind_ok he
    obtain ⟨hk3, rfl, rfl, rfl, rfl, rfl⟩ := new_ok e1
    obtain ⟨l1, h2, n2, r2, w2, e3, e4⟩ := bind_ok e2
    cases e4
    have hj1 : j < (byt C w).length := by omega
    -- how far the names go
    have hle : k + 1 ≤ nx' := bytesFor_le n e3
    have hk := hf k (Nat.le_refl _) (by omega)
    have hok1 := hok.token' hk hk3 (d := .byte w j) (u := .int .u8 ((byt C w)[j]'hj1).toNat) (s := fun _ => False) ⟨nobody_no, nobody_no, _, List.getElem?_eq_getElem hj1, rfl⟩ (fun _ h => h.elim)
    obtain ⟨_, ν', g1, g2, g3⟩ := bytesFor_ok n e3 (by omega) hok1 (hf.right (Nat.le_succ _) (Ext.set hk _))
    refine ⟨by omega, ν', Ext.trans (Nat.le_succ _) hle (Ext.set hk _) g1, g2, ?_⟩
    rw [List.drop_eq_getElem_cons hj1, List.take_succ_cons]
    exact .cons (.tok (g1.sub _ _ (Nu.set_same _ _ _)) rfl) g3
/-- All the bytes of a word of 32. -/
theorem bytes32_ok {C : Ciph} {P : Program} {w : Word} {h : Heap D} {nx r wr : Nat} {l : List Cell} {h' : Heap D} {nx' r' w' : Nat} {ν : Nu} {W : World} (he : bytesFor w 32 0 h nx r wr = .ok l h' nx' r' w') (hl : (byt C w).length = 32) (hok : Ok P (lore C) ν h W) (hf : Fresh ν nx nx') :
    ∃ ν', Ext ν ν' nx nx' ∧ Ok P (lore C) ν' h' W ∧ RepL ν' l (octs (byt C w)) := by
  obtain ⟨_, ν', g1, g2, g3⟩ := bytesFor_ok 32 he (by omega) hok hf
  rw [List.drop_zero, List.take_of_length_le (by omega)] at g3
  exact ⟨ν', g1, g2, g3⟩
end Go.Proofs.YtlpbbihjnmikkaaGreatDoor.Exe
