/-
  THE WALKS of layer 1: each function of the octets, and of their reference, computes what the plain functions of YthjigmfooobfmabOctF say.
-/
import Derived.Test.YthjigmfooobfmabProg
import Derived.Test.YthjigmfooobfmabOctF
import Derived.WalkKit
import Derived.WalkSpells
import Derived.WalkLawsBesides
import Derived.Laws.BitsAllLaws
import Derived.Deep.QuietTactic
import Derived.BigQuiet
import Derived.Lib.Hide
namespace Go.Proofs.Ythjigmfooobfmab
open Go.RowKit Gf

theorem bits_xor8 (x y : B8) : bits .xor .u8 (x.toNat : Int) (y.toNat : Int) = ((x ^^^ y).toNat : Int) := by
  rw [u8_xor_nat _ _ x.isLt y.isLt, BitVec.toNat_xor]
theorem bits_and8 (x y : B8) : bits .and .u8 (x.toNat : Int) (y.toNat : Int) = ((x &&& y).toNat : Int) := by
  rw [u8_and_nat _ _ x.isLt y.isLt, BitVec.toNat_and]
theorem bits_or8 (x y : B8) : bits .or .u8 (x.toNat : Int) (y.toNat : Int) = ((x ||| y).toNat : Int) := by
  rw [u8_or_nat _ _ x.isLt y.isLt, BitVec.toNat_or]

theorem neg8 (x : B8) : -(x.toNat : Int) % (256 : Int) = ((-x).toNat : Int) := by
  have h := x.isLt
  rw [BitVec.toNat_neg]
  omega
theorem half8 (x : B8) : (x.toNat : Int) / (2 : Int) = ((x >>> 1).toNat : Int) := by
  rw [BitVec.toNat_ushiftRight, Nat.shiftRight_eq_div_pow]
  omega
theorem shr7 (x : B8) : (x.toNat : Int) / (128 : Int) = ((x >>> 7).toNat : Int) := by
  rw [BitVec.toNat_ushiftRight, Nat.shiftRight_eq_div_pow]
  omega
theorem dbl8 (x : B8) : (x.toNat : Int) * (2 : Int) % (256 : Int) = ((x <<< 1).toNat : Int) := by
  rw [BitVec.toNat_shiftLeft, Nat.shiftLeft_eq]
  omega
theorem c27 : (27 : Int) = ((27#8).toNat : Int) := rfl
theorem c1 : (1 : Int) = ((1#8).toNat : Int) := rfl
theorem c0 : (0 : Int) = ((0#8).toNat : Int) := rfl
theorem ret8 {x y : Int} (h : x = y) : Ending.returned (.int .u8 x) = Ending.returned (.int .u8 y) := by rw [h]
theorem val8 {x y : Int} (h : x = y) : Value.int .u8 x = Value.int .u8 y := by rw [h]

theorem t2_val (a : B8) : bits .xor .u8 ((a.toNat : Int) * 2 % 256) (bits .and .u8 27 (-((a.toNat : Int) / 128) % 256)) = ((t2 a).toNat : Int) := by
  rw [shr7, neg8, dbl8, c27, bits_and8, bits_xor8]; rfl

set_option maxHeartbeats 400000 in
theorem times2_any (a : B8) (w : World) :
    Calls Try.prog 25 #[.int .u8 a.toNat] w fun e w' => e = .returned (.int .u8 (t2 a).toNat) ∧ w = w' := by
  have ha := a.isLt
  go_enter Try.func25, Try.ntmps25
  go_wp2
  go_ret
  exact ⟨ret8 (t2_val a), rfl⟩

/-- One round of the code's product. -/
theorem mul_round (a b : B8) (k : Nat) :
    bits .xor .u8 ((mulTo a b k).toNat : Int) (bits .and .u8 ((pw t2 k a).toNat : Int) (-(bits .and .u8 ((b >>> k).toNat : Int) 1) % 256)) = ((mulTo a b (k + 1)).toNat : Int) := by
  rw [c1, bits_and8, neg8, bits_and8, bits_xor8]
  congr 2
  show _ = mulTo a b k ^^^ sel (b.getLsbD k) (pw t2 k a)
  congr 1
  have e : (b >>> k) &&& 1#8 = sel (b.getLsbD k) 1#8 := by
    have h1 : ∀ x : B8, x &&& 1#8 = sel (x.getLsbD 0) 1#8 := fun x => eq_of_beq (allB (fun x => x &&& 1#8 == sel (x.getLsbD 0) 1#8) (by decide +kernel) x)
    rw [h1, BitVec.getLsbD_ushiftRight]; rfl
  rw [e]
  cases b.getLsbD k
  · show pw t2 k a &&& -(0#8) = 0#8
    simp
  · show pw t2 k a &&& -(1#8) = pw t2 k a
    have : -(1#8) = BitVec.allOnes 8 := by decide
    rw [this, BitVec.and_allOnes]
theorem shr_succ (b : B8) (k : Nat) : ((b >>> k).toNat : Int) / (2 : Int) = ((b >>> (k + 1)).toNat : Int) := by
  rw [half8, ← BitVec.shiftRight_add]


/-- The world is the old one, some orders having been drawn. -/
structure Drew (w w' : World) : Prop where
  out : ∃ n, w' = w.drewN n
theorem Drew.refl (w : World) : Drew w w := ⟨⟨0, rfl⟩⟩
theorem Drew.step {w w' : World} (h : Drew w w') (n : Nat) : Drew w (w'.drewN n) := by
  obtain ⟨m, rfl⟩ := h
  exact ⟨⟨m + n, World.drewN_drewN ..⟩⟩
theorem Drew.trans {w w1 w2 : World} (h : Drew w w1) (g : Drew w1 w2) : Drew w w2 := by
  obtain ⟨n, rfl⟩ := g
  exact h.step n
theorem Drew.below {w w' : World} (h : Drew w w') : Below w.heap.size w w' := by
  obtain ⟨n, rfl⟩ := h
  induction n with
  | zero => exact Below.refl _ _
  | succ n ih => rw [← World.drew_drewN]; exact ih.drew

/-! ### the reference -/
theorem shrN (x : B8) (k : Nat) : (x.toNat : Int) / (2 : Int) ^ k = ((x >>> k).toNat : Int) := by
  rw [BitVec.toNat_ushiftRight, Nat.shiftRight_eq_div_pow]
  simp
theorem and_one (x : B8) : x &&& 1#8 = sel (x.getLsbD 0) 1#8 := eq_of_beq (allB (fun x => x &&& 1#8 == sel (x.getLsbD 0) 1#8) (by decide +kernel) x)
theorem bit_asked (b : B8) (k : Nat) : (bits .and .u8 ((b.toNat : Int) / (2 : Int) ^ k) 1 == 1) = b.getLsbD k := by
  rw [shrN, c1, bits_and8, and_one, BitVec.getLsbD_ushiftRight, Nat.add_zero]
  cases b.getLsbD k <;> rfl
theorem bits_xor64 (x y : BitVec 16) : bits .xor .i64 (x.toNat : Int) (y.toNat : Int) = ((x ^^^ y).toNat : Int) := by
  have hx := x.isLt
  have hy := y.isLt
  have h := (x ^^^ y).isLt
  have ha : x.toNat % 2 ^ 64 = x.toNat := Nat.mod_eq_of_lt (by omega)
  have hb : y.toNat % 2 ^ 64 = y.toNat := Nat.mod_eq_of_lt (by omega)
  rw [BitVec.toNat_xor] at h ⊢
  show IntKind.i64.wrap ((BitVec.ofInt 64 (x.toNat : Int) ^^^ BitVec.ofInt 64 (y.toNat : Int)).toNat : Int) = _
  rw [BitVec.ofInt_natCast, BitVec.ofInt_natCast, BitVec.toNat_xor, BitVec.toNat_ofNat, BitVec.toNat_ofNat, ha, hb, IntKind.wrap_i64]
  omega
theorem shl_a (a : B8) (k : Nat) (hk : k < 8) : wrap64 ((a.toNat : Int) * (2 : Int) ^ k) = (((a.setWidth 16) <<< k).toNat : Int) := by
  have ha := a.isLt
  have hp : 2 ^ k < 2 ^ 8 := Nat.pow_lt_pow_right (by decide) hk
  have hm : a.toNat * 2 ^ k < 2 ^ 16 := by
    have := Nat.mul_lt_mul'' ha hp
    omega
  have e : ((a.setWidth 16) <<< k).toNat = a.toNat * 2 ^ k := by
    rw [BitVec.toNat_shiftLeft, BitVec.toNat_setWidth, Nat.shiftLeft_eq, Nat.mod_eq_of_lt (show a.toNat < 2 ^ 16 by omega), Nat.mod_eq_of_lt hm]
  have e2 : (a.toNat : Int) * (2 : Int) ^ k = ((a.toNat * 2 ^ k : Nat) : Int) := by simp
  rw [e, e2]
  unfold wrap64
  omega
theorem cl_yes (a b : B8) (k : Nat) (hk : k < 8) (h : b.getLsbD k = true) :
    bits .xor .i64 ((clTo a b k).toNat : Int) (wrap64 ((a.toNat : Int) * (2 : Int) ^ k)) = ((clTo a b (k + 1)).toNat : Int) := by
  rw [shl_a a k hk, bits_xor64]
  show _ = ((clTo a b k ^^^ sel (b.getLsbD k) ((a.setWidth 16) <<< k)).toNat : Int)
  rw [h]; rfl
theorem cl_no (a b : B8) (k : Nat) (h : b.getLsbD k = false) : ((clTo a b k).toNat : Int) = ((clTo a b (k + 1)).toNat : Int) := by
  show _ = ((clTo a b k ^^^ sel (b.getLsbD k) ((a.setWidth 16) <<< k)).toNat : Int)
  rw [h]; simp [sel]

theorem shrN16 (x : BitVec 16) (k : Nat) : (x.toNat : Int) / (2 : Int) ^ k = ((x >>> k).toNat : Int) := by
  rw [BitVec.toNat_ushiftRight, Nat.shiftRight_eq_div_pow]
  simp
theorem bits_and64_one (x : BitVec 16) : bits .and .i64 (x.toNat : Int) 1 = if x.getLsbD 0 then 1 else 0 := by
  have hx := x.isLt
  have ha : x.toNat % 2 ^ 64 = x.toNat := Nat.mod_eq_of_lt (by omega)
  have e : x.toNat &&& 1 = x.toNat % 2 := nat_mask1 _
  show IntKind.i64.wrap ((BitVec.ofInt 64 (x.toNat : Int) &&& BitVec.ofInt 64 ((1 : Nat) : Int)).toNat : Int) = _
  rw [BitVec.ofInt_natCast, BitVec.ofInt_natCast, BitVec.toNat_and, BitVec.toNat_ofNat, BitVec.toNat_ofNat, ha, show 1 % 2 ^ 64 = 1 from rfl, e, IntKind.wrap_i64, BitVec.getLsbD, Nat.testBit_zero]
  by_cases h : x.toNat % 2 = 1
  · simp [h]
  · have h0 : x.toNat % 2 = 0 := by omega
    simp [h0]
theorem bit_asked16 (x : BitVec 16) (k : Nat) : (bits .and .i64 ((x.toNat : Int) / (2 : Int) ^ k) 1 == 1) = x.getLsbD k := by
  rw [shrN16, bits_and64_one, BitVec.getLsbD_ushiftRight, Nat.add_zero]
  cases x.getLsbD k <;> rfl
theorem red_yes (t : BitVec 16) (k : Nat) (hk : k < 7) (h : (redTo t k).getLsbD (14 - k) = true) :
    bits .xor .i64 ((redTo t k).toNat : Int) (wrap64 (283 * (2 : Int) ^ (6 - k))) = ((redTo t (k + 1)).toNat : Int) := by
  have e : wrap64 (283 * (2 : Int) ^ (6 - k)) = ((0x11b#16 <<< (6 - k)).toNat : Int) := by
    rcases (by omega : k = 0 ∨ k = 1 ∨ k = 2 ∨ k = 3 ∨ k = 4 ∨ k = 5 ∨ k = 6) with rfl | rfl | rfl | rfl | rfl | rfl | rfl <;> decide +kernel
  rw [e, bits_xor64]
  show _ = ((redTo t k ^^^ sel ((redTo t k).getLsbD (8 + (6 - k))) (0x11b#16 <<< (6 - k))).toNat : Int)
  rw [show 8 + (6 - k) = 14 - k by omega, h]; rfl
theorem red_no (t : BitVec 16) (k : Nat) (hk : k < 7) (h : (redTo t k).getLsbD (14 - k) = false) : ((redTo t k).toNat : Int) = ((redTo t (k + 1)).toNat : Int) := by
  show _ = ((redTo t k ^^^ sel ((redTo t k).getLsbD (8 + (6 - k))) (0x11b#16 <<< (6 - k))).toNat : Int)
  rw [show 8 + (6 - k) = 14 - k by omega, h]; simp [sel]
theorem val64 {x y : Int} (h : x = y) : Value.int .i64 x = Value.int .i64 y := by rw [h]

set_option maxHeartbeats 400000 in
theorem refMul_any (a b : B8) (w : World) :
    Calls Try.prog 27 #[.int .u8 a.toNat, .int .u8 b.toNat] w fun e w' => e = .returned (.int .u8 (mul8 a b).toNat) ∧ w = w' := by
  go_enter Try.func27, Try.ntmps27
  go_wp2
  go_loop [5, 6] (fun t i => ∃ k : Nat, k ≤ 8 ∧ i = .int .i64 k ∧ t = .int .i64 (clTo a b k).toNat) (fun _ i => 8 - (intOf i).toNat)
  case atStart => exact ⟨0, by omega, rfl, rfl⟩
  case round =>
    obtain ⟨k, hk, rfl, rfl⟩ := hrel
    have h1 := (clTo a b k).isLt
    have ha := a.isLt
    by_cases hlt : k < 8
    · have hbit := bit_asked b k
      cases hg : b.getLsbD k
      · rw [hg] at hbit
        have HS := cl_no a b k hg
        have HH := Lib.hid HS
        clear HS hg
        go_wp2
        go_round
        case rel => exact ⟨k + 1, by omega, by go_num, val64 HH.out⟩
        case measure => simp [intOf]; omega
      · rw [hg] at hbit
        have HS := cl_yes a b k hlt hg
        have HH := Lib.hid HS
        clear HS hg
        go_wp2
        go_round
        case rel => exact ⟨k + 1, by omega, by go_num, val64 HH.out⟩
        case measure => simp [intOf]; omega
    · obtain rfl : k = 8 := by omega
      go_wp2
      go_loop [5, 7] (fun t i => ∃ k : Nat, k ≤ 7 ∧ i = .int .i64 (14 - (k : Int)) ∧ t = .int .i64 (redTo (clTo a b 8) k).toNat) (fun _ i => (intOf i).toNat)
      case atStart => exact ⟨0, by omega, rfl, rfl⟩
      case round =>
        obtain ⟨k, hk, rfl, rfl⟩ := hrel
        have h1 := (redTo (clTo a b 8) k).isLt
        by_cases hlt : k < 7
        · have hbit := bit_asked16 (redTo (clTo a b 8) k) (14 - k)
          have en : (14 - (k : Int)).toNat = 14 - k := by omega
          have e8 : (14 - (k : Int) - 8).toNat = 6 - k := by omega
          cases hg : (redTo (clTo a b 8) k).getLsbD (14 - k)
          · rw [hg] at hbit
            have HH := Lib.hid (red_no (clTo a b 8) k hlt hg)
            clear hg
            go_wp2
            go_round
            case rel => exact ⟨k + 1, by omega, val64 (by omega), val64 HH.out⟩
            case measure => simp [intOf]; omega
          · rw [hg] at hbit
            have HH := Lib.hid (red_yes (clTo a b 8) k hlt hg)
            clear hg
            go_wp2
            go_round
            case rel => exact ⟨k + 1, by omega, val64 (by omega), val64 HH.out⟩
            case measure => simp [intOf]; omega
        · obtain rfl : k = 7 := by omega
          go_wp2
          go_ret
          exact ⟨ret8 (by rw [← refMul_eq, refMul, BitVec.toNat_setWidth]; rfl), rfl⟩

set_option maxHeartbeats 400000 in
theorem refInvert_any (a : B8) (w : World) :
    Calls Try.prog 35 #[.int .u8 a.toNat] w fun e w' => e = .returned (.int .u8 (inv8 a).toNat) ∧ w = w' := by
  go_enter Try.func35, Try.ntmps35
  go_wp2
  go_loop [3, 4, 5] (fun o x i => ∃ k : Nat, k ≤ 7 ∧ i = .int .i64 (k + 1) ∧ x = .int .u8 (invTo a k).1.toNat ∧ o = .int .u8 (invTo a k).2.toNat) (fun _ _ i => 8 - (intOf i).toNat)
  case atStart => exact ⟨0, by omega, rfl, rfl, rfl⟩
  case round =>
    obtain ⟨k, hk, rfl, rfl, rfl⟩ := hrel
    by_cases hlt : k < 7
    · go_wp2_with fail
      refine (refMul_any _ _ _).mono ?_
      rintro e w' ⟨rfl, rfl⟩
      go_wp2_with fail
      refine (refMul_any _ _ _).mono ?_
      rintro e w' ⟨rfl, rfl⟩
      go_wp2_with fail
      go_round
      case rel => exact ⟨k + 1, by omega, by go_num, rfl, rfl⟩
      case measure => simp [intOf]; omega
    · obtain rfl : k = 7 := by omega
      go_wp2
      go_ret
      exact ⟨rfl, rfl⟩

theorem c99 : (99 : Int) = ((99#8).toNat : Int) := rfl
theorem shlN (x : B8) (k : Nat) : (x.toNat : Int) * (2 : Int) ^ k % (256 : Int) = ((x <<< k).toNat : Int) := by
  rw [BitVec.toNat_shiftLeft, Nat.shiftLeft_eq]
  simp
theorem box_round (b : B8) (k : Nat) :
    bits .or .u8 ((boxTo b k).toNat : Int) (bits .and .u8 (bits .xor .u8 (bits .xor .u8 (bits .xor .u8 (bits .xor .u8 (bits .xor .u8 (99 / (2 : Int) ^ k) ((b.toNat : Int) / (2 : Int) ^ k))
      ((b.toNat : Int) / (2 : Int) ^ ((k + 4) % 8))) ((b.toNat : Int) / (2 : Int) ^ ((k + 5) % 8))) ((b.toNat : Int) / (2 : Int) ^ ((k + 6) % 8))) ((b.toNat : Int) / (2 : Int) ^ ((k + 7) % 8))) 1 * (2 : Int) ^ k % (256 : Int))
      = ((boxTo b (k + 1)).toNat : Int) := by
  rw [c99, c1, shrN, shrN, shrN, shrN, shrN, shrN, bits_xor8, bits_xor8, bits_xor8, bits_xor8, bits_xor8, bits_and8, shlN, bits_or8]
  rfl

set_option maxHeartbeats 400000 in
theorem refBox_any (a : B8) (w : World) :
    Calls Try.prog 26 #[.int .u8 a.toNat] w fun e w' => e = .returned (.int .u8 (box8 a).toNat) ∧ Drew w w' := by
  go_enter Try.func26, Try.ntmps26
  go_wp2_with (go_at_call 35; refine (refInvert_any _ _).mono ?_; rintro e w' ⟨rfl, rfl⟩)
  go_loopw [4, 5, 6] (fun o i _ w' => ∃ k : Nat, k ≤ 8 ∧ i = .int .i64 k ∧ o = .int .u8 (boxTo (inv8 a) k).toNat ∧ Drew w w') (fun _ i _ _ => 8 - (intOf i).toNat)
  case atStart => exact ⟨0, by omega, rfl, rfl, Drew.refl _⟩
  case round =>
    obtain ⟨k, hk, rfl, rfl, hd⟩ := hrel
    have h1 := (boxTo (inv8 a) k).isLt
    have h2 := (inv8 a).isLt
    by_cases hlt : k < 8
    · go_wp2
      go_quiet (fail)
      go_wp2
      exact ⟨⟨k + 1, by omega, by go_num, val8 (box_round _ _), hd.step _⟩, by simp [intOf]; omega⟩
    · obtain rfl : k = 8 := by omega
      go_wp2
      go_ret
      exact ⟨ret8 (by rw [box_eq]; rfl), hd⟩

/-! ### the box -/
def boxArr : ByteArray := ⟨(boxBytes.map UInt8.ofNat).toArray⟩
def boxArrOk (a : B8) : Bool := if h : a.toNat < boxArr.size then (boxArr[a.toNat]'h).toNat == (box8 a).toNat else false
theorem boxArr_table : (List.range 256).all (fun i => boxArrOk (BitVec.ofNat 8 i)) = true := by decide +kernel
theorem boxArr_val (a : B8) (h : a.toNat < boxArr.size) : ((boxArr[a.toNat]'h).toNat : Int) = ((box8 a).toNat : Int) := by
  have := allB boxArrOk boxArr_table a
  unfold boxArrOk at this
  rw [dif_pos h] at this
  rw [eq_of_beq this]
set_option maxRecDepth 100000 in
set_option maxHeartbeats 400000 in
theorem box_any (a : B8) (w : World) :
    Calls Try.prog 28 #[.int .u8 a.toNat] w fun e w' => e = .returned (.int .u8 (box8 a).toNat) ∧ w = w' := by
  have ha := a.isLt
  go_enter Try.func28, Try.ntmps28
  go_wp2_with fail
  go_ret
  exact ⟨ret8 (boxArr_val a (show a.toNat < 256 from ha)), rfl⟩

end Go.Proofs.Ythjigmfooobfmab
