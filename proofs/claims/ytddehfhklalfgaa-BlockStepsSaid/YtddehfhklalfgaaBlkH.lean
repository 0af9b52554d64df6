/-
  THE WALKS of block.halves, block.whole, and of the reference's bit.
-/
import Derived.Test.YtddehfhklalfgaaBlkX
namespace Go.Proofs.Ytddehfhklalfgaa
open Go.RowKit Gf

theorem wrap_u64 (n : Int) : IntKind.u64.wrap n = n % 18446744073709551616 := by simp [IntKind.wrap, IntKind.bits, IntKind.signed]
theorem valu64 {x y : Int} (h : x = y) : Value.int .u64 x = Value.int .u64 y := by rw [h]
theorem word_step (f : Bf) (o k : Nat) : bits .or .u64 (IntKind.u64.wrap (((wordTo f o k).toNat : Int) * (256 : Int))) ((f (o + k)).toNat : Int) = ((wordTo f o (k + 1)).toNat : Int) := by
  have h := (f (o + k)).isLt
  have e : IntKind.u64.wrap (((wordTo f o k).toNat : Int) * (256 : Int)) = ((wordTo f o k <<< 8).toNat : Int) := by
    rw [wrap_u64, BitVec.toNat_shiftLeft, Nat.shiftLeft_eq]
    omega
  have e2 : ((f (o + k)).toNat : Int) = (((f (o + k)).setWidth 64 : B64).toNat : Int) := by
    rw [BitVec.toNat_setWidth, Nat.mod_eq_of_lt (by omega)]
  rw [e, e2, u64_or_nat _ _ (wordTo f o k <<< 8).isLt ((f (o + k)).setWidth 64 : B64).isLt, ← BitVec.toNat_or]
  rfl
set_option maxHeartbeats 400000 in
theorem halves_any (f : Bf) (w : World) :
    Calls Try.prog 19 #[.agg (bytes 16 f)] w fun e w' => e = .returned (.tuple #[.int .u64 (wordTo f 0 8).toNat, .int .u64 (wordTo f 8 8).toNat]) ∧ Below w.heap.size w w' := by
  go_enter Try.func19, Try.ntmps19
  go_wp2
  go_loopw [2, 3, 5] (fun hi lo i w' => ∃ k : Nat, k ≤ 8 ∧ i = .int .i64 k ∧ hi = .int .u64 (wordTo f 0 k).toNat ∧ lo = .int .u64 (wordTo f 8 k).toNat ∧ Blk w' w.heap.size 23 (bytes 16 f) ∧ Below w.heap.size w w') (fun _ _ i _ => 8 - (intOf i).toNat)
  case atStart => exact ⟨0, by omega, rfl, rfl, rfl, Blk.new _ _ _, (Below.refl _ _).alloc (Nat.le_refl _) _⟩
  case round =>
    obtain ⟨k, hk, rfl, rfl, rfl, ha, hb⟩ := hrel
    by_cases hlt : k < 8
    · have hc1 : wr.cell? ⟨w.heap.size, k, none⟩ = some (.int .u8 (f k).toNat) := by rw [ha.cell, bytes_get _ _ _ (by omega)]
      have hc2 : wr.cell? ⟨w.heap.size, k + 8, none⟩ = some (.int .u8 (f (k + 8)).toNat) := by rw [ha.cell, bytes_get _ _ _ (by omega)]
      have h1 := (f k).isLt
      have h2 := (f (k + 8)).isLt
      have h3 := (wordTo f 0 k).isLt
      have h4 := (wordTo f 8 k).isLt
      have e1 := word_step f 0 k
      have e2 := word_step f 8 k
      rw [Nat.zero_add] at e1
      rw [Nat.add_comm 8 k] at e2
      have E1 := Lib.hid e1
      have E2 := Lib.hid e2
      clear e1 e2
      go_wp2
      go_quiet (fail)
      go_wp2
      exact ⟨⟨k + 1, by omega, by go_num, valu64 E1.out, valu64 E2.out, ha.drewN _, below_drewN hb _⟩, by simp [intOf]; omega⟩
    · obtain rfl : k = 8 := by omega
      go_wp2
      go_ret2
      exact ⟨rfl, hb⟩

theorem shrN (x : BitVec 8) (k : Nat) : (x.toNat : Int) / (2 : Int) ^ k = ((x >>> k).toNat : Int) := by
  rw [BitVec.toNat_ushiftRight, Nat.shiftRight_eq_div_pow]
  simp
theorem and_one8 (x : BitVec 8) : bits .and .u8 (x.toNat : Int) 1 = bif x.getLsbD 0 then 1 else 0 := by
  have e1 : (1 : Int) = ((1 : Nat) : Int) := rfl
  rw [e1, u8_and_nat _ _ x.isLt (by decide), nat_mask1, BitVec.getLsbD, Nat.testBit_zero]
  by_cases h : x.toNat % 2 = 1
  · simp [h]
  · have h0 : x.toNat % 2 = 0 := by omega
    simp [h0]
theorem bit_val (f : Bf) (i : Nat) (hi : i < 128) : bits .and .u8 (((f (i / 8)).toNat : Int) / (2 : Int) ^ (7 - i % 8)) 1 = bif (blk f).getMsbD i then 1 else 0 := by
  rw [shrN, and_one8, blk_bit f i hi, BitVec.getLsbD_ushiftRight, Nat.add_zero]
theorem ret8 {x y : Int} (h : x = y) : Ending.returned (.int .u8 x) = Ending.returned (.int .u8 y) := by rw [h]
set_option maxHeartbeats 400000 in
theorem bit_any (f : Bf) (i : Nat) (hi : i < 128) (w : World) :
    Calls Try.prog 21 #[.agg (bytes 16 f), .int .i64 i] w fun e w' => e = .returned (.int .u8 (bif (blk f).getMsbD i then 1 else 0)) ∧ Below w.heap.size w w' := by
  have hc1 : (bytes 16 f)[i / 8]? = some (.int .u8 (f (i / 8)).toNat) := by rw [bytes_get _ _ _ (by omega)]
  have h1 := (f (i / 8)).isLt
  go_enter Try.func21, Try.ntmps21
  go_wp2
  go_ret
  exact ⟨ret8 (bit_val f i hi), (Below.refl _ _).alloc (Nat.le_refl _) _⟩

theorem byte_hi (h l : B64) (k : Nat) (hk : k < 8) : (h.toNat : Int) / (2 : Int) ^ (56 - 8 * k) % (256 : Int) = ((byteB (h ++ l : B128) k).toNat : Int) := by
  have e : byteB (h ++ l : B128) k = (h >>> (56 - 8 * k)).setWidth 8 := by
    apply BitVec.eq_of_getLsbD_eq
    intro j hj
    unfold byteB
    rw [BitVec.getLsbD_setWidth, BitVec.getLsbD_setWidth, BitVec.getLsbD_ushiftRight, BitVec.getLsbD_ushiftRight, BitVec.getLsbD_append, if_neg (by omega)]
    congr 2
    omega
  rw [e, BitVec.toNat_setWidth, BitVec.toNat_ushiftRight, Nat.shiftRight_eq_div_pow]
  simp
theorem byte_lo (h l : B64) (k : Nat) (hk : k < 8) : (l.toNat : Int) / (2 : Int) ^ (56 - 8 * k) % (256 : Int) = ((byteB (h ++ l : B128) (k + 8)).toNat : Int) := by
  have e : byteB (h ++ l : B128) (k + 8) = (l >>> (56 - 8 * k)).setWidth 8 := by
    apply BitVec.eq_of_getLsbD_eq
    intro j hj
    unfold byteB
    rw [BitVec.getLsbD_setWidth, BitVec.getLsbD_setWidth, BitVec.getLsbD_ushiftRight, BitVec.getLsbD_ushiftRight, BitVec.getLsbD_append, if_pos (by omega)]
    congr 2
    omega
  rw [e, BitVec.toNat_setWidth, BitVec.toNat_ushiftRight, Nat.shiftRight_eq_div_pow]
  simp
def wholeTo (x : B128) (k : Nat) : Bf := fun i => if i % 8 < k then byteB x i else 0#8
structure WholeRel (x : B128) (w : World) (k : Nat) (w' : World) : Prop where
  a : Blk w' w.heap.size 23 (bytes 16 fun _ => 0#8)
  b : Blk w' (w.heap.size + 1) 23 (bytes 16 (wholeTo x k))
  bel : Below w.heap.size w w'
theorem WholeRel.start (x : B128) (w : World) : WholeRel x w 0 ((w.alloc (.cells (bytes 16 fun _ => 0#8) 23)).alloc (.cells (bytes 16 fun _ => 0#8) 23)) := by
  have s1 : (w.alloc (.cells (bytes 16 fun _ => 0#8) 23)).heap.size = w.heap.size + 1 := by simp
  refine ⟨(Blk.new w 23 _).alloc _, ?_, ((Below.refl _ _).alloc (Nat.le_refl _) _).alloc (by simp) _⟩
  have := Blk.new (w.alloc (.cells (bytes 16 fun _ => 0#8) 23)) 23 (bytes 16 fun _ => 0#8)
  rw [s1] at this
  exact (show bytes 16 (wholeTo x 0) = bytes 16 fun _ => 0#8 from bytes_ext fun i _ => by simp [wholeTo]) ▸ this
theorem WholeRel.step {x : B128} {w w1 : World} {k : Nat} (hk : k < 8) (h : WholeRel x w k w1) {a b : Int} (ha : a = ((byteB x k).toNat : Int)) (hb : b = ((byteB x (k + 8)).toNat : Int)) :
    WholeRel x w (k + 1) (((w1.setCell ⟨w.heap.size + 1, k, none⟩ (.int .u8 a)).setCell ⟨w.heap.size + 1, k + 8, none⟩ (.int .u8 b)).drew) := by
  subst ha hb
  refine ⟨((h.a.far (by simp) _).far (by simp) _).drew, ?_, ((h.bel.setCell (by simp) _).setCell (by simp) _).drew⟩
  have := ((h.b.set_ k (.int .u8 (byteB x k).toNat)).set_ (k + 8) (.int .u8 (byteB x (k + 8)).toNat)).drew
  rw [bytes_set, bytes_set] at this
  refine (show bytes 16 (wholeTo x (k + 1)) = bytes 16 (upd (upd (wholeTo x k) k (byteB x k)) (k + 8) (byteB x (k + 8))) from bytes_ext fun i hi => ?_) ▸ this
  unfold upd wholeTo
  by_cases e1 : i = k + 8
  · subst e1; simp [show k % 8 < k + 1 by omega]
  · by_cases e : i = k
    · subst e; simp [show i % 8 < i + 1 by omega]
    · have e3 : (i % 8 < k + 1) ↔ (i % 8 < k) := by omega
      simp [e, e1, e3]
set_option maxHeartbeats 400000 in
theorem whole_any (h l : B64) (w : World) :
    Calls Try.prog 20 #[.int .u64 h.toNat, .int .u64 l.toNat] w fun e w' => e = .returned (.agg (bytes 16 (byteB (h ++ l : B128)))) ∧ Below w.heap.size w w' := by
  go_enter Try.func20, Try.ntmps20
  go_wp2
  go_loopw [7] (fun i w' => ∃ k : Nat, k ≤ 8 ∧ i = .int .i64 k ∧ WholeRel (h ++ l : B128) w k w') (fun i _ => 8 - (intOf i).toNat)
  case atStart => exact ⟨0, by omega, rfl, WholeRel.start _ w⟩
  case round =>
    obtain ⟨k, hk, rfl, hr⟩ := hrel
    by_cases hlt : k < 8
    · have hf1 : wr.frozen? ⟨w.heap.size + 1, k, none⟩ = false := hr.b.frozen k
      have hf2 : wr.frozen? ⟨w.heap.size + 1, k + 8, none⟩ = false := hr.b.frozen (k + 8)
      have hc2 : wr.cell? ⟨w.heap.size + 1, k, none⟩ = some (.int .u8 (wholeTo (h ++ l : B128) k k).toNat) := by rw [hr.b.cell, bytes_get _ _ _ (by omega)]
      have hc3 : wr.cell? ⟨w.heap.size + 1, k + 8, none⟩ = some (.int .u8 (wholeTo (h ++ l : B128) k (k + 8)).toNat) := by rw [hr.b.cell, bytes_get _ _ _ (by omega)]
      have h1 := h.isLt
      have h2 := l.isLt
      have w1 : IntKind.i64.wrap ((k : Int) + 8) = (k : Int) + 8 := by rw [IntKind.wrap_i64]; omega
      have w2 : IntKind.i64.wrap (8 * (k : Int)) = 8 * (k : Int) := by rw [IntKind.wrap_i64]; omega
      have w3 : IntKind.i64.wrap (56 - 8 * (k : Int)) = 56 - 8 * (k : Int) := by rw [IntKind.wrap_i64]; omega
      go_wp2
      go_region
      go_wp2
      exact ⟨⟨k + 1, by omega, by go_num, hr.step hlt (byte_hi h l k hlt) (byte_lo h l k hlt)⟩, by simp [intOf]; omega⟩
    · obtain rfl : k = 8 := by omega
      go_wp2_with (first | (with_reducible refine load_blk rfl (.tmp 5) rfl (w.heap.size + 1) rfl _ hr.b ?_) | (with_reducible refine store_blk rfl (.tmp 4) (.tmp 28) rfl w.heap.size _ _ rfl rfl hr.a ?_))
      have e : bytes 16 (byteB (h ++ l : B128)) = bytes 16 (wholeTo (h ++ l : B128) 8) := bytes_ext fun i _ => by simp [wholeTo, show i % 8 < 8 by omega]
      rw [e]
      exact bodyPost_ret (result_blk rfl _ _ w.heap.size _ rfl (hr.a.row_same _)) rfl ⟨rfl, below_setRow hr.bel (by omega) _⟩

end Go.Proofs.Ytddehfhklalfgaa
