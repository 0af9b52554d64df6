/-
  THE WALKS of block.Next and of its reference.
-/
import Derived.Test.YtddehfhklalfgaaBlkE
import Derived.Test.YtddehfhklalfgaaBlkR
namespace Go.Proofs.Ytddehfhklalfgaa
open Go.RowKit Gf

def nextN (f : Bf) : Nat := ((f 12).toNat * 16777216 + (f 13).toNat * 65536 + (f 14).toNat * 256 + (f 15).toNat + 1) % 4294967296
def byteN (M s : Nat) : BitVec 8 := BitVec.ofNat 8 (M / s)
def nextB (f : Bf) : Bf := upd (upd (upd (upd f 12 (byteN (nextN f) 16777216)) 13 (byteN (nextN f) 65536)) 14 (byteN (nextN f) 256)) 15 (byteN (nextN f) 1)
theorem or32 (f : Bf) : bits .or .u32 (bits .or .u32 (bits .or .u32 ((f 12).toNat * 16777216) ((f 13).toNat * 65536)) ((f 14).toNat * 256)) ((f 15).toNat) =
    (((f 12).toNat * 16777216 + (f 13).toNat * 65536 + (f 14).toNat * 256 + (f 15).toNat : Nat) : Int) := by
  have h1 := (f 12).isLt
  have h2 := (f 13).isLt
  have h3 := (f 14).isLt
  have h4 := (f 15).isLt
  have e1 : bits .or .u32 (((f 12).toNat * 16777216 : Nat) : Int) (((f 13).toNat * 65536 : Nat) : Int) = (((f 12).toNat * 16777216 + (f 13).toNat * 65536 : Nat) : Int) := by
    rw [u32_or_nat _ _ (by omega) (by omega), nat_join 24 _ _ (by omega) (by omega)]
  have e2 : bits .or .u32 (((f 12).toNat * 16777216 + (f 13).toNat * 65536 : Nat) : Int) (((f 14).toNat * 256 : Nat) : Int) = (((f 12).toNat * 16777216 + (f 13).toNat * 65536 + (f 14).toNat * 256 : Nat) : Int) := by
    rw [u32_or_nat _ _ (by omega) (by omega), nat_join 16 _ _ (by omega) (by omega)]
  have e3 : bits .or .u32 (((f 12).toNat * 16777216 + (f 13).toNat * 65536 + (f 14).toNat * 256 : Nat) : Int) (((f 15).toNat : Nat) : Int) = (((f 12).toNat * 16777216 + (f 13).toNat * 65536 + (f 14).toNat * 256 + (f 15).toNat : Nat) : Int) := by
    rw [u32_or_nat _ _ (by omega) (by omega), nat_join 8 _ _ (by omega) (by omega)]
  rw [← e3, ← e2, ← e1]
  simp
theorem byteN_val (M s : Nat) : (M : Int) / (s : Int) % (256 : Int) = ((byteN M s).toNat : Int) := by
  unfold byteN
  rw [BitVec.toNat_ofNat]
  simp
abbrev nextC (f : Bf) : Array Value := ((((bytes 16 f).setIfInBounds 12 (.int .u8 (byteN (nextN f) 16777216).toNat)).setIfInBounds 13 (.int .u8 (byteN (nextN f) 65536).toNat)).setIfInBounds 14 (.int .u8 (byteN (nextN f) 256).toNat)).setIfInBounds 15 (.int .u8 (byteN (nextN f) 1).toNat)
theorem nextC_eq (f : Bf) : nextC f = bytes 16 (nextB f) := by
  unfold nextC nextB
  rw [bytes_set, bytes_set, bytes_set, bytes_set]
set_option maxRecDepth 100000 in
set_option maxHeartbeats 1000000 in
theorem next_any (f : Bf) (w : World) :
    Calls Try.prog 17 #[.agg (bytes 16 f)] w fun e w' => e = .returned (.agg (bytes 16 (nextB f))) ∧ Below w.heap.size w w' := by
  have h1 := (f 12).isLt
  have h2 := (f 13).isLt
  have h3 := (f 14).isLt
  have h4 := (f 15).isLt
  have g1 : (bytes 16 f)[12]? = some (.int .u8 (f 12).toNat) := rfl
  have g2 : (bytes 16 f)[13]? = some (.int .u8 (f 13).toNat) := rfl
  have g3 : (bytes 16 f)[14]? = some (.int .u8 (f 14).toNat) := rfl
  have g4 : (bytes 16 f)[15]? = some (.int .u8 (f 15).toNat) := rfl
  have ho := or32 f
  have hn : ((((f 12).toNat * 16777216 + (f 13).toNat * 65536 + (f 14).toNat * 256 + (f 15).toNat : Nat) : Int) + 1) % 4294967296 = (nextN f : Int) := by
    unfold nextN; omega
  have hl : nextN f < 4294967296 := by unfold nextN; omega
  generalize (f 12).toNat * 16777216 + (f 13).toNat * 65536 + (f 14).toNat * 256 + (f 15).toNat = N at ho hn
  have q1 : (nextN f : Int) / 16777216 = ((byteN (nextN f) 16777216).toNat : Int) := by rw [← byteN_val]; omega
  have q2 : (nextN f : Int) / 65536 % 256 = ((byteN (nextN f) 65536).toNat : Int) := by rw [← byteN_val]; omega
  have q3 : (nextN f : Int) / 256 % 256 = ((byteN (nextN f) 256).toNat : Int) := by rw [← byteN_val]; omega
  have q4 : (nextN f : Int) % 256 = ((byteN (nextN f) 1).toNat : Int) := by rw [← byteN_val]; omega
  have hs : w.heap.size + 1 = (w.alloc (.cells (nextC f) 23)).heap.size := by simp
  have H1 : Blk ((w.alloc (.cells (nextC f) 23)).alloc (.cells zero16 23)) w.heap.size 23 (bytes 16 (nextB f)) := by rw [← nextC_eq]; exact (Blk.new w 23 _).alloc _
  have H2 : Blk ((w.alloc (.cells (nextC f) 23)).alloc (.cells zero16 23)) (w.heap.size + 1) 23 (bytes 16 fun _ => 0#8) := by rw [hs]; exact Blk.new _ 23 _
  clear hs
  have hb : Below w.heap.size w ((w.alloc (.cells (nextC f) 23)).alloc (.cells zero16 23)) := ((Below.refl _ _).alloc (Nat.le_refl _) _).alloc (by simp) _
  go_enter Try.func17, Try.ntmps17
  go_wp2_with (first | (with_reducible refine load_blk rfl (.tmp 1) rfl w.heap.size rfl _ H1 ?_) | (with_reducible refine store_blk rfl (.tmp 2) (.tmp 39) rfl (w.heap.size + 1) _ _ rfl rfl H2 ?_))
  exact bodyPost_ret (result_blk rfl _ _ (w.heap.size + 1) _ rfl (H2.row_same _)) rfl ⟨rfl, below_setRow hb (by omega) _⟩

/-- The last k bytes, all 255, have turned to noughts. -/
def nextTo (f : Bf) (k : Nat) : Bf := fun i => if 16 - k ≤ i then 0#8 else f i
structure NextRel (f : Bf) (w : World) (k : Nat) (w' : World) : Prop where
  a : Blk w' w.heap.size 23 (bytes 16 (nextTo f k))
  c : Blk w' (w.heap.size + 1) 23 (bytes 16 fun _ => 0#8)
  bel : Below w.heap.size w w'
  full : ∀ i, 16 - k ≤ i → i < 16 → f i = 255#8
theorem byteN_eq {M s : Nat} {v : BitVec 8} (h : M / s % 256 = v.toNat) : byteN M s = v := by
  apply BitVec.eq_of_toNat_eq
  unfold byteN
  rw [BitVec.toNat_ofNat]
  exact h
theorem next_is (f : Bf) (k : Nat) (hk : k < 4) (full : ∀ i, 16 - k ≤ i → i < 16 → f i = 255#8) (hl : (f (15 - k)).toNat < 255) : bytes 16 (upd (nextTo f k) (15 - k) (f (15 - k) + 1#8)) = bytes 16 (nextB f) := by
  have h1 := (f 12).isLt
  have h2 := (f 13).isLt
  have h3 := (f 14).isLt
  have h4 := (f 15).isLt
  have hs : (f (15 - k) + 1#8).toNat = (f (15 - k)).toNat + 1 := by
    rw [BitVec.toNat_add]
    show ((f (15 - k)).toNat + 1) % 256 = _
    omega
  refine bytes_ext fun i hi => ?_
  unfold nextB upd nextTo
  have f15 : 1 ≤ k → (f 15).toNat = 255 := fun h => by rw [full 15 (by omega) (by omega)]; rfl
  have f14 : 2 ≤ k → (f 14).toNat = 255 := fun h => by rw [full 14 (by omega) (by omega)]; rfl
  have f13 : 3 ≤ k → (f 13).toNat = 255 := fun h => by rw [full 13 (by omega) (by omega)]; rfl
  rcases (by omega : k = 0 ∨ k = 1 ∨ k = 2 ∨ k = 3) with rfl | rfl | rfl | rfl
  all_goals
    simp only [Nat.reduceSub, Nat.reduceLeDiff, forall_const, false_imp_iff] at f15 f14 f13 hl hs ⊢
    by_cases e15 : i = 15
    · subst e15
      symm
      simp
      apply byteN_eq
      first | (rw [hs]; unfold nextN; omega) | (unfold nextN; simp; omega)
    · by_cases e14 : i = 14
      · subst e14
        symm
        simp
        apply byteN_eq
        first | (rw [hs]; unfold nextN; omega) | (unfold nextN; simp; omega) | (unfold nextN; omega)
      · by_cases e13 : i = 13
        · subst e13
          symm
          simp
          apply byteN_eq
          first | (rw [hs]; unfold nextN; omega) | (unfold nextN; simp; omega) | (unfold nextN; omega)
        · by_cases e12 : i = 12
          · subst e12
            symm
            simp
            apply byteN_eq
            first | (rw [hs]; unfold nextN; omega) | (unfold nextN; simp; omega) | (unfold nextN; omega)
          · simp only [if_neg e15, if_neg e14, if_neg e13, if_neg e12]
            rw [if_neg (by omega)]
theorem next_all (f : Bf) (full : ∀ i, 16 - 4 ≤ i → i < 16 → f i = 255#8) : bytes 16 (nextTo f 4) = bytes 16 (nextB f) := by
  have f15 : (f 15).toNat = 255 := by rw [full 15 (by omega) (by omega)]; rfl
  have f14 : (f 14).toNat = 255 := by rw [full 14 (by omega) (by omega)]; rfl
  have f13 : (f 13).toNat = 255 := by rw [full 13 (by omega) (by omega)]; rfl
  have f12 : (f 12).toNat = 255 := by rw [full 12 (by omega) (by omega)]; rfl
  have hn : nextN f = 0 := by unfold nextN; omega
  refine bytes_ext fun i hi => ?_
  unfold nextB upd nextTo
  rw [hn]
  by_cases e15 : i = 15
  · subst e15; rfl
  · by_cases e14 : i = 14
    · subst e14; rfl
    · by_cases e13 : i = 13
      · subst e13; rfl
      · by_cases e12 : i = 12
        · subst e12; rfl
        · simp only [if_neg e15, if_neg e14, if_neg e13, if_neg e12]
          rw [if_neg (by omega)]
theorem NextRel.start (f : Bf) (w : World) : NextRel f w 0 ((w.alloc (.cells (bytes 16 f) 23)).alloc (.cells zero16 23)) := by
  have s1 : (w.alloc (.cells (bytes 16 f) 23)).heap.size = w.heap.size + 1 := by simp
  refine ⟨?_, ?_, ((Below.refl _ _).alloc (Nat.le_refl _) _).alloc (by simp) _, fun i h1 h2 => by omega⟩
  · have e : bytes 16 (nextTo f 0) = bytes 16 f := bytes_ext fun i hi => by unfold nextTo; rw [if_neg (by omega)]
    rw [e]
    exact (Blk.new w 23 _).alloc _
  · rw [← s1]; exact Blk.new _ 23 _
theorem NextRel.step {f : Bf} {w w1 : World} {k : Nat} (hk : k < 4) (h : NextRel f w k w1) (hf : f (15 - k) = 255#8) : NextRel f w (k + 1) (w1.setCell ⟨w.heap.size, 15 - k, none⟩ (.int .u8 0)) := by
  refine ⟨?_, h.c.far (by simp) _, h.bel.setCell (by simp) _, fun i h1 h2 => ?_⟩
  · have := h.a.set_ (15 - k) (.int .u8 (0#8).toNat)
    rw [bytes_set] at this
    refine (show bytes 16 (nextTo f (k + 1)) = bytes 16 (upd (nextTo f k) (15 - k) 0#8) from bytes_ext fun i hi => ?_) ▸ this
    unfold upd nextTo
    by_cases e : i = 15 - k
    · rw [if_pos e, if_pos (by omega)]
    · rw [if_neg e]
      by_cases e2 : 16 - k ≤ i
      · rw [if_pos e2, if_pos (by omega)]
      · rw [if_neg e2, if_neg (by omega)]
  · by_cases e : i = 15 - k
    · rw [e, hf]
    · exact h.full i (by omega) h2
theorem NextRel.last {f : Bf} {w w1 : World} {k : Nat} (hk : k < 4) (h : NextRel f w k w1) (hl : (f (15 - k)).toNat < 255) :
    Blk (w1.setCell ⟨w.heap.size, 15 - k, none⟩ (.int .u8 (((f (15 - k)).toNat : Int) + 1))) w.heap.size 23 (bytes 16 (nextB f)) := by
  have e : (((f (15 - k)).toNat : Int) + 1) = ((f (15 - k) + 1#8).toNat : Int) := by
    rw [BitVec.toNat_add]
    show _ = ((((f (15 - k)).toNat + 1) % 256 : Nat) : Int)
    omega
  rw [e, ← next_is f k hk h.full hl, ← bytes_set]
  exact h.a.set_ (15 - k) _

set_option maxRecDepth 100000 in
set_option maxHeartbeats 1000000 in
theorem refNext_any (f : Bf) (w : World) :
    Calls Try.prog 18 #[.agg (bytes 16 f)] w fun e w' => e = .returned (.agg (bytes 16 (nextB f))) ∧ Below w.heap.size w w' := by
  go_enter Try.func18, Try.ntmps18
  go_wp2
  go_loopw [3] (fun i w' => ∃ k : Nat, k ≤ 4 ∧ i = .int .i64 (15 - (k : Int)) ∧ NextRel f w k w') (fun i _ => (intOf i).toNat)
  case atStart => exact ⟨0, by omega, rfl, NextRel.start f w⟩
  case round =>
    obtain ⟨k, hk, rfl, hr⟩ := hrel
    by_cases hlt : k < 4
    · have hi : (15 - (k : Int)).toNat = 15 - k := by omega
      have hc : wr.cell? ⟨w.heap.size, 15 - k, none⟩ = some (.int .u8 (f (15 - k)).toNat) := by
        rw [hr.a.cell, bytes_get _ _ _ (by omega)]
        unfold nextTo
        rw [if_neg (by omega)]
      have hf := hr.a.frozen (15 - k)
      have hl := (f (15 - k)).isLt
      by_cases h255 : (f (15 - k)).toNat = 255
      · have hn := hr.step hlt (BitVec.eq_of_toNat_eq h255)
        rw [h255] at hc
        go_wp2
        exact ⟨⟨k + 1, by omega, valu_i64 (by omega), hn⟩, by simp [intOf]; omega⟩
      · have hlt2 : (f (15 - k)).toNat < 255 := by omega
        clear h255
        have HA := hr.last hlt hlt2
        have HC := hr.c.far (p := ⟨w.heap.size, 15 - k, none⟩) (by simp) (.int .u8 (((f (15 - k)).toNat : Int) + 1))
        have HB : Below w.heap.size w (wr.setCell ⟨w.heap.size, 15 - k, none⟩ (.int .u8 (((f (15 - k)).toNat : Int) + 1))) := hr.bel.setCell (by simp) _
        have hne : (((f (15 - k)).toNat : Int) + 1 != 0) = true := by rw [bne_iff_ne]; omega
        go_wp2_with (first | (with_reducible refine load_blk rfl (.tmp 1) rfl w.heap.size rfl _ HA ?_) | (with_reducible refine store_blk rfl (.tmp 2) (.tmp 17) rfl (w.heap.size + 1) _ _ rfl rfl HC ?_))
        exact bodyPost_ret (result_blk rfl _ _ (w.heap.size + 1) _ rfl (HC.row_same _)) rfl ⟨rfl, below_setRow HB (by omega) _⟩
    · obtain rfl : k = 4 := by omega
      have HA := hr.a
      rw [next_all f hr.full] at HA
      go_wp2_with (first | (with_reducible refine load_blk rfl (.tmp 1) rfl w.heap.size rfl _ HA ?_) | (with_reducible refine store_blk rfl (.tmp 2) (.tmp 18) rfl (w.heap.size + 1) _ _ rfl rfl hr.c ?_))
      exact bodyPost_ret (result_blk rfl _ _ (w.heap.size + 1) _ rfl (hr.c.row_same _)) rfl ⟨rfl, below_setRow hr.bel (by omega) _⟩
end Go.Proofs.Ytddehfhklalfgaa
