/-
  THE WALKS of the statements BlockMuls and BlockSums: true at every input.
-/
import Derived.Test.YtddehfhklalfgaaBlkSh
import Derived.Test.YtddehfhklalfgaaBlkHr
namespace Go.Proofs.Ytddehfhklalfgaa
open Go.RowKit Gf
attribute [local go_sem ↓] store_rule
attribute [local go_sem] headPtr_mk blockOf_mk cellsOf_mk is16_bytes rowB_drew rowOf_drew rowB_drewN rowOf_drewN eq_blk
/-- Two blocks that were laid, and a world behind. -/
structure Has2 (w : World) (f g : Bf) (w' : World) : Prop where
  a : Blk w' w.heap.size 23 (bytes 16 f)
  b : Blk w' (w.heap.size + 1) 23 (bytes 16 g)
  bel : Below w.heap.size w w'
theorem Has2.start (f g : Bf) (w : World) : Has2 w f g ((w.alloc (.cells (bytes 16 f) 23)).alloc (.cells (bytes 16 g) 23)) := by
  have s1 : (w.alloc (.cells (bytes 16 f) 23)).heap.size = w.heap.size + 1 := by simp
  refine ⟨(Blk.new w 23 _).alloc _, ?_, ((Below.refl _ _).alloc (Nat.le_refl _) _).alloc (by simp) _⟩
  rw [← s1]; exact Blk.new _ 23 _
theorem Has2.later {w w1 w2 : World} {f g : Bf} (h : Has2 w f g w1) (hb : Below w1.heap.size w1 w2) : Has2 w f g w2 :=
  ⟨h.a.below hb h.a.lt, h.b.below hb h.b.lt, h.bel.trans (hb.mono h.bel.size)⟩
theorem Has2.drew {w w1 : World} {f g : Bf} (h : Has2 w f g w1) : Has2 w f g w1.drew := h.later (Below.refl _ _).drew
theorem byteB_ext {x y : B128} (h : x = y) : ∀ i, i < 16 → byteB x i = byteB y i := fun i _ => by rw [h]
theorem mulC_sw (f g : Bf) (w : World) :
    Calls Try.prog 11 #[.agg (bytes 16 g), .agg (bytes 16 f)] w fun e w' => e = .returned (.agg (bytes 16 (byteB (mulB (blk f) (blk g))))) ∧ Below w.heap.size w w' := by
  rw [mulB_comm]; exact mulC_any g f w

set_option maxRecDepth 100000 in
set_option maxHeartbeats 4000000 in
theorem blockMuls_walk (f g : Bf) (w : World) : Calls Try.prog 3 #[.agg (bytes 16 (f)), .agg (bytes 16 (g))] w fun e w' => e = .returned (.bool true) ∧ Below w.heap.size w w' := by
  have H0 := Has2.start f g w
  have hs0 : sameB 16 (byteB (mulB (blk f) (blk g))) (byteB (mulB (blk f) (blk g))) = true := sameB_of (fun _ _ => rfl)
  have hs1 : sameB 16 (fun i => f i ^^^ g i) (fun i => f i ^^^ g i) = true := sameB_of (fun _ _ => rfl)
  have hng := no_guard
  go_enter Try.func3, Try.ntmps3
  go_wp2_with fail
  refine (shown_any _).mono ?_
  rintro e w1 ⟨rfl, hb1⟩
  have H1 := H0.later hb1
  clear H0 hb1
  go_wp2
  refine wp_region_begin (by kernel_rfl) ?_
  refine wpAny_steady (Has2 w f g) [0, 1, 2, 3, 4, 5, 6, 7, 8, 9, 10, 11, 12, 13, 14, 15, 16, 17, 18, 19, 20, 21, 22, 23, 24, 25, 26, 27] (by kernel_rfl) (H1.drew) ?_
  repeat first
    | (refine Chain.step (oi := ?_) (v := ?_) ?_ (by kernel_rfl) (by kernel_rfl) (by kernel_rfl) ?_ ?_
       rotate_left 2
       · simp only [List.getElem?_toArray, List.getElem?_cons_zero, List.getElem?_cons_succ]
         with_reducible rfl
       · (refine Or.inl ⟨?_, Gives.val ?_⟩; rfl; intro wz hz; refine load_val (S := Has2 w f g) (g := w.heap.size) (f := f) ?_ (fun _ h => h.a) wz hz; rfl)
       simp only [Act.put, List.setIfInBounds_toArray, List.set_cons_zero, List.set_cons_succ])
    | (refine Chain.step (oi := ?_) (v := ?_) ?_ (by kernel_rfl) (by kernel_rfl) (by kernel_rfl) ?_ ?_
       rotate_left 2
       · simp only [List.getElem?_toArray, List.getElem?_cons_zero, List.getElem?_cons_succ]
         with_reducible rfl
       · (refine Or.inl ⟨?_, Gives.val ?_⟩; rfl; intro wz hz; refine load_val (S := Has2 w f g) (g := w.heap.size + 1) (f := g) ?_ (fun _ h => h.b) wz hz; rfl)
       simp only [Act.put, List.setIfInBounds_toArray, List.set_cons_zero, List.set_cons_succ])
    | (refine Chain.step (oi := ?_) (v := .agg (bytes 16 (byteB (mulB (blk f) (blk g))))) ?_ (by kernel_rfl) (by kernel_rfl) (by kernel_rfl) ?_ ?_
       rotate_left 1
       · simp only [List.getElem?_toArray, List.getElem?_cons_zero, List.getElem?_cons_succ]
         with_reducible rfl
       · (refine Or.inl ⟨?_, Gives.call (f := 11) (args := #[.agg (bytes 16 (f)), .agg (bytes 16 (g))]) ?_ ?_⟩; rfl; (intro wz hz; go_simp); intro wz hz; exact (mulC_any f g wz).mono fun e wy h => ⟨h.1, Has2.later hz h.2⟩)
       simp only [Act.put, List.setIfInBounds_toArray, List.set_cons_zero, List.set_cons_succ])
    | (refine Chain.step (oi := ?_) (v := .agg (bytes 16 (byteB (mulB (blk f) (blk g))))) ?_ (by kernel_rfl) (by kernel_rfl) (by kernel_rfl) ?_ ?_
       rotate_left 1
       · simp only [List.getElem?_toArray, List.getElem?_cons_zero, List.getElem?_cons_succ]
         with_reducible rfl
       · (refine Or.inl ⟨?_, Gives.call (f := 11) (args := #[.agg (bytes 16 (g)), .agg (bytes 16 (f))]) ?_ ?_⟩; rfl; (intro wz hz; go_simp); intro wz hz; exact (mulC_sw f g wz).mono fun e wy h => ⟨h.1, Has2.later hz h.2⟩)
       simp only [Act.put, List.setIfInBounds_toArray, List.set_cons_zero, List.set_cons_succ])
    | (refine Chain.step (oi := ?_) (v := .agg (bytes 16 (byteB (mulB (blk f) (blk g))))) ?_ (by kernel_rfl) (by kernel_rfl) (by kernel_rfl) ?_ ?_
       rotate_left 1
       · simp only [List.getElem?_toArray, List.getElem?_cons_zero, List.getElem?_cons_succ]
         with_reducible rfl
       · (refine Or.inl ⟨?_, Gives.call (f := 12) (args := #[.agg (bytes 16 (f)), .agg (bytes 16 (g))]) ?_ ?_⟩; rfl; (intro wz hz; go_simp); intro wz hz; exact (refMul_any f g wz).mono fun e wy h => ⟨h.1, Has2.later hz h.2⟩)
       simp only [Act.put, List.setIfInBounds_toArray, List.set_cons_zero, List.set_cons_succ])
    | (refine Chain.step (oi := ?_) (v := .agg (bytes 16 (fun i => f i ^^^ g i))) ?_ (by kernel_rfl) (by kernel_rfl) (by kernel_rfl) ?_ ?_
       rotate_left 1
       · simp only [List.getElem?_toArray, List.getElem?_cons_zero, List.getElem?_cons_succ]
         with_reducible rfl
       · (refine Or.inl ⟨?_, Gives.call (f := 13) (args := #[.agg (bytes 16 (f)), .agg (bytes 16 (g))]) ?_ ?_⟩; rfl; (intro wz hz; go_simp); intro wz hz; exact (xor_any f g wz).mono fun e wy h => ⟨h.1, Has2.later hz h.2⟩)
       simp only [Act.put, List.setIfInBounds_toArray, List.set_cons_zero, List.set_cons_succ])
    | (refine Chain.step (oi := ?_) (v := .agg (bytes 16 (fun i => f i ^^^ g i))) ?_ (by kernel_rfl) (by kernel_rfl) (by kernel_rfl) ?_ ?_
       rotate_left 1
       · simp only [List.getElem?_toArray, List.getElem?_cons_zero, List.getElem?_cons_succ]
         with_reducible rfl
       · (refine Or.inl ⟨?_, Gives.call (f := 14) (args := #[.agg (bytes 16 (f)), .agg (bytes 16 (g))]) ?_ ?_⟩; rfl; (intro wz hz; go_simp); intro wz hz; exact (refXor_any f g wz).mono fun e wy h => ⟨h.1, Has2.later hz h.2⟩)
       simp only [Act.put, List.setIfInBounds_toArray, List.set_cons_zero, List.set_cons_succ])
    | (refine Chain.step (oi := ?_) (v := ?_) ?_ (by kernel_rfl) (by kernel_rfl) (by kernel_rfl) ?_ ?_
       rotate_left 2
       · simp only [List.getElem?_toArray, List.getElem?_cons_zero, List.getElem?_cons_succ]
         with_reducible rfl
       · (refine Or.inl ⟨?_, Gives.val ?_⟩; rfl; intro w _hw; go_simp; with_reducible rfl)
       simp only [Act.put, List.setIfInBounds_toArray, List.set_cons_zero, List.set_cons_succ])
  refine Chain.done fun w9 hw9 => ?_
  refine wpAny_ready (rs := [28]) (by kernel_rfl) (by simp) ?_
  refine AllReady.cons (o := ?_) ?_ (fun K hK => ?_) AllReady.nil
  rotate_left 1
  · simp only [List.getElem?_toArray, List.getElem?_cons_zero, List.getElem?_cons_succ]
    with_reducible rfl
  go_simp
  refine hK _ _ ?_
  clear hK K
  refine wpAny_done (by kernel_rfl) ?_ _
  go_wp2
  go_ret
  exact ⟨rfl, hw9.bel⟩

set_option maxRecDepth 100000 in
set_option maxHeartbeats 4000000 in
theorem blockSums_walk (f g : Bf) (w : World) : Calls Try.prog 8 #[.agg (bytes 16 (f)), .agg (bytes 16 (g))] w fun e w' => e = .returned (.bool true) ∧ Below w.heap.size w w' := by
  have H0 := Has2.start f g w
  have hs0 : sameB 16 (fun i => f i ^^^ f i) (fun _ => 0#8) = true := sameB_of (fun i _ => by simp)
  have hs1 : sameB 16 (fun i => (f i ^^^ g i) ^^^ g i) (f) = true := sameB_of (fun i _ => by simp [BitVec.xor_assoc])
  have hs2 : sameB 16 (fun i => f i ^^^ g i) (fun i => g i ^^^ f i) = true := sameB_of (fun i _ => BitVec.xor_comm _ _)
  have hng := no_guard
  go_enter Try.func8, Try.ntmps8
  go_wp2_with fail
  refine (shown_any _).mono ?_
  rintro e w1 ⟨rfl, hb1⟩
  have H1 := H0.later hb1
  clear H0 hb1
  go_wp2
  refine wp_region_begin (by kernel_rfl) ?_
  refine wpAny_steady (Has2 w f g) [0, 1, 2, 3, 4, 5, 6, 7, 8, 9, 10, 11, 12, 13, 14, 15, 16, 17, 18, 19, 20, 21, 22, 23, 24, 25] (by kernel_rfl) (H1.drew) ?_
  repeat first
    | (refine Chain.step (oi := ?_) (v := ?_) ?_ (by kernel_rfl) (by kernel_rfl) (by kernel_rfl) ?_ ?_
       rotate_left 2
       · simp only [List.getElem?_toArray, List.getElem?_cons_zero, List.getElem?_cons_succ]
         with_reducible rfl
       · (refine Or.inl ⟨?_, Gives.val ?_⟩; rfl; intro wz hz; refine load_val (S := Has2 w f g) (g := w.heap.size) (f := f) ?_ (fun _ h => h.a) wz hz; rfl)
       simp only [Act.put, List.setIfInBounds_toArray, List.set_cons_zero, List.set_cons_succ])
    | (refine Chain.step (oi := ?_) (v := ?_) ?_ (by kernel_rfl) (by kernel_rfl) (by kernel_rfl) ?_ ?_
       rotate_left 2
       · simp only [List.getElem?_toArray, List.getElem?_cons_zero, List.getElem?_cons_succ]
         with_reducible rfl
       · (refine Or.inl ⟨?_, Gives.val ?_⟩; rfl; intro wz hz; refine load_val (S := Has2 w f g) (g := w.heap.size + 1) (f := g) ?_ (fun _ h => h.b) wz hz; rfl)
       simp only [Act.put, List.setIfInBounds_toArray, List.set_cons_zero, List.set_cons_succ])
    | (refine Chain.step (oi := ?_) (v := .agg (bytes 16 (fun i => f i ^^^ f i))) ?_ (by kernel_rfl) (by kernel_rfl) (by kernel_rfl) ?_ ?_
       rotate_left 1
       · simp only [List.getElem?_toArray, List.getElem?_cons_zero, List.getElem?_cons_succ]
         with_reducible rfl
       · (refine Or.inl ⟨?_, Gives.call (f := 13) (args := #[.agg (bytes 16 (f)), .agg (bytes 16 (f))]) ?_ ?_⟩; rfl; (intro wz hz; go_simp); intro wz hz; exact (xor_any f f wz).mono fun e wy h => ⟨h.1, Has2.later hz h.2⟩)
       simp only [Act.put, List.setIfInBounds_toArray, List.set_cons_zero, List.set_cons_succ])
    | (refine Chain.step (oi := ?_) (v := .agg (bytes 16 (fun i => f i ^^^ g i))) ?_ (by kernel_rfl) (by kernel_rfl) (by kernel_rfl) ?_ ?_
       rotate_left 1
       · simp only [List.getElem?_toArray, List.getElem?_cons_zero, List.getElem?_cons_succ]
         with_reducible rfl
       · (refine Or.inl ⟨?_, Gives.call (f := 13) (args := #[.agg (bytes 16 (f)), .agg (bytes 16 (g))]) ?_ ?_⟩; rfl; (intro wz hz; go_simp); intro wz hz; exact (xor_any f g wz).mono fun e wy h => ⟨h.1, Has2.later hz h.2⟩)
       simp only [Act.put, List.setIfInBounds_toArray, List.set_cons_zero, List.set_cons_succ])
    | (refine Chain.step (oi := ?_) (v := .agg (bytes 16 (fun i => (f i ^^^ g i) ^^^ g i))) ?_ (by kernel_rfl) (by kernel_rfl) (by kernel_rfl) ?_ ?_
       rotate_left 1
       · simp only [List.getElem?_toArray, List.getElem?_cons_zero, List.getElem?_cons_succ]
         with_reducible rfl
       · (refine Or.inl ⟨?_, Gives.call (f := 13) (args := #[.agg (bytes 16 (fun i => f i ^^^ g i)), .agg (bytes 16 (g))]) ?_ ?_⟩; rfl; (intro wz hz; go_simp); intro wz hz; exact (xor_any (fun i => f i ^^^ g i) g wz).mono fun e wy h => ⟨h.1, Has2.later hz h.2⟩)
       simp only [Act.put, List.setIfInBounds_toArray, List.set_cons_zero, List.set_cons_succ])
    | (refine Chain.step (oi := ?_) (v := .agg (bytes 16 (fun i => g i ^^^ f i))) ?_ (by kernel_rfl) (by kernel_rfl) (by kernel_rfl) ?_ ?_
       rotate_left 1
       · simp only [List.getElem?_toArray, List.getElem?_cons_zero, List.getElem?_cons_succ]
         with_reducible rfl
       · (refine Or.inl ⟨?_, Gives.call (f := 13) (args := #[.agg (bytes 16 (g)), .agg (bytes 16 (f))]) ?_ ?_⟩; rfl; (intro wz hz; go_simp); intro wz hz; exact (xor_any g f wz).mono fun e wy h => ⟨h.1, Has2.later hz h.2⟩)
       simp only [Act.put, List.setIfInBounds_toArray, List.set_cons_zero, List.set_cons_succ])
    | (refine Chain.step (oi := ?_) (v := .agg (bytes 16 fun _ => 0#8)) ?_ (by kernel_rfl) (by kernel_rfl) (by kernel_rfl) ?_ ?_
       rotate_left 1
       · simp only [List.getElem?_toArray, List.getElem?_cons_zero, List.getElem?_cons_succ]
         with_reducible rfl
       · (refine Or.inl ⟨?_, Gives.val ?_⟩; rfl; exact build_val (S := Has2 w f g))
       simp only [Act.put, List.setIfInBounds_toArray, List.set_cons_zero, List.set_cons_succ])
    | (refine Chain.step (oi := ?_) (v := ?_) ?_ (by kernel_rfl) (by kernel_rfl) (by kernel_rfl) ?_ ?_
       rotate_left 2
       · simp only [List.getElem?_toArray, List.getElem?_cons_zero, List.getElem?_cons_succ]
         with_reducible rfl
       · (refine Or.inl ⟨?_, Gives.val ?_⟩; rfl; intro w _hw; go_simp; with_reducible rfl)
       simp only [Act.put, List.setIfInBounds_toArray, List.set_cons_zero, List.set_cons_succ])
  refine Chain.done fun w9 hw9 => ?_
  refine wpAny_ready (rs := [26]) (by kernel_rfl) (by simp) ?_
  refine AllReady.cons (o := ?_) ?_ (fun K hK => ?_) AllReady.nil
  rotate_left 1
  · simp only [List.getElem?_toArray, List.getElem?_cons_zero, List.getElem?_cons_succ]
    with_reducible rfl
  go_simp
  refine hK _ _ ?_
  clear hK K
  refine wpAny_done (by kernel_rfl) ?_ _
  go_wp2
  go_ret
  exact ⟨rfl, hw9.bel⟩
end Go.Proofs.Ytddehfhklalfgaa
