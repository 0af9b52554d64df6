/-
  THE WALKS of the reference's Round, and of the statement AesRounds: true at every input.
-/
import Derived.Test.YthjigmfooobfmabAesR2
import Derived.IntWalk
import Derived.Deep.DeepCutAuto
namespace Go.Proofs.Ythjigmfooobfmab
open Go.RowKit Gf
set_option linter.unusedSimpArgs false

attribute [local go_sem] eq_blk
set_option maxRecDepth 100000 in
set_option maxHeartbeats 4000000 in
theorem refRoundB_any (s k : Bf) (last : Bool) (w : World) : Calls Try.prog 19 #[.agg (bytes 16 s), .agg (bytes 16 k), .bool last] w fun e w' => e = .returned (.agg (bytes 16 (rndB s k last))) ∧ Below w.heap.size w w' := by
  have H0 : H3 w 23 16 w.heap.size 23 16 (w.heap.size + 1) 23 16 (w.heap.size + 1 + 1) s k (fun _ => 0#8) (((w.alloc (.cells (bytes 16 s) 23)).alloc (.cells (bytes 16 k) 23)).alloc (.cells zero16 23)) := H3.start w 23 16 23 16 23 16 s k (fun _ => 0#8)
  go_enter Try.func19, Try.ntmps19
  go_wp2
  generalize (((w.alloc (.cells (bytes 16 s) 23)).alloc (.cells (bytes 16 k) 23)).alloc (.cells zero16 23)) = w1 at H0 ⊢
  refine wp_region_begin (by kernel_rfl) ?_
  refine wpAny_steady (H3 w 23 16 w.heap.size 23 16 (w.heap.size + 1) 23 16 (w.heap.size + 1 + 1) s k (fun _ => 0#8)) [0, 1, 2, 3, 4] (by kernel_rfl) (H0.drew) ?_
  repeat first
    | (refine Chain.step (oi := ?_) (v := .agg (bytes 16 s)) ?_ (by kernel_rfl) (by kernel_rfl) (by kernel_rfl) ?_ ?_
       rotate_left 1
       · simp only [List.getElem?_toArray, List.getElem?_cons_zero, List.getElem?_cons_succ]
         with_reducible rfl
       · (refine Or.inl ⟨?_, Gives.val ?_⟩; rfl; intro wz hz; refine load_all (S := H3 w 23 16 w.heap.size 23 16 (w.heap.size + 1) 23 16 (w.heap.size + 1 + 1) s k (fun _ => 0#8)) (ty := 23) (g := w.heap.size) (f := s) rfl ?_ (fun _ h => h.b1) wz hz; rfl)
       simp only [Act.put, List.setIfInBounds_toArray, List.set_cons_zero, List.set_cons_succ])
    | (refine Chain.step (oi := ?_) (v := .agg (bytes 16 k)) ?_ (by kernel_rfl) (by kernel_rfl) (by kernel_rfl) ?_ ?_
       rotate_left 1
       · simp only [List.getElem?_toArray, List.getElem?_cons_zero, List.getElem?_cons_succ]
         with_reducible rfl
       · (refine Or.inl ⟨?_, Gives.val ?_⟩; rfl; intro wz hz; refine load_all (S := H3 w 23 16 w.heap.size 23 16 (w.heap.size + 1) 23 16 (w.heap.size + 1 + 1) s k (fun _ => 0#8)) (ty := 23) (g := w.heap.size + 1) (f := k) rfl ?_ (fun _ h => h.b2) wz hz; rfl)
       simp only [Act.put, List.setIfInBounds_toArray, List.set_cons_zero, List.set_cons_succ])
    | (refine Chain.step (oi := ?_) (v := .agg (bytes 256 tabB)) ?_ (by kernel_rfl) (by kernel_rfl) (by kernel_rfl) ?_ ?_
       rotate_left 1
       · simp only [List.getElem?_toArray, List.getElem?_cons_zero, List.getElem?_cons_succ]
         with_reducible rfl
       · (refine Or.inl ⟨?_, Gives.call (f := 31) (args := #[]) ?_ ?_⟩; rfl; (intro wz hz; go_simp); intro wz hz; exact (refTab_any wz).mono fun e wy h => ⟨h.1, H3.later hz h.2⟩)
       simp only [Act.put, List.setIfInBounds_toArray, List.set_cons_zero, List.set_cons_succ])
    | (refine Chain.step (oi := ?_) (v := .agg (bytes 16 (rndB s k last))) ?_ (by kernel_rfl) (by kernel_rfl) (by kernel_rfl) ?_ ?_
       rotate_left 1
       · simp only [List.getElem?_toArray, List.getElem?_cons_zero, List.getElem?_cons_succ]
         with_reducible rfl
       · (refine Or.inl ⟨?_, Gives.call (f := 30) (args := #[.agg (bytes 16 s), .agg (bytes 16 k), .bool last, .agg (bytes 256 tabB)]) ?_ ?_⟩; rfl; (intro wz hz; go_simp); intro wz hz; exact (refRound_any s k last wz).mono fun e wy h => ⟨h.1, H3.later hz h.2⟩)
       simp only [Act.put, List.setIfInBounds_toArray, List.set_cons_zero, List.set_cons_succ])
    | (refine Chain.step (oi := ?_) (v := ?_) ?_ (by kernel_rfl) (by kernel_rfl) (by kernel_rfl) ?_ ?_
       rotate_left 2
       · simp only [List.getElem?_toArray, List.getElem?_cons_zero, List.getElem?_cons_succ]
         with_reducible rfl
       · (refine Or.inl ⟨?_, Gives.val ?_⟩; rfl; intro wz hz; go_simp; with_reducible rfl)
       simp only [Act.put, List.setIfInBounds_toArray, List.set_cons_zero, List.set_cons_succ])
  refine Chain.done fun w9 hw9 => ?_
  refine wpAny_ready (rs := [5]) (by kernel_rfl) (by simp) ?_
  refine AllReady.cons (o := ?_) ?_ (fun K hK => ?_) AllReady.nil
  rotate_left 1
  · simp only [List.getElem?_toArray, List.getElem?_cons_zero, List.getElem?_cons_succ]
    with_reducible rfl
  refine step_store 23 rfl rfl (.tmp 6) (.tmp 11) rfl (w.heap.size + 1 + 1) 0 _ (rndB s k last) rfl rfl hw9.b3 (by decide) ?_
  refine hK _ _ ?_
  clear hK K
  refine wpAny_done (by kernel_rfl) ?_ _
  have HM := hw9.put3 (rndB s k last)
  go_wp2
  exact bodyPost_ret (result_blk rfl rfl _ _ (w.heap.size + 1 + 1) _ rfl HM.b3) rfl ⟨rfl, HM.bel⟩
set_option maxRecDepth 100000 in
set_option maxHeartbeats 4000000 in
theorem aesRounds_walk (s k : Bf) (last : Bool) (w : World) : Calls Try.prog 6 #[.agg (bytes 16 s), .agg (bytes 16 k), .bool last] w fun e w' => e = .returned (.bool true) ∧ Below w.heap.size w w' := by
  have H0 := H2.start w 23 16 23 16 s k
  have hng := no_guard
  have hs0 : sameB 16 (rndB s k last) (rndB s k last) = true := sameB_of (fun _ _ => rfl)
  go_enter Try.func6, Try.ntmps6
  go_wp2_with fail
  refine (shown_any _).mono ?_
  rintro e w1 ⟨rfl, hb1⟩
  have Ha := H0.later hb1
  clear H0 hb1
  go_wp2
  refine wp_region_begin (by kernel_rfl) ?_
  refine wpAny_steady (H2 w 23 16 w.heap.size 23 16 (w.heap.size + 1) s k) [0, 1, 2, 3, 4, 5, 6, 7, 8, 9, 10, 11] (by kernel_rfl) (Ha.drew) ?_
  repeat first
    | (refine Chain.step (oi := ?_) (v := .agg (bytes 16 s)) ?_ (by kernel_rfl) (by kernel_rfl) (by kernel_rfl) ?_ ?_
       rotate_left 1
       · simp only [List.getElem?_toArray, List.getElem?_cons_zero, List.getElem?_cons_succ]
         with_reducible rfl
       · (refine Or.inl ⟨?_, Gives.val ?_⟩; rfl; intro wz hz; refine load_all (S := H2 w 23 16 w.heap.size 23 16 (w.heap.size + 1) s k) (ty := 23) (g := w.heap.size) (f := s) rfl ?_ (fun _ h => h.b1) wz hz; rfl)
       simp only [Act.put, List.setIfInBounds_toArray, List.set_cons_zero, List.set_cons_succ])
    | (refine Chain.step (oi := ?_) (v := .agg (bytes 16 k)) ?_ (by kernel_rfl) (by kernel_rfl) (by kernel_rfl) ?_ ?_
       rotate_left 1
       · simp only [List.getElem?_toArray, List.getElem?_cons_zero, List.getElem?_cons_succ]
         with_reducible rfl
       · (refine Or.inl ⟨?_, Gives.val ?_⟩; rfl; intro wz hz; refine load_all (S := H2 w 23 16 w.heap.size 23 16 (w.heap.size + 1) s k) (ty := 23) (g := w.heap.size + 1) (f := k) rfl ?_ (fun _ h => h.b2) wz hz; rfl)
       simp only [Act.put, List.setIfInBounds_toArray, List.set_cons_zero, List.set_cons_succ])
    | (refine Chain.step (oi := ?_) (v := .agg (bytes 16 (rndB s k last))) ?_ (by kernel_rfl) (by kernel_rfl) (by kernel_rfl) ?_ ?_
       rotate_left 1
       · simp only [List.getElem?_toArray, List.getElem?_cons_zero, List.getElem?_cons_succ]
         with_reducible rfl
       · (refine Or.inl ⟨?_, Gives.call (f := 18) (args := #[.agg (bytes 16 s), .agg (bytes 16 k), .bool last]) ?_ ?_⟩; rfl; (intro wz hz; go_simp); intro wz hz; exact (round_any s k last wz).mono fun e wy h => ⟨h.1, H2.later hz h.2⟩)
       simp only [Act.put, List.setIfInBounds_toArray, List.set_cons_zero, List.set_cons_succ])
    | (refine Chain.step (oi := ?_) (v := .agg (bytes 16 (rndB s k last))) ?_ (by kernel_rfl) (by kernel_rfl) (by kernel_rfl) ?_ ?_
       rotate_left 1
       · simp only [List.getElem?_toArray, List.getElem?_cons_zero, List.getElem?_cons_succ]
         with_reducible rfl
       · (refine Or.inl ⟨?_, Gives.call (f := 19) (args := #[.agg (bytes 16 s), .agg (bytes 16 k), .bool last]) ?_ ?_⟩; rfl; (intro wz hz; go_simp); intro wz hz; exact (refRoundB_any s k last wz).mono fun e wy h => ⟨h.1, H2.later hz h.2⟩)
       simp only [Act.put, List.setIfInBounds_toArray, List.set_cons_zero, List.set_cons_succ])
    | (refine Chain.step (oi := ?_) (v := ?_) ?_ (by kernel_rfl) (by kernel_rfl) (by kernel_rfl) ?_ ?_
       rotate_left 2
       · simp only [List.getElem?_toArray, List.getElem?_cons_zero, List.getElem?_cons_succ]
         with_reducible rfl
       · (refine Or.inl ⟨?_, Gives.val ?_⟩; rfl; intro wz hz; go_simp; with_reducible rfl)
       simp only [Act.put, List.setIfInBounds_toArray, List.set_cons_zero, List.set_cons_succ])
  refine Chain.done fun w9 hw9 => ?_
  refine wpAny_ready (rs := [12]) (by kernel_rfl) (by simp) ?_
  refine AllReady.cons (o := ?_) ?_ (fun K hK => ?_) AllReady.nil
  rotate_left 1
  · simp only [List.getElem?_toArray, List.getElem?_cons_zero, List.getElem?_cons_succ]
    with_reducible rfl
  go_simp
  refine hK _ _ ?_
  clear hK K
  refine wpAny_done (by kernel_rfl) ?_ _
  go_wp2
  go_ret
  exact ⟨rfl, hw9.bel⟩
end Go.Proofs.Ythjigmfooobfmab
