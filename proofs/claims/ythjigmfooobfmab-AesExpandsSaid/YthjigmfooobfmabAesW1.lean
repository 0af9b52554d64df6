/-
  THE WALKS of aes's word.boxed and mixed.
-/
import Derived.Test.YthjigmfooobfmabAesF
namespace Go.Proofs.Ythjigmfooobfmab
open Go.RowKit Gf
set_option linter.unusedSimpArgs false

theorem laid_all (f v : Bf) (n : Nat) : bytes n (laid f 0 n v) = bytes n v := bytes_ext fun i hi => by
  unfold laid
  rw [if_pos (by omega), Nat.sub_zero]
theorem Blk.whole {w : World} {g : Nat} {t : TypeId} {n : Nat} {f v : Bf} (h : Blk w g t (bytes n (laid f 0 n v))) : Blk w g t (bytes n v) := by rwa [laid_all] at h
structure Bx (w : World) (a : Bf) (w' : World) : Prop where
  a : Blk w' w.heap.size 43 (bytes 4 a)
  c : Blk w' (w.heap.size + 1) 43 (bytes 4 fun _ => 0#8)
  bel : Below w.heap.size w w'
theorem Bx.start (w : World) (a : Bf) : Bx w a ((w.alloc (.cells (bytes 4 a) 43)).alloc (.cells #[.int .u8 0, .int .u8 0, .int .u8 0, .int .u8 0] 43)) := by
  have s1 : (w.alloc (.cells (bytes 4 a) 43)).heap.size = w.heap.size + 1 := by simp
  refine ⟨(Blk.new w 43 _).alloc _, ?_, ((Below.refl _ _).alloc (Nat.le_refl _) _).alloc (by simp) _⟩
  rw [← s1]; exact Blk.new _ 43 _
theorem Bx.drew {w w1 : World} {a : Bf} (h : Bx w a w1) : Bx w a w1.drew := ⟨h.a.drew, h.c.drew, h.bel.drew⟩
set_option maxRecDepth 100000 in
set_option maxHeartbeats 1000000 in
theorem boxed_any (a : Bf) (w : World) : Calls Try.prog 24 #[.agg (bytes 4 a)] w fun e w' => e = .returned (.agg (bytes 4 (boxW a))) ∧ Below w.heap.size w w' := by
  have H0 := Bx.start w a
  go_enter Try.func24, Try.ntmps24
  go_wp2_with fail
  refine wp_region_begin (by kernel_rfl) ?_
  refine wpAny_steady (Bx w a) [0, 1, 2, 3, 4, 5, 6, 7, 8, 9, 10, 11, 12] (by kernel_rfl) (H0.drew) ?_
  repeat first
    | (refine Chain.step (oi := ?_) (v := .int .u8 (box8 (a 0)).toNat) ?_ (by kernel_rfl) (by kernel_rfl) (by kernel_rfl) ?_ ?_
       rotate_left 1
       · simp only [List.getElem?_toArray, List.getElem?_cons_zero, List.getElem?_cons_succ]
         with_reducible rfl
       · (refine Or.inl ⟨?_, Gives.call (f := 28) (args := #[.int .u8 (a 0).toNat]) ?_ ?_⟩; rfl; (intro wz hz; go_simp); intro wz hz; exact (box_any (a 0) wz).mono fun e wy h => ⟨h.1, h.2 ▸ hz⟩)
       simp only [Act.put, List.setIfInBounds_toArray, List.set_cons_zero, List.set_cons_succ])
    | (refine Chain.step (oi := ?_) (v := .int .u8 (box8 (a 1)).toNat) ?_ (by kernel_rfl) (by kernel_rfl) (by kernel_rfl) ?_ ?_
       rotate_left 1
       · simp only [List.getElem?_toArray, List.getElem?_cons_zero, List.getElem?_cons_succ]
         with_reducible rfl
       · (refine Or.inl ⟨?_, Gives.call (f := 28) (args := #[.int .u8 (a 1).toNat]) ?_ ?_⟩; rfl; (intro wz hz; go_simp); intro wz hz; exact (box_any (a 1) wz).mono fun e wy h => ⟨h.1, h.2 ▸ hz⟩)
       simp only [Act.put, List.setIfInBounds_toArray, List.set_cons_zero, List.set_cons_succ])
    | (refine Chain.step (oi := ?_) (v := .int .u8 (box8 (a 2)).toNat) ?_ (by kernel_rfl) (by kernel_rfl) (by kernel_rfl) ?_ ?_
       rotate_left 1
       · simp only [List.getElem?_toArray, List.getElem?_cons_zero, List.getElem?_cons_succ]
         with_reducible rfl
       · (refine Or.inl ⟨?_, Gives.call (f := 28) (args := #[.int .u8 (a 2).toNat]) ?_ ?_⟩; rfl; (intro wz hz; go_simp); intro wz hz; exact (box_any (a 2) wz).mono fun e wy h => ⟨h.1, h.2 ▸ hz⟩)
       simp only [Act.put, List.setIfInBounds_toArray, List.set_cons_zero, List.set_cons_succ])
    | (refine Chain.step (oi := ?_) (v := .int .u8 (box8 (a 3)).toNat) ?_ (by kernel_rfl) (by kernel_rfl) (by kernel_rfl) ?_ ?_
       rotate_left 1
       · simp only [List.getElem?_toArray, List.getElem?_cons_zero, List.getElem?_cons_succ]
         with_reducible rfl
       · (refine Or.inl ⟨?_, Gives.call (f := 28) (args := #[.int .u8 (a 3).toNat]) ?_ ?_⟩; rfl; (intro wz hz; go_simp); intro wz hz; exact (box_any (a 3) wz).mono fun e wy h => ⟨h.1, h.2 ▸ hz⟩)
       simp only [Act.put, List.setIfInBounds_toArray, List.set_cons_zero, List.set_cons_succ])
    | (refine Chain.step (oi := ?_) (v := ?_) ?_ (by kernel_rfl) (by kernel_rfl) (by kernel_rfl) ?_ ?_
       rotate_left 2
       · simp only [List.getElem?_toArray, List.getElem?_cons_zero, List.getElem?_cons_succ]
         with_reducible rfl
       · (refine Or.inl ⟨?_, Gives.val ?_⟩; rfl; intro wz hz; have q0 := hz.a.byte (i := 0) (by omega); have q1 := hz.a.byte (i := 1) (by omega); have q2 := hz.a.byte (i := 2) (by omega); have q3 := hz.a.byte (i := 3) (by omega); go_simp; with_reducible rfl)
       simp only [Act.put, List.setIfInBounds_toArray, List.set_cons_zero, List.set_cons_succ])
  refine Chain.done fun w9 hw9 => ?_
  refine wpAny_ready (rs := [13]) (by kernel_rfl) (by simp) ?_
  refine AllReady.cons (o := ?_) ?_ (fun K hK => ?_) AllReady.nil
  rotate_left 1
  · simp only [List.getElem?_toArray, List.getElem?_cons_zero, List.getElem?_cons_succ]
    with_reducible rfl
  refine step_store 43 rfl rfl (.tmp 2) (.tmp 15) rfl (w.heap.size + 1) 0 _ (boxW a) rfl rfl hw9.c (by decide) ?_
  refine hK _ _ ?_
  clear hK K
  refine wpAny_done (by kernel_rfl) ?_ _
  go_wp2
  exact bodyPost_ret (result_blk rfl rfl _ _ (w.heap.size + 1) _ rfl ((hw9.c.mid 0 4 (boxW a)).whole)) rfl ⟨rfl, setCells_below _ _ _ hw9.bel (by omega)⟩
end Go.Proofs.Ythjigmfooobfmab
