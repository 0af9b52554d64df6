/-
  THE WALK of the statement BlockNexts: true at every input.
-/
import Derived.Test.YtddehfhklalfgaaBlkSh
import Derived.Test.YtddehfhklalfgaaBlkN
import Derived.Test.YtddehfhklalfgaaBlkHr
namespace Go.Proofs.Ytddehfhklalfgaa
open Go.RowKit Gf
attribute [local go_sem ↓] store_rule
attribute [local go_sem] headPtr_mk blockOf_mk cellsOf_mk is16_bytes rowB_drew rowOf_drew rowB_drewN rowOf_drewN eq_blk

theorem nextB_low (f : Bf) (i : Nat) (hi : i < 12) : nextB f i = f i := by
  unfold nextB upd
  rw [if_neg (by omega), if_neg (by omega), if_neg (by omega), if_neg (by omega)]
structure Nx1 (w : World) (f : Bf) (w' : World) : Prop where
  a : Blk w' w.heap.size 23 (bytes 16 f)
  bel : Below w.heap.size w w'
theorem Nx1.later {w w1 w2 : World} {f : Bf} (H : Nx1 w f w1) (hb : Below w1.heap.size w1 w2) : Nx1 w f w2 := ⟨H.a.below hb H.a.lt, H.bel.trans (hb.mono H.bel.size)⟩
structure Nx2 (w : World) (f : Bf) (g : Nat) (w' : World) : Prop where
  r : Nx1 w f w'
  x : Blk w' g 23 (bytes 16 (nextB f))
  ne : w.heap.size < g
theorem Nx2.later {w w1 w2 : World} {f : Bf} {g : Nat} (H : Nx2 w f g w1) (hb : Below w1.heap.size w1 w2) : Nx2 w f g w2 := ⟨H.r.later hb, H.x.below hb H.x.lt, H.ne⟩
set_option maxRecDepth 100000 in
set_option maxHeartbeats 4000000 in
theorem blockNexts_walk (f : Bf) (w : World) : Calls Try.prog 7 #[.agg (bytes 16 f)] w fun e w' => e = .returned (.bool true) ∧ Below w.heap.size w w' := by
  have H0 : Nx1 w f (w.alloc (.cells (bytes 16 f) 23)) := ⟨Blk.new w 23 _, (Below.refl _ _).alloc (Nat.le_refl _) _⟩
  have hs0 : sameB 16 (nextB f) (nextB f) = true := sameB_of (fun _ _ => rfl)
  have hng := no_guard
  go_enter Try.func7, Try.ntmps7
  go_wp2_with fail
  refine (shown_any _).mono ?_
  rintro e w1 ⟨rfl, hb1⟩
  have H1 := H0.later hb1
  clear H0 hb1
  go_wp2_with (first | fail | (with_reducible refine load_blk rfl (.tmp 1) rfl w.heap.size rfl _ H1.a ?_))
  refine (next_any f _).mono ?_
  rintro e w2 ⟨rfl, hb2⟩
  have H2 := H1.later hb2
  have HZ : Blk (w2.alloc (.cells zero16 23)) w2.heap.size 23 (bytes 16 fun _ => 0#8) := Blk.new w2 23 _
  have H3 : Nx2 w f w2.heap.size ((w2.alloc (.cells zero16 23)).setRow w2.heap.size (bytes 16 (nextB f))) := by
    have hlt := H2.a.lt
    have hle := H2.bel.size
    exact ⟨⟨(H2.a.alloc _).row_other (by omega) _, below_setRow (H2.bel.alloc hle _) hle _⟩, HZ.row_same _, hlt⟩
  clear H1 hb2
  go_wp2_with (first | (with_reducible refine store_blk rfl (.tmp 4) (.tmp 8) rfl w2.heap.size _ _ rfl rfl HZ ?_))
  obtain ⟨g, hg⟩ : ∃ g, g = w2.heap.size := ⟨_, rfl⟩
  rw [← hg] at H3 ⊢
  generalize ((w2.alloc (.cells zero16 23)).setRow g (bytes 16 (nextB f))) = w3 at H3 ⊢
  clear HZ H2 hg
  go_loopw [5] (fun i w' => ∃ k : Nat, k ≤ 12 ∧ i = .int .i64 k ∧ Nx2 w f g w') (fun i _ => 12 - (intOf i).toNat)
  case atStart => exact ⟨0, by omega, rfl, H3⟩
  case round =>
    clear H3
    obtain ⟨k, hk, rfl, hr⟩ := hrel
    by_cases hlt : k < 12
    · have hc1 : wr.cell? ⟨g, k, none⟩ = some (.int .u8 (f k).toNat) := by rw [hr.x.cell, bytes_get _ _ _ (by omega), nextB_low f k hlt]
      have hc2 : wr.cell? ⟨w.heap.size, k, none⟩ = some (.int .u8 (f k).toNat) := by rw [hr.r.a.cell, bytes_get _ _ _ (by omega)]
      go_wp2
      go_region
      go_wp2
      exact ⟨⟨k + 1, by omega, by go_num, hr.later (Below.refl _ _).drew⟩, by simp [intOf]; omega⟩
    · obtain rfl : k = 12 := by omega
      go_wp2
      refine wp_region_begin (by kernel_rfl) ?_
      refine wpAny_steady (Nx2 w f g) [0, 1, 2, 3, 4, 5, 6] (by kernel_rfl) (hr.later (Below.refl _ _).drew) ?_
      repeat first
        | (refine Chain.step (oi := ?_) (v := ?_) ?_ (by kernel_rfl) (by kernel_rfl) (by kernel_rfl) ?_ ?_
           rotate_left 2
           · simp only [List.getElem?_toArray, List.getElem?_cons_zero, List.getElem?_cons_succ]
             with_reducible rfl
           · (refine Or.inl ⟨?_, Gives.val ?_⟩; rfl; intro wz hz; refine load_val (S := Nx2 w f g) (g := w.heap.size) (f := f) ?_ (fun _ h => h.r.a) wz hz; rfl)
           simp only [Act.put, List.setIfInBounds_toArray, List.set_cons_zero, List.set_cons_succ])
        | (refine Chain.step (oi := ?_) (v := ?_) ?_ (by kernel_rfl) (by kernel_rfl) (by kernel_rfl) ?_ ?_
           rotate_left 2
           · simp only [List.getElem?_toArray, List.getElem?_cons_zero, List.getElem?_cons_succ]
             with_reducible rfl
           · (refine Or.inl ⟨?_, Gives.val ?_⟩; rfl; intro wz hz; refine load_val (S := Nx2 w f g) (g := g) (f := nextB f) ?_ (fun _ h => h.x) wz hz; rfl)
           simp only [Act.put, List.setIfInBounds_toArray, List.set_cons_zero, List.set_cons_succ])
        | (refine Chain.step (oi := ?_) (v := .agg (bytes 16 (nextB f))) ?_ (by kernel_rfl) (by kernel_rfl) (by kernel_rfl) ?_ ?_
           rotate_left 1
           · simp only [List.getElem?_toArray, List.getElem?_cons_zero, List.getElem?_cons_succ]
             with_reducible rfl
           · (refine Or.inl ⟨?_, Gives.call (f := 18) (args := #[.agg (bytes 16 (f))]) ?_ ?_⟩; rfl; (intro wz hz; go_simp); intro wz hz; exact (refNext_any f wz).mono fun e wy h => ⟨h.1, Nx2.later hz h.2⟩)
           simp only [Act.put, List.setIfInBounds_toArray, List.set_cons_zero, List.set_cons_succ])
        | (refine Chain.step (oi := ?_) (v := ?_) ?_ (by kernel_rfl) (by kernel_rfl) (by kernel_rfl) ?_ ?_
           rotate_left 2
           · simp only [List.getElem?_toArray, List.getElem?_cons_zero, List.getElem?_cons_succ]
             with_reducible rfl
           · (refine Or.inl ⟨?_, Gives.val ?_⟩; rfl; intro w _hw; go_simp; with_reducible rfl)
           simp only [Act.put, List.setIfInBounds_toArray, List.set_cons_zero, List.set_cons_succ])
      refine Chain.done fun w9 hw9 => ?_
      refine wpAny_ready (rs := [7]) (by kernel_rfl) (by simp) ?_
      refine AllReady.cons (o := ?_) ?_ (fun K hK => ?_) AllReady.nil
      rotate_left 1
      · simp only [List.getElem?_toArray, List.getElem?_cons_zero, List.getElem?_cons_succ]
        with_reducible rfl
      go_simp
      refine hK _ _ ?_
      clear hK K
      refine wpAny_done (by kernel_rfl) ?_ _
      go_wp2
      go_ret
      exact ⟨rfl, hw9.r.bel⟩
end Go.Proofs.Ytddehfhklalfgaa
