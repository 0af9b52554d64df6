/-
  THE WALK of the statement BlockHashes: true at every input.
-/
import Derived.Test.YtddehfhklalfgaaBlkSh
import Derived.Test.YtddehfhklalfgaaBlkA
import Derived.Test.YtddehfhklalfgaaBlkHr
namespace Go.Proofs.Ytddehfhklalfgaa
open Go.RowKit Gf
attribute [local go_sem ↓] store_rule
attribute [local go_sem] headPtr_mk blockOf_mk cellsOf_mk is16_bytes rowB_drew rowOf_drew rowB_drewN rowOf_drewN eq_blk

structure Hs (w : World) (h bf : Bf) (n : Nat) (A A2 : Option Addr) (w' : World) : Prop where
  a : Blk w' w.heap.size 23 (bytes 16 h)
  r1 : RdB w' A n bf
  r2 : RdB w' A2 n bf
  bel : Below w.heap.size w w'
theorem Hs.later {w w1 w2 : World} {h bf : Bf} {n : Nat} {A A2 : Option Addr} (H : Hs w h bf n A A2 w1) (hb : Below w1.heap.size w1 w2) : Hs w h bf n A A2 w2 :=
  ⟨H.a.below hb H.a.lt, H.r1.below hb, H.r2.below hb, H.bel.trans (hb.mono H.bel.size)⟩
structure Hs1 (w : World) (h bf : Bf) (n : Nat) (A : Option Addr) (w' : World) : Prop where
  a : Blk w' w.heap.size 23 (bytes 16 h)
  r1 : RdB w' A n bf
  bel : Below w.heap.size w w'
theorem Hs1.later {w w1 w2 : World} {h bf : Bf} {n : Nat} {A : Option Addr} (H : Hs1 w h bf n A w1) (hb : Below w1.heap.size w1 w2) : Hs1 w h bf n A w2 :=
  ⟨H.a.below hb H.a.lt, H.r1.below hb, H.bel.trans (hb.mono H.bel.size)⟩
/-- An empty row, made: the call's own. -/
theorem own_empty (w : World) : Own w.heap.size (.slice (some ⟨w.heap.size, 0, none⟩) 0 0) 0 (fun _ => 0#8) (w.alloc (.cells #[] 5)) :=
  World.ownsRow_made w #[] 0 (Nat.le_refl _) (by simp [maxLen]) rfl
theorem join_zero (bf : Bf) (n : Nat) : ∀ j, j < n → joinB (fun _ => 0#8) 0 bf j = bf j := fun j _ => by simp [joinB]

set_option maxRecDepth 100000 in
set_option maxHeartbeats 4000000 in
theorem blockHashes_walk (h bf : Bf) (A : Option Addr) (n c : Nat) (hc : n ≤ c) (_hm : c ≤ maxLen) (w : World) (hr : RdB w A n bf) :
    Calls Try.prog 5 #[.agg (bytes 16 h), .slice A n c] w fun e w' => e = .returned (.bool true) ∧ Below w.heap.size w w' := by
  have hng := no_guard
  by_cases hl : 2000 < n
  · have HR0 : 2000 ≤ n := by omega
    have hcc : 2000 ≤ c := by omega
    have hd : decide ((2000 : Int) < (n : Int)) = true := decide_eq_true (by omega)
    have H0 : Hs1 w h bf 2000 A (w.alloc (.cells (bytes 16 h) 23)) := ⟨Blk.new w 23 _, (hr.less HR0).below ((Below.refl _ _).alloc (Nat.le_refl _) _), (Below.refl _ _).alloc (Nat.le_refl _) _⟩
    have hs0 : sameB 16 (byteB (hashF (blk h) bf 2000)) (byteB (hashF (blk h) bf 2000)) = true := sameB_of (fun _ _ => rfl)
    go_enter Try.func5, Try.ntmps5
    go_wp2_with fail
    refine (shown_any _).mono ?_
    rintro e w1 ⟨rfl, hb1⟩
    have H1 := H0.later hb1
    clear H0 hb1
    have HO := Lib.hid (own_empty w1)
    have HR := Lib.hid (show RdB (w1.alloc (.cells #[] 5)) A 2000 bf from H1.r1.below ((Below.refl _ _).alloc (Nat.le_refl _) _))
    have HN := Lib.hid (show 0 + 2000 ≤ 4096 by omega)
    have HM := Lib.hid (show 2000 ≤ 4096 by omega)
    have HS := Lib.hid (show w1.heap.size ≤ (w1.alloc (.cells #[] 5)).heap.size by simp)
    go_wp2_with (at_builtin; (with_reducible refine wpList_append_rd rfl (.tmp 13) (.tmp 14) rfl rfl HO.out A 2000 c bf rfl HR.out HN.out HS.out ?_); intro A2 c2 w2 hc2 hown2 hb2; rw [Nat.zero_add] at hc2 ⊢)
    have HC := Lib.hid (show 2000 ≤ c2 from hc2)
    have H2 : Hs w h bf 2000 A A2 w2 := by
      have hb3 : Below w1.heap.size w1 w2 := ((Below.refl _ _).alloc (Nat.le_refl _) _).trans hb2
      have h4 := H1.later hb3
      obtain ⟨A', c', e, _, hr'⟩ := hown2.slice
      rw [Nat.zero_add] at e hr'
      cases e
      exact ⟨h4.a, h4.r1, hr'.ext (join_zero bf 2000), h4.bel⟩
    clear H1 hown2 hb2 hc2 HO HR HN HS
    refine wp_region_begin (by kernel_rfl) ?_
    refine wpAny_steady (Hs w h bf 2000 A A2) [0, 1, 2, 3, 4, 5, 6, 7, 8, 9, 10, 11, 12, 13, 14, 15, 16] (by kernel_rfl) (H2.later (Below.refl _ _).drew) ?_
    repeat first
      | (refine Chain.step (oi := ?_) (v := ?_) ?_ (by kernel_rfl) (by kernel_rfl) (by kernel_rfl) ?_ ?_
         rotate_left 2
         · simp only [List.getElem?_toArray, List.getElem?_cons_zero, List.getElem?_cons_succ]
           with_reducible rfl
         · (refine Or.inl ⟨?_, Gives.val ?_⟩; rfl; intro wz hz; refine load_val (S := Hs w h bf 2000 A A2) (g := w.heap.size) (f := h) ?_ (fun _ h => h.a) wz hz; rfl)
         simp only [Act.put, List.setIfInBounds_toArray, List.set_cons_zero, List.set_cons_succ])
      | (refine Chain.step (oi := ?_) (v := .agg (bytes 16 (byteB (hashF (blk h) bf 2000)))) ?_ (by kernel_rfl) (by kernel_rfl) (by kernel_rfl) ?_ ?_
         rotate_left 1
         · simp only [List.getElem?_toArray, List.getElem?_cons_zero, List.getElem?_cons_succ]
           with_reducible rfl
         · (refine Or.inl ⟨?_, Gives.call (f := 15) (args := #[.agg (bytes 16 (h)), .slice A2 2000 c2]) ?_ ?_⟩; rfl; (intro wz hz; go_simp); intro wz hz; exact (hash_any h bf A2 2000 c2 HM.out HC.out wz hz.r2).mono fun e wy h => ⟨h.1, Hs.later hz h.2⟩)
         simp only [Act.put, List.setIfInBounds_toArray, List.set_cons_zero, List.set_cons_succ])
      | (refine Chain.step (oi := ?_) (v := .agg (bytes 16 (byteB (hashF (blk h) bf 2000)))) ?_ (by kernel_rfl) (by kernel_rfl) (by kernel_rfl) ?_ ?_
         rotate_left 1
         · simp only [List.getElem?_toArray, List.getElem?_cons_zero, List.getElem?_cons_succ]
           with_reducible rfl
         · (refine Or.inl ⟨?_, Gives.call (f := 16) (args := #[.agg (bytes 16 (h)), .slice A 2000 c]) ?_ ?_⟩; rfl; (intro wz hz; go_simp); intro wz hz; exact (refHash_any h bf A 2000 c HM.out wz hz.r1).mono fun e wy h => ⟨h.1, Hs.later hz h.2⟩)
         simp only [Act.put, List.setIfInBounds_toArray, List.set_cons_zero, List.set_cons_succ])
      | (refine Chain.step (oi := ?_) (v := ?_) ?_ (by kernel_rfl) (by kernel_rfl) (by kernel_rfl) ?_ ?_
         rotate_left 2
         · simp only [List.getElem?_toArray, List.getElem?_cons_zero, List.getElem?_cons_succ]
           with_reducible rfl
         · (refine Or.inl ⟨?_, Gives.val ?_⟩; rfl; intro wz hz; refine conv_val (S := Hs w h bf 2000 A A2) (A := A2) (n := 2000) (c := c2) (bf := bf) ?_ (fun _ h => h.r2) wz hz; rfl)
         simp only [Act.put, List.setIfInBounds_toArray, List.set_cons_zero, List.set_cons_succ])
      | (refine Chain.step (oi := ?_) (v := ?_) ?_ (by kernel_rfl) (by kernel_rfl) (by kernel_rfl) ?_ ?_
         rotate_left 2
         · simp only [List.getElem?_toArray, List.getElem?_cons_zero, List.getElem?_cons_succ]
           with_reducible rfl
         · (refine Or.inl ⟨?_, Gives.val ?_⟩; rfl; intro wz hz; refine conv_val (S := Hs w h bf 2000 A A2) (A := A) (n := 2000) (c := c) (bf := bf) ?_ (fun _ h => h.r1) wz hz; rfl)
         simp only [Act.put, List.setIfInBounds_toArray, List.set_cons_zero, List.set_cons_succ])
      | (refine Chain.step (oi := ?_) (v := ?_) ?_ (by kernel_rfl) (by kernel_rfl) (by kernel_rfl) ?_ ?_
         rotate_left 2
         · simp only [List.getElem?_toArray, List.getElem?_cons_zero, List.getElem?_cons_succ]
           with_reducible rfl
         · (refine Or.inl ⟨?_, Gives.val ?_⟩; rfl; intro w _hw; go_simp; with_reducible rfl)
         simp only [Act.put, List.setIfInBounds_toArray, List.set_cons_zero, List.set_cons_succ])
    refine Chain.done fun w9 hw9 => ?_
    refine wpAny_ready (rs := [17]) (by kernel_rfl) (by simp) ?_
    refine AllReady.cons (o := ?_) ?_ (fun K hK => ?_) AllReady.nil
    rotate_left 1
    · simp only [List.getElem?_toArray, List.getElem?_cons_zero, List.getElem?_cons_succ]
      with_reducible rfl
    go_simp
    refine hK _ _ ?_
    clear hK K
    refine wpAny_done (by kernel_rfl) ?_ _
    go_wp2
    go_ret
    exact ⟨rfl, hw9.bel⟩
  · have HR0 : n ≤ n := Nat.le_refl _
    have hd : decide ((2000 : Int) < (n : Int)) = false := decide_eq_false (by omega)
    have H0 : Hs1 w h bf n A (w.alloc (.cells (bytes 16 h) 23)) := ⟨Blk.new w 23 _, (hr.less HR0).below ((Below.refl _ _).alloc (Nat.le_refl _) _), (Below.refl _ _).alloc (Nat.le_refl _) _⟩
    have hs0 : sameB 16 (byteB (hashF (blk h) bf n)) (byteB (hashF (blk h) bf n)) = true := sameB_of (fun _ _ => rfl)
    go_enter Try.func5, Try.ntmps5
    go_wp2_with fail
    refine (shown_any _).mono ?_
    rintro e w1 ⟨rfl, hb1⟩
    have H1 := H0.later hb1
    clear H0 hb1
    have HO := Lib.hid (own_empty w1)
    have HR := Lib.hid (show RdB (w1.alloc (.cells #[] 5)) A n bf from H1.r1.below ((Below.refl _ _).alloc (Nat.le_refl _) _))
    have HN := Lib.hid (show 0 + n ≤ 4096 by omega)
    have HM := Lib.hid (show n ≤ 4096 by omega)
    have HS := Lib.hid (show w1.heap.size ≤ (w1.alloc (.cells #[] 5)).heap.size by simp)
    go_wp2_with (at_builtin; (with_reducible refine wpList_append_rd rfl (.tmp 13) (.tmp 14) rfl rfl HO.out A n c bf rfl HR.out HN.out HS.out ?_); intro A2 c2 w2 hc2 hown2 hb2; rw [Nat.zero_add] at hc2 ⊢)
    have HC := Lib.hid (show n ≤ c2 from hc2)
    have H2 : Hs w h bf n A A2 w2 := by
      have hb3 : Below w1.heap.size w1 w2 := ((Below.refl _ _).alloc (Nat.le_refl _) _).trans hb2
      have h4 := H1.later hb3
      obtain ⟨A', c', e, _, hr'⟩ := hown2.slice
      rw [Nat.zero_add] at e hr'
      cases e
      exact ⟨h4.a, h4.r1, hr'.ext (join_zero bf n), h4.bel⟩
    clear H1 hown2 hb2 hc2 HO HR HN HS
    refine wp_region_begin (by kernel_rfl) ?_
    refine wpAny_steady (Hs w h bf n A A2) [0, 1, 2, 3, 4, 5, 6, 7, 8, 9, 10, 11, 12, 13, 14, 15, 16] (by kernel_rfl) (H2.later (Below.refl _ _).drew) ?_
    repeat first
      | (refine Chain.step (oi := ?_) (v := ?_) ?_ (by kernel_rfl) (by kernel_rfl) (by kernel_rfl) ?_ ?_
         rotate_left 2
         · simp only [List.getElem?_toArray, List.getElem?_cons_zero, List.getElem?_cons_succ]
           with_reducible rfl
         · (refine Or.inl ⟨?_, Gives.val ?_⟩; rfl; intro wz hz; refine load_val (S := Hs w h bf n A A2) (g := w.heap.size) (f := h) ?_ (fun _ h => h.a) wz hz; rfl)
         simp only [Act.put, List.setIfInBounds_toArray, List.set_cons_zero, List.set_cons_succ])
      | (refine Chain.step (oi := ?_) (v := .agg (bytes 16 (byteB (hashF (blk h) bf n)))) ?_ (by kernel_rfl) (by kernel_rfl) (by kernel_rfl) ?_ ?_
         rotate_left 1
         · simp only [List.getElem?_toArray, List.getElem?_cons_zero, List.getElem?_cons_succ]
           with_reducible rfl
         · (refine Or.inl ⟨?_, Gives.call (f := 15) (args := #[.agg (bytes 16 (h)), .slice A2 n c2]) ?_ ?_⟩; rfl; (intro wz hz; go_simp); intro wz hz; exact (hash_any h bf A2 n c2 HM.out HC.out wz hz.r2).mono fun e wy h => ⟨h.1, Hs.later hz h.2⟩)
         simp only [Act.put, List.setIfInBounds_toArray, List.set_cons_zero, List.set_cons_succ])
      | (refine Chain.step (oi := ?_) (v := .agg (bytes 16 (byteB (hashF (blk h) bf n)))) ?_ (by kernel_rfl) (by kernel_rfl) (by kernel_rfl) ?_ ?_
         rotate_left 1
         · simp only [List.getElem?_toArray, List.getElem?_cons_zero, List.getElem?_cons_succ]
           with_reducible rfl
         · (refine Or.inl ⟨?_, Gives.call (f := 16) (args := #[.agg (bytes 16 (h)), .slice A n c]) ?_ ?_⟩; rfl; (intro wz hz; go_simp); intro wz hz; exact (refHash_any h bf A n c HM.out wz hz.r1).mono fun e wy h => ⟨h.1, Hs.later hz h.2⟩)
         simp only [Act.put, List.setIfInBounds_toArray, List.set_cons_zero, List.set_cons_succ])
      | (refine Chain.step (oi := ?_) (v := ?_) ?_ (by kernel_rfl) (by kernel_rfl) (by kernel_rfl) ?_ ?_
         rotate_left 2
         · simp only [List.getElem?_toArray, List.getElem?_cons_zero, List.getElem?_cons_succ]
           with_reducible rfl
         · (refine Or.inl ⟨?_, Gives.val ?_⟩; rfl; intro wz hz; refine conv_val (S := Hs w h bf n A A2) (A := A2) (n := n) (c := c2) (bf := bf) ?_ (fun _ h => h.r2) wz hz; rfl)
         simp only [Act.put, List.setIfInBounds_toArray, List.set_cons_zero, List.set_cons_succ])
      | (refine Chain.step (oi := ?_) (v := ?_) ?_ (by kernel_rfl) (by kernel_rfl) (by kernel_rfl) ?_ ?_
         rotate_left 2
         · simp only [List.getElem?_toArray, List.getElem?_cons_zero, List.getElem?_cons_succ]
           with_reducible rfl
         · (refine Or.inl ⟨?_, Gives.val ?_⟩; rfl; intro wz hz; refine conv_val (S := Hs w h bf n A A2) (A := A) (n := n) (c := c) (bf := bf) ?_ (fun _ h => h.r1) wz hz; rfl)
         simp only [Act.put, List.setIfInBounds_toArray, List.set_cons_zero, List.set_cons_succ])
      | (refine Chain.step (oi := ?_) (v := ?_) ?_ (by kernel_rfl) (by kernel_rfl) (by kernel_rfl) ?_ ?_
         rotate_left 2
         · simp only [List.getElem?_toArray, List.getElem?_cons_zero, List.getElem?_cons_succ]
           with_reducible rfl
         · (refine Or.inl ⟨?_, Gives.val ?_⟩; rfl; intro w _hw; go_simp; with_reducible rfl)
         simp only [Act.put, List.setIfInBounds_toArray, List.set_cons_zero, List.set_cons_succ])
    refine Chain.done fun w9 hw9 => ?_
    refine wpAny_ready (rs := [17]) (by kernel_rfl) (by simp) ?_
    refine AllReady.cons (o := ?_) ?_ (fun K hK => ?_) AllReady.nil
    rotate_left 1
    · simp only [List.getElem?_toArray, List.getElem?_cons_zero, List.getElem?_cons_succ]
      with_reducible rfl
    go_simp
    refine hK _ _ ?_
    clear hK K
    refine wpAny_done (by kernel_rfl) ?_ _
    go_wp2
    go_ret
    exact ⟨rfl, hw9.bel⟩
end Go.Proofs.Ytddehfhklalfgaa
