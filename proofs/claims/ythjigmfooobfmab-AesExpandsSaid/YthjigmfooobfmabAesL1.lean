/-
  THE WALK of the statement AesKeyed: true at every input.
-/
import Derived.Test.YthjigmfooobfmabAesS
import Derived.IntWalk
import Derived.Deep.DeepCutAuto
namespace Go.Proofs.Ythjigmfooobfmab
open Go.RowKit Gf
set_option linter.unusedSimpArgs false

attribute [local go_sem] eq_blk
def overK (a k : Bf) (i : Nat) : Bf := fun j => if j < i then a j ^^^ k j else a j
theorem overK_zero (a k : Bf) (i : Nat) (_ : i < 16) : a i = overK a k 0 i := by unfold overK; rw [if_neg (by omega)]
theorem overK_at (a k : Bf) {i : Nat} : overK a k i i = a i := by unfold overK; rw [if_neg (by omega)]
theorem overK_step (a k : Bf) (m : Nat) (i : Nat) (_ : i < 16) : upd (overK a k m) m (a m ^^^ k m) i = overK a k (m + 1) i := by
  unfold upd overK
  by_cases e : i = m
  · subst e; rw [if_pos rfl, if_pos (by omega)]
  · rw [if_neg e]
    by_cases e1 : i < m
    · rw [if_pos e1, if_pos (by omega)]
    · rw [if_neg e1, if_neg (by omega)]
theorem overK_rnd (s k : Bf) (last : Bool) (i : Nat) (hi : i < 16) : overK (rndB s (fun _ => 0#8) last) k 16 i = rndB s k last i := by
  unfold overK rndB
  rw [if_pos hi]; simp
set_option maxRecDepth 100000 in
set_option maxHeartbeats 4000000 in
theorem aesKeyed_walk (s k : Bf) (last : Bool) (w : World) : Calls Try.prog 11 #[.agg (bytes 16 s), .agg (bytes 16 k), .bool last] w fun e w' => e = .returned (.bool true) ∧ Below w.heap.size w w' := by
  have H0 := H2.start w 23 16 23 16 s k
  have hng := no_guard
  go_enter Try.func11, Try.ntmps11
  go_wp2_with fail
  refine (shown_any _).mono ?_
  rintro e w1 ⟨rfl, hb1⟩
  have Ha := H0.later hb1
  clear H0 hb1
  go_wp2_with (first | (with_reducible refine load_blk 23 rfl rfl (.tmp 3) rfl w.heap.size 0 rfl _ Ha.b1 (by decide) ?_) | (with_reducible refine wpList_run rfl (build_run built23 _) ?_))
  rw [part_zero]
  refine (round_any s (fun _ => 0#8) last _).mono ?_
  rintro e w2 ⟨rfl, hb2⟩
  have Hb := Ha.later hb2
  clear Ha hb2
  have HY : H3 w 23 16 w.heap.size 23 16 (w.heap.size + 1) 23 16 w2.heap.size s k (fun _ => 0#8) (w2.alloc (.cells zero16 23)) := Hb.more 23 16 _
  have HZ := HY.put3 (rndB s (fun _ => 0#8) last)
  go_upto_region 3 with (with_reducible refine store_blk 23 rfl rfl (.tmp 8) (.tmp 14) rfl w2.heap.size 0 _ (rndB s (fun _ => 0#8) last) rfl rfl HY.b3 (by decide) ?_)
  simp only [Act.put]
  obtain ⟨g3, hg⟩ : ∃ g, g = w2.heap.size := ⟨_, rfl⟩
  have HS : H3 w 23 16 w.heap.size 23 16 (w.heap.size + 1) 23 16 g3 s k (rndB s (fun _ => 0#8) last) ((w2.alloc (.cells zero16 23)).setCells g3 0 (bytes (lenOf 23) (rndB s (fun _ => 0#8) last)).toList) := by rw [hg]; exact HZ
  simp only [← hg]
  clear HY HZ Hb
  generalize ((w2.alloc (.cells zero16 23)).setCells g3 0 (bytes (lenOf 23) (rndB s (fun _ => 0#8) last)).toList) = w3 at HS ⊢
  clear hg
  obtain ⟨a, ha⟩ : ∃ a, a = rndB s (fun _ => 0#8) last := ⟨_, rfl⟩
  have hend : ∀ i, i < 16 → overK a k 16 i = rndB s k last i := ha ▸ overK_rnd s k last
  rw [← ha] at HS ⊢
  clear ha
  have HT : H3 w 23 16 w.heap.size 23 16 (w.heap.size + 1) 23 16 g3 s k (overK a k 0) w3 := HS.as3 (overK_zero a k)
  clear HS
  go_wp2
  go_loopw [9] (fun x w' => ∃ i : Nat, i ≤ 16 ∧ x = .int .i64 i ∧ H3 w 23 16 w.heap.size 23 16 (w.heap.size + 1) 23 16 g3 s k (overK a k i) w') (fun x _ => 16 - (intOf x).toNat)
  case atStart => exact ⟨0, by omega, rfl, HT⟩
  case round =>
    clear HT
    obtain ⟨i, hi, rfl, hr⟩ := hrel
    by_cases hlt : i < 16
    · have hd : decide ((i : Int) < 16) = true := decide_eq_true (by omega)
      have z3 : (i : Int) < 16 := by omega
      have x1 := bits_xor8 (a i) (k i)
      simp only [BitVec.toNat_xor] at x1
      go_wp2
      refine wp_region_begin (by kernel_rfl) ?_
      refine wpAny_steady (H3 w 23 16 w.heap.size 23 16 (w.heap.size + 1) 23 16 g3 s k (overK a k i)) [0, 1, 2, 3, 4, 5, 6, 7, 8] (by kernel_rfl) (hr.drew) ?_
      repeat first
        | (refine Chain.step (oi := ?_) (v := ?_) ?_ (by kernel_rfl) (by kernel_rfl) (by kernel_rfl) ?_ ?_
           rotate_left 2
           · simp only [List.getElem?_toArray, List.getElem?_cons_zero, List.getElem?_cons_succ]
             with_reducible rfl
           · (refine Or.inl ⟨?_, Gives.val ?_⟩; rfl; intro wz hz; have q1 := hz.b3.byte (i := i) hlt; have q2 := hz.b2.byte (i := i) hlt; rw [overK_at] at q1; go_simp; with_reducible rfl)
           simp only [Act.put, List.setIfInBounds_toArray, List.set_cons_zero, List.set_cons_succ])
      refine Chain.done fun w9 hw9 => ?_
      have y1 := hw9.b3.byte (i := i) hlt
      have y2 := hw9.b3.frozen i
      have HN := (hw9.byte3 i (a i ^^^ k i)).as3 (overK_step a k i)
      refine wpAny_ready (rs := [9]) (by kernel_rfl) (by simp) ?_
      refine AllReady.cons (o := ?_) ?_ (fun K hK => ?_) AllReady.nil
      rotate_left 1
      · simp only [List.getElem?_toArray, List.getElem?_cons_zero, List.getElem?_cons_succ]
        with_reducible rfl
      go_simp
      refine hK _ _ ?_
      clear hK K
      refine wpAny_done (by kernel_rfl) ?_ _
      go_wp2
      first
        | exact ⟨⟨i + 1, by omega, by go_num, HN⟩, by simp [intOf]; omega⟩
        | (refine ⟨⟨_, _, _, _, _, _, _, _, _, _, _, ⟨i + 1, by omega, ?_, HN⟩, rfl⟩, ?_⟩
           · go_num
           · simp [intOf]; omega)
    · obtain rfl : i = 16 := by omega
      have HE : H3 w 23 16 w.heap.size 23 16 (w.heap.size + 1) 23 16 g3 s k (rndB s k last) wr := hr.as3 hend
      clear hr hend
      have hs0 : sameB 16 (rndB s k last) (rndB s k last) = true := sameB_of (fun _ _ => rfl)
      go_wp2
      refine wp_region_begin (by kernel_rfl) ?_
      refine wpAny_steady (H3 w 23 16 w.heap.size 23 16 (w.heap.size + 1) 23 16 g3 s k (rndB s k last)) [0, 1, 2, 3, 4, 5, 6, 7, 8] (by kernel_rfl) (HE.drew) ?_
      repeat first
        | (refine Chain.step (oi := ?_) (v := .agg (bytes 16 (rndB s k last))) ?_ (by kernel_rfl) (by kernel_rfl) (by kernel_rfl) ?_ ?_
           rotate_left 1
           · simp only [List.getElem?_toArray, List.getElem?_cons_zero, List.getElem?_cons_succ]
             with_reducible rfl
           · (refine Or.inl ⟨?_, Gives.val ?_⟩; rfl; intro wz hz; refine load_all (S := H3 w 23 16 w.heap.size 23 16 (w.heap.size + 1) 23 16 g3 s k (rndB s k last)) (ty := 23) (g := g3) (f := rndB s k last) rfl ?_ (fun _ h => h.b3) wz hz; rfl)
           simp only [Act.put, List.setIfInBounds_toArray, List.set_cons_zero, List.set_cons_succ])
        | (refine Chain.step (oi := ?_) (v := .agg (bytes 16 s)) ?_ (by kernel_rfl) (by kernel_rfl) (by kernel_rfl) ?_ ?_
           rotate_left 1
           · simp only [List.getElem?_toArray, List.getElem?_cons_zero, List.getElem?_cons_succ]
             with_reducible rfl
           · (refine Or.inl ⟨?_, Gives.val ?_⟩; rfl; intro wz hz; refine load_all (S := H3 w 23 16 w.heap.size 23 16 (w.heap.size + 1) 23 16 g3 s k (rndB s k last)) (ty := 23) (g := w.heap.size) (f := s) rfl ?_ (fun _ h => h.b1) wz hz; rfl)
           simp only [Act.put, List.setIfInBounds_toArray, List.set_cons_zero, List.set_cons_succ])
        | (refine Chain.step (oi := ?_) (v := .agg (bytes 16 k)) ?_ (by kernel_rfl) (by kernel_rfl) (by kernel_rfl) ?_ ?_
           rotate_left 1
           · simp only [List.getElem?_toArray, List.getElem?_cons_zero, List.getElem?_cons_succ]
             with_reducible rfl
           · (refine Or.inl ⟨?_, Gives.val ?_⟩; rfl; intro wz hz; refine load_all (S := H3 w 23 16 w.heap.size 23 16 (w.heap.size + 1) 23 16 g3 s k (rndB s k last)) (ty := 23) (g := w.heap.size + 1) (f := k) rfl ?_ (fun _ h => h.b2) wz hz; rfl)
           simp only [Act.put, List.setIfInBounds_toArray, List.set_cons_zero, List.set_cons_succ])
        | (refine Chain.step (oi := ?_) (v := .agg (bytes 16 (rndB s k last))) ?_ (by kernel_rfl) (by kernel_rfl) (by kernel_rfl) ?_ ?_
           rotate_left 1
           · simp only [List.getElem?_toArray, List.getElem?_cons_zero, List.getElem?_cons_succ]
             with_reducible rfl
           · (refine Or.inl ⟨?_, Gives.call (f := 18) (args := #[.agg (bytes 16 s), .agg (bytes 16 k), .bool last]) ?_ ?_⟩; rfl; (intro wz hz; go_simp); intro wz hz; exact (round_any s k last wz).mono fun e wy h => ⟨h.1, H3.later hz h.2⟩)
           simp only [Act.put, List.setIfInBounds_toArray, List.set_cons_zero, List.set_cons_succ])
        | (refine Chain.step (oi := ?_) (v := ?_) ?_ (by kernel_rfl) (by kernel_rfl) (by kernel_rfl) ?_ ?_
           rotate_left 2
           · simp only [List.getElem?_toArray, List.getElem?_cons_zero, List.getElem?_cons_succ]
             with_reducible rfl
           · (refine Or.inl ⟨?_, Gives.val ?_⟩; rfl; intro wz hz; go_simp; with_reducible rfl)
           simp only [Act.put, List.setIfInBounds_toArray, List.set_cons_zero, List.set_cons_succ])
      refine Chain.done fun w9 hw9 => ?_
      refine wpAny_ready (rs := [9]) (by kernel_rfl) (by simp) ?_
      refine AllReady.cons (o := ?_) ?_ (fun K hK => ?_) AllReady.nil
      rotate_left 1
      · simp only [List.getElem?_toArray, List.getElem?_cons_zero, List.getElem?_cons_succ]
        with_reducible rfl
      go_simp
      refine hK _ _ ?_
      clear hK K
      refine wpAny_done (by kernel_rfl) ?_ _
      go_wp2
      go_ret
      exact ⟨rfl, hw9.bel⟩
end Go.Proofs.Ythjigmfooobfmab
