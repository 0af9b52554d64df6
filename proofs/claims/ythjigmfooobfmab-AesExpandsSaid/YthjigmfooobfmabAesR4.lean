/-
  THE WALK of the reference's Encrypts.
-/
import Derived.Test.YthjigmfooobfmabAesR3
import Derived.IntWalk
import Derived.Deep.DeepCutAuto
namespace Go.Proofs.Ythjigmfooobfmab
open Go.RowKit Gf
set_option linter.unusedSimpArgs false

set_option maxRecDepth 100000 in
set_option maxHeartbeats 4000000 in
theorem refEncs_any (kf bf : Bf) (w : World) : Calls Try.prog 32 #[.agg (bytes 240 (expB kf)), .agg (bytes 16 bf), .agg (bytes 256 tabB)] w fun e w' => e = .returned (.agg (bytes 16 (encB kf bf))) ∧ Below w.heap.size w w' := by
  have H0 : H4 w 32 240 w.heap.size 23 16 (w.heap.size + 1) 51 256 (w.heap.size + 1 + 1) 23 16 (w.heap.size + 1 + 1 + 1) (expB kf) bf tabB (fun _ => 0#8) ((((w.alloc (.cells (bytes 240 (expB kf)) 32)).alloc (.cells (bytes 16 bf) 23)).alloc (.cells (bytes 256 tabB) 51)).alloc (.cells zero16 23)) := H4.start w 32 240 23 16 51 256 23 16 (expB kf) bf tabB (fun _ => 0#8)
  go_enter Try.func32, Try.ntmps32
  go_upto_region 2 with fail
  generalize ((((w.alloc (.cells (bytes 240 (expB kf)) 32)).alloc (.cells (bytes 16 bf) 23)).alloc (.cells (bytes 256 tabB) 51)).alloc (.cells zero16 23)) = w1 at H0 ⊢
  have HS : H4 w 32 240 w.heap.size 23 16 (w.heap.size + 1) 51 256 (w.heap.size + 1 + 1) 23 16 (w.heap.size + 1 + 1 + 1) (expB kf) (overK bf (expB kf) 0) tabB (fun _ => 0#8) w1 := H0.as2 (overK_zero bf (expB kf))
  clear H0
  go_wp2
  go_loopw [7] (fun x w' => ∃ i : Nat, i ≤ 16 ∧ x = .int .i64 i ∧ H4 w 32 240 w.heap.size 23 16 (w.heap.size + 1) 51 256 (w.heap.size + 1 + 1) 23 16 (w.heap.size + 1 + 1 + 1) (expB kf) (overK bf (expB kf) i) tabB (fun _ => 0#8) w') (fun x _ => 16 - (intOf x).toNat)
  case atStart => exact ⟨0, by omega, rfl, HS⟩
  case round =>
    clear HS
    obtain ⟨i, hi, rfl, hr⟩ := hrel
    by_cases hlt : i < 16
    · have hd : decide ((i : Int) < 16) = true := decide_eq_true (by omega)
      have z3 : (i : Int) < 16 := by omega
      have x1 := bits_xor8 (bf i) (expB kf i)
      simp only [BitVec.toNat_xor] at x1
      go_wp2
      refine wp_region_begin (by kernel_rfl) ?_
      refine wpAny_steady (H4 w 32 240 w.heap.size 23 16 (w.heap.size + 1) 51 256 (w.heap.size + 1 + 1) 23 16 (w.heap.size + 1 + 1 + 1) (expB kf) (overK bf (expB kf) i) tabB (fun _ => 0#8)) [0, 1, 2, 3, 4, 5, 6, 7, 8, 9] (by kernel_rfl) (hr.drew) ?_
      repeat first
        | (refine Chain.step (oi := ?_) (v := ?_) ?_ (by kernel_rfl) (by kernel_rfl) (by kernel_rfl) ?_ ?_
           rotate_left 2
           · simp only [List.getElem?_toArray, List.getElem?_cons_zero, List.getElem?_cons_succ]
             with_reducible rfl
           · (refine Or.inl ⟨?_, Gives.val ?_⟩; rfl; intro wz hz; have q1 := hz.b2.byte (i := i) hlt; have q2 := hz.b1.byte (i := i) (by omega); rw [overK_at] at q1; go_simp; with_reducible rfl)
           simp only [Act.put, List.setIfInBounds_toArray, List.set_cons_zero, List.set_cons_succ])
      refine Chain.done fun w9 hw9 => ?_
      have y1 := hw9.b2.byte (i := i) hlt
      have y2 := hw9.b2.frozen i
      have HN := (hw9.byte2 i (bf i ^^^ expB kf i)).as2 (overK_step bf (expB kf) i)
      refine wpAny_ready (rs := [10]) (by kernel_rfl) (by simp) ?_
      refine AllReady.cons (o := ?_) ?_ (fun K hK => ?_) AllReady.nil
      rotate_left 1
      · simp only [List.getElem?_toArray, List.getElem?_cons_zero, List.getElem?_cons_succ]
        with_reducible rfl
      go_simp
      refine hK _ _ ?_
      clear hK K
      refine wpAny_done (by kernel_rfl) ?_ _
      go_wp2
      first
        | exact ⟨⟨i + 1, by omega, by go_num, HN⟩, by simp [intOf]; omega⟩
        | (refine ⟨?_, ?_⟩
           · (repeat apply Exists.intro)
             exact ⟨⟨i + 1, by omega, by go_num, HN⟩, rfl⟩
           · simp [intOf]; omega)
    · obtain rfl : i = 16 := by omega
      have HE : H4 w 32 240 w.heap.size 23 16 (w.heap.size + 1) 51 256 (w.heap.size + 1 + 1) 23 16 (w.heap.size + 1 + 1 + 1) (expB kf) (encS kf bf 0) tabB (fun _ => 0#8) wr := hr.as2 (overK_enc kf bf)
      clear hr
      go_wp2
      go_loopw [8] (fun x w' => ∃ i : Nat, i ≤ 14 ∧ x = .int .i64 ((i : Int) + 1) ∧ H4 w 32 240 w.heap.size 23 16 (w.heap.size + 1) 51 256 (w.heap.size + 1 + 1) 23 16 (w.heap.size + 1 + 1 + 1) (expB kf) (encS kf bf i) tabB (fun _ => 0#8) w') (fun x _ => 15 - (intOf x).toNat)
      case atStart => exact ⟨0, by omega, rfl, HE⟩
      case round =>
        clear HE
        obtain ⟨i, hi, rfl, hr⟩ := hrel
        by_cases hlt : i < 14
        · have hd : decide ((i : Int) + 1 < 15) = true := decide_eq_true (by omega)
          go_wp2
          have z2 : (i : Int) + 1 < 15 := by omega
          have z3 : (0 : Int) ≤ (i : Int) + 1 := by omega
          have z4 : ((i : Int) + 1).toNat = i + 1 := by omega
          have z5 : ((i : Int) + 1 == 14) = decide (i = 13) := by
            by_cases e : i = 13
            · subst e; rfl
            · rw [decide_eq_false e, beq_eq_false_iff_ne]; omega
          have le1 : (i + 1) * 16 + lenOf 23 ≤ 240 := by show (i + 1) * 16 + 16 ≤ 240; omega
          have HR := fun w => refRound_any (encS kf bf i) (part (expB kf) ((i + 1) * 16)) (decide (i = 13)) w
          refine wp_region_begin (by kernel_rfl) ?_
          refine wpAny_steady (H4 w 32 240 w.heap.size 23 16 (w.heap.size + 1) 51 256 (w.heap.size + 1 + 1) 23 16 (w.heap.size + 1 + 1 + 1) (expB kf) (encS kf bf i) tabB (fun _ => 0#8)) [0, 1, 2, 3, 4, 5, 6, 7] (by kernel_rfl) (hr.drew) ?_
          repeat first
            | (refine Chain.step (oi := ?_) (v := .agg (bytes 16 (encS kf bf i))) ?_ (by kernel_rfl) (by kernel_rfl) (by kernel_rfl) ?_ ?_
               rotate_left 1
               · simp only [List.getElem?_toArray, List.getElem?_cons_zero, List.getElem?_cons_succ]
                 with_reducible rfl
               · (refine Or.inl ⟨?_, Gives.val ?_⟩; rfl; intro wz hz; refine load_all (S := H4 w 32 240 w.heap.size 23 16 (w.heap.size + 1) 51 256 (w.heap.size + 1 + 1) 23 16 (w.heap.size + 1 + 1 + 1) (expB kf) (encS kf bf i) tabB (fun _ => 0#8)) (ty := 23) (g := w.heap.size + 1) (f := encS kf bf i) rfl ?_ (fun _ h => h.b2) wz hz; rfl)
               simp only [Act.put, List.setIfInBounds_toArray, List.set_cons_zero, List.set_cons_succ])
            | (refine Chain.step (oi := ?_) (v := .agg (bytes 256 tabB)) ?_ (by kernel_rfl) (by kernel_rfl) (by kernel_rfl) ?_ ?_
               rotate_left 1
               · simp only [List.getElem?_toArray, List.getElem?_cons_zero, List.getElem?_cons_succ]
                 with_reducible rfl
               · (refine Or.inl ⟨?_, Gives.val ?_⟩; rfl; intro wz hz; refine load_all (S := H4 w 32 240 w.heap.size 23 16 (w.heap.size + 1) 51 256 (w.heap.size + 1 + 1) 23 16 (w.heap.size + 1 + 1 + 1) (expB kf) (encS kf bf i) tabB (fun _ => 0#8)) (ty := 51) (g := w.heap.size + 1 + 1) (f := tabB) rfl ?_ (fun _ h => h.b3) wz hz; rfl)
               simp only [Act.put, List.setIfInBounds_toArray, List.set_cons_zero, List.set_cons_succ])
            | (refine Chain.step (oi := ?_) (v := .agg (bytes 16 (part (expB kf) ((i + 1) * 16)))) ?_ (by kernel_rfl) (by kernel_rfl) (by kernel_rfl) ?_ ?_
               rotate_left 1
               · simp only [List.getElem?_toArray, List.getElem?_cons_zero, List.getElem?_cons_succ]
                 with_reducible rfl
               · (refine Or.inl ⟨?_, Gives.val ?_⟩; rfl; intro wz hz; refine load_val (S := H4 w 32 240 w.heap.size 23 16 (w.heap.size + 1) 51 256 (w.heap.size + 1 + 1) 23 16 (w.heap.size + 1 + 1 + 1) (expB kf) (encS kf bf i) tabB (fun _ => 0#8)) (ty := 23) (g := w.heap.size) (off := (i + 1) * 16) (N := 240) (f := expB kf) rfl ?_ le1 (fun _ h => h.b1) wz hz; rfl)
               simp only [Act.put, List.setIfInBounds_toArray, List.set_cons_zero, List.set_cons_succ])
            | (refine Chain.step (oi := ?_) (v := .agg (bytes 16 (encS kf bf (i + 1)))) ?_ (by kernel_rfl) (by kernel_rfl) (by kernel_rfl) ?_ ?_
               rotate_left 1
               · simp only [List.getElem?_toArray, List.getElem?_cons_zero, List.getElem?_cons_succ]
                 with_reducible rfl
               · (refine Or.inl ⟨?_, Gives.call (f := 30) (args := #[.agg (bytes 16 (encS kf bf i)), .agg (bytes 16 (part (expB kf) ((i + 1) * 16))), .bool (decide (i = 13)), .agg (bytes 256 tabB)]) ?_ ?_⟩; rfl; (intro wz hz; go_simp); intro wz hz; exact (HR wz).mono fun e wy h => ⟨h.1, H4.later hz h.2⟩)
               simp only [Act.put, List.setIfInBounds_toArray, List.set_cons_zero, List.set_cons_succ])
            | (refine Chain.step (oi := ?_) (v := ?_) ?_ (by kernel_rfl) (by kernel_rfl) (by kernel_rfl) ?_ ?_
               rotate_left 2
               · simp only [List.getElem?_toArray, List.getElem?_cons_zero, List.getElem?_cons_succ]
                 with_reducible rfl
               · (refine Or.inl ⟨?_, Gives.val ?_⟩; rfl; intro wz hz; go_simp; with_reducible rfl)
               simp only [Act.put, List.setIfInBounds_toArray, List.set_cons_zero, List.set_cons_succ])
          refine Chain.done fun w9 hw9 => ?_
          refine wpAny_ready (rs := [8]) (by kernel_rfl) (by simp) ?_
          refine AllReady.cons (o := ?_) ?_ (fun K hK => ?_) AllReady.nil
          rotate_left 1
          · simp only [List.getElem?_toArray, List.getElem?_cons_zero, List.getElem?_cons_succ]
            with_reducible rfl
          refine step_store 23 rfl rfl (.tmp 4) (.tmp 34) rfl (w.heap.size + 1) 0 _ (encS kf bf (i + 1)) rfl rfl hw9.b2 (by decide) ?_
          refine hK _ _ ?_
          clear hK K
          refine wpAny_done (by kernel_rfl) ?_ _
          have HN := hw9.put2 (encS kf bf (i + 1))
          simp only [Act.put]
          generalize hq : (w9.setCells (w.heap.size + 1) 0 (bytes (lenOf 23) (encS kf bf (i + 1))).toList) = w8
          have HN : H4 w 32 240 w.heap.size 23 16 (w.heap.size + 1) 51 256 (w.heap.size + 1 + 1) 23 16 (w.heap.size + 1 + 1 + 1) (expB kf) (encS kf bf (i + 1)) tabB (fun _ => 0#8) w8 := hq ▸ HN
          clear hw9 hr HR z2 z3 z4 z5 le1 hq
          go_wp2
          first
            | exact ⟨⟨i + 1, by omega, by go_num, HN⟩, by simp [intOf]; omega⟩
            | (refine ⟨?_, ?_⟩
               · (repeat apply Exists.intro)
                 exact ⟨⟨i + 1, by omega, by go_num, HN⟩, rfl⟩
               · simp [intOf]; omega)
        · obtain rfl : i = 14 := by omega
          go_wp2_with (first | (with_reducible refine load_blk 23 rfl rfl (.tmp 4) rfl (w.heap.size + 1) 0 rfl _ hr.b2 (by decide) ?_) | (with_reducible refine store_blk 23 rfl rfl (.tmp 6) (.tmp 35) rfl (w.heap.size + 1 + 1 + 1) 0 _ _ rfl rfl hr.b4 (by decide) ?_))
          rw [part_zero]
          have HF := hr.put4 (encS kf bf 14)
          exact bodyPost_ret (result_blk rfl rfl _ _ (w.heap.size + 1 + 1 + 1) _ rfl HF.b4) rfl ⟨rfl, HF.bel⟩
end Go.Proofs.Ythjigmfooobfmab
