/-
  THE WALK of the statement AesMade: true at every input.
-/
import Derived.Test.YthjigmfooobfmabAesL1
import Derived.IntWalk
import Derived.Deep.DeepCutAuto
namespace Go.Proofs.Ythjigmfooobfmab
open Go.RowKit Gf
set_option linter.unusedSimpArgs false

attribute [local go_sem] eq_blk zero32
theorem overK_enc (kf bf : Bf) (i : Nat) (hi : i < 16) : overK bf (expB kf) 16 i = encS kf bf 0 i := by unfold overK; rw [if_pos hi]; rfl
set_option maxRecDepth 100000 in
set_option maxHeartbeats 4000000 in
theorem aesMade_walk (kf bf : Bf) (w : World) : Calls Try.prog 9 #[.agg (bytes 32 kf), .agg (bytes 16 bf)] w fun e w' => e = .returned (.bool true) ∧ Below w.heap.size w w' := by
  have H0 := H2.start w 31 32 23 16 kf bf
  have hng := no_guard
  go_enter Try.func9, Try.ntmps9
  go_wp2_with fail
  refine (shown_any _).mono ?_
  rintro e w1 ⟨rfl, hb1⟩
  have Ha := H0.later hb1
  clear H0 hb1
  go_wp2_with (with_reducible refine load_blk 31 rfl rfl (.tmp 2) rfl w.heap.size 0 rfl _ Ha.b1 (by decide) ?_)
  rw [part_zero]
  refine (expand_any kf _).mono ?_
  rintro e w2 ⟨rfl, hb2⟩
  have Hb := Ha.later hb2
  clear Ha hb2
  have HY : H3 w 31 32 w.heap.size 23 16 (w.heap.size + 1) 32 240 w2.heap.size kf bf (fun _ => 0#8) (w2.alloc (.cells (bytes 240 fun _ => 0#8) 32)) := Hb.more 32 240 _
  have HZ := HY.put3 (expB kf)
  go_upto_region 3 with (with_reducible refine store_blk 32 rfl rfl (.tmp 6) (.tmp 12) rfl w2.heap.size 0 _ (expB kf) rfl rfl HY.b3 (by decide) ?_)
  simp only [Act.put]
  obtain ⟨g3, hg⟩ : ∃ g, g = w2.heap.size := ⟨_, rfl⟩
  have HS : H3 w 31 32 w.heap.size 23 16 (w.heap.size + 1) 32 240 g3 kf bf (expB kf) ((w2.alloc (.cells (bytes 240 fun _ => 0#8) 32)).setCells g3 0 (bytes (lenOf 32) (expB kf)).toList) := by rw [hg]; exact HZ
  simp only [← hg]
  clear HY HZ Hb
  generalize ((w2.alloc (.cells (bytes 240 fun _ => 0#8) 32)).setCells g3 0 (bytes (lenOf 32) (expB kf)).toList) = w3 at HS ⊢
  clear hg
  have HY : H4 w 31 32 w.heap.size 23 16 (w.heap.size + 1) 32 240 g3 23 16 w3.heap.size kf bf (expB kf) (fun _ => 0#8) (w3.alloc (.cells zero16 23)) := HS.more 23 16 _
  have HZ := HY.put4 bf
  go_upto_region 4 with (first | (with_reducible refine load_blk 23 rfl rfl (.tmp 3) rfl (w.heap.size + 1) 0 rfl _ HS.b2 (by decide) ?_) | (with_reducible refine store_blk 23 rfl rfl (.tmp 7) (.tmp 13) rfl w3.heap.size 0 _ bf rfl rfl HY.b4 (by decide) ?_))
  simp only [Act.put]
  obtain ⟨g4, hg⟩ : ∃ g, g = w3.heap.size := ⟨_, rfl⟩
  have HT : H4 w 31 32 w.heap.size 23 16 (w.heap.size + 1) 32 240 g3 23 16 g4 kf bf (expB kf) bf ((w3.alloc (.cells zero16 23)).setCells g4 0 (bytes (lenOf 23) bf).toList) := by rw [hg]; exact HZ
  simp only [← hg]
  clear HY HZ HS
  generalize ((w3.alloc (.cells zero16 23)).setCells g4 0 (bytes (lenOf 23) bf).toList) = w4 at HT ⊢
  clear hg
  have HS : H4 w 31 32 w.heap.size 23 16 (w.heap.size + 1) 32 240 g3 23 16 g4 kf bf (expB kf) (overK bf (expB kf) 0) w4 := HT.as4 (overK_zero bf (expB kf))
  clear HT
  go_wp2
  go_loopw [8] (fun x w' => ∃ i : Nat, i ≤ 16 ∧ x = .int .i64 i ∧ H4 w 31 32 w.heap.size 23 16 (w.heap.size + 1) 32 240 g3 23 16 g4 kf bf (expB kf) (overK bf (expB kf) i) w') (fun x _ => 16 - (intOf x).toNat)
  case atStart => exact ⟨0, by omega, rfl, HS⟩
  case round =>
    clear HS
    obtain ⟨i, hi, rfl, hr⟩ := hrel
    by_cases hlt : i < 16
    · have hd : decide ((i : Int) < 16) = true := decide_eq_true (by omega)
      have z3 : (i : Int) < 16 := by omega
      have x1 := bits_xor8 (bf i) (expB kf i)
      simp only [BitVec.toNat_xor] at x1
      go_wp2
      refine wp_region_begin (by kernel_rfl) ?_
      refine wpAny_steady (H4 w 31 32 w.heap.size 23 16 (w.heap.size + 1) 32 240 g3 23 16 g4 kf bf (expB kf) (overK bf (expB kf) i)) [0, 1, 2, 3, 4, 5, 6, 7, 8, 9] (by kernel_rfl) (hr.drew) ?_
      repeat first
        | (refine Chain.step (oi := ?_) (v := ?_) ?_ (by kernel_rfl) (by kernel_rfl) (by kernel_rfl) ?_ ?_
           rotate_left 2
           · simp only [List.getElem?_toArray, List.getElem?_cons_zero, List.getElem?_cons_succ]
             with_reducible rfl
           · (refine Or.inl ⟨?_, Gives.val ?_⟩; rfl; intro wz hz; have q1 := hz.b4.byte (i := i) hlt; have q2 := hz.b3.byte (i := i) (by omega); rw [overK_at] at q1; go_simp; with_reducible rfl)
           simp only [Act.put, List.setIfInBounds_toArray, List.set_cons_zero, List.set_cons_succ])
      refine Chain.done fun w9 hw9 => ?_
      have y1 := hw9.b4.byte (i := i) hlt
      have y2 := hw9.b4.frozen i
      have HN := (hw9.byte4 i (bf i ^^^ expB kf i)).as4 (overK_step bf (expB kf) i)
      refine wpAny_ready (rs := [10]) (by kernel_rfl) (by simp) ?_
      refine AllReady.cons (o := ?_) ?_ (fun K hK => ?_) AllReady.nil
      rotate_left 1
      · simp only [List.getElem?_toArray, List.getElem?_cons_zero, List.getElem?_cons_succ]
        with_reducible rfl
      go_simp
      refine hK _ _ ?_
      clear hK K
      refine wpAny_done (by kernel_rfl) ?_ _
      go_wp2
      first
        | exact ⟨⟨i + 1, by omega, by go_num, HN⟩, by simp [intOf]; omega⟩
        | (refine ⟨⟨_, _, _, _, _, _, _, _, _, _, _, _, _, _, _, _, _, _, _, _, ⟨i + 1, by omega, ?_, HN⟩, rfl⟩, ?_⟩
           · go_num
           · simp [intOf]; omega)
    · obtain rfl : i = 16 := by omega
      have HE : H4 w 31 32 w.heap.size 23 16 (w.heap.size + 1) 32 240 g3 23 16 g4 kf bf (expB kf) (encS kf bf 0) wr := hr.as4 (overK_enc kf bf)
      clear hr
      go_wp2
      go_loopw [9] (fun x w' => ∃ i : Nat, i ≤ 14 ∧ x = .int .i64 ((i : Int) + 1) ∧ H4 w 31 32 w.heap.size 23 16 (w.heap.size + 1) 32 240 g3 23 16 g4 kf bf (expB kf) (encS kf bf i) w') (fun x _ => 15 - (intOf x).toNat)
      case atStart => exact ⟨0, by omega, rfl, HE⟩
      case round =>
        clear HE
        obtain ⟨i, hi, rfl, hr⟩ := hrel
        by_cases hlt : i < 14
        · have hd : decide ((i : Int) + 1 < 15) = true := decide_eq_true (by omega)
          go_wp2
          have z2 : (i : Int) + 1 < 15 := by omega
          have z3 : (0 : Int) ≤ (i : Int) + 1 := by omega
          have z4 : ((i : Int) + 1).toNat = i + 1 := by omega
          have z5 : ((i : Int) + 1 == 14) = decide (i = 13) := by
            by_cases e : i = 13
            · subst e; rfl
            · rw [decide_eq_false e, beq_eq_false_iff_ne]; omega
          have le1 : (i + 1) * 16 + lenOf 23 ≤ 240 := by show (i + 1) * 16 + 16 ≤ 240; omega
          have HR := fun w => round_any (encS kf bf i) (part (expB kf) ((i + 1) * 16)) (decide (i = 13)) w
          refine wp_region_begin (by kernel_rfl) ?_
          refine wpAny_steady (H4 w 31 32 w.heap.size 23 16 (w.heap.size + 1) 32 240 g3 23 16 g4 kf bf (expB kf) (encS kf bf i)) [0, 1, 2, 3, 4, 5, 6] (by kernel_rfl) (hr.drew) ?_
          repeat first
            | (refine Chain.step (oi := ?_) (v := .agg (bytes 16 (encS kf bf i))) ?_ (by kernel_rfl) (by kernel_rfl) (by kernel_rfl) ?_ ?_
               rotate_left 1
               · simp only [List.getElem?_toArray, List.getElem?_cons_zero, List.getElem?_cons_succ]
                 with_reducible rfl
               · (refine Or.inl ⟨?_, Gives.val ?_⟩; rfl; intro wz hz; refine load_all (S := H4 w 31 32 w.heap.size 23 16 (w.heap.size + 1) 32 240 g3 23 16 g4 kf bf (expB kf) (encS kf bf i)) (ty := 23) (g := g4) (f := encS kf bf i) rfl ?_ (fun _ h => h.b4) wz hz; rfl)
               simp only [Act.put, List.setIfInBounds_toArray, List.set_cons_zero, List.set_cons_succ])
            | (refine Chain.step (oi := ?_) (v := .agg (bytes 16 (part (expB kf) ((i + 1) * 16)))) ?_ (by kernel_rfl) (by kernel_rfl) (by kernel_rfl) ?_ ?_
               rotate_left 1
               · simp only [List.getElem?_toArray, List.getElem?_cons_zero, List.getElem?_cons_succ]
                 with_reducible rfl
               · (refine Or.inl ⟨?_, Gives.val ?_⟩; rfl; intro wz hz; refine load_val (S := H4 w 31 32 w.heap.size 23 16 (w.heap.size + 1) 32 240 g3 23 16 g4 kf bf (expB kf) (encS kf bf i)) (ty := 23) (g := g3) (off := (i + 1) * 16) (N := 240) (f := expB kf) rfl ?_ le1 (fun _ h => h.b3) wz hz; rfl)
               simp only [Act.put, List.setIfInBounds_toArray, List.set_cons_zero, List.set_cons_succ])
            | (refine Chain.step (oi := ?_) (v := .agg (bytes 16 (encS kf bf (i + 1)))) ?_ (by kernel_rfl) (by kernel_rfl) (by kernel_rfl) ?_ ?_
               rotate_left 1
               · simp only [List.getElem?_toArray, List.getElem?_cons_zero, List.getElem?_cons_succ]
                 with_reducible rfl
               · (refine Or.inl ⟨?_, Gives.call (f := 18) (args := #[.agg (bytes 16 (encS kf bf i)), .agg (bytes 16 (part (expB kf) ((i + 1) * 16))), .bool (decide (i = 13))]) ?_ ?_⟩; rfl; (intro wz hz; go_simp); intro wz hz; exact (HR wz).mono fun e wy h => ⟨h.1, H4.later hz h.2⟩)
               simp only [Act.put, List.setIfInBounds_toArray, List.set_cons_zero, List.set_cons_succ])
            | (refine Chain.step (oi := ?_) (v := ?_) ?_ (by kernel_rfl) (by kernel_rfl) (by kernel_rfl) ?_ ?_
               rotate_left 2
               · simp only [List.getElem?_toArray, List.getElem?_cons_zero, List.getElem?_cons_succ]
                 with_reducible rfl
               · (refine Or.inl ⟨?_, Gives.val ?_⟩; rfl; intro wz hz; go_simp; with_reducible rfl)
               simp only [Act.put, List.setIfInBounds_toArray, List.set_cons_zero, List.set_cons_succ])
          refine Chain.done fun w9 hw9 => ?_
          refine wpAny_ready (rs := [7]) (by kernel_rfl) (by simp) ?_
          refine AllReady.cons (o := ?_) ?_ (fun K hK => ?_) AllReady.nil
          rotate_left 1
          · simp only [List.getElem?_toArray, List.getElem?_cons_zero, List.getElem?_cons_succ]
            with_reducible rfl
          refine step_store 23 rfl rfl (.tmp 7) (.tmp 38) rfl g4 0 _ (encS kf bf (i + 1)) rfl rfl hw9.b4 (by decide) ?_
          refine hK _ _ ?_
          clear hK K
          refine wpAny_done (by kernel_rfl) ?_ _
          have HN := hw9.put4 (encS kf bf (i + 1))
          simp only [Act.put]
          generalize hq : (w9.setCells g4 0 (bytes (lenOf 23) (encS kf bf (i + 1))).toList) = w8
          have HN : H4 w 31 32 w.heap.size 23 16 (w.heap.size + 1) 32 240 g3 23 16 g4 kf bf (expB kf) (encS kf bf (i + 1)) w8 := hq ▸ HN
          clear hw9 hr HR z2 z3 z4 z5 le1 hq
          go_wp2
          first
            | exact ⟨⟨i + 1, by omega, by go_num, HN⟩, by simp [intOf]; omega⟩
            | (refine ⟨⟨_, _, _, _, _, _, _, _, _, _, _, _, _, _, _, _, _, _, _, _, ⟨i + 1, by omega, ?_, HN⟩, rfl⟩, ?_⟩
               · go_num
               · simp [intOf]; omega)
        · obtain rfl : i = 14 := by omega
          have hs0 : sameB 16 (encS kf bf 14) (encB kf bf) = true := sameB_of (fun _ _ => rfl)
          go_wp2
          refine wp_region_begin (by kernel_rfl) ?_
          refine wpAny_steady (H4 w 31 32 w.heap.size 23 16 (w.heap.size + 1) 32 240 g3 23 16 g4 kf bf (expB kf) (encS kf bf 14)) [0, 1, 2, 3, 4, 5, 6, 7] (by kernel_rfl) (hr.drew) ?_
          repeat first
            | (refine Chain.step (oi := ?_) (v := .agg (bytes 16 (encS kf bf 14))) ?_ (by kernel_rfl) (by kernel_rfl) (by kernel_rfl) ?_ ?_
               rotate_left 1
               · simp only [List.getElem?_toArray, List.getElem?_cons_zero, List.getElem?_cons_succ]
                 with_reducible rfl
               · (refine Or.inl ⟨?_, Gives.val ?_⟩; rfl; intro wz hz; refine load_all (S := H4 w 31 32 w.heap.size 23 16 (w.heap.size + 1) 32 240 g3 23 16 g4 kf bf (expB kf) (encS kf bf 14)) (ty := 23) (g := g4) (f := encS kf bf 14) rfl ?_ (fun _ h => h.b4) wz hz; rfl)
               simp only [Act.put, List.setIfInBounds_toArray, List.set_cons_zero, List.set_cons_succ])
            | (refine Chain.step (oi := ?_) (v := .agg (bytes 32 kf)) ?_ (by kernel_rfl) (by kernel_rfl) (by kernel_rfl) ?_ ?_
               rotate_left 1
               · simp only [List.getElem?_toArray, List.getElem?_cons_zero, List.getElem?_cons_succ]
                 with_reducible rfl
               · (refine Or.inl ⟨?_, Gives.val ?_⟩; rfl; intro wz hz; refine load_all (S := H4 w 31 32 w.heap.size 23 16 (w.heap.size + 1) 32 240 g3 23 16 g4 kf bf (expB kf) (encS kf bf 14)) (ty := 31) (g := w.heap.size) (f := kf) rfl ?_ (fun _ h => h.b1) wz hz; rfl)
               simp only [Act.put, List.setIfInBounds_toArray, List.set_cons_zero, List.set_cons_succ])
            | (refine Chain.step (oi := ?_) (v := .agg (bytes 16 bf)) ?_ (by kernel_rfl) (by kernel_rfl) (by kernel_rfl) ?_ ?_
               rotate_left 1
               · simp only [List.getElem?_toArray, List.getElem?_cons_zero, List.getElem?_cons_succ]
                 with_reducible rfl
               · (refine Or.inl ⟨?_, Gives.val ?_⟩; rfl; intro wz hz; refine load_all (S := H4 w 31 32 w.heap.size 23 16 (w.heap.size + 1) 32 240 g3 23 16 g4 kf bf (expB kf) (encS kf bf 14)) (ty := 23) (g := w.heap.size + 1) (f := bf) rfl ?_ (fun _ h => h.b2) wz hz; rfl)
               simp only [Act.put, List.setIfInBounds_toArray, List.set_cons_zero, List.set_cons_succ])
            | (refine Chain.step (oi := ?_) (v := .agg (bytes 16 (encB kf bf))) ?_ (by kernel_rfl) (by kernel_rfl) (by kernel_rfl) ?_ ?_
               rotate_left 1
               · simp only [List.getElem?_toArray, List.getElem?_cons_zero, List.getElem?_cons_succ]
                 with_reducible rfl
               · (refine Or.inl ⟨?_, Gives.call (f := 20) (args := #[.agg (bytes 32 kf), .agg (bytes 16 bf)]) ?_ ?_⟩; rfl; (intro wz hz; go_simp); intro wz hz; exact (encrypt_any kf bf wz).mono fun e wy h => ⟨h.1, H4.later hz h.2⟩)
               simp only [Act.put, List.setIfInBounds_toArray, List.set_cons_zero, List.set_cons_succ])
            | (refine Chain.step (oi := ?_) (v := ?_) ?_ (by kernel_rfl) (by kernel_rfl) (by kernel_rfl) ?_ ?_
               rotate_left 2
               · simp only [List.getElem?_toArray, List.getElem?_cons_zero, List.getElem?_cons_succ]
                 with_reducible rfl
               · (refine Or.inl ⟨?_, Gives.val ?_⟩; rfl; intro wz hz; go_simp; with_reducible rfl)
               simp only [Act.put, List.setIfInBounds_toArray, List.set_cons_zero, List.set_cons_succ])
          refine Chain.done fun w9 hw9 => ?_
          refine wpAny_ready (rs := [8]) (by kernel_rfl) (by simp) ?_
          refine AllReady.cons (o := ?_) ?_ (fun K hK => ?_) AllReady.nil
          rotate_left 1
          · simp only [List.getElem?_toArray, List.getElem?_cons_zero, List.getElem?_cons_succ]
            with_reducible rfl
          go_simp
          refine hK _ _ ?_
          clear hK K
          refine wpAny_done (by kernel_rfl) ?_ _
          go_wp2
          go_ret
          exact ⟨rfl, hw9.bel⟩
end Go.Proofs.Ythjigmfooobfmab
