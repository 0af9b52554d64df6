/-
  THE WALKS of the reference's Encrypt, and of the statements AesEncrypts and AesExpands: true at every input.
-/
import Derived.Test.YthjigmfooobfmabAesR5
import Derived.IntWalk
import Derived.Deep.DeepCutAuto
namespace Go.Proofs.Ythjigmfooobfmab
open Go.RowKit Gf
set_option linter.unusedSimpArgs false

attribute [local go_sem] eq_blk zero32
set_option maxRecDepth 100000 in
set_option maxHeartbeats 4000000 in
theorem refEncrypt_any (kf bf : Bf) (w : World) : Calls Try.prog 21 #[.agg (bytes 32 kf), .agg (bytes 16 bf)] w fun e w' => e = .returned (.agg (bytes 16 (encB kf bf))) ∧ Below w.heap.size w w' := by
  have H0 : H3 w 31 32 w.heap.size 23 16 (w.heap.size + 1) 23 16 (w.heap.size + 1 + 1) kf bf (fun _ => 0#8) (((w.alloc (.cells (bytes 32 kf) 31)).alloc (.cells (bytes 16 bf) 23)).alloc (.cells zero16 23)) := H3.start w 31 32 23 16 23 16 kf bf (fun _ => 0#8)
  go_enter Try.func21, Try.ntmps21
  go_wp2
  generalize (((w.alloc (.cells (bytes 32 kf) 31)).alloc (.cells (bytes 16 bf) 23)).alloc (.cells zero16 23)) = w1 at H0 ⊢
  refine wp_region_begin (by kernel_rfl) ?_
  refine wpAny_steady (H3 w 31 32 w.heap.size 23 16 (w.heap.size + 1) 23 16 (w.heap.size + 1 + 1) kf bf (fun _ => 0#8)) [0, 1, 2, 3, 4] (by kernel_rfl) (H0.drew) ?_
  repeat first
    | (refine Chain.step (oi := ?_) (v := .agg (bytes 32 kf)) ?_ (by kernel_rfl) (by kernel_rfl) (by kernel_rfl) ?_ ?_
       rotate_left 1
       · simp only [List.getElem?_toArray, List.getElem?_cons_zero, List.getElem?_cons_succ]
         with_reducible rfl
       · (refine Or.inl ⟨?_, Gives.val ?_⟩; rfl; intro wz hz; refine load_all (S := H3 w 31 32 w.heap.size 23 16 (w.heap.size + 1) 23 16 (w.heap.size + 1 + 1) kf bf (fun _ => 0#8)) (ty := 31) (g := w.heap.size) (f := kf) rfl ?_ (fun _ h => h.b1) wz hz; rfl)
       simp only [Act.put, List.setIfInBounds_toArray, List.set_cons_zero, List.set_cons_succ])
    | (refine Chain.step (oi := ?_) (v := .agg (bytes 16 bf)) ?_ (by kernel_rfl) (by kernel_rfl) (by kernel_rfl) ?_ ?_
       rotate_left 1
       · simp only [List.getElem?_toArray, List.getElem?_cons_zero, List.getElem?_cons_succ]
         with_reducible rfl
       · (refine Or.inl ⟨?_, Gives.val ?_⟩; rfl; intro wz hz; refine load_all (S := H3 w 31 32 w.heap.size 23 16 (w.heap.size + 1) 23 16 (w.heap.size + 1 + 1) kf bf (fun _ => 0#8)) (ty := 23) (g := w.heap.size + 1) (f := bf) rfl ?_ (fun _ h => h.b2) wz hz; rfl)
       simp only [Act.put, List.setIfInBounds_toArray, List.set_cons_zero, List.set_cons_succ])
    | (refine Chain.step (oi := ?_) (v := .agg (bytes 240 (expB kf))) ?_ (by kernel_rfl) (by kernel_rfl) (by kernel_rfl) ?_ ?_
       rotate_left 1
       · simp only [List.getElem?_toArray, List.getElem?_cons_zero, List.getElem?_cons_succ]
         with_reducible rfl
       · (refine Or.inl ⟨?_, Gives.call (f := 17) (args := #[.agg (bytes 32 kf)]) ?_ ?_⟩; rfl; (intro wz hz; go_simp); intro wz hz; exact (refExpand_any kf wz).mono fun e wy h => ⟨h.1, H3.later hz h.2⟩)
       simp only [Act.put, List.setIfInBounds_toArray, List.set_cons_zero, List.set_cons_succ])
    | (refine Chain.step (oi := ?_) (v := .agg (bytes 256 tabB)) ?_ (by kernel_rfl) (by kernel_rfl) (by kernel_rfl) ?_ ?_
       rotate_left 1
       · simp only [List.getElem?_toArray, List.getElem?_cons_zero, List.getElem?_cons_succ]
         with_reducible rfl
       · (refine Or.inl ⟨?_, Gives.call (f := 31) (args := #[]) ?_ ?_⟩; rfl; (intro wz hz; go_simp); intro wz hz; exact (refTab_any wz).mono fun e wy h => ⟨h.1, H3.later hz h.2⟩)
       simp only [Act.put, List.setIfInBounds_toArray, List.set_cons_zero, List.set_cons_succ])
    | (refine Chain.step (oi := ?_) (v := .agg (bytes 16 (encB kf bf))) ?_ (by kernel_rfl) (by kernel_rfl) (by kernel_rfl) ?_ ?_
       rotate_left 1
       · simp only [List.getElem?_toArray, List.getElem?_cons_zero, List.getElem?_cons_succ]
         with_reducible rfl
       · (refine Or.inl ⟨?_, Gives.call (f := 32) (args := #[.agg (bytes 240 (expB kf)), .agg (bytes 16 bf), .agg (bytes 256 tabB)]) ?_ ?_⟩; rfl; (intro wz hz; go_simp); intro wz hz; exact (refEncs_any kf bf wz).mono fun e wy h => ⟨h.1, H3.later hz h.2⟩)
       simp only [Act.put, List.setIfInBounds_toArray, List.set_cons_zero, List.set_cons_succ])
    | (refine Chain.step (oi := ?_) (v := ?_) ?_ (by kernel_rfl) (by kernel_rfl) (by kernel_rfl) ?_ ?_
       rotate_left 2
       · simp only [List.getElem?_toArray, List.getElem?_cons_zero, List.getElem?_cons_succ]
         with_reducible rfl
       · (refine Or.inl ⟨?_, Gives.val ?_⟩; rfl; intro wz hz; go_simp; with_reducible rfl)
       simp only [Act.put, List.setIfInBounds_toArray, List.set_cons_zero, List.set_cons_succ])
  refine Chain.done fun w9 hw9 => ?_
  refine wpAny_ready (rs := [5]) (by kernel_rfl) (by simp) ?_
  refine AllReady.cons (o := ?_) ?_ (fun K hK => ?_) AllReady.nil
  rotate_left 1
  · simp only [List.getElem?_toArray, List.getElem?_cons_zero, List.getElem?_cons_succ]
    with_reducible rfl
  refine step_store 23 rfl rfl (.tmp 4) (.tmp 9) rfl (w.heap.size + 1 + 1) 0 _ (encB kf bf) rfl rfl hw9.b3 (by decide) ?_
  refine hK _ _ ?_
  clear hK K
  refine wpAny_done (by kernel_rfl) ?_ _
  have HM := hw9.put3 (encB kf bf)
  go_wp2
  exact bodyPost_ret (result_blk rfl rfl _ _ (w.heap.size + 1 + 1) _ rfl HM.b3) rfl ⟨rfl, HM.bel⟩
set_option maxRecDepth 100000 in
set_option maxHeartbeats 4000000 in
theorem aesEncrypts_walk (kf bf : Bf) (w : World) : Calls Try.prog 7 #[.agg (bytes 32 kf), .agg (bytes 16 bf)] w fun e w' => e = .returned (.bool true) ∧ Below w.heap.size w w' := by
  have H0 := H2.start w 31 32 23 16 kf bf
  have hng := no_guard
  have hs0 : sameB 16 (encB kf bf) (encB kf bf) = true := sameB_of (fun _ _ => rfl)
  go_enter Try.func7, Try.ntmps7
  go_wp2_with fail
  refine (shown_any _).mono ?_
  rintro e w1 ⟨rfl, hb1⟩
  have Ha := H0.later hb1
  clear H0 hb1
  go_wp2
  refine wp_region_begin (by kernel_rfl) ?_
  refine wpAny_steady (H2 w 31 32 w.heap.size 23 16 (w.heap.size + 1) kf bf) [0, 1, 2, 3, 4, 5, 6, 7, 8, 9] (by kernel_rfl) (Ha.drew) ?_
  repeat first
    | (refine Chain.step (oi := ?_) (v := .agg (bytes 32 kf)) ?_ (by kernel_rfl) (by kernel_rfl) (by kernel_rfl) ?_ ?_
       rotate_left 1
       · simp only [List.getElem?_toArray, List.getElem?_cons_zero, List.getElem?_cons_succ]
         with_reducible rfl
       · (refine Or.inl ⟨?_, Gives.val ?_⟩; rfl; intro wz hz; refine load_all (S := H2 w 31 32 w.heap.size 23 16 (w.heap.size + 1) kf bf) (ty := 31) (g := w.heap.size) (f := kf) rfl ?_ (fun _ h => h.b1) wz hz; rfl)
       simp only [Act.put, List.setIfInBounds_toArray, List.set_cons_zero, List.set_cons_succ])
    | (refine Chain.step (oi := ?_) (v := .agg (bytes 16 bf)) ?_ (by kernel_rfl) (by kernel_rfl) (by kernel_rfl) ?_ ?_
       rotate_left 1
       · simp only [List.getElem?_toArray, List.getElem?_cons_zero, List.getElem?_cons_succ]
         with_reducible rfl
       · (refine Or.inl ⟨?_, Gives.val ?_⟩; rfl; intro wz hz; refine load_all (S := H2 w 31 32 w.heap.size 23 16 (w.heap.size + 1) kf bf) (ty := 23) (g := w.heap.size + 1) (f := bf) rfl ?_ (fun _ h => h.b2) wz hz; rfl)
       simp only [Act.put, List.setIfInBounds_toArray, List.set_cons_zero, List.set_cons_succ])
    | (refine Chain.step (oi := ?_) (v := .agg (bytes 16 (encB kf bf))) ?_ (by kernel_rfl) (by kernel_rfl) (by kernel_rfl) ?_ ?_
       rotate_left 1
       · simp only [List.getElem?_toArray, List.getElem?_cons_zero, List.getElem?_cons_succ]
         with_reducible rfl
       · (refine Or.inl ⟨?_, Gives.call (f := 20) (args := #[.agg (bytes 32 kf), .agg (bytes 16 bf)]) ?_ ?_⟩; rfl; (intro wz hz; go_simp); intro wz hz; exact (encrypt_any kf bf wz).mono fun e wy h => ⟨h.1, H2.later hz h.2⟩)
       simp only [Act.put, List.setIfInBounds_toArray, List.set_cons_zero, List.set_cons_succ])
    | (refine Chain.step (oi := ?_) (v := .agg (bytes 16 (encB kf bf))) ?_ (by kernel_rfl) (by kernel_rfl) (by kernel_rfl) ?_ ?_
       rotate_left 1
       · simp only [List.getElem?_toArray, List.getElem?_cons_zero, List.getElem?_cons_succ]
         with_reducible rfl
       · (refine Or.inl ⟨?_, Gives.call (f := 21) (args := #[.agg (bytes 32 kf), .agg (bytes 16 bf)]) ?_ ?_⟩; rfl; (intro wz hz; go_simp); intro wz hz; exact (refEncrypt_any kf bf wz).mono fun e wy h => ⟨h.1, H2.later hz h.2⟩)
       simp only [Act.put, List.setIfInBounds_toArray, List.set_cons_zero, List.set_cons_succ])
    | (refine Chain.step (oi := ?_) (v := ?_) ?_ (by kernel_rfl) (by kernel_rfl) (by kernel_rfl) ?_ ?_
       rotate_left 2
       · simp only [List.getElem?_toArray, List.getElem?_cons_zero, List.getElem?_cons_succ]
         with_reducible rfl
       · (refine Or.inl ⟨?_, Gives.val ?_⟩; rfl; intro wz hz; go_simp; with_reducible rfl)
       simp only [Act.put, List.setIfInBounds_toArray, List.set_cons_zero, List.set_cons_succ])
  refine Chain.done fun w9 hw9 => ?_
  refine wpAny_ready (rs := [10]) (by kernel_rfl) (by simp) ?_
  refine AllReady.cons (o := ?_) ?_ (fun K hK => ?_) AllReady.nil
  rotate_left 1
  · simp only [List.getElem?_toArray, List.getElem?_cons_zero, List.getElem?_cons_succ]
    with_reducible rfl
  go_simp
  refine hK _ _ ?_
  clear hK K
  refine wpAny_done (by kernel_rfl) ?_ _
  go_wp2
  go_ret
  exact ⟨rfl, hw9.bel⟩
theorem size23 (w : World) : (sizeOf 23).run Try.prog w = .ok 16 w := by kernel_rfl
theorem key_row (f : Bf) (i : Nat) (hi : i < 15) : (bytes 240 f).extract (i * 16) (i * 16 + 16) = bytes 16 (part f (i * 16)) := by
  apply Array.ext_getElem?
  intro k
  rw [Array.getElem?_extract]
  by_cases hk : k < 16
  · rw [if_pos (by rw [bytes_size]; omega), bytes_get _ _ _ (by omega), bytes_get _ _ _ hk]
    rfl
  · rw [if_neg (by rw [bytes_size]; omega), Array.getElem?_eq_none (by rw [bytes_size]; omega)]
theorem eq_row_any (d : Nat) (w : World) (f : Bf) : (Op.equalIn (d + 2) 23 (.agg (bytes 16 f)) (.agg (bytes 16 f))).run Try.prog w = .ok true w := by
  have h := run_equalIn_bytesB w d 23 5 16 Try.underlying23 Try.underlying5 size5 f f
  rw [sameB_of (fun _ _ => rfl)] at h
  exact h
theorem eq_key_any {P : Program} (d n m : Nat) (t e u : TypeId) (ht : P.underlying t = some (.array n e)) (he : P.underlying e = some (.array m u)) (hsz : ∀ w, (sizeOf e).run P w = .ok m w) (w : World) (A : Array Value)
    (hE : ∀ i, i < n → (Op.equalIn d e (.agg (A.extract (i * m) (i * m + m))) (.agg (A.extract (i * m) (i * m + m)))).run P w = .ok true w) : (Op.equalIn (d + 1) t (.agg A) (.agg A)).run P w = .ok true w := by
  rw [Op.equalIn]
  simp only [Sem.run_bind, run_underlying ht, Result.andThen_ok, hsz, Std.Legacy.Range.forIn_eq_forIn_range', Std.Legacy.Range.size, Nat.sub_zero, Nat.add_sub_cancel, Nat.div_one]
  have hl : ∀ i ∈ List.range' 0 n 1, i < n := fun i hi => by simpa using (List.mem_range'_1.1 hi).2
  generalize List.range' 0 n 1 = l at hl ⊢
  induction l with
  | nil => simp
  | cons i l ih =>
    have px : (Go.part e A (i * m)).run P w = .ok (.agg (A.extract (i * m) (i * m + m))) w := by
      simp [Go.part, isAgg, run_underlying he, hsz]
    have pe := hE i (hl i (by simp))
    simp only [List.forIn_cons, Sem.run_bind, px, pe, Result.andThen_ok, Bool.not_true, Bool.false_eq_true, if_false, Sem.run_pure]
    exact ih fun j hj => hl j (by simp [hj])
theorem eq_key (w : World) (f : Bf) : (Op.equalIn 10000 32 (.agg (bytes 240 f)) (.agg (bytes 240 f))).run Try.prog w = .ok true w :=
  eq_key_any 9999 15 16 32 23 5 Try.underlying32 Try.underlying23 size23 w (bytes 240 f) fun i hi => by rw [key_row f i hi]; exact eq_row_any 9997 w _
/-- A load of a key's blocks behind a guard. -/
theorem wp_key {o : Oper} {a : Act} {w : World} {Q : Exit → Act → World → Prop} {K : Act → World → Prop} (x : Operand) (g : Nat) (f : Bf) (hb : Blk w g 32 (bytes 240 f)) (ho : o.op = .load 32 x) (hx : a.eval x = .pointer (some ⟨g, 0, none⟩))
    (h : K (a.put o.dst (.agg (bytes 240 f))) w) : o.wp Try.prog a w K Q := by
  obtain ⟨dd, hu, hr, hi⟩ := arr_under (ty := 32) rfl
  have hh : (bytes 240 f).toList = (bytes 240 (part f 0)).toList := by rw [part_zero]
  refine wp_load_mid 32 x ho g 0 hx (bytes 240 f).toList dd ?_ hu hr (by rw [hi]; simp [bytes_size]; rfl) h
  rw [hh]; exact hb.range (by omega)
theorem no_guard32 : Try.prog.eqGuardType Try.prog.depth 32 = false := by kernel_rfl
attribute [local go_sem] eq_key
set_option maxRecDepth 100000 in
set_option maxHeartbeats 4000000 in
theorem aesExpands_walk (kf : Bf) (w : World) : Calls Try.prog 5 #[.agg (bytes 32 kf)] w fun e w' => e = .returned (.bool true) ∧ Below w.heap.size w w' := by
  have H0 := H1.start w 31 32 kf
  have hng := no_guard32
  go_enter Try.func5, Try.ntmps5
  go_wp2_with fail
  refine (shown_any _).mono ?_
  rintro e w1 ⟨rfl, hb1⟩
  have Ha := H0.later hb1
  clear H0 hb1
  go_wp2_with (with_reducible refine load_blk 31 rfl rfl (.tmp 1) rfl w.heap.size 0 rfl _ Ha.b1 (by decide) ?_)
  rw [part_zero]
  refine (expand_any kf _).mono ?_
  rintro e w2 ⟨rfl, hb2⟩
  have Hb := Ha.later hb2
  clear Ha hb2
  have HY : H2 w 31 32 w.heap.size 32 240 w2.heap.size kf (fun _ => 0#8) (w2.alloc (.cells (bytes 240 fun _ => 0#8) 32)) := Hb.more 32 240 _
  have HZ := HY.put2 (expB kf)
  go_upto_region 3 with (with_reducible refine store_blk 32 rfl rfl (.tmp 4) (.tmp 9) rfl w2.heap.size 0 _ (expB kf) rfl rfl HY.b2 (by decide) ?_)
  simp only [Act.put]
  obtain ⟨g2, hg⟩ : ∃ g, g = w2.heap.size := ⟨_, rfl⟩
  have HS : H2 w 31 32 w.heap.size 32 240 g2 kf (expB kf) ((w2.alloc (.cells (bytes 240 fun _ => 0#8) 32)).setCells g2 0 (bytes (lenOf 32) (expB kf)).toList) := by rw [hg]; exact HZ
  simp only [← hg]
  clear HY HZ Hb
  generalize ((w2.alloc (.cells (bytes 240 fun _ => 0#8) 32)).setCells g2 0 (bytes (lenOf 32) (expB kf)).toList) = w3 at HS ⊢
  clear hg
  go_wp2_with (with_reducible refine load_blk 31 rfl rfl (.tmp 1) rfl w.heap.size 0 rfl _ HS.b1 (by decide) ?_)
  rw [part_zero]
  refine (refExpand_any kf _).mono ?_
  rintro e w4 ⟨rfl, hb4⟩
  have Hb := HS.later hb4
  clear HS hb4
  have HY : H3 w 31 32 w.heap.size 32 240 g2 32 240 w4.heap.size kf (expB kf) (fun _ => 0#8) (w4.alloc (.cells (bytes 240 fun _ => 0#8) 32)) := Hb.more 32 240 _
  have HZ := HY.put3 (expB kf)
  go_upto_region 4 with (with_reducible refine store_blk 32 rfl rfl (.tmp 5) (.tmp 11) rfl w4.heap.size 0 _ (expB kf) rfl rfl HY.b3 (by decide) ?_)
  simp only [Act.put]
  obtain ⟨g3, hg⟩ : ∃ g, g = w4.heap.size := ⟨_, rfl⟩
  have HS : H3 w 31 32 w.heap.size 32 240 g2 32 240 g3 kf (expB kf) (expB kf) ((w4.alloc (.cells (bytes 240 fun _ => 0#8) 32)).setCells g3 0 (bytes (lenOf 32) (expB kf)).toList) := by rw [hg]; exact HZ
  simp only [← hg]
  clear HY HZ Hb
  generalize ((w4.alloc (.cells (bytes 240 fun _ => 0#8) 32)).setCells g3 0 (bytes (lenOf 32) (expB kf)).toList) = w5 at HS ⊢
  clear hg
  go_wp2
  go_loopw [6] (fun x w' => ∃ i : Nat, i ≤ 32 ∧ x = .int .i64 i ∧ H3 w 31 32 w.heap.size 32 240 g2 32 240 g3 kf (expB kf) (expB kf) w') (fun x _ => 32 - (intOf x).toNat)
  case atStart => exact ⟨0, by omega, rfl, HS⟩
  case round =>
    clear HS
    obtain ⟨i, hi, rfl, hr⟩ := hrel
    by_cases hlt : i < 32
    · have hd : decide ((i : Int) < 32) = true := decide_eq_true (by omega)
      have zi : (i : Int) < 32 := by omega
      have hk : kf i = expB kf i := by
        have := kf_exp kf (i / 4) (i % 4) (by omega) (Nat.mod_lt _ (by decide))
        rwa [show 4 * (i / 4) + i % 4 = i by omega] at this
      have d1 : ((i : Int)).tdiv 16 = ((i / 16 : Nat) : Int) := by rw [Int.tdiv_eq_ediv_of_nonneg (by omega)]; omega
      have d2 : IntKind.i64.wrap ((i / 16 : Nat) : Int) = ((i / 16 : Nat) : Int) := IntWalk.i64_in _ (by omega)
      have d3 : ((i : Int)).tmod 16 = ((i % 16 : Nat) : Int) := by rw [Int.tmod_eq_emod_of_nonneg (by omega)]; omega
      have d4 : ((i / 16 : Nat) : Int) < 15 := by omega
      have d5 : ((i % 16 : Nat) : Int) < 16 := by omega
      have k1 : ∀ w', H3 w 31 32 w.heap.size 32 240 g2 32 240 g3 kf (expB kf) (expB kf) w' → w'.cell? ⟨g2, i / 16 * 16 + i % 16, none⟩ = some (.int .u8 (expB kf i).toNat) := fun w' h => by
        rw [show i / 16 * 16 + i % 16 = i by omega]; exact h.b2.byte (by omega)
      have k2 : ∀ w', H3 w 31 32 w.heap.size 32 240 g2 32 240 g3 kf (expB kf) (expB kf) w' → w'.cell? ⟨w.heap.size, i, none⟩ = some (.int .u8 (expB kf i).toNat) := fun w' h => by
        rw [← hk]; exact h.b1.byte hlt
      clear hk
      generalize i / 16 = q at d1 d2 d4 k1
      generalize i % 16 = m at d3 d5 k1
      generalize hy : expB kf i = y at k1 k2
      clear hy
      go_wp2
      refine wp_region_begin (by kernel_rfl) ?_
      refine wpAny_steady (H3 w 31 32 w.heap.size 32 240 g2 32 240 g3 kf (expB kf) (expB kf)) [0, 1, 2, 3, 4, 5, 6, 7, 8, 9, 10] (by kernel_rfl) (hr.drew) ?_
      repeat first
        | (refine Chain.step (oi := ?_) (v := ?_) ?_ (by kernel_rfl) (by kernel_rfl) (by kernel_rfl) ?_ ?_
           rotate_left 2
           · simp only [List.getElem?_toArray, List.getElem?_cons_zero, List.getElem?_cons_succ]
             with_reducible rfl
           · (refine Or.inl ⟨?_, Gives.val ?_⟩; rfl; intro wz hz; have p1 := k1 wz hz; have p2 := k2 wz hz; go_simp; with_reducible rfl)
           simp only [Act.put, List.setIfInBounds_toArray, List.set_cons_zero, List.set_cons_succ])
      refine Chain.done fun w9 hw9 => ?_
      refine wpAny_done (by kernel_rfl) ?_ _
      clear k1 k2 d1 d2 d3 d4 d5
      go_wp2
      first
        | exact ⟨⟨i + 1, by omega, by go_num, hw9⟩, by simp [intOf]; omega⟩
        | (refine ⟨?_, ?_⟩
           · (repeat apply Exists.intro)
             exact ⟨⟨i + 1, by omega, by go_num, hw9⟩, rfl⟩
           · simp [intOf]; omega)
    · obtain rfl : i = 32 := by omega
      go_wp2
      refine wp_key (.tmp 4) g2 (expB kf) hr.b2 rfl rfl ?_
      go_wp2
      refine wp_key (.tmp 5) g3 (expB kf) hr.b3 rfl rfl ?_
      go_wp2
      go_ret
      exact ⟨rfl, hr.bel⟩
end Go.Proofs.Ythjigmfooobfmab
