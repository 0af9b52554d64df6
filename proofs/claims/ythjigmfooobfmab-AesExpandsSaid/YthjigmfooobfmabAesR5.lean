/-
  THE WALK of the reference's Expand.
-/
import Derived.Test.YthjigmfooobfmabAesW
import Derived.Test.YthjigmfooobfmabSteady3
import Derived.IntWalk
import Derived.Deep.DeepCutAuto
import Derived.Lib.Hide
namespace Go.Proofs.Ythjigmfooobfmab
open Go.RowKit Gf
set_option linter.unusedSimpArgs false

theorem setCells_size (g : Nat) : ∀ (vs : List Value) (o : Nat) (w : World), (w.setCells g o vs).heap.size = w.heap.size
  | [], _, _ => rfl
  | v :: r, o, w => (setCells_size g r (o + 1) (w.setCell ⟨g, o, none⟩ v)).trans (by simp)
/-- The words laid into the key's blocks. -/
structure Wo (w : World) (kf : Bf) (gw : Nat) (W : Nat → Spot) (go : Nat) (g : Bf) (w' : World) : Prop where
  h : Wd w kf gw W 60 w'
  b : Blk w' go 32 (bytes 240 g)
  nw : ∀ m, m < 60 → (W m).1 ≠ go
  lo : gw < go
theorem Wo.later {w w1 w2 : World} {kf g : Bf} {gw go : Nat} {W : Nat → Spot} (H : Wo w kf gw W go g w1) (hb : Below w1.heap.size w1 w2) : Wo w kf gw W go g w2 :=
  ⟨H.h.later hb, H.b.below hb H.b.lt, H.nw, H.lo⟩
theorem Wo.drew {w w1 : World} {kf g : Bf} {gw go : Nat} {W : Nat → Spot} (H : Wo w kf gw W go g w1) : Wo w kf gw W go g w1.drew := H.later (Below.refl _ _).drew
theorem Wo.start {w w1 : World} {kf : Bf} {gw : Nat} {W : Nat → Spot} (H : Wd w kf gw W 60 w1) (g : Bf) : Wo w kf gw W w1.heap.size g (w1.alloc (.cells (bytes 240 g) 32)) :=
  ⟨H.later ((Below.refl _ _).alloc (Nat.le_refl _) _), Blk.new w1 32 _, fun m hm => by have := (H.d m hm).2.1; omega, H.r.lt⟩
theorem Wd.aside {w w1 w2 : World} {kf : Bf} {gw go i : Nat} {W : Nat → Spot} (H : Wd w kf gw W i w1) (hlo : gw < go) (hnw : ∀ m, m < i → (W m).1 ≠ go) (hsz : w2.heap.size = w1.heap.size) (hh : ∀ g, g ≠ go → w2.heap[g]? = w1.heap[g]?) (hb : Below w.heap.size w w2) : Wd w kf gw W i w2 := by
  have h1 := H.lo
  have c : ∀ p : Addr, p.block ≠ go → w2.cell? p = w1.cell? p := fun p hp => by unfold World.cell?; rw [hh _ hp]
  exact ⟨(hh _ (by omega)).trans H.k, (hh _ (by omega)).trans H.o, (hh _ (by omega)).trans H.r, fun m hm => ⟨(H.d m hm).1, by rw [hsz]; exact (H.d m hm).2.1, fun j hj => by
    rw [c ⟨(W m).1, (W m).2.1 + j, none⟩ (hnw m hm)]; exact (H.d m hm).2.2 j hj⟩, hb, H.lo⟩
theorem Wo.set {w w1 : World} {kf g : Bf} {gw go : Nat} {W : Nat → Spot} (H : Wo w kf gw W go g w1) (m : Nat) (x : B8) : Wo w kf gw W go (upd g m x) (w1.setCell ⟨go, m, none⟩ (.int .u8 x.toNat)) := by
  have h1 := H.lo
  have h2 := H.h.lo
  refine ⟨H.h.aside H.lo H.nw (by simp) (fun k hk => Below.heap_setCell w1 ⟨go, m, none⟩ _ k hk) (H.h.bel.setCell (by simp <;> omega) _), ?_, H.nw, H.lo⟩
  rw [← bytes_set]; exact H.b.set_ m _
theorem Wo.as {w w1 : World} {kf g g' : Bf} {gw go : Nat} {W : Nat → Spot} (H : Wo w kf gw W go g w1) (e : ∀ i, i < 240 → g i = g' i) : Wo w kf gw W go g' w1 :=
  ⟨H.h, (show bytes 240 g = bytes 240 g' from bytes_ext e) ▸ H.b, H.nw, H.lo⟩
theorem built32 : Try.prog.built 32 [] = some (bytes 240 fun _ => 0#8) := by kernel_rfl
def W0 : Nat → Spot := fun _ => (0, 0, 0)
theorem make47' (w : World) : (Instr.makeSlice 47 (.int .i64 60) (.int .i64 60)).run Try.prog w = .ok (.slice (some ⟨w.heap.size, 0, none⟩) 60 60) (w.alloc (.cells (rowW 0 W0) 27)) := make47 W0 w
attribute [local go_sem] zero32 make47'
theorem own_empty (w : World) : Own w.heap.size (.slice (some ⟨w.heap.size, 0, none⟩) 0 0) 0 (fun _ => 0#8) (w.alloc (.cells #[] 5)) := by
  refine ⟨by simp [cellsB], Or.inr ⟨w.heap.size, 0, #[], rfl, Nat.le_refl _, heap_alloc_new w _, Nat.le_refl _, ?_, ?_, ?_⟩⟩ <;> simp [cellsB]
theorem kf_exp (kf : Bf) (i j : Nat) (hi : i < 8) (hj : j < 4) : kf (4 * i + j) = expB kf (4 * i + j) := by
  rw [expB_word kf i j (by omega) hj]
  unfold newW
  rw [if_pos hi]; rfl
theorem pow_low (i : Nat) (h : i < 8) : powTo (i + 1) = powTo i := by
  show (if 8 ≤ i ∧ i % 8 = 0 then t2 (powTo i) else powTo i) = powTo i
  rw [if_neg (by omega)]
theorem pow_same (i : Nat) (h : i % 8 ≠ 0) : powTo (i + 1) = powTo i := by
  show (if 8 ≤ i ∧ i % 8 = 0 then t2 (powTo i) else powTo i) = powTo i
  rw [if_neg (by omega)]
theorem pow_next (i : Nat) (h8 : 8 ≤ i) (h : i % 8 = 0) : powTo (i + 1) = mul8 (powTo i) 2#8 := by
  show (if 8 ≤ i ∧ i % 8 = 0 then t2 (powTo i) else powTo i) = _
  rw [if_pos ⟨h8, h⟩, mul8_two]
theorem join_none (f : Bf) : joinB (fun _ => 0#8) 0 f = f := by funext i; simp [joinB]
theorem word_any (kf : Bf) (i j : Nat) (h8 : 8 ≤ i) (hi : i < 60) (hj : j < 4) : subW (part (expB kf) (4 * (i - 1))) (powTo i) i j ^^^ part (expB kf) (4 * (i - 8)) j = expB kf (4 * i + j) := by
  rw [expB_word kf i j hi hj]
  unfold newW
  rw [if_neg (by omega)]
  have e : ∀ r, r < 4 → part (lTo kf i) (4 * (i - 1)) r = part (expB kf) (4 * (i - 1)) r := fun r hr => lTo_exp kf i _ (by omega) (by omega)
  have e2 : subW (part (lTo kf i) (4 * (i - 1))) (powTo i) i j = subW (part (expB kf) (4 * (i - 1))) (powTo i) i j := by
    unfold subW
    by_cases h0 : i % 8 = 0
    · rw [if_pos h0, if_pos h0]
      unfold rotW
      rw [e 1 (by omega), e ((j + 1) % 4) (Nat.mod_lt _ (by decide))]
    · rw [if_neg h0, if_neg h0]
      by_cases h4 : i % 8 = 4
      · rw [if_pos h4, if_pos h4]
        unfold boxW
        rw [e j hj]
      · rw [if_neg h4, if_neg h4, e j hj]
  show _ = subW (part (lTo kf i) (4 * (i - 1))) (powTo i) i j ^^^ lTo kf i (4 * (i - 8) + j)
  rw [e2, lTo_exp kf i (4 * (i - 8) + j) (by omega) (by omega)]
  rfl
theorem overK_four (a k : Bf) (i : Nat) (h : i < 4) : overK a k 4 i = a i ^^^ k i := by unfold overK; rw [if_pos h]
set_option maxRecDepth 100000 in
set_option maxHeartbeats 4000000 in
theorem refExpand_any (kf : Bf) (w : World) : Calls Try.prog 17 #[.agg (bytes 32 kf)] w fun e w' => e = .returned (.agg (bytes 240 (expB kf))) ∧ Below w.heap.size w w' := by
  have H0 := Wd.start w kf W0
  go_enter Try.func17, Try.ntmps17
  go_upto_region 4 with fail
  generalize (((w.alloc (.cells (bytes 32 kf) 31)).alloc (.cells (bytes 240 fun _ => 0#8) 32)).alloc (.cells (rowW 0 W0) 27)) = w1 at H0 ⊢
  generalize w.heap.size + 1 + 1 = gw at H0 ⊢
  go_wp2
  go_loopw [4, 5, 6, 7] (fun p x _ _ w' => ∃ (i : Nat) (W : Nat → Spot), i ≤ 60 ∧ x = .int .i64 i ∧ p = .int .u8 (powTo i).toNat ∧ Wd w kf gw W i w') (fun _ x _ _ _ => 60 - (intOf x).toNat)
  case atStart => exact ⟨0, W0, by omega, rfl, rfl, H0⟩
  case round =>
    clear H0
    obtain ⟨i, W, hi, rfl, rfl, hr⟩ := hrel
    by_cases hlt : i < 60
    · have hd : decide ((i : Int) < 60) = true := decide_eq_true (by omega)
      have zi : (i : Int) < 60 := by omega
      by_cases h8 : i < 8
      · have hd8 : decide ((i : Int) < 8) = true := decide_eq_true (by omega)
        have a1 : IntKind.i64.wrap (4 * (i : Int)) = 4 * (i : Int) := IntWalk.i64_in _ (by omega)
        have a2 : IntKind.i64.wrap (4 * (i : Int) + 4) = 4 * (i : Int) + 4 := IntWalk.i64_in _ (by omega)
        have hs := slice_key w.heap.size i h8
        have y1 := hr.free hlt
        have y2 := hr.r.frozen i
        have HN := hr.key h8 fun j hj => kf_exp kf i j h8 hj
        go_wp2
        exact ⟨⟨i + 1, _, by omega, by go_num, by rw [pow_low i h8], HN⟩, by simp [intOf]; omega⟩
      · have hd8 : decide ((i : Int) < 8) = false := decide_eq_false (by omega)
        have h8' : 8 ≤ i := by omega
        have n1 : IntKind.i64.wrap ((i : Int) - 1) = ((i - 1 : Nat) : Int) := by rw [IntWalk.i64_in _ (by omega)]; omega
        have b1 : ((i - 1 : Nat) : Int) < 60 := by omega
        have y1 := (hr.later ((Below.refl wr.heap.size wr).alloc (Nat.le_refl _) (.cells #[] 5))).spot (m := i - 1) (by omega) (by omega)
        have hrd := (hr.later ((Below.refl wr.heap.size wr).alloc (Nat.le_refl _) (.cells #[] 5))).rd (m := i - 1) (by omega)
        have hown := own_empty wr
        have hbase : wr.heap.size ≤ (wr.alloc (.cells #[] 5)).heap.size := by simp
        have hWd := word_any kf i
        have n8 : IntKind.i64.wrap ((i : Int) - 8) = ((i - 8 : Nat) : Int) := by rw [IntWalk.i64_in _ (by omega)]; omega
        have b8 : ((i - 8 : Nat) : Int) < 60 := by omega
        have l8 : i - 8 < i := by omega
        have l1 : i - 1 < i := by omega
        generalize i - 1 = i1 at n1 b1 y1 hrd hWd l1
        generalize i - 8 = i8 at n8 b8 hWd l8
        obtain ⟨v, hv⟩ : ∃ v, v = part (expB kf) (4 * i8) := ⟨_, rfl⟩
        obtain ⟨f0, hf0⟩ : ∃ f0, f0 = part (expB kf) (4 * i1) := ⟨_, rfl⟩
        rw [← hf0] at hrd
        rw [← hv, ← hf0] at hWd
        have hv0 := Lib.hid hv
        clear hv hf0
        have hv := hv0
        clear hv0
        obtain ⟨f', hf'⟩ : ∃ f' : Bf, ∀ j, j < 4 → f' j = expB kf (4 * i + j) := ⟨fun j => expB kf (4 * i + j), fun _ _ => rfl⟩
        obtain ⟨s1, s2, s3, hs8⟩ : ∃ s1 s2 s3, W i8 = (s1, s2, s3) := ⟨(W i8).1, (W i8).2.1, (W i8).2.2, rfl⟩
        go_upto_region 9 with (with_reducible refine wpList_append_rz rfl (.tmp 27) (.tmp 32) rfl rfl hown _ 4 _ _ rfl hrd (by decide) hbase ?_; intro A' ct w2 hc2 hown2 hb2 _hz)
        obtain ⟨gt, hA, HT⟩ := hr.word rfl hown2 (((Below.refl wr.heap.size wr).alloc (Nat.le_refl _) _).trans hb2)
        subst hA
        rw [join_none] at HT
        clear hown hown2 hb2 hrd y1 n1 b1 hbase hc2 _hz
        have zm : ((i : Int)).tmod 8 = ((i % 8 : Nat) : Int) := by rw [Int.tmod_eq_emod_of_nonneg (by omega)]; omega
        obtain ⟨m8, hm8⟩ : ∃ m, m = i % 8 := ⟨_, rfl⟩
        rw [← hm8] at zm
        by_cases h0 : i % 8 = 0
        · have zb : ((m8 : Int) == 0) = true := by rw [hm8, h0]; rfl
          have zb4 : ((m8 : Int) == 4) = false := by rw [hm8, h0]; rfl
          have hpn := pow_next i h8' h0
          have hw4 : ∀ j, j < 4 → overK (rotW f0 (powTo i)) v 4 j = f' j := fun j hj => by
            have := hWd j h8' hlt hj
            unfold subW at this
            rw [if_pos h0] at this
            rw [overK_four _ _ _ hj, hf' j hj]; exact this
          clear hWd hm8 h0
          generalize hpw : powTo i = p at hw4 hpn
          obtain ⟨f, hf⟩ : ∃ f, f = rotW f0 p := ⟨_, rfl⟩
          rw [← hf] at hw4
          have R : ∀ m w', Calls Try.prog 26 #[.int .u8 (f0 m).toNat] w' fun e w'' => e = .returned (.int .u8 (box8 (f0 m)).toNat) ∧ Below w'.heap.size w' w'' := fun m w' => (refBox_any (f0 m) w').mono fun e w'' h => ⟨h.1, h.2.below⟩
          have R0 := R 0
          have R1 := R 1
          have R2 := R 2
          have R3 := R 3
          clear R
          have e0 : f 0 = box8 (f0 1) ^^^ p := by rw [hf]; rfl
          have e1 : f 1 = box8 (f0 2) := by rw [hf]; rfl
          have e2 : f 2 = box8 (f0 3) := by rw [hf]; rfl
          have e3 : f 3 = box8 (f0 0) := by rw [hf]; rfl
          clear hf
          generalize box8 (f0 0) = y0 at R0 e3
          generalize box8 (f0 1) = y1 at R1 e0
          generalize box8 (f0 2) = y2 at R2 e1
          generalize box8 (f0 3) = y3 at R3 e2
          have x1 := bits_xor8 y1 p
          simp only [BitVec.toNat_xor] at x1
          go_wp2
          refine wp_region_begin (by kernel_rfl) ?_
          refine wpAny_under (Wt w kf gw W i gt f0) [0, 1, 2, 3, 4, 5, 6, 7, 8, 9, 10, 11, 12, 13, 14, 15, 16, 17] (by kernel_rfl) (by kernel_rfl) (by kernel_rfl) (by decide) rfl (HT.drew) ?_
          repeat first
            | (refine Chain.step (oi := ?_) (v := .int .u8 y0.toNat) ?_ (by kernel_rfl) (by kernel_rfl) (by kernel_rfl) ?_ ?_
               rotate_left 1
               · simp only [List.getElem?_toArray, List.getElem?_cons_zero, List.getElem?_cons_succ]
                 with_reducible rfl
               · (refine Or.inl ⟨?_, Gives.call (f := 26) (args := #[.int .u8 (f0 0).toNat]) ?_ ?_⟩; rfl; (intro wz hz; go_simp); intro wz hz; exact (R0 wz).mono fun e wy h => ⟨h.1, Wt.later hz h.2⟩)
               simp only [Act.put, List.setIfInBounds_toArray, List.set_cons_zero, List.set_cons_succ])
            | (refine Chain.step (oi := ?_) (v := .int .u8 y1.toNat) ?_ (by kernel_rfl) (by kernel_rfl) (by kernel_rfl) ?_ ?_
               rotate_left 1
               · simp only [List.getElem?_toArray, List.getElem?_cons_zero, List.getElem?_cons_succ]
                 with_reducible rfl
               · (refine Or.inl ⟨?_, Gives.call (f := 26) (args := #[.int .u8 (f0 1).toNat]) ?_ ?_⟩; rfl; (intro wz hz; go_simp); intro wz hz; exact (R1 wz).mono fun e wy h => ⟨h.1, Wt.later hz h.2⟩)
               simp only [Act.put, List.setIfInBounds_toArray, List.set_cons_zero, List.set_cons_succ])
            | (refine Chain.step (oi := ?_) (v := .int .u8 y2.toNat) ?_ (by kernel_rfl) (by kernel_rfl) (by kernel_rfl) ?_ ?_
               rotate_left 1
               · simp only [List.getElem?_toArray, List.getElem?_cons_zero, List.getElem?_cons_succ]
                 with_reducible rfl
               · (refine Or.inl ⟨?_, Gives.call (f := 26) (args := #[.int .u8 (f0 2).toNat]) ?_ ?_⟩; rfl; (intro wz hz; go_simp); intro wz hz; exact (R2 wz).mono fun e wy h => ⟨h.1, Wt.later hz h.2⟩)
               simp only [Act.put, List.setIfInBounds_toArray, List.set_cons_zero, List.set_cons_succ])
            | (refine Chain.step (oi := ?_) (v := .int .u8 y3.toNat) ?_ (by kernel_rfl) (by kernel_rfl) (by kernel_rfl) ?_ ?_
               rotate_left 1
               · simp only [List.getElem?_toArray, List.getElem?_cons_zero, List.getElem?_cons_succ]
                 with_reducible rfl
               · (refine Or.inl ⟨?_, Gives.call (f := 26) (args := #[.int .u8 (f0 3).toNat]) ?_ ?_⟩; rfl; (intro wz hz; go_simp); intro wz hz; exact (R3 wz).mono fun e wy h => ⟨h.1, Wt.later hz h.2⟩)
               simp only [Act.put, List.setIfInBounds_toArray, List.set_cons_zero, List.set_cons_succ])
            | (refine Chain.step (oi := ?_) (v := ?_) ?_ (by kernel_rfl) (by kernel_rfl) (by kernel_rfl) ?_ ?_
               rotate_left 2
               · simp only [List.getElem?_toArray, List.getElem?_cons_zero, List.getElem?_cons_succ]
                 with_reducible rfl
               · (refine Or.inl ⟨?_, Gives.val ?_⟩; rfl; intro wz hz; have p0 := hz.t.byte (j := 0) (by omega); have p1 := hz.t.byte (j := 1) (by omega); have p2 := hz.t.byte (j := 2) (by omega); have p3 := hz.t.byte (j := 3) (by omega); go_simp; with_reducible rfl)
               simp only [Act.put, List.setIfInBounds_toArray, List.set_cons_zero, List.set_cons_succ])
          refine Chain.done fun w9 hw9 => ?_
          refine wpAny_ready (rs := [18]) (by kernel_rfl) (by simp) ?_
          refine AllReady.cons (o := ?_) ?_ (fun K hK => ?_) AllReady.nil
          rotate_left 1
          · simp only [List.getElem?_toArray, List.getElem?_cons_zero, List.getElem?_cons_succ]
            with_reducible rfl
          go_simp
          refine hK _ _ ?_
          clear hK K
          refine wpAny_ready (rs := [19]) (by kernel_rfl) (by simp) ?_
          refine AllReady.cons (o := ?_) ?_ (fun K hK => ?_) AllReady.nil
          rotate_left 1
          · simp only [List.getElem?_toArray, List.getElem?_cons_zero, List.getElem?_cons_succ]
            with_reducible rfl
          go_simp
          refine hK _ _ ?_
          clear hK K
          refine wpAny_done (by kernel_rfl) ?_ _
          have HL := hw9.h.literal f
          have hb4 : bytes 4 f = #[.int .u8 ((y1.toNat ^^^ p.toNat : Nat) : Int), .int .u8 (y2.toNat : Int), .int .u8 (y3.toNat : Int), .int .u8 (y0.toNat : Int)] := by
            rw [show bytes 4 f = #[.int .u8 ((f 0).toNat : Int), .int .u8 ((f 1).toNat : Int), .int .u8 ((f 2).toNat : Int), .int .u8 ((f 3).toNat : Int)] from rfl, e0, e1, e2, e3, BitVec.toNat_xor]
          rw [hb4] at HL
          generalize w9.alloc (.cells #[.int .u8 ((y1.toNat ^^^ p.toNat : Nat) : Int), .int .u8 (y2.toNat : Int), .int .u8 (y3.toNat : Int), .int .u8 (y0.toNat : Int)] 5) = wq at HL ⊢
          generalize w9.heap.size = gq at HL ⊢
          clear hw9 HT R0 R1 R2 R3 x1 e0 e1 e2 e3 hb4
          have HT := HL
          clear HL
          have R27 : ∀ w, Calls Try.prog 27 #[.int .u8 p.toNat, .int .u8 2] w fun e w' => e = .returned (.int .u8 (mul8 p 2#8).toNat) ∧ w = w' := fun w => refMul_any p 2#8 w
          generalize mul8 p 2#8 = pn at R27 hpn
          go_wp2_with fail
          refine (R27 _).mono ?_
          rintro e w5 ⟨rfl, rfl⟩
          clear R27
          have hf := hw4
          clear hw4
          have HI : Wt w kf gw W i gq (overK f v 0) _ := ⟨HT.h, HT.t.as fun j hj => overK_zero f v j (by omega), HT.ne, HT.nw, HT.lo⟩
          clear HT
          go_wp2
          obtain ⟨wo, rfl⟩ : ∃ wo : World, wo = wr := ⟨_, rfl⟩
          go_loopw [7] (fun x w' => ∃ j : Nat, j ≤ 4 ∧ x = .int .i64 j ∧ Wt w kf gw W i gq (overK f v j) w') (fun x _ => 4 - (intOf x).toNat)
          case atStart => exact ⟨0, by omega, rfl, HI⟩
          case round =>
            clear HI
            obtain ⟨j, hj, rfl, hr⟩ := hrel
            by_cases hltj : j < 4
            · have hd2 : decide ((j : Int) < 4) = true := decide_eq_true (by omega)
              have zj : (j : Int) < 4 := by omega
              have x1 := bits_xor8 (f j) (v j)
              simp only [BitVec.toNat_xor] at x1
              have k1 : ∀ w', Wt w kf gw W i gq (overK f v j) w' → w'.cell? ⟨gw, i8, none⟩ = some (.slice (some ⟨s1, s2, none⟩) 4 s3) := fun w' h => by
                have := h.h.spot (m := i8) l8 (by omega)
                rw [hs8] at this
                exact this
              have k2 : ∀ w', Wt w kf gw W i gq (overK f v j) w' → w'.cell? ⟨s1, s2 + j, none⟩ = some (.int .u8 (v j).toNat) := fun w' h => by
                have := (h.h.d i8 l8).2.2 j hltj
                rw [hs8] at this
                rw [hv.out]; exact this
              have k3 : ∀ w', Wt w kf gw W i gq (overK f v j) w' → w'.cell? ⟨gq, j, none⟩ = some (.int .u8 (f j).toNat) := fun w' h => by
                have := h.t.byte hltj
                rw [overK_at] at this
                exact this
              go_wp2
              refine wp_region_begin (by kernel_rfl) ?_
              refine wpAny_steady (Wt w kf gw W i gq (overK f v j)) [0, 1, 2, 3, 4, 5, 6, 7, 8, 9, 10, 11, 12, 13, 14, 15] (by kernel_rfl) (hr.drew) ?_
              repeat first
                | (refine Chain.step (oi := ?_) (v := ?_) ?_ (by kernel_rfl) (by kernel_rfl) (by kernel_rfl) ?_ ?_
                   rotate_left 2
                   · simp only [List.getElem?_toArray, List.getElem?_cons_zero, List.getElem?_cons_succ]
                     with_reducible rfl
                   · (refine Or.inl ⟨?_, Gives.val ?_⟩; rfl; intro wz hz; have p1 := k1 wz hz; have p2 := k2 wz hz; have p3 := k3 wz hz; go_simp; with_reducible rfl)
                   simp only [Act.put, List.setIfInBounds_toArray, List.set_cons_zero, List.set_cons_succ])
              refine Chain.done fun w9 hw9 => ?_
              have y1 := hw9.t.byte hltj
              have y2 := hw9.t.frozen j
              have HS := hw9.set j (f j ^^^ v j)
              have HN : Wt w kf gw W i gq (overK f v (j + 1)) (w9.setCell ⟨gq, j, none⟩ (.int .u8 (f j ^^^ v j).toNat)) := ⟨HS.h, HS.t.as fun m hm => overK_step f v j m (by omega), HS.ne, HS.nw, HS.lo⟩
              clear HS
              refine wpAny_ready (rs := [16]) (by kernel_rfl) (by simp) ?_
              refine AllReady.cons (o := ?_) ?_ (fun K hK => ?_) AllReady.nil
              rotate_left 1
              · simp only [List.getElem?_toArray, List.getElem?_cons_zero, List.getElem?_cons_succ]
                with_reducible rfl
              go_simp
              refine hK _ _ ?_
              clear hK K
              refine wpAny_done (by kernel_rfl) ?_ _
              clear k1 k2 k3 x1 y1 y2
              go_wp2
              first
                | exact ⟨⟨j + 1, by omega, by go_num, HN⟩, by simp [intOf]; omega⟩
                | (refine ⟨?_, ?_⟩
                   · (repeat apply Exists.intro)
                     exact ⟨⟨j + 1, by omega, by go_num, HN⟩, rfl⟩
                   · simp [intOf]; omega)
            · obtain rfl : j = 4 := by omega
              have HE : Wt w kf gw W i gq f' _ := ⟨hr.h, hr.t.as hf, hr.ne, hr.nw, hr.lo⟩
              clear hr
              have y1 := HE.h.free hlt
              have y2 := HE.h.r.frozen i
              have HN := HE.done (c := 4) hf'
              go_wp2
              first
                | exact ⟨⟨i + 1, _, by omega, by go_num, by rw [hpn], HN⟩, by simp [intOf]; omega⟩
                | (refine ⟨?_, ?_⟩
                   · (repeat apply Exists.intro)
                     exact ⟨⟨i + 1, _, by omega, by go_num, by rw [hpn], HN⟩, rfl⟩
                   · simp [intOf]; omega)
        · by_cases h4 : i % 8 = 4
          · have zb : ((m8 : Int) == 0) = false := by rw [hm8, h4]; rfl
            have zb4 : ((m8 : Int) == 4) = true := by rw [hm8, h4]; rfl
            have hpn := pow_same i h0
            have hw4 : ∀ j, j < 4 → overK (boxW f0) v 4 j = f' j := fun j hj => by
              have := hWd j h8' hlt hj
              unfold subW at this
              rw [if_neg h0, if_pos h4] at this
              rw [overK_four _ _ _ hj, hf' j hj]; exact this
            clear hWd hm8 h0 h4
            obtain ⟨f, hf⟩ : ∃ f, f = boxW f0 := ⟨_, rfl⟩
            rw [← hf] at hw4
            have R : ∀ m w', Calls Try.prog 26 #[.int .u8 (f0 m).toNat] w' fun e w'' => e = .returned (.int .u8 (box8 (f0 m)).toNat) ∧ Below w'.heap.size w' w'' := fun m w' => (refBox_any (f0 m) w').mono fun e w'' h => ⟨h.1, h.2.below⟩
            have R0 := R 0
            have R1 := R 1
            have R2 := R 2
            have R3 := R 3
            clear R
            have e0 : f 0 = box8 (f0 0) := by rw [hf]; rfl
            have e1 : f 1 = box8 (f0 1) := by rw [hf]; rfl
            have e2 : f 2 = box8 (f0 2) := by rw [hf]; rfl
            have e3 : f 3 = box8 (f0 3) := by rw [hf]; rfl
            clear hf
            generalize box8 (f0 0) = y0 at R0 e0
            generalize box8 (f0 1) = y1 at R1 e1
            generalize box8 (f0 2) = y2 at R2 e2
            generalize box8 (f0 3) = y3 at R3 e3
            go_wp2
            refine wp_region_begin (by kernel_rfl) ?_
            refine wpAny_under (Wt w kf gw W i gt f0) [0, 1, 2, 3, 4, 5, 6, 7, 8, 9, 10, 11, 12, 13, 14, 15] (by kernel_rfl) (by kernel_rfl) (by kernel_rfl) (by decide) rfl (HT.drew) ?_
            repeat first
              | (refine Chain.step (oi := ?_) (v := .int .u8 y0.toNat) ?_ (by kernel_rfl) (by kernel_rfl) (by kernel_rfl) ?_ ?_
                 rotate_left 1
                 · simp only [List.getElem?_toArray, List.getElem?_cons_zero, List.getElem?_cons_succ]
                   with_reducible rfl
                 · (refine Or.inl ⟨?_, Gives.call (f := 26) (args := #[.int .u8 (f0 0).toNat]) ?_ ?_⟩; rfl; (intro wz hz; go_simp); intro wz hz; exact (R0 wz).mono fun e wy h => ⟨h.1, Wt.later hz h.2⟩)
                 simp only [Act.put, List.setIfInBounds_toArray, List.set_cons_zero, List.set_cons_succ])
              | (refine Chain.step (oi := ?_) (v := .int .u8 y1.toNat) ?_ (by kernel_rfl) (by kernel_rfl) (by kernel_rfl) ?_ ?_
                 rotate_left 1
                 · simp only [List.getElem?_toArray, List.getElem?_cons_zero, List.getElem?_cons_succ]
                   with_reducible rfl
                 · (refine Or.inl ⟨?_, Gives.call (f := 26) (args := #[.int .u8 (f0 1).toNat]) ?_ ?_⟩; rfl; (intro wz hz; go_simp); intro wz hz; exact (R1 wz).mono fun e wy h => ⟨h.1, Wt.later hz h.2⟩)
                 simp only [Act.put, List.setIfInBounds_toArray, List.set_cons_zero, List.set_cons_succ])
              | (refine Chain.step (oi := ?_) (v := .int .u8 y2.toNat) ?_ (by kernel_rfl) (by kernel_rfl) (by kernel_rfl) ?_ ?_
                 rotate_left 1
                 · simp only [List.getElem?_toArray, List.getElem?_cons_zero, List.getElem?_cons_succ]
                   with_reducible rfl
                 · (refine Or.inl ⟨?_, Gives.call (f := 26) (args := #[.int .u8 (f0 2).toNat]) ?_ ?_⟩; rfl; (intro wz hz; go_simp); intro wz hz; exact (R2 wz).mono fun e wy h => ⟨h.1, Wt.later hz h.2⟩)
                 simp only [Act.put, List.setIfInBounds_toArray, List.set_cons_zero, List.set_cons_succ])
              | (refine Chain.step (oi := ?_) (v := .int .u8 y3.toNat) ?_ (by kernel_rfl) (by kernel_rfl) (by kernel_rfl) ?_ ?_
                 rotate_left 1
                 · simp only [List.getElem?_toArray, List.getElem?_cons_zero, List.getElem?_cons_succ]
                   with_reducible rfl
                 · (refine Or.inl ⟨?_, Gives.call (f := 26) (args := #[.int .u8 (f0 3).toNat]) ?_ ?_⟩; rfl; (intro wz hz; go_simp); intro wz hz; exact (R3 wz).mono fun e wy h => ⟨h.1, Wt.later hz h.2⟩)
                 simp only [Act.put, List.setIfInBounds_toArray, List.set_cons_zero, List.set_cons_succ])
              | (refine Chain.step (oi := ?_) (v := ?_) ?_ (by kernel_rfl) (by kernel_rfl) (by kernel_rfl) ?_ ?_
                 rotate_left 2
                 · simp only [List.getElem?_toArray, List.getElem?_cons_zero, List.getElem?_cons_succ]
                   with_reducible rfl
                 · (refine Or.inl ⟨?_, Gives.val ?_⟩; rfl; intro wz hz; have p0 := hz.t.byte (j := 0) (by omega); have p1 := hz.t.byte (j := 1) (by omega); have p2 := hz.t.byte (j := 2) (by omega); have p3 := hz.t.byte (j := 3) (by omega); go_simp; with_reducible rfl)
                 simp only [Act.put, List.setIfInBounds_toArray, List.set_cons_zero, List.set_cons_succ])
            refine Chain.done fun w9 hw9 => ?_
            refine wpAny_ready (rs := [16]) (by kernel_rfl) (by simp) ?_
            refine AllReady.cons (o := ?_) ?_ (fun K hK => ?_) AllReady.nil
            rotate_left 1
            · simp only [List.getElem?_toArray, List.getElem?_cons_zero, List.getElem?_cons_succ]
              with_reducible rfl
            go_simp
            refine hK _ _ ?_
            clear hK K
            refine wpAny_ready (rs := [17]) (by kernel_rfl) (by simp) ?_
            refine AllReady.cons (o := ?_) ?_ (fun K hK => ?_) AllReady.nil
            rotate_left 1
            · simp only [List.getElem?_toArray, List.getElem?_cons_zero, List.getElem?_cons_succ]
              with_reducible rfl
            go_simp
            refine hK _ _ ?_
            clear hK K
            refine wpAny_done (by kernel_rfl) ?_ _
            have HL := hw9.h.literal f
            have hb4 : bytes 4 f = #[.int .u8 (y0.toNat : Int), .int .u8 (y1.toNat : Int), .int .u8 (y2.toNat : Int), .int .u8 (y3.toNat : Int)] := by
              rw [show bytes 4 f = #[.int .u8 ((f 0).toNat : Int), .int .u8 ((f 1).toNat : Int), .int .u8 ((f 2).toNat : Int), .int .u8 ((f 3).toNat : Int)] from rfl, e0, e1, e2, e3]
            rw [hb4] at HL
            generalize w9.alloc (.cells #[.int .u8 (y0.toNat : Int), .int .u8 (y1.toNat : Int), .int .u8 (y2.toNat : Int), .int .u8 (y3.toNat : Int)] 5) = wq at HL ⊢
            generalize w9.heap.size = gq at HL ⊢
            clear hw9 HT R0 R1 R2 R3 e0 e1 e2 e3 hb4
            have HT := HL
            clear HL
            have hf := hw4
            clear hw4
            have HI : Wt w kf gw W i gq (overK f v 0) _ := ⟨HT.h, HT.t.as fun j hj => overK_zero f v j (by omega), HT.ne, HT.nw, HT.lo⟩
            clear HT
            go_wp2
            obtain ⟨wo, rfl⟩ : ∃ wo : World, wo = wr := ⟨_, rfl⟩
            go_loopw [7] (fun x w' => ∃ j : Nat, j ≤ 4 ∧ x = .int .i64 j ∧ Wt w kf gw W i gq (overK f v j) w') (fun x _ => 4 - (intOf x).toNat)
            case atStart => exact ⟨0, by omega, rfl, HI⟩
            case round =>
              clear HI
              obtain ⟨j, hj, rfl, hr⟩ := hrel
              by_cases hltj : j < 4
              · have hd2 : decide ((j : Int) < 4) = true := decide_eq_true (by omega)
                have zj : (j : Int) < 4 := by omega
                have x1 := bits_xor8 (f j) (v j)
                simp only [BitVec.toNat_xor] at x1
                have k1 : ∀ w', Wt w kf gw W i gq (overK f v j) w' → w'.cell? ⟨gw, i8, none⟩ = some (.slice (some ⟨s1, s2, none⟩) 4 s3) := fun w' h => by
                  have := h.h.spot (m := i8) l8 (by omega)
                  rw [hs8] at this
                  exact this
                have k2 : ∀ w', Wt w kf gw W i gq (overK f v j) w' → w'.cell? ⟨s1, s2 + j, none⟩ = some (.int .u8 (v j).toNat) := fun w' h => by
                  have := (h.h.d i8 l8).2.2 j hltj
                  rw [hs8] at this
                  rw [hv.out]; exact this
                have k3 : ∀ w', Wt w kf gw W i gq (overK f v j) w' → w'.cell? ⟨gq, j, none⟩ = some (.int .u8 (f j).toNat) := fun w' h => by
                  have := h.t.byte hltj
                  rw [overK_at] at this
                  exact this
                go_wp2
                refine wp_region_begin (by kernel_rfl) ?_
                refine wpAny_steady (Wt w kf gw W i gq (overK f v j)) [0, 1, 2, 3, 4, 5, 6, 7, 8, 9, 10, 11, 12, 13, 14, 15] (by kernel_rfl) (hr.drew) ?_
                repeat first
                  | (refine Chain.step (oi := ?_) (v := ?_) ?_ (by kernel_rfl) (by kernel_rfl) (by kernel_rfl) ?_ ?_
                     rotate_left 2
                     · simp only [List.getElem?_toArray, List.getElem?_cons_zero, List.getElem?_cons_succ]
                       with_reducible rfl
                     · (refine Or.inl ⟨?_, Gives.val ?_⟩; rfl; intro wz hz; have p1 := k1 wz hz; have p2 := k2 wz hz; have p3 := k3 wz hz; go_simp; with_reducible rfl)
                     simp only [Act.put, List.setIfInBounds_toArray, List.set_cons_zero, List.set_cons_succ])
                refine Chain.done fun w9 hw9 => ?_
                have y1 := hw9.t.byte hltj
                have y2 := hw9.t.frozen j
                have HS := hw9.set j (f j ^^^ v j)
                have HN : Wt w kf gw W i gq (overK f v (j + 1)) (w9.setCell ⟨gq, j, none⟩ (.int .u8 (f j ^^^ v j).toNat)) := ⟨HS.h, HS.t.as fun m hm => overK_step f v j m (by omega), HS.ne, HS.nw, HS.lo⟩
                clear HS
                refine wpAny_ready (rs := [16]) (by kernel_rfl) (by simp) ?_
                refine AllReady.cons (o := ?_) ?_ (fun K hK => ?_) AllReady.nil
                rotate_left 1
                · simp only [List.getElem?_toArray, List.getElem?_cons_zero, List.getElem?_cons_succ]
                  with_reducible rfl
                go_simp
                refine hK _ _ ?_
                clear hK K
                refine wpAny_done (by kernel_rfl) ?_ _
                clear k1 k2 k3 x1 y1 y2
                go_wp2
                first
                  | exact ⟨⟨j + 1, by omega, by go_num, HN⟩, by simp [intOf]; omega⟩
                  | (refine ⟨?_, ?_⟩
                     · (repeat apply Exists.intro)
                       exact ⟨⟨j + 1, by omega, by go_num, HN⟩, rfl⟩
                     · simp [intOf]; omega)
              · obtain rfl : j = 4 := by omega
                have HE : Wt w kf gw W i gq f' _ := ⟨hr.h, hr.t.as hf, hr.ne, hr.nw, hr.lo⟩
                clear hr
                have y1 := HE.h.free hlt
                have y2 := HE.h.r.frozen i
                have HN := HE.done (c := 4) hf'
                go_wp2
                first
                  | exact ⟨⟨i + 1, _, by omega, by go_num, by rw [hpn], HN⟩, by simp [intOf]; omega⟩
                  | (refine ⟨?_, ?_⟩
                     · (repeat apply Exists.intro)
                       exact ⟨⟨i + 1, _, by omega, by go_num, by rw [hpn], HN⟩, rfl⟩
                     · simp [intOf]; omega)
          · have zb : ((m8 : Int) == 0) = false := by rw [beq_eq_false_iff_ne]; omega
            have zb4 : ((m8 : Int) == 4) = false := by rw [beq_eq_false_iff_ne]; omega
            have hpn := pow_same i h0
            have hf : ∀ j, j < 4 → overK f0 v 4 j = f' j := fun j hj => by
              have := hWd j h8' hlt hj
              unfold subW at this
              rw [if_neg h0, if_neg h4] at this
              rw [overK_four _ _ _ hj, hf' j hj]; exact this
            clear hWd hm8 h0 h4
            have HI : Wt w kf gw W i gt (overK f0 v 0) _ := ⟨HT.h, HT.t.as fun j hj => overK_zero f0 v j (by omega), HT.ne, HT.nw, HT.lo⟩
            clear HT
            go_wp2
            obtain ⟨wo, rfl⟩ : ∃ wo : World, wo = wr := ⟨_, rfl⟩
            go_loopw [7] (fun x w' => ∃ j : Nat, j ≤ 4 ∧ x = .int .i64 j ∧ Wt w kf gw W i gt (overK f0 v j) w') (fun x _ => 4 - (intOf x).toNat)
            case atStart => exact ⟨0, by omega, rfl, HI⟩
            case round =>
              clear HI
              obtain ⟨j, hj, rfl, hr⟩ := hrel
              by_cases hltj : j < 4
              · have hd2 : decide ((j : Int) < 4) = true := decide_eq_true (by omega)
                have zj : (j : Int) < 4 := by omega
                have x1 := bits_xor8 (f0 j) (v j)
                simp only [BitVec.toNat_xor] at x1
                have k1 : ∀ w', Wt w kf gw W i gt (overK f0 v j) w' → w'.cell? ⟨gw, i8, none⟩ = some (.slice (some ⟨s1, s2, none⟩) 4 s3) := fun w' h => by
                  have := h.h.spot (m := i8) l8 (by omega)
                  rw [hs8] at this
                  exact this
                have k2 : ∀ w', Wt w kf gw W i gt (overK f0 v j) w' → w'.cell? ⟨s1, s2 + j, none⟩ = some (.int .u8 (v j).toNat) := fun w' h => by
                  have := (h.h.d i8 l8).2.2 j hltj
                  rw [hs8] at this
                  rw [hv.out]; exact this
                have k3 : ∀ w', Wt w kf gw W i gt (overK f0 v j) w' → w'.cell? ⟨gt, j, none⟩ = some (.int .u8 (f0 j).toNat) := fun w' h => by
                  have := h.t.byte hltj
                  rw [overK_at] at this
                  exact this
                go_wp2
                refine wp_region_begin (by kernel_rfl) ?_
                refine wpAny_steady (Wt w kf gw W i gt (overK f0 v j)) [0, 1, 2, 3, 4, 5, 6, 7, 8, 9, 10, 11, 12, 13, 14, 15] (by kernel_rfl) (hr.drew) ?_
                repeat first
                  | (refine Chain.step (oi := ?_) (v := ?_) ?_ (by kernel_rfl) (by kernel_rfl) (by kernel_rfl) ?_ ?_
                     rotate_left 2
                     · simp only [List.getElem?_toArray, List.getElem?_cons_zero, List.getElem?_cons_succ]
                       with_reducible rfl
                     · (refine Or.inl ⟨?_, Gives.val ?_⟩; rfl; intro wz hz; have p1 := k1 wz hz; have p2 := k2 wz hz; have p3 := k3 wz hz; go_simp; with_reducible rfl)
                     simp only [Act.put, List.setIfInBounds_toArray, List.set_cons_zero, List.set_cons_succ])
                refine Chain.done fun w9 hw9 => ?_
                have y1 := hw9.t.byte hltj
                have y2 := hw9.t.frozen j
                have HS := hw9.set j (f0 j ^^^ v j)
                have HN : Wt w kf gw W i gt (overK f0 v (j + 1)) (w9.setCell ⟨gt, j, none⟩ (.int .u8 (f0 j ^^^ v j).toNat)) := ⟨HS.h, HS.t.as fun m hm => overK_step f0 v j m (by omega), HS.ne, HS.nw, HS.lo⟩
                clear HS
                refine wpAny_ready (rs := [16]) (by kernel_rfl) (by simp) ?_
                refine AllReady.cons (o := ?_) ?_ (fun K hK => ?_) AllReady.nil
                rotate_left 1
                · simp only [List.getElem?_toArray, List.getElem?_cons_zero, List.getElem?_cons_succ]
                  with_reducible rfl
                go_simp
                refine hK _ _ ?_
                clear hK K
                refine wpAny_done (by kernel_rfl) ?_ _
                clear k1 k2 k3 x1 y1 y2
                go_wp2
                first
                  | exact ⟨⟨j + 1, by omega, by go_num, HN⟩, by simp [intOf]; omega⟩
                  | (refine ⟨?_, ?_⟩
                     · (repeat apply Exists.intro)
                       exact ⟨⟨j + 1, by omega, by go_num, HN⟩, rfl⟩
                     · simp [intOf]; omega)
              · obtain rfl : j = 4 := by omega
                have HE : Wt w kf gw W i gt f' _ := ⟨hr.h, hr.t.as hf, hr.ne, hr.nw, hr.lo⟩
                clear hr
                have y1 := HE.h.free hlt
                have y2 := HE.h.r.frozen i
                have HN := HE.done (c := ct) hf'
                go_wp2
                first
                  | exact ⟨⟨i + 1, _, by omega, by go_num, by rw [hpn], HN⟩, by simp [intOf]; omega⟩
                  | (refine ⟨?_, ?_⟩
                     · (repeat apply Exists.intro)
                       exact ⟨⟨i + 1, _, by omega, by go_num, by rw [hpn], HN⟩, rfl⟩
                     · simp [intOf]; omega)
    · obtain rfl : i = 60 := by omega
      have HA := Wo.start hr (fun _ => 0#8)
      have HB : Blk (((wr.alloc (.cells (bytes 240 fun _ => 0#8) 32))).setCells wr.heap.size 0 (bytes (lenOf 32) fun _ => 0#8).toList) wr.heap.size 32 (bytes 240 fun _ => 0#8) := (HA.b.mid 0 240 _).whole
      have h1 := HA.lo
      have h2 := HA.h.lo
      have HC : Wo w kf gw W wr.heap.size (fun _ => 0#8) (((wr.alloc (.cells (bytes 240 fun _ => 0#8) 32))).setCells wr.heap.size 0 (bytes (lenOf 32) fun _ => 0#8).toList) :=
        ⟨HA.h.aside HA.lo HA.nw ((setCells_size _ _ _ _)) (fun k hk => setCells_other _ hk _ _ _) (setCells_below _ _ _ HA.h.bel (by omega)), HB, HA.nw, HA.lo⟩
      go_upto_region 20 with (first | (with_reducible refine wpList_run rfl (build_run built32 _) ?_) | (with_reducible refine store_blk 32 rfl rfl (.tmp 8) (.tmp 102) rfl wr.heap.size 0 _ (fun _ => 0#8) rfl rfl HA.b (by decide) ?_))
      simp only [Act.put]
      generalize (((wr.alloc (.cells (bytes 240 fun _ => 0#8) 32))).setCells wr.heap.size 0 (bytes (lenOf 32) fun _ => 0#8).toList) = w5 at HC ⊢
      clear HA HB h1 h2 hr
      generalize wr.heap.size = go at HC ⊢
      have HD : Wo w kf gw W go (firstB (expB kf) (fun _ => 0#8) (4 * 0)) w5 := HC.as fun i _ => firstB_zero (expB kf) (fun _ => 0#8) i
      clear HC
      go_wp2
      go_loopw [9, 10] (fun x _ w' => ∃ i : Nat, i ≤ 60 ∧ x = .int .i64 i ∧ Wo w kf gw W go (firstB (expB kf) (fun _ => 0#8) (4 * i)) w') (fun x _ _ => 60 - (intOf x).toNat)
      case atStart => exact ⟨0, by omega, rfl, HD⟩
      case round =>
        clear HD
        obtain ⟨i, hi, rfl, hr⟩ := hrel
        by_cases hlt : i < 60
        · have hd : decide ((i : Int) < 60) = true := decide_eq_true (by omega)
          go_wp2
          obtain ⟨wo, rfl⟩ : ∃ wo : World, wo = wr := ⟨_, rfl⟩
          go_loopw [10] (fun x w' => ∃ j : Nat, j ≤ 4 ∧ x = .int .i64 j ∧ Wo w kf gw W go (firstB (expB kf) (fun _ => 0#8) (4 * i + j)) w') (fun x _ => 4 - (intOf x).toNat)
          case atStart => exact ⟨0, by omega, rfl, hr⟩
          case round =>
            clear hr
            obtain ⟨j, hj, rfl, hr⟩ := hrel
            by_cases hltj : j < 4
            · have hd2 : decide ((j : Int) < 4) = true := decide_eq_true (by omega)
              have zi : (i : Int) < 60 := by omega
              have zj : (j : Int) < 4 := by omega
              obtain ⟨c0, m0, s0, r0, A0⟩ := at_of i j hlt hltj
              obtain ⟨d0, o0, e0, f0, q0, u0, v0, E0⟩ := A0
              obtain ⟨s1, s2, s3, hs⟩ : ∃ s1 s2 s3, W i = (s1, s2, s3) := ⟨(W i).1, (W i).2.1, (W i).2.2, rfl⟩
              have k1 : ∀ w', Wo w kf gw W go (firstB (expB kf) (fun _ => 0#8) (4 * i + j)) w' → w'.cell? ⟨gw, i, none⟩ = some (.slice (some ⟨s1, s2, none⟩) 4 s3) := fun w' h => by
                have := h.h.spot (m := i) hlt hlt
                rw [hs] at this
                exact this
              have k2 : ∀ w', Wo w kf gw W go (firstB (expB kf) (fun _ => 0#8) (4 * i + j)) w' → w'.cell? ⟨s1, s2 + j, none⟩ = some (.int .u8 (expB kf (4 * i + j)).toNat) := fun w' h => by
                have := (h.h.d i hlt).2.2 j hltj
                rw [hs] at this
                exact this
              have hst := fun k (_ : k < 240) => firstB_step (expB kf) (fun _ => 0#8) (4 * i + j) k
              rw [show 4 * i + j + 1 = 4 * i + (j + 1) by omega] at hst
              have hE : c0 * 16 + r0 < 240 := by omega
              rw [← E0] at hst hr k1 k2
              clear E0 hs
              generalize expB kf (c0 * 16 + r0) = y at k2 hst
              go_wp2
              refine wp_region_begin (by kernel_rfl) ?_
              refine wpAny_under (Wo w kf gw W go (firstB (expB kf) (fun _ => 0#8) (c0 * 16 + r0))) [0, 1, 2, 3, 4, 5, 6, 7, 8, 9, 10, 11, 12, 13, 14, 15] (by kernel_rfl) (by kernel_rfl) (by kernel_rfl) (by decide) rfl (hr.drew) ?_
              repeat first
                | (refine Chain.step (oi := ?_) (v := ?_) ?_ (by kernel_rfl) (by kernel_rfl) (by kernel_rfl) ?_ ?_
                   rotate_left 2
                   · simp only [List.getElem?_toArray, List.getElem?_cons_zero, List.getElem?_cons_succ]
                     with_reducible rfl
                   · (refine Or.inl ⟨?_, Gives.val ?_⟩; rfl; intro wz hz; have p1 := k1 wz hz; have p2 := k2 wz hz; go_simp; with_reducible rfl)
                   simp only [Act.put, List.setIfInBounds_toArray, List.set_cons_zero, List.set_cons_succ])
              refine Chain.done fun w9 hw9 => ?_
              have y1 := hw9.b.byte (i := c0 * 16 + r0) hE
              have y2 := hw9.b.frozen (c0 * 16 + r0)
              have HN := (hw9.set (c0 * 16 + r0) y).as hst
              refine wpAny_ready (rs := [16]) (by kernel_rfl) (by simp) ?_
              refine AllReady.cons (o := ?_) ?_ (fun K hK => ?_) AllReady.nil
              rotate_left 1
              · simp only [List.getElem?_toArray, List.getElem?_cons_zero, List.getElem?_cons_succ]
                with_reducible rfl
              go_simp
              refine hK _ _ ?_
              clear hK K
              refine wpAny_done (by kernel_rfl) ?_ _
              clear k1 k2 y1 y2 d0 o0 e0 f0 q0 u0 v0
              go_wp2
              first
                | exact ⟨⟨j + 1, by omega, by go_num, HN⟩, by simp [intOf]; omega⟩
                | (refine ⟨?_, ?_⟩
                   · (repeat apply Exists.intro)
                     exact ⟨⟨j + 1, by omega, by go_num, HN⟩, rfl⟩
                   · simp [intOf]; omega)
            · obtain rfl : j = 4 := by omega
              rw [show 4 * i + 4 = 4 * (i + 1) by omega] at hr
              go_wp2
              first
                | exact ⟨⟨i + 1, by omega, by go_num, hr⟩, by simp [intOf]; omega⟩
                | (refine ⟨?_, ?_⟩
                   · (repeat apply Exists.intro)
                     exact ⟨⟨i + 1, by omega, by go_num, hr⟩, rfl⟩
                   · simp [intOf]; omega)
        · obtain rfl : i = 60 := by omega
          have HE : Wo w kf gw W go (expB kf) wr := hr.as fun k hk => by unfold firstB; rw [if_pos (by omega)]
          clear hr
          go_wp2_with (first | (with_reducible refine load_blk 32 rfl rfl (.tmp 8) rfl go 0 rfl _ HE.b (by decide) ?_) | (with_reducible refine store_blk 32 rfl rfl (.tmp 2) (.tmp 127) rfl (w.heap.size + 1) 0 _ _ rfl rfl HE.h.o (by decide) ?_))
          rw [part_zero]
          exact bodyPost_ret (result_blk rfl rfl _ _ (w.heap.size + 1) _ rfl ((HE.h.o.mid 0 240 _).whole)) rfl ⟨rfl, setCells_below _ _ _ HE.h.bel (by omega)⟩
end Go.Proofs.Ythjigmfooobfmab
