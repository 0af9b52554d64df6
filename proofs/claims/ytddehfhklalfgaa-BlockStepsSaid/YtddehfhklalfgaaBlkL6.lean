/-
  THE WALK of the statement BlockSteps: true at every input.
-/
import Derived.Test.YtddehfhklalfgaaBlkL5
import Derived.Deep.DeepCutAuto
namespace Go.Proofs.Ytddehfhklalfgaa
open Go.RowKit Gf
set_option linter.unusedSimpArgs false
attribute [local go_sem ↓] store_rule
attribute [local go_sem] headPtr_mk blockOf_mk cellsOf_mk is16_bytes rowB_drew rowOf_drew rowB_drewN rowOf_drewN eq_blk

theorem run_append_rz {base n : Nat} {v : Value} {bf : Bf} {w : World} (hown : Own base v n bf w) (A : Option Addr) (m c : Nat) (cf : Bf) (hr : RdB w A m cf) (hnm : n + m ≤ 4096) (hbase : base ≤ w.heap.size) (ty : TypeId) :
    ∃ v' w', (Builtin.append_ #[28, 28] ty #[v, .slice A m c]).run Try.prog w = .ok v' w' ∧ Own base v' (n + m) (joinB bf n cf) w' ∧ Below base w w' ∧
      (∀ g, g < w.heap.size → v.ownBlock ≠ some g → w'.heap[g]? = w.heap[g]? ∧ v'.ownBlock ≠ some g) := by
  obtain ⟨i, hi, hz, hsz, hby⟩ := info_parts info5
  rcases A with _ | ad
  · have hm : m = 0 := by
      rcases Nat.eq_zero_or_pos m with h0 | h0
      · exact h0
      · obtain ⟨_, h, _⟩ := hr h0; cases h
    subst hm
    refine ⟨v, w, ?_, ?_, Below.refl _ _, fun g _ h => ⟨rfl, h⟩⟩
    · rcases hown.2 with ⟨rfl, rfl⟩ | ⟨g, cap, cur, rfl, _, _, hnc, _⟩
      · simp [Builtin.append_, run_underlying Try.underlying28, sizeOf, typeInfo, hi, Builtin.lenOf, Builtin.firstCells]
      · simp [Builtin.append_, run_underlying Try.underlying28, sizeOf, typeInfo, hi, Builtin.lenOf, Builtin.firstCells, hnc, storeCells]
    · have e : cellsB (n + 0) (joinB bf n cf) = cellsB n bf := by rw [← cellsB_join]; simp [cellsB]
      unfold Own
      rw [e]
      exact hown
  · obtain ⟨v', w', hrun, h2, h3, _, h5⟩ := run_append_own_at (P := Try.prog) w base 28 ty 5 i _ 1 1 Try.underlying28 hi hz hsz hby rfl (by omega) v n _ hown ad m c (cellsB m cf) (by rw [cellsB_len]; omega)
      (fun j u hu => by
        have hj : j < m := by
          rcases Nat.lt_or_ge j m with h' | h'
          · exact h'
          · rw [List.getElem?_eq_none (by rw [cellsB_len]; exact h')] at hu; cases hu
        obtain ⟨_, e, _, hc⟩ := hr (by omega)
        cases e
        rw [cellsB_get _ _ _ hj] at hu
        rw [hc j hj]; exact hu)
      (cellsB_one _ _) (by simp only [maxLen]; omega) (by omega) hbase
    refine ⟨v', w', hrun, ?_, (Below.refl _ _).grown h3 hbase fun k hk => (World.ownsRow.lt hown k hk).1, fun g hg hne => ⟨h3.block g hg fun e => hne e.symm, fun e => ?_⟩⟩
    · rw [cellsB_join] at h2
      exact h2
    · rcases h5 with h5 | h5
      · exact hne (h5.symm.trans e)
      · rw [h5] at e; cases e; omega
section
variable {ops : Array Oper} {o : Oper} {a : Act} {w : World} {Q : Exit → Act → World → Prop} {K : Act → World → Prop}
/-- The append, once more: what stands in another block stays. -/
theorem step_append_z {E : Prop} (hgd : o.guard = none) (s x : Operand) (ho : o.op = .call { callee := .builtin .append, args := #[s, x], argTypes := #[28, 28] })
    {base n : Nat} {v : Value} {bf : Bf} (hs : a.eval s = v) (hown : Own base v n bf w) (A : Option Addr) (m c : Nat) (cf : Bf) (hx : a.eval x = .slice A m c) (hr : RdB w A m cf) (k : Nat) (hk : n + m = k) (hnm : k ≤ 4096) (hbase : base ≤ w.heap.size)
    (h : ∀ A' c' w', k ≤ c' → Own base (.slice A' k c') k (joinB bf n cf) w' → Below base w w' →
      (∀ g, g < w.heap.size → v.ownBlock ≠ some g → w'.heap[g]? = w.heap[g]? ∧ (Value.slice A' k c').ownBlock ≠ some g) → K (a.put o.dst (.slice A' k c')) w') :
    if Region.wanted o (yielded ops a.tmps) = true then Oper.wp Try.prog o a w K Q else E := by
  subst hk
  have hw : Region.wanted o (yielded ops a.tmps) = true := by simp [Region.wanted, hgd]
  rw [if_pos hw]
  obtain ⟨v', w', hrun, h2, h3, h4⟩ := run_append_rz hown A m c cf hr hnm hbase o.type
  obtain ⟨A', c', rfl, hc', _⟩ := h2.slice
  unfold Oper.wp execOp
  simp only [ho, resolve, invoke, builtin, Sem.run_bind, Sem.run_pure, Result.andThen_ok, List.map_toArray, List.map_cons, List.map_nil, hs, hx, hrun]
  exact h A' c' w' hc' h2 h3 h4
theorem step_call {E : Prop} {f : FuncId} {args : Array Value} {v : Value} {S2 : World → Prop} (hgd : o.guard = none) (hrun : (execOp a.eval o).run Try.prog w = .ok (.enter f args) w)
    (hc : Calls Try.prog f args w fun e w' => e = .returned v ∧ S2 w') (h : ∀ w', S2 w' → K (a.put o.dst v) w') :
    if Region.wanted o (yielded ops a.tmps) = true then Oper.wp Try.prog o a w K Q else E := by
  have hw : Region.wanted o (yielded ops a.tmps) = true := by simp [Region.wanted, hgd]
  rw [if_pos hw]
  unfold Oper.wp
  rw [hrun]
  exact Calls.mono hc fun e w' ⟨he, hs⟩ => by subst he; exact h _ hs
end
structure St1 (w : World) (kf lf bf : Bf) (N : Nat) (A : Option Addr) (w' : World) : Prop where
  a : Blk w' w.heap.size 23 (bytes 16 kf)
  l : Blk w' (w.heap.size + 1) 23 (bytes 16 lf)
  r : RdB w' A N bf
  bel : Below w.heap.size w w'
theorem St1.later {w w1 w2 : World} {kf lf bf : Bf} {N : Nat} {A : Option Addr} (H : St1 w kf lf bf N A w1) (hb : Below w1.heap.size w1 w2) : St1 w kf lf bf N A w2 :=
  ⟨H.a.below hb H.a.lt, H.l.below hb H.l.lt, H.r.below hb, H.bel.trans (hb.mono H.bel.size)⟩
theorem St1.start (w : World) (kf lf bf : Bf) (N : Nat) (A : Option Addr) (hr : RdB w A N bf) : St1 w kf lf bf N A ((w.alloc (.cells (bytes 16 kf) 23)).alloc (.cells (bytes 16 lf) 23)) := by
  have s1 : (w.alloc (.cells (bytes 16 kf) 23)).heap.size = w.heap.size + 1 := by simp
  have hb : Below w.heap.size w ((w.alloc (.cells (bytes 16 kf) 23)).alloc (.cells (bytes 16 lf) 23)) := ((Below.refl _ _).alloc (Nat.le_refl _) _).alloc (by simp) _
  refine ⟨(Blk.new w 23 _).alloc _, ?_, hr.below hb, hb⟩
  rw [← s1]; exact Blk.new _ 23 _
theorem rd_blk {w : World} {g : Nat} {lf : Bf} (h : Blk w g 23 (bytes 16 lf)) : RdB w (some ⟨g, 0, none⟩) 16 lf := fun _ =>
  ⟨_, rfl, h.lt, fun j hj => by
    rw [show (⟨g, 0, none⟩ : Addr).add j = ⟨g, j, none⟩ by unfold Addr.add; by_cases e : j = 0 <;> simp [e]]
    rw [h.cell, bytes_get _ _ _ hj]⟩
theorem own_ne {base n : Nat} {v : Value} {bf : Bf} {w : World} (h : Own base v n bf w) : v.ownBlock ≠ some w.heap.size := fun e => by
  have := (World.ownsRow.lt h _ e).2
  omega
/-- The bytes, and noughts behind them. -/
def padB (bf : Bf) (N : Nat) : Bf := fun i => if i < N then bf i else 0#8
/-- The loop: the row padded to m. -/
structure Pd (w1 : World) (bf : Bf) (N m : Nat) (v : Value) (w' : World) : Prop where
  o : Own w1.heap.size v m (padB bf N) w'
  bel : Below w1.heap.size w1 w'
structure St2 (w : World) (kf lf bf : Bf) (N : Nat) (A : Option Addr) (A' : Option Addr) (m gy : Nat) (w' : World) : Prop where
  s : St1 w kf lf bf N A w'
  r2 : RdB w' A' m (padB bf N)
  y : Blk w' gy 23 (bytes 16 (byteB (hashF (blk kf) (padB bf N) m)))
theorem St2.later {w w1 w2 : World} {kf lf bf : Bf} {N m gy : Nat} {A A' : Option Addr} (H : St2 w kf lf bf N A A' m gy w1) (hb : Below w1.heap.size w1 w2) : St2 w kf lf bf N A A' m gy w2 :=
  ⟨H.s.later hb, H.r2.below hb, H.y.below hb H.y.lt⟩
theorem St2.laterB {w w1 w2 : World} {kf lf bf : Bf} {N m gy : Nat} {A A' : Option Addr} (H : St2 w kf lf bf N A A' m gy w1) (hb : Below w1.heap.size w1 w2) : St2 w kf lf bf N A A' m gy w2 := H.later hb
theorem join_join {w : World} {g m : Nat} {kf pf lf : Bf} (h : Blk w g 23 (bytes 16 (byteB (hashF (blk kf) (joinB (joinB (fun _ => 0#8) 0 pf) m lf) (m + 16))))) :
    Blk w g 23 (bytes 16 (byteB (hashF (blk kf) (joinB pf m lf) (m + 16)))) := by
  have e : joinB (fun _ => 0#8) 0 pf = pf := by funext i; simp [joinB]
  rwa [e] at h
theorem pad_hash {kf bf : Bf} {N m : Nat} (hm : N ≤ m) (he : m = (N + 15) / 16 * 16) : hashF (blk kf) (padB bf N) m = hashF (blk kf) bf N := by
  rw [hashF_pad (blk kf) (padB bf N) N m hm (by omega) (fun j h1 _ => by unfold padB; rw [if_neg (by omega)])]
  exact hashF_ext (fun j hj => by unfold padB; rw [if_pos hj]) _
theorem step_hash {kf pf lf : Bf} {m : Nat} (hm : m % 16 = 0) : hashF (blk kf) (joinB pf m lf) (m + 16) = mulB (blk fun i => byteB (hashF (blk kf) pf m) i ^^^ lf i) (blk kf) := by
  rw [hashF_step (blk kf) (joinB pf m lf) lf m hm (fun i _ => by unfold joinB; rw [if_neg (by omega), Nat.add_sub_cancel_left]), blk_xor, blk_byteB,
    hashF_ext (fun j hj => show joinB pf m lf j = pf j by unfold joinB; rw [if_pos hj])]
structure St3 (w : World) (kf lf bf : Bf) (N : Nat) (A : Option Addr) (A' : Option Addr) (m gy gz : Nat) (w' : World) : Prop where
  r : St2 w kf lf bf N A A' m gy w'
  z : Blk w' gz 23 (bytes 16 (byteB (hashF (blk kf) (joinB (padB bf N) m lf) (m + 16))))
theorem St3.later {w w1 w2 : World} {kf lf bf : Bf} {N m gy gz : Nat} {A A' : Option Addr} (H : St3 w kf lf bf N A A' m gy gz w1) (hb : Below w1.heap.size w1 w2) : St3 w kf lf bf N A A' m gy gz w2 :=
  ⟨H.r.later hb, H.z.below hb H.z.lt⟩

set_option maxRecDepth 100000 in
set_option maxHeartbeats 8000000 in
theorem blockSteps_walk (kf bf : Bf) (A : Option Addr) (n c : Nat) (hc : n ≤ c) (_hm : c ≤ maxLen) (lf : Bf) (w : World) (hr : RdB w A n bf) :
    Calls Try.prog 6 #[.agg (bytes 16 kf), .slice A n c, .agg (bytes 16 lf)] w fun e w' => e = .returned (.bool true) ∧ Below w.heap.size w w' := by
  have hng := no_guard
  by_cases hl : 2000 < n
  · have HR0 : 2000 ≤ n := by omega
    have hcc : 2000 ≤ c := by omega
    have hd : decide ((2000 : Int) < (n : Int)) = true := decide_eq_true (by omega)
    have H0 := St1.start w kf lf bf 2000 A (hr.less HR0)
    go_enter Try.func6, Try.ntmps6
    go_wp2_with fail
    refine (shown_any _).mono ?_
    rintro e w1 ⟨rfl, hb1⟩
    have H1 := H0.later hb1
    clear H0 hb1
    have HO := Lib.hid (own_empty0 w1)
    have HR := Lib.hid (show RdB (w1.alloc (.cells #[] 5)) A 2000 bf from H1.r.below ((Below.refl _ _).alloc (Nat.le_refl _) _))
    have HN := Lib.hid (show 0 + 2000 ≤ 4096 by omega)
    have HM := Lib.hid (show 2000 ≤ 2000 by omega)
    have HS := Lib.hid (show w1.heap.size ≤ (w1.alloc (.cells #[] 5)).heap.size by simp)
    go_wp2_with (at_builtin; (with_reducible refine wpList_append_rd rfl (.tmp 17) (.tmp 18) rfl rfl HO.out A 2000 c bf rfl HR.out HN.out HS.out ?_); intro A2 c2 w2 hc2 hown2 hb2; rw [Nat.zero_add] at hc2 hown2 ⊢)
    have HP : Pd w1 bf 2000 2000 (.slice A2 2000 c2) w2 := ⟨hown2.ext fun i hi => by unfold joinB padB; rw [if_neg (by omega), if_pos hi, Nat.sub_zero], ((Below.refl _ _).alloc (Nat.le_refl _) _).trans hb2⟩
    have HL := Lib.hid (show 2000 ≤ (2000 + 15) / 16 * 16 by omega)
    clear hown2 hb2 HO HR HN HS
    go_loopw [8] (fun v w' => ∃ (m : Nat) (A' : Option Addr) (c' : Nat), 2000 ≤ m ∧ m ≤ (2000 + 15) / 16 * 16 ∧ v = .slice A' m c' ∧ m ≤ c' ∧ Pd w1 bf 2000 m (.slice A' m c') w') (fun v _ => (2000 + 15) / 16 * 16 - sliceLen v)
    case atStart => exact ⟨_, _, _, Nat.le_refl _, HL.out, rfl, hc2, HP⟩
    case round =>
      clear HP hc2
      obtain ⟨m, A', c', hm1, hm2, rfl, hmc, hP⟩ := hrel
      have HM4 := Lib.hid (show m ≤ 2015 by have := HM.out; omega)
      have ht : (m : Int).tmod 16 = ((m % 16 : Nat) : Int) := by rw [Int.tmod_eq_emod_of_nonneg (by omega)]; omega
      by_cases hz : m % 16 = 0
      · have hz2 : decide (((m % 16 : Nat) : Int) = 0) = true := by simp; omega
        have HE := Lib.hid (show m = (2000 + 15) / 16 * 16 by omega)
        have hS1 : St1 w kf lf bf 2000 A wr := H1.later hP.bel
        go_wp2_with (with_reducible refine load_blk rfl (.tmp 3) rfl w.heap.size rfl _ hS1.a ?_)
        refine (hash_any kf (padB bf 2000) A' m c' (by have := HM4.out; omega) hmc wr (Own.rd hP.o)).mono ?_
        rintro e w3 ⟨rfl, hb3⟩
        have HZ : Blk (w3.alloc (.cells zero16 23)) w3.heap.size 23 (bytes 16 fun _ => 0#8) := Blk.new w3 23 _
        have HY := HZ.row_same (bytes 16 (byteB (hashF (blk kf) (padB bf 2000) m)))
        have hb4 : Below wr.heap.size wr ((w3.alloc (.cells zero16 23)).setRow w3.heap.size (bytes 16 (byteB (hashF (blk kf) (padB bf 2000) m)))) := below_setRow (hb3.alloc hb3.size _) hb3.size _
        have H2 : St2 w kf lf bf 2000 A A' m w3.heap.size ((w3.alloc (.cells zero16 23)).setRow w3.heap.size (bytes 16 (byteB (hashF (blk kf) (padB bf 2000) m)))) := ⟨hS1.later hb4, (Own.rd hP.o).below hb4, HY⟩
        clear H1 hS1 hP hb3 hb4 HY
        go_wp2_with (first | (with_reducible refine store_blk rfl (.tmp 9) (.tmp 29) rfl w3.heap.size _ _ rfl rfl HZ ?_))
        clear HZ
        obtain ⟨gy, hgy⟩ : ∃ g, g = w3.heap.size := ⟨_, rfl⟩
        rw [← hgy] at H2 ⊢
        generalize ((w3.alloc (.cells zero16 23)).setRow gy (bytes 16 (byteB (hashF (blk kf) (padB bf 2000) m)))) = w4 at H2 ⊢
        clear hgy
        simp only [Act.put]
        go_cut [10] (fun s10 wx => ∃ gz : Nat, s10 = .pointer (some ⟨gz, 0, none⟩) ∧ St3 w kf lf bf 2000 A A' m gy gz wx)
        case first =>
          refine wp_region_held (S := fun wx => Below w4.heap.size w4 wx) (by kernel_rfl) ?_
          have B0 : Below w4.heap.size w4 { w4 with drawn := w4.drawn + 1 } := (Below.refl _ _).drew
          generalize { w4 with drawn := w4.drawn + 1 } = u0 at B0 ⊢
          refine wpAnyH_take (i := 0) (oi := ?_) (v := ?_) ?_ (by kernel_rfl) (by kernel_rfl) (by kernel_rfl) ?_ ?_ ?_ ?_
          rotate_left 2
          · simp only [List.getElem?_toArray, List.getElem?_cons_zero, List.getElem?_cons_succ]
            with_reducible rfl
          · exact fun _ _ _ q => q
          · refine Or.inl ⟨rfl, fun wz hz => ?_⟩
            (refine load_val (S := fun wx => Below w4.heap.size w4 wx) (g := w.heap.size) (f := kf) ?_ (fun _ h => H2.s.a.below h H2.s.a.lt) wz hz; rfl)
          · exact B0
          simp only [Act.put, List.setIfInBounds_toArray, List.set_cons_zero, List.set_cons_succ]
          refine wpAnyH_take (i := 2) (oi := ?_) (v := ?_) ?_ (by kernel_rfl) (by kernel_rfl) (by kernel_rfl) ?_ ?_ ?_ ?_
          rotate_left 2
          · simp only [List.getElem?_toArray, List.getElem?_cons_zero, List.getElem?_cons_succ]
            with_reducible rfl
          · exact fun _ _ _ q => q
          · refine Or.inl ⟨rfl, fun wz hz => ?_⟩
            go_simp; with_reducible rfl
          · exact B0
          simp only [Act.put, List.setIfInBounds_toArray, List.set_cons_zero, List.set_cons_succ]
          refine wpAnyH_take (i := 4) (oi := ?_) (v := ?_) ?_ (by kernel_rfl) (by kernel_rfl) (by kernel_rfl) ?_ ?_ ?_ ?_
          rotate_left 2
          · simp only [List.getElem?_toArray, List.getElem?_cons_zero, List.getElem?_cons_succ]
            with_reducible rfl
          · exact fun _ _ _ q => q
          · refine Or.inl ⟨rfl, fun wz hz => ?_⟩
            go_simp; with_reducible rfl
          · exact B0
          simp only [Act.put, List.setIfInBounds_toArray, List.set_cons_zero, List.set_cons_succ]
          refine wpAnyH_all (rs := [1, 7]) (by kernel_rfl) (by simp) ?_
          intro j hj
          simp only [List.mem_cons, List.not_mem_nil, or_false] at hj
          rcases hj with rfl | rfl
          · refine wpOp_step (o := ?_) ?_ (fun K hK => ?_)
            rotate_left 1
            · simp only [List.getElem?_toArray, List.getElem?_cons_zero, List.getElem?_cons_succ]
              with_reducible rfl
            go_simp
            have B1 : Below w4.heap.size w4 (u0.alloc (.cells #[] 5)) := B0.alloc B0.size _
            have O1 : Own w4.heap.size (.slice (some ⟨u0.heap.size, 0, none⟩) 0 0) 0 (fun _ => 0#8) (u0.alloc (.cells #[] 5)) := World.ownsRow_made u0 #[] 0 B0.size (by simp [maxLen]) rfl
            refine hK _ _ ⟨B1, ?_⟩
            clear hK K
            obtain ⟨g1, hg1⟩ : ∃ g, g = u0.heap.size := ⟨_, rfl⟩
            simp only [← hg1] at O1 ⊢
            generalize u0.alloc (.cells #[] 5) = u1 at B1 O1 ⊢
            clear hg1
            refine wpAnyH_all (rs := [3, 7]) (by kernel_rfl) (by simp) ?_
            intro j hj
            simp only [List.mem_cons, List.not_mem_nil, or_false] at hj
            rcases hj with rfl | rfl
            · refine wpOp_step (o := ?_) ?_ (fun K hK => ?_)
              rotate_left 1
              · simp only [List.getElem?_toArray, List.getElem?_cons_zero, List.getElem?_cons_succ]
                with_reducible rfl
              have HR2 := (H2.r2.below B1)
              have HN2 : m ≤ 4096 := by have := HM4.out; omega
              (with_reducible refine step_append_z rfl (.tmp 31) (.tmp 32) rfl rfl O1 A' m c' (padB bf 2000) rfl HR2 m (Nat.zero_add m) HN2 B1.size ?_)
              intro AA2 cc2 u2 hc2 O2 b2 z2
              have B2 := B1.trans b2
              refine hK _ _ ⟨B2, ?_⟩
              clear hK K z2 b2 HR2 HN2
              simp only [Act.put, List.setIfInBounds_toArray, List.set_cons_zero, List.set_cons_succ]
              refine wpAnyH_all (rs := [5, 7]) (by kernel_rfl) (by simp) ?_
              intro j hj
              simp only [List.mem_cons, List.not_mem_nil, or_false] at hj
              rcases hj with rfl | rfl
              · refine wpOp_step (o := ?_) ?_ (fun K hK => ?_)
                rotate_left 1
                · simp only [List.getElem?_toArray, List.getElem?_cons_zero, List.getElem?_cons_succ]
                  with_reducible rfl
                have HR3 := (rd_blk (H2.s.l.below B2 H2.s.l.lt))
                have HN3 : (m + 16) ≤ 4096 := by have := HM4.out; omega
                (with_reducible refine step_append_z rfl (.tmp 33) (.tmp 34) rfl rfl O2 (some ⟨w.heap.size + 1, 0, none⟩) 16 16 lf rfl HR3 (m + 16) rfl HN3 B2.size ?_)
                intro AA3 cc3 u3 hc3 O3 b3 z3
                have B3 := B2.trans b3
                refine hK _ _ ⟨B3, ?_⟩
                clear hK K z3 b3 HR3 HN3
                simp only [Act.put, List.setIfInBounds_toArray, List.set_cons_zero, List.set_cons_succ]
                refine wpAnyH_all (rs := [6, 7]) (by kernel_rfl) (by simp) ?_
                intro j hj
                simp only [List.mem_cons, List.not_mem_nil, or_false] at hj
                rcases hj with rfl | rfl
                · refine wpOp_step (o := ?_) ?_ (fun K hK => ?_)
                  rotate_left 1
                  · simp only [List.getElem?_toArray, List.getElem?_cons_zero, List.getElem?_cons_succ]
                    with_reducible rfl
                  have HC4 := hash_any kf (joinB (joinB (fun _ => 0#8) 0 (padB bf 2000)) m lf) AA3 (m + 16) cc3 (by have := HM4.out; omega) hc3 u3 (Own.rd O3)
                  refine step_call rfl (f := 15) (args := #[.agg (bytes 16 kf), .slice AA3 (m + 16) cc3]) ?_ HC4 ?_
                  · go_simp
                  intro u4 b4
                  have B4 := B3.trans (b4.mono B3.size)
                  refine hK _ _ ⟨B4, ?_⟩
                  clear hK K b4 HC4
                  simp only [Act.put, List.setIfInBounds_toArray, List.set_cons_zero, List.set_cons_succ]
                  refine wpAnyH_all (rs := [7]) (by kernel_rfl) (by simp) ?_
                  intro j hj
                  simp only [List.mem_cons, List.not_mem_nil, or_false] at hj
                  subst hj
                  refine wpOp_step (o := ?_) ?_ (fun K hK => ?_)
                  rotate_left 1
                  · simp only [List.getElem?_toArray, List.getElem?_cons_zero, List.getElem?_cons_succ]
                    with_reducible rfl
                  go_simp
                  have B5 : Below w4.heap.size w4 (u4.alloc (.cells zero16 23)) := B4.alloc B4.size _
                  have Z5 : Blk (u4.alloc (.cells zero16 23)) u4.heap.size 23 (bytes 16 fun _ => 0#8) := Blk.new u4 23 _
                  have L5 := B4.size
                  refine hK _ _ ⟨B5, ?_⟩
                  clear hK K
                  obtain ⟨gz, hg5⟩ : ∃ g, g = u4.heap.size := ⟨_, rfl⟩
                  simp only [← hg5] at Z5 L5 ⊢
                  generalize u4.alloc (.cells zero16 23) = u5 at B5 Z5 ⊢
                  clear hg5
                  refine wpAnyH_all (rs := [8]) (by kernel_rfl) (by simp) ?_
                  intro j hj
                  simp only [List.mem_cons, List.not_mem_nil, or_false] at hj
                  subst hj
                  refine wpOp_step (o := ?_) ?_ (fun K hK => ?_)
                  rotate_left 1
                  · simp only [List.getElem?_toArray, List.getElem?_cons_zero, List.getElem?_cons_succ]
                    with_reducible rfl
                  have ZB := Z5.rowB
                  go_simp
                  have FB := below_setRow B5 L5 (bytes 16 (byteB (hashF (blk kf) (joinB (joinB (fun _ => 0#8) 0 (padB bf 2000)) m lf) (m + 16))))
                  have FZ := Z5.row_same (bytes 16 (byteB (hashF (blk kf) (joinB (joinB (fun _ => 0#8) 0 (padB bf 2000)) m lf) (m + 16))))
                  refine hK _ _ ⟨FB, ?_⟩
                  clear hK K
                  refine wpAnyH_done (by kernel_rfl) ?_ _
                  go_wp2
                  go_meet
                  exact ⟨gz, rfl, H2.laterB FB, join_join FZ⟩
                · refine wpOp_step (o := ?_) ?_ (fun K hK => ?_)
                  rotate_left 1
                  · simp only [List.getElem?_toArray, List.getElem?_cons_zero, List.getElem?_cons_succ]
                    with_reducible rfl
                  go_simp
                  have B4 : Below w4.heap.size w4 (u3.alloc (.cells zero16 23)) := B3.alloc B3.size _
                  have Z4 : Blk (u3.alloc (.cells zero16 23)) u3.heap.size 23 (bytes 16 fun _ => 0#8) := Blk.new u3 23 _
                  have L4 := B3.size
                  have O4 := O3.below ((Below.refl _ _).alloc (Nat.le_refl _) (.cells zero16 23))
                  have NE4 := own_ne O3
                  refine hK _ _ ⟨B4, ?_⟩
                  clear hK K
                  obtain ⟨gz, hg4⟩ : ∃ g, g = u3.heap.size := ⟨_, rfl⟩
                  simp only [← hg4] at Z4 L4 NE4 ⊢
                  generalize u3.alloc (.cells zero16 23) = u4 at B4 Z4 O4 ⊢
                  clear hg4
                  refine wpAnyH_all (rs := [6]) (by kernel_rfl) (by simp) ?_
                  intro j hj
                  simp only [List.mem_cons, List.not_mem_nil, or_false] at hj
                  subst hj
                  refine wpOp_step (o := ?_) ?_ (fun K hK => ?_)
                  rotate_left 1
                  · simp only [List.getElem?_toArray, List.getElem?_cons_zero, List.getElem?_cons_succ]
                    with_reducible rfl
                  have HC5 := hash_any kf (joinB (joinB (fun _ => 0#8) 0 (padB bf 2000)) m lf) AA3 (m + 16) cc3 (by have := HM4.out; omega) hc3 u4 (Own.rd O4)
                  refine step_call rfl (f := 15) (args := #[.agg (bytes 16 kf), .slice AA3 (m + 16) cc3]) ?_ HC5 ?_
                  · go_simp
                  intro u5 b5
                  have B5 := B4.trans (b5.mono B4.size)
                  have Z5 := Z4.below b5 Z4.lt
                  refine hK _ _ ⟨B5, ?_⟩
                  clear hK K b5 HC5
                  simp only [Act.put, List.setIfInBounds_toArray, List.set_cons_zero, List.set_cons_succ]
                  refine wpAnyH_all (rs := [8]) (by kernel_rfl) (by simp) ?_
                  intro j hj
                  simp only [List.mem_cons, List.not_mem_nil, or_false] at hj
                  subst hj
                  refine wpOp_step (o := ?_) ?_ (fun K hK => ?_)
                  rotate_left 1
                  · simp only [List.getElem?_toArray, List.getElem?_cons_zero, List.getElem?_cons_succ]
                    with_reducible rfl
                  have ZB := Z5.rowB
                  go_simp
                  have FB := below_setRow B5 L4 (bytes 16 (byteB (hashF (blk kf) (joinB (joinB (fun _ => 0#8) 0 (padB bf 2000)) m lf) (m + 16))))
                  have FZ := Z5.row_same (bytes 16 (byteB (hashF (blk kf) (joinB (joinB (fun _ => 0#8) 0 (padB bf 2000)) m lf) (m + 16))))
                  refine hK _ _ ⟨FB, ?_⟩
                  clear hK K
                  refine wpAnyH_done (by kernel_rfl) ?_ _
                  go_wp2
                  go_meet
                  exact ⟨gz, rfl, H2.laterB FB, join_join FZ⟩
              · refine wpOp_step (o := ?_) ?_ (fun K hK => ?_)
                rotate_left 1
                · simp only [List.getElem?_toArray, List.getElem?_cons_zero, List.getElem?_cons_succ]
                  with_reducible rfl
                go_simp
                have B3 : Below w4.heap.size w4 (u2.alloc (.cells zero16 23)) := B2.alloc B2.size _
                have Z3 : Blk (u2.alloc (.cells zero16 23)) u2.heap.size 23 (bytes 16 fun _ => 0#8) := Blk.new u2 23 _
                have L3 := B2.size
                have O3 := O2.below ((Below.refl _ _).alloc (Nat.le_refl _) (.cells zero16 23))
                have NE3 := own_ne O2
                refine hK _ _ ⟨B3, ?_⟩
                clear hK K
                obtain ⟨gz, hg3⟩ : ∃ g, g = u2.heap.size := ⟨_, rfl⟩
                simp only [← hg3] at Z3 L3 NE3 ⊢
                generalize u2.alloc (.cells zero16 23) = u3 at B3 Z3 O3 ⊢
                clear hg3
                refine wpAnyH_all (rs := [5]) (by kernel_rfl) (by simp) ?_
                intro j hj
                simp only [List.mem_cons, List.not_mem_nil, or_false] at hj
                subst hj
                refine wpOp_step (o := ?_) ?_ (fun K hK => ?_)
                rotate_left 1
                · simp only [List.getElem?_toArray, List.getElem?_cons_zero, List.getElem?_cons_succ]
                  with_reducible rfl
                have HR4 := (rd_blk (H2.s.l.below B3 H2.s.l.lt))
                have HN4 : (m + 16) ≤ 4096 := by have := HM4.out; omega
                (with_reducible refine step_append_z rfl (.tmp 33) (.tmp 34) rfl rfl O3 (some ⟨w.heap.size + 1, 0, none⟩) 16 16 lf rfl HR4 (m + 16) rfl HN4 B3.size ?_)
                intro AA4 cc4 u4 hc4 O4 b4 z4
                have B4 := B3.trans b4
                have Z4 : Blk u4 gz 23 (bytes 16 fun _ => 0#8) := ((z4 _ Z3.lt NE3).1).trans Z3
                have NE4 := (z4 _ Z3.lt NE3).2
                refine hK _ _ ⟨B4, ?_⟩
                clear hK K z4 b4 HR4 HN4
                simp only [Act.put, List.setIfInBounds_toArray, List.set_cons_zero, List.set_cons_succ]
                refine wpAnyH_all (rs := [6]) (by kernel_rfl) (by simp) ?_
                intro j hj
                simp only [List.mem_cons, List.not_mem_nil, or_false] at hj
                subst hj
                refine wpOp_step (o := ?_) ?_ (fun K hK => ?_)
                rotate_left 1
                · simp only [List.getElem?_toArray, List.getElem?_cons_zero, List.getElem?_cons_succ]
                  with_reducible rfl
                have HC5 := hash_any kf (joinB (joinB (fun _ => 0#8) 0 (padB bf 2000)) m lf) AA4 (m + 16) cc4 (by have := HM4.out; omega) hc4 u4 (Own.rd O4)
                refine step_call rfl (f := 15) (args := #[.agg (bytes 16 kf), .slice AA4 (m + 16) cc4]) ?_ HC5 ?_
                · go_simp
                intro u5 b5
                have B5 := B4.trans (b5.mono B4.size)
                have Z5 := Z4.below b5 Z4.lt
                refine hK _ _ ⟨B5, ?_⟩
                clear hK K b5 HC5
                simp only [Act.put, List.setIfInBounds_toArray, List.set_cons_zero, List.set_cons_succ]
                refine wpAnyH_all (rs := [8]) (by kernel_rfl) (by simp) ?_
                intro j hj
                simp only [List.mem_cons, List.not_mem_nil, or_false] at hj
                subst hj
                refine wpOp_step (o := ?_) ?_ (fun K hK => ?_)
                rotate_left 1
                · simp only [List.getElem?_toArray, List.getElem?_cons_zero, List.getElem?_cons_succ]
                  with_reducible rfl
                have ZB := Z5.rowB
                go_simp
                have FB := below_setRow B5 L3 (bytes 16 (byteB (hashF (blk kf) (joinB (joinB (fun _ => 0#8) 0 (padB bf 2000)) m lf) (m + 16))))
                have FZ := Z5.row_same (bytes 16 (byteB (hashF (blk kf) (joinB (joinB (fun _ => 0#8) 0 (padB bf 2000)) m lf) (m + 16))))
                refine hK _ _ ⟨FB, ?_⟩
                clear hK K
                refine wpAnyH_done (by kernel_rfl) ?_ _
                go_wp2
                go_meet
                exact ⟨gz, rfl, H2.laterB FB, join_join FZ⟩
            · refine wpOp_step (o := ?_) ?_ (fun K hK => ?_)
              rotate_left 1
              · simp only [List.getElem?_toArray, List.getElem?_cons_zero, List.getElem?_cons_succ]
                with_reducible rfl
              go_simp
              have B2 : Below w4.heap.size w4 (u1.alloc (.cells zero16 23)) := B1.alloc B1.size _
              have Z2 : Blk (u1.alloc (.cells zero16 23)) u1.heap.size 23 (bytes 16 fun _ => 0#8) := Blk.new u1 23 _
              have L2 := B1.size
              have O2 := O1.below ((Below.refl _ _).alloc (Nat.le_refl _) (.cells zero16 23))
              have NE2 := own_ne O1
              refine hK _ _ ⟨B2, ?_⟩
              clear hK K
              obtain ⟨gz, hg2⟩ : ∃ g, g = u1.heap.size := ⟨_, rfl⟩
              simp only [← hg2] at Z2 L2 NE2 ⊢
              generalize u1.alloc (.cells zero16 23) = u2 at B2 Z2 O2 ⊢
              clear hg2
              refine wpAnyH_all (rs := [3]) (by kernel_rfl) (by simp) ?_
              intro j hj
              simp only [List.mem_cons, List.not_mem_nil, or_false] at hj
              subst hj
              refine wpOp_step (o := ?_) ?_ (fun K hK => ?_)
              rotate_left 1
              · simp only [List.getElem?_toArray, List.getElem?_cons_zero, List.getElem?_cons_succ]
                with_reducible rfl
              have HR3 := (H2.r2.below B2)
              have HN3 : m ≤ 4096 := by have := HM4.out; omega
              (with_reducible refine step_append_z rfl (.tmp 31) (.tmp 32) rfl rfl O2 A' m c' (padB bf 2000) rfl HR3 m (Nat.zero_add m) HN3 B2.size ?_)
              intro AA3 cc3 u3 hc3 O3 b3 z3
              have B3 := B2.trans b3
              have Z3 : Blk u3 gz 23 (bytes 16 fun _ => 0#8) := ((z3 _ Z2.lt NE2).1).trans Z2
              have NE3 := (z3 _ Z2.lt NE2).2
              refine hK _ _ ⟨B3, ?_⟩
              clear hK K z3 b3 HR3 HN3
              simp only [Act.put, List.setIfInBounds_toArray, List.set_cons_zero, List.set_cons_succ]
              refine wpAnyH_all (rs := [5]) (by kernel_rfl) (by simp) ?_
              intro j hj
              simp only [List.mem_cons, List.not_mem_nil, or_false] at hj
              subst hj
              refine wpOp_step (o := ?_) ?_ (fun K hK => ?_)
              rotate_left 1
              · simp only [List.getElem?_toArray, List.getElem?_cons_zero, List.getElem?_cons_succ]
                with_reducible rfl
              have HR4 := (rd_blk (H2.s.l.below B3 H2.s.l.lt))
              have HN4 : (m + 16) ≤ 4096 := by have := HM4.out; omega
              (with_reducible refine step_append_z rfl (.tmp 33) (.tmp 34) rfl rfl O3 (some ⟨w.heap.size + 1, 0, none⟩) 16 16 lf rfl HR4 (m + 16) rfl HN4 B3.size ?_)
              intro AA4 cc4 u4 hc4 O4 b4 z4
              have B4 := B3.trans b4
              have Z4 : Blk u4 gz 23 (bytes 16 fun _ => 0#8) := ((z4 _ Z3.lt NE3).1).trans Z3
              have NE4 := (z4 _ Z3.lt NE3).2
              refine hK _ _ ⟨B4, ?_⟩
              clear hK K z4 b4 HR4 HN4
              simp only [Act.put, List.setIfInBounds_toArray, List.set_cons_zero, List.set_cons_succ]
              refine wpAnyH_all (rs := [6]) (by kernel_rfl) (by simp) ?_
              intro j hj
              simp only [List.mem_cons, List.not_mem_nil, or_false] at hj
              subst hj
              refine wpOp_step (o := ?_) ?_ (fun K hK => ?_)
              rotate_left 1
              · simp only [List.getElem?_toArray, List.getElem?_cons_zero, List.getElem?_cons_succ]
                with_reducible rfl
              have HC5 := hash_any kf (joinB (joinB (fun _ => 0#8) 0 (padB bf 2000)) m lf) AA4 (m + 16) cc4 (by have := HM4.out; omega) hc4 u4 (Own.rd O4)
              refine step_call rfl (f := 15) (args := #[.agg (bytes 16 kf), .slice AA4 (m + 16) cc4]) ?_ HC5 ?_
              · go_simp
              intro u5 b5
              have B5 := B4.trans (b5.mono B4.size)
              have Z5 := Z4.below b5 Z4.lt
              refine hK _ _ ⟨B5, ?_⟩
              clear hK K b5 HC5
              simp only [Act.put, List.setIfInBounds_toArray, List.set_cons_zero, List.set_cons_succ]
              refine wpAnyH_all (rs := [8]) (by kernel_rfl) (by simp) ?_
              intro j hj
              simp only [List.mem_cons, List.not_mem_nil, or_false] at hj
              subst hj
              refine wpOp_step (o := ?_) ?_ (fun K hK => ?_)
              rotate_left 1
              · simp only [List.getElem?_toArray, List.getElem?_cons_zero, List.getElem?_cons_succ]
                with_reducible rfl
              have ZB := Z5.rowB
              go_simp
              have FB := below_setRow B5 L2 (bytes 16 (byteB (hashF (blk kf) (joinB (joinB (fun _ => 0#8) 0 (padB bf 2000)) m lf) (m + 16))))
              have FZ := Z5.row_same (bytes 16 (byteB (hashF (blk kf) (joinB (joinB (fun _ => 0#8) 0 (padB bf 2000)) m lf) (m + 16))))
              refine hK _ _ ⟨FB, ?_⟩
              clear hK K
              refine wpAnyH_done (by kernel_rfl) ?_ _
              go_wp2
              go_meet
              exact ⟨gz, rfl, H2.laterB FB, join_join FZ⟩
          · refine wpOp_step (o := ?_) ?_ (fun K hK => ?_)
            rotate_left 1
            · simp only [List.getElem?_toArray, List.getElem?_cons_zero, List.getElem?_cons_succ]
              with_reducible rfl
            go_simp
            have B1 : Below w4.heap.size w4 (u0.alloc (.cells zero16 23)) := B0.alloc B0.size _
            have Z1 : Blk (u0.alloc (.cells zero16 23)) u0.heap.size 23 (bytes 16 fun _ => 0#8) := Blk.new u0 23 _
            have L1 := B0.size
            refine hK _ _ ⟨B1, ?_⟩
            clear hK K
            obtain ⟨gz, hg1⟩ : ∃ g, g = u0.heap.size := ⟨_, rfl⟩
            simp only [← hg1] at Z1 L1 ⊢
            generalize u0.alloc (.cells zero16 23) = u1 at B1 Z1 ⊢
            clear hg1
            refine wpAnyH_all (rs := [1]) (by kernel_rfl) (by simp) ?_
            intro j hj
            simp only [List.mem_cons, List.not_mem_nil, or_false] at hj
            subst hj
            refine wpOp_step (o := ?_) ?_ (fun K hK => ?_)
            rotate_left 1
            · simp only [List.getElem?_toArray, List.getElem?_cons_zero, List.getElem?_cons_succ]
              with_reducible rfl
            go_simp
            have B2 : Below w4.heap.size w4 (u1.alloc (.cells #[] 5)) := B1.alloc B1.size _
            have O2 : Own w4.heap.size (.slice (some ⟨u1.heap.size, 0, none⟩) 0 0) 0 (fun _ => 0#8) (u1.alloc (.cells #[] 5)) := World.ownsRow_made u1 #[] 0 B1.size (by simp [maxLen]) rfl
            have Z2 : Blk (u1.alloc (.cells #[] 5)) gz 23 (bytes 16 fun _ => 0#8) := Z1.alloc _
            have NE2 : (Value.slice (some ⟨u1.heap.size, 0, none⟩) 0 0).ownBlock ≠ some gz := fun e => by
              have := Z1.lt
              simp [Value.ownBlock] at e
              omega
            refine hK _ _ ⟨B2, ?_⟩
            clear hK K
            obtain ⟨g2, hg2⟩ : ∃ g, g = u1.heap.size := ⟨_, rfl⟩
            simp only [← hg2] at O2 NE2 ⊢
            generalize u1.alloc (.cells #[] 5) = u2 at B2 O2 Z2 ⊢
            clear hg2
            refine wpAnyH_all (rs := [3]) (by kernel_rfl) (by simp) ?_
            intro j hj
            simp only [List.mem_cons, List.not_mem_nil, or_false] at hj
            subst hj
            refine wpOp_step (o := ?_) ?_ (fun K hK => ?_)
            rotate_left 1
            · simp only [List.getElem?_toArray, List.getElem?_cons_zero, List.getElem?_cons_succ]
              with_reducible rfl
            have HR3 := (H2.r2.below B2)
            have HN3 : m ≤ 4096 := by have := HM4.out; omega
            (with_reducible refine step_append_z rfl (.tmp 31) (.tmp 32) rfl rfl O2 A' m c' (padB bf 2000) rfl HR3 m (Nat.zero_add m) HN3 B2.size ?_)
            intro AA3 cc3 u3 hc3 O3 b3 z3
            have B3 := B2.trans b3
            have Z3 : Blk u3 gz 23 (bytes 16 fun _ => 0#8) := ((z3 _ Z2.lt NE2).1).trans Z2
            have NE3 := (z3 _ Z2.lt NE2).2
            refine hK _ _ ⟨B3, ?_⟩
            clear hK K z3 b3 HR3 HN3
            simp only [Act.put, List.setIfInBounds_toArray, List.set_cons_zero, List.set_cons_succ]
            refine wpAnyH_all (rs := [5]) (by kernel_rfl) (by simp) ?_
            intro j hj
            simp only [List.mem_cons, List.not_mem_nil, or_false] at hj
            subst hj
            refine wpOp_step (o := ?_) ?_ (fun K hK => ?_)
            rotate_left 1
            · simp only [List.getElem?_toArray, List.getElem?_cons_zero, List.getElem?_cons_succ]
              with_reducible rfl
            have HR4 := (rd_blk (H2.s.l.below B3 H2.s.l.lt))
            have HN4 : (m + 16) ≤ 4096 := by have := HM4.out; omega
            (with_reducible refine step_append_z rfl (.tmp 33) (.tmp 34) rfl rfl O3 (some ⟨w.heap.size + 1, 0, none⟩) 16 16 lf rfl HR4 (m + 16) rfl HN4 B3.size ?_)
            intro AA4 cc4 u4 hc4 O4 b4 z4
            have B4 := B3.trans b4
            have Z4 : Blk u4 gz 23 (bytes 16 fun _ => 0#8) := ((z4 _ Z3.lt NE3).1).trans Z3
            have NE4 := (z4 _ Z3.lt NE3).2
            refine hK _ _ ⟨B4, ?_⟩
            clear hK K z4 b4 HR4 HN4
            simp only [Act.put, List.setIfInBounds_toArray, List.set_cons_zero, List.set_cons_succ]
            refine wpAnyH_all (rs := [6]) (by kernel_rfl) (by simp) ?_
            intro j hj
            simp only [List.mem_cons, List.not_mem_nil, or_false] at hj
            subst hj
            refine wpOp_step (o := ?_) ?_ (fun K hK => ?_)
            rotate_left 1
            · simp only [List.getElem?_toArray, List.getElem?_cons_zero, List.getElem?_cons_succ]
              with_reducible rfl
            have HC5 := hash_any kf (joinB (joinB (fun _ => 0#8) 0 (padB bf 2000)) m lf) AA4 (m + 16) cc4 (by have := HM4.out; omega) hc4 u4 (Own.rd O4)
            refine step_call rfl (f := 15) (args := #[.agg (bytes 16 kf), .slice AA4 (m + 16) cc4]) ?_ HC5 ?_
            · go_simp
            intro u5 b5
            have B5 := B4.trans (b5.mono B4.size)
            have Z5 := Z4.below b5 Z4.lt
            refine hK _ _ ⟨B5, ?_⟩
            clear hK K b5 HC5
            simp only [Act.put, List.setIfInBounds_toArray, List.set_cons_zero, List.set_cons_succ]
            refine wpAnyH_all (rs := [8]) (by kernel_rfl) (by simp) ?_
            intro j hj
            simp only [List.mem_cons, List.not_mem_nil, or_false] at hj
            subst hj
            refine wpOp_step (o := ?_) ?_ (fun K hK => ?_)
            rotate_left 1
            · simp only [List.getElem?_toArray, List.getElem?_cons_zero, List.getElem?_cons_succ]
              with_reducible rfl
            have ZB := Z5.rowB
            go_simp
            have FB := below_setRow B5 L1 (bytes 16 (byteB (hashF (blk kf) (joinB (joinB (fun _ => 0#8) 0 (padB bf 2000)) m lf) (m + 16))))
            have FZ := Z5.row_same (bytes 16 (byteB (hashF (blk kf) (joinB (joinB (fun _ => 0#8) 0 (padB bf 2000)) m lf) (m + 16))))
            refine hK _ _ ⟨FB, ?_⟩
            clear hK K
            refine wpAnyH_done (by kernel_rfl) ?_ _
            go_wp2
            go_meet
            exact ⟨gz, rfl, H2.laterB FB, join_join FZ⟩
        case rest =>
          obtain ⟨gz, rfl, H3⟩ := hcut
          have HMN := Lib.hid (show 2000 ≤ 4096 by have := HM.out; omega)
          have hs0 : sameB 16 (byteB (hashF (blk kf) (padB bf 2000) m)) (byteB (hashF (blk kf) bf 2000)) = true := sameB_of fun i _ => by rw [pad_hash (kf := kf) (bf := bf) hm1 HE.out]
          have hs1 : sameB 16 (byteB (hashF (blk kf) (joinB (padB bf 2000) m lf) (m + 16))) (byteB (mulB (blk (fun i => byteB (hashF (blk kf) (padB bf 2000) m) i ^^^ lf i)) (blk kf))) = true := sameB_of fun i _ => by rw [step_hash (kf := kf) (pf := padB bf 2000) (lf := lf) hz]
          go_wp2
          refine wp_region_begin (by kernel_rfl) ?_
          refine wpAny_steady (St3 w kf lf bf 2000 A A' m gy gz) [0, 1, 2, 3, 4, 5, 6, 7, 8, 9, 10, 11, 12, 13, 14, 15, 16] (by kernel_rfl) (H3.later (Below.refl _ _).drew) ?_
          repeat first
            | (refine Chain.step (oi := ?_) (v := ?_) ?_ (by kernel_rfl) (by kernel_rfl) (by kernel_rfl) ?_ ?_
               rotate_left 2
               · simp only [List.getElem?_toArray, List.getElem?_cons_zero, List.getElem?_cons_succ]
                 with_reducible rfl
               · (refine Or.inl ⟨?_, Gives.val ?_⟩; rfl; intro wz hz; refine load_val (S := St3 w kf lf bf 2000 A A' m gy gz) (g := gy) (f := byteB (hashF (blk kf) (padB bf 2000) m)) ?_ (fun _ h => h.r.y) wz hz; rfl)
               simp only [Act.put, List.setIfInBounds_toArray, List.set_cons_zero, List.set_cons_succ])
            | (refine Chain.step (oi := ?_) (v := ?_) ?_ (by kernel_rfl) (by kernel_rfl) (by kernel_rfl) ?_ ?_
               rotate_left 2
               · simp only [List.getElem?_toArray, List.getElem?_cons_zero, List.getElem?_cons_succ]
                 with_reducible rfl
               · (refine Or.inl ⟨?_, Gives.val ?_⟩; rfl; intro wz hz; refine load_val (S := St3 w kf lf bf 2000 A A' m gy gz) (g := w.heap.size) (f := kf) ?_ (fun _ h => h.r.s.a) wz hz; rfl)
               simp only [Act.put, List.setIfInBounds_toArray, List.set_cons_zero, List.set_cons_succ])
            | (refine Chain.step (oi := ?_) (v := ?_) ?_ (by kernel_rfl) (by kernel_rfl) (by kernel_rfl) ?_ ?_
               rotate_left 2
               · simp only [List.getElem?_toArray, List.getElem?_cons_zero, List.getElem?_cons_succ]
                 with_reducible rfl
               · (refine Or.inl ⟨?_, Gives.val ?_⟩; rfl; intro wz hz; refine load_val (S := St3 w kf lf bf 2000 A A' m gy gz) (g := w.heap.size + 1) (f := lf) ?_ (fun _ h => h.r.s.l) wz hz; rfl)
               simp only [Act.put, List.setIfInBounds_toArray, List.set_cons_zero, List.set_cons_succ])
            | (refine Chain.step (oi := ?_) (v := ?_) ?_ (by kernel_rfl) (by kernel_rfl) (by kernel_rfl) ?_ ?_
               rotate_left 2
               · simp only [List.getElem?_toArray, List.getElem?_cons_zero, List.getElem?_cons_succ]
                 with_reducible rfl
               · (refine Or.inl ⟨?_, Gives.val ?_⟩; rfl; intro wz hz; refine load_val (S := St3 w kf lf bf 2000 A A' m gy gz) (g := gz) (f := byteB (hashF (blk kf) (joinB (padB bf 2000) m lf) (m + 16))) ?_ (fun _ h => h.z) wz hz; rfl)
               simp only [Act.put, List.setIfInBounds_toArray, List.set_cons_zero, List.set_cons_succ])
            | (refine Chain.step (oi := ?_) (v := .agg (bytes 16 (byteB (hashF (blk kf) bf 2000)))) ?_ (by kernel_rfl) (by kernel_rfl) (by kernel_rfl) ?_ ?_
               rotate_left 1
               · simp only [List.getElem?_toArray, List.getElem?_cons_zero, List.getElem?_cons_succ]
                 with_reducible rfl
               · (refine Or.inl ⟨?_, Gives.call (f := 15) (args := #[.agg (bytes 16 (kf)), .slice A 2000 c]) ?_ ?_⟩; rfl; (intro wz hz; go_simp); intro wz hz; exact (hash_any kf bf A 2000 c HMN.out (Nat.le_trans HR0 hc) wz hz.r.s.r).mono fun e wy h => ⟨h.1, St3.later hz h.2⟩)
               simp only [Act.put, List.setIfInBounds_toArray, List.set_cons_zero, List.set_cons_succ])
            | (refine Chain.step (oi := ?_) (v := .agg (bytes 16 (fun i => byteB (hashF (blk kf) (padB bf 2000) m) i ^^^ lf i))) ?_ (by kernel_rfl) (by kernel_rfl) (by kernel_rfl) ?_ ?_
               rotate_left 1
               · simp only [List.getElem?_toArray, List.getElem?_cons_zero, List.getElem?_cons_succ]
                 with_reducible rfl
               · (refine Or.inl ⟨?_, Gives.call (f := 13) (args := #[.agg (bytes 16 (byteB (hashF (blk kf) (padB bf 2000) m))), .agg (bytes 16 (lf))]) ?_ ?_⟩; rfl; (intro wz hz; go_simp); intro wz hz; exact (xor_any (byteB (hashF (blk kf) (padB bf 2000) m)) lf wz).mono fun e wy h => ⟨h.1, St3.later hz h.2⟩)
               simp only [Act.put, List.setIfInBounds_toArray, List.set_cons_zero, List.set_cons_succ])
            | (refine Chain.step (oi := ?_) (v := .agg (bytes 16 (byteB (mulB (blk (fun i => byteB (hashF (blk kf) (padB bf 2000) m) i ^^^ lf i)) (blk kf))))) ?_ (by kernel_rfl) (by kernel_rfl) (by kernel_rfl) ?_ ?_
               rotate_left 1
               · simp only [List.getElem?_toArray, List.getElem?_cons_zero, List.getElem?_cons_succ]
                 with_reducible rfl
               · (refine Or.inl ⟨?_, Gives.call (f := 11) (args := #[.agg (bytes 16 (fun i => byteB (hashF (blk kf) (padB bf 2000) m) i ^^^ lf i)), .agg (bytes 16 (kf))]) ?_ ?_⟩; rfl; (intro wz hz; go_simp); intro wz hz; exact (mulC_any (fun i => byteB (hashF (blk kf) (padB bf 2000) m) i ^^^ lf i) kf wz).mono fun e wy h => ⟨h.1, St3.later hz h.2⟩)
               simp only [Act.put, List.setIfInBounds_toArray, List.set_cons_zero, List.set_cons_succ])
            | (refine Chain.step (oi := ?_) (v := ?_) ?_ (by kernel_rfl) (by kernel_rfl) (by kernel_rfl) ?_ ?_
               rotate_left 2
               · simp only [List.getElem?_toArray, List.getElem?_cons_zero, List.getElem?_cons_succ]
                 with_reducible rfl
               · (refine Or.inl ⟨?_, Gives.val ?_⟩; rfl; intro w _hw; go_simp; with_reducible rfl)
               simp only [Act.put, List.setIfInBounds_toArray, List.set_cons_zero, List.set_cons_succ])
          refine Chain.done fun w9 hw9 => ?_
          refine wpAny_ready (rs := [17]) (by kernel_rfl) (by simp) ?_
          refine AllReady.cons (o := ?_) ?_ (fun K hK => ?_) AllReady.nil
          rotate_left 1
          · simp only [List.getElem?_toArray, List.getElem?_cons_zero, List.getElem?_cons_succ]
            with_reducible rfl
          go_simp
          refine hK _ _ ?_
          clear hK K
          refine wpAny_done (by kernel_rfl) ?_ _
          go_wp2
          go_ret
          exact ⟨rfl, hw9.r.s.bel⟩
      · exfalso; omega
  · have HR0 : n ≤ n := Nat.le_refl _
    have hd : decide ((2000 : Int) < (n : Int)) = false := decide_eq_false (by omega)
    have H0 := St1.start w kf lf bf n A (hr.less HR0)
    go_enter Try.func6, Try.ntmps6
    go_wp2_with fail
    refine (shown_any _).mono ?_
    rintro e w1 ⟨rfl, hb1⟩
    have H1 := H0.later hb1
    clear H0 hb1
    have HO := Lib.hid (own_empty0 w1)
    have HR := Lib.hid (show RdB (w1.alloc (.cells #[] 5)) A n bf from H1.r.below ((Below.refl _ _).alloc (Nat.le_refl _) _))
    have HN := Lib.hid (show 0 + n ≤ 4096 by omega)
    have HM := Lib.hid (show n ≤ 2000 by omega)
    have HS := Lib.hid (show w1.heap.size ≤ (w1.alloc (.cells #[] 5)).heap.size by simp)
    go_wp2_with (at_builtin; (with_reducible refine wpList_append_rd rfl (.tmp 17) (.tmp 18) rfl rfl HO.out A n c bf rfl HR.out HN.out HS.out ?_); intro A2 c2 w2 hc2 hown2 hb2; rw [Nat.zero_add] at hc2 hown2 ⊢)
    have HP : Pd w1 bf n n (.slice A2 n c2) w2 := ⟨hown2.ext fun i hi => by unfold joinB padB; rw [if_neg (by omega), if_pos hi, Nat.sub_zero], ((Below.refl _ _).alloc (Nat.le_refl _) _).trans hb2⟩
    have HL := Lib.hid (show n ≤ (n + 15) / 16 * 16 by omega)
    clear hown2 hb2 HO HR HN HS
    go_loopw [8] (fun v w' => ∃ (m : Nat) (A' : Option Addr) (c' : Nat), n ≤ m ∧ m ≤ (n + 15) / 16 * 16 ∧ v = .slice A' m c' ∧ m ≤ c' ∧ Pd w1 bf n m (.slice A' m c') w') (fun v _ => (n + 15) / 16 * 16 - sliceLen v)
    case atStart => exact ⟨_, _, _, Nat.le_refl _, HL.out, rfl, hc2, HP⟩
    case round =>
      clear HP hc2
      obtain ⟨m, A', c', hm1, hm2, rfl, hmc, hP⟩ := hrel
      have HM4 := Lib.hid (show m ≤ 2015 by have := HM.out; omega)
      have ht : (m : Int).tmod 16 = ((m % 16 : Nat) : Int) := by rw [Int.tmod_eq_emod_of_nonneg (by omega)]; omega
      by_cases hz : m % 16 = 0
      · have hz2 : decide (((m % 16 : Nat) : Int) = 0) = true := by simp; omega
        have HE := Lib.hid (show m = (n + 15) / 16 * 16 by omega)
        have hS1 : St1 w kf lf bf n A wr := H1.later hP.bel
        go_wp2_with (with_reducible refine load_blk rfl (.tmp 3) rfl w.heap.size rfl _ hS1.a ?_)
        refine (hash_any kf (padB bf n) A' m c' (by have := HM4.out; omega) hmc wr (Own.rd hP.o)).mono ?_
        rintro e w3 ⟨rfl, hb3⟩
        have HZ : Blk (w3.alloc (.cells zero16 23)) w3.heap.size 23 (bytes 16 fun _ => 0#8) := Blk.new w3 23 _
        have HY := HZ.row_same (bytes 16 (byteB (hashF (blk kf) (padB bf n) m)))
        have hb4 : Below wr.heap.size wr ((w3.alloc (.cells zero16 23)).setRow w3.heap.size (bytes 16 (byteB (hashF (blk kf) (padB bf n) m)))) := below_setRow (hb3.alloc hb3.size _) hb3.size _
        have H2 : St2 w kf lf bf n A A' m w3.heap.size ((w3.alloc (.cells zero16 23)).setRow w3.heap.size (bytes 16 (byteB (hashF (blk kf) (padB bf n) m)))) := ⟨hS1.later hb4, (Own.rd hP.o).below hb4, HY⟩
        clear H1 hS1 hP hb3 hb4 HY
        go_wp2_with (first | (with_reducible refine store_blk rfl (.tmp 9) (.tmp 29) rfl w3.heap.size _ _ rfl rfl HZ ?_))
        clear HZ
        obtain ⟨gy, hgy⟩ : ∃ g, g = w3.heap.size := ⟨_, rfl⟩
        rw [← hgy] at H2 ⊢
        generalize ((w3.alloc (.cells zero16 23)).setRow gy (bytes 16 (byteB (hashF (blk kf) (padB bf n) m)))) = w4 at H2 ⊢
        clear hgy
        simp only [Act.put]
        go_cut [10] (fun s10 wx => ∃ gz : Nat, s10 = .pointer (some ⟨gz, 0, none⟩) ∧ St3 w kf lf bf n A A' m gy gz wx)
        case first =>
          refine wp_region_held (S := fun wx => Below w4.heap.size w4 wx) (by kernel_rfl) ?_
          have B0 : Below w4.heap.size w4 { w4 with drawn := w4.drawn + 1 } := (Below.refl _ _).drew
          generalize { w4 with drawn := w4.drawn + 1 } = u0 at B0 ⊢
          refine wpAnyH_take (i := 0) (oi := ?_) (v := ?_) ?_ (by kernel_rfl) (by kernel_rfl) (by kernel_rfl) ?_ ?_ ?_ ?_
          rotate_left 2
          · simp only [List.getElem?_toArray, List.getElem?_cons_zero, List.getElem?_cons_succ]
            with_reducible rfl
          · exact fun _ _ _ q => q
          · refine Or.inl ⟨rfl, fun wz hz => ?_⟩
            (refine load_val (S := fun wx => Below w4.heap.size w4 wx) (g := w.heap.size) (f := kf) ?_ (fun _ h => H2.s.a.below h H2.s.a.lt) wz hz; rfl)
          · exact B0
          simp only [Act.put, List.setIfInBounds_toArray, List.set_cons_zero, List.set_cons_succ]
          refine wpAnyH_take (i := 2) (oi := ?_) (v := ?_) ?_ (by kernel_rfl) (by kernel_rfl) (by kernel_rfl) ?_ ?_ ?_ ?_
          rotate_left 2
          · simp only [List.getElem?_toArray, List.getElem?_cons_zero, List.getElem?_cons_succ]
            with_reducible rfl
          · exact fun _ _ _ q => q
          · refine Or.inl ⟨rfl, fun wz hz => ?_⟩
            go_simp; with_reducible rfl
          · exact B0
          simp only [Act.put, List.setIfInBounds_toArray, List.set_cons_zero, List.set_cons_succ]
          refine wpAnyH_take (i := 4) (oi := ?_) (v := ?_) ?_ (by kernel_rfl) (by kernel_rfl) (by kernel_rfl) ?_ ?_ ?_ ?_
          rotate_left 2
          · simp only [List.getElem?_toArray, List.getElem?_cons_zero, List.getElem?_cons_succ]
            with_reducible rfl
          · exact fun _ _ _ q => q
          · refine Or.inl ⟨rfl, fun wz hz => ?_⟩
            go_simp; with_reducible rfl
          · exact B0
          simp only [Act.put, List.setIfInBounds_toArray, List.set_cons_zero, List.set_cons_succ]
          refine wpAnyH_all (rs := [1, 7]) (by kernel_rfl) (by simp) ?_
          intro j hj
          simp only [List.mem_cons, List.not_mem_nil, or_false] at hj
          rcases hj with rfl | rfl
          · refine wpOp_step (o := ?_) ?_ (fun K hK => ?_)
            rotate_left 1
            · simp only [List.getElem?_toArray, List.getElem?_cons_zero, List.getElem?_cons_succ]
              with_reducible rfl
            go_simp
            have B1 : Below w4.heap.size w4 (u0.alloc (.cells #[] 5)) := B0.alloc B0.size _
            have O1 : Own w4.heap.size (.slice (some ⟨u0.heap.size, 0, none⟩) 0 0) 0 (fun _ => 0#8) (u0.alloc (.cells #[] 5)) := World.ownsRow_made u0 #[] 0 B0.size (by simp [maxLen]) rfl
            refine hK _ _ ⟨B1, ?_⟩
            clear hK K
            obtain ⟨g1, hg1⟩ : ∃ g, g = u0.heap.size := ⟨_, rfl⟩
            simp only [← hg1] at O1 ⊢
            generalize u0.alloc (.cells #[] 5) = u1 at B1 O1 ⊢
            clear hg1
            refine wpAnyH_all (rs := [3, 7]) (by kernel_rfl) (by simp) ?_
            intro j hj
            simp only [List.mem_cons, List.not_mem_nil, or_false] at hj
            rcases hj with rfl | rfl
            · refine wpOp_step (o := ?_) ?_ (fun K hK => ?_)
              rotate_left 1
              · simp only [List.getElem?_toArray, List.getElem?_cons_zero, List.getElem?_cons_succ]
                with_reducible rfl
              have HR2 := (H2.r2.below B1)
              have HN2 : m ≤ 4096 := by have := HM4.out; omega
              (with_reducible refine step_append_z rfl (.tmp 31) (.tmp 32) rfl rfl O1 A' m c' (padB bf n) rfl HR2 m (Nat.zero_add m) HN2 B1.size ?_)
              intro AA2 cc2 u2 hc2 O2 b2 z2
              have B2 := B1.trans b2
              refine hK _ _ ⟨B2, ?_⟩
              clear hK K z2 b2 HR2 HN2
              simp only [Act.put, List.setIfInBounds_toArray, List.set_cons_zero, List.set_cons_succ]
              refine wpAnyH_all (rs := [5, 7]) (by kernel_rfl) (by simp) ?_
              intro j hj
              simp only [List.mem_cons, List.not_mem_nil, or_false] at hj
              rcases hj with rfl | rfl
              · refine wpOp_step (o := ?_) ?_ (fun K hK => ?_)
                rotate_left 1
                · simp only [List.getElem?_toArray, List.getElem?_cons_zero, List.getElem?_cons_succ]
                  with_reducible rfl
                have HR3 := (rd_blk (H2.s.l.below B2 H2.s.l.lt))
                have HN3 : (m + 16) ≤ 4096 := by have := HM4.out; omega
                (with_reducible refine step_append_z rfl (.tmp 33) (.tmp 34) rfl rfl O2 (some ⟨w.heap.size + 1, 0, none⟩) 16 16 lf rfl HR3 (m + 16) rfl HN3 B2.size ?_)
                intro AA3 cc3 u3 hc3 O3 b3 z3
                have B3 := B2.trans b3
                refine hK _ _ ⟨B3, ?_⟩
                clear hK K z3 b3 HR3 HN3
                simp only [Act.put, List.setIfInBounds_toArray, List.set_cons_zero, List.set_cons_succ]
                refine wpAnyH_all (rs := [6, 7]) (by kernel_rfl) (by simp) ?_
                intro j hj
                simp only [List.mem_cons, List.not_mem_nil, or_false] at hj
                rcases hj with rfl | rfl
                · refine wpOp_step (o := ?_) ?_ (fun K hK => ?_)
                  rotate_left 1
                  · simp only [List.getElem?_toArray, List.getElem?_cons_zero, List.getElem?_cons_succ]
                    with_reducible rfl
                  have HC4 := hash_any kf (joinB (joinB (fun _ => 0#8) 0 (padB bf n)) m lf) AA3 (m + 16) cc3 (by have := HM4.out; omega) hc3 u3 (Own.rd O3)
                  refine step_call rfl (f := 15) (args := #[.agg (bytes 16 kf), .slice AA3 (m + 16) cc3]) ?_ HC4 ?_
                  · go_simp
                  intro u4 b4
                  have B4 := B3.trans (b4.mono B3.size)
                  refine hK _ _ ⟨B4, ?_⟩
                  clear hK K b4 HC4
                  simp only [Act.put, List.setIfInBounds_toArray, List.set_cons_zero, List.set_cons_succ]
                  refine wpAnyH_all (rs := [7]) (by kernel_rfl) (by simp) ?_
                  intro j hj
                  simp only [List.mem_cons, List.not_mem_nil, or_false] at hj
                  subst hj
                  refine wpOp_step (o := ?_) ?_ (fun K hK => ?_)
                  rotate_left 1
                  · simp only [List.getElem?_toArray, List.getElem?_cons_zero, List.getElem?_cons_succ]
                    with_reducible rfl
                  go_simp
                  have B5 : Below w4.heap.size w4 (u4.alloc (.cells zero16 23)) := B4.alloc B4.size _
                  have Z5 : Blk (u4.alloc (.cells zero16 23)) u4.heap.size 23 (bytes 16 fun _ => 0#8) := Blk.new u4 23 _
                  have L5 := B4.size
                  refine hK _ _ ⟨B5, ?_⟩
                  clear hK K
                  obtain ⟨gz, hg5⟩ : ∃ g, g = u4.heap.size := ⟨_, rfl⟩
                  simp only [← hg5] at Z5 L5 ⊢
                  generalize u4.alloc (.cells zero16 23) = u5 at B5 Z5 ⊢
                  clear hg5
                  refine wpAnyH_all (rs := [8]) (by kernel_rfl) (by simp) ?_
                  intro j hj
                  simp only [List.mem_cons, List.not_mem_nil, or_false] at hj
                  subst hj
                  refine wpOp_step (o := ?_) ?_ (fun K hK => ?_)
                  rotate_left 1
                  · simp only [List.getElem?_toArray, List.getElem?_cons_zero, List.getElem?_cons_succ]
                    with_reducible rfl
                  have ZB := Z5.rowB
                  go_simp
                  have FB := below_setRow B5 L5 (bytes 16 (byteB (hashF (blk kf) (joinB (joinB (fun _ => 0#8) 0 (padB bf n)) m lf) (m + 16))))
                  have FZ := Z5.row_same (bytes 16 (byteB (hashF (blk kf) (joinB (joinB (fun _ => 0#8) 0 (padB bf n)) m lf) (m + 16))))
                  refine hK _ _ ⟨FB, ?_⟩
                  clear hK K
                  refine wpAnyH_done (by kernel_rfl) ?_ _
                  go_wp2
                  go_meet
                  exact ⟨gz, rfl, H2.laterB FB, join_join FZ⟩
                · refine wpOp_step (o := ?_) ?_ (fun K hK => ?_)
                  rotate_left 1
                  · simp only [List.getElem?_toArray, List.getElem?_cons_zero, List.getElem?_cons_succ]
                    with_reducible rfl
                  go_simp
                  have B4 : Below w4.heap.size w4 (u3.alloc (.cells zero16 23)) := B3.alloc B3.size _
                  have Z4 : Blk (u3.alloc (.cells zero16 23)) u3.heap.size 23 (bytes 16 fun _ => 0#8) := Blk.new u3 23 _
                  have L4 := B3.size
                  have O4 := O3.below ((Below.refl _ _).alloc (Nat.le_refl _) (.cells zero16 23))
                  have NE4 := own_ne O3
                  refine hK _ _ ⟨B4, ?_⟩
                  clear hK K
                  obtain ⟨gz, hg4⟩ : ∃ g, g = u3.heap.size := ⟨_, rfl⟩
                  simp only [← hg4] at Z4 L4 NE4 ⊢
                  generalize u3.alloc (.cells zero16 23) = u4 at B4 Z4 O4 ⊢
                  clear hg4
                  refine wpAnyH_all (rs := [6]) (by kernel_rfl) (by simp) ?_
                  intro j hj
                  simp only [List.mem_cons, List.not_mem_nil, or_false] at hj
                  subst hj
                  refine wpOp_step (o := ?_) ?_ (fun K hK => ?_)
                  rotate_left 1
                  · simp only [List.getElem?_toArray, List.getElem?_cons_zero, List.getElem?_cons_succ]
                    with_reducible rfl
                  have HC5 := hash_any kf (joinB (joinB (fun _ => 0#8) 0 (padB bf n)) m lf) AA3 (m + 16) cc3 (by have := HM4.out; omega) hc3 u4 (Own.rd O4)
                  refine step_call rfl (f := 15) (args := #[.agg (bytes 16 kf), .slice AA3 (m + 16) cc3]) ?_ HC5 ?_
                  · go_simp
                  intro u5 b5
                  have B5 := B4.trans (b5.mono B4.size)
                  have Z5 := Z4.below b5 Z4.lt
                  refine hK _ _ ⟨B5, ?_⟩
                  clear hK K b5 HC5
                  simp only [Act.put, List.setIfInBounds_toArray, List.set_cons_zero, List.set_cons_succ]
                  refine wpAnyH_all (rs := [8]) (by kernel_rfl) (by simp) ?_
                  intro j hj
                  simp only [List.mem_cons, List.not_mem_nil, or_false] at hj
                  subst hj
                  refine wpOp_step (o := ?_) ?_ (fun K hK => ?_)
                  rotate_left 1
                  · simp only [List.getElem?_toArray, List.getElem?_cons_zero, List.getElem?_cons_succ]
                    with_reducible rfl
                  have ZB := Z5.rowB
                  go_simp
                  have FB := below_setRow B5 L4 (bytes 16 (byteB (hashF (blk kf) (joinB (joinB (fun _ => 0#8) 0 (padB bf n)) m lf) (m + 16))))
                  have FZ := Z5.row_same (bytes 16 (byteB (hashF (blk kf) (joinB (joinB (fun _ => 0#8) 0 (padB bf n)) m lf) (m + 16))))
                  refine hK _ _ ⟨FB, ?_⟩
                  clear hK K
                  refine wpAnyH_done (by kernel_rfl) ?_ _
                  go_wp2
                  go_meet
                  exact ⟨gz, rfl, H2.laterB FB, join_join FZ⟩
              · refine wpOp_step (o := ?_) ?_ (fun K hK => ?_)
                rotate_left 1
                · simp only [List.getElem?_toArray, List.getElem?_cons_zero, List.getElem?_cons_succ]
                  with_reducible rfl
                go_simp
                have B3 : Below w4.heap.size w4 (u2.alloc (.cells zero16 23)) := B2.alloc B2.size _
                have Z3 : Blk (u2.alloc (.cells zero16 23)) u2.heap.size 23 (bytes 16 fun _ => 0#8) := Blk.new u2 23 _
                have L3 := B2.size
                have O3 := O2.below ((Below.refl _ _).alloc (Nat.le_refl _) (.cells zero16 23))
                have NE3 := own_ne O2
                refine hK _ _ ⟨B3, ?_⟩
                clear hK K
                obtain ⟨gz, hg3⟩ : ∃ g, g = u2.heap.size := ⟨_, rfl⟩
                simp only [← hg3] at Z3 L3 NE3 ⊢
                generalize u2.alloc (.cells zero16 23) = u3 at B3 Z3 O3 ⊢
                clear hg3
                refine wpAnyH_all (rs := [5]) (by kernel_rfl) (by simp) ?_
                intro j hj
                simp only [List.mem_cons, List.not_mem_nil, or_false] at hj
                subst hj
                refine wpOp_step (o := ?_) ?_ (fun K hK => ?_)
                rotate_left 1
                · simp only [List.getElem?_toArray, List.getElem?_cons_zero, List.getElem?_cons_succ]
                  with_reducible rfl
                have HR4 := (rd_blk (H2.s.l.below B3 H2.s.l.lt))
                have HN4 : (m + 16) ≤ 4096 := by have := HM4.out; omega
                (with_reducible refine step_append_z rfl (.tmp 33) (.tmp 34) rfl rfl O3 (some ⟨w.heap.size + 1, 0, none⟩) 16 16 lf rfl HR4 (m + 16) rfl HN4 B3.size ?_)
                intro AA4 cc4 u4 hc4 O4 b4 z4
                have B4 := B3.trans b4
                have Z4 : Blk u4 gz 23 (bytes 16 fun _ => 0#8) := ((z4 _ Z3.lt NE3).1).trans Z3
                have NE4 := (z4 _ Z3.lt NE3).2
                refine hK _ _ ⟨B4, ?_⟩
                clear hK K z4 b4 HR4 HN4
                simp only [Act.put, List.setIfInBounds_toArray, List.set_cons_zero, List.set_cons_succ]
                refine wpAnyH_all (rs := [6]) (by kernel_rfl) (by simp) ?_
                intro j hj
                simp only [List.mem_cons, List.not_mem_nil, or_false] at hj
                subst hj
                refine wpOp_step (o := ?_) ?_ (fun K hK => ?_)
                rotate_left 1
                · simp only [List.getElem?_toArray, List.getElem?_cons_zero, List.getElem?_cons_succ]
                  with_reducible rfl
                have HC5 := hash_any kf (joinB (joinB (fun _ => 0#8) 0 (padB bf n)) m lf) AA4 (m + 16) cc4 (by have := HM4.out; omega) hc4 u4 (Own.rd O4)
                refine step_call rfl (f := 15) (args := #[.agg (bytes 16 kf), .slice AA4 (m + 16) cc4]) ?_ HC5 ?_
                · go_simp
                intro u5 b5
                have B5 := B4.trans (b5.mono B4.size)
                have Z5 := Z4.below b5 Z4.lt
                refine hK _ _ ⟨B5, ?_⟩
                clear hK K b5 HC5
                simp only [Act.put, List.setIfInBounds_toArray, List.set_cons_zero, List.set_cons_succ]
                refine wpAnyH_all (rs := [8]) (by kernel_rfl) (by simp) ?_
                intro j hj
                simp only [List.mem_cons, List.not_mem_nil, or_false] at hj
                subst hj
                refine wpOp_step (o := ?_) ?_ (fun K hK => ?_)
                rotate_left 1
                · simp only [List.getElem?_toArray, List.getElem?_cons_zero, List.getElem?_cons_succ]
                  with_reducible rfl
                have ZB := Z5.rowB
                go_simp
                have FB := below_setRow B5 L3 (bytes 16 (byteB (hashF (blk kf) (joinB (joinB (fun _ => 0#8) 0 (padB bf n)) m lf) (m + 16))))
                have FZ := Z5.row_same (bytes 16 (byteB (hashF (blk kf) (joinB (joinB (fun _ => 0#8) 0 (padB bf n)) m lf) (m + 16))))
                refine hK _ _ ⟨FB, ?_⟩
                clear hK K
                refine wpAnyH_done (by kernel_rfl) ?_ _
                go_wp2
                go_meet
                exact ⟨gz, rfl, H2.laterB FB, join_join FZ⟩
            · refine wpOp_step (o := ?_) ?_ (fun K hK => ?_)
              rotate_left 1
              · simp only [List.getElem?_toArray, List.getElem?_cons_zero, List.getElem?_cons_succ]
                with_reducible rfl
              go_simp
              have B2 : Below w4.heap.size w4 (u1.alloc (.cells zero16 23)) := B1.alloc B1.size _
              have Z2 : Blk (u1.alloc (.cells zero16 23)) u1.heap.size 23 (bytes 16 fun _ => 0#8) := Blk.new u1 23 _
              have L2 := B1.size
              have O2 := O1.below ((Below.refl _ _).alloc (Nat.le_refl _) (.cells zero16 23))
              have NE2 := own_ne O1
              refine hK _ _ ⟨B2, ?_⟩
              clear hK K
              obtain ⟨gz, hg2⟩ : ∃ g, g = u1.heap.size := ⟨_, rfl⟩
              simp only [← hg2] at Z2 L2 NE2 ⊢
              generalize u1.alloc (.cells zero16 23) = u2 at B2 Z2 O2 ⊢
              clear hg2
              refine wpAnyH_all (rs := [3]) (by kernel_rfl) (by simp) ?_
              intro j hj
              simp only [List.mem_cons, List.not_mem_nil, or_false] at hj
              subst hj
              refine wpOp_step (o := ?_) ?_ (fun K hK => ?_)
              rotate_left 1
              · simp only [List.getElem?_toArray, List.getElem?_cons_zero, List.getElem?_cons_succ]
                with_reducible rfl
              have HR3 := (H2.r2.below B2)
              have HN3 : m ≤ 4096 := by have := HM4.out; omega
              (with_reducible refine step_append_z rfl (.tmp 31) (.tmp 32) rfl rfl O2 A' m c' (padB bf n) rfl HR3 m (Nat.zero_add m) HN3 B2.size ?_)
              intro AA3 cc3 u3 hc3 O3 b3 z3
              have B3 := B2.trans b3
              have Z3 : Blk u3 gz 23 (bytes 16 fun _ => 0#8) := ((z3 _ Z2.lt NE2).1).trans Z2
              have NE3 := (z3 _ Z2.lt NE2).2
              refine hK _ _ ⟨B3, ?_⟩
              clear hK K z3 b3 HR3 HN3
              simp only [Act.put, List.setIfInBounds_toArray, List.set_cons_zero, List.set_cons_succ]
              refine wpAnyH_all (rs := [5]) (by kernel_rfl) (by simp) ?_
              intro j hj
              simp only [List.mem_cons, List.not_mem_nil, or_false] at hj
              subst hj
              refine wpOp_step (o := ?_) ?_ (fun K hK => ?_)
              rotate_left 1
              · simp only [List.getElem?_toArray, List.getElem?_cons_zero, List.getElem?_cons_succ]
                with_reducible rfl
              have HR4 := (rd_blk (H2.s.l.below B3 H2.s.l.lt))
              have HN4 : (m + 16) ≤ 4096 := by have := HM4.out; omega
              (with_reducible refine step_append_z rfl (.tmp 33) (.tmp 34) rfl rfl O3 (some ⟨w.heap.size + 1, 0, none⟩) 16 16 lf rfl HR4 (m + 16) rfl HN4 B3.size ?_)
              intro AA4 cc4 u4 hc4 O4 b4 z4
              have B4 := B3.trans b4
              have Z4 : Blk u4 gz 23 (bytes 16 fun _ => 0#8) := ((z4 _ Z3.lt NE3).1).trans Z3
              have NE4 := (z4 _ Z3.lt NE3).2
              refine hK _ _ ⟨B4, ?_⟩
              clear hK K z4 b4 HR4 HN4
              simp only [Act.put, List.setIfInBounds_toArray, List.set_cons_zero, List.set_cons_succ]
              refine wpAnyH_all (rs := [6]) (by kernel_rfl) (by simp) ?_
              intro j hj
              simp only [List.mem_cons, List.not_mem_nil, or_false] at hj
              subst hj
              refine wpOp_step (o := ?_) ?_ (fun K hK => ?_)
              rotate_left 1
              · simp only [List.getElem?_toArray, List.getElem?_cons_zero, List.getElem?_cons_succ]
                with_reducible rfl
              have HC5 := hash_any kf (joinB (joinB (fun _ => 0#8) 0 (padB bf n)) m lf) AA4 (m + 16) cc4 (by have := HM4.out; omega) hc4 u4 (Own.rd O4)
              refine step_call rfl (f := 15) (args := #[.agg (bytes 16 kf), .slice AA4 (m + 16) cc4]) ?_ HC5 ?_
              · go_simp
              intro u5 b5
              have B5 := B4.trans (b5.mono B4.size)
              have Z5 := Z4.below b5 Z4.lt
              refine hK _ _ ⟨B5, ?_⟩
              clear hK K b5 HC5
              simp only [Act.put, List.setIfInBounds_toArray, List.set_cons_zero, List.set_cons_succ]
              refine wpAnyH_all (rs := [8]) (by kernel_rfl) (by simp) ?_
              intro j hj
              simp only [List.mem_cons, List.not_mem_nil, or_false] at hj
              subst hj
              refine wpOp_step (o := ?_) ?_ (fun K hK => ?_)
              rotate_left 1
              · simp only [List.getElem?_toArray, List.getElem?_cons_zero, List.getElem?_cons_succ]
                with_reducible rfl
              have ZB := Z5.rowB
              go_simp
              have FB := below_setRow B5 L2 (bytes 16 (byteB (hashF (blk kf) (joinB (joinB (fun _ => 0#8) 0 (padB bf n)) m lf) (m + 16))))
              have FZ := Z5.row_same (bytes 16 (byteB (hashF (blk kf) (joinB (joinB (fun _ => 0#8) 0 (padB bf n)) m lf) (m + 16))))
              refine hK _ _ ⟨FB, ?_⟩
              clear hK K
              refine wpAnyH_done (by kernel_rfl) ?_ _
              go_wp2
              go_meet
              exact ⟨gz, rfl, H2.laterB FB, join_join FZ⟩
          · refine wpOp_step (o := ?_) ?_ (fun K hK => ?_)
            rotate_left 1
            · simp only [List.getElem?_toArray, List.getElem?_cons_zero, List.getElem?_cons_succ]
              with_reducible rfl
            go_simp
            have B1 : Below w4.heap.size w4 (u0.alloc (.cells zero16 23)) := B0.alloc B0.size _
            have Z1 : Blk (u0.alloc (.cells zero16 23)) u0.heap.size 23 (bytes 16 fun _ => 0#8) := Blk.new u0 23 _
            have L1 := B0.size
            refine hK _ _ ⟨B1, ?_⟩
            clear hK K
            obtain ⟨gz, hg1⟩ : ∃ g, g = u0.heap.size := ⟨_, rfl⟩
            simp only [← hg1] at Z1 L1 ⊢
            generalize u0.alloc (.cells zero16 23) = u1 at B1 Z1 ⊢
            clear hg1
            refine wpAnyH_all (rs := [1]) (by kernel_rfl) (by simp) ?_
            intro j hj
            simp only [List.mem_cons, List.not_mem_nil, or_false] at hj
            subst hj
            refine wpOp_step (o := ?_) ?_ (fun K hK => ?_)
            rotate_left 1
            · simp only [List.getElem?_toArray, List.getElem?_cons_zero, List.getElem?_cons_succ]
              with_reducible rfl
            go_simp
            have B2 : Below w4.heap.size w4 (u1.alloc (.cells #[] 5)) := B1.alloc B1.size _
            have O2 : Own w4.heap.size (.slice (some ⟨u1.heap.size, 0, none⟩) 0 0) 0 (fun _ => 0#8) (u1.alloc (.cells #[] 5)) := World.ownsRow_made u1 #[] 0 B1.size (by simp [maxLen]) rfl
            have Z2 : Blk (u1.alloc (.cells #[] 5)) gz 23 (bytes 16 fun _ => 0#8) := Z1.alloc _
            have NE2 : (Value.slice (some ⟨u1.heap.size, 0, none⟩) 0 0).ownBlock ≠ some gz := fun e => by
              have := Z1.lt
              simp [Value.ownBlock] at e
              omega
            refine hK _ _ ⟨B2, ?_⟩
            clear hK K
            obtain ⟨g2, hg2⟩ : ∃ g, g = u1.heap.size := ⟨_, rfl⟩
            simp only [← hg2] at O2 NE2 ⊢
            generalize u1.alloc (.cells #[] 5) = u2 at B2 O2 Z2 ⊢
            clear hg2
            refine wpAnyH_all (rs := [3]) (by kernel_rfl) (by simp) ?_
            intro j hj
            simp only [List.mem_cons, List.not_mem_nil, or_false] at hj
            subst hj
            refine wpOp_step (o := ?_) ?_ (fun K hK => ?_)
            rotate_left 1
            · simp only [List.getElem?_toArray, List.getElem?_cons_zero, List.getElem?_cons_succ]
              with_reducible rfl
            have HR3 := (H2.r2.below B2)
            have HN3 : m ≤ 4096 := by have := HM4.out; omega
            (with_reducible refine step_append_z rfl (.tmp 31) (.tmp 32) rfl rfl O2 A' m c' (padB bf n) rfl HR3 m (Nat.zero_add m) HN3 B2.size ?_)
            intro AA3 cc3 u3 hc3 O3 b3 z3
            have B3 := B2.trans b3
            have Z3 : Blk u3 gz 23 (bytes 16 fun _ => 0#8) := ((z3 _ Z2.lt NE2).1).trans Z2
            have NE3 := (z3 _ Z2.lt NE2).2
            refine hK _ _ ⟨B3, ?_⟩
            clear hK K z3 b3 HR3 HN3
            simp only [Act.put, List.setIfInBounds_toArray, List.set_cons_zero, List.set_cons_succ]
            refine wpAnyH_all (rs := [5]) (by kernel_rfl) (by simp) ?_
            intro j hj
            simp only [List.mem_cons, List.not_mem_nil, or_false] at hj
            subst hj
            refine wpOp_step (o := ?_) ?_ (fun K hK => ?_)
            rotate_left 1
            · simp only [List.getElem?_toArray, List.getElem?_cons_zero, List.getElem?_cons_succ]
              with_reducible rfl
            have HR4 := (rd_blk (H2.s.l.below B3 H2.s.l.lt))
            have HN4 : (m + 16) ≤ 4096 := by have := HM4.out; omega
            (with_reducible refine step_append_z rfl (.tmp 33) (.tmp 34) rfl rfl O3 (some ⟨w.heap.size + 1, 0, none⟩) 16 16 lf rfl HR4 (m + 16) rfl HN4 B3.size ?_)
            intro AA4 cc4 u4 hc4 O4 b4 z4
            have B4 := B3.trans b4
            have Z4 : Blk u4 gz 23 (bytes 16 fun _ => 0#8) := ((z4 _ Z3.lt NE3).1).trans Z3
            have NE4 := (z4 _ Z3.lt NE3).2
            refine hK _ _ ⟨B4, ?_⟩
            clear hK K z4 b4 HR4 HN4
            simp only [Act.put, List.setIfInBounds_toArray, List.set_cons_zero, List.set_cons_succ]
            refine wpAnyH_all (rs := [6]) (by kernel_rfl) (by simp) ?_
            intro j hj
            simp only [List.mem_cons, List.not_mem_nil, or_false] at hj
            subst hj
            refine wpOp_step (o := ?_) ?_ (fun K hK => ?_)
            rotate_left 1
            · simp only [List.getElem?_toArray, List.getElem?_cons_zero, List.getElem?_cons_succ]
              with_reducible rfl
            have HC5 := hash_any kf (joinB (joinB (fun _ => 0#8) 0 (padB bf n)) m lf) AA4 (m + 16) cc4 (by have := HM4.out; omega) hc4 u4 (Own.rd O4)
            refine step_call rfl (f := 15) (args := #[.agg (bytes 16 kf), .slice AA4 (m + 16) cc4]) ?_ HC5 ?_
            · go_simp
            intro u5 b5
            have B5 := B4.trans (b5.mono B4.size)
            have Z5 := Z4.below b5 Z4.lt
            refine hK _ _ ⟨B5, ?_⟩
            clear hK K b5 HC5
            simp only [Act.put, List.setIfInBounds_toArray, List.set_cons_zero, List.set_cons_succ]
            refine wpAnyH_all (rs := [8]) (by kernel_rfl) (by simp) ?_
            intro j hj
            simp only [List.mem_cons, List.not_mem_nil, or_false] at hj
            subst hj
            refine wpOp_step (o := ?_) ?_ (fun K hK => ?_)
            rotate_left 1
            · simp only [List.getElem?_toArray, List.getElem?_cons_zero, List.getElem?_cons_succ]
              with_reducible rfl
            have ZB := Z5.rowB
            go_simp
            have FB := below_setRow B5 L1 (bytes 16 (byteB (hashF (blk kf) (joinB (joinB (fun _ => 0#8) 0 (padB bf n)) m lf) (m + 16))))
            have FZ := Z5.row_same (bytes 16 (byteB (hashF (blk kf) (joinB (joinB (fun _ => 0#8) 0 (padB bf n)) m lf) (m + 16))))
            refine hK _ _ ⟨FB, ?_⟩
            clear hK K
            refine wpAnyH_done (by kernel_rfl) ?_ _
            go_wp2
            go_meet
            exact ⟨gz, rfl, H2.laterB FB, join_join FZ⟩
        case rest =>
          obtain ⟨gz, rfl, H3⟩ := hcut
          have HMN := Lib.hid (show n ≤ 4096 by have := HM.out; omega)
          have hs0 : sameB 16 (byteB (hashF (blk kf) (padB bf n) m)) (byteB (hashF (blk kf) bf n)) = true := sameB_of fun i _ => by rw [pad_hash (kf := kf) (bf := bf) hm1 HE.out]
          have hs1 : sameB 16 (byteB (hashF (blk kf) (joinB (padB bf n) m lf) (m + 16))) (byteB (mulB (blk (fun i => byteB (hashF (blk kf) (padB bf n) m) i ^^^ lf i)) (blk kf))) = true := sameB_of fun i _ => by rw [step_hash (kf := kf) (pf := padB bf n) (lf := lf) hz]
          go_wp2
          refine wp_region_begin (by kernel_rfl) ?_
          refine wpAny_steady (St3 w kf lf bf n A A' m gy gz) [0, 1, 2, 3, 4, 5, 6, 7, 8, 9, 10, 11, 12, 13, 14, 15, 16] (by kernel_rfl) (H3.later (Below.refl _ _).drew) ?_
          repeat first
            | (refine Chain.step (oi := ?_) (v := ?_) ?_ (by kernel_rfl) (by kernel_rfl) (by kernel_rfl) ?_ ?_
               rotate_left 2
               · simp only [List.getElem?_toArray, List.getElem?_cons_zero, List.getElem?_cons_succ]
                 with_reducible rfl
               · (refine Or.inl ⟨?_, Gives.val ?_⟩; rfl; intro wz hz; refine load_val (S := St3 w kf lf bf n A A' m gy gz) (g := gy) (f := byteB (hashF (blk kf) (padB bf n) m)) ?_ (fun _ h => h.r.y) wz hz; rfl)
               simp only [Act.put, List.setIfInBounds_toArray, List.set_cons_zero, List.set_cons_succ])
            | (refine Chain.step (oi := ?_) (v := ?_) ?_ (by kernel_rfl) (by kernel_rfl) (by kernel_rfl) ?_ ?_
               rotate_left 2
               · simp only [List.getElem?_toArray, List.getElem?_cons_zero, List.getElem?_cons_succ]
                 with_reducible rfl
               · (refine Or.inl ⟨?_, Gives.val ?_⟩; rfl; intro wz hz; refine load_val (S := St3 w kf lf bf n A A' m gy gz) (g := w.heap.size) (f := kf) ?_ (fun _ h => h.r.s.a) wz hz; rfl)
               simp only [Act.put, List.setIfInBounds_toArray, List.set_cons_zero, List.set_cons_succ])
            | (refine Chain.step (oi := ?_) (v := ?_) ?_ (by kernel_rfl) (by kernel_rfl) (by kernel_rfl) ?_ ?_
               rotate_left 2
               · simp only [List.getElem?_toArray, List.getElem?_cons_zero, List.getElem?_cons_succ]
                 with_reducible rfl
               · (refine Or.inl ⟨?_, Gives.val ?_⟩; rfl; intro wz hz; refine load_val (S := St3 w kf lf bf n A A' m gy gz) (g := w.heap.size + 1) (f := lf) ?_ (fun _ h => h.r.s.l) wz hz; rfl)
               simp only [Act.put, List.setIfInBounds_toArray, List.set_cons_zero, List.set_cons_succ])
            | (refine Chain.step (oi := ?_) (v := ?_) ?_ (by kernel_rfl) (by kernel_rfl) (by kernel_rfl) ?_ ?_
               rotate_left 2
               · simp only [List.getElem?_toArray, List.getElem?_cons_zero, List.getElem?_cons_succ]
                 with_reducible rfl
               · (refine Or.inl ⟨?_, Gives.val ?_⟩; rfl; intro wz hz; refine load_val (S := St3 w kf lf bf n A A' m gy gz) (g := gz) (f := byteB (hashF (blk kf) (joinB (padB bf n) m lf) (m + 16))) ?_ (fun _ h => h.z) wz hz; rfl)
               simp only [Act.put, List.setIfInBounds_toArray, List.set_cons_zero, List.set_cons_succ])
            | (refine Chain.step (oi := ?_) (v := .agg (bytes 16 (byteB (hashF (blk kf) bf n)))) ?_ (by kernel_rfl) (by kernel_rfl) (by kernel_rfl) ?_ ?_
               rotate_left 1
               · simp only [List.getElem?_toArray, List.getElem?_cons_zero, List.getElem?_cons_succ]
                 with_reducible rfl
               · (refine Or.inl ⟨?_, Gives.call (f := 15) (args := #[.agg (bytes 16 (kf)), .slice A n c]) ?_ ?_⟩; rfl; (intro wz hz; go_simp); intro wz hz; exact (hash_any kf bf A n c HMN.out (Nat.le_trans HR0 hc) wz hz.r.s.r).mono fun e wy h => ⟨h.1, St3.later hz h.2⟩)
               simp only [Act.put, List.setIfInBounds_toArray, List.set_cons_zero, List.set_cons_succ])
            | (refine Chain.step (oi := ?_) (v := .agg (bytes 16 (fun i => byteB (hashF (blk kf) (padB bf n) m) i ^^^ lf i))) ?_ (by kernel_rfl) (by kernel_rfl) (by kernel_rfl) ?_ ?_
               rotate_left 1
               · simp only [List.getElem?_toArray, List.getElem?_cons_zero, List.getElem?_cons_succ]
                 with_reducible rfl
               · (refine Or.inl ⟨?_, Gives.call (f := 13) (args := #[.agg (bytes 16 (byteB (hashF (blk kf) (padB bf n) m))), .agg (bytes 16 (lf))]) ?_ ?_⟩; rfl; (intro wz hz; go_simp); intro wz hz; exact (xor_any (byteB (hashF (blk kf) (padB bf n) m)) lf wz).mono fun e wy h => ⟨h.1, St3.later hz h.2⟩)
               simp only [Act.put, List.setIfInBounds_toArray, List.set_cons_zero, List.set_cons_succ])
            | (refine Chain.step (oi := ?_) (v := .agg (bytes 16 (byteB (mulB (blk (fun i => byteB (hashF (blk kf) (padB bf n) m) i ^^^ lf i)) (blk kf))))) ?_ (by kernel_rfl) (by kernel_rfl) (by kernel_rfl) ?_ ?_
               rotate_left 1
               · simp only [List.getElem?_toArray, List.getElem?_cons_zero, List.getElem?_cons_succ]
                 with_reducible rfl
               · (refine Or.inl ⟨?_, Gives.call (f := 11) (args := #[.agg (bytes 16 (fun i => byteB (hashF (blk kf) (padB bf n) m) i ^^^ lf i)), .agg (bytes 16 (kf))]) ?_ ?_⟩; rfl; (intro wz hz; go_simp); intro wz hz; exact (mulC_any (fun i => byteB (hashF (blk kf) (padB bf n) m) i ^^^ lf i) kf wz).mono fun e wy h => ⟨h.1, St3.later hz h.2⟩)
               simp only [Act.put, List.setIfInBounds_toArray, List.set_cons_zero, List.set_cons_succ])
            | (refine Chain.step (oi := ?_) (v := ?_) ?_ (by kernel_rfl) (by kernel_rfl) (by kernel_rfl) ?_ ?_
               rotate_left 2
               · simp only [List.getElem?_toArray, List.getElem?_cons_zero, List.getElem?_cons_succ]
                 with_reducible rfl
               · (refine Or.inl ⟨?_, Gives.val ?_⟩; rfl; intro w _hw; go_simp; with_reducible rfl)
               simp only [Act.put, List.setIfInBounds_toArray, List.set_cons_zero, List.set_cons_succ])
          refine Chain.done fun w9 hw9 => ?_
          refine wpAny_ready (rs := [17]) (by kernel_rfl) (by simp) ?_
          refine AllReady.cons (o := ?_) ?_ (fun K hK => ?_) AllReady.nil
          rotate_left 1
          · simp only [List.getElem?_toArray, List.getElem?_cons_zero, List.getElem?_cons_succ]
            with_reducible rfl
          go_simp
          refine hK _ _ ?_
          clear hK K
          refine wpAny_done (by kernel_rfl) ?_ _
          go_wp2
          go_ret
          exact ⟨rfl, hw9.r.s.bel⟩
      · have HO := Lib.hid (show Own w1.heap.size (.slice A' m c') m (padB bf n) (wr.alloc (.cells #[.int .u8 0] 5)) from hP.o.below ((Below.refl _ _).alloc (Nat.le_refl _) _))
        have HR := Lib.hid (show RdB (wr.alloc (.cells #[.int .u8 0] 5)) (some ⟨wr.heap.size, 0, none⟩) 1 (fun _ => 0#8) from rd_one wr 0#8)
        have HN := Lib.hid (show m + 1 ≤ 4096 by have := HM4.out; omega)
        have HS := Lib.hid (show w1.heap.size ≤ (wr.alloc (.cells #[.int .u8 0] 5)).heap.size from Nat.le_trans hP.bel.size (by simp))
        have hz2 : decide (((m % 16 : Nat) : Int) = 0) = false := by simp; omega
        go_wp2_with (at_builtin; (with_reducible refine wpList_append_rd rfl (.tmp 24) (.tmp 25) rfl rfl HO.out _ 1 1 _ rfl HR.out HN.out HS.out ?_); intro A3 c3 w3 hc3 hown3 hb3)
        have hb4 : Below w1.heap.size wr w3 := ((Below.refl _ _).alloc hP.bel.size _).trans hb3
        have e : ∀ i, i < m + 1 → joinB (padB bf n) m (fun _ => 0#8) i = padB bf n i := fun i hi => by
          unfold joinB padB
          by_cases h1 : i < m
          · rw [if_pos h1]
          · rw [if_neg h1, if_neg (by omega)]
        exact ⟨⟨m + 1, A3, c3, by omega, by omega, rfl, hc3, ⟨hown3.ext e, hP.bel.trans hb4⟩⟩, by simp [sliceLen]; omega⟩
end Go.Proofs.Ytddehfhklalfgaa
