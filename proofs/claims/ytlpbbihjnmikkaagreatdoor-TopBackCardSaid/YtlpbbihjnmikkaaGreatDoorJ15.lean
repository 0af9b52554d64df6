/-
  Joined: ExeN, ExeW, ExeB
-/
import Derived.Test.YtlpbbihjnmikkaaGreatDoorJ14
namespace Go.Proofs.YtlpbbihjnmikkaaGreatDoor.Exe
set_option linter.unusedSimpArgs false

section
variable {P : Program} {ops : Array Oper}
theorem stepW_env (o : Oper) {env env' : Env} (hx : ∀ t ∈ o.looksAt ops, (slotAt t).out env = (slotAt t).out env') (call : Callee) : (stepW P ops o).out call env = (stepW P ops o).out call env' := by
  have hop : (opD P o.op : WD).out env = (opD P o.op : WD).out env' := opD_env o.op fun x hm f hf => by
    cases x with
    | tmp t =>
      cases hf
      exact hx t (List.mem_append_left _ (List.mem_filterMap.2 ⟨.tmp t, by simpa using hm, rfl⟩))
    | const v =>
      unfold evC at hf
      simp only at hf
      split at hf
      · cases hf; rfl
      · cases hf
    | global g =>
      have hf : (Bool.rec none (some fun _ => .one (.ptr 0 0)) (Nat.beq g 0) : Option (Env → Slot)) = some f := hf
      cases hg : Nat.beq g 0 with
      | false => rw [hg] at hf; cases hf
      | true => rw [hg] at hf; cases hf; rfl
    | func f => cases hf; rfl
  unfold stepW
  cases hg : guardD ops o with
  | none => rfl
  | some g =>
    cases g with
    | none =>
      show M.bind ((opD P o.op : WD).out env) _ = M.bind ((opD P o.op : WD).out env') _
      rw [hop]
    | some g =>
      have hgs : g.1 env = g.1 env' := by
        unfold guardD at hg
        split at hg
        · cases hg
        · rename_i j want hgd
          split at hg
          · rename_i oj hoj
            split at hg
            · rename_i d hd
              have : (some (some ((slotAt d).out, want)) : Option (Option ((Env → Slot) × Bool))) = some (some g) := hg
              obtain rfl : ((slotAt d).out, want) = g := by simpa using this
              refine hx d (List.mem_append_right _ ?_)
              simp [hgd, hoj, hd]
            · cases hg
          · cases hg
      show onlyIf g.2 (g.1 env) (M.bind ((opD P o.op : WD).out env) _) = onlyIf g.2 (g.1 env') (M.bind ((opD P o.op : WD).out env') _)
      rw [hop, hgs]

/-- One operation's run: its number, the names it begins and ends with, its value, its reads and writes. -/
structure Item where
  i : Nat
  nx : Nat
  v : Slot
  nx' : Nat
  dr : Nat
  dw : Nat
def EnvEq (env env' : Env) : Prop := ∀ t, t < 512 → (slotAt t).out env = (slotAt t).out env'
def HeapEq (h h' : Heap D) : Prop := ∀ k, h.at k = h'.at k
variable (P ops) in
/-- The runs, one behind the other, and what they come to. -/
inductive Runs (call : Callee) (envF : Env) (hF : Heap D) : List Item → Env → Heap D → Prop where
  | nil {env : Env} {h : Heap D} : EnvEq env envF → HeapEq h hF → Runs call envF hF [] env h
  | cons {it : Item} {l : List Item} {env : Env} {h h1 : Heap D} {o : Oper} : ops[it.i]? = some o → (∀ d, o.dst = some d → d < 512) → (∀ t ∈ o.looksAt ops, t < 512) → Moves ((stepW P ops o).out call env) h it.nx it.v h1 it.nx' it.dr it.dw → (∀ r w, (stepW P ops o).out call env h it.nx r w = .ok it.v h1 it.nx' (Nat.lor r it.dr) (Nat.lor w it.dw)) →
      Runs call envF hF l ((dstD o).out it.v env) h1 → Runs call envF hF (it :: l) env h
/-- p and q may come in either order. -/
structure Apart2 (ops : Array Oper) (p q : Item) : Prop where
  pq : ∀ k, p.dw.testBit k = true → q.dr.testBit k = false ∧ q.dw.testBit k = false
  qp : ∀ k, q.dw.testBit k = true → p.dr.testBit k = false
  slots : ∀ op oq, ops[p.i]? = some op → ops[q.i]? = some oq → op.apart ops oq = true
theorem put_slot (o : Oper) {t : Nat} (ht : t < 512) (hd : ∀ d, o.dst = some d → d < 512) (v : Slot) (env : Env) : (slotAt t).out ((dstD o).out v env) = if o.dst = some t then v else (slotAt t).out env := by
  unfold dstD
  cases h : o.dst with
  | none => simp only [h]; rw [if_neg (by simp)]; rfl
  | some d =>
    show (slotAt t).out ((slotPut d).out (some v) env) = _
    rw [slot_put ht (hd d h)]
    by_cases e : t = d
    · subst e; simp
    · rw [if_neg e, if_neg (by simp [Ne.symm e])]
theorem EnvEq.put {o : Oper} (hd : ∀ d, o.dst = some d → d < 512) {env env' : Env} (h : EnvEq env env') (v : Slot) : EnvEq ((dstD o).out v env) ((dstD o).out v env') := fun t ht => by
  rw [put_slot o ht hd, put_slot o ht hd, h t ht]
theorem Moves.at_env {α : Type} {m m' : M D α} (e : m = m') {h : Heap D} {nx : Nat} {a : α} {h' : Heap D} {nx' dr dw : Nat} (hm : Moves m h nx a h' nx' dr dw) : Moves m' h nx a h' nx' dr dw := e ▸ hm
/-- A move on another memory that agrees where it looks. -/
theorem Moves.over {α : Type} {m : M D α} {h : Heap D} {nx : Nat} {a : α} {h' : Heap D} {nx' dr dw : Nat} (hm : Moves m h nx a h' nx' dr dw) {g : Heap D} (hg : ∀ k, dr.testBit k = true ∨ dw.testBit k = true → g.at k = h.at k) :
    ∃ g', Moves m g nx a g' nx' dr dw ∧ (∀ r w, m g nx r w = .ok a g' nx' (Nat.lor r dr) (Nat.lor w dw)) ∧ (∀ k, dw.testBit k = true → g'.at k = h'.at k) ∧ ∀ k, dw.testBit k = false → g'.at k = g.at k := by
  obtain ⟨g', q1, q2, q3⟩ := hm.move g hg
  refine ⟨g', ⟨hm.mono, q3, fun g2 hg2 => ?_⟩, q1, q2, q3⟩
  obtain ⟨g2', p1, p2, p3⟩ := hm.move g2 fun k hk => (hg2 k hk).trans (hg k hk)
  exact ⟨g2', p1, fun k hk => (p2 k hk).trans (q2 k hk).symm, p3⟩
theorem Runs.congr {call : Callee} {envF : Env} {hF : Heap D} {l : List Item} {env env' : Env} {h h' : Heap D} (hr : Runs P ops call envF hF l env h) (he : EnvEq env env') (hh : HeapEq h h') : Runs P ops call envF hF l env' h' := by
  induction hr generalizing env' h' with
  | nil h1 h2 => exact .nil (fun t ht => (he t ht).symm.trans (h1 t ht)) fun k => (hh k).symm.trans (h2 k)
  | @cons it l env h h1 o ho hd hlk hm hrun _ ih =>
    have e := stepW_env (P := P) (ops := ops) o (fun t ht => he t (hlk t ht)) call
    obtain ⟨g1, q1, q2, q3, q4⟩ := (hm.at_env e).over (g := h') fun k _ => (hh k).symm
    refine .cons ho hd hlk q1 q2 (ih (he.put hd _) fun k => ?_)
    cases hw : it.dw.testBit k with
    | true => exact (q3 k hw).symm
    | false => rw [q4 k hw, hm.frame k hw]; exact hh k
theorem Runs.swap {call : Callee} {envF : Env} {hF : Heap D} {p q : Item} {l : List Item} {env : Env} {h : Heap D} (hr : Runs P ops call envF hF (p :: q :: l) env h) (hpq : Apart2 ops p q) : Runs P ops call envF hF (q :: p :: l) env h := by
  cases hr with
  | @cons _ _ _ _ h1 op hop hdp hlp hmp hrp hr =>
    cases hr with
    | @cons _ _ _ _ h2 oq hoq hdq hlq hmq hrq hr =>
      obtain ⟨a1, a2, a3⟩ := Oper.apart_spec (hpq.slots op oq hop hoq)
      have eq : (stepW P ops oq).out call ((dstD op).out p.v env) = (stepW P ops oq).out call env := stepW_env oq (fun t ht => by
        rw [put_slot op (hlq t ht) hdp, if_neg fun hd => a1 t hd ht]) call
      have ep : (stepW P ops op).out call env = (stepW P ops op).out call ((dstD oq).out q.v env) := stepW_env op (fun t ht => by
        rw [put_slot oq (hlp t ht) hdq, if_neg fun hd => a3 t hd ht]) call
      have hpw : ∀ k, q.dr.testBit k = true ∨ q.dw.testBit k = true → p.dw.testBit k = false := fun k hk => by
        cases hw : p.dw.testBit k with
        | false => rfl
        | true =>
          have := hpq.pq k hw
          rcases hk with hk | hk
          · rw [this.1] at hk; cases hk
          · rw [this.2] at hk; cases hk
      obtain ⟨g1, q1, q2, q3, q4⟩ := (hmq.at_env eq).over (g := h) fun k hk => (hmp.frame k (hpw k hk)).symm
      have hqw : ∀ k, p.dr.testBit k = true ∨ p.dw.testBit k = true → q.dw.testBit k = false := fun k hk => by
        cases hw : q.dw.testBit k with
        | false => rfl
        | true =>
          rcases hk with hk | hk
          · rw [hpq.qp k hw] at hk; cases hk
          · rw [(hpq.pq k hk).2] at hw; cases hw
      obtain ⟨g2, p1, p2, p3, p4⟩ := (hmp.at_env ep).over (g := g1) fun k hk => q4 k (hqw k hk)
      refine .cons hoq hdq hlq q1 q2 (.cons hop hdp hlp p1 p2 (hr.congr (fun t ht => ?_) fun k => ?_))
      · rw [put_slot oq ht hdq, put_slot op ht hdp, put_slot op ht hdp, put_slot oq ht hdq]
        by_cases h1 : op.dst = some t
        · rw [if_pos h1, if_neg fun h2 => a2 t h1 h2, if_pos h1]
        · rw [if_neg h1, if_neg h1]
      · cases hw : p.dw.testBit k with
        | true =>
          have hq0 := (hpq.pq k hw).2
          rw [p3 k hw, hmq.frame k hq0]
        | false =>
          rw [p4 k hw]
          cases hq : q.dw.testBit k with
          | true => rw [q3 k hq]
          | false => rw [q4 k hq, hmq.frame k hq, hmp.frame k hw]
/-- Any one that may come ahead of those ahead of it, comes first. -/
theorem Runs.pull {call : Callee} {envF : Env} {hF : Heap D} (q : Item) : ∀ (l1 l2 : List Item) {env : Env} {h : Heap D}, Runs P ops call envF hF (l1 ++ q :: l2) env h → (∀ p ∈ l1, Apart2 ops p q) → Runs P ops call envF hF (q :: (l1 ++ l2)) env h
  | [], _, _, _, hr, _ => hr
  | p :: l1, l2, env, h, hr, hap => by
    have hr' : Runs P ops call envF hF (p :: (l1 ++ q :: l2)) env h := hr
    cases hr' with
    | cons ho hd hlk hm hrun hr =>
      have ih := Runs.pull q l1 l2 hr fun x hx => hap x (List.mem_cons_of_mem _ hx)
      exact Runs.swap (.cons ho hd hlk hm hrun ih) (hap p List.mem_cons_self)

section masks
/-- What the masks say: q waits, at last, for p. -/
theorem maskOf_test {acc : List Nat} {p : Nat} : ∀ {es : List Edge}, (maskOf acc es).testBit p = true → ∃ e ∈ es, Region.binds .any e = true ∧ (e.on = p ∨ (acc.getD e.on 0).testBit p = true)
  | [], h => by
    have : (0 : Nat).testBit p = true := h
    simp at this
  | e :: es, h => by
    unfold maskOf at h
    cases hb : Region.binds .any e with
    | false =>
      rw [hb] at h
      obtain ⟨e', h1, h2⟩ := maskOf_test h
      exact ⟨e', List.mem_cons_of_mem _ h1, h2⟩
    | true =>
      rw [hb] at h
      simp only [force_eq, id, lor_test, Bool.or_eq_true] at h
      rcases h with (h | h) | h
      · rw [bit_test] at h
        exact ⟨e, List.mem_cons_self, hb, .inl (of_decide_eq_true h)⟩
      · exact ⟨e, List.mem_cons_self, hb, .inr h⟩
      · obtain ⟨e', h1, h2⟩ := maskOf_test h
        exact ⟨e', List.mem_cons_of_mem _ h1, h2⟩
theorem masks_prefix : ∀ (l : List Oper) (acc : List Nat) (i : Nat), i < acc.length → (masks l acc).getD i 0 = acc.getD i 0
  | [], acc, i, _ => rfl
  | o :: l, acc, i, hi => by
    unfold masks
    rw [masks_prefix l _ i (by simp; omega)]
    simp [List.getElem?_append_left hi]
theorem masks_at : ∀ (l : List Oper) (acc : List Nat) (j : Nat) (o : Oper), l[j]? = some o → ∃ acc', (∀ i, (acc'.getD i 0).testBit = ((masks l acc).getD i 0).testBit ∨ acc'.getD i 0 = 0) ∧ acc'.length = acc.length + j ∧ (masks l acc).getD (acc.length + j) 0 = maskOf acc' o.after.toList
  | [], acc, j, o, h => by simp at h
  | x :: l, acc, 0, o, h => by
    obtain rfl : x = o := by simpa using h
    refine ⟨acc, fun i => ?_, rfl, ?_⟩
    · by_cases hi : i < acc.length
      · left
        unfold masks
        rw [masks_prefix l _ i (by simp; omega)]
        simp [List.getElem?_append_left hi]
      · right
        simp [List.getElem?_eq_none (by omega : acc.length ≤ i)]
    · unfold masks
      rw [Nat.add_zero, masks_prefix l _ _ (by simp)]
      simp
  | x :: l, acc, j + 1, o, h => by
    have h' : l[j]? = some o := by simpa using h
    obtain ⟨acc', h1, h2, h3⟩ := masks_at l (acc ++ [maskOf acc x.after.toList]) j o h'
    refine ⟨acc', ?_, by rw [h2]; simp; omega, ?_⟩
    · unfold masks
      exact h1
    · unfold masks
      rw [← h3]
      congr 1
      simp
      omega
/-- If all that an operation waits for is listed, and what is listed is closed, all that its mask names is listed. -/
theorem mask_listed {listed : Array Bool} (hc : ∀ k o, ops[k]? = some o → listed.getD k false = true → ∀ e ∈ o.after, Region.binds .any e = true → listed.getD e.on false = true) :
    ∀ (q : Nat) (o : Oper), ops[q]? = some o → (∀ e ∈ o.after, Region.binds .any e = true → listed.getD e.on false = true) → ∀ p, ((masks ops.toList []).getD q 0).testBit p = true → listed.getD p false = true := by
  intro q
  induction q using Nat.strongRecOn with
  | _ q ih =>
    intro o ho hall p hp
    obtain ⟨acc', h1, h2, h3⟩ := masks_at ops.toList [] q o (by simpa using ho)
    simp only [List.length_nil, Nat.zero_add] at h2 h3
    rw [h3] at hp
    obtain ⟨e, he, hb, hor⟩ := maskOf_test hp
    have hle := hall e (by simpa using he) hb
    rcases hor with rfl | hor
    · exact hle
    · have hlt : e.on < q := by
        rcases Nat.lt_or_ge e.on q with h | h
        · exact h
        · rw [List.getD_eq_getElem?_getD, List.getElem?_eq_none (by omega)] at hor
          simp at hor
      have hor' : ((masks ops.toList []).getD e.on 0).testBit p = true := by
        rcases h1 e.on with h | h
        · rw [← h]; exact hor
        · rw [h] at hor; simp at hor
      obtain ⟨o', ho'⟩ : ∃ o', ops[e.on]? = some o' := by
        have hlt' : q < ops.size := (Array.getElem?_eq_some_iff.1 ho).1
        exact ⟨ops[e.on]'(by omega), Array.getElem?_eq_getElem (by omega)⟩
      exact ih e.on hlt o' ho' (hc e.on o' ho' hle) p hor'
end masks
end
end Go.Proofs.YtlpbbihjnmikkaaGreatDoor.Exe

namespace Go.Proofs.YtlpbbihjnmikkaaGreatDoor.Exe
set_option linter.unusedSimpArgs false

section
variable {P : Program} {L : Lore} {ops : Array Oper}
theorem edgesBelow_mem {i : Nat} : ∀ {es : List Edge}, edgesBelow i es = true → ∀ e ∈ es, Region.binds .any e = true → e.on < i
  | [], _, e, he, _ => by cases he
  | x :: es, h, e, he, hb => by
    unfold edgesBelow at h
    rcases List.mem_cons.1 he with rfl | he
    · rw [hb] at h
      simp only at h
      split at h
      · rename_i hl; simpa [Nat.blt_eq] using hl
      · cases h
    · split at h
      · split at h
        · exact edgesBelow_mem h e he hb
        · cases h
      · exact edgesBelow_mem h e he hb
theorem looseAt_spec {o : Oper} {m : Nat} : ∀ {l : List Oper} {i0 : Nat} {ls : List Nat}, looseAt ops o m l i0 = some ls → ∀ k x, l[k]? = some x → m.testBit (i0 + k) = true ∨ (x.apart ops o = true ∧ i0 + k ∈ ls)
  | [], _, _, _, k, x, hk => by simp at hk
  | y :: l, i0, ls, h, k, x, hk => by
    unfold looseAt at h
    split at h
    · rename_i hb
      cases k with
      | zero => exact .inl hb
      | succ k =>
        have := looseAt_spec h k x (by simpa using hk)
        rwa [show i0 + 1 + k = i0 + (k + 1) by omega] at this
    · split at h
      · cases h
      · rename_i hap
        split at h
        · rename_i ls' hl
          cases h
          cases k with
          | zero =>
            obtain rfl : y = x := by simpa using hk
            exact .inr ⟨hap, by simp⟩
          | succ k =>
            rcases looseAt_spec hl k x (by simpa using hk) with g | ⟨g1, g2⟩
            · left; rwa [show i0 + 1 + k = i0 + (k + 1) by omega] at g
            · right; exact ⟨g1, by rw [show i0 + (k + 1) = i0 + 1 + k by omega]; exact List.mem_cons_of_mem _ g2⟩
        · cases h
theorem awayW_cons (i : Nat) (l : List Nat) : (awayW (i :: l)).out = consA (fpAt i).out (awayW l).out := rfl
theorem away_spec {fps : Fps} {r w : Nat} : ∀ {l : List Nat}, (awayW l).out fps r w = true → ∀ i ∈ l, apartF ((fpAt i).out fps) r w = true
  | [], _, i, hi => by cases hi
  | j :: l, h, i, hi => by
    rw [awayW_cons] at h
    have h' : (Bool.rec false ((awayW l).out fps r w) (apartF ((fpAt j).out fps) r w) : Bool) = true := h
    cases hb : apartF ((fpAt j).out fps) r w with
    | false => rw [hb] at h'; cases h'
    | true =>
      rw [hb] at h'
      rcases List.mem_cons.1 hi with rfl | hi
      · exact hb
      · exact away_spec h' i hi
theorem apartF_spec {p : Nat × Nat} {r w : Nat} (h : apartF p r w = true) : (∀ k, p.2.testBit k = true → r.testBit k = false ∧ w.testBit k = false) ∧ ∀ k, w.testBit k = true → p.1.testBit k = false := by
  have h0 : Nat.lor (Nat.land p.2 (Nat.lor r w)) (Nat.land w p.1) = 0 := Nat.eq_of_beq_eq_true h
  have hk : ∀ k, ((p.2.testBit k && (r.testBit k || w.testBit k)) || (w.testBit k && p.1.testBit k)) = false := fun k => by
    have h1 : (Nat.lor (Nat.land p.2 (Nat.lor r w)) (Nat.land w p.1)).testBit k = false := by rw [h0]; simp
    rw [lor_test] at h1
    have e1 : (Nat.land p.2 (Nat.lor r w)).testBit k = (p.2.testBit k && (r.testBit k || w.testBit k)) := by
      rw [← lor_test]; exact Nat.testBit_and _ _ _
    have e2 : (Nat.land w p.1).testBit k = (w.testBit k && p.1.testBit k) := Nat.testBit_and _ _ _
    rw [e1, e2] at h1
    exact h1
  refine ⟨fun k h => ?_, fun k h => ?_⟩
  · have := hk k
    rw [h] at this
    simp at this
    exact this.1
  · have := hk k
    rw [h] at this
    simp at this
    exact this.2
theorem fp_put {i j : Nat} (hi : i < 512) (hj : j < 512) (fps : Fps) (p : Nat × Nat) : (fpAt i).out ((Tr.put (path 3 j)).out (some p) fps) = if i = j then p else (fpAt i).out fps := by
  unfold fpAt
  rw [get_put _ _ _ _ _ _ (by rw [path_length, path_length])]
  by_cases e : i = j
  · subst e; rw [if_pos rfl, if_pos rfl]
  · rw [if_neg e, if_neg fun hp => e (path_inj 3 i j (by omega) (by omega) hp)]
/-- p, which is ahead of q in the text: q waits for it, or they may come in either order. -/
def Good (ops : Array Oper) (ms : List Nat) (p q : Item) : Prop := (ms.getD q.i 0).testBit p.i = true ∨ Apart2 ops p q
def Order (ops : Array Oper) (ms : List Nat) (p q : Item) : Prop := p.i < q.i ∧ Good ops ms p q ∧ p.nx' ≤ q.nx
theorem draw_runs {call : Callee} (hloc : ∀ f args, Loc (call f args)) {ms : List Nat} {n : Nat} (hn : n ≤ 512) (hsz : ops.size ≤ 512) (hin : ∀ x ∈ ops.toList, operIn n x = true) :
    ∀ (l done : List Oper) (i : Nat), done.length = i → (∀ k o, l[k]? = some o → ops[i + k]? = some o) → (∀ k, k < i → done[k]? = ops[k]?) →
    ∀ {env : Env} {fps : Fps} {h : Heap D} {nx r w : Nat} {envF : Env} {hF : Heap D} {nxF rF wF : Nat}, (drawW P ops ms l done i).out call env fps h nx r w = .ok envF hF nxF rF wF →
    ∀ past : List Item, (∀ p ∈ past, p.i < i ∧ p.nx' ≤ nx ∧ (fpAt p.i).out fps = (p.dr, p.dw)) →
    ∃ items, Runs P ops call envF hF items env h ∧ items.map (·.i) = List.range' i l.length ∧ nx ≤ nxF ∧ (∀ it ∈ items, nx ≤ it.nx ∧ it.nx ≤ it.nx' ∧ it.nx' ≤ nxF) ∧
      (∀ it ∈ items, ∀ o, ops[it.i]? = some o → ∀ e ∈ o.after, Region.binds .any e = true → e.on < it.i) ∧ (∀ p ∈ past, ∀ q ∈ items, Order ops ms p q) ∧ items.Pairwise (Order ops ms)
  | [], done, i, _, _, _, env, fps, h, nx, r, w, envF, hF, nxF, rF, wF, he, past, hp => by
    cases he
    exact ⟨[], .nil (fun _ _ => rfl) (fun _ => rfl), rfl, Nat.le_refl _, fun it hit => absurd hit List.not_mem_nil, fun it hit => absurd hit List.not_mem_nil, fun p _ q hq => absurd hq List.not_mem_nil, .nil⟩
  | o :: l, done, i, hdone, hl, hd, env, fps, h, nx, r, w, envF, hF, nxF, rF, wF, he, past, hp => by
    rw [drawW_cons] at he
    split at he
    · cases he
    · rename_i ls hls
      have ho : ops[i]? = some o := hl 0 o rfl
      have hilt : i < ops.size := (Array.getElem?_eq_some_iff.1 ho).1
      have hoin : operIn n o = true := hin o (by have := Array.mem_of_getElem? ho; simpa using this)
      obtain ⟨v, h1, n1, r1, w1, e1, e2⟩ := alone_ok he
      obtain ⟨dr, dw, er, ew, m1⟩ := stepW_loc P ops o call hloc env _ _ _ _ _ _ _ _ _ e1
      rw [zero_lor] at er ew
      subst er ew
      have hrun : ∀ r w, (stepW P ops o).out call env h nx r w = .ok v h1 n1 (Nat.lor r r1) (Nat.lor w w1) := by
        obtain ⟨g', q1, _⟩ := m1.move h fun _ _ => rfl
        have := q1 0 0
        rw [e1, zero_lor, zero_lor] at this
        cases this
        exact q1
      unfold looseOk at hls
      split at hls
      · rename_i hedge
        cases haw : awayF (awayW ls).out fps r1 w1 with
        | false => rw [haw] at e2; cases e2
        | true =>
          rw [haw] at e2
          have e2' : (drawW P ops ms l (done ++ [o]) (i + 1)).out call ((dstD o).out v env) ((Tr.put (path 3 i)).out (some (r1, w1)) fps) h1 n1 (Nat.lor r r1) (Nat.lor w w1) = .ok envF hF nxF rF wF := e2
          have hgood : ∀ p ∈ past, Good ops ms p ⟨i, nx, v, n1, r1, w1⟩ := fun p hpm => by
            obtain ⟨p1, p2, p3⟩ := hp p hpm
            obtain ⟨op, hop⟩ : ∃ op, ops[p.i]? = some op := ⟨ops[p.i]'(by omega), Array.getElem?_eq_getElem (by omega)⟩
            rcases looseAt_spec hls p.i op (by rw [hd p.i p1]; exact hop) with g | ⟨g1, g2⟩
            · left; simpa using g
            · right
              rw [Nat.zero_add] at g2
              have hap : apartF (p.dr, p.dw) r1 w1 = true := by
                cases hz : Nat.beq (Nat.lor r1 w1) 0 with
                | true =>
                  have h0 : Nat.lor r1 w1 = 0 := Nat.eq_of_beq_eq_true hz
                  have hw0 : w1 = 0 := by
                    have : Nat.lor r1 w1 = r1 ||| w1 := rfl
                    rw [this] at h0
                    exact (Nat.or_eq_zero_iff.1 h0).2
                  unfold apartF
                  rw [h0, hw0]
                  have e3 : Nat.land p.dw 0 = 0 := Nat.and_zero _
                  have e4 : Nat.land 0 p.dr = 0 := Nat.zero_and _
                  simp only [e3, e4]
                  rfl
                | false =>
                  have haw' : (Bool.rec ((awayW ls).out fps r1 w1) true (Nat.beq (Nat.lor r1 w1) 0) : Bool) = true := haw
                  rw [hz] at haw'
                  have := away_spec haw' p.i g2
                  rwa [p3] at this
              obtain ⟨s1, s2⟩ := apartF_spec hap
              exact ⟨s1, s2, fun op' oq' h1 h2 => by
                rw [hop] at h1; cases h1
                have h2' : ops[i]? = some oq' := h2
                rw [ho] at h2'; cases h2'
                exact g1⟩
          obtain ⟨items, q1, q2, q3, q4, q5, q6, q7⟩ := draw_runs hloc hn hsz hin l (done ++ [o]) (i + 1) (by simp [hdone]) (fun k x hk => by
              have := hl (k + 1) x (by simpa using hk)
              rwa [show i + (k + 1) = i + 1 + k by omega] at this) (fun k hk => by
              by_cases hki : k < i
              · rw [List.getElem?_append_left (by omega)]; exact hd k hki
              · obtain rfl : k = i := by omega
                rw [List.getElem?_append_right (by omega), hdone, Nat.sub_self]
                exact ho.symm) e2' (past ++ [⟨i, nx, v, n1, r1, w1⟩]) (fun p hpm => by
              rcases List.mem_append.1 hpm with hpm | hpm
              · obtain ⟨p1, p2, p3⟩ := hp p hpm
                exact ⟨by omega, Nat.le_trans p2 m1.mono, by rw [fp_put (by omega) (by omega), if_neg (by omega)]; exact p3⟩
              · obtain rfl : p = ⟨i, nx, v, n1, r1, w1⟩ := by simpa using hpm
                exact ⟨Nat.lt_succ_self _, Nat.le_refl _, by show (fpAt i).out _ = _; rw [fp_put (by omega) (by omega), if_pos rfl]⟩)
          have hdst : ∀ d, o.dst = some d → d < 512 := fun d hd => by
            simp only [operIn, Bool.and_eq_true, hd] at hoin
            have h1 : Nat.blt d n = true := hoin.1
            have : d < n := by simpa [Nat.blt_eq] using h1
            exact Nat.lt_of_lt_of_le this hn
          have hlook : ∀ t ∈ o.looksAt ops, t < 512 := fun t ht => by
            rcases List.mem_append.1 ht with ht | ht
            · obtain ⟨x, hx, hxt⟩ := List.mem_filterMap.1 ht
              cases x with
              | tmp t' =>
                obtain rfl : t' = t := by simpa using hxt
                simp only [operIn, Bool.and_eq_true] at hoin
                have h1 : Nat.blt t' n = true := opndsIn_mem hoin.2 _ hx
                have : t' < n := by simpa [Nat.blt_eq] using h1
                exact Nat.lt_of_lt_of_le this hn
              | _ => simp at hxt
            · split at ht
              · rename_i g b hg
                cases hog : ops[g]? with
                | none => simp [hog] at ht
                | some og =>
                  simp only [hog, Option.bind_some] at ht
                  cases hod : og.dst with
                  | none => simp [hod] at ht
                  | some d =>
                    obtain rfl : t = d := by simpa [hod] using ht
                    have := hin og (by have := Array.mem_of_getElem? hog; simpa using this)
                    simp only [operIn, Bool.and_eq_true, hod] at this
                    have h1 : Nat.blt t n = true := this.1
                    have : t < n := by simpa [Nat.blt_eq] using h1
                    exact Nat.lt_of_lt_of_le this hn
              · cases ht
          refine ⟨⟨i, nx, v, n1, r1, w1⟩ :: items, .cons ho hdst hlook m1 hrun q1, by simp [q2, List.range'_succ], Nat.le_trans m1.mono q3, fun it hit => ?_, fun it hit o' ho' e hem hb => ?_, fun p hpm q hqm => ?_, .cons (fun q hq => q6 _ (List.mem_append_right _ (by simp)) q hq) q7⟩
          · rcases List.mem_cons.1 hit with rfl | hit
            · exact ⟨Nat.le_refl _, m1.mono, q3⟩
            · obtain ⟨g1, g2, g3⟩ := q4 it hit
              exact ⟨Nat.le_trans m1.mono g1, g2, g3⟩
          · rcases List.mem_cons.1 hit with rfl | hit
            · have ho2 : ops[i]? = some o' := ho'
              rw [ho] at ho2; cases ho2
              exact edgesBelow_mem hedge e (by simpa using hem) hb
            · exact q5 it hit o' ho' e hem hb
          · rcases List.mem_cons.1 hqm with rfl | hqm
            · obtain ⟨p1, p2, _⟩ := hp p hpm
              exact ⟨p1, hgood p hpm, p2⟩
            · exact q6 p (List.mem_append_left _ hpm) q hqm
      · cases hls
end
end Go.Proofs.YtlpbbihjnmikkaaGreatDoor.Exe

namespace Go.Proofs.YtlpbbihjnmikkaaGreatDoor.Exe
set_option linter.unusedSimpArgs false

section
variable {P : Program} {L : Lore} {ops : Array Oper}
theorem not_listed' {listed : Array Bool} {i : Nat} (h : listed.getD i true = false) : listed.getD i false = false := by
  have hlt : i < listed.size := by
    rcases Nat.lt_or_ge i listed.size with h' | h'
    · exact h'
    · simp [Array.getElem?_eq_none h'] at h
  simpa [hlt] using h
theorem draw_sound {call : Callee} (hloc : ∀ f args, Loc (call f args)) (hcall : CallOk P L call) (hP : Named P) {n : Nat} (hin : ∀ x ∈ ops.toList, operIn n x = true) {Q : Exit → Act → World → Prop} {envF : Env} {hF : Heap D} :
    ∀ (m : Nat) (l : List Item) {env : Env} {h : Heap D} {ν : Nu} {W : World} {listed : Array Bool} {a : Act}, l.length = m → Runs P ops call envF hF l env h →
    (∀ i, i < ops.size → (listed.getD i true = false ↔ ∃ it ∈ l, it.i = i)) → (∀ it ∈ l, it.i < ops.size) → listed.size = ops.size →
    (∀ k o, ops[k]? = some o → listed.getD k false = true → ∀ e ∈ o.after, Region.binds .any e = true → listed.getD e.on false = true) →
    (∀ it ∈ l, ∀ o, ops[it.i]? = some o → ∀ e ∈ o.after, Region.binds .any e = true → e.on < it.i) → l.Pairwise (Order ops (masks ops.toList [])) → (∀ it ∈ l, it.nx ≤ it.nx') →
    (∀ it ∈ l, Fresh ν it.nx it.nx') → Ok P L ν h W → RepE ν n env a.tmps →
    (∀ ν' W' a', Sub ν ν' → (∀ k s, ν' k = some s → ν k = some s ∨ ∃ it ∈ l, it.nx ≤ k ∧ k < it.nx') → Ok P L ν' hF W' → RepE ν' n envF a'.tmps → a'.defers = a.defers → Q .normal a' W') →
    wpAny P .any ops Q m listed a W := by
  intro m
  induction m with
  | zero =>
    intro l env h ν W listed a hl hr hlist hlt hsz hcl hedge hpw hmono hfr hok hre hQ
    obtain rfl := List.length_eq_zero_iff.1 hl
    refine ⟨List.eq_nil_iff_forall_not_mem.2 fun j hj => ?_, ?_⟩
    · obtain ⟨hu, o, ho, _⟩ := mem_ready.1 hj
      obtain ⟨it, hit, _⟩ := (hlist j (Array.getElem?_eq_some_iff.1 ho).1).1 hu
      cases hit
    · cases hr with
      | nil he hh =>
        refine hQ ν W a (Sub.refl _) (fun k s hk => .inl hk) (hok.same fun k => (hh k).symm) ⟨hre.size, hre.le, fun t ht => ?_, hre.glob⟩ rfl
        rw [← he t (Nat.lt_of_lt_of_le ht hre.le)]
        exact hre.has t ht
  | succ m ih =>
    intro l env h ν W listed a hl hr hlist hlt hsz hcl hedge hpw hmono hfr hok hre hQ
    have hgetD : ∀ i, i < ops.size → listed.getD i true = listed.getD i false := fun i hi => by
      have : i < listed.size := by omega
      simp [this]
    refine ⟨fun hnil => ?_, fun j hj => ?_⟩
    · exfalso
      cases l with
      | nil => simp at hl
      | cons it0 l =>
        have hi0 := hlt it0 List.mem_cons_self
        have hready : it0.i ∈ Region.ready .any ops listed := by
          refine mem_ready.2 ⟨(hlist _ hi0).2 ⟨it0, List.mem_cons_self, rfl⟩, ops[it0.i], Array.getElem?_eq_getElem hi0, fun e he hb => ?_⟩
          have hlt' := hedge it0 List.mem_cons_self _ (Array.getElem?_eq_getElem hi0) e he hb
          have hes : e.on < ops.size := by omega
          cases hle : listed.getD e.on true with
          | true => rw [← hgetD _ hes]; exact hle
          | false =>
            exfalso
            obtain ⟨it, hit, hie⟩ := (hlist _ hes).1 hle
            rcases List.mem_cons.1 hit with rfl | hit
            · omega
            · have := (List.pairwise_cons.1 hpw).1 it hit
              have := this.1
              omega
        rw [hnil] at hready
        cases hready
    · obtain ⟨hu, o, ho, hall⟩ := mem_ready.1 hj
      have hjlt := (Array.getElem?_eq_some_iff.1 ho).1
      obtain ⟨q, hq, rfl⟩ := (hlist j hjlt).1 hu
      obtain ⟨l1, l2, rfl⟩ := List.append_of_mem hq
      rw [List.pairwise_append] at hpw
      obtain ⟨hpw1, hpw2, hpw12⟩ := hpw
      obtain ⟨hpwq, hpw2⟩ := List.pairwise_cons.1 hpw2
      have hap : ∀ p ∈ l1, Apart2 ops p q := fun p hp => by
        obtain ⟨h1, hg, _⟩ := hpw12 p hp q List.mem_cons_self
        rcases hg with hbit | hap
        · exfalso
          have hpl := mask_listed hcl q.i o ho hall p.i hbit
          have hpi := hlt p (List.mem_append_left _ hp)
          have := (hlist p.i hpi).2 ⟨p, List.mem_append_left _ hp, rfl⟩
          rw [not_listed' this] at hpl
          cases hpl
        · exact hap
      have hr2 := hr.pull q l1 l2 hap
      cases hr2 with
      | @cons _ _ _ _ h1 oq hoq hdst hlook hmv hrun hr3 =>
        rw [ho] at hoq
        cases hoq
        rw [wpOp_eq ho]
        have hoin : operIn n o = true := hin o (by have := Array.mem_of_getElem? ho; simpa using this)
        have hod : dstIn n o.dst = true := by simp only [operIn, Bool.and_eq_true] at hoin; exact hoin.1
        refine step_sim hloc hcall hP hoin hin (hrun 0 0) hok (hfr q hq) hre fun ν1 W1 u g1 g2 g3 => ?_
        have hmem : ∀ it, it ∈ l1 ++ l2 → it ∈ l1 ++ q :: l2 := fun it hit => by
          rcases List.mem_append.1 hit with h | h
          · exact List.mem_append_left _ h
          · exact List.mem_append_right _ (List.mem_cons_of_mem _ h)
        have hne : ∀ it, it ∈ l1 ++ l2 → it.i ≠ q.i ∧ (it.nx' ≤ q.nx ∨ q.nx' ≤ it.nx) := fun it hit => by
          rcases List.mem_append.1 hit with h | h
          · have := hpw12 it h q List.mem_cons_self
            exact ⟨by have := this.1; omega, .inl this.2.2⟩
          · have := hpwq it h
            exact ⟨by have := this.1; omega, .inr this.2.2⟩
        refine ih (l1 ++ l2) (by simp at hl ⊢; omega) hr3 (fun i hi => ?_) (fun it hit => hlt it (hmem it hit)) (by simp [hsz]) ?_ (fun it hit => hedge it (hmem it hit)) ?_ (fun it hit => hmono it (hmem it hit)) (fun it hit k k1 k2 => ?_) g2 ((hre.mono g1.sub).put hod g3) fun ν2 W2 a2 s1 s2 s3 s4 s5 => ?_
        · by_cases hiq : i = q.i
          · subst hiq
            constructor
            · intro hc
              have : q.i < listed.size := by omega
              simp [this] at hc
            · rintro ⟨it, hit, he⟩
              exact absurd he (hne it hit).1
          · rw [getD_set_ne true (Ne.symm hiq), hlist i hi]
            constructor
            · rintro ⟨it, hit, rfl⟩
              refine ⟨it, ?_, rfl⟩
              rcases List.mem_append.1 hit with h | h
              · exact List.mem_append_left _ h
              · rcases List.mem_cons.1 h with rfl | h
                · exact absurd rfl hiq
                · exact List.mem_append_right _ h
            · rintro ⟨it, hit, rfl⟩
              exact ⟨it, hmem it hit, rfl⟩
        · intro k ok hok' hk e he hb
          by_cases hkq : k = q.i
          · subst hkq
            rw [ho] at hok'
            cases hok'
            exact getD_set_true (hall e he hb)
          · rw [getD_set_ne false (Ne.symm hkq)] at hk
            exact getD_set_true (hcl k ok hok' hk e he hb)
        · rw [List.pairwise_append]
          exact ⟨hpw1, hpw2, fun x hx y hy => hpw12 x hx y (List.mem_cons_of_mem _ hy)⟩
        · cases hk : ν1 k with
          | none => rfl
          | some s =>
            rcases g1.only k s hk with h' | h'
            · rw [hfr it (hmem it hit) k k1 k2] at h'; cases h'
            · have := (hne it hit).2
              omega
        · refine hQ ν2 W2 a2 (g1.sub.trans s1) (fun k s hk => ?_) s3 s4 ?_
          · rcases s2 k s hk with h' | ⟨it, hit, h'⟩
            · rcases g1.only k s h' with h'' | h''
              · exact .inl h''
              · exact .inr ⟨q, hq, h''⟩
            · exact .inr ⟨it, hmem it hit, h'⟩
          · rw [s5]
            cases o.dst <;> rfl
/-- A region that draws its order. -/
theorem draw_sim {call : Callee} (hloc : ∀ f args, Loc (call f args)) (hcall : CallOk P L call) (hP : Named P) {n : Nat} (hn : n ≤ 512) (hin : ∀ x ∈ ops.toList, operIn n x = true) (hsz : ops.size ≤ 512) {Q : Exit → Act → World → Prop}
    {env : Env} {h : Heap D} {nx r w : Nat} {envF : Env} {hF : Heap D} {nxF rF wF : Nat} (he : (drawW P ops (masks ops.toList []) ops.toList [] 0).out call env .leaf h nx r w = .ok envF hF nxF rF wF) {ν : Nu} {W : World} {a : Act} (hok : Ok P L ν h W) (hf : Fresh ν nx nxF) (hre : RepE ν n env a.tmps)
    (hQ : ∀ ν' W' a', Ext ν ν' nx nxF → Ok P L ν' hF W' → RepE ν' n envF a'.tmps → a'.defers = a.defers → Q .normal a' W') : wpAny P .any ops Q ops.size (Array.replicate ops.size false) a W := by
  obtain ⟨items, q1, q2, q3, q4, q5, _, q7⟩ := draw_runs hloc hn hsz hin ops.toList [] 0 rfl (fun k o hk => by simpa using hk) (fun k hk => by omega) he [] (fun p hp => absurd hp List.not_mem_nil)
  have hlen : items.length = ops.size := by
    have := congrArg List.length q2
    simpa using this
  have hmem : ∀ i, (∃ it ∈ items, it.i = i) ↔ i < ops.size := fun i => by
    have : i ∈ items.map (·.i) ↔ i < ops.size := by rw [q2]; simp [List.mem_range'_1]
    rw [← this, List.mem_map]
  refine draw_sound hloc hcall hP hin ops.size items hlen q1 (fun i hi => ?_) (fun it hit => (hmem it.i).1 ⟨it, hit, rfl⟩) (by simp) ?_ q5 q7 (fun it hit => (q4 it hit).2.1) (fun it hit k k1 k2 => ?_) hok hre fun ν' W' a' s1 s2 s3 s4 s5 => ?_
  · constructor
    · intro _; exact (hmem i).2 hi
    · intro _; simp [hi]
  · intro k o _ hk
    exfalso
    by_cases hkl : k < ops.size
    · simp [hkl] at hk
    · simp [Nat.le_of_not_lt hkl] at hk
  · have := q4 it hit
    exact hf k (by omega) (by omega)
  · refine hQ ν' W' a' ⟨s1, fun k s hk => ?_⟩ s3 s4 s5
    rcases s2 k s hk with h' | ⟨it, hit, h'⟩
    · exact .inl h'
    · have := q4 it hit
      exact .inr ⟨by omega, by omega⟩
end
end Go.Proofs.YtlpbbihjnmikkaaGreatDoor.Exe
