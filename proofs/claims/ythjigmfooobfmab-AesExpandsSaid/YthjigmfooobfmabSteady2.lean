/-
  STEADY OPERATIONS, where what stands behind them waits for THE LAST of them alone, and it, one by one, for all the others. It speaks of no program.
-/
import Derived.Test.YthjigmfooobfmabSteady
namespace Go.Proofs.Ythjigmfooobfmab

section
variable {P : Program} {ops : Array Oper} {Q : Exit → Act → World → Prop} {md : Region.Mode} {S : World → Prop}

structure Steps (md : Region.Mode) (ops : Array Oper) (T : List Nat → Array Bool → Prop) : Prop where
  mem : ∀ i rest listed j, T (i :: rest) listed → j ∈ Region.ready md ops listed → j ∈ i :: rest
  step : ∀ l listed j, T l listed → j ∈ Region.ready md ops listed → j ∈ l → T (l.erase j) (listed.setIfInBounds j true)

theorem chain_swapT {T : List Nat → Array Bool → Prop} (hT : Steps md ops T) : ∀ (l : List Nat) (fuel : Nat) (listed : Array Bool) (a : Act) (j : Nat), l ≠ [] → Chain P md ops Q S l fuel listed a → T l listed → j ∈ Region.ready md ops listed →
    ∃ oj v f', ops[j]? = some oj ∧ (∀ cs b, oj.op ≠ .select cs b) ∧ fuel = f' + 1 ∧ Steady P ops S oj v a ∧ Chain P md ops Q S (l.erase j) f' (listed.setIfInBounds j true) (a.put oj.dst v)
  | [], _, _, _, _, hne, _, _, _ => absurd rfl hne
  | _ :: _, 0, _, _, _, _, hc, _, _ => hc.elim
  | i :: rest, fuel + 1, listed, a, j, _, hc, ht, hj => by
    obtain ⟨oi, v, hoi, hsi, hri, hfree, hst, hrest⟩ := hc
    have hui := (mem_ready.1 hri).1
    by_cases hji : j = i
    · subst hji
      exact ⟨oi, v, fuel, hoi, hsi, rfl, hst, by simpa using hrest⟩
    · have hm := hT.mem _ _ _ _ ht hj
      have hmr : j ∈ rest := by simpa [hji] using hm
      have hj' := ready_mono (i := i) hj hji
      have ht' : T rest (listed.setIfInBounds i true) := by
        have := hT.step _ _ _ ht hri List.mem_cons_self
        simpa using this
      obtain ⟨oj, u, f', hoj, hsj, rfl, hstj, hcj⟩ := chain_swapT hT rest fuel _ _ j (List.ne_nil_of_mem hmr) hrest ht' hj'
      obtain ⟨huj, oj', hoj', hall⟩ := mem_ready.1 hj
      obtain rfl : oj' = oj := by rw [hoj] at hoj'; exact (Option.some.inj hoj').symm
      have hap := hfree j oj' hoj hji huj fun e he hb heq => by
        have h1 := hall e he hb
        rw [heq, not_listed hui] at h1
        cases h1
      obtain ⟨h1, h2, h3⟩ := Oper.apart_spec hap
      have hstj' : Steady P ops S oj' u a := hstj.of_same (execOp_put oj' hsj a oi.dst v h1).symm (wanted_put oj' a oi.dst v h1).symm
      refine ⟨oj', u, f' + 1, hoj, hsj, rfl, hstj', ?_⟩
      rw [List.erase_cons_tail (by simpa using fun h => hji h.symm)]
      refine ⟨oi, v, hoi, hsi, ready_mono hri (fun h => hji h.symm), fun k ok hk hki hun hno => hfree k ok hk hki (unlisted_of huj hun).2 hno,
        hst.of_same (execOp_put oi hsi a oj'.dst u h3) (wanted_put oi a oj'.dst u h3), ?_⟩
      rw [Array.setIfInBounds_comm _ _ hji, ← Act.put_comm a v u h2]
      exact hcj

theorem chain_soundT {T : List Nat → Array Bool → Prop} (hT : Steps md ops T) : ∀ (n : Nat) (l : List Nat) (fuel : Nat) (listed : Array Bool) (a : Act), l.length = n → Chain P md ops Q S l fuel listed a → T l listed → ∀ w, S w → wpAny P md ops Q fuel listed a w
  | _, [], _, _, _, _, hc, _, w, hw => hc w hw
  | _, _ :: _, 0, _, _, _, hc, _, _, _ => hc.elim
  | 0, _ :: _, _, _, _, hl, _, _, _, _ => by cases hl
  | n + 1, i :: rest, fuel + 1, listed, a, hl, hc, ht, w, hw => by
    have hri : i ∈ Region.ready md ops listed := by
      obtain ⟨_, _, _, _, h, _⟩ := hc
      exact h
    refine ⟨fun h => absurd (h ▸ hri) List.not_mem_nil, fun j hj => ?_⟩
    obtain ⟨oj, v, f', hoj, _, hf, hst, hcj⟩ := chain_swapT hT (i :: rest) (fuel + 1) listed a j (by simp) hc ht hj
    obtain rfl : fuel = f' := by omega
    have hm := hT.mem _ _ _ _ ht hj
    refine hst.wpOp hoj hw fun w' hw' => ?_
    refine chain_soundT hT n _ _ _ _ ?_ hcj (hT.step _ _ _ ht hj hm) w' hw'
    rw [List.length_erase_of_mem hm, hl]
    rfl

def WaitsAt (md : Region.Mode) (ops : Array Oper) (j i : Nat) : Bool :=
  match ops[j]? with
  | some oj => oj.after.any fun e => Region.binds md e && e.on == i
  | none => false
theorem waitsAt_spec {j i : Nat} (h : WaitsAt md ops j i = true) : ∃ oj, ops[j]? = some oj ∧ ∃ e ∈ oj.after, Region.binds md e = true ∧ e.on = i := by
  unfold WaitsAt at h
  split at h
  · rename_i oj hj
    obtain ⟨e, he, hb⟩ := Array.any_eq_true'.1 h
    simp only [Bool.and_eq_true, beq_iff_eq] at hb
    exact ⟨oj, hj, e, he, hb.1, hb.2⟩
  · cases h
def Closed (md : Region.Mode) (ops : Array Oper) (listed : Array Bool) : Prop :=
  ∀ j oj, ops[j]? = some oj → listed.getD j false = true → ∀ e ∈ oj.after, Region.binds md e = true → listed.getD e.on false = true
/-- What stands when the chain L0 has been walked down to l. -/
structure Along (md : Region.Mode) (ops : Array Oper) (L0 : List Nat) (z : Nat) (listed0 : Array Bool) (l : List Nat) (listed : Array Bool) : Prop where
  closed : Closed md ops listed
  mono : ∀ k, listed0.getD k true = true → listed.getD k true = true
  mem : ∀ i, i ∈ L0 → listed.getD i true = false → i ∈ l
  of : ∀ i, i ∈ l → i ∈ L0 ∧ listed.getD i true = false
  nodup : l.Nodup
  out : ∀ k, k ∉ L0 → listed0.getD k true = false → listed.getD k true = false
def staticB (md : Region.Mode) (ops : Array Oper) (L0 : List Nat) (z : Nat) (listed0 : Array Bool) : Bool :=
  L0.contains z && ((List.range ops.size).all fun k => L0.contains k || listed0.getD k true || WaitsAt md ops k z || (List.range ops.size).any fun m => !L0.contains m && !listed0.getD m true && WaitsAt md ops k m) &&
  L0.all fun i => i == z || L0.any fun j => decide (i < j) && WaitsAt md ops j i
theorem closed_step {listed : Array Bool} {j : Nat} (h : Closed md ops listed) (hj : j ∈ Region.ready md ops listed) : Closed md ops (listed.setIfInBounds j true) := by
  obtain ⟨_, oj, hoj, hall⟩ := mem_ready.1 hj
  intro k ok hk hl e he hb
  by_cases hkj : j = k
  · subst hkj
    have : ok = oj := Option.some.inj (hk.symm.trans hoj)
    subst this
    exact getD_set_true (hall e he hb)
  · rw [getD_set_ne false hkj] at hl
    exact getD_set_true (h k ok hk hl e he hb)
theorem getD_true_false {listed : Array Bool} {i : Nat} (h : listed.getD i true = false) : listed.getD i false = false := not_listed h
theorem climb {L0 : List Nat} {z : Nat} {listed0 listed : Array Bool} (hs : staticB md ops L0 z listed0 = true) (hc : Closed md ops listed) (hz : ∀ i ∈ L0, i < ops.size) (hsz : listed.size = ops.size) :
    ∀ (n i : Nat), ops.size - i ≤ n → i ∈ L0 → listed.getD i true = false → listed.getD z true = false := by
  intro n
  simp only [staticB, Bool.and_eq_true] at hs
  have h3 := List.all_eq_true.1 hs.2
  induction n with
  | zero => intro i hn hi _; have := hz i hi; omega
  | succ n ih =>
    intro i hn hi hu
    have h4 := h3 i hi
    simp only [Bool.or_eq_true, beq_iff_eq, List.any_eq_true, Bool.and_eq_true, decide_eq_true_eq] at h4
    rcases h4 with rfl | ⟨j, hjm, hij, hw⟩
    · exact hu
    · obtain ⟨oj, hoj, e, he, hb, hon⟩ := waitsAt_spec hw
      have hju : listed.getD j true = false := by
        have hlt := hz j hjm
        by_cases h5 : listed.getD j false = true
        · have h6 := hc j oj hoj h5 e he hb
          rw [hon, getD_true_false hu] at h6
          cases h6
        · have hlt' : j < listed.size := by omega
          have h7 : listed.getD j false = false := by simpa using h5
          simp only [Array.getD, hlt', dif_pos] at h7 ⊢
          exact h7
      exact ih j (by omega) hjm hju
theorem along_steps {L0 : List Nat} {z : Nat} {listed0 : Array Bool} (hs : staticB md ops L0 z listed0 = true) (hz : ∀ i ∈ L0, i < ops.size) :
    Steps md ops (fun l listed => Along md ops L0 z listed0 l listed ∧ listed.size = ops.size) := by
  constructor
  · rintro i rest listed j ⟨h, hsz⟩ hj
    obtain ⟨hun, oj, hoj, hall⟩ := mem_ready.1 hj
    by_cases hm : j ∈ L0
    · exact h.mem j hm hun
    · exfalso
      have h0 : listed0.getD j true = false := by
        cases h1 : listed0.getD j true with
        | false => rfl
        | true => rw [h.mono j h1] at hun; cases hun
      have hs' := hs
      simp only [staticB, Bool.and_eq_true] at hs'
      have h2 := List.all_eq_true.1 hs'.1.2 j (List.mem_range.2 (Array.getElem?_eq_some_iff.1 hoj).1)
      simp only [Bool.or_eq_true, List.contains_iff_mem, hm, false_or, h0, Bool.false_eq_true] at h2
      rcases h2 with h2 | h2
      · obtain ⟨oj', hoj', e, he, hb, hon⟩ := waitsAt_spec h2
        obtain rfl : oj' = oj := by rw [hoj] at hoj'; exact (Option.some.inj hoj').symm
        have h3 := hall e he hb
        obtain ⟨hi0, hiu⟩ := h.of i List.mem_cons_self
        have h4 := climb hs h.closed hz hsz _ i (Nat.le_refl _) hi0 hiu
        rw [hon, getD_true_false h4] at h3
        cases h3
      · obtain ⟨m, _, hmm⟩ := List.any_eq_true.1 h2
        simp only [Bool.and_eq_true, Bool.not_eq_true', List.contains_eq_mem, decide_eq_false_iff_not] at hmm
        obtain ⟨oj', hoj', e, he, hb, hon⟩ := waitsAt_spec hmm.2
        obtain rfl : oj' = oj := by rw [hoj] at hoj'; exact (Option.some.inj hoj').symm
        have h3 := hall e he hb
        have h4 := h.out m hmm.1.1 hmm.1.2
        rw [hon, getD_true_false h4] at h3
        cases h3
  · rintro l listed j ⟨h, hsz⟩ hj hm
    have hun := (mem_ready.1 hj).1
    refine ⟨⟨closed_step h.closed hj, fun k hk => ?_, fun i hi hu => ?_, fun i hi => ?_, h.nodup.erase j, fun k hk h0 => ?_⟩, by simpa using hsz⟩
    · have := h.mono k hk
      cases h1 : (listed.setIfInBounds j true).getD k true with
      | true => rfl
      | false => rw [(unlisted_of hun h1).2] at this; cases this
    · obtain ⟨hne, hu'⟩ := unlisted_of hun hu
      exact (List.mem_erase_of_ne hne).2 (h.mem i hi hu')
    · have hne : i ≠ j := fun e => by
        subst e
        exact (h.nodup.not_mem_erase) hi
      obtain ⟨h1, h2⟩ := h.of i (List.mem_of_mem_erase hi)
      refine ⟨h1, ?_⟩
      rw [getD_set_ne true (fun e => hne e.symm)]
      exact h2
    · have hne : j ≠ k := fun e => hk (e ▸ (h.of j hm).1)
      rw [getD_set_ne true hne]
      exact h.out k hk h0
def closedB (md : Region.Mode) (ops : Array Oper) (listed : Array Bool) : Bool :=
  (List.range ops.size).all fun j => !listed.getD j false || match ops[j]? with
    | some oj => oj.after.all fun e => !Region.binds md e || listed.getD e.on false
    | none => true
theorem closedB_spec {listed : Array Bool} (h : closedB md ops listed = true) : Closed md ops listed := by
  intro j oj hoj hl e he hb
  have h1 := List.all_eq_true.1 h j (List.mem_range.2 (Array.getElem?_eq_some_iff.1 hoj).1)
  simp only [hl, hoj, Bool.not_true, Bool.false_or] at h1
  have h2 := Array.all_eq_true'.1 h1 e he
  simpa [hb] using h2
/-- The beginning: l in the text's order, z the last of them. -/
theorem wpAny_along {a : Act} {w : World} {fuel : Nat} {listed : Array Bool} (S : World → Prop) (l : List Nat) (z : Nat) (hs : staticB md ops l z listed = true) (hc : closedB md ops listed = true)
    (hl : (l.all fun i => decide (i < ops.size) && !listed.getD i true) = true) (hn : l.Nodup) (hsz : listed.size = ops.size) (hS : S w)
    (h : Chain P md ops Q S l fuel listed a) : wpAny P md ops Q fuel listed a w := by
  have h1 : ∀ i ∈ l, i < ops.size ∧ listed.getD i true = false := fun i hi => by
    have := List.all_eq_true.1 hl i hi
    simpa using this
  exact chain_soundT (along_steps hs fun i hi => (h1 i hi).1) l.length l _ _ a rfl h ⟨⟨closedB_spec hc, fun _ h => h, fun i hi _ => hi, fun i hi => ⟨hi, (h1 i hi).2⟩, hn, fun _ _ h => h⟩, hsz⟩ w hS
end
end Go.Proofs.Ythjigmfooobfmab
