/-
  STEADY OPERATIONS, where what stands behind them waits, straight or by others of them, for each. It speaks of no program.
-/
import Derived.Test.YthjigmfooobfmabFloat
namespace Go.Proofs.Ythjigmfooobfmab

section
variable {P : Program} {ops : Array Oper} {Q : Exit → Act → World → Prop} {md : Region.Mode} {S : World → Prop}

def reach3 (md : Region.Mode) (ops : Array Oper) (L0 : List Nat) (k : Nat) : Bool :=
  L0.all fun i => WaitsAt md ops k i || L0.any fun j => decide (i < j) && WaitsAt md ops j i
def static3 (md : Region.Mode) (ops : Array Oper) (L0 : List Nat) (listed0 : Array Bool) : Bool :=
  (List.range ops.size).all fun k => L0.contains k || listed0.getD k true || ((List.range ops.size).any fun m => !L0.contains m && !listed0.getD m true && WaitsAt md ops k m) || reach3 md ops L0 k
theorem climb3 {L0 : List Nat} {listed : Array Bool} {k : Nat} {ok : Oper} (hk : ops[k]? = some ok) (hall : ∀ e ∈ ok.after, Region.binds md e = true → listed.getD e.on false = true) (hs : reach3 md ops L0 k = true)
    (hc : Closed md ops listed) (hz : ∀ i ∈ L0, i < ops.size) (hsz : listed.size = ops.size) :
    ∀ (n i : Nat), ops.size - i ≤ n → i ∈ L0 → listed.getD i true = false → False := by
  have h3 := List.all_eq_true.1 hs
  intro n
  induction n with
  | zero => intro i hn hi _; have := hz i hi; omega
  | succ n ih =>
    intro i hn hi hu
    have h4 := h3 i hi
    simp only [Bool.or_eq_true, List.any_eq_true, Bool.and_eq_true, decide_eq_true_eq] at h4
    rcases h4 with hw | ⟨j, hjm, hij, hw⟩
    · obtain ⟨oj, hoj, e, he, hb, hon⟩ := waitsAt_spec hw
      obtain rfl : oj = ok := by rw [hk] at hoj; exact (Option.some.inj hoj).symm
      have h5 := hall e he hb
      rw [hon, getD_true_false hu] at h5
      cases h5
    · obtain ⟨oj, hoj, e, he, hb, hon⟩ := waitsAt_spec hw
      have hju : listed.getD j true = false := by
        have hlt := hz j hjm
        by_cases h5 : listed.getD j false = true
        · have h6 := hc j oj hoj h5 e he hb
          rw [hon, getD_true_false hu] at h6
          cases h6
        · have hlt' : j < listed.size := by omega
          have h7 : listed.getD j false = false := by simpa using h5
          simp only [Array.getD, hlt', dif_pos] at h7 ⊢
          exact h7
      exact ih j (by omega) hjm hju
theorem under_steps {L0 : List Nat} {listed0 : Array Bool} (hs : static3 md ops L0 listed0 = true) (hz : ∀ i ∈ L0, i < ops.size) :
    Steps md ops (fun l listed => Along md ops L0 0 listed0 l listed ∧ listed.size = ops.size) := by
  constructor
  · rintro i rest listed j ⟨h, hsz⟩ hj
    obtain ⟨hun, oj, hoj, hall⟩ := mem_ready.1 hj
    by_cases hm : j ∈ L0
    · exact h.mem j hm hun
    · exfalso
      have h0 : listed0.getD j true = false := by
        cases h1 : listed0.getD j true with
        | false => rfl
        | true => rw [h.mono j h1] at hun; cases hun
      have h2 := List.all_eq_true.1 hs j (List.mem_range.2 (Array.getElem?_eq_some_iff.1 hoj).1)
      simp only [Bool.or_eq_true, List.contains_iff_mem, hm, false_or, h0, Bool.false_eq_true] at h2
      rcases h2 with h2 | h2
      · obtain ⟨m, _, hmm⟩ := List.any_eq_true.1 h2
        simp only [Bool.and_eq_true, Bool.not_eq_true', List.contains_eq_mem, decide_eq_false_iff_not] at hmm
        obtain ⟨oj', hoj', e, he, hb, hon⟩ := waitsAt_spec hmm.2
        obtain rfl : oj' = oj := by rw [hoj] at hoj'; exact (Option.some.inj hoj').symm
        have h3 := hall e he hb
        have h4 := h.out m hmm.1.1 hmm.1.2
        rw [hon, getD_true_false h4] at h3
        cases h3
      · obtain ⟨hi0, hiu⟩ := h.of i List.mem_cons_self
        exact climb3 hoj hall h2 h.closed hz hsz _ i (Nat.le_refl _) hi0 hiu
  · rintro l listed j ⟨h, hsz⟩ hj hm
    have hun := (mem_ready.1 hj).1
    refine ⟨⟨closed_step h.closed hj, fun k hk => ?_, fun i hi hu => ?_, fun i hi => ?_, h.nodup.erase j, fun k hk h0 => ?_⟩, by simpa using hsz⟩
    · have := h.mono k hk
      cases h1 : (listed.setIfInBounds j true).getD k true with
      | true => rfl
      | false => rw [(unlisted_of hun h1).2] at this; cases this
    · obtain ⟨hne, hu'⟩ := unlisted_of hun hu
      exact (List.mem_erase_of_ne hne).2 (h.mem i hi hu')
    · have hne : i ≠ j := fun e => by
        subst e
        exact (h.nodup.not_mem_erase) hi
      obtain ⟨h1, h2⟩ := h.of i (List.mem_of_mem_erase hi)
      refine ⟨h1, ?_⟩
      rw [getD_set_ne true (fun e => hne e.symm)]
      exact h2
    · have hne : j ≠ k := fun e => hk (e ▸ (h.of j hm).1)
      rw [getD_set_ne true hne]
      exact h.out k hk h0
/-- The beginning: l in the text's order. -/
theorem wpAny_under {a : Act} {w : World} {fuel : Nat} {listed : Array Bool} (S : World → Prop) (l : List Nat) (hs : static3 md ops l listed = true) (hc : closedB md ops listed = true)
    (hl : (l.all fun i => decide (i < ops.size) && !listed.getD i true) = true) (hn : l.Nodup) (hsz : listed.size = ops.size) (hS : S w)
    (h : Chain P md ops Q S l fuel listed a) : wpAny P md ops Q fuel listed a w := by
  have h1 : ∀ i ∈ l, i < ops.size ∧ listed.getD i true = false := fun i hi => by
    have := List.all_eq_true.1 hl i hi
    simpa using this
  exact chain_soundT (under_steps hs fun i hi => (h1 i hi).1) l.length l _ _ a rfl h ⟨⟨closedB_spec hc, fun _ h => h, fun i hi _ => hi, fun i hi => ⟨hi, (h1 i hi).2⟩, hn, fun _ _ h => h⟩, hsz⟩ w hS
end
end Go.Proofs.Ythjigmfooobfmab
