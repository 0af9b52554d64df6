/-
  Joined: Steady3, Mix, App, K1, Byt
-/
import Derived.Test.YtlpbbihjnmikkaaGreatDoorJ12
import Derived.Test.YtlpbbihjnmikkaaGreatDoorJ11
import Derived.Test.YtlpbbihjnmikkaaGreatDoorProg
import Derived.Maps.AppendAt
import Derived.Deep.MidRow
import Derived.OwnWalk
import Derived.WalkSpells
import Derived.WalkLawsBesides
import Derived.Lib.Hide
import Derived.Lib.SliceRun
import Derived.WalkKit
import Derived.Recover
import Derived.Below
namespace Go.Proofs.YtlpbbihjnmikkaaGreatDoor

section
variable {P : Program} {ops : Array Oper} {Q : Exit → Act → World → Prop} {md : Region.Mode} {S : World → Prop}

def reach3 (md : Region.Mode) (ops : Array Oper) (L0 : List Nat) (k : Nat) : Bool :=
  L0.all fun i => WaitsAt md ops k i || L0.any fun j => decide (i < j) && WaitsAt md ops j i
def static3 (md : Region.Mode) (ops : Array Oper) (L0 : List Nat) (listed0 : Array Bool) : Bool :=
  (List.range ops.size).all fun k => L0.contains k || listed0.getD k true || ((List.range ops.size).any fun m => !L0.contains m && !listed0.getD m true && WaitsAt md ops k m) || reach3 md ops L0 k
theorem climb3 {L0 : List Nat} {listed : Array Bool} {k : Nat} {ok : Oper} (hk : ops[k]? = some ok) (hall : ∀ e ∈ ok.after, Region.binds md e = true → listed.getD e.on false = true) (hs : reach3 md ops L0 k = true)
    (hc : Closed md ops listed) (hz : ∀ i ∈ L0, i < ops.size) (hsz : listed.size = ops.size) :
    ∀ (n i : Nat), ops.size - i ≤ n → i ∈ L0 → listed.getD i true = false → False := by
  have h3 := List.all_eq_true.1 hs
  intro n
  induction n with
  | zero => intro i hn hi _; have := hz i hi; omega
  | succ n ih =>
    intro i hn hi hu
    have h4 := h3 i hi
    simp only [Bool.or_eq_true, List.any_eq_true, Bool.and_eq_true, decide_eq_true_eq] at h4
    rcases h4 with hw | ⟨j, hjm, hij, hw⟩
    · obtain ⟨oj, hoj, e, he, hb, hon⟩ := waitsAt_spec hw
      obtain rfl : oj = ok := by rw [hk] at hoj; exact (Option.some.inj hoj).symm
      have h5 := hall e he hb
      rw [hon, getD_true_false hu] at h5
      cases h5
    · obtain ⟨oj, hoj, e, he, hb, hon⟩ := waitsAt_spec hw
      have hju : listed.getD j true = false := by
        have hlt := hz j hjm
        by_cases h5 : listed.getD j false = true
        · have h6 := hc j oj hoj h5 e he hb
          rw [hon, getD_true_false hu] at h6
          cases h6
        · have hlt' : j < listed.size := by omega
          have h7 : listed.getD j false = false := by simpa using h5
          simp only [Array.getD, hlt', dif_pos] at h7 ⊢
          exact h7
      exact ih j (by omega) hjm hju
theorem under_steps {L0 : List Nat} {listed0 : Array Bool} (hs : static3 md ops L0 listed0 = true) (hz : ∀ i ∈ L0, i < ops.size) :
    Steps md ops (fun l listed => Along md ops L0 0 listed0 l listed ∧ listed.size = ops.size) := by
  constructor
  · rintro i rest listed j ⟨h, hsz⟩ hj
    obtain ⟨hun, oj, hoj, hall⟩ := mem_ready.1 hj
    by_cases hm : j ∈ L0
    · exact h.mem j hm hun
    · exfalso
      have h0 : listed0.getD j true = false := by
        cases h1 : listed0.getD j true with
        | false => rfl
        | true => rw [h.mono j h1] at hun; cases hun
      have h2 := List.all_eq_true.1 hs j (List.mem_range.2 (Array.getElem?_eq_some_iff.1 hoj).1)
      simp only [Bool.or_eq_true, List.contains_iff_mem, hm, false_or, h0, Bool.false_eq_true] at h2
      rcases h2 with h2 | h2
      · obtain ⟨m, _, hmm⟩ := List.any_eq_true.1 h2
        simp only [Bool.and_eq_true, Bool.not_eq_true', List.contains_eq_mem, decide_eq_false_iff_not] at hmm
        obtain ⟨oj', hoj', e, he, hb, hon⟩ := waitsAt_spec hmm.2
        obtain rfl : oj' = oj := by rw [hoj] at hoj'; exact (Option.some.inj hoj').symm
        have h3 := hall e he hb
        have h4 := h.out m hmm.1.1 hmm.1.2
        rw [hon, getD_true_false h4] at h3
        cases h3
      · obtain ⟨hi0, hiu⟩ := h.of i List.mem_cons_self
        exact climb3 hoj hall h2 h.closed hz hsz _ i (Nat.le_refl _) hi0 hiu
  · rintro l listed j ⟨h, hsz⟩ hj hm
    have hun := (mem_ready.1 hj).1
    refine ⟨⟨closed_step h.closed hj, fun k hk => ?_, fun i hi hu => ?_, fun i hi => ?_, h.nodup.erase j, fun k hk h0 => ?_⟩, by simpa using hsz⟩
    · have := h.mono k hk
      cases h1 : (listed.setIfInBounds j true).getD k true with
      | true => rfl
      | false => rw [(unlisted_of hun h1).2] at this; cases this
    · obtain ⟨hne, hu'⟩ := unlisted_of hun hu
      exact (List.mem_erase_of_ne hne).2 (h.mem i hi hu')
    · have hne : i ≠ j := fun e => by
        subst e
        exact (h.nodup.not_mem_erase) hi
      obtain ⟨h1, h2⟩ := h.of i (List.mem_of_mem_erase hi)
      refine ⟨h1, ?_⟩
      rw [getD_set_ne true (fun e => hne e.symm)]
      exact h2
    · have hne : j ≠ k := fun e => hk (e ▸ (h.of j hm).1)
      rw [getD_set_ne true hne]
      exact h.out k hk h0
/-- The beginning: l in the text's order. -/
theorem wpAny_under {a : Act} {w : World} {fuel : Nat} {listed : Array Bool} (S : World → Prop) (l : List Nat) (hs : static3 md ops l listed = true) (hc : closedB md ops listed = true)
    (hl : (l.all fun i => decide (i < ops.size) && !listed.getD i true) = true) (hn : l.Nodup) (hsz : listed.size = ops.size) (hS : S w)
    (h : Chain P md ops Q S l fuel listed a) : wpAny P md ops Q fuel listed a w := by
  have h1 : ∀ i ∈ l, i < ops.size ∧ listed.getD i true = false := fun i hi => by
    have := List.all_eq_true.1 hl i hi
    simpa using this
  exact chain_soundT (under_steps hs fun i hi => (h1 i hi).1) l.length l _ _ a rfl h ⟨⟨closedB_spec hc, fun _ h => h, fun i hi _ => hi, fun i hi => ⟨hi, (h1 i hi).2⟩, hn, fun _ _ h => h⟩, hsz⟩ w hS
end
end Go.Proofs.YtlpbbihjnmikkaaGreatDoor

namespace Go.Proofs.YtlpbbihjnmikkaaGreatDoor

section
variable {P : Program} {ops : Array Oper} {Q : Exit → Act → World → Prop} {md : Region.Mode} {S : Option Value → World → Prop} {z : Nat} {oz : Oper}

/-- In a world that meets 'S none' the operation gives some u, and leaves a world that meets 'S (some u)'. -/
def MakesAt (P : Program) (S : Option Value → World → Prop) (oz : Oper) (a : Act) : Prop :=
  ∀ w, S none w → match (execOp a.eval oz).run P w with
    | .ok (.value u) w' => S (some u) w'
    | .ok (.enter f args) w' => Calls P f args w' fun e w'' => ∃ u, e = .returned u ∧ S (some u) w''
    | _ => False
theorem MakesAt.val {a : Act} (h : ∀ w, S none w → ∃ u w', (execOp a.eval oz).run P w = .ok (.value u) w' ∧ S (some u) w') : MakesAt P S oz a := fun w hw => by
  obtain ⟨u, w', hr, hs⟩ := h w hw
  rw [hr]; exact hs
theorem MakesAt.call {a : Act} {f : FuncId} {args : Array Value} (h : ∀ w, S none w → (execOp a.eval oz).run P w = .ok (.enter f args) w)
    (hc : ∀ w, S none w → Calls P f args w fun e w' => ∃ u, e = .returned u ∧ S (some u) w') : MakesAt P S oz a := fun w hw => by
  rw [h w hw]; exact hc w hw
def ChainM (P : Program) (md : Region.Mode) (ops : Array Oper) (Q : Exit → Act → World → Prop) (S : Option Value → World → Prop) (z : Nat) (oz : Oper) : List Nat → Nat → Array Bool → Act → Prop
  | [], fuel, listed, a => z ∈ Region.ready md ops listed ∧ MakesAt P S oz a ∧ ∀ g w, S (some g) w → wpAny P md ops Q fuel (listed.setIfInBounds z true) (a.put oz.dst g) w
  | _ :: _, 0, _, _ => False
  | i :: rest, fuel + 1, listed, a => ∃ oi v, ops[i]? = some oi ∧ (∀ cs b, oi.op ≠ .select cs b) ∧ i ∈ Region.ready md ops listed ∧ Free md ops listed i oi ∧ (∀ og, Steady P ops (S og) oi v a) ∧
      ChainM P md ops Q S z oz rest fuel (listed.setIfInBounds i true) (a.put oi.dst v)

theorem apart_ready {i : Nat} {oi : Oper} {listed : Array Bool} (hz : ops[z]? = some oz) (hzr : z ∈ Region.ready md ops listed) (hui : listed.getD i true = false) (hiz : i ≠ z) (hf : Free md ops listed i oi) : oi.apart ops oz = true := by
  obtain ⟨huz, oz', hoz', hall⟩ := mem_ready.1 hzr
  obtain rfl : oz' = oz := by rw [hz] at hoz'; exact (Option.some.inj hoz').symm
  refine hf z oz' hz (fun e => hiz e.symm) huz fun e he hb heq => ?_
  have h1 := hall e he hb
  rw [heq, not_listed hui] at h1
  cases h1
theorem chainM_makes (hz : ops[z]? = some oz) (hsz : ∀ cs b, oz.op ≠ .select cs b) : ∀ (l : List Nat) (fuel : Nat) (listed : Array Bool) (a : Act), z ∉ l → z ∈ Region.ready md ops listed → ChainM P md ops Q S z oz l fuel listed a → MakesAt P S oz a
  | [], _, _, _, _, _, hc => hc.2.1
  | _ :: _, 0, _, _, _, _, hc => hc.elim
  | i :: rest, fuel + 1, listed, a, hnz, hzr, hc => by
    obtain ⟨oi, v, hoi, hsi, hri, hfree, hst, hrest⟩ := hc
    have hiz : i ≠ z := fun e => hnz (e ▸ List.mem_cons_self)
    have hap := apart_ready hz hzr (mem_ready.1 hri).1 hiz hfree
    obtain ⟨h1, h2, h3⟩ := Oper.apart_spec hap
    have ih := chainM_makes hz hsz rest fuel _ _ (fun h => hnz (List.mem_cons_of_mem _ h)) (ready_mono hzr (fun e => hiz e.symm)) hrest
    unfold MakesAt at ih ⊢
    rwa [execOp_put oz hsz a oi.dst v h1] at ih
/-- The block has come up: the chain goes on by the same values. -/
theorem chainM_made (hz : ops[z]? = some oz) (g : Value) : ∀ (l : List Nat) (fuel : Nat) (listed : Array Bool) (a : Act), z ∉ l → z ∈ Region.ready md ops listed → ChainM P md ops Q S z oz l fuel listed a →
    Chain P md ops Q (S (some g)) l fuel (listed.setIfInBounds z true) (a.put oz.dst g)
  | [], _, _, _, _, _, hc => fun w hw => hc.2.2 g w hw
  | _ :: _, 0, _, _, _, _, hc => hc.elim
  | i :: rest, fuel + 1, listed, a, hnz, hzr, hc => by
    obtain ⟨oi, v, hoi, hsi, hri, hfree, hst, hrest⟩ := hc
    have hiz : i ≠ z := fun e => hnz (e ▸ List.mem_cons_self)
    have hui := (mem_ready.1 hri).1
    have huz := (mem_ready.1 hzr).1
    have hap := apart_ready hz hzr hui hiz hfree
    obtain ⟨h1, h2, h3⟩ := Oper.apart_spec hap
    have ih := chainM_made hz g rest fuel _ _ (fun h => hnz (List.mem_cons_of_mem _ h)) (ready_mono hzr (fun e => hiz e.symm)) hrest
    refine ⟨oi, v, hoi, hsi, ready_mono hri hiz, fun k ok hk hki hun hno => hfree k ok hk hki (unlisted_of huz hun).2 hno, (hst (some g)).of_same (execOp_put oi hsi a oz.dst g h3) (wanted_put oi a oz.dst g h3), ?_⟩
    rw [Array.setIfInBounds_comm _ _ (fun e => hiz e.symm), ← Act.put_comm a v g h2]
    exact ih
theorem chainM_swap {T : List Nat → Array Bool → Prop} (hT : Steps md ops T) : ∀ (l : List Nat) (fuel : Nat) (listed : Array Bool) (a : Act) (j : Nat), j ≠ z → l ≠ [] → ChainM P md ops Q S z oz l fuel listed a → T (z :: l) listed → z ∉ l → j ∈ Region.ready md ops listed →
    ∃ oj v f', ops[j]? = some oj ∧ (∀ cs b, oj.op ≠ .select cs b) ∧ fuel = f' + 1 ∧ j ∈ l ∧ (∀ og, Steady P ops (S og) oj v a) ∧ ChainM P md ops Q S z oz (l.erase j) f' (listed.setIfInBounds j true) (a.put oj.dst v)
  | [], _, _, _, _, _, hne, _, _, _, _ => absurd rfl hne
  | _ :: _, 0, _, _, _, _, _, hc, _, _, _ => hc.elim
  | i :: rest, fuel + 1, listed, a, j, hjz, _, hc, ht, hnz, hj => by
    obtain ⟨oi, v, hoi, hsi, hri, hfree, hst, hrest⟩ := hc
    have hui := (mem_ready.1 hri).1
    have hiz : i ≠ z := fun e => hnz (e ▸ List.mem_cons_self)
    by_cases hji : j = i
    · subst hji
      exact ⟨oi, v, fuel, hoi, hsi, rfl, List.mem_cons_self, hst, by simpa using hrest⟩
    · have hm := hT.mem _ _ _ _ ht hj
      have hmr : j ∈ rest := by simpa [hjz, hji] using hm
      have hj' := ready_mono (i := i) hj hji
      have ht' : T (z :: rest) (listed.setIfInBounds i true) := by
        have := hT.step _ _ _ ht hri (by simp)
        rwa [List.erase_cons_tail (by simpa using fun h => hiz h.symm), List.erase_cons_head] at this
      obtain ⟨oj, u, f', hoj, hsj, rfl, _, hstj, hcj⟩ := chainM_swap hT rest fuel _ _ j hjz (List.ne_nil_of_mem hmr) hrest ht' (fun h => hnz (List.mem_cons_of_mem _ h)) hj'
      obtain ⟨huj, oj', hoj', hall⟩ := mem_ready.1 hj
      obtain rfl : oj' = oj := by rw [hoj] at hoj'; exact (Option.some.inj hoj').symm
      have hap := hfree j oj' hoj hji huj fun e he hb heq => by
        have h1 := hall e he hb
        rw [heq, not_listed hui] at h1
        cases h1
      obtain ⟨h1, h2, h3⟩ := Oper.apart_spec hap
      refine ⟨oj', u, f' + 1, hoj, hsj, rfl, List.mem_cons_of_mem _ hmr, fun og => (hstj og).of_same (execOp_put oj' hsj a oi.dst v h1).symm (wanted_put oj' a oi.dst v h1).symm, ?_⟩
      rw [List.erase_cons_tail (by simpa using fun h => hji h.symm)]
      refine ⟨oi, v, hoi, hsi, ready_mono hri (fun h => hji h.symm), fun k ok hk hki hun hno => hfree k ok hk hki (unlisted_of huj hun).2 hno,
        fun og => (hst og).of_same (execOp_put oi hsi a oj'.dst u h3) (wanted_put oi a oj'.dst u h3), ?_⟩
      rw [Array.setIfInBounds_comm _ _ hji, ← Act.put_comm a v u h2]
      exact hcj
theorem chainM_sound {T : List Nat → Array Bool → Prop} (hT : Steps md ops T) (hz : ops[z]? = some oz) (hsz : ∀ cs b, oz.op ≠ .select cs b) (hgd : oz.guard = none) : ∀ (n : Nat) (l : List Nat) (fuel : Nat) (listed : Array Bool) (a : Act), l.length = n → ChainM P md ops Q S z oz l fuel listed a →
    T (z :: l) listed → z ∉ l → ∀ w, S none w → wpAny P md ops Q (fuel + 1) listed a w := by
  have hmake : ∀ (l : List Nat) (fuel : Nat) (listed : Array Bool) (a : Act), ChainM P md ops Q S z oz l fuel listed a → T (z :: l) listed → z ∉ l → z ∈ Region.ready md ops listed → ∀ w, S none w → Go.wpOp P ops Q z (wpAny P md ops Q fuel (listed.setIfInBounds z true)) a w := by
    intro l fuel listed a hc ht hnz hzr w hw
    unfold Go.wpOp
    have hwt : Region.wanted oz (yielded ops a.tmps) = true := by simp [Region.wanted, hgd]
    simp only [hz, hwt, if_true]
    refine .inl ?_
    have hm := chainM_makes hz hsz l fuel listed a hnz hzr hc w hw
    have ht' : T l (listed.setIfInBounds z true) := by
      have := hT.step _ _ _ ht hzr (by simp)
      rwa [List.erase_cons_head] at this
    have go : ∀ g w', S (some g) w' → wpAny P md ops Q fuel (listed.setIfInBounds z true) (a.put oz.dst g) w' := fun g w' hS => chain_soundT hT l.length l fuel _ _ rfl (chainM_made hz g l fuel listed a hnz hzr hc) ht' w' hS
    unfold Oper.wp
    generalize (execOp a.eval oz).run P w = r at hm ⊢
    cases r with
    | ok n w' =>
      cases n <;> simp only [Oper.upon] at hm ⊢
      case value u => exact go u w' hm
      case enter f args =>
        refine Calls.mono hm fun e w'' he => ?_
        obtain ⟨u, rfl, hs⟩ := he
        exact go u w'' hs
    | halt x w' => exact hm.elim
  intro n
  induction n with
  | zero =>
    intro l fuel listed a hl hc ht hnz w hw
    obtain rfl := List.length_eq_zero_iff.1 hl
    have hzr : z ∈ Region.ready md ops listed := hc.1
    refine ⟨fun h => absurd (h ▸ hzr) List.not_mem_nil, fun j hj => ?_⟩
    have hm := hT.mem _ _ _ _ ht hj
    obtain rfl : j = z := by simpa using hm
    exact hmake [] fuel listed a hc ht hnz hzr w hw
  | succ n ih =>
    intro l fuel listed a hl hc ht hnz w hw
    have hne : l ≠ [] := fun e => by rw [e] at hl; cases hl
    have hnr : Region.ready md ops listed ≠ [] := by
      cases l with
      | nil => exact absurd rfl hne
      | cons i rest =>
        cases fuel with
        | zero => exact hc.elim
        | succ f =>
          obtain ⟨_, _, _, _, hri, _⟩ := hc
          exact List.ne_nil_of_mem hri
    refine ⟨fun h => absurd h hnr, fun j hj => ?_⟩
    by_cases hjz : j = z
    · subst hjz
      exact hmake l fuel listed a hc ht hnz hj w hw
    · obtain ⟨oj, v, f', hoj, _, rfl, hjl, hst, hcj⟩ := chainM_swap hT l fuel listed a j hjz hne hc ht hnz hj
      refine (hst none).wpOp hoj hw fun w' hw' => ?_
      refine ih (l.erase j) f' _ _ (by rw [List.length_erase_of_mem hjl, hl]; rfl) hcj ?_ (fun h => hnz (List.mem_of_mem_erase h)) w' hw'
      have := hT.step _ _ _ ht hj (List.mem_cons_of_mem _ hjl)
      rwa [List.erase_cons_tail (by simpa using fun h => hjz h.symm)] at this

theorem ChainM.step {i : Nat} {oi : Oper} {v : Value} {rest : List Nat} {fuel : Nat} {listed : Array Bool} {a : Act} (hi : ops[i]? = some oi) (hs : Region.noSelect ops = true)
    (hf : Region.free md ops listed i = true) (hr : (Region.ready md ops listed).contains i = true) (hy : ∀ og, Steady P ops (S og) oi v a)
    (h : ChainM P md ops Q S z oz rest fuel (listed.setIfInBounds i true) (a.put oi.dst v)) : ChainM P md ops Q S z oz (i :: rest) (fuel + 1) listed a :=
  ⟨oi, v, hi, fun cs b => Region.noSelect_spec hs i oi cs b hi, by simpa using hr, Region.free_spec hi hf, hy, h⟩
theorem ChainM.done {fuel : Nat} {listed : Array Bool} {a : Act} (hr : (Region.ready md ops listed).contains z = true) (hm : MakesAt P S oz a)
    (h : ∀ g w, S (some g) w → wpAny P md ops Q fuel (listed.setIfInBounds z true) (a.put oz.dst g) w) : ChainM P md ops Q S z oz [] fuel listed a := ⟨by simpa using hr, hm, h⟩
/-- The beginning. z: the number of the operation that makes the block; l: those of the steady ones, in the text's order. -/
theorem wpAny_mix {a : Act} {w : World} {fuel : Nat} {listed : Array Bool} (S : Option Value → World → Prop) (l : List Nat) (z : Nat) (hz : ops[z]? = some oz) (hnos : Region.noSelect ops = true) (hgd : oz.guard = none)
    (hs : static3 md ops (z :: l) listed = true) (hc : closedB md ops listed = true) (hl : ((z :: l).all fun i => decide (i < ops.size) && !listed.getD i true) = true) (hn : (z :: l).Nodup) (hsz : listed.size = ops.size)
    (hS : S none w) (h : ChainM P md ops Q S z oz l fuel listed a) : wpAny P md ops Q (fuel + 1) listed a w := by
  have h1 : ∀ i ∈ z :: l, i < ops.size ∧ listed.getD i true = false := fun i hi => by
    have := List.all_eq_true.1 hl i hi
    simpa using this
  exact chainM_sound (under_steps hs fun i hi => (h1 i hi).1) hz (fun cs b => Region.noSelect_spec hnos z oz cs b hz) hgd l.length l fuel listed a rfl h
    ⟨⟨closedB_spec hc, fun _ h => h, fun i hi _ => hi, fun i hi => ⟨hi, (h1 i hi).2⟩, hn, fun _ _ h => h⟩, hsz⟩ (List.nodup_cons.1 hn).1 w hS
end
end Go.Proofs.YtlpbbihjnmikkaaGreatDoor

namespace Go.Proofs.YtlpbbihjnmikkaaGreatDoor
open Go.RowKit
set_option linter.unusedSimpArgs false

/-- Blocks that are not there yet are nobody's. -/
def ColOk (c : Col) (w : World) : Prop := ∀ g, w.heap.size ≤ g → c g = 0
theorem ColOk.later {c : Col} {w w' : World} (h : ColOk c w) (hs : w.heap.size ≤ w'.heap.size) : ColOk c w' := fun g hg => h g (Nat.le_trans hs hg)
/-- A row of n things of size cells each, that the owner m has. -/
structure Row (c : Col) (m : Nat) (e : TypeId) (size : Nat) (v : Value) (n : Nat) (xs : List Value) (w : World) : Prop where
  own : w.ownsRow 0 e size v n xs
  col : ∀ g, v.ownBlock = some g → c g = m
theorem Row.nil (c : Col) (m : Nat) (e : TypeId) (size : Nat) (w : World) : Row c m e size (.slice none 0 0) 0 [] w := ⟨World.ownsRow_nil _ _ _ _, fun g h => by cases h⟩
theorem Row.chg {c c' : Col} {m n k : Nat} {e : TypeId} {size : Nat} {v : Value} {xs : List Value} {w w' : World} (h : Row c m e size v k xs w) (hc : Chg c n w w') (he : Ext w.heap.size c c') (hn : m ≠ n) : Row c' m e size v k xs w' := by
  obtain ⟨hl, hr⟩ := h.own
  rcases hr with ⟨rfl, rfl⟩ | ⟨g, cap, cur, rfl, hb, hg, rest⟩
  · exact ⟨⟨hl, Or.inl ⟨rfl, rfl⟩⟩, fun g hg => by cases hg⟩
  · have hlt : g < w.heap.size := by
      rcases Nat.lt_or_ge g w.heap.size with h' | h'
      · exact h'
      · rw [Array.getElem?_eq_none h'] at hg; cases hg
    have hcg := h.col g rfl
    refine ⟨⟨hl, Or.inr ⟨g, cap, cur, rfl, hb, (hc.block g hlt (by rw [hcg]; exact hn)).trans hg, rest⟩⟩, fun k hk => ?_⟩
    cases hk
    rw [he g hlt]; exact hcg
theorem run_append_row {t ty e : TypeId} {i : TypeInfo} {z : Value} {size bytes : Nat} (ht : Tryz.prog.underlying t = some (.slice e)) (hi : Tryz.prog.info? e = some i) (hz : i.zero = some z) (hsize : i.size = size) (hby : i.bytes = bytes) (hzs : z.cells.size = size) (hsz : 0 < size)
    {c : Col} {m n : Nat} {v : Value} {xs : List Value} {w : World} (hrow : Row c m e size v n xs w) (hok : ColOk c w)
    (a : Addr) (k cap : Nat) (news : List Value) (hl : news.length = k * size) (hnews : ∀ j u, news[j]? = some u → w.cell? (a.add j) = some u) (h1 : ∀ u ∈ news, u.oneCell' = true) (h63 : n + k ≤ 4096) (hbytes : bytes ≤ 4096) :
    ∃ v' w' c', (Builtin.append_ #[t, t] ty #[v, .slice (some a) k cap]).run Tryz.prog w = .ok v' w' ∧ Row c' m e size v' (n + k) (xs ++ news) w' ∧ Chg c m w w' ∧ Ext w.heap.size c c' ∧ ColOk c' w' ∧ (∀ g, g < w.heap.size → v.ownBlock ≠ some g → w'.heap[g]? = w.heap[g]?) := by
  have hb : (n + k) * bytes ≤ 140737488355328 := Nat.le_trans (Nat.mul_le_mul h63 hbytes) (by decide)
  obtain ⟨v', w', hrun, h2, h3, _, h5⟩ := run_append_own_at (P := Tryz.prog) w 0 t ty e i z size bytes ht hi hz hsize hby hzs hsz v n xs hrow.own a k cap news hl hnews h1 (by simp only [maxLen]; omega) hb (Nat.zero_le _)
  have hchg : Chg c m w w' := ⟨h3.os, h3.tape, h3.output, h3.size, fun g hg hc => h3.block g hg (fun e => hc (hrow.col g e.symm))⟩
  rcases h5 with h5 | h5
  · exact ⟨v', w', c, hrun, ⟨h2, fun g hg => hrow.col g (h5 ▸ hg)⟩, hchg, Ext.refl _ _, hok.later h3.size, fun g hg hne => h3.block g hg fun e => hne e.symm⟩
  · have hlt : w.heap.size < w'.heap.size := by
      rcases h2.2 with ⟨rfl, _⟩ | ⟨g, cap', cur, rfl, _, hg, _⟩
      · cases h5
      · have e : g = w.heap.size := by simpa [Value.ownBlock] using h5
        subst e
        rcases Nat.lt_or_ge w.heap.size w'.heap.size with h' | h'
        · exact h'
        · rw [Array.getElem?_eq_none h'] at hg; cases hg
    refine ⟨v', w', paint c w.heap.size m, hrun, ⟨h2, fun g hg => ?_⟩, hchg, Ext.paint _ _ _ _ (Nat.le_refl _), fun g hg => ?_, fun g hg hne => h3.block g hg fun e => hne e.symm⟩
    · have e : g = w.heap.size := by rw [h5] at hg; cases hg; rfl
      rw [e, paint_at]
    · unfold paint
      rw [if_neg (by omega)]
      exact hok g (by omega)
section
variable {ops : Array Oper} {o : Oper} {a : Act} {w : World} {Q : Exit → Act → World → Prop} {K : Act → World → Prop}
theorem step_append_row {E : Prop} {t e : TypeId} {i : TypeInfo} {z : Value} {size bytes : Nat} (hgd : o.guard = none) (s x : Operand) (ho : o.op = .call { callee := .builtin .append, args := #[s, x], argTypes := #[t, t] })
    (ht : Tryz.prog.underlying t = some (.slice e)) (hi : Tryz.prog.info? e = some i) (hz : i.zero = some z) (hsize : i.size = size) (hby : i.bytes = bytes) (hzs : z.cells.size = size) (hsz : 0 < size)
    {c : Col} {m n : Nat} {v : Value} {xs : List Value} (hs : a.eval s = v) (hrow : Row c m e size v n xs w) (hok : ColOk c w)
    (ad : Addr) (k cap : Nat) (news : List Value) (hx : a.eval x = .slice (some ad) k cap) (hl : news.length = k * size) (hnews : ∀ j u, news[j]? = some u → w.cell? (ad.add j) = some u) (h1 : ∀ u ∈ news, u.oneCell' = true) (h63 : n + k ≤ 4096) (hbytes : bytes ≤ 4096)
    (h : ∀ v' w' c', Row c' m e size v' (n + k) (xs ++ news) w' → Chg c m w w' → Ext w.heap.size c c' → ColOk c' w' → (∀ g, g < w.heap.size → v.ownBlock ≠ some g → w'.heap[g]? = w.heap[g]?) → K (a.put o.dst v') w') :
    if Region.wanted o (yielded ops a.tmps) = true then Oper.wp Tryz.prog o a w K Q else E := by
  have hw : Region.wanted o (yielded ops a.tmps) = true := by simp [Region.wanted, hgd]
  rw [if_pos hw]
  obtain ⟨v', w', c', hrun, h2, h3, h4, h5, h6⟩ := run_append_row (ty := o.type) ht hi hz hsize hby hzs hsz hrow hok ad k cap news hl hnews h1 h63 hbytes
  unfold Oper.wp execOp
  simp only [ho, resolve, invoke, builtin, Sem.run_bind, Sem.run_pure, Result.andThen_ok, List.map_toArray, List.map_cons, List.map_nil, hs, hx, hrun]
  exact h v' w' c' h2 h3 h4 h5 h6
end
theorem Row.ne {c : Col} {m n g : Nat} {e t : TypeId} {size : Nat} {v : Value} {xs : List Value} {w : World} {cs : Array Value} (h : Row c m e size v n xs w) (hb : Blk w g t cs) (ht : t ≠ e) : v.ownBlock ≠ some g := by
  rcases h.own.2 with ⟨rfl, _⟩ | ⟨k, cap, cur, rfl, _, hg, _⟩
  · intro h; cases h
  · intro h
    have ek : k = g := by simpa [Value.ownBlock] using h
    subst ek
    unfold Blk at hb
    rw [hb] at hg
    cases hg
    exact ht rfl
theorem Row.far {c : Col} {m n : Nat} {e : TypeId} {size : Nat} {v : Value} {xs : List Value} {w : World} (h : Row c m e size v n xs w) {p : Addr} (hp : ∀ k, v.ownBlock = some k → k ≠ p.block) (u : Value) : Row c m e size v n xs (w.setCell p u) := by
  obtain ⟨hl, hr⟩ := h.own
  rcases hr with ⟨rfl, rfl⟩ | ⟨g, cap, cur, rfl, hb, hg, rest⟩
  · exact ⟨⟨hl, Or.inl ⟨rfl, rfl⟩⟩, h.col⟩
  · exact ⟨⟨hl, Or.inr ⟨g, cap, cur, rfl, hb, (Below.heap_setCell w p u g (hp g rfl)).trans hg, rest⟩⟩, h.col⟩
theorem Row.slice {c : Col} {m n : Nat} {e : TypeId} {size : Nat} {v : Value} {xs : List Value} {w : World} (h : Row c m e size v n xs w) : ∃ A cap, v = .slice A n cap := by
  rcases h.own.2 with ⟨rfl, h0⟩ | ⟨k, cap, cur, rfl, _⟩
  · exact ⟨none, 0, by rw [h0]⟩
  · exact ⟨_, cap, rfl⟩
/-- A load of a whole struct (or array) out of its block. -/
theorem load_struct {ρ : Operand → Value} {d : Option Tmp} {x : Operand} {ty ty' : TypeId} {pos : String} {af : Array Edge} {gd : Option (Nat × Bool)} {g : Nat} {t : TypeId} {cs : Array Value} {w : World} {dd : TypeDesc}
    (hu : Tryz.prog.underlying ty = some dd) (hr : dd.isRow = true) (hi : (Tryz.prog.info? ty).map (·.size) = some cs.size) (hx : ρ x = .pointer (some ⟨g, 0, none⟩)) (hb : Blk w g t cs) :
    (execOp ρ { dst := d, op := .load ty x, type := ty', pos := pos, after := af, guard := gd }).run Tryz.prog w = .ok (.value (.agg cs)) w := by
  unfold execOp
  simp only [hx, Instr.loadAt, Instr.sureAddr, Sem.run_bind, Sem.run_pure, Result.andThen_ok]
  rw [run_loadVar_mid w g 0 ty cs.toList dd (fun j v hv => by rw [Nat.zero_add, hb.cell]; simpa using hv) hu hr (by rw [hi]; simp)]
  rfl
end Go.Proofs.YtlpbbihjnmikkaaGreatDoor

namespace Go.Proofs.YtlpbbihjnmikkaaGreatDoor
open Go.RowKit
set_option linter.unusedSimpArgs false
set_option maxRecDepth 100000
theorem eq_nil24 (w : World) (a : Option Addr) (n c n' c' : Nat) : (binOp .eql 24 (.slice a n c) (.slice none n' c')).run Tryz.prog w = .ok (.bool a.isNone) w := Lib.run_eql_slice_nil w _ _ a n c n' c' Tryz.underlying24
attribute [local go_sem] eq_nil24
theorem clone_nil (w : World) : Calls Tryz.prog 8 #[Value.slice none 0 0] w fun e w' => e = .returned (.slice none 0 0) ∧ w' = w := by
  go_enter Tryz.func8, Tryz.ntmps8
  go_wp2
  go_ret
  exact ⟨rfl, rfl⟩
theorem number_nil (w : World) : Calls Tryz.prog 204 #[Value.slice none 0 0] w fun e w' => e = .returned (.tuple #[.int .i64 0, .slice none 0 0, .int .i64 3]) ∧ w' = w := by
  go_enter Tryz.func204, Tryz.ntmps204
  go_wp2
  go_ret3
  exact ⟨rfl, rfl⟩
theorem takeText_nil (n : Int) (w : World) : Calls Tryz.prog 137 #[Value.slice none 0 0, .int .i64 n] w fun e w' => e = .returned (.tuple #[Value.slice none 0 0, .slice none 0 0, .int .i64 3]) ∧ w' = w := by
  go_enter Tryz.func137, Tryz.ntmps137
  go_wp2_with fail
  refine (number_nil _).mono ?_
  rintro e w' ⟨rfl, rfl⟩
  go_wp2
  go_ret3
  exact ⟨rfl, rfl⟩
/-- The reader's text: the bytes are none: it throws. -/
theorem text_nil (g : Nat) (w : World) (h : w.cell? ⟨g, 0, none⟩ = some (.slice none 0 0)) : Calls Tryz.prog 200 #[.pointer (some ⟨g, 0, none⟩)] w fun e w' => e = .panicked [{ v := .iface 312 (.agg #[]), recovered := false }] ∧ w' = w := by
  go_enter Tryz.func200, Tryz.ntmps200
  go_wp2_with fail
  refine (takeText_nil 4096 _).mono ?_
  rintro e w' ⟨rfl, rfl⟩
  go_wp2
  exact ⟨rfl, rfl, rfl⟩
theorem assert312 (v : Value) (w : World) : (Instr.typeAssert (.iface 312 v) 20 312 true).run Tryz.prog w = .ok (.tuple #[v, .bool true]) w := by
  simp [Instr.typeAssert, run_underlying Tryz.underlying312, go_sem]
end Go.Proofs.YtlpbbihjnmikkaaGreatDoor

namespace Go.Proofs.YtlpbbihjnmikkaaGreatDoor
open Go.RowKit
set_option linter.unusedSimpArgs false
set_option maxRecDepth 100000

/-- v is a slice that reads as the bytes l: nil, or cells of nobody's. -/
def SlB (c : Col) (w : World) (v : Value) (l : List B8) : Prop :=
  (v = .slice none 0 0 ∧ l = []) ∨ ∃ b o cap, v = .slice (some ⟨b, o, none⟩) l.length cap ∧ l.length ≤ cap ∧ c b = 0 ∧ (∃ cs t fr, w.heap[b]? = some (.cells cs t fr) ∧ t ≠ 424) ∧ ∀ j (h : j < l.length), w.cell? ⟨b, o + j, none⟩ = some (.int .u8 (l[j]'h).toNat)
theorem heap_lt {w : World} {b : Nat} {o : Obj} (h : w.heap[b]? = some o) : b < w.heap.size := by
  rcases Nat.lt_or_ge b w.heap.size with h' | h'
  · exact h'
  · rw [Array.getElem?_eq_none h'] at h; cases h
/-- All blocks but those of a set are as they were. -/
theorem SlB.same {c : Col} {w w' : World} {v : Value} {l : List B8} (h : SlB c w v l) (k : ∀ b, b < w.heap.size → c b = 0 → w'.heap[b]? = w.heap[b]?) : SlB c w' v l := by
  rcases h with h | ⟨b, o, cap, hv, hc, h0, ⟨cs, t, fr, hb, ht⟩, hr⟩
  · exact Or.inl h
  · have e := k b (heap_lt hb) h0
    exact Or.inr ⟨b, o, cap, hv, hc, h0, ⟨cs, t, fr, e.trans hb, ht⟩, fun j hj => (cell_same e).trans (hr j hj)⟩
theorem SlB.below {c : Col} {w w' : World} {v : Value} {l : List B8} (h : SlB c w v l) (k : Below w.heap.size w w') : SlB c w' v l := h.same fun _ hb _ => k.block _ hb
theorem SlB.ext {c c' : Col} {w : World} {v : Value} {l : List B8} (h : SlB c w v l) (e : Ext w.heap.size c c') : SlB c' w v l := by
  rcases h with h | ⟨b, o, cap, hv, hc, h0, ⟨cs, t, fr, hb, ht⟩, hr⟩
  · exact Or.inl h
  · exact Or.inr ⟨b, o, cap, hv, hc, by rw [e b (heap_lt hb)]; exact h0, ⟨cs, t, fr, hb, ht⟩, hr⟩
theorem SlB.chg {c c' : Col} {n : Nat} {w w' : World} {v : Value} {l : List B8} (h : SlB c w v l) (k : Chg c n w w') (e : Ext w.heap.size c c') (hn : n ≠ 0) : SlB c' w' v l := by
  refine SlB.same (h.ext e) fun b hb h0 => k.block b hb ?_
  rw [← e b hb, h0]; exact fun e => hn e.symm
theorem SlB.one {c : Col} {w : World} {v : Value} {l : List B8} (h : SlB c w v l) : v.oneCell' = true := by
  rcases h with ⟨rfl, _⟩ | ⟨b, o, cap, rfl, _⟩ <;> rfl
theorem info5 : ∃ i, Tryz.prog.info? 5 = some i ∧ i.zero = some (.int .u8 0) ∧ i.size = 1 ∧ i.bytes = 1 := by
  obtain ⟨i, hi, hz⟩ := Option.map_eq_some_iff.1 (show (Tryz.prog.info? 5).map (fun i => (i.zero, i.size, i.bytes)) = some (some (.int .u8 0), 1, 1) by kernel_rfl)
  simp only [Prod.mk.injEq] at hz
  exact ⟨i, hi, hz.1, hz.2.1, hz.2.2⟩
theorem add_any (b o j : Nat) : (⟨b, o, none⟩ : Addr).add j = ⟨b, o + j, none⟩ := by unfold Addr.add; by_cases h : j = 0 <;> simp [h]
/-- An append of bytes onto an empty row, the last block made. -/
theorem run_append_fresh {c : Col} {w : World} {g : Nat} (hg : Blk w g 5 #[]) (hge : ∀ k, g ≤ k → c k = 0) (b o cap : Nat) (l : List B8) (hr : ∀ j (h : j < l.length), w.cell? ⟨b, o + j, none⟩ = some (.int .u8 (l[j]'h).toNat)) (hl : l.length ≤ 4096) (ty : TypeId) :
    ∃ v' w', (Builtin.append_ #[24, 24] ty #[.slice (some ⟨g, 0, none⟩) 0 0, .slice (some ⟨b, o, none⟩) l.length cap]).run Tryz.prog w = .ok v' w' ∧ SlB c w' v' l ∧ Below g w w' ∧ v'.oneCell' = true := by
  obtain ⟨i, hi, hz, hsz, hby⟩ := info5
  have hown : w.ownsRow g 5 1 (.slice (some ⟨g, 0, none⟩) 0 0) 0 [] := ⟨rfl, Or.inr ⟨g, 0, #[], rfl, Nat.le_refl _, hg, Nat.le_refl _, by decide, rfl, rfl⟩⟩
  obtain ⟨v', w', hrun, h2, h3, h4, h5⟩ := run_append_own_at (P := Tryz.prog) w g 24 ty 5 i _ 1 1 Tryz.underlying24 hi hz hsz hby rfl (by decide) _ 0 [] hown ⟨b, o, none⟩ l.length cap (l.map fun x => Value.int .u8 x.toNat) (by simp)
    (fun j u hj => by
      have hlt : j < l.length := by
        rcases Nat.lt_or_ge j l.length with h | h
        · exact h
        · rw [List.getElem?_eq_none (by simpa using h)] at hj; cases hj
      rw [add_any, hr j hlt]
      simpa [hlt] using hj)
    (fun u hu => by obtain ⟨x, _, rfl⟩ := List.mem_map.1 hu; rfl) (by simp only [maxLen]; omega) (by omega) (Nat.le_of_lt hg.lt)
  rw [Nat.zero_add, List.nil_append] at h2
  have hbel : Below g w w' := ⟨h3.os, h3.tape, h3.output, h3.size, fun k hk => h3.block k (Nat.lt_trans hk hg.lt) (fun e => absurd (by simpa [Value.ownBlock] using e : k = g) (by omega))⟩
  refine ⟨v', w', hrun, ?_, hbel, ?_⟩
  · rcases h2.2 with ⟨rfl, _⟩ | ⟨k, cap', cur, rfl, hk, hh, hc', _, hs, ht⟩
    · exact absurd (h4.1 rfl).1 (by simp)
    · refine Or.inr ⟨k, 0, cap', rfl, hc', hge k hk, ⟨_, _, _, hh, by decide⟩, fun j hj => ?_⟩
      · rw [Nat.zero_add, cell_of_row w' k j cur 5 (0, 0) hh]
        have h7 : (cur.toList.take (l.length * 1))[j]? = some (.int .u8 (l[j]'hj).toNat) := by rw [ht]; simp [hj]
        rw [List.getElem?_take_of_lt (by omega)] at h7
        simpa using h7
  · rcases h2.2 with ⟨rfl, _⟩ | ⟨k, cap', cur, rfl, _⟩ <;> rfl
theorem wpList_append_fresh {ops : Array Oper} {rest : List Oper} {op : Oper} {a : Act} {w : World} {Q : Exit → Act → World → Prop} (hgd : op.guard = none) (s x : Operand) (ho : op.op = .call { callee := .builtin .append, args := #[s, x], argTypes := #[24, 24] })
    {c : Col} {g : Nat} (hg : Blk w g 5 #[]) (hge : ∀ k, g ≤ k → c k = 0) (hs : a.eval s = .slice (some ⟨g, 0, none⟩) 0 0) (b o cap : Nat) (l : List B8) (hx : a.eval x = .slice (some ⟨b, o, none⟩) l.length cap) (hr : ∀ j (h : j < l.length), w.cell? ⟨b, o + j, none⟩ = some (.int .u8 (l[j]'h).toNat)) (hl : l.length ≤ 4096)
    (h : ∀ v' w', SlB c w' v' l → Below g w w' → wpList Tryz.prog ops Q rest (a.put op.dst v') w') : wpList Tryz.prog ops Q (op :: rest) a w := by
  refine wpList_plain hgd fun K hK => ?_
  obtain ⟨v', w', hrun, h2, h3, _⟩ := run_append_fresh hg hge b o cap l hr hl op.type
  unfold Oper.wp execOp
  simp only [ho, resolve, invoke, builtin, Sem.run_bind, Sem.run_pure, Result.andThen_ok, List.map_toArray, List.map_cons, List.map_nil, hs, hx, hrun]
  exact hK _ _ (h v' w' h2 h3)
/-- What a Clone answers. -/
def ClonedB (c : Col) (l : List B8) (w : World) (e : Ending) (w' : World) : Prop := ∃ v', e = .returned v' ∧ SlB c w' v' l ∧ Below w.heap.size w w'
attribute [local go_sem] eq_nil24
theorem clone8_any (c : Col) (v : Value) (l : List B8) (w : World) (hv : SlB c w v l) (hok : ColOk c w) (hl : l.length ≤ 4096) : Calls Tryz.prog 8 #[v] w (ClonedB c l w) := by
  rcases hv with ⟨rfl, rfl⟩ | ⟨b, o, cap, rfl, hc, h0, ⟨cs, t, fr, hb, ht⟩, hr⟩
  · refine (clone_nil w).mono fun e w' ⟨he, hw⟩ => ?_
    subst he; subst hw
    exact ⟨_, rfl, Or.inl ⟨rfl, rfl⟩, Below.refl _ _⟩
  · have hg : Blk (w.alloc (.cells #[] 5)) w.heap.size 5 #[] := Blk.new w 5 _
    have hr' : ∀ j (h : j < l.length), (w.alloc (.cells #[] 5)).cell? ⟨b, o + j, none⟩ = some (.int .u8 (l[j]'h).toNat) := fun j hj => (cell_same (Below.heap_alloc w _ b (heap_lt hb))).trans (hr j hj)
    have hge : ∀ k, w.heap.size ≤ k → c k = 0 := hok
    go_enter Tryz.func8, Tryz.ntmps8
    go_wp2_with (with_reducible refine wpList_append_fresh rfl (.tmp 5) (.tmp 6) rfl hg hge rfl b o cap l rfl hr' hl ?_; intro v' w2 hs2 hb2)
    go_ret
    exact ⟨_, rfl, hs2, ((Below.refl w.heap.size w).alloc (Nat.le_refl _) _).trans hb2⟩
end Go.Proofs.YtlpbbihjnmikkaaGreatDoor
