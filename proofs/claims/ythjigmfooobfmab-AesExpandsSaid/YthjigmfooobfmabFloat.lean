/-
  A REGION THAT DRAWS ITS ORDER, whose operations are steady but for ONE that makes a block and waits for none: it may come up at any time. It speaks of no program.
-/
import Derived.Test.YthjigmfooobfmabSteady2
namespace Go.Proofs.Ythjigmfooobfmab

section
variable {P : Program} {ops : Array Oper} {Q : Exit → Act → World → Prop} {md : Region.Mode} {S : Option Nat → World → Prop} {z : Nat} {oz : Oper}

abbrev ptrTo (g : Nat) : Value := .pointer (some ⟨g, 0, none⟩)
/-- S none: ahead of the block; S (some g): the block g is there. -/
def ChainF (P : Program) (md : Region.Mode) (ops : Array Oper) (Q : Exit → Act → World → Prop) (S : Option Nat → World → Prop) (z : Nat) (oz : Oper) : List Nat → Nat → Array Bool → Act → Prop
  | [], fuel, listed, a => ∀ g w, S (some g) w → wpAny P md ops Q fuel (listed.setIfInBounds z true) (a.put oz.dst (ptrTo g)) w
  | _ :: _, 0, _, _ => False
  | i :: rest, fuel + 1, listed, a => ∃ oi v, ops[i]? = some oi ∧ (∀ cs b, oi.op ≠ .select cs b) ∧ i ∈ Region.ready md ops listed ∧ Free md ops listed i oi ∧ (∀ og, Steady P ops (S og) oi v a) ∧
      ChainF P md ops Q S z oz rest fuel (listed.setIfInBounds i true) (a.put oi.dst v)

theorem getD_set_other {i k : Nat} {listed : Array Bool} (h : listed.getD k true = false) (hne : i ≠ k) : (listed.setIfInBounds i true).getD k true = false := by rwa [getD_set_ne true hne]
/-- The block has come up: the chain goes on by the same values. -/
theorem chainF_made (hz : ops[z]? = some oz) (hza : ∀ e ∈ oz.after, Region.binds md e = false) (g : Nat) : ∀ (l : List Nat) (fuel : Nat) (listed : Array Bool) (a : Act), z ∉ l → listed.getD z true = false → ChainF P md ops Q S z oz l fuel listed a →
    Chain P md ops Q (S (some g)) l fuel (listed.setIfInBounds z true) (a.put oz.dst (ptrTo g))
  | [], _, _, _, _, _, hc => fun w hw => hc g w hw
  | _ :: _, 0, _, _, _, _, hc => hc.elim
  | i :: rest, fuel + 1, listed, a, hnz, huz, hc => by
    obtain ⟨oi, v, hoi, hsi, hri, hfree, hst, hrest⟩ := hc
    have hiz : i ≠ z := fun e => hnz (e ▸ List.mem_cons_self)
    have hui := (mem_ready.1 hri).1
    have hap := hfree z oz hz (fun e => hiz e.symm) huz fun e he hb => by rw [hza e he] at hb; cases hb
    obtain ⟨h1, h2, h3⟩ := Oper.apart_spec hap
    have ih := chainF_made hz hza g rest fuel _ _ (fun h => hnz (List.mem_cons_of_mem _ h)) (getD_set_other huz hiz) hrest
    refine ⟨oi, v, hoi, hsi, ready_mono hri hiz, fun k ok hk hki hun hno => hfree k ok hk hki (unlisted_of huz hun).2 hno, (hst (some g)).of_same (execOp_put oi hsi a oz.dst (ptrTo g) h3) (wanted_put oi a oz.dst (ptrTo g) h3), ?_⟩
    rw [Array.setIfInBounds_comm _ _ (fun e => hiz e.symm), ← Act.put_comm a v (ptrTo g) h2]
    exact ih

theorem chainF_swap (hzs : z < ops.size) : ∀ (l : List Nat) (fuel : Nat) (listed : Array Bool) (a : Act) (j : Nat), j ≠ z → l ≠ [] → ChainF P md ops Q S z oz l fuel listed a → Tail md ops (z :: l) listed → listed.getD z true = false → z ∉ l → j ∈ Region.ready md ops listed →
    ∃ oj v f', ops[j]? = some oj ∧ (∀ cs b, oj.op ≠ .select cs b) ∧ fuel = f' + 1 ∧ j ∈ l ∧ (∀ og, Steady P ops (S og) oj v a) ∧ ChainF P md ops Q S z oz (l.erase j) f' (listed.setIfInBounds j true) (a.put oj.dst v)
  | [], _, _, _, _, _, hne, _, _, _, _, _ => absurd rfl hne
  | _ :: _, 0, _, _, _, _, _, hc, _, _, _, _ => hc.elim
  | i :: rest, fuel + 1, listed, a, j, hjz, _, hc, ht, huz, hnz, hj => by
    obtain ⟨oi, v, hoi, hsi, hri, hfree, hst, hrest⟩ := hc
    have hui := (mem_ready.1 hri).1
    have hiz : i ≠ z := fun e => hnz (e ▸ List.mem_cons_self)
    by_cases hji : j = i
    · subst hji
      exact ⟨oi, v, fuel, hoi, hsi, rfl, List.mem_cons_self, hst, by simpa using hrest⟩
    · have hm := Tail.mem huz ht hj
      have hmr : j ∈ rest := by simpa [hjz, hji] using hm
      have hj' := ready_mono (i := i) hj hji
      have ht' : Tail md ops (z :: rest) (listed.setIfInBounds i true) := by
        have := Tail.erase (j := i) hui ht
        rw [List.erase_cons_tail (by simpa using fun h => hiz h.symm), List.erase_cons_head] at this
        exact this
      obtain ⟨oj, u, f', hoj, hsj, rfl, _, hstj, hcj⟩ := chainF_swap hzs rest fuel _ _ j hjz (List.ne_nil_of_mem hmr) hrest ht' (getD_set_other huz hiz) (fun h => hnz (List.mem_cons_of_mem _ h)) hj'
      obtain ⟨huj, oj', hoj', hall⟩ := mem_ready.1 hj
      obtain rfl : oj' = oj := by rw [hoj] at hoj'; exact (Option.some.inj hoj').symm
      have hap := hfree j oj' hoj hji huj fun e he hb heq => by
        have h1 := hall e he hb
        rw [heq, not_listed hui] at h1
        cases h1
      obtain ⟨h1, h2, h3⟩ := Oper.apart_spec hap
      refine ⟨oj', u, f' + 1, hoj, hsj, rfl, List.mem_cons_of_mem _ hmr, fun og => (hstj og).of_same (execOp_put oj' hsj a oi.dst v h1).symm (wanted_put oj' a oi.dst v h1).symm, ?_⟩
      rw [List.erase_cons_tail (by simpa using fun h => hji h.symm)]
      refine ⟨oi, v, hoi, hsi, ready_mono hri (fun h => hji h.symm), fun k ok hk hki hun hno => hfree k ok hk hki (unlisted_of huj hun).2 hno,
        fun og => (hst og).of_same (execOp_put oi hsi a oj'.dst u h3) (wanted_put oi a oj'.dst u h3), ?_⟩
      rw [Array.setIfInBounds_comm _ _ hji, ← Act.put_comm a v u h2]
      exact hcj

/-- Whatever the world that meets 'S none', the operation makes a block g and leaves a world that meets 'S (some g)'. -/
def Makes (P : Program) (S : Option Nat → World → Prop) (oz : Oper) : Prop :=
  ∀ (ρ : Operand → Value) w, S none w → ∃ g w', (execOp ρ oz).run P w = .ok (.value (ptrTo g)) w' ∧ S (some g) w'
theorem chainF_sound (hz : ops[z]? = some oz) (hza : ∀ e ∈ oz.after, Region.binds md e = false) (hgd : oz.guard = none) (hmk : Makes P S oz) : ∀ (n : Nat) (l : List Nat) (fuel : Nat) (listed : Array Bool) (a : Act), l.length = n → ChainF P md ops Q S z oz l fuel listed a →
    Tail md ops (z :: l) listed → listed.getD z true = false → z ∉ l → ∀ w, S none w → wpAny P md ops Q (fuel + 1) listed a w := by
  have hzs : z < ops.size := (Array.getElem?_eq_some_iff.1 hz).1
  intro n
  induction n with
  | zero =>
    intro l fuel listed a hl hc ht huz hnz w hw
    obtain rfl := List.length_eq_zero_iff.1 hl
    have hzr : z ∈ Region.ready md ops listed := mem_ready.2 ⟨huz, oz, hz, fun e he hb => by rw [hza e he] at hb; cases hb⟩
    refine ⟨fun h => absurd (h ▸ hzr) List.not_mem_nil, fun j hj => ?_⟩
    have hm := Tail.mem huz ht hj
    obtain rfl : j = z := by simpa using hm
    unfold Go.wpOp
    have hwt : Region.wanted oz (yielded ops a.tmps) = true := by simp [Region.wanted, hgd]
    simp only [hz, hwt, if_true]
    refine .inl ?_
    obtain ⟨g, w', hr, hS⟩ := hmk a.eval w hw
    unfold Oper.wp
    rw [hr]
    exact hc g w' hS
  | succ n ih =>
    intro l fuel listed a hl hc ht huz hnz w hw
    have hne : l ≠ [] := fun e => by rw [e] at hl; cases hl
    have hzr : z ∈ Region.ready md ops listed := mem_ready.2 ⟨huz, oz, hz, fun e he hb => by rw [hza e he] at hb; cases hb⟩
    refine ⟨fun h => absurd (h ▸ hzr) List.not_mem_nil, fun j hj => ?_⟩
    by_cases hjz : j = z
    · subst hjz
      unfold Go.wpOp
      have hwt : Region.wanted oz (yielded ops a.tmps) = true := by simp [Region.wanted, hgd]
      simp only [hz, hwt, if_true]
      refine .inl ?_
      obtain ⟨g, w', hr, hS⟩ := hmk a.eval w hw
      unfold Oper.wp
      rw [hr]
      refine chain_sound l.length l fuel _ _ rfl (chainF_made hz hza g l fuel listed a hnz huz hc) (Tail.next huz ht) w' hS
    · obtain ⟨oj, v, f', hoj, _, rfl, hjl, hst, hcj⟩ := chainF_swap hzs l fuel listed a j hjz hne hc ht huz hnz hj
      refine (hst none).wpOp hoj hw fun w' hw' => ?_
      refine ih (l.erase j) f' _ _ (by rw [List.length_erase_of_mem hjl, hl]; rfl) hcj ?_ (getD_set_other huz hjz) (fun h => hnz (List.mem_of_mem_erase h)) w' hw'
      have := Tail.erase (mem_ready.1 hj).1 ht
      rwa [List.erase_cons_tail (by simpa using fun h => hjz h.symm)] at this

theorem ChainF.step {i : Nat} {oi : Oper} {v : Value} {rest : List Nat} {fuel : Nat} {listed : Array Bool} {a : Act} (hi : ops[i]? = some oi) (hs : Region.noSelect ops = true)
    (hf : Region.free md ops listed i = true) (hr : (Region.ready md ops listed).contains i = true) (hy : ∀ og, Steady P ops (S og) oi v a)
    (h : ChainF P md ops Q S z oz rest fuel (listed.setIfInBounds i true) (a.put oi.dst v)) : ChainF P md ops Q S z oz (i :: rest) (fuel + 1) listed a :=
  ⟨oi, v, hi, fun cs b => Region.noSelect_spec hs i oi cs b hi, by simpa using hr, Region.free_spec hi hf, hy, h⟩
theorem ChainF.done {fuel : Nat} {listed : Array Bool} {a : Act} (h : ∀ g w, S (some g) w → wpAny P md ops Q fuel (listed.setIfInBounds z true) (a.put oz.dst (ptrTo g)) w) : ChainF P md ops Q S z oz [] fuel listed a := h
/-- The beginning. z: the number of the operation that makes the block; l: those of the steady ones, in the text's order. -/
theorem wpAny_float {a : Act} {w : World} {fuel : Nat} {listed : Array Bool} (S : Option Nat → World → Prop) (l : List Nat) (z : Nat) (hz : ops[z]? = some oz) (hza : oz.after.all (fun e => !Region.binds md e) = true) (hgd : oz.guard = none) (hmk : Makes P S oz)
    (ht : tailAt md ops (z :: l) listed = true) (huz : listed.getD z true = false) (hnz : z ∉ l) (hS : S none w) (h : ChainF P md ops Q S z oz l fuel listed a) : wpAny P md ops Q (fuel + 1) listed a w :=
  chainF_sound hz (fun e he => by have := Array.all_eq_true'.1 hza e he; simpa using this) hgd hmk l.length l fuel listed a rfl h (tailAt_spec ht) huz hnz w hS
end
end Go.Proofs.Ythjigmfooobfmab
