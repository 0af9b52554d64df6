/-
  A REGION THAT DRAWS ITS ORDER, ALL OF WHOSE OPERATIONS GIVE THE SAME WHATEVER THE ORDER: each gives its value in every world that meets S, and leaves a world that meets S (a load of what S fixes, a call that makes memory). One walk in the order of the text; what waits for all of them (a store at the end) is walked behind it. It speaks of no program.
-/
import Derived.Orders
import Derived.RegionTactic
namespace Go.Proofs.Ythjigmfooobfmab

section
variable {P : Program} {ops : Array Oper} {Q : Exit → Act → World → Prop} {md : Region.Mode} {S : World → Prop}

/-- What is run gives v in every world that meets S, and leaves one that does. -/
def Gives (P : Program) (S : World → Prop) (m : Sem Next) (v : Value) : Prop :=
  ∀ w, S w → match m.run P w with
    | .ok (.value u) w' => u = v ∧ S w'
    | .ok .skip w' => v = undef ∧ S w'
    | .ok (.enter f args) w' => Calls P f args w' fun e w'' => e = .returned v ∧ S w''
    | _ => False
def Steady (P : Program) (ops : Array Oper) (S : World → Prop) (o : Oper) (v : Value) (a : Act) : Prop :=
  (Region.wanted o (yielded ops a.tmps) = true ∧ Gives P S (execOp a.eval o) v) ∨ (Region.wanted o (yielded ops a.tmps) = false ∧ v = undef)

theorem Steady.of_same {o : Oper} {v : Value} {a a' : Act} (hy : Steady P ops S o v a) (he : execOp a'.eval o = execOp a.eval o)
    (hw : Region.wanted o (yielded ops a'.tmps) = Region.wanted o (yielded ops a.tmps)) : Steady P ops S o v a' := by
  unfold Steady at *
  rw [he, hw]
  exact hy
theorem Steady.wpOp {j : Nat} {o : Oper} {v : Value} {a : Act} (hj : ops[j]? = some o) (hy : Steady P ops S o v a) {K : Act → World → Prop} {w : World} (hS : S w)
    (h : ∀ w', S w' → K (a.put o.dst v) w') : Go.wpOp P ops Q j K a w := by
  unfold Go.wpOp
  simp only [hj]
  rcases hy with ⟨hw, hg⟩ | ⟨hw, rfl⟩
  · simp only [hw, if_true]
    refine .inl ?_
    unfold Oper.wp
    have h1 := hg w hS
    generalize (execOp a.eval o).run P w = r at *
    cases r with
    | ok n w' =>
      cases n <;> simp only [Oper.upon] at h1 ⊢
      case value u => obtain ⟨rfl, hs⟩ := h1; exact h _ hs
      case skip => obtain ⟨rfl, hs⟩ := h1; exact h _ hs
      case enter f args =>
        refine Calls.mono h1 fun e w'' he => ?_
        obtain ⟨rfl, hs⟩ := he
        exact h _ hs
    | halt x w' => exact h1.elim
  · simp only [hw, Bool.false_eq_true, if_false]
    exact h w hS

def Waits (md : Region.Mode) (o : Oper) (i : Nat) : Prop := ∃ e ∈ o.after, Region.binds md e = true ∧ e.on = i
/-- Whatever is not listed and not in the chain waits for all of the chain. -/
def Tail (md : Region.Mode) (ops : Array Oper) (l : List Nat) (listed : Array Bool) : Prop :=
  ∀ k ok, ops[k]? = some ok → listed.getD k true = false → k ∉ l → ∀ i ∈ l, Waits md ok i
def Free (md : Region.Mode) (ops : Array Oper) (listed : Array Bool) (i : Nat) (oi : Oper) : Prop :=
  ∀ j oj, ops[j]? = some oj → j ≠ i → listed.getD j true = false → (∀ e ∈ oj.after, Region.binds md e = true → e.on ≠ i) → oi.apart ops oj = true

def Chain (P : Program) (md : Region.Mode) (ops : Array Oper) (Q : Exit → Act → World → Prop) (S : World → Prop) : List Nat → Nat → Array Bool → Act → Prop
  | [], fuel, listed, a => ∀ w, S w → wpAny P md ops Q fuel listed a w
  | _ :: _, 0, _, _ => False
  | i :: rest, fuel + 1, listed, a => ∃ oi v, ops[i]? = some oi ∧ (∀ cs b, oi.op ≠ .select cs b) ∧ i ∈ Region.ready md ops listed ∧ Free md ops listed i oi ∧ Steady P ops S oi v a ∧
      Chain P md ops Q S rest fuel (listed.setIfInBounds i true) (a.put oi.dst v)

theorem listed_lt {i : Nat} {listed : Array Bool} (h : listed.getD i true = false) : i < listed.size := by
  rcases Nat.lt_or_ge i listed.size with h' | h'
  · exact h'
  · simp [Array.getElem?_eq_none h'] at h
theorem unlisted_of {i k : Nat} {listed : Array Bool} (hi : listed.getD i true = false) (h : (listed.setIfInBounds i true).getD k true = false) : k ≠ i ∧ listed.getD k true = false := by
  have hlt := listed_lt hi
  by_cases e : i = k
  · subst e
    simp [hlt] at h
  · exact ⟨fun h' => e h'.symm, by rwa [getD_set_ne true e] at h⟩
theorem not_listed {i : Nat} {listed : Array Bool} (h : listed.getD i true = false) : listed.getD i false = false := by
  have hlt := listed_lt h
  simpa [hlt] using h
theorem Tail.next {i : Nat} {rest : List Nat} {listed : Array Bool} (hi : listed.getD i true = false) (h : Tail md ops (i :: rest) listed) : Tail md ops rest (listed.setIfInBounds i true) := by
  intro k ok hk hun hnot j hj
  obtain ⟨hne, hun'⟩ := unlisted_of hi hun
  exact h k ok hk hun' (by simp [hne, hnot]) j (List.mem_cons_of_mem _ hj)
theorem Tail.mem {i j : Nat} {rest : List Nat} {listed : Array Bool} (hi : listed.getD i true = false) (h : Tail md ops (i :: rest) listed) (hj : j ∈ Region.ready md ops listed) : j ∈ i :: rest := by
  obtain ⟨hun, oj, hoj, hall⟩ := mem_ready.1 hj
  by_cases hm : j ∈ i :: rest
  · exact hm
  · obtain ⟨e, he, hb, hon⟩ := h j oj hoj hun hm i List.mem_cons_self
    have h1 := hall e he hb
    rw [hon, not_listed hi] at h1
    cases h1
theorem Tail.erase {i j : Nat} {rest : List Nat} {listed : Array Bool} (hj : listed.getD j true = false) (h : Tail md ops (i :: rest) listed) : Tail md ops ((i :: rest).erase j) (listed.setIfInBounds j true) := by
  intro k ok hk hun hnot m hmm
  obtain ⟨hne, hun'⟩ := unlisted_of hj hun
  refine h k ok hk hun' (fun hk' => hnot ?_) m (List.mem_of_mem_erase hmm)
  exact (List.mem_erase_of_ne hne).2 hk'

theorem chain_swap : ∀ (l : List Nat) (fuel : Nat) (listed : Array Bool) (a : Act) (j : Nat), l ≠ [] → Chain P md ops Q S l fuel listed a → Tail md ops l listed → j ∈ Region.ready md ops listed →
    ∃ oj v f', ops[j]? = some oj ∧ (∀ cs b, oj.op ≠ .select cs b) ∧ fuel = f' + 1 ∧ Steady P ops S oj v a ∧ Chain P md ops Q S (l.erase j) f' (listed.setIfInBounds j true) (a.put oj.dst v)
  | [], _, _, _, _, hne, _, _, _ => absurd rfl hne
  | _ :: _, 0, _, _, _, _, hc, _, _ => hc.elim
  | i :: rest, fuel + 1, listed, a, j, _, hc, ht, hj => by
    obtain ⟨oi, v, hoi, hsi, hri, hfree, hst, hrest⟩ := hc
    have hui := (mem_ready.1 hri).1
    by_cases hji : j = i
    · subst hji
      exact ⟨oi, v, fuel, hoi, hsi, rfl, hst, by simpa using hrest⟩
    · have hm := ht.mem hui hj
      have hmr : j ∈ rest := by simpa [hji] using hm
      have hj' := ready_mono (i := i) hj hji
      obtain ⟨oj, u, f', hoj, hsj, rfl, hstj, hcj⟩ := chain_swap rest fuel _ _ j (List.ne_nil_of_mem hmr) hrest (ht.next hui) hj'
      obtain ⟨huj, oj', hoj', hall⟩ := mem_ready.1 hj
      obtain rfl : oj' = oj := by rw [hoj] at hoj'; exact (Option.some.inj hoj').symm
      have hap := hfree j oj' hoj hji huj fun e he hb heq => by
        have h1 := hall e he hb
        rw [heq, not_listed hui] at h1
        cases h1
      obtain ⟨h1, h2, h3⟩ := Oper.apart_spec hap
      have hstj' : Steady P ops S oj' u a := hstj.of_same (execOp_put oj' hsj a oi.dst v h1).symm (wanted_put oj' a oi.dst v h1).symm
      refine ⟨oj', u, f' + 1, hoj, hsj, rfl, hstj', ?_⟩
      rw [List.erase_cons_tail (by simpa using fun h => hji h.symm)]
      refine ⟨oi, v, hoi, hsi, ready_mono hri (fun h => hji h.symm), fun k ok hk hki hun hno => hfree k ok hk hki (unlisted_of huj hun).2 hno,
        hst.of_same (execOp_put oi hsi a oj'.dst u h3) (wanted_put oi a oj'.dst u h3), ?_⟩
      rw [Array.setIfInBounds_comm _ _ hji, ← Act.put_comm a v u h2]
      exact hcj

theorem chain_sound : ∀ (n : Nat) (l : List Nat) (fuel : Nat) (listed : Array Bool) (a : Act), l.length = n → Chain P md ops Q S l fuel listed a → Tail md ops l listed → ∀ w, S w → wpAny P md ops Q fuel listed a w
  | _, [], _, _, _, _, hc, _, w, hw => hc w hw
  | _, _ :: _, 0, _, _, _, hc, _, _, _ => hc.elim
  | 0, _ :: _, _, _, _, hl, _, _, _, _ => by cases hl
  | n + 1, i :: rest, fuel + 1, listed, a, hl, hc, ht, w, hw => by
    have hri : i ∈ Region.ready md ops listed := by
      obtain ⟨_, _, _, _, h, _⟩ := hc
      exact h
    have hui := (mem_ready.1 hri).1
    refine ⟨fun h => absurd (h ▸ hri) List.not_mem_nil, fun j hj => ?_⟩
    obtain ⟨oj, v, f', hoj, _, hf, hst, hcj⟩ := chain_swap (i :: rest) (fuel + 1) listed a j (by simp) hc ht hj
    obtain rfl : fuel = f' := by omega
    have hm := ht.mem hui hj
    refine hst.wpOp hoj hw fun w' hw' => ?_
    refine chain_sound n _ _ _ _ ?_ hcj (ht.erase (mem_ready.1 hj).1) w' hw'
    rw [List.length_erase_of_mem hm, hl]
    rfl

/-- The tail's condition, as a Bool for the kernel. -/
def tailB (md : Region.Mode) (ops : Array Oper) (l : List Nat) : Bool :=
  (List.range ops.size).all fun k => l.contains k || match ops[k]? with
    | some ok => l.all fun i => ok.after.any fun e => Region.binds md e && e.on == i
    | none => true
theorem tailB_spec {l : List Nat} {listed : Array Bool} (h : tailB md ops l = true) : Tail md ops l listed := by
  intro k ok hk _ hnot i hi
  have h1 := List.all_eq_true.1 h k (List.mem_range.2 (Array.getElem?_eq_some_iff.1 hk).1)
  simp only [hk, Bool.or_eq_true, List.contains_iff_mem, hnot, false_or] at h1
  have h2 := List.all_eq_true.1 h1 i hi
  obtain ⟨e, he, hb⟩ := Array.any_eq_true'.1 h2
  simp only [Bool.and_eq_true, beq_iff_eq] at hb
  exact ⟨e, he, hb.1, hb.2⟩

theorem Chain.step {i : Nat} {oi : Oper} {v : Value} {rest : List Nat} {fuel : Nat} {listed : Array Bool} {a : Act} (hi : ops[i]? = some oi) (hs : Region.noSelect ops = true)
    (hf : Region.free md ops listed i = true) (hr : (Region.ready md ops listed).contains i = true) (hy : Steady P ops S oi v a)
    (h : Chain P md ops Q S rest fuel (listed.setIfInBounds i true) (a.put oi.dst v)) : Chain P md ops Q S (i :: rest) (fuel + 1) listed a :=
  ⟨oi, v, hi, fun cs b => Region.noSelect_spec hs i oi cs b hi, by simpa using hr, Region.free_spec hi hf, hy, h⟩
theorem Chain.done {fuel : Nat} {listed : Array Bool} {a : Act} (h : ∀ w, S w → wpAny P md ops Q fuel listed a w) : Chain P md ops Q S [] fuel listed a := h

/-- THE BEGINNING. l: the numbers of the steady operations, in the text's order. -/
theorem wp_region_steady {id : Nat} {a : Act} {w : World} (S : World → Prop) (l : List Nat) (hm : P.follows .mixedOrders = true) (ht : tailB .any ops l = true) (hS : S w.drew)
    (h : Chain P .any ops Q S l ops.size (Array.replicate ops.size false) a) : (Code.region id ops true).wp P Q a w :=
  wp_region_any hm (chain_sound l.length l _ _ a rfl h (tailB_spec ht) w.drew hS)

/-- The tail's condition, where some have come up already. -/
def tailAt (md : Region.Mode) (ops : Array Oper) (l : List Nat) (listed : Array Bool) : Bool :=
  (List.range ops.size).all fun k => listed.getD k true || l.contains k || match ops[k]? with
    | some ok => l.all fun i => ok.after.any fun e => Region.binds md e && e.on == i
    | none => true
theorem tailAt_spec {l : List Nat} {listed : Array Bool} (h : tailAt md ops l listed = true) : Tail md ops l listed := by
  intro k ok hk hun hnot i hi
  have h1 := List.all_eq_true.1 h k (List.mem_range.2 (Array.getElem?_eq_some_iff.1 hk).1)
  simp only [hk, hun, Bool.or_eq_true, List.contains_iff_mem, hnot, false_or, Bool.false_eq_true] at h1
  have h2 := List.all_eq_true.1 h1 i hi
  obtain ⟨e, he, hb⟩ := Array.any_eq_true'.1 h2
  simp only [Bool.and_eq_true, beq_iff_eq] at hb
  exact ⟨e, he, hb.1, hb.2⟩
/-- The beginning, where some have come up already. -/
theorem wpAny_steady {a : Act} {w : World} {fuel : Nat} {listed : Array Bool} (S : World → Prop) (l : List Nat) (ht : tailAt md ops l listed = true) (hS : S w)
    (h : Chain P md ops Q S l fuel listed a) : wpAny P md ops Q fuel listed a w :=
  chain_sound l.length l _ _ a rfl h (tailAt_spec ht) w hS
/-- A region's beginning: the world behind the draw, folded. -/
theorem wp_region_begin {id : Nat} {a : Act} {w : World} (hm : P.follows .mixedOrders = true) (h : wpAny P .any ops Q ops.size (Array.replicate ops.size false) a w.drew) : (Code.region id ops true).wp P Q a w :=
  wp_region_any hm h

/-- An operation that gives its value in every world that meets S, and leaves it as it is. -/
theorem Gives.val {m : Sem Next} {v : Value} (h : ∀ w, S w → m.run P w = .ok (.value v) w) : Gives P S m v := fun w hw => by
  rw [h w hw]; exact ⟨rfl, hw⟩
theorem Gives.call {m : Sem Next} {v : Value} {f : FuncId} {args : Array Value} (h : ∀ w, S w → m.run P w = .ok (.enter f args) w)
    (hc : ∀ w, S w → Calls P f args w fun e w' => e = .returned v ∧ S w') : Gives P S m v := fun w hw => by
  rw [h w hw]; exact hc w hw
end
end Go.Proofs.Ythjigmfooobfmab
