/-
  Joined: Steady, Steady2, Float
-/
import Derived.Orders
import Derived.RegionTactic
namespace Go.Proofs.YtlpbbihjnmikkaaGreatDoor

section
variable {P : Program} {ops : Array Oper} {Q : Exit → Act → World → Prop} {md : Region.Mode} {S : World → Prop}

/-- What is run gives v in every world that meets S, and leaves one that does. -/
def Gives (P : Program) (S : World → Prop) (m : Sem Next) (v : Value) : Prop :=
  ∀ w, S w → match m.run P w with
    | .ok (.value u) w' => u = v ∧ S w'
    | .ok .skip w' => v = undef ∧ S w'
    | .ok (.enter f args) w' => Calls P f args w' fun e w'' => e = .returned v ∧ S w''
    | _ => False
def Steady (P : Program) (ops : Array Oper) (S : World → Prop) (o : Oper) (v : Value) (a : Act) : Prop :=
  (Region.wanted o (yielded ops a.tmps) = true ∧ Gives P S (execOp a.eval o) v) ∨ (Region.wanted o (yielded ops a.tmps) = false ∧ v = undef)

theorem Steady.of_same {o : Oper} {v : Value} {a a' : Act} (hy : Steady P ops S o v a) (he : execOp a'.eval o = execOp a.eval o)
    (hw : Region.wanted o (yielded ops a'.tmps) = Region.wanted o (yielded ops a.tmps)) : Steady P ops S o v a' := by
  unfold Steady at *
  rw [he, hw]
  exact hy
theorem Steady.wpOp {j : Nat} {o : Oper} {v : Value} {a : Act} (hj : ops[j]? = some o) (hy : Steady P ops S o v a) {K : Act → World → Prop} {w : World} (hS : S w)
    (h : ∀ w', S w' → K (a.put o.dst v) w') : Go.wpOp P ops Q j K a w := by
  unfold Go.wpOp
  simp only [hj]
  rcases hy with ⟨hw, hg⟩ | ⟨hw, rfl⟩
  · simp only [hw, if_true]
    refine .inl ?_
    unfold Oper.wp
    have h1 := hg w hS
    generalize (execOp a.eval o).run P w = r at *
    cases r with
    | ok n w' =>
      cases n <;> simp only [Oper.upon] at h1 ⊢
      case value u => obtain ⟨rfl, hs⟩ := h1; exact h _ hs
      case skip => obtain ⟨rfl, hs⟩ := h1; exact h _ hs
      case enter f args =>
        refine Calls.mono h1 fun e w'' he => ?_
        obtain ⟨rfl, hs⟩ := he
        exact h _ hs
    | halt x w' => exact h1.elim
  · simp only [hw, Bool.false_eq_true, if_false]
    exact h w hS

def Waits (md : Region.Mode) (o : Oper) (i : Nat) : Prop := ∃ e ∈ o.after, Region.binds md e = true ∧ e.on = i
/-- Whatever is not listed and not in the chain waits for all of the chain. -/
def Tail (md : Region.Mode) (ops : Array Oper) (l : List Nat) (listed : Array Bool) : Prop :=
  ∀ k ok, ops[k]? = some ok → listed.getD k true = false → k ∉ l → ∀ i ∈ l, Waits md ok i
def Free (md : Region.Mode) (ops : Array Oper) (listed : Array Bool) (i : Nat) (oi : Oper) : Prop :=
  ∀ j oj, ops[j]? = some oj → j ≠ i → listed.getD j true = false → (∀ e ∈ oj.after, Region.binds md e = true → e.on ≠ i) → oi.apart ops oj = true

def Chain (P : Program) (md : Region.Mode) (ops : Array Oper) (Q : Exit → Act → World → Prop) (S : World → Prop) : List Nat → Nat → Array Bool → Act → Prop
  | [], fuel, listed, a => ∀ w, S w → wpAny P md ops Q fuel listed a w
  | _ :: _, 0, _, _ => False
  | i :: rest, fuel + 1, listed, a => ∃ oi v, ops[i]? = some oi ∧ (∀ cs b, oi.op ≠ .select cs b) ∧ i ∈ Region.ready md ops listed ∧ Free md ops listed i oi ∧ Steady P ops S oi v a ∧
      Chain P md ops Q S rest fuel (listed.setIfInBounds i true) (a.put oi.dst v)

theorem listed_lt {i : Nat} {listed : Array Bool} (h : listed.getD i true = false) : i < listed.size := by
  rcases Nat.lt_or_ge i listed.size with h' | h'
  · exact h'
  · simp [Array.getElem?_eq_none h'] at h
theorem unlisted_of {i k : Nat} {listed : Array Bool} (hi : listed.getD i true = false) (h : (listed.setIfInBounds i true).getD k true = false) : k ≠ i ∧ listed.getD k true = false := by
  have hlt := listed_lt hi
  by_cases e : i = k
  · subst e
    simp [hlt] at h
  · exact ⟨fun h' => e h'.symm, by rwa [getD_set_ne true e] at h⟩
theorem not_listed {i : Nat} {listed : Array Bool} (h : listed.getD i true = false) : listed.getD i false = false := by
  have hlt := listed_lt h
  simpa [hlt] using h
theorem Tail.next {i : Nat} {rest : List Nat} {listed : Array Bool} (hi : listed.getD i true = false) (h : Tail md ops (i :: rest) listed) : Tail md ops rest (listed.setIfInBounds i true) := by
  intro k ok hk hun hnot j hj
  obtain ⟨hne, hun'⟩ := unlisted_of hi hun
  exact h k ok hk hun' (by simp [hne, hnot]) j (List.mem_cons_of_mem _ hj)
theorem Tail.mem {i j : Nat} {rest : List Nat} {listed : Array Bool} (hi : listed.getD i true = false) (h : Tail md ops (i :: rest) listed) (hj : j ∈ Region.ready md ops listed) : j ∈ i :: rest := by
  obtain ⟨hun, oj, hoj, hall⟩ := mem_ready.1 hj
  by_cases hm : j ∈ i :: rest
  · exact hm
  · obtain ⟨e, he, hb, hon⟩ := h j oj hoj hun hm i List.mem_cons_self
    have h1 := hall e he hb
    rw [hon, not_listed hi] at h1
    cases h1
theorem Tail.erase {i j : Nat} {rest : List Nat} {listed : Array Bool} (hj : listed.getD j true = false) (h : Tail md ops (i :: rest) listed) : Tail md ops ((i :: rest).erase j) (listed.setIfInBounds j true) := by
  intro k ok hk hun hnot m hmm
  obtain ⟨hne, hun'⟩ := unlisted_of hj hun
  refine h k ok hk hun' (fun hk' => hnot ?_) m (List.mem_of_mem_erase hmm)
  exact (List.mem_erase_of_ne hne).2 hk'

theorem chain_swap : ∀ (l : List Nat) (fuel : Nat) (listed : Array Bool) (a : Act) (j : Nat), l ≠ [] → Chain P md ops Q S l fuel listed a → Tail md ops l listed → j ∈ Region.ready md ops listed →
    ∃ oj v f', ops[j]? = some oj ∧ (∀ cs b, oj.op ≠ .select cs b) ∧ fuel = f' + 1 ∧ Steady P ops S oj v a ∧ Chain P md ops Q S (l.erase j) f' (listed.setIfInBounds j true) (a.put oj.dst v)
  | [], _, _, _, _, hne, _, _, _ => absurd rfl hne
  | _ :: _, 0, _, _, _, _, hc, _, _ => hc.elim
  | i :: rest, fuel + 1, listed, a, j, _, hc, ht, hj => by
    obtain ⟨oi, v, hoi, hsi, hri, hfree, hst, hrest⟩ := hc
    have hui := (mem_ready.1 hri).1
    by_cases hji : j = i
    · subst hji
      exact ⟨oi, v, fuel, hoi, hsi, rfl, hst, by simpa using hrest⟩
    · have hm := ht.mem hui hj
      have hmr : j ∈ rest := by simpa [hji] using hm
      have hj' := ready_mono (i := i) hj hji
      obtain ⟨oj, u, f', hoj, hsj, rfl, hstj, hcj⟩ := chain_swap rest fuel _ _ j (List.ne_nil_of_mem hmr) hrest (ht.next hui) hj'
      obtain ⟨huj, oj', hoj', hall⟩ := mem_ready.1 hj
      obtain rfl : oj' = oj := by rw [hoj] at hoj'; exact (Option.some.inj hoj').symm
      have hap := hfree j oj' hoj hji huj fun e he hb heq => by
        have h1 := hall e he hb
        rw [heq, not_listed hui] at h1
        cases h1
      obtain ⟨h1, h2, h3⟩ := Oper.apart_spec hap
      have hstj' : Steady P ops S oj' u a := hstj.of_same (execOp_put oj' hsj a oi.dst v h1).symm (wanted_put oj' a oi.dst v h1).symm
      refine ⟨oj', u, f' + 1, hoj, hsj, rfl, hstj', ?_⟩
      rw [List.erase_cons_tail (by simpa using fun h => hji h.symm)]
      refine ⟨oi, v, hoi, hsi, ready_mono hri (fun h => hji h.symm), fun k ok hk hki hun hno => hfree k ok hk hki (unlisted_of huj hun).2 hno,
        hst.of_same (execOp_put oi hsi a oj'.dst u h3) (wanted_put oi a oj'.dst u h3), ?_⟩
      rw [Array.setIfInBounds_comm _ _ hji, ← Act.put_comm a v u h2]
      exact hcj

theorem chain_sound : ∀ (n : Nat) (l : List Nat) (fuel : Nat) (listed : Array Bool) (a : Act), l.length = n → Chain P md ops Q S l fuel listed a → Tail md ops l listed → ∀ w, S w → wpAny P md ops Q fuel listed a w
  | _, [], _, _, _, _, hc, _, w, hw => hc w hw
  | _, _ :: _, 0, _, _, _, hc, _, _, _ => hc.elim
  | 0, _ :: _, _, _, _, hl, _, _, _, _ => by cases hl
  | n + 1, i :: rest, fuel + 1, listed, a, hl, hc, ht, w, hw => by
    have hri : i ∈ Region.ready md ops listed := by
      obtain ⟨_, _, _, _, h, _⟩ := hc
      exact h
    have hui := (mem_ready.1 hri).1
    refine ⟨fun h => absurd (h ▸ hri) List.not_mem_nil, fun j hj => ?_⟩
    obtain ⟨oj, v, f', hoj, _, hf, hst, hcj⟩ := chain_swap (i :: rest) (fuel + 1) listed a j (by simp) hc ht hj
    obtain rfl : fuel = f' := by omega
    have hm := ht.mem hui hj
    refine hst.wpOp hoj hw fun w' hw' => ?_
    refine chain_sound n _ _ _ _ ?_ hcj (ht.erase (mem_ready.1 hj).1) w' hw'
    rw [List.length_erase_of_mem hm, hl]
    rfl

/-- The tail's condition, as a Bool for the kernel. -/
def tailB (md : Region.Mode) (ops : Array Oper) (l : List Nat) : Bool :=
  (List.range ops.size).all fun k => l.contains k || match ops[k]? with
    | some ok => l.all fun i => ok.after.any fun e => Region.binds md e && e.on == i
    | none => true
theorem tailB_spec {l : List Nat} {listed : Array Bool} (h : tailB md ops l = true) : Tail md ops l listed := by
  intro k ok hk _ hnot i hi
  have h1 := List.all_eq_true.1 h k (List.mem_range.2 (Array.getElem?_eq_some_iff.1 hk).1)
  simp only [hk, Bool.or_eq_true, List.contains_iff_mem, hnot, false_or] at h1
  have h2 := List.all_eq_true.1 h1 i hi
  obtain ⟨e, he, hb⟩ := Array.any_eq_true'.1 h2
  simp only [Bool.and_eq_true, beq_iff_eq] at hb
  exact ⟨e, he, hb.1, hb.2⟩

theorem Chain.step {i : Nat} {oi : Oper} {v : Value} {rest : List Nat} {fuel : Nat} {listed : Array Bool} {a : Act} (hi : ops[i]? = some oi) (hs : Region.noSelect ops = true)
    (hf : Region.free md ops listed i = true) (hr : (Region.ready md ops listed).contains i = true) (hy : Steady P ops S oi v a)
    (h : Chain P md ops Q S rest fuel (listed.setIfInBounds i true) (a.put oi.dst v)) : Chain P md ops Q S (i :: rest) (fuel + 1) listed a :=
  ⟨oi, v, hi, fun cs b => Region.noSelect_spec hs i oi cs b hi, by simpa using hr, Region.free_spec hi hf, hy, h⟩
theorem Chain.done {fuel : Nat} {listed : Array Bool} {a : Act} (h : ∀ w, S w → wpAny P md ops Q fuel listed a w) : Chain P md ops Q S [] fuel listed a := h

/-- THE BEGINNING. l: the numbers of the steady operations, in the text's order. -/
theorem wp_region_steady {id : Nat} {a : Act} {w : World} (S : World → Prop) (l : List Nat) (hm : P.follows .mixedOrders = true) (ht : tailB .any ops l = true) (hS : S w.drew)
    (h : Chain P .any ops Q S l ops.size (Array.replicate ops.size false) a) : (Code.region id ops true).wp P Q a w :=
  wp_region_any hm (chain_sound l.length l _ _ a rfl h (tailB_spec ht) w.drew hS)

/-- The tail's condition, where some have come up already. -/
def tailAt (md : Region.Mode) (ops : Array Oper) (l : List Nat) (listed : Array Bool) : Bool :=
  (List.range ops.size).all fun k => listed.getD k true || l.contains k || match ops[k]? with
    | some ok => l.all fun i => ok.after.any fun e => Region.binds md e && e.on == i
    | none => true
theorem tailAt_spec {l : List Nat} {listed : Array Bool} (h : tailAt md ops l listed = true) : Tail md ops l listed := by
  intro k ok hk hun hnot i hi
  have h1 := List.all_eq_true.1 h k (List.mem_range.2 (Array.getElem?_eq_some_iff.1 hk).1)
  simp only [hk, hun, Bool.or_eq_true, List.contains_iff_mem, hnot, false_or, Bool.false_eq_true] at h1
  have h2 := List.all_eq_true.1 h1 i hi
  obtain ⟨e, he, hb⟩ := Array.any_eq_true'.1 h2
  simp only [Bool.and_eq_true, beq_iff_eq] at hb
  exact ⟨e, he, hb.1, hb.2⟩
/-- The beginning, where some have come up already. -/
theorem wpAny_steady {a : Act} {w : World} {fuel : Nat} {listed : Array Bool} (S : World → Prop) (l : List Nat) (ht : tailAt md ops l listed = true) (hS : S w)
    (h : Chain P md ops Q S l fuel listed a) : wpAny P md ops Q fuel listed a w :=
  chain_sound l.length l _ _ a rfl h (tailAt_spec ht) w hS
/-- A region's beginning: the world behind the draw, folded. -/
theorem wp_region_begin {id : Nat} {a : Act} {w : World} (hm : P.follows .mixedOrders = true) (h : wpAny P .any ops Q ops.size (Array.replicate ops.size false) a w.drew) : (Code.region id ops true).wp P Q a w :=
  wp_region_any hm h

/-- An operation that gives its value in every world that meets S, and leaves it as it is. -/
theorem Gives.val {m : Sem Next} {v : Value} (h : ∀ w, S w → m.run P w = .ok (.value v) w) : Gives P S m v := fun w hw => by
  rw [h w hw]; exact ⟨rfl, hw⟩
theorem Gives.call {m : Sem Next} {v : Value} {f : FuncId} {args : Array Value} (h : ∀ w, S w → m.run P w = .ok (.enter f args) w)
    (hc : ∀ w, S w → Calls P f args w fun e w' => e = .returned v ∧ S w') : Gives P S m v := fun w hw => by
  rw [h w hw]; exact hc w hw
end
end Go.Proofs.YtlpbbihjnmikkaaGreatDoor

namespace Go.Proofs.YtlpbbihjnmikkaaGreatDoor

section
variable {P : Program} {ops : Array Oper} {Q : Exit → Act → World → Prop} {md : Region.Mode} {S : World → Prop}

structure Steps (md : Region.Mode) (ops : Array Oper) (T : List Nat → Array Bool → Prop) : Prop where
  mem : ∀ i rest listed j, T (i :: rest) listed → j ∈ Region.ready md ops listed → j ∈ i :: rest
  step : ∀ l listed j, T l listed → j ∈ Region.ready md ops listed → j ∈ l → T (l.erase j) (listed.setIfInBounds j true)

theorem chain_swapT {T : List Nat → Array Bool → Prop} (hT : Steps md ops T) : ∀ (l : List Nat) (fuel : Nat) (listed : Array Bool) (a : Act) (j : Nat), l ≠ [] → Chain P md ops Q S l fuel listed a → T l listed → j ∈ Region.ready md ops listed →
    ∃ oj v f', ops[j]? = some oj ∧ (∀ cs b, oj.op ≠ .select cs b) ∧ fuel = f' + 1 ∧ Steady P ops S oj v a ∧ Chain P md ops Q S (l.erase j) f' (listed.setIfInBounds j true) (a.put oj.dst v)
  | [], _, _, _, _, hne, _, _, _ => absurd rfl hne
  | _ :: _, 0, _, _, _, _, hc, _, _ => hc.elim
  | i :: rest, fuel + 1, listed, a, j, _, hc, ht, hj => by
    obtain ⟨oi, v, hoi, hsi, hri, hfree, hst, hrest⟩ := hc
    have hui := (mem_ready.1 hri).1
    by_cases hji : j = i
    · subst hji
      exact ⟨oi, v, fuel, hoi, hsi, rfl, hst, by simpa using hrest⟩
    · have hm := hT.mem _ _ _ _ ht hj
      have hmr : j ∈ rest := by simpa [hji] using hm
      have hj' := ready_mono (i := i) hj hji
      have ht' : T rest (listed.setIfInBounds i true) := by
        have := hT.step _ _ _ ht hri List.mem_cons_self
        simpa using this
      obtain ⟨oj, u, f', hoj, hsj, rfl, hstj, hcj⟩ := chain_swapT hT rest fuel _ _ j (List.ne_nil_of_mem hmr) hrest ht' hj'
      obtain ⟨huj, oj', hoj', hall⟩ := mem_ready.1 hj
      obtain rfl : oj' = oj := by rw [hoj] at hoj'; exact (Option.some.inj hoj').symm
      have hap := hfree j oj' hoj hji huj fun e he hb heq => by
        have h1 := hall e he hb
        rw [heq, not_listed hui] at h1
        cases h1
      obtain ⟨h1, h2, h3⟩ := Oper.apart_spec hap
      have hstj' : Steady P ops S oj' u a := hstj.of_same (execOp_put oj' hsj a oi.dst v h1).symm (wanted_put oj' a oi.dst v h1).symm
      refine ⟨oj', u, f' + 1, hoj, hsj, rfl, hstj', ?_⟩
      rw [List.erase_cons_tail (by simpa using fun h => hji h.symm)]
      refine ⟨oi, v, hoi, hsi, ready_mono hri (fun h => hji h.symm), fun k ok hk hki hun hno => hfree k ok hk hki (unlisted_of huj hun).2 hno,
        hst.of_same (execOp_put oi hsi a oj'.dst u h3) (wanted_put oi a oj'.dst u h3), ?_⟩
      rw [Array.setIfInBounds_comm _ _ hji, ← Act.put_comm a v u h2]
      exact hcj

theorem chain_soundT {T : List Nat → Array Bool → Prop} (hT : Steps md ops T) : ∀ (n : Nat) (l : List Nat) (fuel : Nat) (listed : Array Bool) (a : Act), l.length = n → Chain P md ops Q S l fuel listed a → T l listed → ∀ w, S w → wpAny P md ops Q fuel listed a w
  | _, [], _, _, _, _, hc, _, w, hw => hc w hw
  | _, _ :: _, 0, _, _, _, hc, _, _, _ => hc.elim
  | 0, _ :: _, _, _, _, hl, _, _, _, _ => by cases hl
  | n + 1, i :: rest, fuel + 1, listed, a, hl, hc, ht, w, hw => by
    have hri : i ∈ Region.ready md ops listed := by
      obtain ⟨_, _, _, _, h, _⟩ := hc
      exact h
    refine ⟨fun h => absurd (h ▸ hri) List.not_mem_nil, fun j hj => ?_⟩
    obtain ⟨oj, v, f', hoj, _, hf, hst, hcj⟩ := chain_swapT hT (i :: rest) (fuel + 1) listed a j (by simp) hc ht hj
    obtain rfl : fuel = f' := by omega
    have hm := hT.mem _ _ _ _ ht hj
    refine hst.wpOp hoj hw fun w' hw' => ?_
    refine chain_soundT hT n _ _ _ _ ?_ hcj (hT.step _ _ _ ht hj hm) w' hw'
    rw [List.length_erase_of_mem hm, hl]
    rfl

def WaitsAt (md : Region.Mode) (ops : Array Oper) (j i : Nat) : Bool :=
  match ops[j]? with
  | some oj => oj.after.any fun e => Region.binds md e && e.on == i
  | none => false
theorem waitsAt_spec {j i : Nat} (h : WaitsAt md ops j i = true) : ∃ oj, ops[j]? = some oj ∧ ∃ e ∈ oj.after, Region.binds md e = true ∧ e.on = i := by
  unfold WaitsAt at h
  split at h
  · rename_i oj hj
    obtain ⟨e, he, hb⟩ := Array.any_eq_true'.1 h
    simp only [Bool.and_eq_true, beq_iff_eq] at hb
    exact ⟨oj, hj, e, he, hb.1, hb.2⟩
  · cases h
def Closed (md : Region.Mode) (ops : Array Oper) (listed : Array Bool) : Prop :=
  ∀ j oj, ops[j]? = some oj → listed.getD j false = true → ∀ e ∈ oj.after, Region.binds md e = true → listed.getD e.on false = true
/-- What stands when the chain L0 has been walked down to l. -/
structure Along (md : Region.Mode) (ops : Array Oper) (L0 : List Nat) (z : Nat) (listed0 : Array Bool) (l : List Nat) (listed : Array Bool) : Prop where
  closed : Closed md ops listed
  mono : ∀ k, listed0.getD k true = true → listed.getD k true = true
  mem : ∀ i, i ∈ L0 → listed.getD i true = false → i ∈ l
  of : ∀ i, i ∈ l → i ∈ L0 ∧ listed.getD i true = false
  nodup : l.Nodup
  out : ∀ k, k ∉ L0 → listed0.getD k true = false → listed.getD k true = false
def staticB (md : Region.Mode) (ops : Array Oper) (L0 : List Nat) (z : Nat) (listed0 : Array Bool) : Bool :=
  L0.contains z && ((List.range ops.size).all fun k => L0.contains k || listed0.getD k true || WaitsAt md ops k z || (List.range ops.size).any fun m => !L0.contains m && !listed0.getD m true && WaitsAt md ops k m) &&
  L0.all fun i => i == z || L0.any fun j => decide (i < j) && WaitsAt md ops j i
theorem closed_step {listed : Array Bool} {j : Nat} (h : Closed md ops listed) (hj : j ∈ Region.ready md ops listed) : Closed md ops (listed.setIfInBounds j true) := by
  obtain ⟨_, oj, hoj, hall⟩ := mem_ready.1 hj
  intro k ok hk hl e he hb
  by_cases hkj : j = k
  · subst hkj
    have : ok = oj := Option.some.inj (hk.symm.trans hoj)
    subst this
    exact getD_set_true (hall e he hb)
  · rw [getD_set_ne false hkj] at hl
    exact getD_set_true (h k ok hk hl e he hb)
theorem getD_true_false {listed : Array Bool} {i : Nat} (h : listed.getD i true = false) : listed.getD i false = false := not_listed h
theorem climb {L0 : List Nat} {z : Nat} {listed0 listed : Array Bool} (hs : staticB md ops L0 z listed0 = true) (hc : Closed md ops listed) (hz : ∀ i ∈ L0, i < ops.size) (hsz : listed.size = ops.size) :
    ∀ (n i : Nat), ops.size - i ≤ n → i ∈ L0 → listed.getD i true = false → listed.getD z true = false := by
  intro n
  simp only [staticB, Bool.and_eq_true] at hs
  have h3 := List.all_eq_true.1 hs.2
  induction n with
  | zero => intro i hn hi _; have := hz i hi; omega
  | succ n ih =>
    intro i hn hi hu
    have h4 := h3 i hi
    simp only [Bool.or_eq_true, beq_iff_eq, List.any_eq_true, Bool.and_eq_true, decide_eq_true_eq] at h4
    rcases h4 with rfl | ⟨j, hjm, hij, hw⟩
    · exact hu
    · obtain ⟨oj, hoj, e, he, hb, hon⟩ := waitsAt_spec hw
      have hju : listed.getD j true = false := by
        have hlt := hz j hjm
        by_cases h5 : listed.getD j false = true
        · have h6 := hc j oj hoj h5 e he hb
          rw [hon, getD_true_false hu] at h6
          cases h6
        · have hlt' : j < listed.size := by omega
          have h7 : listed.getD j false = false := by simpa using h5
          simp only [Array.getD, hlt', dif_pos] at h7 ⊢
          exact h7
      exact ih j (by omega) hjm hju
theorem along_steps {L0 : List Nat} {z : Nat} {listed0 : Array Bool} (hs : staticB md ops L0 z listed0 = true) (hz : ∀ i ∈ L0, i < ops.size) :
    Steps md ops (fun l listed => Along md ops L0 z listed0 l listed ∧ listed.size = ops.size) := by
  constructor
  · rintro i rest listed j ⟨h, hsz⟩ hj
    obtain ⟨hun, oj, hoj, hall⟩ := mem_ready.1 hj
    by_cases hm : j ∈ L0
    · exact h.mem j hm hun
    · exfalso
      have h0 : listed0.getD j true = false := by
        cases h1 : listed0.getD j true with
        | false => rfl
        | true => rw [h.mono j h1] at hun; cases hun
      have hs' := hs
      simp only [staticB, Bool.and_eq_true] at hs'
      have h2 := List.all_eq_true.1 hs'.1.2 j (List.mem_range.2 (Array.getElem?_eq_some_iff.1 hoj).1)
      simp only [Bool.or_eq_true, List.contains_iff_mem, hm, false_or, h0, Bool.false_eq_true] at h2
      rcases h2 with h2 | h2
      · obtain ⟨oj', hoj', e, he, hb, hon⟩ := waitsAt_spec h2
        obtain rfl : oj' = oj := by rw [hoj] at hoj'; exact (Option.some.inj hoj').symm
        have h3 := hall e he hb
        obtain ⟨hi0, hiu⟩ := h.of i List.mem_cons_self
        have h4 := climb hs h.closed hz hsz _ i (Nat.le_refl _) hi0 hiu
        rw [hon, getD_true_false h4] at h3
        cases h3
      · obtain ⟨m, _, hmm⟩ := List.any_eq_true.1 h2
        simp only [Bool.and_eq_true, Bool.not_eq_true', List.contains_eq_mem, decide_eq_false_iff_not] at hmm
        obtain ⟨oj', hoj', e, he, hb, hon⟩ := waitsAt_spec hmm.2
        obtain rfl : oj' = oj := by rw [hoj] at hoj'; exact (Option.some.inj hoj').symm
        have h3 := hall e he hb
        have h4 := h.out m hmm.1.1 hmm.1.2
        rw [hon, getD_true_false h4] at h3
        cases h3
  · rintro l listed j ⟨h, hsz⟩ hj hm
    have hun := (mem_ready.1 hj).1
    refine ⟨⟨closed_step h.closed hj, fun k hk => ?_, fun i hi hu => ?_, fun i hi => ?_, h.nodup.erase j, fun k hk h0 => ?_⟩, by simpa using hsz⟩
    · have := h.mono k hk
      cases h1 : (listed.setIfInBounds j true).getD k true with
      | true => rfl
      | false => rw [(unlisted_of hun h1).2] at this; cases this
    · obtain ⟨hne, hu'⟩ := unlisted_of hun hu
      exact (List.mem_erase_of_ne hne).2 (h.mem i hi hu')
    · have hne : i ≠ j := fun e => by
        subst e
        exact (h.nodup.not_mem_erase) hi
      obtain ⟨h1, h2⟩ := h.of i (List.mem_of_mem_erase hi)
      refine ⟨h1, ?_⟩
      rw [getD_set_ne true (fun e => hne e.symm)]
      exact h2
    · have hne : j ≠ k := fun e => hk (e ▸ (h.of j hm).1)
      rw [getD_set_ne true hne]
      exact h.out k hk h0
def closedB (md : Region.Mode) (ops : Array Oper) (listed : Array Bool) : Bool :=
  (List.range ops.size).all fun j => !listed.getD j false || match ops[j]? with
    | some oj => oj.after.all fun e => !Region.binds md e || listed.getD e.on false
    | none => true
theorem closedB_spec {listed : Array Bool} (h : closedB md ops listed = true) : Closed md ops listed := by
  intro j oj hoj hl e he hb
  have h1 := List.all_eq_true.1 h j (List.mem_range.2 (Array.getElem?_eq_some_iff.1 hoj).1)
  simp only [hl, hoj, Bool.not_true, Bool.false_or] at h1
  have h2 := Array.all_eq_true'.1 h1 e he
  simpa [hb] using h2
/-- The beginning: l in the text's order, z the last of them. -/
theorem wpAny_along {a : Act} {w : World} {fuel : Nat} {listed : Array Bool} (S : World → Prop) (l : List Nat) (z : Nat) (hs : staticB md ops l z listed = true) (hc : closedB md ops listed = true)
    (hl : (l.all fun i => decide (i < ops.size) && !listed.getD i true) = true) (hn : l.Nodup) (hsz : listed.size = ops.size) (hS : S w)
    (h : Chain P md ops Q S l fuel listed a) : wpAny P md ops Q fuel listed a w := by
  have h1 : ∀ i ∈ l, i < ops.size ∧ listed.getD i true = false := fun i hi => by
    have := List.all_eq_true.1 hl i hi
    simpa using this
  exact chain_soundT (along_steps hs fun i hi => (h1 i hi).1) l.length l _ _ a rfl h ⟨⟨closedB_spec hc, fun _ h => h, fun i hi _ => hi, fun i hi => ⟨hi, (h1 i hi).2⟩, hn, fun _ _ h => h⟩, hsz⟩ w hS
end
end Go.Proofs.YtlpbbihjnmikkaaGreatDoor

namespace Go.Proofs.YtlpbbihjnmikkaaGreatDoor

section
variable {P : Program} {ops : Array Oper} {Q : Exit → Act → World → Prop} {md : Region.Mode} {S : Option Nat → World → Prop} {z : Nat} {oz : Oper}

abbrev ptrTo (g : Nat) : Value := .pointer (some ⟨g, 0, none⟩)
/-- S none: ahead of the block; S (some g): the block g is there. -/
def ChainF (P : Program) (md : Region.Mode) (ops : Array Oper) (Q : Exit → Act → World → Prop) (S : Option Nat → World → Prop) (z : Nat) (oz : Oper) : List Nat → Nat → Array Bool → Act → Prop
  | [], fuel, listed, a => ∀ g w, S (some g) w → wpAny P md ops Q fuel (listed.setIfInBounds z true) (a.put oz.dst (ptrTo g)) w
  | _ :: _, 0, _, _ => False
  | i :: rest, fuel + 1, listed, a => ∃ oi v, ops[i]? = some oi ∧ (∀ cs b, oi.op ≠ .select cs b) ∧ i ∈ Region.ready md ops listed ∧ Free md ops listed i oi ∧ (∀ og, Steady P ops (S og) oi v a) ∧
      ChainF P md ops Q S z oz rest fuel (listed.setIfInBounds i true) (a.put oi.dst v)

theorem getD_set_other {i k : Nat} {listed : Array Bool} (h : listed.getD k true = false) (hne : i ≠ k) : (listed.setIfInBounds i true).getD k true = false := by rwa [getD_set_ne true hne]
/-- The block has come up: the chain goes on by the same values. -/
theorem chainF_made (hz : ops[z]? = some oz) (hza : ∀ e ∈ oz.after, Region.binds md e = false) (g : Nat) : ∀ (l : List Nat) (fuel : Nat) (listed : Array Bool) (a : Act), z ∉ l → listed.getD z true = false → ChainF P md ops Q S z oz l fuel listed a →
    Chain P md ops Q (S (some g)) l fuel (listed.setIfInBounds z true) (a.put oz.dst (ptrTo g))
  | [], _, _, _, _, _, hc => fun w hw => hc g w hw
  | _ :: _, 0, _, _, _, _, hc => hc.elim
  | i :: rest, fuel + 1, listed, a, hnz, huz, hc => by
    obtain ⟨oi, v, hoi, hsi, hri, hfree, hst, hrest⟩ := hc
    have hiz : i ≠ z := fun e => hnz (e ▸ List.mem_cons_self)
    have hui := (mem_ready.1 hri).1
    have hap := hfree z oz hz (fun e => hiz e.symm) huz fun e he hb => by rw [hza e he] at hb; cases hb
    obtain ⟨h1, h2, h3⟩ := Oper.apart_spec hap
    have ih := chainF_made hz hza g rest fuel _ _ (fun h => hnz (List.mem_cons_of_mem _ h)) (getD_set_other huz hiz) hrest
    refine ⟨oi, v, hoi, hsi, ready_mono hri hiz, fun k ok hk hki hun hno => hfree k ok hk hki (unlisted_of huz hun).2 hno, (hst (some g)).of_same (execOp_put oi hsi a oz.dst (ptrTo g) h3) (wanted_put oi a oz.dst (ptrTo g) h3), ?_⟩
    rw [Array.setIfInBounds_comm _ _ (fun e => hiz e.symm), ← Act.put_comm a v (ptrTo g) h2]
    exact ih

theorem chainF_swap (hzs : z < ops.size) : ∀ (l : List Nat) (fuel : Nat) (listed : Array Bool) (a : Act) (j : Nat), j ≠ z → l ≠ [] → ChainF P md ops Q S z oz l fuel listed a → Tail md ops (z :: l) listed → listed.getD z true = false → z ∉ l → j ∈ Region.ready md ops listed →
    ∃ oj v f', ops[j]? = some oj ∧ (∀ cs b, oj.op ≠ .select cs b) ∧ fuel = f' + 1 ∧ j ∈ l ∧ (∀ og, Steady P ops (S og) oj v a) ∧ ChainF P md ops Q S z oz (l.erase j) f' (listed.setIfInBounds j true) (a.put oj.dst v)
  | [], _, _, _, _, _, hne, _, _, _, _, _ => absurd rfl hne
  | _ :: _, 0, _, _, _, _, _, hc, _, _, _, _ => hc.elim
  | i :: rest, fuel + 1, listed, a, j, hjz, _, hc, ht, huz, hnz, hj => by
    obtain ⟨oi, v, hoi, hsi, hri, hfree, hst, hrest⟩ := hc
    have hui := (mem_ready.1 hri).1
    have hiz : i ≠ z := fun e => hnz (e ▸ List.mem_cons_self)
    by_cases hji : j = i
    · subst hji
      exact ⟨oi, v, fuel, hoi, hsi, rfl, List.mem_cons_self, hst, by simpa using hrest⟩
    · have hm := Tail.mem huz ht hj
      have hmr : j ∈ rest := by simpa [hjz, hji] using hm
      have hj' := ready_mono (i := i) hj hji
      have ht' : Tail md ops (z :: rest) (listed.setIfInBounds i true) := by
        have := Tail.erase (j := i) hui ht
        rw [List.erase_cons_tail (by simpa using fun h => hiz h.symm), List.erase_cons_head] at this
        exact this
      obtain ⟨oj, u, f', hoj, hsj, rfl, _, hstj, hcj⟩ := chainF_swap hzs rest fuel _ _ j hjz (List.ne_nil_of_mem hmr) hrest ht' (getD_set_other huz hiz) (fun h => hnz (List.mem_cons_of_mem _ h)) hj'
      obtain ⟨huj, oj', hoj', hall⟩ := mem_ready.1 hj
      obtain rfl : oj' = oj := by rw [hoj] at hoj'; exact (Option.some.inj hoj').symm
      have hap := hfree j oj' hoj hji huj fun e he hb heq => by
        have h1 := hall e he hb
        rw [heq, not_listed hui] at h1
        cases h1
      obtain ⟨h1, h2, h3⟩ := Oper.apart_spec hap
      refine ⟨oj', u, f' + 1, hoj, hsj, rfl, List.mem_cons_of_mem _ hmr, fun og => (hstj og).of_same (execOp_put oj' hsj a oi.dst v h1).symm (wanted_put oj' a oi.dst v h1).symm, ?_⟩
      rw [List.erase_cons_tail (by simpa using fun h => hji h.symm)]
      refine ⟨oi, v, hoi, hsi, ready_mono hri (fun h => hji h.symm), fun k ok hk hki hun hno => hfree k ok hk hki (unlisted_of huj hun).2 hno,
        fun og => (hst og).of_same (execOp_put oi hsi a oj'.dst u h3) (wanted_put oi a oj'.dst u h3), ?_⟩
      rw [Array.setIfInBounds_comm _ _ hji, ← Act.put_comm a v u h2]
      exact hcj

/-- Whatever the world that meets 'S none', the operation makes a block g and leaves a world that meets 'S (some g)'. -/
def Makes (P : Program) (S : Option Nat → World → Prop) (oz : Oper) : Prop :=
  ∀ (ρ : Operand → Value) w, S none w → ∃ g w', (execOp ρ oz).run P w = .ok (.value (ptrTo g)) w' ∧ S (some g) w'
theorem chainF_sound (hz : ops[z]? = some oz) (hza : ∀ e ∈ oz.after, Region.binds md e = false) (hgd : oz.guard = none) (hmk : Makes P S oz) : ∀ (n : Nat) (l : List Nat) (fuel : Nat) (listed : Array Bool) (a : Act), l.length = n → ChainF P md ops Q S z oz l fuel listed a →
    Tail md ops (z :: l) listed → listed.getD z true = false → z ∉ l → ∀ w, S none w → wpAny P md ops Q (fuel + 1) listed a w := by
  have hzs : z < ops.size := (Array.getElem?_eq_some_iff.1 hz).1
  intro n
  induction n with
  | zero =>
    intro l fuel listed a hl hc ht huz hnz w hw
    obtain rfl := List.length_eq_zero_iff.1 hl
    have hzr : z ∈ Region.ready md ops listed := mem_ready.2 ⟨huz, oz, hz, fun e he hb => by rw [hza e he] at hb; cases hb⟩
    refine ⟨fun h => absurd (h ▸ hzr) List.not_mem_nil, fun j hj => ?_⟩
    have hm := Tail.mem huz ht hj
    obtain rfl : j = z := by simpa using hm
    unfold Go.wpOp
    have hwt : Region.wanted oz (yielded ops a.tmps) = true := by simp [Region.wanted, hgd]
    simp only [hz, hwt, if_true]
    refine .inl ?_
    obtain ⟨g, w', hr, hS⟩ := hmk a.eval w hw
    unfold Oper.wp
    rw [hr]
    exact hc g w' hS
  | succ n ih =>
    intro l fuel listed a hl hc ht huz hnz w hw
    have hne : l ≠ [] := fun e => by rw [e] at hl; cases hl
    have hzr : z ∈ Region.ready md ops listed := mem_ready.2 ⟨huz, oz, hz, fun e he hb => by rw [hza e he] at hb; cases hb⟩
    refine ⟨fun h => absurd (h ▸ hzr) List.not_mem_nil, fun j hj => ?_⟩
    by_cases hjz : j = z
    · subst hjz
      unfold Go.wpOp
      have hwt : Region.wanted oz (yielded ops a.tmps) = true := by simp [Region.wanted, hgd]
      simp only [hz, hwt, if_true]
      refine .inl ?_
      obtain ⟨g, w', hr, hS⟩ := hmk a.eval w hw
      unfold Oper.wp
      rw [hr]
      refine chain_sound l.length l fuel _ _ rfl (chainF_made hz hza g l fuel listed a hnz huz hc) (Tail.next huz ht) w' hS
    · obtain ⟨oj, v, f', hoj, _, rfl, hjl, hst, hcj⟩ := chainF_swap hzs l fuel listed a j hjz hne hc ht huz hnz hj
      refine (hst none).wpOp hoj hw fun w' hw' => ?_
      refine ih (l.erase j) f' _ _ (by rw [List.length_erase_of_mem hjl, hl]; rfl) hcj ?_ (getD_set_other huz hjz) (fun h => hnz (List.mem_of_mem_erase h)) w' hw'
      have := Tail.erase (mem_ready.1 hj).1 ht
      rwa [List.erase_cons_tail (by simpa using fun h => hjz h.symm)] at this

theorem ChainF.step {i : Nat} {oi : Oper} {v : Value} {rest : List Nat} {fuel : Nat} {listed : Array Bool} {a : Act} (hi : ops[i]? = some oi) (hs : Region.noSelect ops = true)
    (hf : Region.free md ops listed i = true) (hr : (Region.ready md ops listed).contains i = true) (hy : ∀ og, Steady P ops (S og) oi v a)
    (h : ChainF P md ops Q S z oz rest fuel (listed.setIfInBounds i true) (a.put oi.dst v)) : ChainF P md ops Q S z oz (i :: rest) (fuel + 1) listed a :=
  ⟨oi, v, hi, fun cs b => Region.noSelect_spec hs i oi cs b hi, by simpa using hr, Region.free_spec hi hf, hy, h⟩
theorem ChainF.done {fuel : Nat} {listed : Array Bool} {a : Act} (h : ∀ g w, S (some g) w → wpAny P md ops Q fuel (listed.setIfInBounds z true) (a.put oz.dst (ptrTo g)) w) : ChainF P md ops Q S z oz [] fuel listed a := h
/-- The beginning. z: the number of the operation that makes the block; l: those of the steady ones, in the text's order. -/
theorem wpAny_float {a : Act} {w : World} {fuel : Nat} {listed : Array Bool} (S : Option Nat → World → Prop) (l : List Nat) (z : Nat) (hz : ops[z]? = some oz) (hza : oz.after.all (fun e => !Region.binds md e) = true) (hgd : oz.guard = none) (hmk : Makes P S oz)
    (ht : tailAt md ops (z :: l) listed = true) (huz : listed.getD z true = false) (hnz : z ∉ l) (hS : S none w) (h : ChainF P md ops Q S z oz l fuel listed a) : wpAny P md ops Q (fuel + 1) listed a w :=
  chainF_sound hz (fun e he => by have := Array.all_eq_true'.1 hza e he; simpa using this) hgd hmk l.length l fuel listed a rfl h (tailAt_spec ht) huz hnz w hS
end
end Go.Proofs.YtlpbbihjnmikkaaGreatDoor
