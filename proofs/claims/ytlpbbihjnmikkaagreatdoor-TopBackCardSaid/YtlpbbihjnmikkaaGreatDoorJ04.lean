/-
  Joined: ExeR
-/
import Derived.Test.YtlpbbihjnmikkaaGreatDoorJ03
import Derived.Laws.Sem
import Derived.Laws.World
namespace Go.Proofs.YtlpbbihjnmikkaaGreatDoor.Exe

inductive All2 {α β : Type} (R : α → β → Prop) : List α → List β → Prop where
  | nil : All2 R [] []
  | cons {a : α} {b : β} {l : List α} {k : List β} : R a b → All2 R l k → All2 R (a :: l) (b :: k)
section
variable {α β : Type} {R S : α → β → Prop}
theorem All2.mono (h : ∀ a b, R a b → S a b) {l : List α} {k : List β} (hl : All2 R l k) : All2 S l k := by
  induction hl with
  | nil => exact .nil
  | cons h1 _ ih => exact .cons (h _ _ h1) ih
theorem All2.length {l : List α} {k : List β} (h : All2 R l k) : l.length = k.length := by
  induction h with
  | nil => rfl
  | cons _ _ ih => simp [ih]
theorem All2.append {l l' : List α} {k k' : List β} (h : All2 R l k) (h' : All2 R l' k') : All2 R (l ++ l') (k ++ k') := by
  induction h with
  | nil => exact h'
  | cons h1 _ ih => exact .cons h1 ih
theorem All2.drop {l : List α} {k : List β} (h : All2 R l k) (n : Nat) : All2 R (l.drop n) (k.drop n) := by
  induction h generalizing n with
  | nil => simp; exact .nil
  | cons h1 h2 ih =>
    cases n with
    | zero => exact .cons h1 h2
    | succ n => exact ih n
theorem All2.take {l : List α} {k : List β} (h : All2 R l k) (n : Nat) : All2 R (l.take n) (k.take n) := by
  induction h generalizing n with
  | nil => simp; exact .nil
  | cons h1 h2 ih =>
    cases n with
    | zero => exact .nil
    | succ n => exact .cons h1 (ih n)
theorem All2.get {l : List α} {k : List β} (h : All2 R l k) {n : Nat} {a : α} {b : β} (ha : l[n]? = some a) (hb : k[n]? = some b) : R a b := by
  induction h generalizing n with
  | nil => simp at ha
  | cons h1 h2 ih =>
    cases n with
    | zero => simp at ha hb; rw [← ha, ← hb]; exact h1
    | succ n => exact ih (by simpa using ha) (by simpa using hb)
theorem All2.right {Q : β → Prop} (h : ∀ a b, R a b → Q b) {l : List α} {k : List β} (hl : All2 R l k) : ∀ b ∈ k, Q b := by
  induction hl with
  | nil => intro b hb; cases hb
  | cons h1 _ ih =>
    intro b hb
    rcases List.mem_cons.1 hb with rfl | hb
    · exact h _ _ h1
    · exact ih b hb
end

/-- Where a name's thing is: a block (grown rows: how many elements it has room for); an object; a value, with the blocks that are its own and those that it looks at. -/
inductive Site where
  | blk (b room : Nat)
  | obj (r : Nat)
  | val (v : Value) (own sees : Nat → Prop)
abbrev Nu := Nat → Option Site
def Site.own : Site → Nat → Prop
  | .blk b _, i => i = b
  | .obj r, i => i = r
  | .val _ o _, i => o i
def Site.sees : Site → Nat → Prop
  | .val _ _ s, i => s i
  | _, _ => False
/-- A slice's cap is as the reckoner knows it. -/
def CapOk (room off n c' : Nat) : Cap → Prop
  | .exact c => c' = c ∧ n ≤ c
  | .some => n ≤ c'
  | .whole => off = 0 ∧ c' = room ∧ n ≤ room
  | .lost => False
inductive RepC (ν : Nu) : Cell → Value → Prop where
  | nat (n : Nat) : n < 9223372036854775808 → RepC ν (.nat n) (.int .i64 (.ofNat n))
  | bool (b : Bool) : RepC ν (.bool b) (.bool b)
  | flat (v : Value) : (cellOf v).isSome = true → RepC ν (.flat v) v
  | ptr {k off b room : Nat} : ν k = some (.blk b room) → RepC ν (.ptr k off) (.pointer (some ⟨b, off, none⟩))
  | row {k off n c' b room : Nat} {c : Cap} : ν k = some (.blk b room) → CapOk room off n c' c → RepC ν (.row k off n c) (.slice (some ⟨b, off, none⟩) n c')
  | lost (k off c' : Nat) (a : Addr) : RepC ν (.row k off 0 .lost) (.slice (some a) 0 c')
  | map {k r : Nat} : ν k = some (.obj r) → RepC ν (.map k) (.map (some r))
  | tok {k : Nat} {v : Value} {o s : Nat → Prop} : ν k = some (.val v o s) → v.oneCell' = true → RepC ν (.tok k) v
abbrev RepL (ν : Nu) : List Cell → List Value → Prop := All2 (RepC ν)
inductive RepP (ν : Nu) : Part → Value → Prop where
  | one {c : Cell} {v : Value} : RepC ν c v → RepP ν (.one c) v
  | agg {n : Nat} {cs : List Cell} {vs : Array Value} : RepL ν cs vs.toList → cs.length = n → RepP ν (.agg n cs) (.agg vs)
inductive RepS (ν : Nu) : Slot → Value → Prop where
  | one {c : Cell} {v : Value} : RepC ν c v → RepS ν (.one c) v
  | agg {n : Nat} {cs : List Cell} {vs : Array Value} : RepL ν cs vs.toList → cs.length = n → RepS ν (.agg n cs) (.agg vs)
  | tup {l : List Part} {vs : Array Value} : All2 (RepP ν) l vs.toList → RepS ν (.tup l) (.tuple vs)
/-- More names. -/
def Sub (ν ν' : Nu) : Prop := ∀ k s, ν k = some s → ν' k = some s
theorem Sub.refl (ν : Nu) : Sub ν ν := fun _ _ h => h
theorem Sub.trans {ν ν' ν'' : Nu} (h : Sub ν ν') (h' : Sub ν' ν'') : Sub ν ν'' := fun k s hk => h' k s (h k s hk)
section
variable {ν ν' : Nu}
theorem RepC.mono (h : Sub ν ν') {c : Cell} {v : Value} (hc : RepC ν c v) : RepC ν' c v := by
  cases hc with
  | nat n hn => exact .nat n hn
  | bool b => exact .bool b
  | flat v hv => exact .flat v hv
  | ptr hk => exact .ptr (h _ _ hk)
  | row hk hc => exact .row (h _ _ hk) hc
  | lost k off c' a => exact .lost k off c' a
  | map hk => exact .map (h _ _ hk)
  | tok hk hv => exact .tok (h _ _ hk) hv
theorem RepL.mono (h : Sub ν ν') {l : List Cell} {k : List Value} (hl : RepL ν l k) : RepL ν' l k := All2.mono (fun _ _ => RepC.mono h) hl
theorem RepP.mono (h : Sub ν ν') {p : Part} {v : Value} (hp : RepP ν p v) : RepP ν' p v := by
  cases hp with
  | one hc => exact .one (hc.mono h)
  | agg hl hn => exact .agg (hl.mono h) hn
theorem RepS.mono (h : Sub ν ν') {s : Slot} {v : Value} (hs : RepS ν s v) : RepS ν' s v := by
  cases hs with
  | one hc => exact .one (hc.mono h)
  | agg hl hn => exact .agg (hl.mono h) hn
  | tup hl => exact .tup (All2.mono (fun _ _ => RepP.mono h) hl)
theorem one_of_cellOf {v : Value} (h : (cellOf v).isSome = true) : v.oneCell' = true := by
  cases v <;> first | rfl | (simp [cellOf] at h)
theorem RepC.single {c : Cell} {v : Value} (h : RepC ν c v) : v.oneCell' = true := by
  cases h with
  | flat v hv => exact one_of_cellOf hv
  | tok _ hv => exact hv
  | _ => rfl
theorem RepL.singles {l : List Cell} {k : List Value} (h : RepL ν l k) : ∀ v ∈ k, v.oneCell' = true := All2.right (fun _ _ h => h.single) h
theorem cells_one {v : Value} (h : v.oneCell' = true) : v.cells = #[v] := by cases v <;> first | rfl | cases h
/-- A value that is known whole. -/
theorem valOf_eq {c : Cell} {v v' : Value} (h : valOf c = some v) (hr : RepC ν c v') : v' = v := by
  cases hr <;> simp [valOf] at h <;> first | exact h | (rw [← h]; done)
theorem valsOf_eq : ∀ {l : List Cell} {vs : List Value} {k : List Value}, valsOf l = some vs → RepL ν l k → k = vs
  | [], vs, k, h, hr => by
    cases hr
    have h' : some [] = some vs := h
    cases h'; rfl
  | c :: l, vs, k, h, hr => by
    cases hr with
    | @cons _ b _ k h1 h2 =>
      have e : valsOf (c :: l) = Option.rec none (fun v => Option.rec none (fun vs => some (v :: vs)) (valsOf l)) (valOf c) := rfl
      rw [e] at h
      cases hc : valOf c with
      | none => rw [hc] at h; cases h
      | some v =>
        rw [hc] at h
        cases hl : valsOf l with
        | none => rw [hl] at h; cases h
        | some us =>
          rw [hl] at h
          cases h
          rw [valOf_eq hc h1, valsOf_eq hl h2]
theorem slotV_eq {s : Slot} {v v' : Value} (h : slotV s = some v) (hr : RepS ν s v') : v' = v := by
  cases hr with
  | one hc => exact valOf_eq h hc
  | @agg n cs vs hl hn =>
    have e : slotV (.agg n cs) = Option.rec none (fun vs => some (.agg ⟨vs⟩)) (valsOf cs) := rfl
    rw [e] at h
    cases hc : valsOf cs with
    | none => rw [hc] at h; cases h
    | some us =>
      rw [hc] at h
      cases h
      rw [← valsOf_eq hc hl]
  | tup hl => cases h
theorem cellOf_rep (ν : Nu) {v : Value} {c : Cell} (h : cellOf v = some c) : RepC ν c v := by
  cases v with
  | bool b => cases h; exact .bool b
  | int k n =>
    cases k <;> cases n <;> simp only [cellOf, Option.some.injEq] at h
    all_goals first
      | (subst h; exact .flat _ rfl)
      | (rename_i m
         cases hm : Nat.blt m 9223372036854775808 with
         | false => rw [hm] at h; subst h; exact .flat _ (by simp [cellOf])
         | true => rw [hm] at h; subst h; exact .nat m (by simpa [Nat.blt_eq] using hm))
  | string s => cases h; exact .flat _ rfl
  | pointer a => cases a <;> cases h; exact .flat _ rfl
  | slice a n c =>
    cases a with
    | some a => cases h
    | none =>
      cases n with
      | succ n => cases h
      | zero =>
        cases c with
        | succ c => cases h
        | zero => cases h; exact RepC.flat (.slice none 0 0) rfl
  | map r => cases r <;> cases h; exact .flat _ rfl
  | func fn first captured =>
    obtain ⟨l⟩ := first
    obtain ⟨k⟩ := captured
    cases fn <;> cases l <;> cases k <;> cases h
    exact RepC.flat (.func (.func _) #[] #[]) rfl
  | nilFunc => cases h; exact .flat _ rfl
  | nilIface => cases h; exact .flat _ rfl
  | _ => cases h
theorem cellsOfV_rep (ν : Nu) : ∀ {vs : List Value} {l : List Cell}, cellsOfV vs = some l → RepL ν l vs
  | [], l, h => by cases h; exact .nil
  | v :: vs, l, h => by
    unfold cellsOfV at h
    cases hc : cellOf v with
    | none => rw [hc] at h; cases h
    | some c =>
      rw [hc] at h
      simp only at h
      cases hl : cellsOfV vs with
      | none => rw [hl] at h; cases h
      | some cs =>
        rw [hl] at h
        cases h
        exact .cons (cellOf_rep ν hc) (cellsOfV_rep ν hl)
theorem slotOf_rep (ν : Nu) {v : Value} {s : Slot} (h : slotOf v = some s) : RepS ν s v := by
  unfold slotOf at h
  split at h
  · rename_i cs
    split at h
    · rename_i l hl
      cases h
      have hr := cellsOfV_rep ν hl
      exact .agg hr (by rw [hr.length]; simp)
    · cases h
  · cases h; exact .tup .nil
  · split at h
    · rename_i c hc
      cases h
      exact .one (cellOf_rep ν hc)
    · cases h
theorem undef_rep (ν : Nu) : RepS ν undefS undef := .tup .nil
end

/-- A world that has sent out nothing more, and asked for nothing more. -/
def Calm (w w' : World) : Prop := w'.os = w.os ∧ w'.output = w.output
theorem Calm.refl (w : World) : Calm w w := ⟨rfl, rfl⟩
theorem Calm.trans {w w1 w2 : World} (h : Calm w w1) (k : Calm w1 w2) : Calm w w2 := ⟨k.1.trans h.1, k.2.trans h.2⟩
/-- What the words for data say. -/
structure Lore where
  home : World
  conc : D → Value → (Nat → Prop) → (Nat → Prop) → World → Prop
  stable : ∀ {d v o s} {w w' : World}, (∀ b, o b ∨ s b → w'.heap[b]? = w.heap[b]?) → conc d v o s w → conc d v o s w'
  below : ∀ {d v o s} {w : World}, conc d v o s w → ∀ b, o b ∨ s b → b < w.heap.size
  len_ok : ∀ {d d' v o s} {w : World}, hLen d = some d' → conc d v o s w → ∃ a n c, v = .slice a n c ∧ conc d' (.int .i64 (.ofNat n)) (fun _ => False) (fun _ => False) w
  conv_ok : ∀ {d d' v o s} {w : World}, hConv d = some d' → conc d v o s w → ∃ a n c b, v = .slice a n c ∧ (∀ P, (Conv.bytesToString v).run P w = .ok (.string b) w) ∧ conc d' (.string b) (fun _ => False) (fun _ => False) w
  cmp_ok : ∀ {d v o s op n b} {w : World}, hCmp op d n = some b → conc d v o s w → ∃ m, v = .int .i64 (.ofNat m) ∧ ∀ P W t, (binOp op t v (.int .i64 (.ofNat n))).run P W = .ok (.bool b) W
  eq_ok : ∀ {d e v u o s o' s' b} {w : World}, hEq d e = some b → conc d v o s w → conc e u o' s' w → ∃ x y, v = .string x ∧ u = .string y ∧ (x.toList == y.toList) = b
section
variable (P : Program) (L : Lore)
def RepM (ν : Nu) (e : Nat × Slot × Nat) (m : MapEntry) : Prop := m.key = .int .i64 (.ofNat e.1) ∧ e.1 < 9223372036854775808 ∧ RepS ν e.2.1 m.val ∧ m.born = e.2.2
def ThingOk (ν : Nu) (w : World) : Site → Thing D → Prop
  | .blk b room, .cells n cs e => ∃ c, w.heap[b]? = some (.cells c e (0, 0)) ∧ RepL ν cs (c.toList.take n) ∧ n ≤ c.size ∧ (room ≠ 0 → ∃ i, P.info? e = some i ∧ c.size = room * i.size)
  | .obj r, .map es clock => ∃ ms, w.heap[r]? = some (.map ms clock) ∧ All2 (RepM ν) es ms.toList
  | .val v o s, .fn f fs cs => ∃ fs' cs', v = .func (.func f) fs' cs' ∧ All2 (RepS ν) fs fs'.toList ∧ All2 (RepS ν) cs cs'.toList ∧ (∀ i, ¬ o i) ∧ ∀ i, ¬ s i
  | .val v o s, .data d => L.conc d v o s w
  | _, _ => False
structure Ok (ν : Nu) (h : Heap D) (w : World) : Prop where
  thing : ∀ k t, h.at k = some t → ∃ s, ν k = some s ∧ ThingOk P L ν w s t
  apart : ∀ k k' t t' s s', k ≠ k' → h.at k = some t → h.at k' = some t' → ν k = some s → ν k' = some s' → ∀ b, s.own b → ¬ s'.own b ∧ ¬ s'.sees b
  base : ν 0 = some (.blk 0 1)
  calm : Calm L.home w
variable {P L} {ν ν' : Nu} {h h' : Heap D} {w w' : World}
theorem RepM.mono (hs : Sub ν ν') {e : Nat × Slot × Nat} {m : MapEntry} (h : RepM ν e m) : RepM ν' e m := ⟨h.1, h.2.1, h.2.2.1.mono hs, h.2.2.2⟩
theorem ThingOk.mono {s : Site} {t : Thing D} (hs : Sub ν ν') (hw : ∀ b, s.own b ∨ s.sees b → w'.heap[b]? = w.heap[b]?) (h : ThingOk P L ν w s t) : ThingOk P L ν' w' s t := by
  cases s <;> cases t <;> try exact h
  · obtain ⟨c, h1, h2, h3, h4⟩ := h
    exact ⟨c, (hw _ (.inl rfl)).trans h1, h2.mono hs, h3, h4⟩
  · obtain ⟨ms, h1, h2⟩ := h
    exact ⟨ms, (hw _ (.inl rfl)).trans h1, All2.mono (fun _ _ => RepM.mono hs) h2⟩
  · obtain ⟨fs', cs', h1, h2, h3, h4⟩ := h
    exact ⟨fs', cs', h1, All2.mono (fun _ _ => RepS.mono hs) h2, All2.mono (fun _ _ => RepS.mono hs) h3, h4⟩
  · exact L.stable hw h
theorem ThingOk.lt {s : Site} {t : Thing D} (h : ThingOk P L ν w s t) : ∀ b, s.own b ∨ s.sees b → b < w.heap.size := by
  have hlt : ∀ b o, w.heap[b]? = some o → b < w.heap.size := fun b o hb => by
    rcases Nat.lt_or_ge b w.heap.size with h | h
    · exact h
    · rw [Array.getElem?_eq_none h] at hb; cases hb
  intro b hb
  cases s <;> cases t <;> try exact h.elim
  · obtain ⟨c, h1, _⟩ := h
    rcases hb with rfl | hb
    · exact hlt _ _ h1
    · exact hb.elim
  · obtain ⟨ms, h1, _⟩ := h
    rcases hb with rfl | hb
    · exact hlt _ _ h1
    · exact hb.elim
  · obtain ⟨_, _, _, _, _, ho, hs⟩ := h
    rcases hb with hb | hb
    · exact (ho b hb).elim
    · exact (hs b hb).elim
  · exact L.below h b hb
/-- The one law behind all changes: name k becomes t (or goes), whatever else lives stays. -/
theorem Ok.step {w' : World} (hok : Ok P L ν h w) (hs : Sub ν ν') {k : Nat} {t : Option (Thing D)} (hk : k < 32768)
    (hlive : ∀ j tj sj, j ≠ k → h.at j = some tj → ν j = some sj → ∀ i, sj.own i ∨ sj.sees i → w'.heap[i]? = w.heap[i]?)
    (ht : ∀ t0, t = some t0 → ∃ s, ν' k = some s ∧ ThingOk P L ν' w' s t0 ∧ ∀ j tj sj, j ≠ k → h.at j = some tj → ν j = some sj → ∀ i, (s.own i → ¬ sj.own i ∧ ¬ sj.sees i) ∧ (sj.own i → ¬ s.own i ∧ ¬ s.sees i)) (hc : Calm w w' := by exact ⟨rfl, rfl⟩) :
    Ok P L ν' (h.lay k t) w' where
  base := hs _ _ hok.base
  calm := hok.calm.trans hc
  thing j tj hj := by
    rw [at_lay hk] at hj
    split at hj
    · rename_i e
      subst e
      obtain ⟨s, h1, h2, _⟩ := ht tj hj
      exact ⟨s, h1, h2⟩
    · rename_i e
      obtain ⟨s, h1, h2⟩ := hok.thing j tj hj
      exact ⟨s, hs _ _ h1, h2.mono hs (hlive j tj s e hj h1)⟩
  apart j j' tj tj' sj sj' hne hj hj' hsj hsj' i hi := by
    rw [at_lay hk] at hj hj'
    split at hj <;> split at hj'
    · rename_i e e'; exact absurd (e.trans e'.symm) hne
    · rename_i e e'
      subst e
      obtain ⟨s, h1, _, h3⟩ := ht tj hj
      rw [h1] at hsj
      cases hsj
      obtain ⟨s', h1', _⟩ := hok.thing j' tj' hj'
      rw [hs _ _ h1'] at hsj'
      cases hsj'
      exact (h3 j' tj' _ e' hj' h1' i).1 hi
    · rename_i e e'
      subst e'
      obtain ⟨s, h1, _, h3⟩ := ht tj' hj'
      rw [h1] at hsj'
      cases hsj'
      obtain ⟨s', h1', _⟩ := hok.thing j tj hj
      rw [hs _ _ h1'] at hsj
      cases hsj
      exact (h3 j tj _ e hj h1' i).2 hi
    · rename_i e e'
      obtain ⟨s, h1, _⟩ := hok.thing j tj hj
      obtain ⟨s', h1', _⟩ := hok.thing j' tj' hj'
      rw [hs _ _ h1] at hsj
      rw [hs _ _ h1'] at hsj'
      cases hsj
      cases hsj'
      exact hok.apart j j' tj tj' _ _ hne hj hj' h1 h1' i hi
/-- What holds of a memory holds of one that has the same things. -/
theorem Ok.same (hok : Ok P L ν h w) (he : ∀ k, h'.at k = h.at k) : Ok P L ν h' w where
  base := hok.base
  calm := hok.calm
  thing k t hk := hok.thing k t (by rw [← he]; exact hk)
  apart k k' t t' s s' hne hk hk' := hok.apart k k' t t' s s' hne (by rw [← he]; exact hk) (by rw [← he]; exact hk')
/-- A world that differs in no block is as good. -/
theorem Ok.world (hok : Ok P L ν h w) (hw : ∀ i : Nat, i < w.heap.size → w'.heap[i]? = w.heap[i]?) (hc : Calm w w' := by exact ⟨rfl, rfl⟩) : Ok P L ν h w' where
  calm := hok.calm.trans hc
  thing k t hk := by
    obtain ⟨s, h1, h2⟩ := hok.thing k t hk
    exact ⟨s, h1, h2.mono (Sub.refl _) fun b hb => hw b (h2.lt b hb)⟩
  apart := hok.apart
  base := hok.base
/-- New names between two numbers, and no others. -/
structure Ext (ν ν' : Nu) (nx nx' : Nat) : Prop where
  sub : Sub ν ν'
  only : ∀ k s, ν' k = some s → ν k = some s ∨ (nx ≤ k ∧ k < nx')
def Fresh (ν : Nu) (nx nx' : Nat) : Prop := ∀ k, nx ≤ k → k < nx' → ν k = none
theorem Ext.refl (ν : Nu) (nx : Nat) : Ext ν ν nx nx := ⟨Sub.refl _, fun _ _ h => .inl h⟩
theorem Ext.trans {ν'' : Nu} {n1 n2 n3 : Nat} (h12 : n1 ≤ n2) (h23 : n2 ≤ n3) (e : Ext ν ν' n1 n2) (e' : Ext ν' ν'' n2 n3) : Ext ν ν'' n1 n3 :=
  ⟨e.sub.trans e'.sub, fun k s hk => by
    rcases e'.only k s hk with h | h
    · rcases e.only k s h with h | h
      · exact .inl h
      · exact .inr ⟨h.1, by omega⟩
    · exact .inr ⟨by omega, h.2⟩⟩
theorem Fresh.left {n1 n2 n3 : Nat} (h : Fresh ν n1 n3) (h23 : n2 ≤ n3) : Fresh ν n1 n2 := fun k h1 h2 => h k h1 (by omega)
theorem Fresh.right {n1 n2 n3 : Nat} (h : Fresh ν n1 n3) (h12 : n1 ≤ n2) (e : Ext ν ν' n1 n2) : Fresh ν' n2 n3 := fun k h1 h2 => by
  cases hk : ν' k with
  | none => rfl
  | some s =>
    rcases e.only k s hk with h' | h'
    · rw [h k (by omega) h2] at h'; cases h'
    · omega
def Nu.set (ν : Nu) (k : Nat) (s : Site) : Nu := fun j => if j = k then some s else ν j
theorem Nu.set_same (ν : Nu) (k : Nat) (s : Site) : ν.set k s k = some s := by unfold Nu.set; rw [if_pos rfl]
theorem Sub.set {k : Nat} (hk : ν k = none) (s : Site) : Sub ν (ν.set k s) := fun j sj hj => by
  unfold Nu.set
  split
  · rename_i e; subst e; rw [hk] at hj; cases hj
  · exact hj
theorem Ext.set {k : Nat} (hk : ν k = none) (s : Site) : Ext ν (ν.set k s) k (k + 1) := ⟨Sub.set hk s, fun j sj hj => by
  unfold Nu.set at hj
  split at hj
  · rename_i e; subst e; exact .inr ⟨Nat.le_refl _, Nat.lt_succ_self _⟩
  · exact .inl hj⟩
end
end Go.Proofs.YtlpbbihjnmikkaaGreatDoor.Exe
