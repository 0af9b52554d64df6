/-
  Joined: ExeL
-/
import Derived.Test.YtlpbbihjnmikkaaGreatDoorJ01
namespace Go.Proofs.YtlpbbihjnmikkaaGreatDoor.Exe

section trees
variable {α β : Type}
theorem path_length : ∀ f n, (path f n).length = f
  | 0, _ => rfl
  | f + 1, n => by
    show (path f (n / 8)).length + 1 = f + 1
    rw [path_length f]
/-- A digit's number. -/
def Dg.num : Dg → Nat
  | .d0 => 0
  | .d1 => 1
  | .d2 => 2
  | .d3 => 3
  | .d4 => 4
  | .d5 => 5
  | .d6 => 6
  | .d7 => 7
theorem digit_num : ∀ n, n < 8 → (digit n).num = n := by decide
theorem digit_mod (n : Nat) : digit n = digit (n % 8) := by
  unfold digit
  rw [show Nat.mod (n % 8) 8 = Nat.mod n 8 from Nat.mod_mod n 8]
theorem digit_inj {n m : Nat} (h : digit n = digit m) : n % 8 = m % 8 := by
  rw [digit_mod n, digit_mod m] at h
  rw [← digit_num (n % 8) (Nat.mod_lt _ (by decide)), ← digit_num (m % 8) (Nat.mod_lt _ (by decide)), h]
theorem path_inj : ∀ f n m, n < 8 ^ f → m < 8 ^ f → path f n = path f m → n = m
  | 0, n, m, hn, hm, _ => by simp at hn hm; omega
  | f + 1, n, m, hn, hm, h => by
    have h' : digit n :: path f (n / 8) = digit m :: path f (m / 8) := h
    simp only [List.cons.injEq] at h'
    have hd : n / 8 = m / 8 := path_inj f _ _ (by rw [Nat.pow_succ] at hn; omega) (by rw [Nat.pow_succ] at hm; omega) h'.2
    have := digit_inj h'.1
    omega
/-- What a wrap holds. -/
def W.out {α : Type} : W α → α
  | .mk a => a
theorem W.eq {α : Type} (w : W α) : w = .mk w.out := by cases w; rfl
theorem W.rec_out {α β : Type} (w : W α) (f : α → β) : (W.rec f w : β) = f w.out := by cases w; rfl
/-- A tree's branch. -/
def Tr.kid (t : Tr α) (g : Dg) : Tr α := match t, g with
  | .node a _ _ _ _ _ _ _, .d0 => a
  | .node _ a _ _ _ _ _ _, .d1 => a
  | .node _ _ a _ _ _ _ _, .d2 => a
  | .node _ _ _ a _ _ _ _, .d3 => a
  | .node _ _ _ _ a _ _ _, .d4 => a
  | .node _ _ _ _ _ a _ _, .d5 => a
  | .node _ _ _ _ _ _ a _, .d6 => a
  | .node _ _ _ _ _ _ _ a, .d7 => a
  | _, _ => .leaf
theorem get_cons (z : β) (f : α → β) (g : Dg) (p : List Dg) (t : Tr α) (hz : (Tr.get z f p).out .leaf = z) : (Tr.get z f (g :: p)).out t = (Tr.get z f p).out (t.kid g) := by
  have e : Tr.get z f (g :: p) = W.rec (fun k => Dg.rec (.mk (Tr.get0 z k)) (.mk (Tr.get1 z k)) (.mk (Tr.get2 z k)) (.mk (Tr.get3 z k)) (.mk (Tr.get4 z k)) (.mk (Tr.get5 z k)) (.mk (Tr.get6 z k)) (.mk (Tr.get7 z k)) g) (Tr.get z f p) := rfl
  rw [e, W.rec_out]
  cases g <;> cases t <;> first | rfl | exact hz.symm
theorem get_leaf (z : β) (f : α → β) : ∀ p : List Dg, (Tr.get z f p).out .leaf = z
  | [] => rfl
  | g :: p => by rw [get_cons z f g p .leaf (get_leaf z f p)]; cases g <;> exact get_leaf z f p
theorem get_at (z : β) (f : α → β) (g : Dg) (p : List Dg) (t : Tr α) : (Tr.get z f (g :: p)).out t = (Tr.get z f p).out (t.kid g) := get_cons z f g p t (get_leaf z f p)
theorem put_cons (a : Option α) (g g' : Dg) (p : List Dg) (t : Tr α) : ((Tr.put (g :: p)).out a t).kid g' = if g' = g then (Tr.put p).out a (t.kid g) else t.kid g' := by
  have e : (Tr.put (g :: p) : W (Option α → Tr α → Tr α)) = W.rec (fun k => Dg.rec (.mk (Tr.put0 k)) (.mk (Tr.put1 k)) (.mk (Tr.put2 k)) (.mk (Tr.put3 k)) (.mk (Tr.put4 k)) (.mk (Tr.put5 k)) (.mk (Tr.put6 k)) (.mk (Tr.put7 k)) g) (Tr.put p) := rfl
  rw [e, W.rec_out]
  cases g <;> cases g' <;> cases t <;> first | (rw [if_pos rfl]; rfl) | (rw [if_neg (by intro h; cases h)]; rfl)
theorem get_put (z : β) (f : α → β) (a : Option α) : ∀ (p q : List Dg) (t : Tr α), p.length = q.length → (Tr.get z f q).out ((Tr.put p).out a t) = if q = p then Option.rec z f a else (Tr.get z f q).out t
  | [], q, t, hl => by
    obtain rfl : q = [] := List.length_eq_zero_iff.1 hl.symm
    rw [if_pos rfl]
    cases a <;> rfl
  | g :: p, [], _, hl => by simp at hl
  | g :: p, g' :: q, t, hl => by
    rw [get_at, put_cons, get_at]
    by_cases hg : g' = g
    · subst hg
      rw [if_pos rfl, get_put z f a p q _ (by simpa using hl)]
      simp
    · rw [if_neg hg, if_neg (by simp [hg])]
end trees
section
theorem ble_false {n m : Nat} (h : m < n) : Nat.ble n m = false := by rw [Bool.eq_false_iff]; intro hb; have := Nat.le_of_ble_eq_true hb; omega
theorem at_eq (h : Heap D) (k : Nat) : h.at k = if k < 32768 then (Tr.get none some (path 5 k)).out h else none := by
  unfold Heap.at
  by_cases hk : k < 32768
  · rw [ble_false hk, if_pos hk]
    exact W.rec_out _ _
  · rw [Nat.ble_eq_true_of_le (by omega), if_neg hk]
theorem at_lay {h : Heap D} {t : Option (Thing D)} {k j : Nat} (hk : k < 32768) : (h.lay k t).at j = if j = k then t else h.at j := by
  rw [at_eq, at_eq]
  have e : h.lay k t = (Tr.put (path 5 k)).out t h := W.rec_out _ _
  by_cases hj : j < 32768
  · rw [if_pos hj, if_pos hj, e, get_put _ _ _ _ _ _ (by rw [path_length, path_length])]
    by_cases he : j = k
    · subst he; rw [if_pos rfl, if_pos rfl]; cases t <;> rfl
    · rw [if_neg he, if_neg fun h => he (path_inj 5 j k (by omega) (by omega) h)]
  · rw [if_neg hj, if_neg hj, if_neg (by omega)]
theorem at_lt {h : Heap D} {k : Nat} {t : Thing D} (he : h.at k = some t) : k < 32768 := by
  rw [at_eq] at he
  split at he
  · assumption
  · cases he
theorem bit_test (k j : Nat) : (bit k).testBit j = decide (k = j) := by
  show (2 ^ k).testBit j = _
  rw [Nat.testBit_two_pow]
theorem lor_test (a b j : Nat) : (Nat.lor a b).testBit j = (a.testBit j || b.testBit j) := Nat.testBit_or a b j
theorem lor_zero (a : Nat) : Nat.lor a 0 = a := Nat.or_zero a
theorem zero_lor (a : Nat) : Nat.lor 0 a = a := Nat.zero_or a
theorem lor_lor (a b c : Nat) : Nat.lor (Nat.lor a b) c = Nat.lor a (Nat.lor b c) := Nat.or_assoc a b c

/-- One run of a step, with its own reads and writes. -/
structure Moves {α : Type} (m : M D α) (h : Heap D) (nx : Nat) (a : α) (h' : Heap D) (nx' dr dw : Nat) : Prop where
  mono : nx ≤ nx'
  frame : ∀ k, dw.testBit k = false → h'.at k = h.at k
  move : ∀ g : Heap D, (∀ k, dr.testBit k = true ∨ dw.testBit k = true → g.at k = h.at k) →
    ∃ g', (∀ r w, m g nx r w = .ok a g' nx' (Nat.lor r dr) (Nat.lor w dw)) ∧ (∀ k, dw.testBit k = true → g'.at k = h'.at k) ∧ ∀ k, dw.testBit k = false → g'.at k = g.at k
def Loc {α : Type} (m : M D α) : Prop := ∀ h nx r w a h' nx' r' w', m h nx r w = .ok a h' nx' r' w' → ∃ dr dw, r' = Nat.lor r dr ∧ w' = Nat.lor w dw ∧ Moves m h nx a h' nx' dr dw
theorem Loc.ret {α : Type} (a : α) : Loc (M.ret a : M D α) := fun h nx r w a h' nx' r' w' he => by
  cases he
  exact ⟨0, 0, (lor_zero _).symm, (lor_zero _).symm, Nat.le_refl _, fun _ _ => rfl, fun g _ => ⟨g, fun r w => by rw [lor_zero, lor_zero]; rfl, fun k hk => by simp at hk, fun _ _ => rfl⟩⟩
theorem Loc.bad {α : Type} (n : Nat) : Loc (bad n : M D α) := fun h nx r w a h' nx' r' w' he => by cases he
theorem bind_ok {α β : Type} {m : M D α} {f : α → M D β} {h : Heap D} {nx r w : Nat} {b : β} {h2 : Heap D} {n2 r2 w2 : Nat} (he : M.bind m f h nx r w = .ok b h2 n2 r2 w2) :
    ∃ a h1 n1 r1 w1, m h nx r w = .ok a h1 n1 r1 w1 ∧ f a h1 n1 r1 w1 = .ok b h2 n2 r2 w2 := by
  unfold M.bind at he
  cases hm : m h nx r w with
  | bad n => rw [hm] at he; cases he
  | ok a h1 n1 r1 w1 => rw [hm] at he; exact ⟨a, h1, n1, r1, w1, rfl, he⟩
theorem bind_eq {α β : Type} {m : M D α} {f : α → M D β} {h : Heap D} {nx r w : Nat} {a : α} {h1 : Heap D} {n1 r1 w1 : Nat} (hm : m h nx r w = .ok a h1 n1 r1 w1) : M.bind m f h nx r w = f a h1 n1 r1 w1 := by
  unfold M.bind
  rw [hm]
/-- Two moves, one behind the other. -/
theorem Moves.seq {α β γ : Type} {m : M D α} {f : M D β} {q : M D γ} {h h1 h2 : Heap D} {nx n1 n2 dr dw dr' dw' : Nat} {a : α} {b : β} {c : γ} (m1 : Moves m h nx a h1 n1 dr dw) (m2 : Moves f h1 n1 b h2 n2 dr' dw')
    (hq : ∀ g g1 g2 : Heap D, (∀ r w, m g nx r w = .ok a g1 n1 (Nat.lor r dr) (Nat.lor w dw)) → (∀ r w, f g1 n1 r w = .ok b g2 n2 (Nat.lor r dr') (Nat.lor w dw')) → ∀ r w, q g nx r w = .ok c g2 n2 (Nat.lor r (Nat.lor dr dr')) (Nat.lor w (Nat.lor dw dw'))) :
    Moves q h nx c h2 n2 (Nat.lor dr dr') (Nat.lor dw dw') where
  mono := Nat.le_trans m1.mono m2.mono
  frame k hk := by
    rw [lor_test, Bool.or_eq_false_iff] at hk
    exact (m2.frame k hk.2).trans (m1.frame k hk.1)
  move g hg := by
    simp only [lor_test, Bool.or_eq_true] at hg
    obtain ⟨g1, q1, k1, f1⟩ := m1.move g fun k hk => hg k (by rcases hk with h | h <;> simp [h])
    have hgh : ∀ k, g.at k = h.at k → g1.at k = h1.at k := fun k hk => by
      cases hw : dw.testBit k
      · rw [f1 k hw, m1.frame k hw]; exact hk
      · exact k1 k hw
    obtain ⟨g2, q2, k2, f2⟩ := m2.move g1 fun k hk => hgh k (hg k (by rcases hk with h | h <;> simp [h]))
    refine ⟨g2, hq g g1 g2 q1 q2, fun k hk => ?_, fun k hk => ?_⟩
    · rw [lor_test, Bool.or_eq_true] at hk
      cases hw : dw'.testBit k
      · rw [f2 k hw, m2.frame k hw]
        exact k1 k (hk.resolve_right (by simp [hw]))
      · exact k2 k hw
    · rw [lor_test, Bool.or_eq_false_iff] at hk
      exact (f2 k hk.2).trans (f1 k hk.1)
theorem Loc.bind {α β : Type} {m : M D α} {f : α → M D β} (hm : Loc m) (hf : ∀ a, Loc (f a)) : Loc (M.bind m f) := fun h nx r w b h2 n2 r2 w2 he => by
  obtain ⟨a, h1, n1, r1, w1, e1, e2⟩ := bind_ok he
  obtain ⟨dr, dw, rfl, rfl, m1⟩ := hm _ _ _ _ _ _ _ _ _ e1
  obtain ⟨dr', dw', rfl, rfl, m2⟩ := hf a _ _ _ _ _ _ _ _ _ e2
  refine ⟨_, _, lor_lor _ _ _, lor_lor _ _ _, m1.seq m2 fun g g1 g2 q1 q2 r w => ?_⟩
  rw [bind_eq (q1 r w), q2, lor_lor, lor_lor]
theorem Loc.chk {α : Type} (n : Nat) (b : Bool) {m : M D α} (h : Loc m) : Loc (chk n b m) := by cases b; exact Loc.bad n; exact h
theorem rd_ok {k : Nat} {h : Heap D} {nx r w : Nat} {t : Thing D} {h' : Heap D} {nx' r' w' : Nat} (he : rd k h nx r w = .ok t h' nx' r' w') : h.at k = some t ∧ h' = h ∧ nx' = nx ∧ r' = Nat.lor r (bit k) ∧ w' = w := by
  unfold Exe.rd at he
  cases hk : h.at k with
  | none => rw [hk] at he; cases he
  | some t' =>
    rw [hk] at he
    simp only [force_eq] at he
    cases he
    exact ⟨rfl, rfl, rfl, rfl, rfl⟩
theorem rd_eq {k : Nat} {h : Heap D} {t : Thing D} (hk : h.at k = some t) (nx r w : Nat) : rd k h nx r w = .ok t h nx (Nat.lor r (bit k)) w := by
  unfold Exe.rd
  rw [hk]
  simp only [force_eq]
theorem Loc.rd (k : Nat) : Loc (rd k : M D (Thing D)) := fun h nx r w t h' nx' r' w' he => by
  obtain ⟨hk, rfl, rfl, rfl, rfl⟩ := rd_ok he
  refine ⟨bit k, 0, rfl, (lor_zero _).symm, Nat.le_refl _, fun _ _ => rfl, fun g hg => ⟨g, fun r w => ?_, fun j hj => by simp at hj, fun _ _ => rfl⟩⟩
  rw [rd_eq ((hg k (.inl (by rw [bit_test]; simp))).trans hk), lor_zero]
theorem wr_ok {k : Nat} {t : Option (Thing D)} {h : Heap D} {nx r w : Nat} {u : Unit} {h' : Heap D} {nx' r' w' : Nat} (he : wr k t h nx r w = .ok u h' nx' r' w') : (∃ t', h.at k = some t') ∧ h' = h.lay k t ∧ nx' = nx ∧ r' = r ∧ w' = Nat.lor w (bit k) := by
  unfold Exe.wr at he
  cases hk : h.at k with
  | none => rw [hk] at he; cases he
  | some t' =>
    rw [hk] at he
    simp only [force_eq] at he
    cases he
    exact ⟨⟨t', rfl⟩, rfl, rfl, rfl, rfl⟩
theorem wr_eq {k : Nat} {h : Heap D} {t' : Thing D} (hk : h.at k = some t') (t : Option (Thing D)) (nx r w : Nat) : wr k t h nx r w = .ok () (h.lay k t) nx r (Nat.lor w (bit k)) := by
  unfold Exe.wr
  rw [hk]
  simp only [force_eq]
theorem Loc.wr (k : Nat) (t : Option (Thing D)) : Loc (wr k t : M D Unit) := fun h nx r w u h' nx' r' w' he => by
  obtain ⟨⟨t', hk⟩, rfl, rfl, rfl, rfl⟩ := wr_ok he
  refine ⟨0, bit k, (lor_zero _).symm, rfl, Nat.le_refl _, fun j hj => ?_, fun g hg => ⟨g.lay k t, fun r w => ?_, fun j hj => ?_, fun j hj => ?_⟩⟩
  · rw [bit_test] at hj
    rw [at_lay (at_lt hk), if_neg (by simpa [eq_comm] using hj)]
  · rw [wr_eq ((hg k (.inr (by rw [bit_test]; simp))).trans hk), lor_zero]
  · rw [bit_test] at hj
    obtain rfl : k = j := by simpa using hj
    rw [at_lay (at_lt hk), at_lay (at_lt hk), if_pos rfl, if_pos rfl]
  · rw [bit_test] at hj
    rw [at_lay (at_lt hk), if_neg (by simpa [eq_comm] using hj)]
theorem new_ok {t : Thing D} {h : Heap D} {nx r w : Nat} {a : Nat} {h' : Heap D} {nx' r' w' : Nat} (he : new t h nx r w = .ok a h' nx' r' w') :
    nx < 32768 ∧ a = nx ∧ h' = h.lay nx (some t) ∧ nx' = nx + 1 ∧ r' = r ∧ w' = Nat.lor w (bit nx) := by
  unfold Exe.new at he
  cases hb : Nat.ble 32768 nx with
  | true => rw [hb] at he; cases he
  | false =>
    rw [hb] at he
    simp only [force_eq] at he
    cases he
    refine ⟨?_, rfl, rfl, rfl, rfl, rfl⟩
    rcases Nat.lt_or_ge nx 32768 with h | h
    · exact h
    · rw [Nat.ble_eq_true_of_le h] at hb; cases hb
theorem new_eq (t : Thing D) (h : Heap D) {nx : Nat} (hn : nx < 32768) (r w : Nat) : new t h nx r w = .ok nx (h.lay nx (some t)) (nx + 1) r (Nat.lor w (bit nx)) := by
  unfold Exe.new
  rw [ble_false hn]
  simp only [force_eq]
theorem Loc.new (t : Thing D) : Loc (new t : M D Nat) := fun h nx r w a h' nx' r' w' he => by
  obtain ⟨hn, rfl, rfl, rfl, rfl, rfl⟩ := new_ok he
  refine ⟨0, bit a, (lor_zero _).symm, rfl, Nat.le_succ _, fun j hj => ?_, fun g _ => ⟨g.lay a (some t), fun r w => ?_, fun j hj => ?_, fun j hj => ?_⟩⟩
  · rw [bit_test] at hj
    rw [at_lay hn, if_neg (by simpa [eq_comm] using hj)]
  · rw [new_eq t g hn, lor_zero]
  · rw [bit_test] at hj
    obtain rfl := of_decide_eq_true hj
    rw [at_lay hn, at_lay hn, if_pos rfl, if_pos rfl]
  · rw [bit_test] at hj
    rw [at_lay hn, if_neg (by simpa [eq_comm] using hj)]
theorem alone_ok {α β : Type} {m : M D α} {f : α → Nat → Nat → M D β} {h : Heap D} {nx r w : Nat} {b : β} {h2 : Heap D} {n2 r2 w2 : Nat} (he : alone m f h nx r w = .ok b h2 n2 r2 w2) :
    ∃ a h1 n1 r1 w1, m h nx 0 0 = .ok a h1 n1 r1 w1 ∧ f a r1 w1 h1 n1 (Nat.lor r r1) (Nat.lor w w1) = .ok b h2 n2 r2 w2 := by
  unfold alone at he
  cases hm : m h nx 0 0 with
  | bad n => rw [hm] at he; cases he
  | ok a h1 n1 r1 w1 =>
    rw [hm] at he
    simp only [force_eq] at he
    exact ⟨a, h1, n1, r1, w1, rfl, he⟩
theorem alone_eq {α β : Type} {m : M D α} {f : α → Nat → Nat → M D β} {h : Heap D} {nx r w : Nat} {a : α} {h1 : Heap D} {n1 r1 w1 : Nat} (hm : m h nx 0 0 = .ok a h1 n1 r1 w1) : alone m f h nx r w = f a r1 w1 h1 n1 (Nat.lor r r1) (Nat.lor w w1) := by
  unfold alone
  rw [hm]
  simp only [force_eq]
theorem Loc.alone {α β : Type} {m : M D α} {f : α → Nat → Nat → M D β} (hm : Loc m) (hf : ∀ a r w, Loc (f a r w)) : Loc (alone m f) := fun h nx r w b h2 n2 r2 w2 he => by
  obtain ⟨a, h1, n1, r1, w1, e1, e2⟩ := alone_ok he
  obtain ⟨dr, dw, er, ew, m1⟩ := hm _ _ _ _ _ _ _ _ _ e1
  rw [zero_lor] at er ew
  subst er ew
  obtain ⟨dr', dw', rfl, rfl, m2⟩ := hf a r1 w1 _ _ _ _ _ _ _ _ _ e2
  refine ⟨_, _, lor_lor _ _ _, lor_lor _ _ _, m1.seq m2 fun g g1 g2 q1 q2 r w => ?_⟩
  have h0 := q1 0 0
  rw [zero_lor, zero_lor] at h0
  rw [alone_eq h0, q2, lor_lor, lor_lor]
end
end Go.Proofs.YtlpbbihjnmikkaaGreatDoor.Exe
