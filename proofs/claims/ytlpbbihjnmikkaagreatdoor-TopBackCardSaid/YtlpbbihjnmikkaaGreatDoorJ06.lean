/-
  Joined: ExeO, ExeP
-/
import Derived.Test.YtlpbbihjnmikkaaGreatDoorJ04
import Derived.Deep.MidRow
import Derived.Deep.AppendSrc
import Derived.Laws.CopyRow
namespace Go.Proofs.YtlpbbihjnmikkaaGreatDoor.Exe
set_option linter.unusedSimpArgs false

section
variable {P : Program} {L : Lore} {ν : Nu} {h : Heap D} {W : World}
def NxOk (ν : Nu) : Nx → Next → Prop
  | .val s, n => ∃ v, RepS ν s v ∧ (n = .value v ∨ (n = .skip ∧ v = undef))
  | .enter f args, n => ∃ args', n = .enter f args' ∧ All2 (RepS ν) args args'.toList
/-- What the reckoner says comes of a step, comes of it. -/
def SimAt (P : Program) (L : Lore) (ν : Nu) (h : Heap D) (W : World) (m : M D Nx) (q : Sem Next) : Prop :=
  ∀ nx r w x h' nx' r' w', m h nx r w = .ok x h' nx' r' w' → Fresh ν nx nx' → ∃ res W' ν', q.run P W = .ok res W' ∧ Ext ν ν' nx nx' ∧ Ok P L ν' h' W' ∧ NxOk ν' x res
theorem SimAt.bad (n : Nat) (q : Sem Next) : SimAt P L ν h W (Exe.bad n) q := fun _ _ _ _ _ _ _ _ he => by cases he
theorem SimAt.chk {n : Nat} {b : Bool} {m : M D Nx} {q : Sem Next} (hm : b = true → SimAt P L ν h W m q) : SimAt P L ν h W (Exe.chk n b m) q := by
  cases b
  · exact SimAt.bad n q
  · exact hm rfl
theorem SimAt.ret {q : Sem Next} {x : Nx} {res : Next} {W' : World} (hq : q.run P W = .ok res W') (hok : Ok P L ν h W') (hx : NxOk ν x res) : SimAt P L ν h W (M.ret x) q := fun nx r w y h' nx' r' w' he _ => by
  cases he
  exact ⟨res, W', ν, hq, Ext.refl _ _, hok, hx⟩
/-- A value. -/
theorem SimAt.val {q : Sem Next} {s : Slot} {v : Value} (hq : q.run P W = .ok (.value v) W) (hok : Ok P L ν h W) (hx : RepS ν s v) : SimAt P L ν h W (M.ret (.val s)) q := SimAt.ret hq hok ⟨v, hx, .inl rfl⟩
theorem SimAt.val1 {q : Sem Next} {c : Cell} {v : Value} (hq : q.run P W = .ok (.value v) W) (hok : Ok P L ν h W) (hx : RepC ν c v) : SimAt P L ν h W (ret1 c) q := SimAt.val hq hok (.one hx)
/-- A new name. -/
theorem SimAt.new {q : Sem Next} {t : Thing D} {g : Nat → Nx}
    (hn : ∀ k, ν k = none → k < 32768 → ∃ s res W', q.run P W = .ok res W' ∧ Ok P L (ν.set k s) (h.lay k (some t)) W' ∧ NxOk (ν.set k s) (g k) res) : SimAt P L ν h W (M.bind (Exe.new t) fun k => M.ret (g k)) q := fun nx r w y h' nx' r' w' he hf => by
  obtain ⟨k, h1, n1, r1, w1, e1, e2⟩ := bind_ok he
  obtain ⟨hk, rfl, rfl, rfl, rfl, rfl⟩ := new_ok e1
  cases e2
  have hnk := hf k (Nat.le_refl _) (Nat.lt_succ_self _)
  obtain ⟨s, res, W', h2, h3, h4⟩ := hn k hnk hk
  exact ⟨res, W', _, h2, Ext.set hnk s, h3, h4⟩
theorem SimAt.new1 {q : Sem Next} {t : Thing D} {g : Nat → Cell}
    (hn : ∀ k, ν k = none → k < 32768 → ∃ s v W', q.run P W = .ok (.value v) W' ∧ Ok P L (ν.set k s) (h.lay k (some t)) W' ∧ RepC (ν.set k s) (g k) v) : SimAt P L ν h W (M.bind (Exe.new t) fun k => ret1 (g k)) q :=
  SimAt.new (g := fun k => .val (.one (g k))) fun k h1 h2 => by
    obtain ⟨s, v, W', h3, h4, h5⟩ := hn k h1 h2
    exact ⟨s, _, W', h3, h4, v, .one h5, .inl rfl⟩
/-- A block's cells. -/
theorem SimAt.rdC {q : Sem Next} {k : Nat} {f : Nat → List Cell → TypeId → M D Nx} (hok : Ok P L ν h W)
    (hf : ∀ n cs e b room c, h.at k = some (.cells n cs e) → ν k = some (.blk b room) → W.heap[b]? = some (.cells c e (0, 0)) → RepL ν cs (c.toList.take n) → n ≤ c.size → (room ≠ 0 → ∃ i, P.info? e = some i ∧ c.size = room * i.size) → SimAt P L ν h W (f n cs e) q) : SimAt P L ν h W (Exe.rdC k f) q := fun nx r w y h' nx' r' w' he hfr => by
  obtain ⟨t, h1, n1, r1, w1, e1, e2⟩ := bind_ok he
  obtain ⟨hk, rfl, rfl, rfl, rfl⟩ := rd_ok e1
  cases t with
  | cells n cs e =>
    obtain ⟨s, hs, ht⟩ := hok.thing k _ hk
    cases s with
    | blk b room =>
      obtain ⟨c, g1, g2, g3, g4⟩ := ht
      exact hf n cs e b room c hk hs g1 g2 g3 g4 _ _ _ _ _ _ _ _ e2 hfr
    | obj r => exact ht.elim
    | val v o s => exact ht.elim
  | map es c => cases e2
  | fn f fs cs => cases e2
  | data d => cases e2
theorem SimAt.rdM {q : Sem Next} {k : Nat} {f : List (Nat × Slot × Nat) → Nat → M D Nx} (hok : Ok P L ν h W)
    (hf : ∀ es c r ms, h.at k = some (.map es c) → ν k = some (.obj r) → W.heap[r]? = some (.map ms c) → All2 (RepM ν) es ms.toList → SimAt P L ν h W (f es c) q) : SimAt P L ν h W (Exe.rdM k f) q := fun nx r w y h' nx' r' w' he hfr => by
  obtain ⟨t, h1, n1, r1, w1, e1, e2⟩ := bind_ok he
  obtain ⟨hk, rfl, rfl, rfl, rfl⟩ := rd_ok e1
  cases t with
  | map es c =>
    obtain ⟨s, hs, ht⟩ := hok.thing k _ hk
    cases s with
    | obj r =>
      obtain ⟨ms, g1, g2⟩ := ht
      exact hf es c r ms hk hs g1 g2 _ _ _ _ _ _ _ _ e2 hfr
    | blk b room => exact ht.elim
    | val v o s => exact ht.elim
  | cells n cs e => cases e2
  | fn f fs cs => cases e2
  | data d => cases e2
theorem SimAt.rdF {q : Sem Next} {k : Nat} {f : FuncId → List Slot → List Slot → M D Nx} (hok : Ok P L ν h W)
    (hf : ∀ g fs cs v o s fs' cs', ν k = some (.val v o s) → v = .func (.func g) fs' cs' → All2 (RepS ν) fs fs'.toList → All2 (RepS ν) cs cs'.toList → SimAt P L ν h W (f g fs cs) q) : SimAt P L ν h W (Exe.rdF k f) q := fun nx r w y h' nx' r' w' he hfr => by
  obtain ⟨t, h1, n1, r1, w1, e1, e2⟩ := bind_ok he
  obtain ⟨hk, rfl, rfl, rfl, rfl⟩ := rd_ok e1
  cases t with
  | fn g fs cs =>
    obtain ⟨s, hs, ht⟩ := hok.thing k _ hk
    cases s with
    | val v o s =>
      obtain ⟨fs', cs', g1, g2, g3, _⟩ := ht
      exact hf g fs cs v o s fs' cs' hs g1 g2 g3 _ _ _ _ _ _ _ _ e2 hfr
    | blk b room => exact ht.elim
    | obj r => exact ht.elim
  | cells n cs e => cases e2
  | map es c => cases e2
  | data d => cases e2
theorem SimAt.rdD {q : Sem Next} {k : Nat} {f : D → M D Nx} (hok : Ok P L ν h W)
    (hf : ∀ d v o s, ν k = some (.val v o s) → L.conc d v o s W → SimAt P L ν h W (f d) q) : SimAt P L ν h W (Exe.rdD k f) q := fun nx r w y h' nx' r' w' he hfr => by
  obtain ⟨t, h1, n1, r1, w1, e1, e2⟩ := bind_ok he
  obtain ⟨hk, rfl, rfl, rfl, rfl⟩ := rd_ok e1
  cases t with
  | data d =>
    obtain ⟨s, hs, ht⟩ := hok.thing k _ hk
    cases s with
    | val v o s => exact hf d v o s hs ht _ _ _ _ _ _ _ _ e2 hfr
    | blk b room => exact ht.elim
    | obj r => exact ht.elim
  | cells n cs e => cases e2
  | map es c => cases e2
  | fn g fs cs => cases e2
/-- A block's cells become others. -/
theorem SimAt.wr {q : Sem Next} {k n n' b room : Nat} {cs cs' : List Cell} {e : TypeId} {x : Nx} {res : Next} {c : Array Value} (hok : Ok P L ν h W) (hk : h.at k = some (.cells n cs e)) (hs : ν k = some (.blk b room)) (hb : W.heap[b]? = some (.cells c e (0, 0)))
    (hroom : room ≠ 0 → ∃ i, P.info? e = some i ∧ c.size = room * i.size) {c' : Array Value} (hq : q.run P W = .ok res (W.setRow b c')) (hsize : c'.size = c.size) (hn : n' ≤ c.size) (hr : RepL ν cs' (c'.toList.take n')) (hx : NxOk ν x res) :
    SimAt P L ν h W (M.bind (Exe.wr k (some (.cells n' cs' e))) fun _ => M.ret x) q := fun nx r w y h' nx' r' w' he hfr => by
  obtain ⟨u, h1, n1, r1, w1, e1, e2⟩ := bind_ok he
  obtain ⟨_, rfl, rfl, rfl, rfl⟩ := wr_ok e1
  cases e2
  refine ⟨res, _, ν, hq, Ext.refl _ _, hok.step (Sub.refl _) (at_lt hk) (fun j tj sj hj hjt hjs i hi => ?_) (fun t0 ht0 => ?_), hx⟩
  · refine setRow_other _ _ _ _ fun e => ?_
    subst e
    have := hok.apart k j _ tj _ sj (fun e => hj e.symm) hk hjt hs hjs i rfl
    exact hi.elim this.1 this.2
  · cases ht0
    refine ⟨.blk b room, hs, ⟨c', setRow_heap W b c c' e (0, 0) hb, hr, by rw [hsize]; exact hn, fun h0 => by rw [hsize]; exact hroom h0⟩, fun j tj sj hj hjt hjs i => ?_⟩
    exact ⟨fun hi => hok.apart k j _ tj _ sj (fun e => hj e.symm) hk hjt hs hjs i hi, fun hi => ⟨fun e => (hok.apart j k tj _ sj _ hj hjt hk hjs hs i hi).1 e, fun e => e⟩⟩
/-- A new block. -/
theorem Ok.alloc {t : Thing D} (hok : Ok P L ν h W) {k : Nat} (hk : ν k = none) (hk3 : k < 32768) {W1 : World} (hW : ∀ i : Nat, i < W.heap.size → W1.heap[i]? = W.heap[i]?) (hsz : W1.heap.size = W.heap.size) (hcm : Calm W W1) (o : Obj) {s : Site} (hown : ∀ i, s.own i → i = W.heap.size) (hsee : ∀ i, ¬ s.sees i)
    (ht : ThingOk P L (ν.set k s) (W1.alloc o) s t) : Ok P L (ν.set k s) (h.lay k (some t)) (W1.alloc o) := by
  have hold : ∀ i : Nat, i < W.heap.size → (W1.alloc o).heap[i]? = W.heap[i]? := fun i hi => by
    rw [← hW i hi]
    simp only [World.alloc]
    rw [Array.getElem?_push_lt (by omega), Array.getElem?_eq_getElem (by omega)]
  refine hok.step (Sub.set hk s) hk3 (fun j tj sj hj hjt hjs i hi => ?_) (fun t0 ht0 => ?_) hcm
  · obtain ⟨s', h1, h2⟩ := hok.thing j tj hjt
    rw [hjs] at h1
    cases h1
    exact hold i (h2.lt i hi)
  · cases ht0
    refine ⟨s, Nu.set_same _ _ _, ht, fun j tj sj hj hjt hjs i => ?_⟩
    obtain ⟨s', h1, h2⟩ := hok.thing j tj hjt
    rw [hjs] at h1
    cases h1
    refine ⟨fun hi => ?_, fun hi => ⟨fun hi' => ?_, hsee i⟩⟩
    · have := hown i hi
      exact ⟨fun hj' => by have := h2.lt i (.inl hj'); omega, fun hj' => by have := h2.lt i (.inr hj'); omega⟩
    · have := hown i hi'
      have := h2.lt i (.inl hi)
      omega

section slots
variable {q : Sem Next}
theorem SimAt.asTok {n : Nat} {s : Slot} {f : Nat → M D Nx} {v : Value} (hs : RepS ν s v) (hf : ∀ k o e, ν k = some (.val v o e) → SimAt P L ν h W (f k) q) : SimAt P L ν h W (Exe.asTok n s f) q := by
  cases hs with
  | one hc => cases hc <;> first | exact hf _ _ _ (by assumption) | exact SimAt.bad _ _
  | agg _ _ => exact SimAt.bad _ _
  | tup _ => exact SimAt.bad _ _
/-- A word made of a word. -/
theorem tokTo_sim (hok : Ok P L ν h W) {n : Nat} {g : D → Option D} {s : Slot} {v : Value} (hs : RepS ν s v) (hg : ∀ d d' o e, g d = some d' → L.conc d v o e W → ∃ u, q.run P W = .ok (.value u) W ∧ u.oneCell' = true ∧ L.conc d' u (fun _ => False) (fun _ => False) W) : SimAt P L ν h W (tokTo n g s) q := by
  unfold tokTo
  refine SimAt.asTok hs fun k o e hk => SimAt.rdD hok fun d v' o' e' hk' hc => ?_
  rw [hk] at hk'
  cases hk'
  cases hd : g d with
  | none => exact SimAt.bad _ _
  | some d' =>
    obtain ⟨u, h1, h2, h3⟩ := hg d d' o e hd hc
    refine SimAt.new1 (g := fun k => .tok k) fun j hj hj3 => ⟨.val u (fun _ => False) (fun _ => False), u, W, h1, ?_, .tok (Nu.set_same _ _ _) h2⟩
    refine hok.step (Sub.set hj _) hj3 (fun _ _ _ _ _ _ _ _ => rfl) fun t0 ht0 => ?_
    cases ht0
    exact ⟨_, Nu.set_same _ _ _, h3, fun i ti si hi hit his b => ⟨fun hb => hb.elim, fun _ => ⟨fun hb => hb.elim, fun hb => hb.elim⟩⟩⟩
theorem SimAt.asPtr {n : Nat} {s : Slot} {f : Nat → Nat → M D Nx} {v : Value} (hs : RepS ν s v) (hf : ∀ k off b room, ν k = some (.blk b room) → v = .pointer (some ⟨b, off, none⟩) → SimAt P L ν h W (f k off) q) : SimAt P L ν h W (Exe.asPtr n s f) q := by
  cases hs with
  | one hc => cases hc <;> first | exact SimAt.bad n q | exact hf _ _ _ _ (by assumption) rfl
  | agg _ _ => exact SimAt.bad n q
  | tup _ => exact SimAt.bad n q
theorem SimAt.asNat {n : Nat} {s : Slot} {f : Nat → M D Nx} {v : Value} (hs : RepS ν s v) (hf : ∀ m, m < 9223372036854775808 → v = .int .i64 (.ofNat m) → SimAt P L ν h W (f m) q) : SimAt P L ν h W (Exe.asNat n s f) q := by
  cases hs with
  | one hc => cases hc <;> first | exact SimAt.bad n q | exact hf _ (by assumption) rfl
  | agg _ _ => exact SimAt.bad n q
  | tup _ => exact SimAt.bad n q
theorem natV_eq {v : Value} {m : Nat} (h : natV v = some m) : ∃ k, v = .int k (.ofNat m) := by
  cases v <;> try (cases h; done)
  rename_i k n
  cases n <;> cases h
  exact ⟨k, rfl⟩
theorem SimAt.asIx {n : Nat} {s : Slot} {f : Nat → M D Nx} {v : Value} (hs : RepS ν s v) (hf : ∀ m k, v = .int k (.ofNat m) → SimAt P L ν h W (f m) q) : SimAt P L ν h W (Exe.asIx n s f) q := by
  cases hs with
  | one hc =>
    cases hc with
    | flat v hv =>
      show SimAt P L ν h W (Option.rec (Exe.bad n) f (natV v)) q
      cases hn : natV v with
      | none => exact SimAt.bad n q
      | some m =>
        obtain ⟨k, rfl⟩ := natV_eq hn
        exact hf m k rfl
    | nat m _ => exact hf m .i64 rfl
    | _ => exact SimAt.bad n q
  | agg _ _ => exact SimAt.bad n q
  | tup _ => exact SimAt.bad n q
theorem boolV {b : Bool} {v : Value} (h : RepC ν (.bool b) v) : v = .bool b := by cases h; rfl
theorem SimAt.asBool {n : Nat} {s : Slot} {f : Bool → M D Nx} {v : Value} (hs : RepS ν s v) (hf : ∀ b, v = .bool b → SimAt P L ν h W (f b) q) : SimAt P L ν h W (Exe.asBool n s f) q := by
  cases hs with
  | one hc => cases hc <;> first | exact SimAt.bad n q | exact hf _ rfl
  | agg _ _ => exact SimAt.bad n q
  | tup _ => exact SimAt.bad n q
theorem SimAt.asMap {n : Nat} {s : Slot} {f : Nat → M D Nx} {v : Value} (hs : RepS ν s v) (hf : ∀ k r, ν k = some (.obj r) → v = .map (some r) → SimAt P L ν h W (f k) q) : SimAt P L ν h W (Exe.asMap n s f) q := by
  cases hs with
  | one hc => cases hc <;> first | exact SimAt.bad n q | exact hf _ _ (by assumption) rfl
  | agg _ _ => exact SimAt.bad n q
  | tup _ => exact SimAt.bad n q
theorem SimAt.asAgg {n : Nat} {s : Slot} {f : Nat → List Cell → M D Nx} {v : Value} (hs : RepS ν s v) (hf : ∀ m cs vs, v = .agg vs → RepL ν cs vs.toList → cs.length = m → SimAt P L ν h W (f m cs) q) : SimAt P L ν h W (Exe.asAgg n s f) q := by
  cases hs with
  | one hc => exact SimAt.bad n q
  | agg hl hn => exact hf _ _ _ rfl hl hn
  | tup _ => exact SimAt.bad n q
/-- What is not a tuple, as cells. -/
theorem SimAt.asCells {n : Nat} {s : Slot} {f : Nat → List Cell → M D Nx} {v : Value} (hs : RepS ν s v) (hf : ∀ m cs, RepL ν cs v.cells.toList → cs.length = m → SimAt P L ν h W (f m cs) q) : SimAt P L ν h W (Exe.asCells n s f) q := by
  cases hs with
  | one hc => exact hf _ _ (by rw [cells_one hc.single]; exact .cons hc .nil) rfl
  | agg hl hn => exact hf _ _ hl hn
  | tup _ => exact SimAt.bad n q
theorem isNilRow_eq {v : Value} (h : isNilRow v = true) : v = .slice none 0 0 := by
  unfold isNilRow at h
  split at h
  · rfl
  · cases h
theorem SimAt.asRow {n : Nat} {s : Slot} {z : M D Nx} {f : Nat → Nat → Nat → Cap → M D Nx} {v : Value} (hs : RepS ν s v) (hz : v = .slice none 0 0 → SimAt P L ν h W z q)
    (hf : ∀ k off m c, (∃ b room c', ν k = some (.blk b room) ∧ CapOk room off m c' c ∧ v = .slice (some ⟨b, off, none⟩) m c') ∨ (c = .lost ∧ m = 0 ∧ ∃ a c', v = .slice (some a) 0 c') → SimAt P L ν h W (f k off m c) q) : SimAt P L ν h W (Exe.asRow n s z f) q := by
  cases hs with
  | one hc =>
    cases hc with
    | flat v hv => exact SimAt.chk fun h => hz (isNilRow_eq h)
    | row hk hc => exact hf _ _ _ _ (.inl ⟨_, _, _, hk, hc, rfl⟩)
    | lost k off c' a => exact hf _ _ _ _ (.inr ⟨rfl, rfl, a, c', rfl⟩)
    | _ => exact SimAt.bad n q
  | agg _ _ => exact SimAt.bad n q
  | tup _ => exact SimAt.bad n q
end slots
end
end Go.Proofs.YtlpbbihjnmikkaaGreatDoor.Exe

namespace Go.Proofs.YtlpbbihjnmikkaaGreatDoor.Exe
set_option linter.unusedSimpArgs false

section lists
variable {α : Type}
theorem dropN_eq : ∀ (n : Nat) (l : List α), dropN n l = l.drop n
  | 0, _ => rfl
  | _ + 1, [] => rfl
  | n + 1, _ :: l => dropN_eq n l
theorem takeN_eq : ∀ (n : Nat) (l : List α), takeN n l = l.take n
  | 0, _ => rfl
  | _ + 1, [] => rfl
  | n + 1, a :: l => congrArg (a :: ·) (takeN_eq n l)
theorem app_eq : ∀ (l k : List α), app l k = l ++ k
  | [], _ => rfl
  | a :: l, k => congrArg (a :: ·) (app_eq l k)
theorem len_eq : ∀ (l : List α), len l = l.length
  | [] => rfl
  | _ :: l => congrArg (· + 1) (len_eq l)
theorem item_eq (z : α) (n : Nat) (l : List α) : item z n l = (l[n]?).getD z := by
  unfold item
  rw [dropN_eq]
  induction l generalizing n with
  | nil => simp
  | cons a l ih =>
    cases n with
    | zero => rfl
    | succ n => simpa using ih n
theorem over_eq : ∀ (vs cs : List α), vs.length ≤ cs.length → over vs cs = vs ++ cs.drop vs.length
  | [], _, _ => rfl
  | _ :: _, [], h => by simp at h
  | v :: vs, c :: cs, h => congrArg (v :: ·) (over_eq vs cs (by simpa using h))
theorem lay_eq : ∀ (off : Nat) (vs cs : List α), off + vs.length ≤ cs.length → lay off vs cs = cs.take off ++ vs ++ cs.drop (off + vs.length)
  | 0, vs, cs, h => by
    show over vs cs = _
    rw [over_eq vs cs (by omega)]
    simp
  | off + 1, vs, [], h => by simp at h
  | off + 1, vs, c :: cs, h => by
    show c :: lay off vs cs = _
    rw [lay_eq off vs cs (by simp at h; omega), show off + 1 + vs.length = (off + vs.length) + 1 by omega]
    simp
theorem cut_eq {off n m : Nat} {cs : List Cell} (hl : cs.length = m) (h : off + n ≤ m) : cut off n m cs = (cs.drop off).take n := by
  unfold cut
  cases hb : Nat.beq n m with
  | false => rw [takeN_eq, dropN_eq]
  | true =>
    have : n = m := Nat.eq_of_beq_eq_true hb
    obtain rfl : off = 0 := by omega
    subst this
    subst hl
    simp
theorem layIn_eq {off n m : Nat} {vs cs : List Cell} (hl : cs.length = m) (hv : vs.length = n) (h : off + n ≤ m) : layIn off n m vs cs = cs.take off ++ vs ++ cs.drop (off + n) := by
  unfold layIn
  cases hb : Nat.beq n m with
  | false =>
    show lay off vs cs = _
    rw [lay_eq off vs cs (by omega), hv]
  | true =>
    have : n = m := Nat.eq_of_beq_eq_true hb
    obtain rfl : off = 0 := by omega
    subst this
    simp [← hl]
theorem noughts_length (z : List Cell) : ∀ n, (noughts z n).length = n * z.length
  | 0 => by rw [Nat.zero_mul]; rfl
  | n + 1 => by
    show (app z (noughts z n)).length = _
    rw [app_eq, List.length_append, noughts_length z n, Nat.succ_mul, Nat.add_comm]
theorem all_eq : ∀ (fs : List (Env → Slot)) (env : Env), all fs env = fs.map (· env)
  | [], _ => rfl
  | _ :: fs, env => congrArg (_ :: ·) (all_eq fs env)
end lists

def valS (s : Sem Value) : Sem Next := do pure (.value (← s))
def unitS (s : Sem Unit) : Sem Next := do s; pure .skip
section
variable {P : Program} {W W' : World}
theorem run_valS {s : Sem Value} {v : Value} (h : s.run P W = .ok v W') : (valS s).run P W = .ok (.value v) W' := by
  unfold valS
  rw [Sem.run_bind, h]
  rfl
theorem run_unitS {s : Sem Unit} (h : s.run P W = .ok () W') : (unitS s).run P W = .ok .skip W' := by
  unfold unitS
  rw [Sem.run_bind, h]
  rfl
theorem kind_one {t : TypeId} (h : kindOf P t = some .one) : ∃ d, P.underlying t = some d ∧ d.isRow = false := by
  unfold kindOf aggB at h
  cases hu : P.underlying t with
  | none => rw [hu] at h; simp at h
  | some d =>
    rw [hu] at h
    refine ⟨d, rfl, ?_⟩
    cases d <;> first | rfl | (simp only at h; split at h <;> cases h)
theorem kind_many {t : TypeId} {n : Nat} (h : kindOf P t = some (.many n)) : ∃ d i, P.underlying t = some d ∧ d.isRow = true ∧ P.info? t = some i ∧ i.size = n := by
  unfold kindOf aggB szOf at h
  cases hu : P.underlying t with
  | none => rw [hu] at h; simp at h
  | some d =>
    rw [hu] at h
    cases hi : P.info? t with
    | none => rw [hi] at h; cases d <;> simp at h
    | some i =>
      rw [hi] at h
      refine ⟨d, i, rfl, ?_, rfl, ?_⟩
      · cases d <;> first | rfl | (simp at h; done)
      · cases d <;> simp at h <;> exact h
theorem run_isAgg {t : TypeId} {d : TypeDesc} (hu : P.underlying t = some d) (w : World) : (isAgg t).run P w = .ok d.isRow w := by
  unfold isAgg
  rw [Sem.run_bind, run_underlying hu w]
  cases d <;> rfl
theorem run_loadVar_one {t : TypeId} {d : TypeDesc} (hu : P.underlying t = some d) (hr : d.isRow = false) {b off : Nat} {c : Array Value} {e : TypeId} {v : Value} (hb : W.heap[b]? = some (.cells c e (0, 0))) (hv : c[off]? = some v) : (loadVar t ⟨b, off, none⟩).run P W = .ok v W := by
  unfold loadVar
  rw [Sem.run_bind, run_isAgg hu, hr]
  have hc : W.cell? ⟨b, off, none⟩ = some v := by simp [World.cell?, hb, hv]
  simp [load, Sem.run, hc]
theorem range_of {b off n : Nat} {c : Array Value} {e : TypeId} (hb : W.heap[b]? = some (.cells c e (0, 0))) : W.rangeAt b off ((c.toList.drop off).take n) := fun j v hv => by
  have : c[off + j]? = some v := by
    rw [List.getElem?_take] at hv
    split at hv
    · rw [List.getElem?_drop] at hv
      simpa using hv
    · cases hv
  simp [World.cell?, hb, this]
end
section
variable {P : Program} {L : Lore} {ν : Nu} {h : Heap D} {W : World}
theorem RepL.item {cs : List Cell} {vs : List Value} (hr : RepL ν cs vs) {n : Nat} (hn : n < cs.length) : ∃ v, vs[n]? = some v ∧ RepC ν (item zeroC n cs) v := by
  have hl := hr.length
  obtain ⟨v, hv⟩ : ∃ v, vs[n]? = some v := ⟨vs[n]'(by omega), List.getElem?_eq_getElem (by omega)⟩
  refine ⟨v, hv, ?_⟩
  rw [item_eq, List.getElem?_eq_getElem hn]
  exact hr.get (List.getElem?_eq_getElem hn) hv
/-- A part of something that is known cell by cell. -/
theorem part_one {cs : List Cell} {c : Array Value} {n : Nat} (hr : RepL ν cs (c.toList.take n)) (hn : n ≤ c.size) {off : Nat} (ho : off < n) : ∃ v, c[off]? = some v ∧ RepC ν (item zeroC off cs) v := by
  have hl : cs.length = n := by rw [hr.length]; simp; omega
  obtain ⟨v, hv, hrv⟩ := hr.item (n := off) (by omega)
  refine ⟨v, ?_, hrv⟩
  rw [List.getElem?_take, if_pos ho] at hv
  simpa using hv
theorem part_many {cs : List Cell} {c : Array Value} {n : Nat} (hr : RepL ν cs (c.toList.take n)) (hn : n ≤ c.size) {off m : Nat} (ho : off + m ≤ n) : RepL ν (cut off m n cs) ((c.toList.drop off).take m) ∧ (cut off m n cs).length = m := by
  have hl : cs.length = n := by rw [hr.length]; simp; omega
  rw [cut_eq hl ho]
  refine ⟨?_, by simp; omega⟩
  have := (hr.drop off).take m
  rwa [List.drop_take, List.take_take, Nat.min_eq_left (by omega)] at this
theorem loadK_sim (hok : Ok P L ν h W) {t : TypeId} {kd : Kind} (hk : kindOf P t = some kd) {k off b room : Nat} (hs : ν k = some (.blk b room)) : SimAt P L ν h W (loadK kd k off) (valS (Instr.loadAt t (.pointer (some ⟨b, off, none⟩)))) := by
  unfold loadK
  refine SimAt.rdC hok fun n cs e b' room' c hk' hs' hb hr hn _ => ?_
  rw [hs] at hs'
  cases hs'
  cases kd with
  | one =>
    obtain ⟨d, hu, hd⟩ := kind_one hk
    refine SimAt.chk fun hc => ?_
    obtain ⟨v, hv, hrv⟩ := part_one hr hn (off := off) (by simpa [Nat.blt_eq] using hc)
    exact SimAt.val1 (run_valS (run_loadVar_one hu hd hb hv)) hok hrv
  | many m =>
    obtain ⟨d, i, hu, hd, hi, hsz⟩ := kind_many hk
    refine SimAt.chk fun hc => ?_
    have ho : off + m ≤ n := Nat.le_of_ble_eq_true hc
    obtain ⟨h1, h2⟩ := part_many hr hn ho
    have hlen : ((c.toList.drop off).take m).length = m := by simp; omega
    refine SimAt.val (run_valS ?_) hok (RepS.agg (vs := ((c.toList.drop off).take m).toArray) (by simpa using h1) h2)
    exact run_loadVar_mid W b off t _ d (range_of hb) hu hd (by rw [hi]; simp [hsz]; omega)
theorem storeVar_run {t : TypeId} {i : TypeInfo} (hi : P.info? t = some i) {b off : Nat} {c : Array Value} {e : TypeId} (hb : W.heap[b]? = some (.cells c e (0, 0))) {v : Value} (hsz : v.cells.size = i.size) (h1 : ∀ u ∈ v.cells.toList, u.oneCell' = true) (ho : off + i.size ≤ c.size) :
    (storeVar t ⟨b, off, none⟩ v).run P W = .ok () (W.setRow b (c.toList.take off ++ v.cells.toList ++ c.toList.drop (off + i.size)).toArray) := by
  unfold storeVar
  have hsz' : (sizeOf t).run P W = .ok i.size W := by simp [sizeOf, typeInfo, hi]
  have := run_storeCells_at (P := P) b off e v.cells.toList 0 c W hb (by simp; omega) h1
  rw [Nat.add_zero] at this
  simp only [Array.length_toList, hsz] at this
  simp [Sem.run_bind, hsz', hsz, this]
/-- Cells laid into a block's. -/
theorem RepL.layIn {cs vs : List Cell} {c : Array Value} {us : List Value} {n off m : Nat} (hr : RepL ν cs (c.toList.take n)) (hn : n ≤ c.size) (hv : RepL ν vs us) (hm : vs.length = m) (ho : off + m ≤ n) :
    RepL ν (layIn off m n vs cs) ((c.toList.take off ++ us ++ c.toList.drop (off + m)).toArray.toList.take n) ∧ (c.toList.take off ++ us ++ c.toList.drop (off + m)).toArray.size = c.size := by
  have hl : cs.length = n := by rw [hr.length]; simp; omega
  have hul : us.length = m := by rw [← hv.length, hm]
  rw [layIn_eq hl hm ho]
  have e : (c.toList.take off ++ us ++ c.toList.drop (off + m)).toArray.toList.take n = (c.toList.take n).take off ++ us ++ (c.toList.take n).drop (off + m) := by
    simp only [List.append_assoc]
    rw [List.take_append, List.take_append, List.length_take, hul, Array.length_toList, Nat.min_eq_left (by omega), List.take_take, List.take_take, Nat.min_eq_right (by omega), Nat.min_eq_left (by omega)]
    rw [List.take_of_length_le (l := us) (by omega), List.drop_take, show n - off - m = n - (off + m) by omega]
  refine ⟨?_, by simp; omega⟩
  rw [e]
  exact ((hr.take off).append hv).append (hr.drop _)
theorem putV_sim (hok : Ok P L ν h W) {x : Nx} {res : Next} (hx : NxOk ν x res) {k off n b room : Nat} (hs : ν k = some (.blk b room)) {vs : List Cell} {us : List Value} (hv : RepL ν vs us) (hn : vs.length = n) {q : Sem Next}
    (hq : ∀ (c : Array Value) (e : TypeId), W.heap[b]? = some (.cells c e (0, 0)) → off + n ≤ c.size → q.run P W = .ok res (W.setRow b (c.toList.take off ++ us ++ c.toList.drop (off + n)).toArray)) : SimAt P L ν h W (putV x k off n vs) q := by
  unfold putV
  refine SimAt.rdC hok fun m cs e b' room' c hk hs' hb hr hm hroom => SimAt.chk fun hc => ?_
  rw [hs] at hs'
  cases hs'
  have ho : off + n ≤ m := Nat.le_of_ble_eq_true hc
  obtain ⟨h1, h2⟩ := RepL.layIn hr hm hv hn ho
  exact SimAt.wr hok hk hs hb hroom (hq c e hb (by omega)) h2 hm h1 hx
theorem putK_sim (hok : Ok P L ν h W) {k off n b room : Nat} (hs : ν k = some (.blk b room)) {vs : List Cell} {us : List Value} (hv : RepL ν vs us) (hn : vs.length = n) {q : Sem Next}
    (hq : ∀ (c : Array Value) (e : TypeId), W.heap[b]? = some (.cells c e (0, 0)) → off + n ≤ c.size → q.run P W = .ok .skip (W.setRow b (c.toList.take off ++ us ++ c.toList.drop (off + n)).toArray)) : SimAt P L ν h W (putK k off n vs) q :=
  putV_sim (x := .val undefS) (res := .skip) hok ⟨undef, undef_rep ν, .inr ⟨rfl, rfl⟩⟩ hs hv hn hq
theorem newVar_sim (hok : Ok P L ν h W) {t : TypeId} {n : Nat} {cs : List Cell} {vs : Array Value} (hr : RepL ν cs vs.toList) (hn : cs.length = n) {q : Sem Next} (hq : q.run P W = .ok (.value (.pointer (some ⟨W.heap.size, 0, none⟩))) (W.alloc (.cells vs t))) : SimAt P L ν h W (newVar t n cs) q := by
  unfold newVar
  refine SimAt.new1 fun k hk hk3 => ⟨.blk W.heap.size 0, _, _, hq, ?_, .ptr (Nu.set_same _ _ _)⟩
  have hl : vs.size = n := by have := hr.length; simp at this; omega
  refine hok.alloc hk hk3 (fun _ _ => rfl) rfl ⟨rfl, rfl⟩ _ (fun i hi => hi) (fun i hi => hi) ⟨vs, heap_alloc_new W _, ?_, by omega, fun h => absurd rfl h⟩
  rw [List.take_of_length_le (by simp; omega)]
  exact RepL.mono (Sub.set hk _) hr
end
end Go.Proofs.YtlpbbihjnmikkaaGreatDoor.Exe
