/-
  Joined: Law, Bas
-/
import Derived.Test.YtlpbbihjnmikkaaGreatDoorJ05
import Derived.Test.YtlpbbihjnmikkaaGreatDoorJ10
import Derived.Below
import Derived.Laws.OwnMore
import Derived.Deep.Draws
import Derived.Laws.Rows
import Derived.WalkKit
namespace Go.Proofs.YtlpbbihjnmikkaaGreatDoor.Exe
set_option linter.unusedSimpArgs false

/-- Blocks below a number stay, and the world stays calm. -/
structure Stays (n : Nat) (w w' : World) : Prop where
  block : ∀ i : Nat, i < n → w'.heap[i]? = w.heap[i]?
  calm : Calm w w'
instance {n : Nat} {w w' : World} : CoeFun (Stays n w w') (fun _ => ∀ i : Nat, i < n → w'.heap[i]? = w.heap[i]?) := ⟨Stays.block⟩
instance {n : Nat} {w w' : World} : Coe (Stays n w w') (∀ i : Nat, i < n → w'.heap[i]? = w.heap[i]?) := ⟨Stays.block⟩
/-- All blocks but one stay, and the world stays calm. -/
structure Else (g : Nat) (w w' : World) : Prop where
  block : ∀ i : Nat, i ≠ g → w'.heap[i]? = w.heap[i]?
  calm : Calm w w'
instance {n : Nat} {w w' : World} : CoeFun (Else n w w') (fun _ => ∀ i : Nat, i ≠ n → w'.heap[i]? = w.heap[i]?) := ⟨Else.block⟩
instance {n : Nat} {w w' : World} : Coe (Else n w w') (∀ i : Nat, i ≠ n → w'.heap[i]? = w.heap[i]?) := ⟨Else.block⟩
theorem Calm.alloc {w w' : World} (h : Calm w w') (o : Obj) : Calm w (w'.alloc o) := h
theorem Calm.drew {w w' : World} (h : Calm w w') : Calm w w'.drew := h
theorem Calm.s {n : Nat} {w w' u : World} (h : Calm w w') (k : Stays n w' u) : Calm w u := h.trans k.2
theorem Calm.e {n : Nat} {w w' u : World} (h : Calm w w') (k : Else n w' u) : Calm w u := h.trans k.2

section
variable {P : Program} {L : Lore} {ν : Nu} {h : Heap D} {W W' : World}
/-- What the reckoner is told of a function is so. -/
def KnownOk (P : Program) (L : Lore) (f : FuncId) (k : List Slot → M D Slot) : Prop := ∀ args h nx r w v h' nx' r' w', k args h nx r w = .ok v h' nx' r' w' → ∀ ν W (args' : Array Value), Ok P L ν h W → Fresh ν nx nx' → All2 (RepS ν) args args'.toList →
  Calls P f args' W fun e W' => ∃ u ν', e = .returned u ∧ Ext ν ν' nx nx' ∧ Ok P L ν' h' W' ∧ RepS ν' v u
theorem KnownOk.call {f : FuncId} {k : List Slot → M D Slot} (hk : KnownOk P L f k) : CallOk P L (fun g args => if g = f then k args else Exe.bad 0) := fun g args h nx r w v h' nx' r' w' he => by
  by_cases hg : g = f
  · subst hg
    have he : (if g = g then k args else Exe.bad 0 : M D Slot) h nx r w = .ok v h' nx' r' w' := he
    rw [if_pos rfl] at he
    exact hk args h nx r w v h' nx' r' w' he
  · have he : (if g = f then k args else Exe.bad 0 : M D Slot) h nx r w = .ok v h' nx' r' w' := he
    rw [if_neg hg] at he
    cases he
theorem chk_ok {α : Type} {n : Nat} {b : Bool} {m : M D α} {nx r w : Nat} {x : α} {h' : Heap D} {nx' r' w' : Nat} (he : chk n b m h nx r w = .ok x h' nx' r' w') : b = true ∧ m h nx r w = .ok x h' nx' r' w' := by
  cases b
  · cases he
  · exact ⟨rfl, he⟩
theorem tokS_ok {d : Word} {nx r w : Nat} {v : Slot} {h' : Heap D} {nx' r' w' : Nat} (he : tokS d h nx r w = .ok v h' nx' r' w') : nx < 32768 ∧ v = .one (.tok nx) ∧ h' = h.lay nx (some (.data d)) ∧ nx' = nx + 1 := by
  obtain ⟨k, h1, n1, r1, w1, e1, e2⟩ := bind_ok he
  obtain ⟨hk, rfl, rfl, rfl, rfl, rfl⟩ := new_ok e1
  cases e2
  exact ⟨hk, rfl, rfl, rfl⟩
/-- Blocks that nobody owns: new ones, or such as a word sees already. -/
def Free (ν : Nu) (h : Heap D) (W : World) (s : Nat → Prop) : Prop := ∀ i, s i → W.heap.size ≤ i ∨ ∃ j tj v o sj, h.at j = some tj ∧ ν j = some (.val v o sj) ∧ nobody o ∧ sj i
theorem Ok.free (hok : Ok P L ν h W) {s : Nat → Prop} (hs : Free ν h W s) {j : Nat} {tj : Thing D} {sj : Site} (hj : h.at j = some tj) (hsj : ν j = some sj) {i : Nat} (hi : s i) : ¬ sj.own i := fun ho => by
  obtain ⟨s', h1, h2⟩ := hok.thing j tj hj
  rw [hsj] at h1
  cases h1
  rcases hs i hi with hi | ⟨k, tk, v, o, sk, hk, hsk, hno, hki⟩
  · have := h2.lt i (.inl ho)
    omega
  · by_cases e : j = k
    · subst e
      rw [hsj] at hsk
      cases hsk
      exact hno i ho
    · exact (hok.apart j k tj tk _ _ e hj hk hsj hsk i ho).2 hki
/-- A word for a new value: the old blocks stay; what it sees is nobody's. -/
theorem Ok.token (hok : Ok P L ν h W) (hW : Stays W.heap.size W W') {k : Nat} (hk : ν k = none) (hk3 : k < 32768) {d : D} {u : Value} {s : Nat → Prop} (hc : L.conc d u (fun _ => False) s W') (hs : Free ν h W s) :
    Ok P L (ν.set k (.val u (fun _ => False) s)) (h.lay k (some (.data d))) W' := by
  refine hok.step (Sub.set hk _) hk3 (fun j tj sj hj hjt hjs i hi => ?_) (fun t0 ht0 => ?_) hW.calm
  · obtain ⟨s', h1, h2⟩ := hok.thing j tj hjt
    rw [hjs] at h1
    cases h1
    exact hW i (h2.lt i hi)
  · cases ht0
    exact ⟨_, Nu.set_same _ _ _, hc, fun j tj sj hj hjt hjs i => ⟨fun hi => hi.elim, fun hi => ⟨fun hi' => hi', fun hi' => hok.free hs hjt hjs hi' hi⟩⟩⟩
/-- A call that makes a word. -/
theorem token_ends (hok : Ok P L ν h W) {f : FuncId} {args : Array Value} {d : Word} {nx nx' r w r' w' : Nat} {v : Slot} {h' : Heap D} (he : tokS d h nx r w = .ok v h' nx' r' w') (hf : Fresh ν nx nx')
    (hc : Calls P f args W fun e W' => ∃ u s, e = .returned u ∧ u.oneCell' = true ∧ Stays W.heap.size W W' ∧ L.conc d u (fun _ => False) s W' ∧ Free ν h W s) :
    Calls P f args W fun e W' => ∃ u ν', e = .returned u ∧ Ext ν ν' nx nx' ∧ Ok P L ν' h' W' ∧ RepS ν' v u := by
  obtain ⟨hk3, rfl, rfl, rfl⟩ := tokS_ok he
  have hk := hf nx (Nat.le_refl _) (Nat.lt_succ_self _)
  refine hc.mono fun e W' ⟨u, s, h1, h2, h3, h4, h5⟩ => ⟨u, _, h1, Ext.set hk _, hok.token h3 hk hk3 h4 h5, .one (.tok (Nu.set_same _ _ _) h2)⟩
end
section
variable {P : Program} {C : Ciph} {ν : Nu} {h : Heap D} {W : World}
/-- Bytes of which a word is known. -/
theorem bytesOf_ok {α : Type} {s : Slot} {u : Value} {f : Word → M D α} {nx r w : Nat} {x : α} {h' : Heap D} {nx' r' w' : Nat} (he : bytesOf s f h nx r w = .ok x h' nx' r' w') (hok : Ok P (lore C) ν h W) (hs : RepS ν s u) :
    ∃ d r1 w1, f d h nx r1 w1 = .ok x h' nx' r' w' ∧ ((d = .none ∧ u = .slice none 0 0) ∨ (isRow d = true ∧ ∃ se, RowB u se (byt C d) W ∧ Free ν h W se ∧ ∀ i, se i → i < W.heap.size)) := by
  unfold bytesOf at he
  split at he
  · rename_i k
    obtain ⟨t, h1, n1, r1, w1, e1, e2⟩ := bind_ok he
    obtain ⟨hk, rfl, rfl, rfl, rfl⟩ := rd_ok e1
    cases t with
    | data d =>
      obtain ⟨hr, e3⟩ := chk_ok e2
      obtain ⟨si, hsi, ht⟩ := hok.thing k _ hk
      cases si with
      | val v o se =>
        have ht : says C d v o se W := ht
        rw [says_row C hr] at ht
        cases hs with
        | one hc =>
          cases hc with
          | tok hk' _ =>
            rw [hsi] at hk'
            cases hk'
            exact ⟨d, _, _, e3, .inr ⟨hr, se, ht.2.2, fun i hi => .inr ⟨k, _, _, _, _, hk, hsi, ht.1, hi⟩, ht.2.1⟩⟩
      | blk b room => exact ht.elim
      | obj r => exact ht.elim
    | cells n cs e => cases e2
    | map es c => cases e2
    | fn g fs cs => cases e2
  · rename_i v
    obtain ⟨hr, e3⟩ := chk_ok he
    cases hs with
    | one hc =>
      cases hc with
      | flat _ _ =>
        refine ⟨.none, _, _, e3, .inl ⟨rfl, ?_⟩⟩
        unfold isNilRow at hr
        split at hr
        · rfl
        · cases hr
  · cases he
/-- A slice that reads as these bytes, of whatever block. -/
def Src (u : Value) (l : List Oct) (w : World) : Prop :=
  (u = .slice none 0 0 ∧ l = []) ∨ ∃ b o cap, u = .slice (some ⟨b, o, none⟩) l.length cap ∧ l.length ≤ cap ∧ b < w.heap.size ∧ ∀ j (h : j < l.length), w.cell? ⟨b, o + j, none⟩ = some (.int .u8 (l[j]'h).toNat)
theorem RowB.src {u : Value} {s : Nat → Prop} {l : List Oct} {w : World} (h : RowB u s l w) : Src u l w := by
  rcases h with h | ⟨b, o, cap, hv, hc, _, ⟨cs, t, fr, hb, _⟩, hr⟩
  · exact .inl h
  · refine .inr ⟨b, o, cap, hv, hc, ?_, hr⟩
    rcases Nat.lt_or_ge b w.heap.size with h | h
    · exact h
    · rw [Array.getElem?_eq_none h] at hb; cases hb
theorem Src.later {u : Value} {l : List Oct} {w w' : World} (h : Src u l w) (hz : w.heap.size ≤ w'.heap.size) (hb : ∀ i : Nat, i < w.heap.size → w'.heap[i]? = w.heap[i]?) : Src u l w' := by
  rcases h with h | ⟨b, o, cap, hv, hc, hlt, hr⟩
  · exact .inl h
  · refine .inr ⟨b, o, cap, hv, hc, by omega, fun j hj => ?_⟩
    rw [← hr j hj]
    unfold World.cell?
    rw [hb b hlt]
theorem Src.slice {u : Value} {l : List Oct} {w : World} (h : Src u l w) : ∃ a c, u = .slice a l.length c := by
  rcases h with ⟨h, rfl⟩ | ⟨b, o, cap, hv, _⟩
  · exact ⟨_, _, h⟩
  · exact ⟨_, _, hv⟩
def octs (l : List Oct) : List Value := l.map fun x => Value.int .u8 x.toNat
/-- The table is laid. -/
def tableV : Array Value := (table.map fun n => Value.int .u32 (.ofNat n)).toArray
def Laid (w : World) : Prop := w.heap[0]? = some (.cells tableV 424 (0, 0))
theorem Laid.keeps {w w' : World} (h : Laid w) (hb : ∀ i : Nat, i < w.heap.size → w'.heap[i]? = w.heap[i]?) : Laid w' := by
  refine (hb 0 ?_).trans h
  rcases Nat.lt_or_ge 0 w.heap.size with h' | h'
  · exact h'
  · have h1 : w.heap[0]? = some (.cells tableV 424 (0, 0)) := h
    rw [Array.getElem?_eq_none h'] at h1
    cases h1
theorem upTo_ok {α : Type} {e m : Nat} {d : Word} {f : M D α} {nx r w : Nat} {x : α} {h' : Heap D} {nx' r' w' : Nat} (he : upTo e m d f h nx r w = .ok x h' nx' r' w') : (byt C d).length ≤ m ∧ (∃ k, most d = some k ∧ k ≤ m) ∧ f h nx r w = .ok x h' nx' r' w' := by
  unfold upTo at he
  cases hk : most d with
  | none => rw [hk] at he; cases he
  | some k =>
    rw [hk] at he
    obtain ⟨hb, e⟩ := chk_ok he
    have := Nat.le_of_ble_eq_true hb
    exact ⟨Nat.le_trans (most_le C d k hk) this, ⟨k, rfl, this⟩, e⟩
theorem isTable_eq : ∀ {cs : List Cell} {l : List Nat}, isTable cs l = true → cs = l.map fun n => .flat (.int .u32 (.ofNat n))
  | [], [], _ => rfl
  | [], _ :: _, h => by simp [isTable] at h
  | c :: cs, [], h => by simp [isTable] at h
  | c :: cs, m :: ms, h => by
    unfold isTable at h
    split at h
    · rename_i e _; cases e
    · rename_i n cs' m' ms' e1 e2
      cases e1
      cases e2
      rw [Bool.and_eq_true] at h
      rw [Nat.eq_of_beq_eq_true h.1, isTable_eq h.2]
      rfl
    · cases h
theorem flats_rep : ∀ {l : List Nat} {vs : List Value}, RepL ν (l.map fun n => .flat (.int .u32 (.ofNat n))) vs → vs = l.map fun n => .int .u32 (.ofNat n)
  | [], vs, h => by cases h; rfl
  | n :: l, vs, h => by
    cases h with
    | cons h1 h2 =>
      cases h1
      rw [flats_rep h2]
      rfl
theorem tabled_ok {α : Type} {f : M D α} {nx r w : Nat} {x : α} {h' : Heap D} {nx' r' w' : Nat} {L : Lore} (h64 : (P.info? 424).map (·.size) = some 64) (hok : Ok P L ν h W) (he : tabled f h nx r w = .ok x h' nx' r' w') : Laid W ∧ ∃ r1 w1, f h nx r1 w1 = .ok x h' nx' r' w' := by
  unfold tabled Exe.rdC at he
  obtain ⟨t, h1, n1, r1, w1, e1, e2⟩ := bind_ok he
  obtain ⟨hk, rfl, rfl, rfl, rfl⟩ := rd_ok e1
  cases t with
  | cells n cs e =>
    obtain ⟨hb, e3⟩ := chk_ok e2
    simp only [Bool.and_eq_true] at hb
    obtain ⟨⟨hn, hty⟩, ht⟩ := hb
    have hn := Nat.eq_of_beq_eq_true hn
    have hty := Nat.eq_of_beq_eq_true hty
    subst hn hty
    obtain ⟨s, hs, hth⟩ := hok.thing 0 _ hk
    rw [hok.base] at hs
    cases hs
    obtain ⟨c, g1, g2, g3, g4⟩ := hth
    rw [isTable_eq ht] at g2
    obtain ⟨i, hi, hs⟩ := g4 (by decide)
    rw [hi] at h64
    have hs2 : i.size = 64 := by simpa using h64
    have : c = tableV := by
      refine Array.ext' ?_
      rw [show tableV.toList = table.map fun n => Value.int .u32 (.ofNat n) from rfl, ← flats_rep g2, List.take_of_length_le (by simp; omega)]
    rw [this] at g1
    exact ⟨g1, _, _, e3⟩
  | map es c => cases e2
  | fn g fs cs => cases e2
  | data d => cases e2
theorem natU_rep {c : Cell} {v : Value} {n : Nat} (h : natU c = some n) (hr : RepC ν c v) : v = .int .u8 (BitVec.ofNat 8 n).toNat := by
  unfold natU at h
  split at h
  · rename_i m
    cases hb : Nat.blt m 256 with
    | false => rw [hb] at h; cases h
    | true =>
      rw [hb] at h
      cases h
      cases hr with
      | flat _ _ =>
        have hm : n < 256 := by simpa [Nat.blt_eq] using hb
        rw [BitVec.toNat_ofNat, Nat.mod_eq_of_lt hm]
        rfl
  · cases h
theorem natsU_rep : ∀ {cs : List Cell} {vs : List Value} {l : List Nat}, natsU cs = some l → RepL ν cs vs → vs = octs (l.map (BitVec.ofNat 8))
  | [], vs, l, h, hr => by
    cases hr
    have : l = [] := by simpa [natsU] using h.symm
    subst this
    rfl
  | c :: cs, vs, l, h, hr => by
    cases hr with
    | cons h1 h2 =>
      unfold natsU at h
      split at h
      · rename_i n ns hn hns
        cases h
        rw [natU_rep hn h1, natsU_rep hns h2]
        rfl
      · cases h
theorem byte_rep {k : Nat} {v : Value} {w : Word} {j : Nat} (hok : Ok P (lore C) ν h W) (hk : h.at k = some (.data (.byte w j))) (hr : RepC ν (.tok k) v) : ∃ b, (byt C w)[j]? = some b ∧ v = .int .u8 b.toNat := by
  cases hr with
  | tok hs _ =>
    obtain ⟨s, h1, h2⟩ := hok.thing k _ hk
    rw [hs] at h1
    cases h1
    exact h2.2.2
theorem sameKey_ok (hok : Ok P (lore C) ν h W) (cs : List Cell) : ∀ {vs : List Value} {w : Word} {j : Nat} {nx r wr : Nat} {x : Unit} {h' : Heap D} {nx' r' w' : Nat}, sameKey w cs j h nx r wr = .ok x h' nx' r' w' → RepL ν cs vs →
    h' = h ∧ nx' = nx ∧ ∀ (i : Nat) (v : Value), vs[i]? = some v → ∃ b : Oct, (byt C w)[j + i]? = some b ∧ v = .int .u8 b.toNat := by
  induction cs with
  | nil =>
    intro vs w j nx r wr x h' nx' r' w' he hr
    cases hr
    cases he
    exact ⟨rfl, rfl, fun i v hv => by simp at hv⟩
  | cons c cs ih =>
    intro vs w j nx r wr x h' nx' r' w' he hr
    cases c with
    | tok k =>
      cases hr with
      | @cons _ v0 _ vs h1 h2 =>
        have he : (rdD k fun d => chk 320 (eqW d (.byte w j)) (sameKey w cs (j + 1)) : M D Unit) h nx r wr = .ok x h' nx' r' w' := he
        obtain ⟨t, h1', n1, r1, w1, e1, e2⟩ := bind_ok he
        obtain ⟨hk, rfl, rfl, rfl, rfl⟩ := rd_ok e1
        cases t with
        | data d =>
          obtain ⟨hb, e3⟩ := chk_ok e2
          have hd := eqW_eq _ _ hb
          subst hd
          obtain ⟨g1, g2, g3⟩ := ih e3 h2
          refine ⟨g1, g2, fun i v hv => ?_⟩
          cases i with
          | zero =>
            cases hv
            exact byte_rep hok hk h1
          | succ i => rw [show j + (i + 1) = j + 1 + i by omega]; exact g3 i v hv
        | cells n cs e => cases e2
        | map es c => cases e2
        | fn g fs cs => cases e2
    | _ => cases he
theorem eq_octs {vs : List Value} {l : List Oct} (hl : vs.length = l.length) (h : ∀ (i : Nat) (v : Value), vs[i]? = some v → ∃ b : Oct, l[i]? = some b ∧ v = .int .u8 b.toNat) : vs = octs l := by
  refine List.ext_getElem? fun i => ?_
  cases hv : vs[i]? with
  | none =>
    have : l.length ≤ i := by rw [← hl]; exact List.getElem?_eq_none_iff.1 hv
    simp [octs, List.getElem?_eq_none this]
  | some v =>
    obtain ⟨b, h1, h2⟩ := h i v hv
    simp [octs, h1, h2]
theorem cellsW_ok {α : Type} {f : Word → M D α} (hok : Ok P (lore C) ν h W) {cs : List Cell} {vs : List Value} {nx r w : Nat} {x : α} {h' : Heap D} {nx' r' w' : Nat} (he : cellsW cs f h nx r w = .ok x h' nx' r' w') (hr : RepL ν cs vs) :
    ∃ d r1 w1, f d h nx r1 w1 = .ok x h' nx' r' w' ∧ vs = octs (byt C d) := by
  have gen : (match natsU cs with | some l => f (.plain l) | none => Exe.bad 323 : M D α) h nx r w = .ok x h' nx' r' w' → ∃ d r1 w1, f d h nx r1 w1 = .ok x h' nx' r' w' ∧ vs = octs (byt C d) := fun he => by
    cases hl : natsU cs with
    | none => rw [hl] at he; cases he
    | some l => rw [hl] at he; exact ⟨_, _, _, he, natsU_rep hl hr⟩
  cases cs with
  | nil => exact gen he
  | cons c cs =>
    cases c with
    | tok k =>
      have he : (rdD k fun d => match d with
        | .byte w 0 => chk 304 ((isKey w && Nat.beq (len cs) 31) || (isBlk w && Nat.beq (len cs) 15)) (M.bind (sameKey w cs 1) fun _ => f w)
        | _ => Exe.bad 322 : M D α) h nx r w = .ok x h' nx' r' w' := he
      obtain ⟨t, h1', n1, r1, w1, e1, e2⟩ := bind_ok he
      obtain ⟨hk, rfl, rfl, rfl, rfl⟩ := rd_ok e1
      cases t with
      | data d =>
        cases d with
        | byte w0 j =>
          cases j with
          | succ j => cases e2
          | zero =>
            have e2 : (chk 304 ((isKey w0 && Nat.beq (len cs) 31) || (isBlk w0 && Nat.beq (len cs) 15)) (M.bind (sameKey w0 cs 1) fun _ => f w0) : M D α) h1' n1 _ w1 = .ok x h' nx' r' w' := e2
            obtain ⟨hb, e3⟩ := chk_ok e2
            have hb : (byt C w0).length = cs.length + 1 := by
              rw [Bool.or_eq_true, Bool.and_eq_true, Bool.and_eq_true] at hb
              rcases hb with hb | hb
              · have hlen := Nat.eq_of_beq_eq_true hb.2
                rw [len_eq] at hlen
                rw [key_len C hb.1, hlen]
              · have hlen := Nat.eq_of_beq_eq_true hb.2
                rw [len_eq] at hlen
                rw [blk_len C hb.1, hlen]
            obtain ⟨u, h2, n2, r2, w2, e4, e5⟩ := bind_ok e3
            cases hr with
            | @cons _ v0 _ vs hr1 hr2 =>
              obtain ⟨rfl, rfl, g3⟩ := sameKey_ok hok _ e4 hr2
              have hl2 := hr2.length
              refine ⟨w0, _, _, e5, eq_octs (by rw [hb, List.length_cons]; omega) fun i v hv => ?_⟩
              cases i with
              | zero => cases hv; exact byte_rep hok hk hr1
              | succ i => rw [Nat.add_comm i 1]; exact g3 i v hv
        | _ => cases e2
      | cells n cs e => cases e2
      | map es c => cases e2
      | fn g fs cs => cases e2
    | _ => exact gen he
theorem keyOf_ok {α : Type} {f : Word → M D α} (hok : Ok P (lore C) ν h W) {s : Slot} {u : Value} {nx r w : Nat} {x : α} {h' : Heap D} {nx' r' w' : Nat} (he : keyOf s f h nx r w = .ok x h' nx' r' w') (hr : RepS ν s u) :
    ∃ d r1 w1, f d h nx r1 w1 = .ok x h' nx' r' w' ∧ u = .agg (octs (byt C d)).toArray ∧ (byt C d).length = 32 := by
  cases s with
  | one c => cases he
  | tup l => cases he
  | agg n cs =>
    have he : (chk 324 (Nat.beq n 32) (cellsW cs f) : M D α) h nx r w = .ok x h' nx' r' w' := he
    obtain ⟨hb, e⟩ := chk_ok he
    have hb := Nat.eq_of_beq_eq_true hb
    cases hr with
    | agg hl hn =>
      obtain ⟨d, r1, w1, e1, e2⟩ := cellsW_ok hok e hl
      refine ⟨d, r1, w1, e1, by rw [← e2], ?_⟩
      have h1 := hl.length
      rw [e2] at h1
      simp [octs] at h1
      omega
theorem nonceOf_ok {α : Type} {f : List Nat → M D α} {s : Slot} {u : Value} {nx r w : Nat} {x : α} {h' : Heap D} {nx' r' w' : Nat} (he : nonceOf s f h nx r w = .ok x h' nx' r' w') (hr : RepS ν s u) :
    ∃ l r1 w1, f l h nx r1 w1 = .ok x h' nx' r' w' ∧ u = .agg (octs (l.map (BitVec.ofNat 8))).toArray ∧ l.length = 12 := by
  cases s with
  | one c => cases he
  | tup l => cases he
  | agg n cs =>
    have he : (chk 325 (Nat.beq n 12) (match natsU cs with | some l => f l | none => Exe.bad 325) : M D α) h nx r w = .ok x h' nx' r' w' := he
    obtain ⟨hb, e⟩ := chk_ok he
    have hb := Nat.eq_of_beq_eq_true hb
    cases hr with
    | agg hl hn =>
      cases hl2 : natsU cs with
      | none => rw [hl2] at e; cases e
      | some l =>
        rw [hl2] at e
        have e2 := natsU_rep hl2 hl
        refine ⟨l, _, _, e, by rw [← e2], ?_⟩
        have h1 := hl.length
        rw [e2] at h1
        simp [octs] at h1
        omega
theorem bytesOf_src {α : Type} {s : Slot} {u : Value} {f : Word → M D α} {nx r w : Nat} {x : α} {h' : Heap D} {nx' r' w' : Nat} (he : bytesOf s f h nx r w = .ok x h' nx' r' w') (hok : Ok P (lore C) ν h W) (hs : RepS ν s u) :
    ∃ d r1 w1, f d h nx r1 w1 = .ok x h' nx' r' w' ∧ Src u (byt C d) W := by
  obtain ⟨d, r1, w1, e1, hd⟩ := bytesOf_ok he hok hs
  refine ⟨d, r1, w1, e1, ?_⟩
  rcases hd with ⟨rfl, rfl⟩ | ⟨_, se, h1, _⟩
  · exact .inl ⟨rfl, rfl⟩
  · exact h1.src
theorem bytesAny_ok {α : Type} {s : Slot} {u : Value} {f : Word → M D α} {nx r w : Nat} {x : α} {h' : Heap D} {nx' r' w' : Nat} (he : bytesAny s f h nx r w = .ok x h' nx' r' w') (hok : Ok P (lore C) ν h W) (hs : RepS ν s u) :
    ∃ d r1 w1, f d h nx r1 w1 = .ok x h' nx' r' w' ∧ Src u (byt C d) W := by
  have row : ∀ b off n c, s = .one (.row b off n c) → ∃ d r1 w1, f d h nx r1 w1 = .ok x h' nx' r' w' ∧ Src u (byt C d) W := fun b off n c e => by
    subst e
    have he : (rdC b fun q cs _ => chk 303 (Nat.ble (Nat.add off n) q && notLost c) (cellsW (cut off n q cs) f) : M D α) h nx r w = .ok x h' nx' r' w' := he
    unfold Exe.rdC at he
    obtain ⟨t, h1', n1, r1, w1, e1, e2⟩ := bind_ok he
    obtain ⟨hk, rfl, rfl, rfl, rfl⟩ := rd_ok e1
    cases t with
    | cells q cs e =>
      obtain ⟨hb, e3⟩ := chk_ok e2
      rw [Bool.and_eq_true] at hb
      obtain ⟨hb, hnl⟩ := hb
      have hb := Nat.le_of_ble_eq_true hb
      obtain ⟨si, hsi, ht⟩ := hok.thing b _ hk
      cases hs with
      | one hc =>
        have aux : ∀ bb room c', ν b = some (.blk bb room) → (∃ c0, W.heap[bb]? = some (.cells c0 e (0, 0)) ∧ RepL ν cs (c0.toList.take q) ∧ q ≤ c0.size) → n ≤ c' → ∃ d r1 w1, f d h1' n1 r1 w1 = .ok x h' nx' r' w' ∧ Src (.slice (some ⟨bb, off, none⟩) n c') (byt C d) W := fun bb room c' hbb ⟨c0, g1, g2, g3⟩ hcap => by
          obtain ⟨p1, p2⟩ := part_many g2 g3 hb
          obtain ⟨d, r2, w2, e4, e5⟩ := cellsW_ok hok e3 p1
          refine ⟨d, r2, w2, e4, .inr ⟨bb, off, c', ?_, ?_, ?_, fun j hj => ?_⟩⟩
          · have := p1.length
            rw [e5] at this
            simp [octs] at this
            rw [← this, p2]
          · have := p1.length
            rw [e5] at this
            simp [octs] at this
            rw [← this, p2]
            exact hcap
          · rcases Nat.lt_or_ge bb W.heap.size with h | h
            · exact h
            · rw [Array.getElem?_eq_none h] at g1; cases g1
          · rw [cell_of_row W bb (off + j) c0 e (0, 0) g1]
            have : (octs (byt C d))[j]? = some (.int .u8 ((byt C d)[j]'hj).toNat) := by simp [octs, hj]
            rw [← e5, List.getElem?_take] at this
            split at this
            · simpa using this
            · cases this
        cases hc with
        | @row _ _ _ c' bb room _ hbb hcap =>
          rw [hbb] at hsi
          cases hsi
          obtain ⟨c0, g1, g2, g3, g4⟩ := ht
          refine aux bb room c' hbb ⟨c0, g1, g2, g3⟩ ?_
          cases c with
          | exact m => have := hcap; simp [CapOk] at this; omega
          | some => exact hcap
          | whole => obtain ⟨_, h1, h2⟩ := hcap; omega
          | lost => exact hcap.elim
        | lost k off c' a => cases hnl
    | map es c => cases e2
    | fn g fs cs => cases e2
    | data d => cases e2
  have old : bytesOf s f h nx r w = .ok x h' nx' r' w' → ∃ d r1 w1, f d h nx r1 w1 = .ok x h' nx' r' w' ∧ Src u (byt C d) W := fun he => bytesOf_src he hok hs
  cases s with
  | one c =>
    cases c with
    | row b off n c => exact row b off n c rfl
    | _ => exact old he
  | _ => exact old he
end
end Go.Proofs.YtlpbbihjnmikkaaGreatDoor.Exe

namespace Go.Proofs.YtlpbbihjnmikkaaGreatDoor
open Go.RowKit

abbrev B8 := BitVec 8
/-- Block g is just the cells cs of element type t, none frozen. -/
def Blk (w : World) (g : Nat) (t : TypeId) (cs : Array Value) : Prop := w.heap[g]? = some (.cells cs t (0, 0))
section
variable {w w' : World} {g : Nat} {t : TypeId} {cs : Array Value}
theorem Blk.lt (h : Blk w g t cs) : g < w.heap.size := by
  rcases Nat.lt_or_ge g w.heap.size with hlt | hge
  · exact hlt
  · unfold Blk at h; rw [Array.getElem?_eq_none hge] at h; cases h
theorem Blk.cell (h : Blk w g t cs) (i : Nat) : w.cell? ⟨g, i, none⟩ = cs[i]? := cell_of_row w g i cs t (0, 0) h
theorem Blk.frozen (h : Blk w g t cs) (i : Nat) : w.frozen? ⟨g, i, none⟩ = false := by
  unfold Blk at h
  simp [World.frozen?, h]
theorem Blk.new (w : World) (t : TypeId) (cs : Array Value) : Blk (w.alloc (.cells cs t)) w.heap.size t cs := heap_alloc_new w _
theorem Blk.alloc (h : Blk w g t cs) (o : Obj) : Blk (w.alloc o) g t cs := (Below.heap_alloc w o g h.lt).trans h
theorem Blk.set_ (h : Blk w g t cs) (i : Nat) (u : Value) : Blk (w.setCell ⟨g, i, none⟩ u) g t (cs.setIfInBounds i u) := by
  unfold Blk at h ⊢
  simp [World.setCell, Array.getElem?_modify, h]
theorem Blk.far (h : Blk w g t cs) {p : Addr} (hp : g ≠ p.block) (u : Value) : Blk (w.setCell p u) g t cs := (Below.heap_setCell w p u g hp).trans h
theorem Blk.below {B : Nat} (h : Blk w g t cs) (hb : Below B w w') (hg : g < B) : Blk w' g t cs := (hb.block g hg).trans h
end

/-- Who owns a block: 0 nobody (it changes no more), else an owner's number. -/
abbrev Col := Nat → Nat
/-- The colours of the blocks below B stay. -/
def Ext (B : Nat) (c c' : Col) : Prop := ∀ g, g < B → c' g = c g
theorem Ext.refl (B : Nat) (c : Col) : Ext B c c := fun _ _ => rfl
theorem Ext.trans {B B' : Nat} {c c' c'' : Col} (h : Ext B c c') (k : Ext B' c' c'') (hB : B ≤ B') : Ext B c c'' := fun g hg => (k g (Nat.lt_of_lt_of_le hg hB)).trans (h g hg)
theorem Ext.mono {B B' : Nat} {c c' : Col} (h : Ext B c c') (hB : B' ≤ B) : Ext B' c c' := fun g hg => h g (Nat.lt_of_lt_of_le hg hB)
def paint (c : Col) (g n : Nat) : Col := fun k => if k = g then n else c k
theorem Ext.paint (B : Nat) (c : Col) (g n : Nat) (h : B ≤ g) : Ext B c (paint c g n) := fun k hk => by unfold Go.Proofs.YtlpbbihjnmikkaaGreatDoor.paint; rw [if_neg (by omega)]
theorem paint_at (c : Col) (g n : Nat) : paint c g n g = n := by unfold paint; rw [if_pos rfl]
/-- A call of the owner n has changed no block of another's, nor of nobody's. -/
structure Chg (c : Col) (n : Nat) (w w' : World) : Prop where
  os : w'.os = w.os
  tape : w'.tape = w.tape
  output : w'.output = w.output
  size : w.heap.size ≤ w'.heap.size
  block : ∀ k, k < w.heap.size → c k ≠ n → w'.heap[k]? = w.heap[k]?
theorem Chg.refl (c : Col) (n : Nat) (w : World) : Chg c n w w := ⟨rfl, rfl, rfl, Nat.le_refl _, fun _ _ _ => rfl⟩
theorem Chg.trans {c c' : Col} {n : Nat} {w w1 w2 : World} (h : Chg c n w w1) (e : Ext w.heap.size c c') (k : Chg c' n w1 w2) : Chg c n w w2 :=
  ⟨k.os.trans h.os, k.tape.trans h.tape, k.output.trans h.output, Nat.le_trans h.size k.size, fun i hi hc => (k.block i (Nat.lt_of_lt_of_le hi h.size) (by rw [e i hi]; exact hc)).trans (h.block i hi hc)⟩
theorem Chg.next {c : Col} {n : Nat} {w w1 w2 : World} (h : Chg c n w w1) (k : Chg c n w1 w2) : Chg c n w w2 := h.trans (Ext.refl _ _) k
theorem Chg.of_below {c : Col} {n : Nat} {w w' : World} (h : Below w.heap.size w w') : Chg c n w w' := ⟨h.os, h.tape, h.output, h.size, fun k hk _ => h.block k hk⟩
theorem Chg.below {c : Col} {n : Nat} {w w1 w2 : World} (h : Chg c n w w1) (k : Below w1.heap.size w1 w2) : Chg c n w w2 := h.next (Chg.of_below k)
theorem Chg.drew {c : Col} {n : Nat} {w w1 : World} (h : Chg c n w w1) : Chg c n w w1.drew := h.below (Below.refl _ _).drew
theorem Chg.alloc {c : Col} {n : Nat} {w w1 : World} (h : Chg c n w w1) (o : Obj) : Chg c n w (w1.alloc o) := h.below ((Below.refl _ _).alloc (Nat.le_refl _) o)
theorem Chg.setCell {c : Col} {n : Nat} {w w1 : World} (h : Chg c n w w1) {p : Addr} (hp : p.block < w.heap.size → c p.block = n) (u : Value) : Chg c n w (w1.setCell p u) :=
  ⟨h.os, h.tape, h.output, by simpa using h.size, fun k hk hc => (Below.heap_setCell w1 p u k (fun e => hc (by rw [e]; exact hp (by omega)))).trans (h.block k hk hc)⟩
theorem Blk.chg {c : Col} {n g : Nat} {w w' : World} {t : TypeId} {cs : Array Value} (h : Blk w g t cs) (k : Chg c n w w') (hc : c g ≠ n) : Blk w' g t cs := (k.block g h.lt hc).trans h

/-- Bytes as cells. -/
def cellsL (l : List B8) : Array Value := (l.map fun x => Value.int .u8 x.toNat).toArray
theorem cellsL_size (l : List B8) : (cellsL l).size = l.length := by simp [cellsL]
theorem cellsL_get (l : List B8) (i : Nat) (h : i < l.length) : (cellsL l)[i]? = some (.int .u8 (l[i]'h).toNat) := by simp [cellsL, h]
/-- A slice's address reads as these bytes, in a block of nobody's. -/
def RdL (c : Col) (w : World) (A : Option Addr) (l : List B8) : Prop :=
  l ≠ [] → ∃ b o, A = some ⟨b, o, none⟩ ∧ c b = 0 ∧ b < w.heap.size ∧ ∀ j (h : j < l.length), w.cell? ⟨b, o + j, none⟩ = some (.int .u8 (l[j]'h).toNat)
theorem cell_same {w w' : World} {b o : Nat} (h : w'.heap[b]? = w.heap[b]?) : w'.cell? ⟨b, o, none⟩ = w.cell? ⟨b, o, none⟩ := by unfold World.cell?; rw [h]
theorem RdL.chg {c c' : Col} {n : Nat} {w w' : World} {A : Option Addr} {l : List B8} (h : RdL c w A l) (k : Chg c n w w') (e : Ext w.heap.size c c') (hn : n ≠ 0) : RdL c' w' A l := fun hl => by
  obtain ⟨b, o, hA, hc, hb, hr⟩ := h hl
  exact ⟨b, o, hA, by rw [e b hb]; exact hc, Nat.lt_of_lt_of_le hb k.size, fun j hj => (cell_same (k.block b hb (by rw [hc]; exact fun e => hn e.symm))).trans (hr j hj)⟩
theorem RdL.below {c : Col} {w w' : World} {A : Option Addr} {l : List B8} (h : RdL c w A l) (k : Below w.heap.size w w') : RdL c w' A l := fun hl => by
  obtain ⟨b, o, hA, hc, hb, hr⟩ := h hl
  exact ⟨b, o, hA, hc, Nat.lt_of_lt_of_le hb k.size, fun j hj => (cell_same (k.block b hb)).trans (hr j hj)⟩
end Go.Proofs.YtlpbbihjnmikkaaGreatDoor
