/-
  Joined: DskG, DskH, JouC, JouD, KeyA, KeyC, PBlkN
-/
import Derived.Test.YtlpbbihjnmikkaaGreatDoorJ32
import Derived.Test.YtlpbbihjnmikkaaGreatDoorJ13
import Derived.Test.YtlpbbihjnmikkaaGreatDoorJ25
import Derived.Lib.SlBytesConst
import Derived.Test.YtlpbbihjnmikkaaGreatDoorJ29
namespace Go.Proofs.YtlpbbihjnmikkaaGreatDoor.Exe
set_option linter.unusedSimpArgs false
set_option linter.unusedVariables false
set_option maxRecDepth 100000
open Go.RowKit

/-- An entry, as values. -/
def EntV (W : World) (l : List Value) : Prop := ∃ (t k : Nat) (u : Value), l = [.int .i64 (t : Nat), .int .i64 (k : Nat), u, .slice none 0 0] ∧ (0 < t ∧ t ≤ 3 ∧ k ≤ 2) ∧ (u = .slice none 0 0 ∨ ∃ s l, RowB u s l W ∧ l.length ≤ 240 ∧ ∀ j, s j → j < W.heap.size)
section
variable {P : Program} {C : Ciph} {ν : Nu} {h : Heap D} {W : World}
theorem entsOk_ok (hok : Ok P (lore C) ν h W) : ∀ (m : Nat) {cs : List Cell} {vs : List Value} {f : Unit → M D Slot} {nx r w : Nat} {x : Slot} {h' : Heap D} {nx' r' w' : Nat}, entsOk m cs f h nx r w = .ok x h' nx' r' w' → RepL ν cs vs →
    ∃ r1 w1, f () h nx r1 w1 = .ok x h' nx' r' w' ∧ ∀ i, i < m → EntV W ((vs.drop (i * 4)).take 4)
  | 0, cs, vs, f, nx, r, w, x, h', nx', r', w', he, hr => ⟨r, w, he, fun i hi => absurd hi (Nat.not_lt_zero _)⟩
  | m + 1, cs, vs, f, nx, r, w, x, h', nx', r', w', he, hr => by
    have shape : ∃ t k d v cs', cs = .nat t :: .nat k :: d :: .flat v :: cs' := by
      rcases cs with _ | ⟨c0, _ | ⟨c1, _ | ⟨c2, _ | ⟨c3, cs'⟩⟩⟩⟩
      · cases he
      · cases c0 <;> cases he
      · cases c0 <;> first | (cases he; done) | (cases c1 <;> cases he)
      · cases c0 <;> first | (cases he; done) | (cases c1 <;> cases he)
      · cases c0 <;> first | (cases he; done) | skip
        cases c1 <;> first | (cases he; done) | skip
        cases c3 <;> first | (cases he; done) | skip
        exact ⟨_, _, _, _, _, rfl⟩
    obtain ⟨t, k, d, v, cs', rfl⟩ := shape
    have he : chk 308 (isNilRow v && Nat.blt 0 t && Nat.ble t 3 && Nat.ble k 2) (bytesOf (.one d) fun w => upTo 309 240 w (entsOk m cs' f)) h nx r w = .ok x h' nx' r' w' := he
    · obtain ⟨hb, e1⟩ := chk_ok he
      simp only [Bool.and_eq_true] at hb
      obtain ⟨⟨⟨b1, b2⟩, b3⟩, b4⟩ := hb
      obtain rfl := isNilRow_eq b1
      have b2 : 0 < t := Nat.le_of_ble_eq_true b2
      have b3 : t ≤ 3 := Nat.le_of_ble_eq_true b3
      have b4 : k ≤ 2 := Nat.le_of_ble_eq_true b4
      cases hr with | cons h0 hr => cases hr with | cons h1 hr => cases hr with | cons h2 hr => cases hr with | cons h3 hr =>
        obtain ⟨rfl, _⟩ := nat_eq h0
        obtain ⟨rfl, _⟩ := nat_eq h1
        obtain rfl := flat_eq h3
        obtain ⟨wd, r1, w1, e2, hd⟩ := bytesOf_ok e1 hok (.one h2)
        obtain ⟨hlen, _, e3⟩ := upTo_ok (C := C) e2
        obtain ⟨r2, w2, e4, hall⟩ := entsOk_ok hok m e3 hr
        refine ⟨r2, w2, e4, fun i hi => ?_⟩
        cases i with
        | zero =>
          refine ⟨t, k, _, rfl, ⟨b2, b3, b4⟩, ?_⟩
          rcases hd with ⟨_, e⟩ | ⟨_, se, g1, _, g3⟩
          · exact .inl e
          · exact .inr ⟨se, _, g1, hlen, g3⟩
        | succ i =>
          have := hall i (by omega)
          rw [show (i + 1) * 4 = i * 4 + 1 + 1 + 1 + 1 by omega]
          exact this
theorem ents_at {b off m cap : Nat} {c : Array Value} {e : TypeId} {q : Nat} (hb : W.heap[b]? = some (.cells c e (0, 0))) (hq : q ≤ c.size) (hm : off + m * 4 ≤ q) (h : ∀ i, i < m → EntV W ((((c.toList.drop off).take (m * 4)).drop (i * 4)).take 4)) : EntsAt W (some ⟨b, off, none⟩) m := fun i hi => by
  obtain ⟨t, k, u, h1, h2, h3⟩ := h i hi
  refine ⟨b, off, t, k, u, rfl, fun j v hv => ?_, h2, heap_lt hb, h3⟩
  rw [← h1] at hv
  rw [row_cells (ν := fun _ => none) (cs := []) (n := 0) hb]
  rw [List.getElem?_take] at hv
  split at hv
  · rename_i hj
    rw [List.getElem?_drop, List.getElem?_take] at hv
    split at hv
    · rw [List.getElem?_drop] at hv
      rw [← hv, Nat.add_assoc]
    · cases hv
  · cases hv
/-- A name of a block that goes for a while. -/
theorem Ok.away (hok : Ok P (lore C) ν h W) {k : Nat} (hk : k < 32768) : Ok P (lore C) ν (h.lay k none) W :=
  hok.step (Sub.refl _) hk (fun _ _ _ _ _ _ _ _ => rfl) (fun t0 ht0 => by cases ht0)
theorem Ok.tokenB (hok : Ok P (lore C) ν h W) {W' : World} {g nx : Nat} (hk : But g W.heap.size W W') (hg : ∀ j tj sj, h.at j = some tj → ν j = some sj → ¬ sj.own g ∧ ¬ sj.sees g) (hν : ν nx = none) (hn3 : nx < 32768) {d : D} {u : Value} {s : Nat → Prop} (hc : (lore C).conc d u (fun _ => False) s W') (hs : ∀ i, s i → W.heap.size ≤ i) :
    Ok P (lore C) (ν.set nx (.val u (fun _ => False) s)) (h.lay nx (some (.data d))) W' := by
  refine hok.step (Sub.set hν _) hn3 (fun j tj sj hj hjt hjs i hi => ?_) (fun t0 ht0 => ?_) hk.3
  · obtain ⟨s', h1, h2⟩ := hok.thing j tj hjt
    rw [hjs] at h1
    cases h1
    refine hk.2 i (h2.lt i hi) fun e => ?_
    subst e
    exact hi.elim (hg j tj sj hjt hjs).1 (hg j tj sj hjt hjs).2
  · cases ht0
    refine ⟨_, Nu.set_same _ _ _, hc, fun j tj sj hj hjt hjs i => ⟨fun hi => hi.elim, fun hi => ⟨fun h => h, fun hi' => ?_⟩⟩⟩
    obtain ⟨s', h1, h2⟩ := hok.thing j tj hjt
    rw [hjs] at h1
    cases h1
    have := h2.lt i (.inl hi)
    have := hs i hi'
    omega
theorem Ok.back (hok : Ok P (lore C) ν h W) {k g room n : Nat} {cs : List Cell} {c : Array Value} {e : TypeId} (hk : k < 32768) (hν : ν k = some (.blk g room)) (hg : ∀ j tj sj, j ≠ k → h.at j = some tj → ν j = some sj → ¬ sj.own g ∧ ¬ sj.sees g) (hc : W.heap[g]? = some (.cells c e (0, 0))) (hr : RepL ν cs (c.toList.take n)) (hn : n ≤ c.size) (hroom : room ≠ 0 → ∃ i, P.info? e = some i ∧ c.size = room * i.size) :
    Ok P (lore C) ν (h.lay k (some (.cells n cs e))) W := by
  refine hok.step (Sub.refl _) hk (fun _ _ _ _ _ _ _ _ => rfl) (fun t0 ht0 => ?_)
  cases ht0
  refine ⟨_, hν, ⟨c, hc, hr, hn, hroom⟩, fun j tj sj hj hjt hjs i => ⟨fun hi => ?_, fun hi => ⟨fun hi' => ?_, fun h => h⟩⟩⟩
  · obtain rfl : i = g := hi
    exact hg j tj sj hj hjt hjs
  · obtain rfl : i = g := hi'
    exact (hg j tj sj hj hjt hjs).1 hi
end
end Go.Proofs.YtlpbbihjnmikkaaGreatDoor.Exe

namespace Go.Proofs.YtlpbbihjnmikkaaGreatDoor.Exe
set_option linter.unusedSimpArgs false
set_option linter.unusedVariables false
set_option maxRecDepth 100000
open Go.RowKit

theorem ok2_rep (ν : Nu) : RepS ν (.tup [.one (.nat 0), .one (.nat 0)]) (.tuple #[.int .i64 0, .int .i64 0]) :=
  .tup (.cons (.one (.nat 0 (by decide))) (.cons (.one (.nat 0 (by decide))) .nil))
/-- What Save leaves. -/
theorem saveD_ends (C : Ciph) {ν : Nu} {h : Heap D} {W : World} (hok : Ok Tryz.prog (lore C) ν h W) {f : FuncId} {args : Array Value} {k n st m nx r w : Nat} {nw : Bool} {v : Slot} {h' : Heap D} {nx' r' w' : Nat} (he : saveD k n st nw m h nx r w = .ok v h' nx' r' w') (hf : Fresh ν nx nx')
    {g room : Nat} {cs0 : List Cell} {now sure : Value} {ext : List Value} {l : List Oct} (hk : h.at k = some (.cells 16 cs0 70)) (hν : ν k = some (.blk g room)) (hg : Cells W g (dskC now sure nilV (st : Int) ext) 70) (hroom : room ≠ 0 → ∃ i, Tryz.prog.info? 70 = some i ∧ (dskC now sure nilV (st : Int) ext).size = room * i.size) (hl : l.length ≤ n)
    (hc : (nw = true ∨ 0 < m → st < 1000000 ∧ l.length ≤ 1000000) → Calls Tryz.prog f args W fun e w' => e = .returned (.tuple #[.int .i64 0, .int .i64 0]) ∧
      ((nw = false ∧ m = 0 → Keeps W.heap.size W w') ∧ (nw = true ∨ 0 < m → ∃ now' L, 0 < L.length ∧ L.length ≤ 1000 * (m + 1) ∧ Cells w' g (dskC now' now' nilV ((st : Int) + 2) ext) 70 ∧ Owns w' W.heap.size now' (l ++ L) ∧ But g W.heap.size W w'))) :
    Calls Tryz.prog f args W fun e W' => ∃ u ν', e = .returned u ∧ Ext ν ν' nx nx' ∧ Ok Tryz.prog (lore C) ν' h' W' ∧ RepS ν' v u := by
  unfold saveD at he
  cases hb : (nw || Nat.blt 0 m) with
  | false =>
    rw [hb] at he
    have he : pair okS okS h nx r w = .ok v h' nx' r' w' := he
    cases he
    simp only [Bool.or_eq_false_iff] at hb
    have hm : m = 0 := by
      rcases Nat.eq_zero_or_pos m with e | e
      · exact e
      · have : Nat.blt 0 m = true := Nat.ble_eq_true_of_le e
        rw [hb.2] at this
        cases this
    have hno : ¬ (nw = true ∨ 0 < m) := by
      rintro (e | e)
      · rw [hb.1] at e; cases e
      · omega
    refine (hc fun e => absurd e hno).mono fun e W' ⟨h1, h2, _⟩ => ⟨_, ν, h1, Ext.refl _ _, ?_, ok2_rep ν⟩
    have kk := h2 ⟨hb.1, hm⟩
    exact hok.world kk.2 kk.3
  | true =>
    rw [hb] at he
    have he : chk 311 (Nat.ble (n + 1000 + 1000 * m) 1000000 && Nat.blt st 1000000) (M.bind (new (.data (.disk (n + 1000 + 1000 * m)))) fun r => M.bind (wr k (some (.cells 16 (.tok r :: .tok r :: diskTail st) 70))) fun _ => pair okS okS) h nx r w = .ok v h' nx' r' w' := he
    obtain ⟨hq, e1⟩ := chk_ok he
    simp only [Bool.and_eq_true] at hq
    have q1 : n + 1000 + 1000 * m ≤ 1000000 := Nat.le_of_ble_eq_true hq.1
    have q2 : st < 1000000 := Nat.le_of_ble_eq_true hq.2
    obtain ⟨a, h1, n1, r1, w1, e2, e3⟩ := bind_ok e1
    obtain ⟨hn3, rfl, rfl, rfl, rfl, rfl⟩ := new_ok e2
    obtain ⟨_, h2, n2, r2, w2, e4, e5⟩ := bind_ok e3
    obtain ⟨_, rfl, rfl, rfl, rfl⟩ := wr_ok e4
    cases e5
    have hyes : nw = true ∨ 0 < m := by
      rw [Bool.or_eq_true] at hb
      exact hb.imp id fun e => Nat.le_of_ble_eq_true e
    have hnu := hf a (Nat.le_refl _) (Nat.lt_succ_self _)
    have hne : k ≠ a := fun e => by rw [e, hnu] at hν; cases hν
    have hk3 := at_lt hk
    refine (hc fun _ => ⟨q2, by omega⟩).mono fun e W' ⟨g1, _, g2⟩ => ?_
    obtain ⟨now', L, l1, l2, c1, o1, b1⟩ := g2 hyes
    have hgW := hg.lt
    have hone : now'.oneCell' = true := by obtain ⟨A, c, rfl⟩ := o1.slice; rfl
    have ok0 := hok.away hk3
    have free0 : ∀ j tj sj, (h.lay k none).at j = some tj → ν j = some sj → ¬ sj.own g ∧ ¬ sj.sees g := fun j tj sj hj hs => by
      rw [at_lay hk3] at hj
      split at hj
      · cases hj
      · rename_i hjk
        have := hok.apart k j _ _ _ _ (fun e => hjk e.symm) hk hj hν hs g rfl
        exact this
    have hdisk : (lore C).conc (.disk (n + 1000 + 1000 * m)) now' (fun _ => False) (fun j => W.heap.size ≤ j ∧ j < W'.heap.size) W' := by
      refine ⟨nobody_no, fun _ h => h.2, l ++ L, ?_, o1.rowB⟩
      rw [List.length_append]
      omega
    have ok1 := ok0.tokenB b1 free0 hnu hn3 hdisk (fun _ h => h.1)
    have hνk : (ν.set a (.val now' (fun _ => False) (fun j => W.heap.size ≤ j ∧ j < W'.heap.size))) k = some (.blk g room) := by
      unfold Nu.set
      rw [if_neg hne]
      exact hν
    have hνn := Nu.set_same ν a (.val now' (fun _ => False) (fun j => W.heap.size ≤ j ∧ j < W'.heap.size))
    have hsize : (dskC now' now' nilV ((st : Int) + 2) ext).size = (dskC now sure nilV (st : Int) ext).size := by simp
    have ok2 := ok1.back (n := 16) (cs := .tok a :: .tok a :: diskTail st) (e := 70) hk3 hνk (fun j tj sj hj hjt hjs => ?_) c1 ?_ (by simp) (by rw [hsize]; exact hroom)
    · refine ⟨_, _, g1, Ext.set hnu _, ok2.same fun j => ?_, ok2_rep _⟩
      rw [at_lay hk3, at_lay hk3, at_lay hn3, at_lay hn3, at_lay hk3]
      by_cases e1 : j = k
      · rw [if_pos e1, if_pos e1]
      · rw [if_neg e1, if_neg e1, if_neg e1]
    · rw [at_lay hn3] at hjt
      split at hjt
      · rename_i e
        subst e
        rw [hνn] at hjs
        cases hjs
        exact ⟨fun h => h, fun h => by have := h.1; omega⟩
      · rename_i e
        unfold Nu.set at hjs
        rw [if_neg e] at hjs
        exact free0 j tj sj hjt hjs
    · have htail : RepL (ν.set a (.val now' (fun _ => False) (fun j => W.heap.size ≤ j ∧ j < W'.heap.size))) (diskTail st) [nilV, nilV, nilV, nilV, nilV, nilV, nilV, nilV, nilV, nilV, .bool false, .bool false, .int .i64 0, .int .i64 ((st : Int) + 2)] := by
        have hz : ∀ ν : Nu, RepC ν nilC nilV := fun ν => .flat _ rfl
        refine .cons (hz _) (.cons (hz _) (.cons (hz _) (.cons (hz _) (.cons (hz _) (.cons (hz _) (.cons (hz _) (.cons (hz _) (.cons (hz _) (.cons (hz _) (.cons (.bool false) (.cons (.bool false) (.cons (.nat 0 (by decide)) (.cons ?_ .nil)))))))))))))
        exact .nat (st + 2) (by omega)
      have e16 : (dskC now' now' nilV ((st : Int) + 2) ext).toList.take 16 = now' :: now' :: [nilV, nilV, nilV, nilV, nilV, nilV, nilV, nilV, nilV, nilV, .bool false, .bool false, .int .i64 0, .int .i64 ((st : Int) + 2)] := rfl
      rw [e16]
      exact .cons (.tok hνn hone) (.cons (.tok hνn hone) htail)
theorem save_known (C : Ciph) : KnownOk Tryz.prog (lore C) 94 fSave := fun args h nx r w v h' nx' r' w' he ν W args' hok hf ha => by
  unfold fSave at he
  obtain ⟨hT, r1, w1, e1⟩ := tabled_ok info424 hok he
  split at e1
  · rename_i d s2 a b nw x f1 f2 c es y
    obtain ⟨l⟩ := args'
    cases ha with | cons ha1 ha => cases ha with | cons ha2 ha => cases ha with | cons ha3 ha => cases ha with | cons ha4 ha =>
      cases ha
      obtain ⟨k, ac, n, st, r2, w2, g, room, now, sure, ext, cs, e2, rfl, hk, hν, hg, hroom, hac, s, l0, hrow, hln, hsg, hsl⟩ := withDisk_ok e1 hok ha1
      obtain ⟨hab, e3⟩ := chk_ok e2
      simp only [Bool.and_eq_true] at hab
      have ha3' : a ≤ 3 := Nat.le_of_ble_eq_true hab.1
      have hb3' : b ≤ 3 := Nat.le_of_ble_eq_true hab.2
      cases ha3 with
      | one ha3 =>
        obtain ⟨rfl, _⟩ := nat_eq ha3
        cases ha4 with
        | @agg _ _ vs hv hlen =>
          obtain ⟨vs⟩ := vs
          cases hv with | cons v0 hv => cases hv with | cons v1 hv => cases hv with | cons v2 hv => cases hv with | cons v3 hv => cases hv with | cons v4 hv => cases hv with | cons v5 hv => cases hv with | cons v6 hv => cases hv with | cons v7 hv => cases hv with | cons v8 hv => cases hv with | cons v9 hv =>
            cases hv
            obtain ⟨rfl, _⟩ := nat_eq v0
            obtain ⟨rfl, _⟩ := nat_eq v1
            obtain rfl := bool_eq v2
            obtain ⟨rfl, _⟩ := nat_eq v3
            obtain ⟨rfl, _⟩ := nat_eq v7
            split at e3
            · rename_i ve
              obtain ⟨hz, e4⟩ := chk_ok e3
              obtain rfl := isNilRow_eq hz
              obtain rfl := flat_eq v8
              exact saveD_ends C hok e4 hf hk hν hg hroom hln fun hbd => save94 C hT hg (Int.natCast_nonneg _) hrow hsg hsl ha3' hb3' (fun h => absurd h (by decide)) (fun h => by have := hbd h; omega) (fun i hi => absurd hi (Nat.not_lt_zero _)) (Nat.zero_le _)
            · rename_i be off m cp
              unfold Exe.rdC at e3
              obtain ⟨t, h1, n1, r3, w3, e4, e5⟩ := bind_ok e3
              obtain ⟨hbe, rfl, rfl, rfl, rfl⟩ := rd_ok e4
              cases t with
              | cells q cs1 te =>
                obtain ⟨hq, e6⟩ := chk_ok e5
                simp only [Bool.and_eq_true] at hq
                have q1 : off + m * 4 ≤ q := Nat.le_of_ble_eq_true hq.1
                have q2 : c + m ≤ 40 := Nat.le_of_ble_eq_true hq.2
                cases v8 with
                | @row _ _ _ c' bb room2 _ hνb hcap =>
                  obtain ⟨s', hs', ht'⟩ := hok.thing be _ hbe
                  rw [hνb] at hs'
                  cases hs'
                  obtain ⟨cc, g1, g2, g3, _⟩ := ht'
                  have hpm := part_many g2 g3 (off := off) (m := m * 4) q1
                  obtain ⟨r4, w4, e7, hall⟩ := entsOk_ok hok m e6 hpm.1
                  have hmc : m ≤ c' := by
                    cases cp with
                    | exact _ => obtain ⟨rfl, h⟩ := hcap; exact h
                    | some => exact hcap
                    | whole => obtain ⟨_, rfl, h⟩ := hcap; exact h
                    | lost => exact hcap.elim
                  exact saveD_ends C hok e7 hf hk hν hg hroom hln fun hbd => save94 C hT hg (Int.natCast_nonneg _) hrow hsg hsl ha3' hb3' (fun _ => q2) (fun h => by have := hbd h; omega) (ents_at (cap := c') g1 g3 q1 hall) hmc
                | lost _ _ c' ad =>
                  have e7 : saveD k n st nw 0 _ _ _ _ = .ok v h' nx' r' w' := e6
                  exact saveD_ends C hok e7 hf hk hν hg hroom hln fun hbd => save94 C hT hg (Int.natCast_nonneg _) hrow hsg hsl ha3' hb3' (fun h => absurd h (by decide)) (fun h => by have := hbd h; omega) (fun i hi => absurd hi (Nat.not_lt_zero _)) (Nat.zero_le _)
              | map _ _ => cases e5
              | fn _ _ _ => cases e5
              | data _ => cases e5
            · cases e3
  · cases e1
end Go.Proofs.YtlpbbihjnmikkaaGreatDoor.Exe

namespace Go.Proofs.YtlpbbihjnmikkaaGreatDoor.Exe
set_option linter.unusedSimpArgs false
set_option linter.unusedVariables false
set_option maxRecDepth 100000
open Go.RowKit

abbrev z250 : Array Value := #[.int .i64 0, .int .i64 0, .int .i64 0, .int .i64 0, .int .i64 0, .int .i64 0, .int .i64 0, .int .i64 0, .slice none 0 0, .slice none 0 0]
set_option maxHeartbeats 1000000 in
theorem catch198 (p q : Nat) (w : World) (hp : Cells w p z250 250) (hq : Cells w q #[.int .i64 0] 3) (hpq : p ≠ q) :
    CallsD Tryz.prog 198 #[.pointer (some ⟨p, 0, none⟩), .pointer (some ⟨q, 0, none⟩)] (.panicking [{ v := .iface 312 (.agg #[]), recovered := false }]) w fun e u' w' =>
      e = .returned (.tuple #[]) ∧ u' = .panicking [{ v := .iface 312 (.agg #[]), recovered := true }] ∧ (Cells w' p z250 250 ∧ Cells w' q #[.int .i64 0] 3 ∧ (w.heap.size ≤ w'.heap.size ∧ Calm w w' ∧ ∀ i : Nat, i < w.heap.size → i ≠ p → i ≠ q → w'.heap[i]? = w.heap[i]?)) := by
  have ha := assert312 (.agg #[])
  have k1 := Keeps.alloc w (.cells #[] 312)
  have hp1 := hp.keeps k1
  have hq1 := hq.keeps k1
  have hlp := hp.lt
  have hlq := hq.lt
  have hi250 : (Tryz.prog.info? 250).map (·.size) = some z250.size := by kernel_rfl
  have h250 : z250.all (·.oneCell') = true := by kernel_rfl
  have hqp : q ≠ p := fun e => hpq e.symm
  refine callsD_of_wpS Tryz.func198 rfl fun c₀ cs hu => ?_
  apply wpS_seq
  apply wpS_region
  simp [wpOpsS, go_sem, recoverD, hu, Tryz.ntmps198, Exit.thenS]
  refine wpS_of_wp ?_
  simp only [List.replicate, Array.replicate, List.append_toArray, List.cons_append, List.nil_append, List.setIfInBounds_toArray, List.set_cons_zero, List.set_cons_succ]
  go_wp2_with (first
    | (refine wpList_storeA 250 rfl (.tmp 0) (.tmp 11) rfl (g := p) rfl rfl hp1 hi250 rfl h250 ?_; intro w2 hc2 hz2 hb2; have q2 : Cells w2 q #[.int .i64 0] 3 := (hb2.block q hqp).trans hq1; have c2 : w2.cell? ⟨q, 0, none⟩ = some (.int .i64 0) := q2.cell 0; have f2 := q2.frozen 0; replace q2 := Lib.hid q2; replace hc2 := Lib.hid hc2; replace hz2 := Lib.hid hz2))
  have q2 := q2.out
  have hz2 := hz2.out
  have e1 : Cells (w2.setCell ⟨q, 0, none⟩ (.int .i64 0)) p z250 250 := (Below.heap_setCell w2 ⟨q, 0, none⟩ _ p hpq).trans hc2.out
  have e2 : Cells (w2.setCell ⟨q, 0, none⟩ (.int .i64 0)) q #[.int .i64 0] 3 := q2.set 0 _
  have e3 : w.heap.size ≤ (w2.setCell ⟨q, 0, none⟩ (.int .i64 0)).heap.size := by simp [hz2]
  have e4 : Calm w (w2.setCell ⟨q, 0, none⟩ (.int .i64 0)) := (k1.3.trans hb2.calm).trans ⟨rfl, rfl⟩
  have e5 : ∀ i : Nat, i < w.heap.size → i ≠ p → i ≠ q → (w2.setCell ⟨q, 0, none⟩ (.int .i64 0)).heap[i]? = w.heap[i]? := fun i hi h1 h2 => (Below.heap_setCell w2 ⟨q, 0, none⟩ _ i h2).trans ((hb2 i h1).trans (k1.2 i hi))
  generalize w2.setCell ⟨q, 0, none⟩ (.int .i64 0) = w3 at e1 e2 e3 e4 e5 ⊢
  simp [bodyPostS, results, Tryz.results198]
  exact ⟨e1, e2, e3, e4, e5⟩
theorem results_jou {w : World} {tmps : Array Value} {p q : Nat} (h1 : tmps.getD 2 undef = .pointer (some ⟨p, 0, none⟩)) (h2 : tmps.getD 3 undef = .pointer (some ⟨q, 0, none⟩)) (hp : Cells w p z250 250) (hq : Cells w q #[.int .i64 0] 3) :
    (results Tryz.f124 tmps).run Tryz.prog w = .ok (.tuple #[.agg z250, .int .i64 0]) w := by
  have u3 : Tryz.prog.underlying 3 = some (.int .i64) := by kernel_rfl
  have hi250 : (Tryz.prog.info? 250).map (·.size) = some z250.toList.length := by kernel_rfl
  have hl : (loadVar 250 ⟨p, 0, none⟩).run Tryz.prog w = .ok (.agg z250) w := by
    have := run_loadVar_mid (P := Tryz.prog) w p 0 250 z250.toList _ (fun j v hv => by rw [Nat.zero_add, hp.cell]; simpa using hv) Tryz.underlying250 rfl hi250
    simpa using this
  have hc : w.cell? ⟨q, 0, none⟩ = some (.int .i64 0) := hq.cell 0
  have hl3 : (loadVar 3 ⟨q, 0, none⟩).run Tryz.prog w = .ok (.int .i64 0) w := by simp [loadVar, run_underlying u3, hc]
  rw [Array.getD_eq_getD_getElem?] at h1 h2
  simp [results, Tryz.results124, h1, h2, asAddr, hl, hl3]
set_option maxHeartbeats 1000000 in
theorem one_nil (w : World) : Calls Tryz.prog 124 #[.slice none 0 0] w fun e w' => e = .returned (.tuple #[.agg z250, .int .i64 0]) ∧ Keeps w.heap.size w w' := by
  have hmf : ∀ (fn : Fn) (first cap : Array Value) (w : World), (Instr.makeFunc fn first cap).run Tryz.prog w = .ok (.func fn first cap) w := fun _ _ _ _ => rfl
  go_enter_defers Tryz.func124, Tryz.ntmps124
  go_wp2_with (first
    | (go_at_call 200; refine (text_nil _ _ (by simp [go_sem])).mono ?_; (rintro e w1 ⟨rfl, rfl⟩)))
  have n1 : Cells (w.alloc (.cells z250 250)) w.heap.size z250 250 := heap_new w z250 250
  have s1 : (w.alloc (.cells z250 250)).heap.size = w.heap.size + 1 := by simp
  have kA := Keeps.alloc w (.cells z250 250)
  have kB := Keeps.alloc (w.alloc (.cells z250 250)) (.cells #[.int .i64 0] 3)
  have kC := Keeps.alloc ((w.alloc (.cells z250 250)).alloc (.cells #[.int .i64 0] 3)) (.cells #[.slice none 0 0] 315)
  have n2 : Cells ((w.alloc (.cells z250 250)).alloc (.cells #[.int .i64 0] 3)) (w.heap.size + 1) #[.int .i64 0] 3 := by rw [← s1]; exact heap_new _ _ 3
  have k := (kA.trans kB kA.1).trans kC (kA.trans kB kA.1).1
  refine leaves_cons (f := 198) (args := #[.pointer (some ⟨w.heap.size, 0, none⟩), .pointer (some ⟨w.heap.size + 1, 0, none⟩)]) (by simp) (by simp [go_sem]) ?_
  refine (catch198 w.heap.size (w.heap.size + 1) _ ((n1.keeps kB).keeps kC) (n2.keeps kC) (by omega)).mono ?_
  rintro e u' w9 ⟨rfl, rfl, c1, c2, z9, m9, b9⟩
  have k9 : Keeps w.heap.size w w9 := ⟨Nat.le_trans k.1 z9, fun i hi => (b9 i (by have := k.1; omega) (by omega) (by omega)).trans (k.2 i hi), k.3.trans m9⟩
  exact ⟨_, results_jou rfl rfl c1 c2, rfl, k9⟩
end Go.Proofs.YtlpbbihjnmikkaaGreatDoor.Exe

namespace Go.Proofs.YtlpbbihjnmikkaaGreatDoor.Exe
set_option linter.unusedSimpArgs false
set_option linter.unusedVariables false
set_option maxRecDepth 100000
open Go.RowKit

theorem read62 {w : World} {g : Nat} {sure : Value} {st : Int} {ext : List Value} (hg : Cells w g (dskC nilV sure nilV st ext) 70) : Calls Tryz.prog 62 #[.pointer (some ⟨g, 0, none⟩), .int .i64 0] w fun e w' => e = .returned (.tuple #[.slice none 0 0, .int .i64 0]) ∧ w = w' := by
  have q0 := hg.cell 0
  have q12 := hg.cell 12
  have q13 := hg.cell 13
  simp only [List.getElem?_toArray, List.getElem?_cons_zero, List.getElem?_cons_succ] at q0 q12 q13
  go_enter Tryz.func62, Tryz.ntmps62
  go_wp2_with (first
    | (go_at_call 123; refine (at123 g _).mono ?_; rintro e w1 ⟨rfl, rfl⟩)
    | (go_at_call 8; refine (clone_nil _).mono ?_; rintro e w1 ⟨rfl, rfl⟩))
  go_ret2
  exact ⟨rfl, rfl⟩
theorem file61 {w : World} {g p : Nat} {sure : Value} {st : Int} {ext : List Value} (hg : Cells w g (dskC nilV sure nilV st ext) 70) (hp : w.cell? ⟨p, 0, none⟩ = some (.pointer (some ⟨g, 0, none⟩))) : Calls Tryz.prog 61 #[.int .i64 0, .pointer (some ⟨p, 0, none⟩)] w fun e w' => e = .returned (.slice none 0 0) ∧ w = w' := by
  go_enter Tryz.func61, Tryz.ntmps61
  go_wp2_with (first
    | (go_at_call 62; refine (read62 hg).mono ?_; rintro e w1 ⟨rfl, rfl⟩)
    | (go_at_call 63; refine (must63 _).mono ?_; rintro e w0 ⟨rfl, rfl⟩))
  go_ret
  exact ⟨rfl, rfl⟩
theorem scan64 (w : World) : Calls Tryz.prog 64 #[.slice none 0 0] w fun e w' => e = .returned (.tuple #[.slice none 0 0, .int .i64 0]) ∧ Keeps w.heap.size w w' := by
  have hi250 : (Tryz.prog.info? 250).map (·.size) = some z250.size := by kernel_rfl
  have h250 : z250.all (·.oneCell') = true := by kernel_rfl
  go_enter Tryz.func64, Tryz.ntmps64
  go_wp2_with (first
    | (refine wp_loop_turns 2 ?_; unfold turns)
    | (go_at_call 124; refine (one_nil _).mono ?_; rintro e w1 ⟨rfl, k1⟩; have n1 : Cells (w1.alloc (.cells z250 250)) w1.heap.size z250 250 := heap_new w1 z250 250)
    | (with_reducible refine wpList_storeA 250 rfl (.tmp 4) (.tmp 11) rfl rfl rfl n1 hi250 rfl h250 ?_; intro w2 hc2 hz2 hb2; have k2 := k1.trans (Keeps.allocStore _ hz2 hb2) k1.1))

  go_ret2
  exact ⟨rfl, k2⟩
end Go.Proofs.YtlpbbihjnmikkaaGreatDoor.Exe

namespace Go.Proofs.YtlpbbihjnmikkaaGreatDoor.Exe
set_option linter.unusedSimpArgs false
set_option linter.unusedVariables false
set_option maxRecDepth 100000
open Go.RowKit

/-- What a key is made of. -/
theorem expandJoin {w : World} {A2 : Option Addr} {c2 : Nat} {l : List Oct} (hv : Src (.slice A2 l.length c2) l w) (hl : l.length ≤ 256) :
    Calls Tryz.prog 100 #[.slice (some ⟨w.heap.size + 1, 0, none⟩) 3 3] ((w.alloc (.cells #[.int .u8 1] 5)).alloc (.cells #[.slice none 0 0, .slice A2 l.length c2, .slice (some ⟨w.heap.size, 0, none⟩) 1 1] 24)) fun e w' => ∃ v, e = .returned v ∧ Owns w' w.heap.size v (l ++ [1]) ∧ Keeps w.heap.size w w' := by
  have kA := Keeps.alloc w (.cells #[.int .u8 1] 5)
  have h1 : Src (.slice none 0 0) [] (w.alloc (.cells #[.int .u8 1] 5)) := .inl ⟨rfl, rfl⟩
  have h2 := hv.later kA.1 kA.2
  have h3 : Src (.slice (some ⟨w.heap.size, 0, none⟩) 1 1) [1#8] (w.alloc (.cells #[.int .u8 1] 5)) := cells_src (l := [1#8]) (heap_new w _ 5) rfl
  have e : (w.alloc (.cells #[.int .u8 1] 5)).heap.size = w.heap.size + 1 := by simp
  have := concatNew3 h1 h2 h3 (by decide) (by omega) (by decide) (by simp)
  rw [e] at this
  refine this.mono fun e w' ⟨v, g1, g2, g3⟩ => ⟨v, g1, ?_, ?_⟩
  · exact owns_base (Nat.le_succ w.heap.size) g2
  · exact ⟨Nat.le_trans kA.1 g3.1, fun i hi => (g3.2 i (by omega)).trans (kA.2 i hi), kA.3.trans g3.3⟩
theorem append_len {l : List Oct} (hl : l.length ≤ 256) : (l ++ [1]).length ≤ 1024 := by simp; omega
theorem le_32 {l k : List Oct} : (macF k l).length ≤ 8192 := by rw [macF_len]; decide
set_option maxHeartbeats 2000000 in
theorem expand195 {w : World} {u v : Value} {k l : List Oct} (hT : Laid w) (hu : Src u k w) (hk : k.length = 32) (hv : Src v l w) (hl : l.length ≤ 256) : Calls Tryz.prog 195 #[u, v, .int .i64 32] w fun e w' => ∃ v', e = .returned (.tuple #[v', .int .i64 0]) ∧ Owns w' w.heap.size v' (macF k (l ++ [1])) ∧ Keeps w.heap.size w w' := by
  obtain ⟨A, c, rfl⟩ := hu.slice
  obtain ⟨A2, c2, rfl⟩ := hv.slice
  rw [hk] at hu ⊢
  go_enter Tryz.func195, Tryz.ntmps195
  go_wp2_with (first
    | (refine wp_loop_turns 2 ?_; unfold turns)
    | (go_at_call 100; (with_reducible refine (expandJoin hv hl).mono ?_); rintro e w1 ⟨v1, rfl, o1, k1⟩)
    | (go_at_call 246; (with_reducible refine (sum246 (hT.keeps k1.2) (hu.later k1.1 k1.2) hk o1.rowB.src (append_len hl)).mono ?_); rintro e w2 ⟨rfl, k2⟩; have k2' := k1.trans k2 k1.1; have h2 : Cells (w2.alloc (.cells z32 195)) w2.heap.size z32 195 := heap_new w2 z32 195)
    | (with_reducible refine wpList_storeA 195 rfl (.tmp 11) (.tmp 34) rfl rfl rfl h2 (info195m _ _) (z32m _ _) (macF_one _ _) ?_; intro w3 hc3 hz3 hb3; have k3 := Keeps.allocStore _ hz3 hb3; have k3' := k2'.trans k3 k2'.1; have s3 := cells_src hc3 (macF_len _ _))
    | (at_builtin; have e0 := World.ownsRow_nil w3 w.heap.size 5 1; refine wpList_append_src (base := w.heap.size) (n := 0) (xs := []) rfl (.tmp 36) (.tmp 37) rfl e0 (Nat.zero_le _) k3'.1 rfl rfl s3 le_32 ?_; clear e0; intro v4 w4 o4 hz4 hb4))
  have o5 : w4.ownsRow w.heap.size 5 1 v4 32 (octs (macF k (l ++ [1]))) := by
    have := o4
    rw [macF_len] at this
    exact this
  have k4 : Keeps w.heap.size w w4 := ⟨Nat.le_trans k3'.1 hz4, fun i hi => (hb4 i hi).trans (k3'.2 i hi), k3'.3.trans hb4.calm⟩
  clear o4
  rcases o5.2 with ⟨_, h0⟩ | ⟨g, cap, cur, rfl, hg, hcur, hcap, hmax, hsz, htk⟩
  · omega
  · unfold turns
    go_wp2_with fail
    go_ret2
    exact ⟨_, rfl, owns_of o5 (macF_len _ _).symm rfl, k4⟩
end Go.Proofs.YtlpbbihjnmikkaaGreatDoor.Exe

namespace Go.Proofs.YtlpbbihjnmikkaaGreatDoor.Exe
set_option linter.unusedSimpArgs false
set_option linter.unusedVariables false
open Go.RowKit

theorem convert_mark {w : World} {g n c : Nat} {C : Array Value} (hg : w.heap[g]? = some (.cells C 5 (0, 0))) :
    (convert 24 24 (.slice (some ⟨g, 0, none⟩) n c)).run Tryz.prog w = .ok (.slice (some ⟨g, 0, none⟩) n c) (w.freeze ⟨g, C.size, none⟩ 1) := by
  have hsh : w.shape? g = some (5, C.size) := by
    unfold World.shape?
    rw [hg]
  have he : Tryz.prog.underlying 5 = some (.int .u8) := by kernel_rfl
  simp [convert, run_underlying Tryz.underlying24, run_underlying he, markStringish, hsh]
theorem freeze_heap {w : World} {g k : Nat} {C : Array Value} (hg : w.heap[g]? = some (.cells C 5 (0, 0))) :
    (w.freeze ⟨g, k, none⟩ 1).heap[g]? = some (.cells C 5 (k, k + 1)) ∧ (w.freeze ⟨g, k, none⟩ 1).heap.size = w.heap.size ∧ ∀ i : Nat, i ≠ g → (w.freeze ⟨g, k, none⟩ 1).heap[i]? = w.heap[i]? := by
  unfold World.freeze
  rw [if_neg (by decide)]
  refine ⟨?_, ?_, fun i hi => ?_⟩
  · simp [Array.getElem?_modify, hg]
  · simp
  · simp [Array.getElem?_modify, Ne.symm hi]
end Go.Proofs.YtlpbbihjnmikkaaGreatDoor.Exe

set_option maxRecDepth 100000
namespace Go.Proofs.YtlpbbihjnmikkaaGreatDoor.Blo
open Go.RowKit Gf

def nextN (f : Bf) : Nat := ((f 12).toNat * 16777216 + (f 13).toNat * 65536 + (f 14).toNat * 256 + (f 15).toNat + 1) % 4294967296
def byteN (M s : Nat) : BitVec 8 := BitVec.ofNat 8 (M / s)
def nextB (f : Bf) : Bf := upd (upd (upd (upd f 12 (byteN (nextN f) 16777216)) 13 (byteN (nextN f) 65536)) 14 (byteN (nextN f) 256)) 15 (byteN (nextN f) 1)
theorem or32 (f : Bf) : bits .or .u32 (bits .or .u32 (bits .or .u32 ((f 12).toNat * 16777216) ((f 13).toNat * 65536)) ((f 14).toNat * 256)) ((f 15).toNat) =
    (((f 12).toNat * 16777216 + (f 13).toNat * 65536 + (f 14).toNat * 256 + (f 15).toNat : Nat) : Int) := by
  have h1 := (f 12).isLt
  have h2 := (f 13).isLt
  have h3 := (f 14).isLt
  have h4 := (f 15).isLt
  have e1 : bits .or .u32 (((f 12).toNat * 16777216 : Nat) : Int) (((f 13).toNat * 65536 : Nat) : Int) = (((f 12).toNat * 16777216 + (f 13).toNat * 65536 : Nat) : Int) := by
    rw [u32_or_nat _ _ (by omega) (by omega), nat_join 24 _ _ (by omega) (by omega)]
  have e2 : bits .or .u32 (((f 12).toNat * 16777216 + (f 13).toNat * 65536 : Nat) : Int) (((f 14).toNat * 256 : Nat) : Int) = (((f 12).toNat * 16777216 + (f 13).toNat * 65536 + (f 14).toNat * 256 : Nat) : Int) := by
    rw [u32_or_nat _ _ (by omega) (by omega), nat_join 16 _ _ (by omega) (by omega)]
  have e3 : bits .or .u32 (((f 12).toNat * 16777216 + (f 13).toNat * 65536 + (f 14).toNat * 256 : Nat) : Int) (((f 15).toNat : Nat) : Int) = (((f 12).toNat * 16777216 + (f 13).toNat * 65536 + (f 14).toNat * 256 + (f 15).toNat : Nat) : Int) := by
    rw [u32_or_nat _ _ (by omega) (by omega), nat_join 8 _ _ (by omega) (by omega)]
  rw [← e3, ← e2, ← e1]
  simp
theorem byteN_val (M s : Nat) : (M : Int) / (s : Int) % (256 : Int) = ((byteN M s).toNat : Int) := by
  unfold byteN
  rw [BitVec.toNat_ofNat]
  simp
abbrev nextC (f : Bf) : Array Value := ((((bytes 16 f).setIfInBounds 12 (.int .u8 (byteN (nextN f) 16777216).toNat)).setIfInBounds 13 (.int .u8 (byteN (nextN f) 65536).toNat)).setIfInBounds 14 (.int .u8 (byteN (nextN f) 256).toNat)).setIfInBounds 15 (.int .u8 (byteN (nextN f) 1).toNat)
theorem nextC_eq (f : Bf) : nextC f = bytes 16 (nextB f) := by
  unfold nextC nextB
  rw [bytes_set, bytes_set, bytes_set, bytes_set]
set_option maxRecDepth 100000 in
set_option maxHeartbeats 1000000 in
theorem next_any (f : Bf) (w : World) :
    Calls Tryz.prog 249 #[.agg (bytes 16 f)] w fun e w' => e = .returned (.agg (bytes 16 (nextB f))) ∧ Below w.heap.size w w' := by
  have h1 := (f 12).isLt
  have h2 := (f 13).isLt
  have h3 := (f 14).isLt
  have h4 := (f 15).isLt
  have g1 : (bytes 16 f)[12]? = some (.int .u8 (f 12).toNat) := rfl
  have g2 : (bytes 16 f)[13]? = some (.int .u8 (f 13).toNat) := rfl
  have g3 : (bytes 16 f)[14]? = some (.int .u8 (f 14).toNat) := rfl
  have g4 : (bytes 16 f)[15]? = some (.int .u8 (f 15).toNat) := rfl
  have ho := or32 f
  have hn : ((((f 12).toNat * 16777216 + (f 13).toNat * 65536 + (f 14).toNat * 256 + (f 15).toNat : Nat) : Int) + 1) % 4294967296 = (nextN f : Int) := by
    unfold nextN; omega
  have hl : nextN f < 4294967296 := by unfold nextN; omega
  generalize (f 12).toNat * 16777216 + (f 13).toNat * 65536 + (f 14).toNat * 256 + (f 15).toNat = N at ho hn
  have q1 : (nextN f : Int) / 16777216 = ((byteN (nextN f) 16777216).toNat : Int) := by rw [← byteN_val]; omega
  have q2 : (nextN f : Int) / 65536 % 256 = ((byteN (nextN f) 65536).toNat : Int) := by rw [← byteN_val]; omega
  have q3 : (nextN f : Int) / 256 % 256 = ((byteN (nextN f) 256).toNat : Int) := by rw [← byteN_val]; omega
  have q4 : (nextN f : Int) % 256 = ((byteN (nextN f) 1).toNat : Int) := by rw [← byteN_val]; omega
  have hs : w.heap.size + 1 = (w.alloc (.cells (nextC f) 310)).heap.size := by simp
  have H1 : Blk ((w.alloc (.cells (nextC f) 310)).alloc (.cells zero16 310)) w.heap.size 310 (bytes 16 (nextB f)) := by rw [← nextC_eq]; exact (Blk.new w 310 _).alloc _
  have H2 : Blk ((w.alloc (.cells (nextC f) 310)).alloc (.cells zero16 310)) (w.heap.size + 1) 310 (bytes 16 fun _ => 0#8) := by rw [hs]; exact Blk.new _ 310 _
  clear hs
  have hb : Below w.heap.size w ((w.alloc (.cells (nextC f) 310)).alloc (.cells zero16 310)) := ((Below.refl _ _).alloc (Nat.le_refl _) _).alloc (by simp) _
  go_enter Tryz.func249, Tryz.ntmps249
  go_wp2_with (first | (with_reducible refine load_blk rfl (.tmp 1) rfl w.heap.size rfl _ H1 ?_) | (with_reducible refine store_blk rfl (.tmp 2) (.tmp 39) rfl (w.heap.size + 1) _ _ rfl rfl H2 ?_))
  exact bodyPost_ret (result_blk rfl _ _ (w.heap.size + 1) _ rfl (H2.row_same _)) rfl ⟨rfl, below_setRow hb (by omega) _⟩

end Go.Proofs.YtlpbbihjnmikkaaGreatDoor.Blo
