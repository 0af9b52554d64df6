/-
  Joined: LawI, LawG, LawJ
-/
import Derived.Test.YtlpbbihjnmikkaaGreatDoorJ17
import Derived.BigQuiet
namespace Go.Proofs.YtlpbbihjnmikkaaGreatDoor.Exe
set_option linter.unusedSimpArgs false
set_option linter.unusedVariables false
set_option maxRecDepth 100000
open Go.RowKit

theorem byt_snoc (C : Ciph) (a x : Word) : byt C (snoc a x) = byt C a ++ byt C x := by
  induction a <;> simp_all [snoc, byt]
theorem byt_norm (C : Ciph) (d : Word) : byt C (norm d) = byt C d := by cases d <;> rfl
theorem row_norm {d : Word} {m : Nat} (h : most d = some m) : isRow (norm d) = true := by
  rcases most_row h with rfl | h
  · rfl
  · cases d <;> first | exact h | rfl
section
variable {P : Program} {L : Lore} {ν : Nu} {h : Heap D} {W W' : World}
/-- A call that answers a word and no error. -/
theorem pair_ends (hok : Ok P L ν h W) {f : FuncId} {args : Array Value} {d : Word} {nx nx' r w r' w' : Nat} {v : Slot} {h' : Heap D} (he : (M.bind (tokS d) fun v => pair v okS) h nx r w = .ok v h' nx' r' w') (hf : Fresh ν nx nx')
    (hc : Calls P f args W fun e W' => ∃ u s, e = .returned (.tuple #[u, .int .i64 0]) ∧ u.oneCell' = true ∧ (Stays W.heap.size W W') ∧ L.conc d u (fun _ => False) s W' ∧ Free ν h W s) :
    Calls P f args W fun e W' => ∃ u ν', e = .returned u ∧ Ext ν ν' nx nx' ∧ Ok P L ν' h' W' ∧ RepS ν' v u := by
  obtain ⟨v0, h1, n1, r1, w1, e1, e2⟩ := bind_ok he
  obtain ⟨hk3, rfl, rfl, rfl⟩ := tokS_ok e1
  cases e2
  have hk := hf nx (Nat.le_refl _) (Nat.lt_succ_self _)
  refine hc.mono fun e W' ⟨u, s, h1, h2, h3, h4, h5⟩ => ⟨_, _, h1, Ext.set hk _, hok.token h3 hk hk3 h4 h5, .tup (.cons (.one (.tok (Nu.set_same _ _ _) h2)) (.cons (.one (.nat 0 (by decide))) .nil))⟩
end
theorem put_known (C : Ciph) : KnownOk Tryz.prog (lore C) 181 fPut := fun args h nx r w v h' nx' r' w' he ν W args' hok hf ha => by
  unfold fPut at he
  split at he
  · rename_i s n
    obtain ⟨l⟩ := args'
    cases ha with
    | @cons _ u _ _ ha1 ha => cases ha with
      | cons ha2 ha =>
        cases ha
        cases ha2 with
        | one ha2 => cases ha2 with
          | nat _ hn63 =>
            obtain ⟨d, r1, w1, e1, hd⟩ := bytesOf_ok he hok ha1
            obtain ⟨hlen, _, e2⟩ := upTo_ok (C := C) e1
            obtain ⟨hb, e3⟩ := chk_ok e2
            have hn : n < 256 := by simpa [Nat.blt_eq] using hb
            have hrow : ∃ s, RowB u s (byt C d) W ∧ ∀ i, s i → i < W.heap.size := by
              rcases hd with ⟨rfl, rfl⟩ | ⟨_, s, h1, _, h2⟩
              · exact ⟨fun _ => False, .inl ⟨rfl, rfl⟩, fun _ h => h.elim⟩
              · exact ⟨s, h1, h2⟩
            obtain ⟨s0, hrow, hlt⟩ := hrow
            refine pair_ends hok e3 hf ((put181' hrow hlt hlen n hn).mono fun e w' ⟨u', he, hown, hk⟩ => ?_)
            refine ⟨u', fun j => W.heap.size ≤ j ∧ j < w'.heap.size, he, ?_, hk.stays, ?_, fun j hj => .inl hj.1⟩
            · obtain ⟨a, c, rfl⟩ := hown.slice
              rfl
            · have hr : isRow (snoc d (.num n .none)) = true := by
                rcases hd with ⟨rfl, _⟩ | ⟨hr, _⟩
                · rfl
                · cases d <;> first | exact hr | rfl
              show says C _ u' _ _ w'
              rw [says_row C hr, byt_snoc]
              refine ⟨nobody_no, fun _ h => h.2, ?_⟩
              simpa [byt] using hown.rowB
  · cases he
set_option maxHeartbeats 400000 in
theorem putText118' {w : World} {u : Value} {s : Nat → Prop} {L : List Oct} (h : RowB u s L w) (hlt : ∀ b, s b → b < w.heap.size) (hL : L.length ≤ 4096) {x : Value} {l : List Oct} (hx : Src x l w) (hl : l.length < 256) :
    Calls Tryz.prog 118 #[u, x] w fun e w' => ∃ v, e = .returned (.tuple #[v, .int .i64 0]) ∧ Owns w' w.heap.size v (L ++ (num l.length ++ l)) ∧ Keeps w.heap.size w w' := by
  obtain ⟨a, c, rfl⟩ := hx.slice
  have m1 : (L ++ num l.length).length ≤ 65536 := by have := num_le l.length; rw [List.length_append]; omega
  have hl8 : l.length ≤ 8192 := by omega
  go_enter Tryz.func118, Tryz.ntmps118
  go_wp2_with (first
    | (go_at_call 181; (with_reducible refine (put181' h hlt hL l.length hl).mono ?_); rintro e w1 ⟨v1, rfl, o1, k1⟩; have hx1 := hx.later k1.1 k1.2; have o1' : w1.ownsRow w.heap.size 5 1 v1 (L ++ num l.length).length ((L ++ num l.length).map fun x => .int .u8 x.toNat) := o1; have kz := k1.1)
    | (with_reducible refine wpList_append_src (u := .slice a l.length c) (l := l) rfl (.tmp 18) (.tmp 19) rfl o1' m1 kz rfl rfl hx1 hl8 ?_; intro v2 w2 o2 z2 b2))
  go_ret2
  refine ⟨v2, rfl, ?_, Nat.le_trans kz z2, fun i hi => (b2 i hi).trans (k1.2 i hi), by (repeat with_reducible first | exact .refl _ | assumption | refine .alloc ?_ _ | refine .drew ?_ | refine .b ?_ (by assumption) | refine .k ?_ (by assumption) | refine .e ?_ (by assumption) | refine .s ?_ (by assumption) | refine .trans ?_ (by assumption))⟩
  have o3 : Owns w2 w.heap.size v2 (L ++ num l.length ++ l) := by
    unfold Owns
    rw [List.length_append, List.map_append]
    exact o2
  simpa only [List.append_assoc] using o3
theorem putText_known (C : Ciph) : KnownOk Tryz.prog (lore C) 118 fPutText := fun args h nx r w v h' nx' r' w' he ν W args' hok hf ha => by
  unfold fPutText at he
  split at he
  · rename_i s t
    obtain ⟨l⟩ := args'
    cases ha with
    | @cons _ u _ _ ha1 ha => cases ha with
      | @cons _ ut _ _ ha2 ha =>
        cases ha
        obtain ⟨d, r1, w1, e1, hd⟩ := bytesOf_ok he hok ha1
        obtain ⟨hlen, _, e2⟩ := upTo_ok (C := C) e1
        obtain ⟨x, r2, w2, e3, hx⟩ := bytesOf_src e2 hok ha2
        obtain ⟨hlx, ⟨m, hm, _⟩, e4⟩ := upTo_ok (C := C) e3
        have hrow : ∃ s, RowB u s (byt C d) W ∧ ∀ i, s i → i < W.heap.size := by
          rcases hd with ⟨rfl, rfl⟩ | ⟨_, s, h1, _, h2⟩
          · exact ⟨fun _ => False, .inl ⟨rfl, rfl⟩, fun _ h => h.elim⟩
          · exact ⟨s, h1, h2⟩
        obtain ⟨s0, hrow, hlt⟩ := hrow
        refine pair_ends hok e4 hf ((putText118' hrow hlt hlen hx (by omega)).mono fun e w' ⟨u', he, hown, hk⟩ => ?_)
        refine ⟨u', fun j => W.heap.size ≤ j ∧ j < w'.heap.size, he, ?_, hk.stays, ?_, fun j hj => .inl hj.1⟩
        · obtain ⟨a, c, rfl⟩ := hown.slice
          rfl
        · have hr : isRow (snoc d (.txt (norm x) .none)) = true := by
            rcases hd with ⟨rfl, _⟩ | ⟨hr, _⟩
            · rfl
            · cases d <;> first | exact hr | rfl
          show says C _ u' _ _ w'
          rw [says_row C hr, byt_snoc]
          refine ⟨nobody_no, fun _ h => h.2, ?_⟩
          simpa [byt, byt_norm] using hown.rowB
  · cases he
end Go.Proofs.YtlpbbihjnmikkaaGreatDoor.Exe

namespace Go.Proofs.YtlpbbihjnmikkaaGreatDoor.Exe
set_option linter.unusedSimpArgs false
set_option linter.unusedVariables false
set_option maxRecDepth 100000
open Go.RowKit

theorem ors : (List.range 256).all (fun n => decide (Go.bits .or .i64 0 ((n : Nat) : Int) = (n : Int))) = true := by kernel_rfl
theorem or_zero {n : Nat} (hn : n < 256) : Go.bits .or .i64 0 (n : Int) = n := of_decide_eq_true (List.all_eq_true.1 ors n (List.mem_range.2 hn))
/-- A slice of one block: what it reads there. -/
def At (w : World) (b o n : Nat) (l : List Oct) : Prop := b < w.heap.size ∧ l.length = n ∧ ∀ j (h : j < l.length), w.cell? ⟨b, o + j, none⟩ = some (.int .u8 (l[j]'h).toNat)
theorem At.src {w w' : World} {b o n cap : Nat} {l : List Oct} (h : At w b o n l) (hk : Keeps w.heap.size w w') (hc : n ≤ cap) : Src (.slice (some ⟨b, o, none⟩) n cap) l w' := by
  obtain ⟨h1, h2, h3⟩ := h
  subst h2
  refine .inr ⟨b, o, cap, rfl, hc, Nat.lt_of_lt_of_le h1 hk.1, fun j hj => ?_⟩
  rw [← h3 j hj]
  exact cell_same (hk.2 b h1)
theorem At.nil {w w' : World} {b o cap : Nat} (h : b < w.heap.size) (hk : Keeps w.heap.size w w') : Src (.slice (some ⟨b, o, none⟩) 0 cap) [] w' :=
  .inr ⟨b, o, cap, rfl, Nat.zero_le _, Nat.lt_of_lt_of_le h hk.1, fun j hj => absurd hj (Nat.not_lt_zero _)⟩
set_option maxHeartbeats 400000 in
theorem number204 {w : World} {b o cap k : Nat} (n : Nat) (hn : n < 256) (h0 : 0 < n) (hk : 2 ≤ k) (hcap : k ≤ cap) (hc2 : ¬ cap = 2) (c0 : w.cell? ⟨b, o, none⟩ = some (.int .u8 1)) (c1 : w.cell? ⟨b, o + 1, none⟩ = some (.int .u8 n)) :
    Calls Tryz.prog 204 #[.slice (some ⟨b, o, none⟩) k cap] w fun e w' => e = .returned (.tuple #[.int .i64 n, .slice (some ⟨b, o + 2, none⟩) (k - 2) (cap - 2), .int .i64 0]) ∧ Keeps w.heap.size w w' := by
  have hw : IntKind.u64.wrap (n : Int) = n := IntWalk.u64_in _ (by omega)
  have hor := or_zero hn
  go_enter Tryz.func204, Tryz.ntmps204
  go_wp2_with (refine wp_loop_turns 2 ?_; unfold turns)
  unfold turns
  go_wp2_with (first
    | (go_at_call 243; (with_reducible refine (len243 n hn _).mono ?_); rintro e w1 ⟨hk1, m, rfl, hm8, hm0⟩; have hq1 : IntKind.i64.wrap ((m : Int) + 7) = (m : Int) + 7 := IntWalk.i64_in _ (by omega); have hq2 : ((m : Int) + 7).tdiv 8 = 1 := by rw [Int.tdiv_eq_ediv_of_nonneg (by omega)]; omega))
  have hk1n : ¬ ((k : Int) < 2) := by omega
  go_quiet (fail)
  go_wp2
  go_ret3
  exact ⟨rfl, hk1.1, hk1.2, hk1.3⟩
set_option maxHeartbeats 400000 in
theorem number204e {w : World} {b o : Nat} (n : Nat) (hn : n < 256) (h0 : 0 < n) (c0 : w.cell? ⟨b, o, none⟩ = some (.int .u8 1)) (c1 : w.cell? ⟨b, o + 1, none⟩ = some (.int .u8 n)) :
    Calls Tryz.prog 204 #[.slice (some ⟨b, o, none⟩) 2 2] w fun e w' => e = .returned (.tuple #[.int .i64 n, .slice (some ⟨b, o, none⟩) 0 0, .int .i64 0]) ∧ Keeps w.heap.size w w' := by
  have hw : IntKind.u64.wrap (n : Int) = n := IntWalk.u64_in _ (by omega)
  have hor := or_zero hn
  go_enter Tryz.func204, Tryz.ntmps204
  go_wp2_with (refine wp_loop_turns 2 ?_; unfold turns)
  unfold turns
  go_wp2_with (first
    | (go_at_call 243; (with_reducible refine (len243 n hn _).mono ?_); rintro e w1 ⟨hk1, m, rfl, hm8, hm0⟩; have hq1 : IntKind.i64.wrap ((m : Int) + 7) = (m : Int) + 7 := IntWalk.i64_in _ (by omega); have hq2 : ((m : Int) + 7).tdiv 8 = 1 := by rw [Int.tdiv_eq_ediv_of_nonneg (by omega)]; omega))
  go_quiet (fail)
  go_wp2
  go_ret3
  exact ⟨rfl, hk1.1, hk1.2, hk1.3⟩
theorem len243z (W : World) : Calls Tryz.prog 243 #[.int .u64 0] W fun e W' => Keeps W.heap.size W W' ∧ e = .returned (.int .i64 0) :=
  (len243 0 (by decide) W).mono fun e W' ⟨hk, m, he, _, hm⟩ => ⟨hk, by
    obtain rfl : m = 0 := (by omega)
    exact he⟩
set_option maxHeartbeats 400000 in
theorem number204z {w : World} {b o cap k : Nat} (hk : 1 ≤ k) (hcap : k ≤ cap) (hc2 : ¬ cap = 1) (c0 : w.cell? ⟨b, o, none⟩ = some (.int .u8 0)) :
    Calls Tryz.prog 204 #[.slice (some ⟨b, o, none⟩) k cap] w fun e w' => e = .returned (.tuple #[.int .i64 0, .slice (some ⟨b, o + 1, none⟩) (k - 1) (cap - 1), .int .i64 0]) ∧ Keeps w.heap.size w w' := by
  have hk1n : ¬ ((k : Int) < 1) := by omega
  go_enter Tryz.func204, Tryz.ntmps204
  go_wp2_with (first
    | (refine wp_loop_turns 2 ?_; unfold turns)
    | (go_at_call 243; (with_reducible refine (len243z _).mono ?_); rintro e w1 ⟨hk1, rfl⟩))
  go_quiet (fail)
  go_wp2
  go_ret3
  exact ⟨rfl, hk1.1, hk1.2, hk1.3⟩
set_option maxHeartbeats 400000 in
theorem number204ze {w : World} {b o : Nat} (c0 : w.cell? ⟨b, o, none⟩ = some (.int .u8 0)) :
    Calls Tryz.prog 204 #[.slice (some ⟨b, o, none⟩) 1 1] w fun e w' => e = .returned (.tuple #[.int .i64 0, .slice (some ⟨b, o, none⟩) 0 0, .int .i64 0]) ∧ Keeps w.heap.size w w' := by
  go_enter Tryz.func204, Tryz.ntmps204
  go_wp2_with (first
    | (refine wp_loop_turns 2 ?_; unfold turns)
    | (go_at_call 243; (with_reducible refine (len243z _).mono ?_); rintro e w1 ⟨hk1, rfl⟩))
  go_quiet (fail)
  go_wp2
  go_ret3
  exact ⟨rfl, hk1.1, hk1.2, hk1.3⟩
/-- What pack.number answers: a small number, and the rest, of the same block. -/
def Rest (w w' : World) (n : Nat) (rest : List Oct) (e : Ending) : Prop := ∃ b o cap, e = .returned (.tuple #[.int .i64 n, .slice (some ⟨b, o, none⟩) rest.length cap, .int .i64 0]) ∧ rest.length ≤ cap ∧ b < w.heap.size ∧ Src (.slice (some ⟨b, o, none⟩) rest.length cap) rest w' ∧ Keeps w.heap.size w w'
theorem number204any {w : World} {u : Value} {n : Nat} (hn : n < 256) {rest : List Oct} (hu : Src u (num n ++ rest) w) : Calls Tryz.prog 204 #[u] w fun e w' => Rest w w' n rest e := by
  rcases hu with ⟨_, h⟩ | ⟨b, o, cap, rfl, hc, hb, hcell⟩
  · have := num_le n
    rw [List.append_eq_nil_iff] at h
    rw [h.1] at this
    simp at this
  · by_cases h0 : n = 0
    · subst h0
      have hn0 : num 0 = [0] := rfl
      rw [hn0] at hc hcell ⊢
      have hl : ([0] ++ rest : List Oct).length = rest.length + 1 := by simp
      have c0 : w.cell? ⟨b, o, none⟩ = some (.int .u8 0) := hcell 0 (by simp)
      have hat : ∀ j (h : j < rest.length), w.cell? ⟨b, o + 1 + j, none⟩ = some (.int .u8 (rest[j]'h).toNat) := fun j hj => by
        have := hcell (j + 1) (by simp; omega)
        rw [show o + 1 + j = o + (j + 1) by omega, this]
        simp
      rw [hl] at hc ⊢
      by_cases h1 : cap = 1
      · have hr : rest = [] := List.eq_nil_of_length_eq_zero (by omega)
        subst hr h1
        exact (number204ze c0).mono fun e w' ⟨he, hk⟩ => ⟨b, o, 0, he, Nat.le_refl _, hb, At.nil hb hk, hk⟩
      · refine (number204z (by omega) hc h1 c0).mono fun e w' ⟨he, hk⟩ => ⟨b, o + 1, cap - 1, he, by omega, hb, At.src ⟨hb, rfl, hat⟩ hk (by omega), hk⟩
    · have hn0 : num n = [1, BitVec.ofNat 8 n] := by unfold num; rw [if_neg h0]
      rw [hn0] at hc hcell ⊢
      have hl : ([1, BitVec.ofNat 8 n] ++ rest : List Oct).length = rest.length + 2 := by simp
      have c0 : w.cell? ⟨b, o, none⟩ = some (.int .u8 1) := hcell 0 (by simp)
      have c1 : w.cell? ⟨b, o + 1, none⟩ = some (.int .u8 n) := by
        have := hcell 1 (by simp)
        rw [this]
        simp [BitVec.toNat_ofNat, Nat.mod_eq_of_lt hn]
      have hat : ∀ j (h : j < rest.length), w.cell? ⟨b, o + 2 + j, none⟩ = some (.int .u8 (rest[j]'h).toNat) := fun j hj => by
        have := hcell (j + 2) (by simp; omega)
        rw [show o + 2 + j = o + (j + 2) by omega, this]
        simp
      rw [hl] at hc ⊢
      by_cases h1 : cap = 2
      · have hr : rest = [] := List.eq_nil_of_length_eq_zero (by omega)
        subst hr h1
        exact (number204e n hn (by omega) c0 c1).mono fun e w' ⟨he, hk⟩ => ⟨b, o, 0, he, Nat.le_refl _, hb, At.nil hb hk, hk⟩
      · refine (number204 n hn (by omega) (by omega) hc h1 c0 c1).mono fun e w' ⟨he, hk⟩ => ⟨b, o + 2, cap - 2, he, by omega, hb, At.src ⟨hb, rfl, hat⟩ hk (by omega), hk⟩
attribute [local go_sem] eq_nil24
/-- A copy of bytes. -/
theorem clone8_src {v : Value} {l : List Oct} {w : World} (hv : Src v l w) (hl : l.length ≤ 4096) : Calls Tryz.prog 8 #[v] w fun e w' => ∃ v', e = .returned v' ∧ Owns w' w.heap.size v' l ∧ Keeps w.heap.size w w' := by
  rcases hv with ⟨rfl, rfl⟩ | ⟨b, o, cap, rfl, hc, hb, hr⟩
  · refine (clone_nil w).mono fun e w' ⟨he, hw⟩ => ?_
    subst he; subst hw
    exact ⟨_, rfl, ⟨rfl, .inl ⟨rfl, rfl⟩⟩, Nat.le_refl _, fun _ _ => rfl, Calm.refl _⟩
  · have hg : Blk (w.alloc (.cells #[] 5)) w.heap.size 5 #[] := Blk.new w 5 _
    have hr' : ∀ j (h : j < l.length), (w.alloc (.cells #[] 5)).cell? ⟨b, o + j, none⟩ = some (.int .u8 (l[j]'h).toNat) := fun j hj => (cell_same (Below.heap_alloc w _ b hb)).trans (hr j hj)
    go_enter Tryz.func8, Tryz.ntmps8
    go_wp2_with (with_reducible refine wpList_append_owned rfl (.tmp 5) (.tmp 6) rfl hg rfl b o cap l rfl hr' hl ?_; intro v' w2 hs2 hz2 hb2)
    go_ret
    exact ⟨_, rfl, hs2, Nat.le_trans (le_alloc (Nat.le_refl _) _) hz2, fun i hi => (hb2 i hi).trans (heap_alloc_old _ hi), by (repeat with_reducible first | exact .refl _ | assumption | refine .alloc ?_ _ | refine .drew ?_ | refine .b ?_ (by assumption) | refine .k ?_ (by assumption) | refine .e ?_ (by assumption) | refine .s ?_ (by assumption) | refine .trans ?_ (by assumption))⟩
/-- A small number's bytes ahead of others, taken off. -/
theorem take132 {w : World} {u : Value} {n : Nat} (hn : n < 256) {rest : List Oct} (hl : rest.length ≤ 4096) (hu : Src u (num n ++ rest) w) :
    Calls Tryz.prog 132 #[u] w fun e w' => ∃ v', e = .returned (.tuple #[.int .i64 n, v', .int .i64 0]) ∧ Owns w' w.heap.size v' rest ∧ Keeps w.heap.size w w' := by
  go_enter Tryz.func132, Tryz.ntmps132
  go_wp2_with (first
    | (go_at_call 204; (with_reducible refine (number204any hn hu).mono ?_); rintro e w1 ⟨b, o, cap, rfl, hcap, hb, hsrc, hk1⟩)
    | (go_at_call 8; (with_reducible refine (clone8_src hsrc hl).mono ?_); rintro e w2 ⟨v2, rfl, hown, hk2⟩))
  go_ret3
  exact ⟨v2, rfl, owns_base hk1.1 hown, Keeps.trans hk1 hk2 hk1.1⟩
theorem Owns.keeps {w w' : World} {base : Nat} {v : Value} {l : List Oct} (h : Owns w base v l) (hk : Keeps w.heap.size w w') : Owns w' base v l := by
  refine ⟨h.1, h.2.imp id fun ⟨g, cap, cur, h1, h2, h3, h4⟩ => ⟨g, cap, cur, h1, h2, (hk.2 g (heap_lt h3)).trans h3, h4⟩⟩
theorem Src.left {b o cap n : Nat} {w : World} {t r : List Oct} (hn : n = (t ++ r).length) (h : Src (.slice (some ⟨b, o, none⟩) n cap) (t ++ r) w) : Src (.slice (some ⟨b, o, none⟩) t.length cap) t w := by
  subst hn
  rcases h with ⟨h, _⟩ | ⟨b', o', cap', e, hc, hb, hr⟩
  · cases h
  · cases e
    refine .inr ⟨b, o, cap, rfl, by simp at hc; omega, hb, fun j hj => ?_⟩
    rw [hr j (by simp; omega)]
    simp [List.getElem_append_left hj]
theorem Src.right {b o cap n : Nat} {w : World} {t r : List Oct} (hn : n = (t ++ r).length) (h : Src (.slice (some ⟨b, o, none⟩) n cap) (t ++ r) w) : Src (.slice (some ⟨b, o + t.length, none⟩) r.length (cap - t.length)) r w := by
  subst hn
  rcases h with ⟨h, _⟩ | ⟨b', o', cap', e, hc, hb, hr⟩
  · cases h
  · cases e
    refine .inr ⟨b, o + t.length, cap - t.length, rfl, by simp at hc; omega, hb, fun j hj => ?_⟩
    rw [Nat.add_assoc, hr (t.length + j) (by simp; omega)]
    simp
theorem Src.rightz {b o cap n : Nat} {w : World} {t r : List Oct} (hn : n = (t ++ r).length) (h : Src (.slice (some ⟨b, o, none⟩) n cap) (t ++ r) w) (hr : r = []) : Src (.slice (some ⟨b, o, none⟩) r.length 0) r w := by
  subst hn hr
  rcases h with ⟨h, _⟩ | ⟨b', o', cap', e, hc, hb, hr⟩
  · cases h
  · cases e
    exact .inr ⟨b, o, 0, rfl, Nat.le_refl _, hb, fun j hj => absurd hj (Nat.not_lt_zero _)⟩
set_option maxHeartbeats 800000 in
theorem takeText137 {w : World} {u : Value} {t r : List Oct} (ht : t.length < 256) (hl : r.length ≤ 4096) (hu : Src u (num t.length ++ (t ++ r)) w) (m : Nat) (hm : t.length ≤ m) :
    Calls Tryz.prog 137 #[u, .int .i64 m] w fun e w' => ∃ v' v2, e = .returned (.tuple #[v', v2, .int .i64 0]) ∧ Owns w' w.heap.size v' t ∧ Owns w' w.heap.size v2 r ∧ Keeps w.heap.size w w' := by
  have h1 : ¬ ((t.length : Int) > (m : Int)) := by omega
  have ht2 : t.length ≤ 4096 := by omega
  have hnum := number204any ht hu
  have hlen : (t ++ r).length = t.length + r.length := List.length_append
  have key : ∀ w1 b o cap, (t ++ r).length ≤ cap → Src (.slice (some ⟨b, o, none⟩) (t ++ r).length cap) (t ++ r) w1 → ∃ o2 c2, (∀ n : Nat, n = t.length + r.length → (cap = t.length → o2 = o ∧ c2 = 0) ∧ (¬ cap = t.length → o2 = o + t.length ∧ c2 = cap - t.length)) ∧ Src (.slice (some ⟨b, o2, none⟩) r.length c2) r w1 := fun w1 b o cap hc hs => by
    by_cases e : cap = t.length
    · refine ⟨o, 0, fun _ _ => ⟨fun _ => ⟨rfl, rfl⟩, fun h => absurd e h⟩, Src.rightz rfl hs (List.eq_nil_of_length_eq_zero ?_)⟩
      omega
    · exact ⟨o + t.length, cap - t.length, fun _ _ => ⟨fun h => absurd h e, fun _ => ⟨rfl, rfl⟩⟩, Src.right rfl hs⟩
  go_enter Tryz.func137, Tryz.ntmps137
  go_wp2_with (first
    | (go_at_call 204; (with_reducible refine hnum.mono ?_); rintro e w1 ⟨b, o, cap, rfl, hcap, hb, hsrc, hk1⟩; have hs1 := Src.left rfl hsrc; obtain ⟨o2, c2, hoc, hs2⟩ := key w1 b o cap hcap hsrc; have hoc := hoc _ rfl; rw [hlen] at hcap ⊢; clear hsrc key hnum))
  have hcap2 : t.length ≤ cap := by omega
  by_cases hcc : cap = t.length
  · obtain ⟨e1, e2⟩ := hoc.1 hcc
    subst e1 e2
    subst hcc
    have hr0 : r.length = 0 := by omega
    rw [hr0] at hs2
    clear hoc
    refine wp_region_begin (by kernel_rfl) ?_
    have kd : Keeps w1.heap.size w1 w1.drew := ⟨Nat.le_refl _, fun _ _ => rfl, Calm.drew (Calm.refl _)⟩
    have hs1 := hs1.later kd.1 kd.2
    have hs2 := hs2.later kd.1 kd.2
    have hk1 := hk1.trans kd hk1.1
    generalize w1.drew = w3 at hs1 hs2 hk1 ⊢
    clear kd
    refine wpAny_take (i := 0) (oi := ?_) (v := ?_) ?_ (by kernel_rfl) (by kernel_rfl) (by kernel_rfl) ?_ ?_ ?_
    rotate_left 2
    · simp only [List.getElem?_toArray, List.getElem?_cons_zero, List.getElem?_cons_succ]
      with_reducible rfl
    · exact fun _ _ _ q => q
    · (refine Or.inl ⟨?_, ?_⟩; rfl; intro w; go_simp; with_reducible rfl)
    simp only [Act.put, List.setIfInBounds_toArray, List.set_cons_zero, List.set_cons_succ]
    refine wpAny_take (i := 1) (oi := ?_) (v := ?_) ?_ (by kernel_rfl) (by kernel_rfl) (by kernel_rfl) ?_ ?_ ?_
    rotate_left 2
    · simp only [List.getElem?_toArray, List.getElem?_cons_zero, List.getElem?_cons_succ]
      with_reducible rfl
    · exact fun _ _ _ q => q
    · (refine Or.inl ⟨?_, ?_⟩; rfl; intro w; go_simp; with_reducible rfl)
    simp only [Act.put, List.setIfInBounds_toArray, List.set_cons_zero, List.set_cons_succ]
    refine wpAny_take (i := 2) (oi := ?_) (v := ?_) ?_ (by kernel_rfl) (by kernel_rfl) (by kernel_rfl) ?_ ?_ ?_
    rotate_left 2
    · simp only [List.getElem?_toArray, List.getElem?_cons_zero, List.getElem?_cons_succ]
      with_reducible rfl
    · exact fun _ _ _ q => q
    · (refine Or.inl ⟨?_, ?_⟩; rfl; intro w; go_simp; with_reducible rfl)
    simp only [Act.put, List.setIfInBounds_toArray, List.set_cons_zero, List.set_cons_succ]
    refine wpAny_take (i := 4) (oi := ?_) (v := ?_) ?_ (by kernel_rfl) (by kernel_rfl) (by kernel_rfl) ?_ ?_ ?_
    rotate_left 2
    · simp only [List.getElem?_toArray, List.getElem?_cons_zero, List.getElem?_cons_succ]
      with_reducible rfl
    · exact fun _ _ _ q => q
    · (refine Or.inl ⟨?_, ?_⟩; rfl; intro w; go_simp; with_reducible rfl)
    simp only [Act.put, List.setIfInBounds_toArray, List.set_cons_zero, List.set_cons_succ]
    refine wpAny_take (i := 5) (oi := ?_) (v := ?_) ?_ (by kernel_rfl) (by kernel_rfl) (by kernel_rfl) ?_ ?_ ?_
    rotate_left 2
    · simp only [List.getElem?_toArray, List.getElem?_cons_zero, List.getElem?_cons_succ]
      with_reducible rfl
    · exact fun _ _ _ q => q
    · (refine Or.inl ⟨?_, ?_⟩; rfl; intro w; go_simp; with_reducible rfl)
    simp only [Act.put, List.setIfInBounds_toArray, List.set_cons_zero, List.set_cons_succ]
    refine wpAny_take (i := 6) (oi := ?_) (v := ?_) ?_ (by kernel_rfl) (by kernel_rfl) (by kernel_rfl) ?_ ?_ ?_
    rotate_left 2
    · simp only [List.getElem?_toArray, List.getElem?_cons_zero, List.getElem?_cons_succ]
      with_reducible rfl
    · exact fun _ _ _ q => q
    · (refine Or.inl ⟨?_, ?_⟩; rfl; intro w; go_simp; with_reducible rfl)
    simp only [Act.put, List.setIfInBounds_toArray, List.set_cons_zero, List.set_cons_succ]
    refine wpAny_ready (rs := [3]) (by kernel_rfl) (by simp) ?_
    refine AllReady.cons (o := ?_) ?_ (fun K hK => ?_) AllReady.nil
    rotate_left 1
    · simp only [List.getElem?_toArray, List.getElem?_cons_zero, List.getElem?_cons_succ]
      with_reducible rfl
    go_simp
    go_at_call 8
    refine (clone8_src hs1 ht2).mono ?_
    rintro e w4 ⟨v2, rfl, hown2, hk2⟩
    have hs2 := hs2.later hk2.1 hk2.2
    refine hK _ _ ?_
    clear hK K
    refine wpAny_ready (rs := [7]) (by kernel_rfl) (by simp) ?_
    refine AllReady.cons (o := ?_) ?_ (fun K hK => ?_) AllReady.nil
    rotate_left 1
    · simp only [List.getElem?_toArray, List.getElem?_cons_zero, List.getElem?_cons_succ]
      with_reducible rfl
    go_simp
    go_at_call 8
    refine (clone8_src hs2 hl).mono ?_
    rintro e w5 ⟨v3, rfl, hown3, hk3⟩
    refine hK _ _ ?_
    clear hK K
    refine wpAny_ready (rs := [8]) (by kernel_rfl) (by simp) ?_
    refine AllReady.cons (o := ?_) ?_ (fun K hK => ?_) AllReady.nil
    rotate_left 1
    · simp only [List.getElem?_toArray, List.getElem?_cons_zero, List.getElem?_cons_succ]
      with_reducible rfl
    go_simp
    refine hK _ _ ?_
    clear hK K
    refine wpAny_ready (rs := [9]) (by kernel_rfl) (by simp) ?_
    refine AllReady.cons (o := ?_) ?_ (fun K hK => ?_) AllReady.nil
    rotate_left 1
    · simp only [List.getElem?_toArray, List.getElem?_cons_zero, List.getElem?_cons_succ]
      with_reducible rfl
    go_simp
    refine hK _ _ ?_
    clear hK K
    refine wpAny_ready (rs := [10]) (by kernel_rfl) (by simp) ?_
    refine AllReady.cons (o := ?_) ?_ (fun K hK => ?_) AllReady.nil
    rotate_left 1
    · simp only [List.getElem?_toArray, List.getElem?_cons_zero, List.getElem?_cons_succ]
      with_reducible rfl
    go_simp
    refine hK _ _ ?_
    clear hK K
    refine wpAny_done (by kernel_rfl) ?_ _
    go_wp2_with fail
    go_ret3
    have hk4 := hk1.trans hk2 hk1.1
    have hk5 := hk4.trans hk3 hk4.1
    exact ⟨v2, v3, rfl, owns_base hk1.1 (hown2.keeps hk3), owns_base hk4.1 hown3, hk5.1, hk5.2, hk5.3⟩
  · obtain ⟨e1, e2⟩ := hoc.2 hcc
    subst e1 e2
    clear hoc
    refine wp_region_begin (by kernel_rfl) ?_
    have kd : Keeps w1.heap.size w1 w1.drew := ⟨Nat.le_refl _, fun _ _ => rfl, Calm.drew (Calm.refl _)⟩
    have hs1 := hs1.later kd.1 kd.2
    have hs2 := hs2.later kd.1 kd.2
    have hk1 := hk1.trans kd hk1.1
    generalize w1.drew = w3 at hs1 hs2 hk1 ⊢
    clear kd
    refine wpAny_take (i := 0) (oi := ?_) (v := ?_) ?_ (by kernel_rfl) (by kernel_rfl) (by kernel_rfl) ?_ ?_ ?_
    rotate_left 2
    · simp only [List.getElem?_toArray, List.getElem?_cons_zero, List.getElem?_cons_succ]
      with_reducible rfl
    · exact fun _ _ _ q => q
    · (refine Or.inl ⟨?_, ?_⟩; rfl; intro w; go_simp; with_reducible rfl)
    simp only [Act.put, List.setIfInBounds_toArray, List.set_cons_zero, List.set_cons_succ]
    refine wpAny_take (i := 1) (oi := ?_) (v := ?_) ?_ (by kernel_rfl) (by kernel_rfl) (by kernel_rfl) ?_ ?_ ?_
    rotate_left 2
    · simp only [List.getElem?_toArray, List.getElem?_cons_zero, List.getElem?_cons_succ]
      with_reducible rfl
    · exact fun _ _ _ q => q
    · (refine Or.inl ⟨?_, ?_⟩; rfl; intro w; go_simp; with_reducible rfl)
    simp only [Act.put, List.setIfInBounds_toArray, List.set_cons_zero, List.set_cons_succ]
    refine wpAny_take (i := 2) (oi := ?_) (v := ?_) ?_ (by kernel_rfl) (by kernel_rfl) (by kernel_rfl) ?_ ?_ ?_
    rotate_left 2
    · simp only [List.getElem?_toArray, List.getElem?_cons_zero, List.getElem?_cons_succ]
      with_reducible rfl
    · exact fun _ _ _ q => q
    · (refine Or.inl ⟨?_, ?_⟩; rfl; intro w; go_simp; with_reducible rfl)
    simp only [Act.put, List.setIfInBounds_toArray, List.set_cons_zero, List.set_cons_succ]
    refine wpAny_take (i := 4) (oi := ?_) (v := ?_) ?_ (by kernel_rfl) (by kernel_rfl) (by kernel_rfl) ?_ ?_ ?_
    rotate_left 2
    · simp only [List.getElem?_toArray, List.getElem?_cons_zero, List.getElem?_cons_succ]
      with_reducible rfl
    · exact fun _ _ _ q => q
    · (refine Or.inl ⟨?_, ?_⟩; rfl; intro w; go_simp; with_reducible rfl)
    simp only [Act.put, List.setIfInBounds_toArray, List.set_cons_zero, List.set_cons_succ]
    refine wpAny_take (i := 5) (oi := ?_) (v := ?_) ?_ (by kernel_rfl) (by kernel_rfl) (by kernel_rfl) ?_ ?_ ?_
    rotate_left 2
    · simp only [List.getElem?_toArray, List.getElem?_cons_zero, List.getElem?_cons_succ]
      with_reducible rfl
    · exact fun _ _ _ q => q
    · (refine Or.inl ⟨?_, ?_⟩; rfl; intro w; go_simp; with_reducible rfl)
    simp only [Act.put, List.setIfInBounds_toArray, List.set_cons_zero, List.set_cons_succ]
    refine wpAny_take (i := 6) (oi := ?_) (v := ?_) ?_ (by kernel_rfl) (by kernel_rfl) (by kernel_rfl) ?_ ?_ ?_
    rotate_left 2
    · simp only [List.getElem?_toArray, List.getElem?_cons_zero, List.getElem?_cons_succ]
      with_reducible rfl
    · exact fun _ _ _ q => q
    · (refine Or.inl ⟨?_, ?_⟩; rfl; intro w; go_simp; with_reducible rfl)
    simp only [Act.put, List.setIfInBounds_toArray, List.set_cons_zero, List.set_cons_succ]
    refine wpAny_ready (rs := [3]) (by kernel_rfl) (by simp) ?_
    refine AllReady.cons (o := ?_) ?_ (fun K hK => ?_) AllReady.nil
    rotate_left 1
    · simp only [List.getElem?_toArray, List.getElem?_cons_zero, List.getElem?_cons_succ]
      with_reducible rfl
    go_simp
    go_at_call 8
    refine (clone8_src hs1 ht2).mono ?_
    rintro e w4 ⟨v2, rfl, hown2, hk2⟩
    have hs2 := hs2.later hk2.1 hk2.2
    refine hK _ _ ?_
    clear hK K
    refine wpAny_ready (rs := [7]) (by kernel_rfl) (by simp) ?_
    refine AllReady.cons (o := ?_) ?_ (fun K hK => ?_) AllReady.nil
    rotate_left 1
    · simp only [List.getElem?_toArray, List.getElem?_cons_zero, List.getElem?_cons_succ]
      with_reducible rfl
    go_simp
    go_at_call 8
    refine (clone8_src hs2 hl).mono ?_
    rintro e w5 ⟨v3, rfl, hown3, hk3⟩
    refine hK _ _ ?_
    clear hK K
    refine wpAny_ready (rs := [8]) (by kernel_rfl) (by simp) ?_
    refine AllReady.cons (o := ?_) ?_ (fun K hK => ?_) AllReady.nil
    rotate_left 1
    · simp only [List.getElem?_toArray, List.getElem?_cons_zero, List.getElem?_cons_succ]
      with_reducible rfl
    go_simp
    refine hK _ _ ?_
    clear hK K
    refine wpAny_ready (rs := [9]) (by kernel_rfl) (by simp) ?_
    refine AllReady.cons (o := ?_) ?_ (fun K hK => ?_) AllReady.nil
    rotate_left 1
    · simp only [List.getElem?_toArray, List.getElem?_cons_zero, List.getElem?_cons_succ]
      with_reducible rfl
    go_simp
    refine hK _ _ ?_
    clear hK K
    refine wpAny_ready (rs := [10]) (by kernel_rfl) (by simp) ?_
    refine AllReady.cons (o := ?_) ?_ (fun K hK => ?_) AllReady.nil
    rotate_left 1
    · simp only [List.getElem?_toArray, List.getElem?_cons_zero, List.getElem?_cons_succ]
      with_reducible rfl
    go_simp
    refine hK _ _ ?_
    clear hK K
    refine wpAny_done (by kernel_rfl) ?_ _
    go_wp2_with fail
    go_ret3
    have hk4 := hk1.trans hk2 hk1.1
    have hk5 := hk4.trans hk3 hk4.1
    exact ⟨v2, v3, rfl, owns_base hk1.1 (hown2.keeps hk3), owns_base hk4.1 hown3, hk5.1, hk5.2, hk5.3⟩
end Go.Proofs.YtlpbbihjnmikkaaGreatDoor.Exe

namespace Go.Proofs.YtlpbbihjnmikkaaGreatDoor.Exe
set_option linter.unusedSimpArgs false
set_option linter.unusedVariables false

theorem Owns.one {w : World} {base : Nat} {v : Value} {l : List Oct} (h : Owns w base v l) : v.oneCell' = true := by
  obtain ⟨a, c, rfl⟩ := h.slice
  rfl
theorem says_owns (C : Ciph) {d : Word} {w : World} {base : Nat} {v : Value} (hr : isRow d = true) (h : Owns w base v (byt C d)) : says C d v (fun _ => False) (fun j => base ≤ j ∧ j < w.heap.size) w := by
  rw [says_row C hr]
  exact ⟨nobody_no, fun _ h => h.2, h.rowB⟩
/-- A word more, in a world that stays: what it sees is nobody's. -/
theorem Ok.token' {P : Program} {L : Lore} {ν : Nu} {h : Heap D} {W : World} (hok : Ok P L ν h W) {k : Nat} (hk : ν k = none) (hk3 : k < 32768) {d : D} {u : Value} {s : Nat → Prop} (hc : L.conc d u (fun _ => False) s W) (hs : Free ν h W s) :
    Ok P L (ν.set k (.val u (fun _ => False) s)) (h.lay k (some (.data d))) W := hok.token ⟨fun _ _ => rfl, Calm.refl _⟩ hk hk3 hc hs
theorem take_known (C : Ciph) : KnownOk Tryz.prog (lore C) 132 fTake := fun args h nx r w v h' nx' r' w' he ν W args' hok hf ha => by
  unfold fTake at he
  split at he
  · rename_i s
    obtain ⟨l⟩ := args'
    cases ha with
    | @cons _ u _ _ ha1 ha =>
      cases ha
      obtain ⟨d, r1, w1, e1, hd⟩ := bytesOf_src he hok ha1
      split at e1
      · rename_i n rest
        obtain ⟨hlen, ⟨m, hm, _⟩, e2⟩ := upTo_ok (C := C) e1
        obtain ⟨hb, e3⟩ := chk_ok e2
        have hn : n < 256 := by simpa [Nat.blt_eq] using hb
        obtain ⟨v0, h1, n1, r2, w2, e4, e5⟩ := bind_ok e3
        obtain ⟨hk3, rfl, rfl, rfl⟩ := tokS_ok e4
        cases e5
        have hk := hf nx (Nat.le_refl _) (Nat.lt_succ_self _)
        refine (take132 hn hlen hd).mono fun e W' ⟨v', h1, h2, h3⟩ => ⟨_, _, h1, Ext.set hk _, hok.token h3.stays hk hk3 (s := fun j => W.heap.size ≤ j ∧ j < W'.heap.size) (u := v') ?_ (fun j hj => .inl hj.1), .tup (.cons (.one (.nat n (by omega))) (.cons (.one (.tok (Nu.set_same _ _ _) h2.one)) (.cons (.one (.nat 0 (by decide))) .nil)))⟩
        exact says_owns C (row_norm hm) (by rw [byt_norm]; exact h2)
      · cases e1
  · cases he
theorem takeText_known (C : Ciph) : KnownOk Tryz.prog (lore C) 137 fTakeText := fun args h nx r w v h' nx' r' w' he ν W args' hok hf ha => by
  unfold fTakeText at he
  split at he
  · rename_i s m
    obtain ⟨l⟩ := args'
    cases ha with
    | @cons _ u _ _ ha1 ha => cases ha with
      | cons ha2 ha =>
        cases ha
        cases ha2 with
        | one ha2 => cases ha2 with
          | nat _ hm63 =>
            obtain ⟨d, r1, w1, e1, hd⟩ := bytesOf_src he hok ha1
            split at e1
            · rename_i t rest
              obtain ⟨hlen, ⟨mr, hmr, _⟩, e2⟩ := upTo_ok (C := C) e1
              cases ht : most t with
              | none => rw [ht] at e2; cases e2
              | some k =>
                rw [ht] at e2
                obtain ⟨hb, e3⟩ := chk_ok e2
                rw [Bool.and_eq_true] at hb
                have hb1 := Nat.le_of_ble_eq_true hb.1
                have hb2 := Nat.le_of_ble_eq_true hb.2
                have hkl := most_le C t k ht
                obtain ⟨v0, h1, n1, r2, w2, e4, e5⟩ := bind_ok e3
                obtain ⟨hk3, rfl, rfl, rfl⟩ := tokS_ok e4
                obtain ⟨v1, h2, n2, r3, w3, e6, e7⟩ := bind_ok e5
                obtain ⟨hk4, rfl, rfl, rfl⟩ := tokS_ok e6
                cases e7
                have hka := hf nx (Nat.le_refl _) (by omega)
                have hkb := hf (nx + 1) (by omega) (by omega)
                refine (takeText137 (t := byt C t) (r := byt C rest) (by omega) hlen (by simpa [byt] using hd) m (by omega)).mono fun e W' ⟨v', v2, g1, g2, g3, g4⟩ => ?_
                have ok1 := hok.token g4.stays hka hk3 (s := fun j => W.heap.size ≤ j ∧ j < W'.heap.size) (says_owns C (d := norm t) (row_norm ht) (by rw [byt_norm]; exact g2)) (fun j hj => .inl hj.1)
                have hkb' : (ν.set nx (.val v' (fun _ => False) (fun j => W.heap.size ≤ j ∧ j < W'.heap.size))) (nx + 1) = none := by
                  unfold Nu.set
                  rw [if_neg (by omega)]
                  exact hkb
                have ok2 := ok1.token' hkb' hk4 (s := fun j => W.heap.size ≤ j ∧ j < W'.heap.size) (says_owns C (d := norm rest) (row_norm hmr) (by rw [byt_norm]; exact g3)) (fun j hj => .inr ⟨nx, _, _, _, _, by rw [at_lay hk3, if_pos rfl], Nu.set_same _ _ _, nobody_no, hj⟩)
                refine ⟨_, _, g1, (Ext.set hka _).trans (by omega) (by omega) (Ext.set hkb' _), ok2, .tup (.cons (.one (.tok (Sub.set hkb' _ _ _ (Nu.set_same _ _ _)) g2.one)) (.cons (.one (.tok (Nu.set_same _ _ _) g3.one)) (.cons (.one (.nat 0 (by decide))) .nil)))⟩
            · cases e1
  · cases he
end Go.Proofs.YtlpbbihjnmikkaaGreatDoor.Exe
