/-
  Joined: LawN, DskA
-/
import Derived.Test.YtlpbbihjnmikkaaGreatDoorJ19
namespace Go.Proofs.YtlpbbihjnmikkaaGreatDoor.Exe
set_option linter.unusedSimpArgs false
set_option linter.unusedVariables false
set_option maxRecDepth 100000
open Go.RowKit

set_option maxHeartbeats 800000 in
theorem concatC1 {w : World} {b c : Nat} {v1 : Value} (hlt : b < w.heap.size) (hc1 : w.cell? ⟨b, 0, none⟩ = some v1) {l1 : List Oct} (h1 : Src v1 l1 w) (k1 : l1.length ≤ 4096) (hpos : 0 < l1.length) :
    Calls Tryz.prog 100 #[.slice (some ⟨b, 0, none⟩) 1 c] w fun e w' => ∃ v, e = .returned v ∧ Owns w' w.heap.size v (l1) ∧ Keeps w.heap.size w w' := by
  obtain ⟨a1, c1, rfl⟩ := h1.slice
  go_enter Tryz.func100, Tryz.ntmps100
  go_wp2_with (refine wp_loop_turns 2 ?_; unfold turns)
  unfold turns
  go_wp2_with (first
    | (go_at_call 169; refine (grow169 (l1.length) (by omega) (by omega) w).mono ?_; rintro e w1 ⟨v, rfl, hown, hz1, hb1⟩))
  have d1 := fun k (hk : k = b) => hb1 k (by rw [hk]; exact hlt)
  have e1 := (cell_same (o := 0) (d1 b rfl)).trans hc1
  have g1 := h1.later hz1 hb1
  clear hc1 d1
  refine wp_loop_turns 2 ?_
  unfold turns
  go_wp2_with (first
    | (with_reducible refine wpList_append_src (u := .slice a1 l1.length c1) (l := l1) rfl (.tmp 31) (.tmp 32) rfl hown (by omega) hz1 rfl rfl g1 (by omega) ?_; intro v2 w2 hown2 hz2 hb2))
  have hz2' := Nat.le_trans hz1 hz2
  have b2 : Stays w.heap.size w w2 := ⟨fun i hi => (hb2 i hi).trans (hb1 i hi), by (repeat with_reducible first | exact .refl _ | assumption | refine .alloc ?_ _ | refine .drew ?_ | refine .b ?_ (by assumption) | refine .k ?_ (by assumption) | refine .e ?_ (by assumption) | refine .s ?_ (by assumption) | refine .trans ?_ (by assumption))⟩
  unfold turns
  go_wp2_with fail
  go_ret
  refine ⟨v2, rfl, owns_of hown2 (by simp; try omega) (by simp [octs]), hz2', b2.block, b2.calm⟩
theorem concat1' {w : World} {b : Nat} {v1 : Value} (hb : w.heap[b]? = some (.cells #[v1] 24 (0, 0))) {l1 : List Oct} (h1 : Src v1 l1 w) (k1 : l1.length ≤ 4096) (hpos : 0 < l1.length) :
    Calls Tryz.prog 100 #[.slice (some ⟨b, 0, none⟩) 1 1] w fun e w' => ∃ v, e = .returned v ∧ Owns w' w.heap.size v (l1) ∧ Keeps w.heap.size w w' :=
  concatC1 (heap_lt hb) (by unfold World.cell?; rw [hb]; rfl) h1 k1 (by omega)
theorem concatNew1 {w : World} {v1 : Value} {l1 : List Oct} (h1 : Src v1 l1 w) (k1 : l1.length ≤ 4096) (hpos : 0 < l1.length) :
    Calls Tryz.prog 100 #[.slice (some ⟨w.heap.size, 0, none⟩) 1 1] (w.alloc (.cells #[v1] 24)) fun e w' => ∃ v, e = .returned v ∧ Owns w' w.heap.size v (l1) ∧ Keeps w.heap.size w w' := by
  have hk := Keeps.alloc w (.cells #[v1] 24)
  refine (concat1' (heap_new w _ _) (h1.later hk.1 hk.2) k1 hpos).mono fun e w' ⟨v', g1, g2, g3⟩ => ⟨v', g1, owns_base hk.1 g2, hk.trans g3 hk.1⟩
set_option maxHeartbeats 800000 in
theorem concatC2 {w : World} {b c : Nat} {v1 v2 : Value} (hlt : b < w.heap.size) (hc1 : w.cell? ⟨b, 0, none⟩ = some v1) (hc2 : w.cell? ⟨b, 1, none⟩ = some v2) {l1 l2 : List Oct} (h1 : Src v1 l1 w) (h2 : Src v2 l2 w) (k1 : l1.length ≤ 4096) (k2 : l2.length ≤ 4096) (hpos : 0 < l1.length + l2.length) :
    Calls Tryz.prog 100 #[.slice (some ⟨b, 0, none⟩) 2 c] w fun e w' => ∃ v, e = .returned v ∧ Owns w' w.heap.size v (l1 ++ l2) ∧ Keeps w.heap.size w w' := by
  obtain ⟨a1, c1, rfl⟩ := h1.slice
  obtain ⟨a2, c2, rfl⟩ := h2.slice
  go_enter Tryz.func100, Tryz.ntmps100
  go_wp2_with (refine wp_loop_turns 3 ?_; unfold turns)
  unfold turns
  go_wp2_with fail
  unfold turns
  go_wp2_with (first
    | (go_at_call 169; refine (grow169 (l1.length + l2.length) (by omega) (by omega) w).mono ?_; rintro e w1 ⟨v, rfl, hown, hz1, hb1⟩))
  have d1 := fun k (hk : k = b) => hb1 k (by rw [hk]; exact hlt)
  have e2 := (cell_same (o := 1) (d1 b rfl)).trans hc2
  have e1 := (cell_same (o := 0) (d1 b rfl)).trans hc1
  have g1 := h1.later hz1 hb1
  clear hc1 hc2 d1
  refine wp_loop_turns 3 ?_
  unfold turns
  go_wp2_with (first
    | (with_reducible refine wpList_append_src (u := .slice a1 l1.length c1) (l := l1) rfl (.tmp 31) (.tmp 32) rfl hown (by omega) hz1 rfl rfl g1 (by omega) ?_; intro v2 w2 hown2 hz2 hb2))
  have hz2' := Nat.le_trans hz1 hz2
  have b2 : Stays w.heap.size w w2 := ⟨fun i hi => (hb2 i hi).trans (hb1 i hi), by (repeat with_reducible first | exact .refl _ | assumption | refine .alloc ?_ _ | refine .drew ?_ | refine .b ?_ (by assumption) | refine .k ?_ (by assumption) | refine .e ?_ (by assumption) | refine .s ?_ (by assumption) | refine .trans ?_ (by assumption))⟩
  have g2 := h2.later hz2' b2
  have e2 := (cell_same (o := 1) (hb2 b hlt)).trans e2
  unfold turns
  go_wp2_with (first
    | (with_reducible refine wpList_append_src (u := .slice a2 l2.length c2) (l := l2) rfl (.tmp 31) (.tmp 32) rfl hown2 (by omega) hz2' rfl rfl g2 (by omega) ?_; intro v3 w3 hown3 hz3 hb3))
  have hz3' := Nat.le_trans hz2' hz3
  have b3 : Stays w.heap.size w w3 := ⟨fun i hi => (hb3 i hi).trans (b2 i hi), by (repeat with_reducible first | exact .refl _ | assumption | refine .alloc ?_ _ | refine .drew ?_ | refine .b ?_ (by assumption) | refine .k ?_ (by assumption) | refine .e ?_ (by assumption) | refine .s ?_ (by assumption) | refine .trans ?_ (by assumption))⟩
  unfold turns
  go_wp2_with fail
  go_ret
  refine ⟨v3, rfl, owns_of hown3 (by simp; try omega) (by simp [octs]), hz3', b3.block, b3.calm⟩
theorem concat2' {w : World} {b : Nat} {v1 v2 : Value} (hb : w.heap[b]? = some (.cells #[v1, v2] 24 (0, 0))) {l1 l2 : List Oct} (h1 : Src v1 l1 w) (h2 : Src v2 l2 w) (k1 : l1.length ≤ 4096) (k2 : l2.length ≤ 4096) (hpos : 0 < l1.length + l2.length) :
    Calls Tryz.prog 100 #[.slice (some ⟨b, 0, none⟩) 2 2] w fun e w' => ∃ v, e = .returned v ∧ Owns w' w.heap.size v (l1 ++ l2) ∧ Keeps w.heap.size w w' :=
  concatC2 (heap_lt hb) (by unfold World.cell?; rw [hb]; rfl) (by unfold World.cell?; rw [hb]; rfl) h1 h2 k1 k2 (by omega)
theorem concatNew2 {w : World} {v1 v2 : Value} {l1 l2 : List Oct} (h1 : Src v1 l1 w) (h2 : Src v2 l2 w) (k1 : l1.length ≤ 4096) (k2 : l2.length ≤ 4096) (hpos : 0 < l1.length + l2.length) :
    Calls Tryz.prog 100 #[.slice (some ⟨w.heap.size, 0, none⟩) 2 2] (w.alloc (.cells #[v1, v2] 24)) fun e w' => ∃ v, e = .returned v ∧ Owns w' w.heap.size v (l1 ++ l2) ∧ Keeps w.heap.size w w' := by
  have hk := Keeps.alloc w (.cells #[v1, v2] 24)
  refine (concat2' (heap_new w _ _) (h1.later hk.1 hk.2) (h2.later hk.1 hk.2) k1 k2 hpos).mono fun e w' ⟨v', g1, g2, g3⟩ => ⟨v', g1, owns_base hk.1 g2, hk.trans g3 hk.1⟩
set_option maxHeartbeats 800000 in
theorem concatC3 {w : World} {b c : Nat} {v1 v2 v3 : Value} (hlt : b < w.heap.size) (hc1 : w.cell? ⟨b, 0, none⟩ = some v1) (hc2 : w.cell? ⟨b, 1, none⟩ = some v2) (hc3 : w.cell? ⟨b, 2, none⟩ = some v3) {l1 l2 l3 : List Oct} (h1 : Src v1 l1 w) (h2 : Src v2 l2 w) (h3 : Src v3 l3 w) (k1 : l1.length ≤ 4096) (k2 : l2.length ≤ 4096) (k3 : l3.length ≤ 4096) (hpos : 0 < l1.length + l2.length + l3.length) :
    Calls Tryz.prog 100 #[.slice (some ⟨b, 0, none⟩) 3 c] w fun e w' => ∃ v, e = .returned v ∧ Owns w' w.heap.size v (l1 ++ l2 ++ l3) ∧ Keeps w.heap.size w w' := by
  obtain ⟨a1, c1, rfl⟩ := h1.slice
  obtain ⟨a2, c2, rfl⟩ := h2.slice
  obtain ⟨a3, c3, rfl⟩ := h3.slice
  go_enter Tryz.func100, Tryz.ntmps100
  go_wp2_with (refine wp_loop_turns 4 ?_; unfold turns)
  unfold turns
  go_wp2_with fail
  unfold turns
  go_wp2_with fail
  unfold turns
  go_wp2_with (first
    | (go_at_call 169; refine (grow169 (l1.length + l2.length + l3.length) (by omega) (by omega) w).mono ?_; rintro e w1 ⟨v, rfl, hown, hz1, hb1⟩))
  have d1 := fun k (hk : k = b) => hb1 k (by rw [hk]; exact hlt)
  have e2 := (cell_same (o := 1) (d1 b rfl)).trans hc2
  have e3 := (cell_same (o := 2) (d1 b rfl)).trans hc3
  have e1 := (cell_same (o := 0) (d1 b rfl)).trans hc1
  have g1 := h1.later hz1 hb1
  clear hc1 hc2 hc3 d1
  refine wp_loop_turns 4 ?_
  unfold turns
  go_wp2_with (first
    | (with_reducible refine wpList_append_src (u := .slice a1 l1.length c1) (l := l1) rfl (.tmp 31) (.tmp 32) rfl hown (by omega) hz1 rfl rfl g1 (by omega) ?_; intro v2 w2 hown2 hz2 hb2))
  have hz2' := Nat.le_trans hz1 hz2
  have b2 : Stays w.heap.size w w2 := ⟨fun i hi => (hb2 i hi).trans (hb1 i hi), by (repeat with_reducible first | exact .refl _ | assumption | refine .alloc ?_ _ | refine .drew ?_ | refine .b ?_ (by assumption) | refine .k ?_ (by assumption) | refine .e ?_ (by assumption) | refine .s ?_ (by assumption) | refine .trans ?_ (by assumption))⟩
  have g2 := h2.later hz2' b2
  have e2 := (cell_same (o := 1) (hb2 b hlt)).trans e2
  have e3 := (cell_same (o := 2) (hb2 b hlt)).trans e3
  unfold turns
  go_wp2_with (first
    | (with_reducible refine wpList_append_src (u := .slice a2 l2.length c2) (l := l2) rfl (.tmp 31) (.tmp 32) rfl hown2 (by omega) hz2' rfl rfl g2 (by omega) ?_; intro v3 w3 hown3 hz3 hb3))
  have hz3' := Nat.le_trans hz2' hz3
  have b3 : Stays w.heap.size w w3 := ⟨fun i hi => (hb3 i hi).trans (b2 i hi), by (repeat with_reducible first | exact .refl _ | assumption | refine .alloc ?_ _ | refine .drew ?_ | refine .b ?_ (by assumption) | refine .k ?_ (by assumption) | refine .e ?_ (by assumption) | refine .s ?_ (by assumption) | refine .trans ?_ (by assumption))⟩
  have g3 := h3.later hz3' b3
  have e3 := (cell_same (o := 2) (hb3 b hlt)).trans e3
  unfold turns
  go_wp2_with (first
    | (with_reducible refine wpList_append_src (u := .slice a3 l3.length c3) (l := l3) rfl (.tmp 31) (.tmp 32) rfl hown3 (by omega) hz3' rfl rfl g3 (by omega) ?_; intro v4 w4 hown4 hz4 hb4))
  have hz4' := Nat.le_trans hz3' hz4
  have b4 : Stays w.heap.size w w4 := ⟨fun i hi => (hb4 i hi).trans (b3 i hi), by (repeat with_reducible first | exact .refl _ | assumption | refine .alloc ?_ _ | refine .drew ?_ | refine .b ?_ (by assumption) | refine .k ?_ (by assumption) | refine .e ?_ (by assumption) | refine .s ?_ (by assumption) | refine .trans ?_ (by assumption))⟩
  unfold turns
  go_wp2_with fail
  go_ret
  refine ⟨v4, rfl, owns_of hown4 (by simp; try omega) (by simp [octs]), hz4', b4.block, b4.calm⟩
theorem concat3' {w : World} {b : Nat} {v1 v2 v3 : Value} (hb : w.heap[b]? = some (.cells #[v1, v2, v3] 24 (0, 0))) {l1 l2 l3 : List Oct} (h1 : Src v1 l1 w) (h2 : Src v2 l2 w) (h3 : Src v3 l3 w) (k1 : l1.length ≤ 4096) (k2 : l2.length ≤ 4096) (k3 : l3.length ≤ 4096) (hpos : 0 < l1.length + l2.length + l3.length) :
    Calls Tryz.prog 100 #[.slice (some ⟨b, 0, none⟩) 3 3] w fun e w' => ∃ v, e = .returned v ∧ Owns w' w.heap.size v (l1 ++ l2 ++ l3) ∧ Keeps w.heap.size w w' :=
  concatC3 (heap_lt hb) (by unfold World.cell?; rw [hb]; rfl) (by unfold World.cell?; rw [hb]; rfl) (by unfold World.cell?; rw [hb]; rfl) h1 h2 h3 k1 k2 k3 (by omega)
theorem concatNew3 {w : World} {v1 v2 v3 : Value} {l1 l2 l3 : List Oct} (h1 : Src v1 l1 w) (h2 : Src v2 l2 w) (h3 : Src v3 l3 w) (k1 : l1.length ≤ 4096) (k2 : l2.length ≤ 4096) (k3 : l3.length ≤ 4096) (hpos : 0 < l1.length + l2.length + l3.length) :
    Calls Tryz.prog 100 #[.slice (some ⟨w.heap.size, 0, none⟩) 3 3] (w.alloc (.cells #[v1, v2, v3] 24)) fun e w' => ∃ v, e = .returned v ∧ Owns w' w.heap.size v (l1 ++ l2 ++ l3) ∧ Keeps w.heap.size w w' := by
  have hk := Keeps.alloc w (.cells #[v1, v2, v3] 24)
  refine (concat3' (heap_new w _ _) (h1.later hk.1 hk.2) (h2.later hk.1 hk.2) (h3.later hk.1 hk.2) k1 k2 k3 hpos).mono fun e w' ⟨v', g1, g2, g3⟩ => ⟨v', g1, owns_base hk.1 g2, hk.trans g3 hk.1⟩
end Go.Proofs.YtlpbbihjnmikkaaGreatDoor.Exe

namespace Go.Proofs.YtlpbbihjnmikkaaGreatDoor.Exe
set_option linter.unusedSimpArgs false
set_option linter.unusedVariables false
set_option maxRecDepth 100000
open Go.RowKit

theorem run_append_srcL {base : Nat} {w : World} {v : Value} {n : Nat} {xs : List Value} (hown : w.ownsRow base 5 1 v n xs) (hn : n ≤ 4194304) (hbase : base ≤ w.heap.size) {u : Value} {l : List Oct} (hu : Src u l w) (hl : l.length ≤ 2097152) (ty : TypeId) :
    ∃ v' w', (Builtin.append_ #[24, 24] ty #[v, u]).run Tryz.prog w = .ok v' w' ∧ w'.ownsRow base 5 1 v' (n + l.length) (xs ++ l.map fun x => .int .u8 x.toNat) ∧ (w.heap.size ≤ w'.heap.size ∧ Stays base w w') := by
  obtain ⟨i, hi, hz, hsz, hby⟩ := info5
  rcases hu with ⟨rfl, rfl⟩ | ⟨b, o, cap, rfl, hcap, hlt, hr⟩
  · refine ⟨v, w, ?_, by simpa using hown, Nat.le_refl _, fun _ _ => rfl, Calm.refl _⟩
    rcases hown.2 with ⟨rfl, _⟩ | ⟨g, cap', cur, rfl, hg, h3, h4, _⟩
    · simp [Builtin.append_, run_underlying Tryz.underlying24, sizeOf, typeInfo, hi, hsz, Builtin.lenOf, Builtin.firstCells, loadCells, loadCellsFrom, storeCells]
    · simp [Builtin.append_, run_underlying Tryz.underlying24, sizeOf, typeInfo, hi, hsz, h4, Builtin.lenOf, Builtin.firstCells, loadCells, loadCellsFrom, storeCells]
  · obtain ⟨v', w', hrun, h2, h3, h4, h5⟩ := run_append_own_at (P := Tryz.prog) (w := w) base 24 ty 5 i _ 1 1 Tryz.underlying24 hi hz hsz hby rfl (by decide) v n xs hown ⟨b, o, none⟩ l.length cap (l.map fun x => Value.int .u8 x.toNat) (by simp)
      (fun j u hj => by
        have hlt : j < l.length := by
          rcases Nat.lt_or_ge j l.length with h | h
          · exact h
          · rw [List.getElem?_eq_none (by simpa using h)] at hj; cases hj
        rw [add_any, hr j hlt]
        simpa [hlt] using hj)
      (fun u hu => by obtain ⟨x, _, rfl⟩ := List.mem_map.1 hu; rfl) (by simp only [maxLen]; omega) (by omega) hbase
    refine ⟨v', w', hrun, h2, h3.size, fun k hk => h3.block k (by omega) fun e => ?_, h3.os, h3.output⟩
    rcases hown.2 with ⟨rfl, _⟩ | ⟨g, cap', cur, rfl, hg, _⟩
    · cases e
    · cases e
      exact absurd hk (Nat.not_lt.2 hg)
theorem wpList_append_srcL {ops : Array Oper} {rest : List Oper} {op : Oper} {a : Act} {w : World} {Q : Exit → Act → World → Prop} (hgd : op.guard = none) (s x : Operand) (ho : op.op = .call { callee := .builtin .append, args := #[s, x], argTypes := #[24, 24] })
    {base n : Nat} {v : Value} {xs : List Value} (hown : w.ownsRow base 5 1 v n xs) (hn : n ≤ 4194304) (hbase : base ≤ w.heap.size) (hs : a.eval s = v) {u : Value} (hx : a.eval x = u) {l : List Oct} (hu : Src u l w) (hl : l.length ≤ 2097152)
    (h : ∀ v' w', w'.ownsRow base 5 1 v' (n + l.length) (xs ++ l.map fun x => .int .u8 x.toNat) → w.heap.size ≤ w'.heap.size → (Stays base w w') → wpList Tryz.prog ops Q rest (a.put op.dst v') w') : wpList Tryz.prog ops Q (op :: rest) a w := by
  refine wpList_plain hgd fun K hK => ?_
  obtain ⟨v', w', hrun, h2, h3, h4⟩ := run_append_srcL hown hn hbase hu hl op.type
  unfold Oper.wp execOp
  simp only [ho, resolve, invoke, builtin, Sem.run_bind, Sem.run_pure, Result.andThen_ok, List.map_toArray, List.map_cons, List.map_nil, hs, hx]
  rw [hrun]
  exact hK _ _ (h v' w' h2 h3 h4)
theorem grow169L (n : Nat) (h0 : 0 < n) (hn : n ≤ 4194304) (w : World) : Calls Tryz.prog 169 #[.slice none 0 0, .int .i64 n] w fun e w' => ∃ v, e = .returned v ∧ w'.ownsRow w.heap.size 5 1 v 0 [] ∧ w.heap.size ≤ w'.heap.size ∧ (Stays w.heap.size w w') := by
  obtain ⟨i, hi, hz, hsz, hby⟩ := info5
  have hG := grownCap_ge w n 0 5
  have hG2 := grownCap_le_maxLen w n 0 5 (by unfold maxLen; omega)
  have hrz : ∀ ty, (Builtin.append_ #[24, 3] ty #[.slice none 0 0, .int .i64 (n : Int)]).run Tryz.prog w = .ok (.slice (some ⟨w.heap.size, 0, none⟩) n (grownCap w n 0 5)) (w.drew.alloc (.cells (Builtin.zeroCells (Value.int .u8 0).cells n ++ Builtin.zeroCells (Value.int .u8 0).cells (grownCap w n 0 5 - n)) 5)) := fun ty => by
    have h := Lib.run_append_grow_zeros (P := Tryz.prog) w 24 3 ty 5 i _ .i64 .i64 Tryz.underlying24 Tryz.underlying3 hi hz none 0 0 [] (by rw [hsz]; exact run_firstCells_none w.drew 1 0 0 0) n h0 (by omega) (by omega) (by omega) (by rw [hby]; omega) (growslice_fits (need := 0 + n) (old := 0) (bytes := i.bytes) (by omega) (by rw [hby]; omega))
    simpa using h
  have hcs : (Builtin.zeroCells (Value.int .u8 0).cells n ++ Builtin.zeroCells (Value.int .u8 0).cells (grownCap w n 0 5 - n)).size = grownCap w n 0 5 := by
    have hzc : ∀ m, (Builtin.zeroCells (Value.int .u8 0).cells m).size = m := fun m => by simp [Builtin.zeroCells, Value.cells]
    rw [Array.size_append, hzc, hzc]
    omega
  revert hrz hcs
  generalize (Builtin.zeroCells (Value.int .u8 0).cells n ++ Builtin.zeroCells (Value.int .u8 0).cells (grownCap w n 0 5 - n)) = cs
  revert hG hG2
  generalize grownCap w n 0 5 = G
  intro hG hG2 hrz hcs
  have hend : (w.drew.alloc (.cells cs 5)).ownsRow w.heap.size 5 1 (.slice (some ⟨w.heap.size, 0, none⟩) 0 G) 0 [] ∧ w.heap.size ≤ (w.drew.alloc (.cells cs 5)).heap.size ∧ Stays w.heap.size w (w.drew.alloc (.cells cs 5)) := by
    refine ⟨⟨rfl, .inr ⟨w.heap.size, G, cs, rfl, Nat.le_refl _, ?_, Nat.zero_le _, hG2, by omega, by simp⟩⟩, le_alloc (w := w.drew) (Nat.le_refl _) _, fun i hi => heap_alloc_old (w := w.drew) _ hi, Calm.alloc (Calm.drew (Calm.refl w)) _⟩
    show (w.drew.alloc (.cells cs 5)).heap[w.drew.heap.size]? = _
    simp only [World.alloc]
    rw [Array.getElem?_push_size]
  generalize w.drew.alloc (.cells cs 5) = w2 at hend hrz
  have h1 : ¬ ((n : Int) < 0) := by omega
  clear hcs
  have hGi : (G : Int) ≤ 9223372036854775807 := by unfold maxLen at hG2; omega
  go_enter Tryz.func169, Tryz.ntmps169
  go_wp2_with (at_builtin; refine Lib.wpList_append_run _ rfl _ _ _ _ rfl _ _ rfl rfl _ _ (hrz _) ?_)
  go_ret
  exact ⟨_, rfl, hend⟩
theorem wpList_append_ownedL {ops : Array Oper} {rest : List Oper} {op : Oper} {a : Act} {w : World} {Q : Exit → Act → World → Prop} (hgd : op.guard = none) (s x : Operand) (ho : op.op = .call { callee := .builtin .append, args := #[s, x], argTypes := #[24, 24] })
    {g : Nat} (hg : Blk w g 5 #[]) (hs : a.eval s = .slice (some ⟨g, 0, none⟩) 0 0) (b o cap : Nat) (l : List Oct) (hx : a.eval x = .slice (some ⟨b, o, none⟩) l.length cap) (hr : ∀ j (h : j < l.length), w.cell? ⟨b, o + j, none⟩ = some (.int .u8 (l[j]'h).toNat)) (hl : l.length ≤ 1048576)
    (h : ∀ v' w', w'.ownsRow g 5 1 v' l.length (l.map fun x => .int .u8 x.toNat) → w.heap.size ≤ w'.heap.size → (Stays g w w') → wpList Tryz.prog ops Q rest (a.put op.dst v') w') : wpList Tryz.prog ops Q (op :: rest) a w := by
  refine wpList_plain hgd fun K hK => ?_
  obtain ⟨i, hi, hz, hsz, hby⟩ := info5
  have hown : w.ownsRow g 5 1 (.slice (some ⟨g, 0, none⟩) 0 0) 0 [] := ⟨rfl, Or.inr ⟨g, 0, #[], rfl, Nat.le_refl _, hg, Nat.le_refl _, by decide, rfl, rfl⟩⟩
  obtain ⟨v', w', hrun, h2, h3, h4, h5⟩ := run_append_own_at (P := Tryz.prog) (w := w) g 24 op.type 5 i _ 1 1 Tryz.underlying24 hi hz hsz hby rfl (by decide) _ 0 [] hown ⟨b, o, none⟩ l.length cap (l.map fun x => Value.int .u8 x.toNat) (by simp)
    (fun j u hj => by
      have hlt : j < l.length := by
        rcases Nat.lt_or_ge j l.length with h | h
        · exact h
        · rw [List.getElem?_eq_none (by simpa using h)] at hj; cases hj
      rw [add_any, hr j hlt]
      simpa [hlt] using hj)
    (fun u hu => by obtain ⟨x, _, rfl⟩ := List.mem_map.1 hu; rfl) (by simp only [maxLen]; omega) (by omega) (Nat.le_of_lt hg.lt)
  rw [Nat.zero_add, List.nil_append] at h2
  unfold Oper.wp execOp
  simp only [ho, resolve, invoke, builtin, Sem.run_bind, Sem.run_pure, Result.andThen_ok, List.map_toArray, List.map_cons, List.map_nil, hs, hx]
  rw [hrun]
  exact hK _ _ (h v' w' h2 h3.size ⟨fun k hk => h3.block k (Nat.lt_trans hk hg.lt) (fun e => absurd (by simpa [Value.ownBlock] using e : k = g) (by omega)), h3.os, h3.output⟩)
attribute [local go_sem] eq_nil24
theorem clone8L {v : Value} {l : List Oct} {w : World} (hv : Src v l w) (hl : l.length ≤ 1048576) : Calls Tryz.prog 8 #[v] w fun e w' => ∃ v', e = .returned v' ∧ Owns w' w.heap.size v' l ∧ Keeps w.heap.size w w' := by
  rcases hv with ⟨rfl, rfl⟩ | ⟨b, o, cap, rfl, hc, hb, hr⟩
  · refine (clone_nil w).mono fun e w' ⟨he, hw⟩ => ?_
    subst he; subst hw
    exact ⟨_, rfl, ⟨rfl, .inl ⟨rfl, rfl⟩⟩, Nat.le_refl _, fun _ _ => rfl, Calm.refl _⟩
  · have hg : Blk (w.alloc (.cells #[] 5)) w.heap.size 5 #[] := Blk.new w 5 _
    have hr' : ∀ j (h : j < l.length), (w.alloc (.cells #[] 5)).cell? ⟨b, o + j, none⟩ = some (.int .u8 (l[j]'h).toNat) := fun j hj => (cell_same (Below.heap_alloc w _ b hb)).trans (hr j hj)
    go_enter Tryz.func8, Tryz.ntmps8
    go_wp2_with (with_reducible refine wpList_append_ownedL rfl (.tmp 5) (.tmp 6) rfl hg rfl b o cap l rfl hr' hl ?_; intro v' w2 hs2 hz2 hb2)
    go_ret
    exact ⟨_, rfl, hs2, Nat.le_trans (le_alloc (Nat.le_refl _) _) hz2, fun i hi => (hb2 i hi).trans (heap_alloc_old _ hi), by (repeat with_reducible first | exact .refl _ | assumption | refine .alloc ?_ _ | refine .drew ?_ | refine .b ?_ (by assumption) | refine .k ?_ (by assumption) | refine .e ?_ (by assumption) | refine .s ?_ (by assumption) | refine .trans ?_ (by assumption))⟩
set_option maxHeartbeats 800000 in
theorem concatC2L {w : World} {b c : Nat} {v1 v2 : Value} (hlt : b < w.heap.size) (hc1 : w.cell? ⟨b, 0, none⟩ = some v1) (hc2 : w.cell? ⟨b, 1, none⟩ = some v2) {l1 l2 : List Oct} (h1 : Src v1 l1 w) (h2 : Src v2 l2 w) (k1 : l1.length ≤ 1048576) (k2 : l2.length ≤ 1048576) (hpos : 0 < l1.length + l2.length) :
    Calls Tryz.prog 100 #[.slice (some ⟨b, 0, none⟩) 2 c] w fun e w' => ∃ v, e = .returned v ∧ Owns w' w.heap.size v (l1 ++ l2) ∧ Keeps w.heap.size w w' := by
  obtain ⟨a1, c1, rfl⟩ := h1.slice
  obtain ⟨a2, c2, rfl⟩ := h2.slice
  go_enter Tryz.func100, Tryz.ntmps100
  go_wp2_with (refine wp_loop_turns 3 ?_; unfold turns)
  unfold turns
  go_wp2_with fail
  unfold turns
  go_wp2_with (first
    | (go_at_call 169; refine (grow169L (l1.length + l2.length) (by omega) (by omega) w).mono ?_; rintro e w1 ⟨v, rfl, hown, hz1, hb1⟩))
  have d1 := fun k (hk : k = b) => hb1 k (by rw [hk]; exact hlt)
  have e2 := (cell_same (o := 1) (d1 b rfl)).trans hc2
  have e1 := (cell_same (o := 0) (d1 b rfl)).trans hc1
  have g1 := h1.later hz1 hb1
  clear hc1 hc2 d1
  refine wp_loop_turns 3 ?_
  unfold turns
  go_wp2_with (first
    | (with_reducible refine wpList_append_srcL (u := .slice a1 l1.length c1) (l := l1) rfl (.tmp 31) (.tmp 32) rfl hown (by omega) hz1 rfl rfl g1 (by omega) ?_; intro v2 w2 hown2 hz2 hb2))
  have hz2' := Nat.le_trans hz1 hz2
  have b2 : Stays w.heap.size w w2 := ⟨fun i hi => (hb2 i hi).trans (hb1 i hi), by (repeat with_reducible first | exact .refl _ | assumption | refine .alloc ?_ _ | refine .drew ?_ | refine .b ?_ (by assumption) | refine .k ?_ (by assumption) | refine .e ?_ (by assumption) | refine .s ?_ (by assumption) | refine .trans ?_ (by assumption))⟩
  have g2 := h2.later hz2' b2
  have e2 := (cell_same (o := 1) (hb2 b hlt)).trans e2
  unfold turns
  go_wp2_with (first
    | (with_reducible refine wpList_append_srcL (u := .slice a2 l2.length c2) (l := l2) rfl (.tmp 31) (.tmp 32) rfl hown2 (by omega) hz2' rfl rfl g2 (by omega) ?_; intro v3 w3 hown3 hz3 hb3))
  have hz3' := Nat.le_trans hz2' hz3
  have b3 : Stays w.heap.size w w3 := ⟨fun i hi => (hb3 i hi).trans (b2 i hi), by (repeat with_reducible first | exact .refl _ | assumption | refine .alloc ?_ _ | refine .drew ?_ | refine .b ?_ (by assumption) | refine .k ?_ (by assumption) | refine .e ?_ (by assumption) | refine .s ?_ (by assumption) | refine .trans ?_ (by assumption))⟩
  unfold turns
  go_wp2_with fail
  go_ret
  refine ⟨v3, rfl, owns_of hown3 (by simp; try omega) (by simp [octs]), hz3', b3.block, b3.calm⟩
theorem concat2L {w : World} {b : Nat} {v1 v2 : Value} (hb : w.heap[b]? = some (.cells #[v1, v2] 24 (0, 0))) {l1 l2 : List Oct} (h1 : Src v1 l1 w) (h2 : Src v2 l2 w) (k1 : l1.length ≤ 1048576) (k2 : l2.length ≤ 1048576) (hpos : 0 < l1.length + l2.length) :
    Calls Tryz.prog 100 #[.slice (some ⟨b, 0, none⟩) 2 2] w fun e w' => ∃ v, e = .returned v ∧ Owns w' w.heap.size v (l1 ++ l2) ∧ Keeps w.heap.size w w' :=
  concatC2L (heap_lt hb) (by unfold World.cell?; rw [hb]; rfl) (by unfold World.cell?; rw [hb]; rfl) h1 h2 k1 k2 (by omega)
theorem concatNew2L {w : World} {v1 v2 : Value} {l1 l2 : List Oct} (h1 : Src v1 l1 w) (h2 : Src v2 l2 w) (k1 : l1.length ≤ 1048576) (k2 : l2.length ≤ 1048576) (hpos : 0 < l1.length + l2.length) :
    Calls Tryz.prog 100 #[.slice (some ⟨w.heap.size, 0, none⟩) 2 2] (w.alloc (.cells #[v1, v2] 24)) fun e w' => ∃ v, e = .returned v ∧ Owns w' w.heap.size v (l1 ++ l2) ∧ Keeps w.heap.size w w' := by
  have hk := Keeps.alloc w (.cells #[v1, v2] 24)
  refine (concat2L (heap_new w _ _) (h1.later hk.1 hk.2) (h2.later hk.1 hk.2) k1 k2 hpos).mono fun e w' ⟨v', g1, g2, g3⟩ => ⟨v', g1, owns_base hk.1 g2, hk.trans g3 hk.1⟩
end Go.Proofs.YtlpbbihjnmikkaaGreatDoor.Exe
