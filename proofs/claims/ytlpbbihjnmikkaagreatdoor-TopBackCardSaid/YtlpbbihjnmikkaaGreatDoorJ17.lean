/-
  Joined: LawC, LawD, LawE, LawF
-/
import Derived.Test.YtlpbbihjnmikkaaGreatDoorJ16
import Derived.Lib.AppendZerosOnto
import Derived.Lib.Walk
import Derived.Lib.SliceRun
namespace Go.Proofs.YtlpbbihjnmikkaaGreatDoor.Exe
set_option linter.unusedSimpArgs false
set_option maxRecDepth 100000
open Go.RowKit

/-- A loop's rounds, one by one. -/
def turns (P : Program) (c : Code) (Q : Exit → Act → World → Prop) : Nat → Act → World → Prop
  | 0, _, _ => False
  | m + 1, a, w => c.wp P (Exit.then (turns P c Q m) Q) a w
theorem wp_loop_turns {P : Program} {c : Code} {Q : Exit → Act → World → Prop} (m : Nat) {a : Act} {w : World} (h : turns P c Q m a w) : (Code.loop c).wp P Q a w :=
  wp_loop_far (turns P c Q) (fun m a w h => by
    cases m with
    | zero => exact h.elim
    | succ m => exact ⟨m, rfl, h⟩) h
def oct (n : Nat) : Value := .int .u8 n
/-- An owned row of bytes grows by one that a row of one holds. -/
theorem run_append_byte {base : Nat} {w : World} {v : Value} {n : Nat} {xs : List Value} (hown : w.ownsRow base 5 1 v n xs) (hn : n ≤ 8192) (hbase : base ≤ w.heap.size) {b cap : Nat} {m : Int} (hb : w.cell? ⟨b, 0, none⟩ = some (.int .u8 m)) (ty : TypeId) :
    ∃ v' w', (Builtin.append_ #[24, 24] ty #[v, .slice (some ⟨b, 0, none⟩) 1 cap]).run Tryz.prog w = .ok v' w' ∧ w'.ownsRow base 5 1 v' (n + 1) (xs ++ [.int .u8 m]) ∧ (w.heap.size ≤ w'.heap.size ∧ Stays base w w') := by
  obtain ⟨i, hi, hz, hsz, hby⟩ := info5
  obtain ⟨v', w', hrun, h2, h3, h4, h5⟩ := run_append_own_at (P := Tryz.prog) (w := w) base 24 ty 5 i _ 1 1 Tryz.underlying24 hi hz hsz hby rfl (by decide) v n xs hown ⟨b, 0, none⟩ 1 cap [.int .u8 m] rfl
    (fun j u hj => by
      cases j with
      | zero => cases hj; exact hb
      | succ j => cases hj)
    (fun u hu => by simp at hu; subst hu; rfl) (by simp only [maxLen]; omega) (by omega) hbase
  refine ⟨v', w', hrun, h2, h3.size, fun k hk => h3.block k (by omega) fun e => ?_, h3.os, h3.output⟩
  rcases hown.2 with ⟨rfl, _⟩ | ⟨g, cap', cur, rfl, hg, _⟩
  · cases e
  · cases e
    exact absurd hk (Nat.not_lt.2 hg)
theorem wpList_append_byte {ops : Array Oper} {rest : List Oper} {op : Oper} {a : Act} {w : World} {Q : Exit → Act → World → Prop} (hgd : op.guard = none) (s x : Operand) (ho : op.op = .call { callee := .builtin .append, args := #[s, x], argTypes := #[24, 24] })
    {base n : Nat} {v : Value} {xs : List Value} (hown : w.ownsRow base 5 1 v n xs) (hn : n ≤ 8192) (hbase : base ≤ w.heap.size) (hs : a.eval s = v) (b cap : Nat) (m : Int) (hx : a.eval x = .slice (some ⟨b, 0, none⟩) 1 cap) (hb : w.cell? ⟨b, 0, none⟩ = some (.int .u8 m))
    (h : ∀ v' w', w'.ownsRow base 5 1 v' (n + 1) (xs ++ [.int .u8 m]) → w.heap.size ≤ w'.heap.size → (Stays base w w') → wpList Tryz.prog ops Q rest (a.put op.dst v') w') : wpList Tryz.prog ops Q (op :: rest) a w := by
  refine wpList_plain hgd fun K hK => ?_
  obtain ⟨v', w', hrun, h2, h3, h4⟩ := run_append_byte hown hn hbase hb op.type
  unfold Oper.wp execOp
  simp only [ho, resolve, invoke, builtin, Sem.run_bind, Sem.run_pure, Result.andThen_ok, List.map_toArray, List.map_cons, List.map_nil, hs, hx]
  rw [hrun]
  exact hK _ _ (h v' w' h2 h3 h4)
theorem heap_alloc_old {w : World} {i : Nat} (o : Obj) (h : i < w.heap.size) : (w.alloc o).heap[i]? = w.heap[i]? := by
  simp only [World.alloc]
  rw [Array.getElem?_push_lt h, Array.getElem?_eq_getElem h]
theorem le_alloc {w : World} {k : Nat} (h : k ≤ w.heap.size) (o : Obj) : k ≤ (w.alloc o).heap.size := by
  simp only [World.alloc, Array.size_push]; omega
theorem owns_alloc {w : World} {base n : Nat} {e : TypeId} {size : Nat} {v : Value} {xs : List Value} (h : w.ownsRow base e size v n xs) (o : Obj) : (w.alloc o).ownsRow base e size v n xs := by
  refine ⟨h.1, h.2.imp id fun ⟨g, cap, cur, h1, h2, h3, h4⟩ => ⟨g, cap, cur, h1, h2, (heap_alloc_old o (heap_lt h3)).trans h3, h4⟩⟩
theorem cell_alloc {w : World} (t : TypeId) (x : Value) : (w.alloc (.cells #[x] t)).cell? ⟨w.heap.size, 0, none⟩ = some x := by
  have e : (w.alloc (.cells #[x] t)).heap[w.heap.size]? = some (.cells #[x] t (0, 0)) := by
    simp only [World.alloc]
    rw [Array.getElem?_push_size]
  unfold World.cell?
  rw [e]
  rfl
theorem owns_base {w : World} {base base' n : Nat} {e : TypeId} {size : Nat} {v : Value} {xs : List Value} (hb : base' ≤ base) (h : w.ownsRow base e size v n xs) : w.ownsRow base' e size v n xs :=
  ⟨h.1, h.2.imp id fun ⟨g, cap, cur, h1, h2, h3⟩ => ⟨g, cap, cur, h1, Nat.le_trans hb h2, h3⟩⟩
theorem wpList_append_owned {ops : Array Oper} {rest : List Oper} {op : Oper} {a : Act} {w : World} {Q : Exit → Act → World → Prop} (hgd : op.guard = none) (s x : Operand) (ho : op.op = .call { callee := .builtin .append, args := #[s, x], argTypes := #[24, 24] })
    {g : Nat} (hg : Blk w g 5 #[]) (hs : a.eval s = .slice (some ⟨g, 0, none⟩) 0 0) (b o cap : Nat) (l : List Oct) (hx : a.eval x = .slice (some ⟨b, o, none⟩) l.length cap) (hr : ∀ j (h : j < l.length), w.cell? ⟨b, o + j, none⟩ = some (.int .u8 (l[j]'h).toNat)) (hl : l.length ≤ 4096)
    (h : ∀ v' w', w'.ownsRow g 5 1 v' l.length (l.map fun x => .int .u8 x.toNat) → w.heap.size ≤ w'.heap.size → (Stays g w w') → wpList Tryz.prog ops Q rest (a.put op.dst v') w') : wpList Tryz.prog ops Q (op :: rest) a w := by
  refine wpList_plain hgd fun K hK => ?_
  obtain ⟨i, hi, hz, hsz, hby⟩ := info5
  have hown : w.ownsRow g 5 1 (.slice (some ⟨g, 0, none⟩) 0 0) 0 [] := ⟨rfl, Or.inr ⟨g, 0, #[], rfl, Nat.le_refl _, hg, Nat.le_refl _, by decide, rfl, rfl⟩⟩
  obtain ⟨v', w', hrun, h2, h3, h4, h5⟩ := run_append_own_at (P := Tryz.prog) (w := w) g 24 op.type 5 i _ 1 1 Tryz.underlying24 hi hz hsz hby rfl (by decide) _ 0 [] hown ⟨b, o, none⟩ l.length cap (l.map fun x => Value.int .u8 x.toNat) (by simp)
    (fun j u hj => by
      have hlt : j < l.length := by
        rcases Nat.lt_or_ge j l.length with h | h
        · exact h
        · rw [List.getElem?_eq_none (by simpa using h)] at hj; cases hj
      rw [add_any, hr j hlt]
      simpa [hlt] using hj)
    (fun u hu => by obtain ⟨x, _, rfl⟩ := List.mem_map.1 hu; rfl) (by simp only [maxLen]; omega) (by omega) (Nat.le_of_lt hg.lt)
  rw [Nat.zero_add, List.nil_append] at h2
  unfold Oper.wp execOp
  simp only [ho, resolve, invoke, builtin, Sem.run_bind, Sem.run_pure, Result.andThen_ok, List.map_toArray, List.map_cons, List.map_nil, hs, hx]
  rw [hrun]
  exact hK _ _ (h v' w' h2 h3.size ⟨fun k hk => h3.block k (Nat.lt_trans hk hg.lt) (fun e => absurd (by simpa [Value.ownBlock] using e : k = g) (by omega)), h3.os, h3.output⟩)
attribute [local go_sem] eq_nil24
/-- A copy of bytes, owned. -/
theorem clone8_own {v : Value} {s : Nat → Prop} {l : List Oct} {w : World} (hv : RowB v s l w) (hl : l.length ≤ 4096) : Calls Tryz.prog 8 #[v] w fun e w' => ∃ v', e = .returned v' ∧ w'.ownsRow w.heap.size 5 1 v' l.length (l.map fun x => .int .u8 x.toNat) ∧ w.heap.size ≤ w'.heap.size ∧ (Stays w.heap.size w w') := by
  rcases hv with ⟨rfl, rfl⟩ | ⟨b, o, cap, rfl, hc, h0, ⟨cs, t, fr, hb, _⟩, hr⟩
  · refine (clone_nil w).mono fun e w' ⟨he, hw⟩ => ?_
    subst he; subst hw
    exact ⟨_, rfl, ⟨rfl, .inl ⟨rfl, rfl⟩⟩, Nat.le_refl _, fun _ _ => rfl, Calm.refl _⟩
  · have hg : Blk (w.alloc (.cells #[] 5)) w.heap.size 5 #[] := Blk.new w 5 _
    have hr' : ∀ j (h : j < l.length), (w.alloc (.cells #[] 5)).cell? ⟨b, o + j, none⟩ = some (.int .u8 (l[j]'h).toNat) := fun j hj => (cell_same (Below.heap_alloc w _ b (heap_lt hb))).trans (hr j hj)
    go_enter Tryz.func8, Tryz.ntmps8
    go_wp2_with (with_reducible refine wpList_append_owned rfl (.tmp 5) (.tmp 6) rfl hg rfl b o cap l rfl hr' hl ?_; intro v' w2 hs2 hz2 hb2)
    go_ret
    exact ⟨_, rfl, hs2, Nat.le_trans (le_alloc (Nat.le_refl _) _) hz2, fun i hi => (hb2 i hi).trans (heap_alloc_old _ hi), by (repeat with_reducible first | exact .refl _ | assumption | refine .alloc ?_ _ | refine .drew ?_ | refine .b ?_ (by assumption) | refine .k ?_ (by assumption) | refine .e ?_ (by assumption) | refine .s ?_ (by assumption) | refine .trans ?_ (by assumption))⟩
theorem put181 {v : Value} {s : Nat → Prop} {l : List Oct} {w : World} (hv : RowB v s l w) (hlt : ∀ b, s b → b < w.heap.size) (hl : l.length ≤ 4096) (n : Nat) (hn : n < 256) : Calls Tryz.prog 181 #[v, .int .i64 n] w fun e w' => ∃ v', e = .returned (.tuple #[v', .int .i64 0]) ∧ w'.ownsRow w.heap.size 5 1 v' (l ++ num n).length ((l ++ num n).map fun x => .int .u8 x.toNat) ∧ w.heap.size ≤ w'.heap.size ∧ (Stays w.heap.size w w') := by
  have hwrap : IntKind.u64.wrap (n : Int) = n := IntWalk.u64_in _ (by omega)
  have hw8 : IntKind.u8.wrap (n : Int) = n := by rw [IntKind.wrap_u8]; omega
  have hpos : ¬ (n : Int) < 0 := by omega
  by_cases h0 : n = 0
  · subst h0
    go_enter Tryz.func181, Tryz.ntmps181
    go_wp2_with (first
      | (go_at_call 243; refine (len243 0 (by decide) _).mono ?_; rintro e w1 ⟨⟨hz1, hb1, hc1⟩, m, rfl, hm8, hm0⟩; obtain rfl : m = 0 := by omega)
      | (go_at_call 8; refine (clone8_own (hv.stable fun b hb => hb1 b (hlt b hb)) hl).mono ?_; rintro e w2 ⟨v2, rfl, hown, hz2, hb2⟩)
      | (with_reducible refine wpList_append_byte rfl (.tmp 28) (.tmp 34) rfl (owns_alloc hown3 _) (by omega) (le_alloc (Nat.le_trans (le_alloc hz2 _) hz3) _) rfl _ 1 _ rfl (cell_alloc 5 _) ?_; intro v4 w4 hown4 hz4 hb4)
      | (with_reducible refine wpList_append_byte rfl (.tmp 17) (.tmp 20) rfl (owns_alloc hown _) (by omega) (le_alloc hz2 _) rfl _ 1 _ rfl (cell_alloc 5 _) ?_; intro v3 w3 hown3 hz3 hb3)
      | (refine wp_loop_turns 2 ?_; unfold turns))
    go_ret2
    refine ⟨v3, rfl, ?_, Nat.le_trans hz1 (Nat.le_trans (le_alloc hz2 _) hz3), fun i hi => (hb3 i (by omega)).trans ((heap_alloc_old _ (by omega)).trans ((hb2 i (by omega)).trans (hb1 i hi))), by (repeat with_reducible first | exact .refl _ | assumption | refine .alloc ?_ _ | refine .drew ?_ | refine .b ?_ (by assumption) | refine .k ?_ (by assumption) | refine .e ?_ (by assumption) | refine .s ?_ (by assumption) | refine .trans ?_ (by assumption))⟩
    exact owns_base hz1 (by simpa [num] using hown3)
  · go_enter Tryz.func181, Tryz.ntmps181
    go_wp2_with (first
      | (go_at_call 243; refine (len243 n hn _).mono ?_; rintro e w1 ⟨⟨hz1, hb1, hc1⟩, m, rfl, hm8, hm0⟩; have hq1 : IntKind.i64.wrap ((m : Int) + 7) = (m : Int) + 7 := IntWalk.i64_in _ (by omega); have hq2 : ((m : Int) + 7).tdiv 8 = 1 := by rw [Int.tdiv_eq_ediv_of_nonneg (by omega)]; omega)
      | (go_at_call 8; refine (clone8_own (hv.stable fun b hb => hb1 b (hlt b hb)) hl).mono ?_; rintro e w2 ⟨v2, rfl, hown, hz2, hb2⟩)
      | (with_reducible refine wpList_append_byte rfl (.tmp 28) (.tmp 34) rfl (owns_alloc hown3 _) (by omega) (le_alloc (Nat.le_trans (le_alloc hz2 _) hz3) _) rfl _ 1 _ rfl (cell_alloc 5 _) ?_; intro v4 w4 hown4 hz4 hb4)
      | (with_reducible refine wpList_append_byte rfl (.tmp 17) (.tmp 20) rfl (owns_alloc hown _) (by omega) (le_alloc hz2 _) rfl _ 1 _ rfl (cell_alloc 5 _) ?_; intro v3 w3 hown3 hz3 hb3)
      | (refine wp_loop_turns 2 ?_; unfold turns))
    unfold turns
    go_wp2
    go_ret2
    have hz3' := Nat.le_trans (le_alloc hz2 _) hz3
    refine ⟨v4, rfl, ?_, Nat.le_trans hz1 (Nat.le_trans (le_alloc hz3' _) hz4), fun i hi => (hb4 i (by omega)).trans ((heap_alloc_old _ (by omega)).trans ((hb3 i (by omega)).trans ((heap_alloc_old _ (by omega)).trans ((hb2 i (by omega)).trans (hb1 i hi))))), by (repeat with_reducible first | exact .refl _ | assumption | refine .alloc ?_ _ | refine .drew ?_ | refine .b ?_ (by assumption) | refine .k ?_ (by assumption) | refine .e ?_ (by assumption) | refine .s ?_ (by assumption) | refine .trans ?_ (by assumption))⟩
    have hn8 : n % 256 = n := Nat.mod_eq_of_lt hn
    exact owns_base hz1 (by simpa [num, h0, hn8] using hown4)
end Go.Proofs.YtlpbbihjnmikkaaGreatDoor.Exe

namespace Go.Proofs.YtlpbbihjnmikkaaGreatDoor.Exe
set_option linter.unusedSimpArgs false
set_option maxRecDepth 100000
open Go.RowKit

theorem run_append_src {base : Nat} {w : World} {v : Value} {n : Nat} {xs : List Value} (hown : w.ownsRow base 5 1 v n xs) (hn : n ≤ 65536) (hbase : base ≤ w.heap.size) {u : Value} {l : List Oct} (hu : Src u l w) (hl : l.length ≤ 8192) (ty : TypeId) :
    ∃ v' w', (Builtin.append_ #[24, 24] ty #[v, u]).run Tryz.prog w = .ok v' w' ∧ w'.ownsRow base 5 1 v' (n + l.length) (xs ++ l.map fun x => .int .u8 x.toNat) ∧ (w.heap.size ≤ w'.heap.size ∧ Stays base w w') := by
  obtain ⟨i, hi, hz, hsz, hby⟩ := info5
  rcases hu with ⟨rfl, rfl⟩ | ⟨b, o, cap, rfl, hcap, hlt, hr⟩
  · refine ⟨v, w, ?_, by simpa using hown, Nat.le_refl _, fun _ _ => rfl, Calm.refl _⟩
    rcases hown.2 with ⟨rfl, _⟩ | ⟨g, cap', cur, rfl, hg, h3, h4, _⟩
    · simp [Builtin.append_, run_underlying Tryz.underlying24, sizeOf, typeInfo, hi, hsz, Builtin.lenOf, Builtin.firstCells, loadCells, loadCellsFrom, storeCells]
    · simp [Builtin.append_, run_underlying Tryz.underlying24, sizeOf, typeInfo, hi, hsz, h4, Builtin.lenOf, Builtin.firstCells, loadCells, loadCellsFrom, storeCells]
  · obtain ⟨v', w', hrun, h2, h3, h4, h5⟩ := run_append_own_at (P := Tryz.prog) (w := w) base 24 ty 5 i _ 1 1 Tryz.underlying24 hi hz hsz hby rfl (by decide) v n xs hown ⟨b, o, none⟩ l.length cap (l.map fun x => Value.int .u8 x.toNat) (by simp)
      (fun j u hj => by
        have hlt : j < l.length := by
          rcases Nat.lt_or_ge j l.length with h | h
          · exact h
          · rw [List.getElem?_eq_none (by simpa using h)] at hj; cases hj
        rw [add_any, hr j hlt]
        simpa [hlt] using hj)
      (fun u hu => by obtain ⟨x, _, rfl⟩ := List.mem_map.1 hu; rfl) (by simp only [maxLen]; omega) (by omega) hbase
    refine ⟨v', w', hrun, h2, h3.size, fun k hk => h3.block k (by omega) fun e => ?_, h3.os, h3.output⟩
    rcases hown.2 with ⟨rfl, _⟩ | ⟨g, cap', cur, rfl, hg, _⟩
    · cases e
    · cases e
      exact absurd hk (Nat.not_lt.2 hg)
theorem wpList_append_src {ops : Array Oper} {rest : List Oper} {op : Oper} {a : Act} {w : World} {Q : Exit → Act → World → Prop} (hgd : op.guard = none) (s x : Operand) (ho : op.op = .call { callee := .builtin .append, args := #[s, x], argTypes := #[24, 24] })
    {base n : Nat} {v : Value} {xs : List Value} (hown : w.ownsRow base 5 1 v n xs) (hn : n ≤ 65536) (hbase : base ≤ w.heap.size) (hs : a.eval s = v) {u : Value} (hx : a.eval x = u) {l : List Oct} (hu : Src u l w) (hl : l.length ≤ 8192)
    (h : ∀ v' w', w'.ownsRow base 5 1 v' (n + l.length) (xs ++ l.map fun x => .int .u8 x.toNat) → w.heap.size ≤ w'.heap.size → (Stays base w w') → wpList Tryz.prog ops Q rest (a.put op.dst v') w') : wpList Tryz.prog ops Q (op :: rest) a w := by
  refine wpList_plain hgd fun K hK => ?_
  obtain ⟨v', w', hrun, h2, h3, h4⟩ := run_append_src hown hn hbase hu hl op.type
  unfold Oper.wp execOp
  simp only [ho, resolve, invoke, builtin, Sem.run_bind, Sem.run_pure, Result.andThen_ok, List.map_toArray, List.map_cons, List.map_nil, hs, hx]
  rw [hrun]
  exact hK _ _ (h v' w' h2 h3 h4)
/-- Room for bytes. -/
theorem grow169 (n : Nat) (h0 : 0 < n) (hn : n ≤ 65536) (w : World) : Calls Tryz.prog 169 #[.slice none 0 0, .int .i64 n] w fun e w' => ∃ v, e = .returned v ∧ w'.ownsRow w.heap.size 5 1 v 0 [] ∧ w.heap.size ≤ w'.heap.size ∧ (Stays w.heap.size w w') := by
  obtain ⟨i, hi, hz, hsz, hby⟩ := info5
  have hG := grownCap_ge w n 0 5
  have hG2 := grownCap_le_maxLen w n 0 5 (by unfold maxLen; omega)
  have hrz : ∀ ty, (Builtin.append_ #[24, 3] ty #[.slice none 0 0, .int .i64 (n : Int)]).run Tryz.prog w = .ok (.slice (some ⟨w.heap.size, 0, none⟩) n (grownCap w n 0 5)) (w.drew.alloc (.cells (Builtin.zeroCells (Value.int .u8 0).cells n ++ Builtin.zeroCells (Value.int .u8 0).cells (grownCap w n 0 5 - n)) 5)) := fun ty => by
    have h := Lib.run_append_grow_zeros (P := Tryz.prog) w 24 3 ty 5 i _ .i64 .i64 Tryz.underlying24 Tryz.underlying3 hi hz none 0 0 [] (by rw [hsz]; exact run_firstCells_none w.drew 1 0 0 0) n h0 (by omega) (by omega) (by omega) (by rw [hby]; omega) (growslice_fits (need := 0 + n) (old := 0) (bytes := i.bytes) (by omega) (by rw [hby]; omega))
    simpa using h
  have hcs : (Builtin.zeroCells (Value.int .u8 0).cells n ++ Builtin.zeroCells (Value.int .u8 0).cells (grownCap w n 0 5 - n)).size = grownCap w n 0 5 := by
    have hzc : ∀ m, (Builtin.zeroCells (Value.int .u8 0).cells m).size = m := fun m => by simp [Builtin.zeroCells, Value.cells]
    rw [Array.size_append, hzc, hzc]
    omega
  revert hrz hcs
  generalize (Builtin.zeroCells (Value.int .u8 0).cells n ++ Builtin.zeroCells (Value.int .u8 0).cells (grownCap w n 0 5 - n)) = cs
  revert hG hG2
  generalize grownCap w n 0 5 = G
  intro hG hG2 hrz hcs
  have hend : (w.drew.alloc (.cells cs 5)).ownsRow w.heap.size 5 1 (.slice (some ⟨w.heap.size, 0, none⟩) 0 G) 0 [] ∧ w.heap.size ≤ (w.drew.alloc (.cells cs 5)).heap.size ∧ Stays w.heap.size w (w.drew.alloc (.cells cs 5)) := by
    refine ⟨⟨rfl, .inr ⟨w.heap.size, G, cs, rfl, Nat.le_refl _, ?_, Nat.zero_le _, hG2, by omega, by simp⟩⟩, le_alloc (w := w.drew) (Nat.le_refl _) _, fun i hi => heap_alloc_old (w := w.drew) _ hi, Calm.alloc (Calm.drew (Calm.refl w)) _⟩
    show (w.drew.alloc (.cells cs 5)).heap[w.drew.heap.size]? = _
    simp only [World.alloc]
    rw [Array.getElem?_push_size]
  generalize w.drew.alloc (.cells cs 5) = w2 at hend hrz
  have h1 : ¬ ((n : Int) < 0) := by omega
  clear hcs
  have hGi : (G : Int) ≤ 9223372036854775807 := by unfold maxLen at hG2; omega
  go_enter Tryz.func169, Tryz.ntmps169
  go_wp2_with (at_builtin; refine Lib.wpList_append_run _ rfl _ _ _ _ rfl _ _ rfl rfl _ _ (hrz _) ?_)
  go_ret
  exact ⟨_, rfl, hend⟩
end Go.Proofs.YtlpbbihjnmikkaaGreatDoor.Exe

namespace Go.Proofs.YtlpbbihjnmikkaaGreatDoor.Exe
set_option linter.unusedSimpArgs false
set_option maxRecDepth 100000
open Go.RowKit

theorem concat100 {w : World} {b : Nat} {v1 v2 v3 : Value} (hb : w.heap[b]? = some (.cells #[v1, v2, v3] 24 (0, 0))) {l1 l2 l3 : List Oct} (h1 : Src v1 l1 w) (h2 : Src v2 l2 w) (h3 : Src v3 l3 w) (k1 : l1.length ≤ 4096) (k2 : l2.length ≤ 4096) (k3 : l3.length ≤ 4096) (hpos : 0 < l1.length) :
    Calls Tryz.prog 100 #[.slice (some ⟨b, 0, none⟩) 3 3] w fun e w' => ∃ v, e = .returned v ∧ w'.ownsRow w.heap.size 5 1 v (l1 ++ l2 ++ l3).length ((l1 ++ l2 ++ l3).map fun x => .int .u8 x.toNat) ∧ w.heap.size ≤ w'.heap.size ∧ (Stays w.heap.size w w') := by
  obtain ⟨a1, c1, rfl⟩ := h1.slice
  obtain ⟨a2, c2, rfl⟩ := h2.slice
  obtain ⟨a3, c3, rfl⟩ := h3.slice
  have hlt := heap_lt hb
  have hc1 : w.cell? ⟨b, 0, none⟩ = some (.slice a1 l1.length c1) := by unfold World.cell?; rw [hb]; rfl
  have hc2 : w.cell? ⟨b, 1, none⟩ = some (.slice a2 l2.length c2) := by unfold World.cell?; rw [hb]; rfl
  have hc3 : w.cell? ⟨b, 2, none⟩ = some (.slice a3 l3.length c3) := by unfold World.cell?; rw [hb]; rfl
  go_enter Tryz.func100, Tryz.ntmps100
  go_wp2_with (refine wp_loop_turns 4 ?_; unfold turns)
  unfold turns
  go_wp2_with fail
  unfold turns
  go_wp2_with fail
  unfold turns
  go_wp2_with (first
    | (go_at_call 169; refine (grow169 (l1.length + l2.length + l3.length) (by omega) (by omega) w).mono ?_; rintro e w1 ⟨v, rfl, hown, hz1, hb1⟩))
  have d1 := fun k (hk : k = b) => hb1 k (by rw [hk]; exact hlt)
  have e2 := (cell_same (o := 1) (d1 b rfl)).trans hc2
  have e3 := (cell_same (o := 2) (d1 b rfl)).trans hc3
  have e1 := (cell_same (o := 0) (d1 b rfl)).trans hc1
  have g1 := h1.later hz1 hb1
  clear hc1 hc2 hc3 d1
  refine wp_loop_turns 4 ?_
  unfold turns
  go_wp2_with (first
    | (with_reducible refine wpList_append_src (u := .slice a1 l1.length c1) (l := l1) rfl (.tmp 31) (.tmp 32) rfl hown (by omega) hz1 rfl rfl g1 (by omega) ?_; intro v2 w2 hown2 hz2 hb2))
  have hz2' := Nat.le_trans hz1 hz2
  have b2 : Stays w.heap.size w w2 := ⟨fun i hi => (hb2 i hi).trans (hb1 i hi), by (repeat with_reducible first | exact .refl _ | assumption | refine .alloc ?_ _ | refine .drew ?_ | refine .b ?_ (by assumption) | refine .k ?_ (by assumption) | refine .e ?_ (by assumption) | refine .s ?_ (by assumption) | refine .trans ?_ (by assumption))⟩
  have g2 := h2.later hz2' b2
  have e2' := (cell_same (o := 1) (hb2 b hlt)).trans e2
  have e3' := (cell_same (o := 2) (hb2 b hlt)).trans e3
  clear e1 e2 e3
  unfold turns
  go_wp2_with (first
    | (with_reducible refine wpList_append_src (u := .slice a2 l2.length c2) (l := l2) rfl (.tmp 31) (.tmp 32) rfl hown2 (by omega) hz2' rfl rfl g2 (by omega) ?_; intro v3 w3 hown3 hz3 hb3))
  have hz3' := Nat.le_trans hz2' hz3
  have b3 : Stays w.heap.size w w3 := ⟨fun i hi => (hb3 i hi).trans (b2 i hi), by (repeat with_reducible first | exact .refl _ | assumption | refine .alloc ?_ _ | refine .drew ?_ | refine .b ?_ (by assumption) | refine .k ?_ (by assumption) | refine .e ?_ (by assumption) | refine .s ?_ (by assumption) | refine .trans ?_ (by assumption))⟩
  have g3 := h3.later hz3' b3
  have e3'' := (cell_same (o := 2) (hb3 b hlt)).trans e3'
  clear e2' e3'
  unfold turns
  go_wp2_with (first
    | (with_reducible refine wpList_append_src (u := .slice a3 l3.length c3) (l := l3) rfl (.tmp 31) (.tmp 32) rfl hown3 (by omega) hz3' rfl rfl g3 (by omega) ?_; intro v4 w4 hown4 hz4 hb4))
  unfold turns
  go_wp2_with fail
  go_ret
  refine ⟨v4, rfl, ?_, Nat.le_trans hz3' hz4, fun i hi => (hb4 i hi).trans (b3 i hi), by (repeat with_reducible first | exact .refl _ | assumption | refine .alloc ?_ _ | refine .drew ?_ | refine .b ?_ (by assumption) | refine .k ?_ (by assumption) | refine .e ?_ (by assumption) | refine .s ?_ (by assumption) | refine .trans ?_ (by assumption))⟩
  simpa [Nat.add_assoc] using hown4
end Go.Proofs.YtlpbbihjnmikkaaGreatDoor.Exe

namespace Go.Proofs.YtlpbbihjnmikkaaGreatDoor.Exe
set_option linter.unusedSimpArgs false
set_option linter.unusedVariables false
set_option maxRecDepth 100000
open Go.RowKit

theorem rowB_of_owns {w : World} {base n : Nat} {v : Value} {l : List Oct} (h : w.ownsRow base 5 1 v n (l.map fun x => .int .u8 x.toNat)) (hn : n = l.length) : RowB v (fun i => base ≤ i ∧ i < w.heap.size) l w := by
  subst hn
  rcases h.2 with ⟨rfl, h0⟩ | ⟨g, cap, cur, rfl, hg, hh, hc, _, _, ht⟩
  · exact .inl ⟨rfl, List.eq_nil_of_length_eq_zero h0⟩
  · refine .inr ⟨g, 0, cap, rfl, hc, ⟨hg, heap_lt hh⟩, ⟨_, _, _, hh, by decide⟩, fun j hj => ?_⟩
    rw [Nat.zero_add, cell_of_row w g j cur 5 (0, 0) hh]
    have h7 : (cur.toList.take (l.length * 1))[j]? = some (.int .u8 (l[j]'hj).toNat) := by rw [ht]; simp [hj]
    rw [List.getElem?_take_of_lt (by omega)] at h7
    simpa using h7
theorem src_of_cells {w : World} {b : Nat} {cs : Array Value} {t : TypeId} {l : List Oct} (h : w.heap[b]? = some (.cells cs t (0, 0))) (hl : cs = (l.map fun x => Value.int .u8 x.toNat).toArray) (cap : Nat) (hcap : l.length ≤ cap) : Src (.slice (some ⟨b, 0, none⟩) l.length cap) l w := by
  refine .inr ⟨b, 0, cap, rfl, hcap, heap_lt h, fun j hj => ?_⟩
  rw [Nat.zero_add, cell_of_row w b j cs t (0, 0) h, hl]
  simp [hj]
/-- These cells are these bytes. -/
def CellsOf (cs : Array Value) (l : List Oct) : Prop := cs = (l.map fun x => Value.int .u8 x.toNat).toArray
/-- A row of bytes that is owned, hidden. -/
def Owns (w : World) (base : Nat) (v : Value) (l : List Oct) : Prop := w.ownsRow base 5 1 v l.length (l.map fun x => .int .u8 x.toNat)
theorem put181' {v : Value} {s : Nat → Prop} {l : List Oct} {w : World} (hv : RowB v s l w) (hlt : ∀ b, s b → b < w.heap.size) (hl : l.length ≤ 4096) (n : Nat) (hn : n < 256) : Calls Tryz.prog 181 #[v, .int .i64 n] w fun e w' => ∃ v', e = .returned (.tuple #[v', .int .i64 0]) ∧ Owns w' w.heap.size v' (l ++ num n) ∧ Keeps w.heap.size w w' :=
  (put181 hv hlt hl n hn).mono fun e w' ⟨v', h1, h2, h3, h4⟩ => ⟨v', h1, h2, h3, h4.block, h4.calm⟩
theorem put181nil (n : Nat) (hn : n < 256) (w : World) : Calls Tryz.prog 181 #[.slice none 0 0, .int .i64 n] w fun e w' => ∃ v', e = .returned (.tuple #[v', .int .i64 0]) ∧ Owns w' w.heap.size v' (num n) ∧ Keeps w.heap.size w w' :=
  put181' (v := .slice none 0 0) (l := []) (s := fun _ => False) (.inl ⟨rfl, rfl⟩) (fun _ h => h.elim) (by decide) n hn
theorem concat100' {w : World} {b : Nat} {v1 v2 v3 : Value} (hb : w.heap[b]? = some (.cells #[v1, v2, v3] 24 (0, 0))) {l1 l2 l3 : List Oct} (h1 : Src v1 l1 w) (h2 : Src v2 l2 w) (h3 : Src v3 l3 w) (k1 : l1.length ≤ 4096) (k2 : l2.length ≤ 4096) (k3 : l3.length ≤ 4096) (hpos : 0 < l1.length) :
    Calls Tryz.prog 100 #[.slice (some ⟨b, 0, none⟩) 3 3] w fun e w' => ∃ v, e = .returned v ∧ Owns w' w.heap.size v (l1 ++ l2 ++ l3) ∧ Keeps w.heap.size w w' :=
  (concat100 hb h1 h2 h3 k1 k2 k3 hpos).mono fun e w' ⟨v', h1, h2, h3, h4⟩ => ⟨v', h1, h2, h3, h4.block, h4.calm⟩
theorem Owns.rowB {w : World} {base : Nat} {v : Value} {l : List Oct} (h : Owns w base v l) : RowB v (fun i => base ≤ i ∧ i < w.heap.size) l w := rowB_of_owns h rfl
/-- Two small numbers' bytes. -/
def Two (L : List Oct) (i n : Nat) : Prop := L = num i ++ num n
theorem Two.le {L : List Oct} {i n : Nat} (h : Two L i n) : L.length ≤ 4096 ∧ 0 < L.length := by
  have h1 := num_le i
  have h2 := num_le n
  rw [show L = num i ++ num n from h, List.length_append]
  omega
theorem put181own {w : World} {base : Nat} {u : Value} {i : Nat} (h : Owns w base u (num i)) (_ : i < 256) (n : Nat) (hn : n < 256) : Calls Tryz.prog 181 #[u, .int .i64 n] w fun e w' => ∃ v' L, e = .returned (.tuple #[v', .int .i64 0]) ∧ Two L i n ∧ Owns w' w.heap.size v' L ∧ Keeps w.heap.size w w' :=
  (put181' h.rowB (fun _ h => h.2) (by have := num_le i; omega) n hn).mono fun e w' ⟨v', h1, h2, h3⟩ => ⟨v', _, h1, rfl, h2, h3⟩
theorem lt_alloc (w : World) (o : Obj) : w.heap.size < (w.alloc o).heap.size := by simp only [World.alloc, Array.size_push]; omega
theorem heap_new (w : World) (cs : Array Value) (t : TypeId) : (w.alloc (.cells cs t)).heap[w.heap.size]? = some (.cells cs t (0, 0)) := by
  simp only [World.alloc]
  rw [Array.getElem?_push_size]
theorem Owns.slice {w : World} {base : Nat} {v : Value} {l : List Oct} (h : Owns w base v l) : ∃ a c, v = .slice a l.length c := h.rowB.slice
theorem concatNew {w : World} {v1 v2 v3 : Value} {l1 l2 l3 : List Oct} (h1 : Src v1 l1 w) (h2 : Src v2 l2 w) (h3 : Src v3 l3 w) (k1 : l1.length ≤ 4096) (k2 : l2.length ≤ 4096) (k3 : l3.length ≤ 4096) (hpos : 0 < l1.length) :
    Calls Tryz.prog 100 #[.slice (some ⟨w.heap.size, 0, none⟩) 3 3] (w.alloc (.cells #[v1, v2, v3] 24)) fun e w' => ∃ v, e = .returned v ∧ Owns w' w.heap.size v (l1 ++ l2 ++ l3) ∧ Keeps w.heap.size w w' := by
  have hz := le_alloc (Nat.le_refl w.heap.size) (.cells #[v1, v2, v3] 24)
  have hk : ∀ i : Nat, i < w.heap.size → (w.alloc (.cells #[v1, v2, v3] 24)).heap[i]? = w.heap[i]? := fun i hi => heap_alloc_old _ hi
  have hb : (w.alloc (.cells #[v1, v2, v3] 24)).heap[w.heap.size]? = some (.cells #[v1, v2, v3] 24 (0, 0)) := by
    simp only [World.alloc]
    rw [Array.getElem?_push_size]
  refine (concat100' hb (h1.later hz hk) (h2.later hz hk) (h3.later hz hk) k1 k2 k3 hpos).mono fun e w' ⟨v', g1, g2, g3, g4, g5⟩ => ⟨v', g1, owns_base hz g2, Nat.le_trans hz g3, fun i hi => (g4 i (by omega)).trans (hk i hi), (Calm.alloc (Calm.refl w) _).trans g5⟩
def Len12 (l : List Oct) : Prop := l.length = 12
theorem src12 {w : World} {b : Nat} {cs : Array Value} {t : TypeId} {l : List Oct} (h : w.heap[b]? = some (.cells cs t (0, 0))) (hl : CellsOf cs l) (h12 : Len12 l) : Src (.slice (some ⟨b, 0, none⟩) 12 12) l w := by
  have := src_of_cells h hl 12 (by rw [show l.length = 12 from h12]; decide)
  rwa [h12] at this
theorem Keeps.trans {a b : Nat} {w w1 w2 : World} (h : Keeps a w w1) (k : Keeps b w1 w2) (hab : a ≤ b) : Keeps a w w2 := ⟨Nat.le_trans h.1 k.1, fun i hi => (k.2 i (by omega)).trans (h.2 i hi), h.3.trans k.3⟩
theorem Keeps.alloc (w : World) (o : Obj) : Keeps w.heap.size w (w.alloc o) := ⟨le_alloc (Nat.le_refl _) o, fun i hi => heap_alloc_old o hi, Calm.alloc (Calm.refl w) o⟩
set_option maxHeartbeats 400000 in
theorem blob301 {W : World} {u : Value} {s : Nat → Prop} {l : List Oct} (hu : RowB u s l W) (hl : l.length ≤ 4096) (i v : Nat) (hi : i < 256) (hv : v < 256) (ns : List Oct) (hns : Len12 ns) (cs : Array Value) (hcs : CellsOf cs ns) (hsz : cs.size = 12) :
    Calls Tryz.prog 301 #[.int .i64 i, .int .i64 v, .agg cs, u] W fun e w' => ∃ u', e = .returned u' ∧ Owns w' W.heap.size u' (num i ++ num v ++ ns ++ l) ∧ Keeps W.heap.size W w' := by
  obtain ⟨a0, c0, rfl⟩ := hu.slice
  have hS0 : Src (.slice a0 l.length c0) l W := hu.src
  have hx3 : ns.length ≤ 4096 := by rw [show ns.length = 12 from hns]; decide
  go_enter Tryz.func301, Tryz.ntmps301
  go_wp2_with (first
    | (go_at_call 181; (with_reducible refine (put181nil i hi _).mono ?_); rintro e w1 ⟨v1, rfl, hown1, hk1⟩)
    | (go_at_call 181; (with_reducible refine (put181own hown1 hi v hv).mono ?_); rintro e w2 ⟨v2, L, rfl, hL, hown2, hk2⟩; have hx1 := hL.le.1; have hx2 := hL.le.2; have hk12 := hk1.trans hk2 hk1.1; obtain ⟨a2, c2, rfl⟩ := hown2.slice; have hS1 := hown2.rowB.src; have hS2 := src12 ((hk12.2 W.heap.size (lt_alloc W _)).trans (heap_new W cs 240)) hcs hns; have hk := (Keeps.alloc W (.cells cs 240)).trans hk12 (le_alloc (Nat.le_refl _) _); have hS3 := hS0.later hk.1 hk.2)
    | (go_at_call 100; (with_reducible refine (concatNew hS1 hS2 hS3 hx1 hx3 hl hx2).mono ?_); rintro e w3 ⟨v3, rfl, hown3, hk3⟩))
  go_ret
  refine ⟨v3, rfl, ?_, (hk.trans hk3 hk.1)⟩
  rw [← show L = num i ++ num v from hL]
  exact owns_base hk.1 hown3
theorem blob_known (C : Ciph) : KnownOk Tryz.prog (lore C) 301 fBlob := fun args h nx r w v h' nx' r' w' he ν W args' hok hf ha => by
  unfold fBlob at he
  split at he
  · rename_i i v0 nonce s
    obtain ⟨l⟩ := args'
    cases ha with
    | cons ha1 ha => cases ha with
      | cons ha2 ha => cases ha with
        | cons ha3 ha => cases ha with
          | @cons _ u _ _ ha4 ha =>
            cases ha
            cases ha1 with
            | one ha1 => cases ha1 with
              | nat _ hi63 => cases ha2 with
                | one ha2 => cases ha2 with
                  | nat _ hv63 =>
                    obtain ⟨n, r1, w1, e1, hu, h12⟩ := nonceOf_ok he ha3
                    obtain ⟨d, r2, w2, e2, hd⟩ := bytesOf_ok e1 hok ha4
                    obtain ⟨hlen2, _, e3⟩ := upTo_ok (C := C) e2
                    obtain ⟨hb, e4⟩ := chk_ok e3
                    simp only [Bool.and_eq_true, Nat.blt_eq] at hb
                    obtain ⟨hi, hv⟩ := hb
                    subst hu
                    obtain ⟨s0, hrow⟩ := rowB_of hd
                    have h12' : (n.map (BitVec.ofNat 8)).length = 12 := by simpa using h12
                    refine token_ends hok e4 hf ((blob301 hrow hlen2 i v0 hi hv (n.map (BitVec.ofNat 8)) h12' _ rfl (by simpa [octs] using h12)).mono fun e w' ⟨u', he, hown, hk⟩ => ?_)
                    refine ⟨u', fun j => W.heap.size ≤ j ∧ j < w'.heap.size, he, ?_, ⟨hk.2, hk.3⟩, ⟨nobody_no, fun _ h => h.2, ?_⟩, fun j hj => .inl hj.1⟩
                    · obtain ⟨a, c, rfl⟩ := hown.slice
                      rfl
                    · show RowB u' _ (num i ++ num v0 ++ (n.map (BitVec.ofNat 8)).take 12 ++ byt C d) w'
                      rw [List.take_of_length_le (by omega)]
                      exact hown.rowB
  · cases he
end Go.Proofs.YtlpbbihjnmikkaaGreatDoor.Exe
