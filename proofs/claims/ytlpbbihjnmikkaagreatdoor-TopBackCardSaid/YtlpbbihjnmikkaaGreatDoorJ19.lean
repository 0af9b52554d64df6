/-
  Joined: LawK, LawM
-/
import Derived.Test.YtlpbbihjnmikkaaGreatDoorJ18
import Derived.Laws.CopyOwn
import Derived.Lib.Hide
namespace Go.Proofs.YtlpbbihjnmikkaaGreatDoor.Exe
set_option linter.unusedSimpArgs false
set_option linter.unusedVariables false
set_option maxRecDepth 100000
open Go.RowKit

theorem octs_one (l : List Oct) : ∀ v ∈ octs l, v.oneCell' = true := fun v hv => by
  obtain ⟨x, _, rfl⟩ := List.mem_map.1 hv
  rfl
/-- A row reads as these bytes. -/
structure Reads (w : World) (a : Option Addr) (l : List Oct) : Prop where
  out : 0 < l.length → ∃ ad, a = some ad ∧ ∀ (j : Nat) (v : Value), (octs l)[j]? = some v → w.cell? (ad.add j) = some v
theorem Src.reads {w : World} {a : Option Addr} {n c : Nat} {l s : List Oct} (h : Src (.slice a n c) (l ++ s) w) : Reads w a l := ⟨fun h0 => by
  rcases h with ⟨_, h1⟩ | ⟨b, o, c, e, _, _, hr⟩
  · rw [List.append_eq_nil_iff] at h1
    rw [h1.1] at h0
    exact absurd h0 (Nat.lt_irrefl _)
  · cases e
    refine ⟨_, rfl, fun j v hv => ?_⟩
    have hj : j < l.length := by
      rcases Nat.lt_or_ge j l.length with h' | h'
      · exact h'
      · rw [List.getElem?_eq_none (by simpa [octs] using h')] at hv; cases hv
    rw [add_any, hr j (by simp; omega), ← hv]
    simp [octs, hj, List.getElem_append_left hj]⟩
/-- A block's cells. -/
def Cells (w : World) (g : Nat) (cs : Array Value) (t : TypeId) : Prop := w.heap[g]? = some (.cells cs t (0, 0))
/-- Bytes laid over cells. -/
def laidOver (cur : Array Value) (off : Nat) (l : List Oct) : Array Value := (cur.toList.take off ++ (octs l ++ cur.toList.drop (off + l.length))).toArray
theorem octs_len (l : List Oct) : (octs l).length = l.length := by simp [octs]
theorem laidOver_size {cur : Array Value} {off : Nat} {l : List Oct} (h : off + l.length ≤ cur.size) : (laidOver cur off l).size = cur.size := by
  simp [laidOver, octs_len]
  omega
theorem wpList_copy_src {w : World} {ops : Array Oper} {rest : List Oper} {o : Oper} {a : Act} {Q : Exit → Act → World → Prop} (hgd : o.guard = none) (d s : Operand) (ho : o.op = .call { callee := .builtin .copy, args := #[d, s], argTypes := #[24, 24] })
    {g off dLen dCap sLen sCap : Nat} {sp : Option Addr} (hd : a.eval d = .slice (some ⟨g, off, none⟩) dLen dCap) (hs : a.eval s = .slice sp sLen sCap) {cur : Array Value} {t : TypeId} (hg : Cells w g cur t) {l : List Oct} (hr : Reads w sp l) (hn : l.length = Nat.min sLen dLen) (hpos : 0 < l.length) (hfit : off + l.length ≤ cur.size)
    (h : ∀ w', Cells w' g (laidOver cur off l) t → w'.heap.size = w.heap.size → Else g w w' → wpList Tryz.prog ops Q rest (a.put o.dst (.int .i64 l.length)) w') : wpList Tryz.prog ops Q (o :: rest) a w := by
  obtain ⟨ad, rfl, hsrc⟩ := hr.out hpos
  refine wpList_copy_own hgd d s 24 24 ho 5 Tryz.underlying24 (by kernel_rfl) g off dLen dCap ad sLen sCap hd hs cur t hg (octs l) (by rw [octs_len]; exact hn) hsrc (by rw [octs_len]; exact hfit) (octs_one l) ?_
  rw [octs_len]
  exact h _ (setRow_heap w g _ _ t _ hg) (by simp) ⟨fun i hi => setRow_other w g i _ hi, rfl, rfl⟩
theorem step_load {ops : Array Oper} {o : Oper} {a : Act} {w : World} {Q : Exit → Act → World → Prop} {K : Act → World → Prop} {E : Prop} (ty : TypeId) {d : TypeDesc} (hd : (match d with | .struct _ | .array _ _ => true | _ => false) = true) (hu : Tryz.prog.underlying ty = some d) (hgd : o.guard = none) (x : Operand) (ho : o.op = .load ty x) {g : Nat} {cs : Array Value} {t : TypeId}
    (hx : a.eval x = .pointer (some ⟨g, 0, none⟩)) (hg : Cells w g cs t) (hi : (Tryz.prog.info? ty).map (·.size) = some cs.size) (h : K (a.put o.dst (.agg cs)) w) :
    if Region.wanted o (yielded ops a.tmps) = true then Oper.wp Tryz.prog o a w K Q else E := by
  have hw : Region.wanted o (yielded ops a.tmps) = true := by simp [Region.wanted, hgd]
  rw [if_pos hw]
  unfold Oper.wp execOp
  simp only [ho, hx, Instr.loadAt, Instr.sureAddr, Sem.run_bind, Sem.run_pure, Result.andThen_ok]
  rw [run_loadVar_row w g t ty cs (0, 0) d hg hu (by cases d <;> first | rfl | cases hd) hi]
  exact h
theorem step_storeA {ops : Array Oper} {o : Oper} {a : Act} {w : World} {Q : Exit → Act → World → Prop} {K : Act → World → Prop} {E : Prop} (ty : TypeId) (hgd : o.guard = none) (x y : Operand) (ho : o.op = .store ty x y) {g : Nat} {old cs : Array Value} {t : TypeId}
    (hx : a.eval x = .pointer (some ⟨g, 0, none⟩)) (hy : a.eval y = .agg cs) (hg : Cells w g old t) (hi : (Tryz.prog.info? ty).map (·.size) = some cs.size) (hs : old.size = cs.size) (h1 : cs.all (·.oneCell') = true) (h : K (a.put o.dst undef) (w.setRow g cs)) :
    if Region.wanted o (yielded ops a.tmps) = true then Oper.wp Tryz.prog o a w K Q else E := by
  have hw : Region.wanted o (yielded ops a.tmps) = true := by simp [Region.wanted, hgd]
  rw [if_pos hw]
  unfold Oper.wp execOp
  simp only [ho, hx, hy, Instr.storeAt, Instr.sureAddr, Sem.run_bind, Sem.run_pure, Result.andThen_ok]
  rw [run_storeVar_row w g t ty old cs hg hi hs h1]
  exact h
theorem results_read {fn : Func} (h : fn.results = #[.tmp 2, .tmp 3, .cell 4 240, .tmp 5, .tmp 6]) (tmps : Array Value) (w : World) {g : Nat} {A : Array Value} (hp : tmps.getD 4 undef = .pointer (some ⟨g, 0, none⟩)) (hld : (loadVar 240 ⟨g, 0, none⟩).run Tryz.prog w = .ok (.agg A) w) :
    (results fn tmps).run Tryz.prog w = .ok (.tuple #[tmps.getD 2 undef, tmps.getD 3 undef, .agg A, tmps.getD 5 undef, tmps.getD 6 undef]) w := by
  have hp' : tmps[4]?.getD undef = .pointer (some ⟨g, 0, none⟩) := by simpa using hp
  simp [results, h, asAddr, hp', hld]
def zeros12 : Array Value := #[.int .u8 0, .int .u8 0, .int .u8 0, .int .u8 0, .int .u8 0, .int .u8 0, .int .u8 0, .int .u8 0, .int .u8 0, .int .u8 0, .int .u8 0, .int .u8 0]
set_option maxHeartbeats 400000 in
theorem read302 {w : World} {u : Value} {i v : Nat} (hi : i < 256) (hv : v < 256) (hi0 : 0 < i) (hv0 : 0 < v) {ns s : List Oct} (hns : ns.length = 12) (hs : 16 ≤ s.length) (hs2 : s.length ≤ 80) (hu : Src u (num i ++ (num v ++ (ns ++ s))) w) :
    Calls Tryz.prog 302 #[u] w fun e w' => ∃ v', e = .returned (.tuple #[.int .i64 i, .int .i64 v, .agg (octs ns).toArray, v', .int .i64 0]) ∧ (∃ b, RowB v' (fun i => i = b) s w' ∧ w.heap.size ≤ b) ∧ Keeps w.heap.size w w' := by
  have hl1 : (num v ++ (ns ++ s)).length ≤ 4096 := by have := num_le v; simp; omega
  have hl2 : (ns ++ s).length ≤ 4096 := by simp; omega
  have hl3 : (ns ++ s).length = 12 + s.length := by simp [hns]
  have hlen : ((ns ++ s).length : Int) = 12 + s.length := by omega
  have hz : zeros12.size = 12 := rfl
  have hu1 : ∀ o, Src u (num i ++ (num v ++ (ns ++ s))) (w.alloc o) := fun o => hu.later (Keeps.alloc w o).1 (Keeps.alloc w o).2
  have hcn : ns.length = Nat.min (12 + s.length) 12 := by rw [hns]; show 12 = min _ _; omega
  have hns0 : 0 < ns.length := by omega
  have hfit : 0 + ns.length ≤ zeros12.size := by rw [hns]; decide
  go_enter Tryz.func302, Tryz.ntmps302
  go_wp2_with (first
    | (go_at_call 132; (with_reducible refine (take132 hi hl1 (hu1 _)).mono ?_); rintro e w1 ⟨v1, rfl, o1, k1⟩; have hB1 : w1.heap[w.heap.size]? = some (.cells zeros12 240 (0, 0)) := (k1.2 _ (lt_alloc w _)).trans (heap_new w _ _); have k01 := (Keeps.alloc w _).trans k1 (Keeps.alloc w _).1)
    | (go_at_call 132; (with_reducible refine (take132 hv hl2 o1.rowB.src).mono ?_); rintro e w2 ⟨v2, rfl, o2, k2⟩; have hB2 := (k2.2 _ (heap_lt hB1)).trans hB1; have k12 := k01.trans k2 k01.1; have hgt : w.heap.size < w1.heap.size := heap_lt hB1; obtain ⟨a2, c2, rfl⟩ := o2.slice; rw [hl3] at o2 ⊢; have hP2 := o2.rowB.src.reads; have hB3 : Cells w2 w.heap.size zeros12 240 := hB2)
    | (with_reducible refine wpList_copy_src rfl (.tmp 44) (.tmp 45) rfl rfl rfl hB3 hP2 hcn hns0 hfit ?_; intro w3 hg3 hz3 hb3))
  have hC : laidOver zeros12 0 ns = (octs ns).toArray := by
    unfold laidOver
    rw [List.take_zero, List.nil_append, Nat.zero_add, List.drop_of_length_le (by rw [hns]; decide), List.append_nil]
  rw [hC] at hg3
  have hsz : (octs ns).toArray.size = 12 := by simp [octs, hns]
  have hi12 : (Tryz.prog.info? 240).map (·.size) = some (octs ns).toArray.size := by rw [hsz]; kernel_rfl
  have hall : (octs ns).toArray.all (·.oneCell') = true := by
    rw [Array.all_eq_true_iff_forall_mem]
    exact fun v hv => octs_one ns v (by simpa using hv)
  obtain ⟨b2, f2, ea, hcap2, hblk, hrd⟩ : ∃ b2 f2, a2 = some ⟨b2, f2, none⟩ ∧ 12 + s.length ≤ c2 ∧ (w1.heap.size ≤ b2 ∧ ∃ cs t fr, w2.heap[b2]? = some (.cells cs t fr) ∧ t ≠ 424) ∧ ∀ j (h : j < s.length), w2.cell? ⟨b2, f2 + 12 + j, none⟩ = some (.int .u8 (s[j]'h).toNat) := by
    rcases o2.rowB with ⟨_, h0⟩ | ⟨b, o, cap, e, hc, h0, hb, hr⟩
    · rw [List.append_eq_nil_iff] at h0
      rw [h0.1] at hns
      cases hns
    · injection e with e1 e2 e3
      subst e1 e3
      refine ⟨b, o, rfl, by omega, ⟨h0.1, hb⟩, fun j hj => ?_⟩
      have := hr (12 + j) (by omega)
      rw [Nat.add_assoc, this]
      have e1 : (ns ++ s)[12 + j]'(by omega) = s[j] := by
        rw [List.getElem_append_right (by omega)]
        congr 1
        omega
      rw [e1]
  subst ea
  have hne12 : ¬ c2 = 12 := by omega
  have hle12 : (12 : Int) ≤ 12 + (s.length : Int) := by omega
  generalize hA : (octs ns).toArray = A at hg3 hsz hi12 hall ⊢
  refine wp_region_begin (by kernel_rfl) ?_
  have hg4 : Cells w3.drew w.heap.size A 240 := hg3
  have hb4 : Else w.heap.size w2 w3.drew := ⟨hb3.block, hb3.calm⟩
  have hz4 : w3.drew.heap.size = w2.heap.size := hz3
  generalize w3.drew = w4 at hg4 hb4 hz4 ⊢
  refine wpAny_take (i := 0) (oi := ?_) (v := ?_) ?_ (by kernel_rfl) (by kernel_rfl) (by kernel_rfl) ?_ ?_ ?_
  rotate_left 2
  · simp only [List.getElem?_toArray, List.getElem?_cons_zero, List.getElem?_cons_succ]
    with_reducible rfl
  · exact fun _ _ _ q => q
  · (refine Or.inl ⟨?_, ?_⟩; rfl; intro w; go_simp; with_reducible rfl)
  simp only [Act.put, List.setIfInBounds_toArray, List.set_cons_zero, List.set_cons_succ]
  refine wpAny_take (i := 1) (oi := ?_) (v := ?_) ?_ (by kernel_rfl) (by kernel_rfl) (by kernel_rfl) ?_ ?_ ?_
  rotate_left 2
  · simp only [List.getElem?_toArray, List.getElem?_cons_zero, List.getElem?_cons_succ]
    with_reducible rfl
  · exact fun _ _ _ q => q
  · (refine Or.inl ⟨?_, ?_⟩; rfl; intro w; go_simp; with_reducible rfl)
  simp only [Act.put, List.setIfInBounds_toArray, List.set_cons_zero, List.set_cons_succ]
  refine wpAny_take (i := 3) (oi := ?_) (v := ?_) ?_ (by kernel_rfl) (by kernel_rfl) (by kernel_rfl) ?_ ?_ ?_
  rotate_left 2
  · simp only [List.getElem?_toArray, List.getElem?_cons_zero, List.getElem?_cons_succ]
    with_reducible rfl
  · exact fun _ _ _ q => q
  · (refine Or.inl ⟨?_, ?_⟩; rfl; intro w; go_simp; with_reducible rfl)
  simp only [Act.put, List.setIfInBounds_toArray, List.set_cons_zero, List.set_cons_succ]
  refine wpAny_take (i := 4) (oi := ?_) (v := ?_) ?_ (by kernel_rfl) (by kernel_rfl) (by kernel_rfl) ?_ ?_ ?_
  rotate_left 2
  · simp only [List.getElem?_toArray, List.getElem?_cons_zero, List.getElem?_cons_succ]
    with_reducible rfl
  · exact fun _ _ _ q => q
  · (refine Or.inl ⟨?_, ?_⟩; rfl; intro w; go_simp; with_reducible rfl)
  simp only [Act.put, List.setIfInBounds_toArray, List.set_cons_zero, List.set_cons_succ]
  refine wpAny_take (i := 5) (oi := ?_) (v := ?_) ?_ (by kernel_rfl) (by kernel_rfl) (by kernel_rfl) ?_ ?_ ?_
  rotate_left 2
  · simp only [List.getElem?_toArray, List.getElem?_cons_zero, List.getElem?_cons_succ]
    with_reducible rfl
  · exact fun _ _ _ q => q
  · (refine Or.inl ⟨?_, ?_⟩; rfl; intro w; go_simp; with_reducible rfl)
  simp only [Act.put, List.setIfInBounds_toArray, List.set_cons_zero, List.set_cons_succ]
  refine wpAny_take (i := 6) (oi := ?_) (v := ?_) ?_ (by kernel_rfl) (by kernel_rfl) (by kernel_rfl) ?_ ?_ ?_
  rotate_left 2
  · simp only [List.getElem?_toArray, List.getElem?_cons_zero, List.getElem?_cons_succ]
    with_reducible rfl
  · exact fun _ _ _ q => q
  · (refine Or.inl ⟨?_, ?_⟩; rfl; intro w; go_simp; with_reducible rfl)
  simp only [Act.put, List.setIfInBounds_toArray, List.set_cons_zero, List.set_cons_succ]
  refine wpAny_ready (rs := [2]) (by kernel_rfl) (by simp) ?_
  refine AllReady.cons (o := ?_) ?_ (fun K hK => ?_) AllReady.nil
  rotate_left 1
  · simp only [List.getElem?_toArray, List.getElem?_cons_zero, List.getElem?_cons_succ]
    with_reducible rfl
  refine step_load 240 rfl Tryz.underlying240 rfl (.tmp 4) rfl rfl hg4 hi12 ?_
  refine hK _ _ ?_
  clear hK K
  refine wpAny_ready (rs := [7]) (by kernel_rfl) (by simp) ?_
  refine AllReady.cons (o := ?_) ?_ (fun K hK => ?_) AllReady.nil
  rotate_left 1
  · simp only [List.getElem?_toArray, List.getElem?_cons_zero, List.getElem?_cons_succ]
    with_reducible rfl
  refine step_storeA 240 rfl (.tmp 4) (.tmp 49) rfl rfl rfl hg4 hi12 rfl hall ?_
  refine hK _ _ ?_
  clear hK K
  refine wpAny_ready (rs := [8]) (by kernel_rfl) (by simp) ?_
  refine AllReady.cons (o := ?_) ?_ (fun K hK => ?_) AllReady.nil
  rotate_left 1
  · simp only [List.getElem?_toArray, List.getElem?_cons_zero, List.getElem?_cons_succ]
    with_reducible rfl
  go_simp
  refine hK _ _ ?_
  clear hK K
  refine wpAny_ready (rs := [9]) (by kernel_rfl) (by simp) ?_
  refine AllReady.cons (o := ?_) ?_ (fun K hK => ?_) AllReady.nil
  rotate_left 1
  · simp only [List.getElem?_toArray, List.getElem?_cons_zero, List.getElem?_cons_succ]
    with_reducible rfl
  go_simp
  refine hK _ _ ?_
  clear hK K
  refine wpAny_done (by kernel_rfl) ?_ _
  have hg5 : Cells (w4.setRow w.heap.size A) w.heap.size A 240 := setRow_heap w4 _ _ A 240 _ hg4
  have hb5 : Else w.heap.size w2 (w4.setRow w.heap.size A) := ⟨fun i hi => (setRow_other w4 _ i A hi).trans (hb4 i hi), hb4.calm.trans ⟨rfl, rfl⟩⟩
  have hz5 : (w4.setRow w.heap.size A).heap.size = w2.heap.size := by rw [setRow_size]; exact hz4
  generalize w4.setRow w.heap.size A = w5 at hg5 hb5 hz5 ⊢
  have hld : (loadVar 240 ⟨w.heap.size, 0, none⟩).run Tryz.prog w5 = .ok (.agg A) w5 := run_loadVar_row w5 _ 240 240 A (0, 0) _ hg5 Tryz.underlying240 rfl hi12
  go_wp2_with fail
  refine bodyPost_ret (results_read rfl _ _ rfl hld) rfl ?_
  refine ⟨_, by subst hA; rfl, ⟨b2, .inr ⟨b2, f2 + 12, c2 - 12, rfl, by omega, rfl, ?_, fun j hj => ?_⟩, by omega⟩, by have := k12.1; omega, fun i hi => (hb5 i (by omega)).trans (k12.2 i hi), by (repeat with_reducible first | exact .refl _ | assumption | refine .alloc ?_ _ | refine .drew ?_ | refine .b ?_ (by assumption) | refine .k ?_ (by assumption) | refine .e ?_ (by assumption) | refine .s ?_ (by assumption) | refine .trans ?_ (by assumption))⟩
  · obtain ⟨_, cs, t, fr, hb, ht⟩ := hblk
    exact ⟨cs, t, fr, (hb5 b2 (by omega)).trans hb, ht⟩
  · rw [← hrd j hj]
    exact cell_same (hb5 b2 (by omega))
theorem small_rep {ν : Nu} : ∀ {n : List Nat}, bytesN n = true → RepL ν (n.map fun x => .flat (.int .u8 (.ofNat x))) (octs (n.map (BitVec.ofNat 8)))
  | [], _ => .nil
  | x :: n, h => by
    unfold bytesN at h
    rw [Bool.and_eq_true] at h
    have hx : x < 256 := by simpa [Nat.blt_eq] using h.1
    refine .cons ?_ (small_rep h.2)
    have : (Value.int .u8 (.ofNat x)) = .int .u8 (BitVec.ofNat 8 x).toNat := by
      rw [BitVec.toNat_ofNat, Nat.mod_eq_of_lt hx]
      rfl
    show RepC ν (.flat (.int .u8 (.ofNat x))) (.int .u8 (BitVec.ofNat 8 x).toNat)
    rw [← this]
    exact .flat _ rfl
theorem read_known (C : Ciph) : KnownOk Tryz.prog (lore C) 302 fRead := fun args h nx r w v h' nx' r' w' he ν W args' hok hf ha => by
  unfold fRead at he
  split at he
  · rename_i s
    obtain ⟨l⟩ := args'
    cases ha with
    | @cons _ u _ _ ha1 ha =>
      cases ha
      obtain ⟨d, r1, w1, e1, hd⟩ := bytesOf_src he hok ha1
      split at e1
      · rename_i i v0 n kw m b t
        obtain ⟨hlen, ⟨mt, hmt, _⟩, e2⟩ := upTo_ok (C := C) e1
        obtain ⟨hb, e3⟩ := chk_ok e2
        simp only [Bool.and_eq_true, Nat.blt_eq] at hb
        obtain ⟨⟨⟨⟨⟨hi0, hi⟩, hv0⟩, hv⟩, hn⟩, hsm⟩ := hb
        have hn := Nat.eq_of_beq_eq_true hn
        rw [len_eq] at hn
        obtain ⟨v1, h1, n1, r2, w2, e4, e5⟩ := bind_ok e3
        obtain ⟨hk3, rfl, rfl, rfl⟩ := tokS_ok e4
        cases e5
        have hk := hf nx (Nat.le_refl _) (Nat.lt_succ_self _)
        have hsl : (byt C (.sealed kw m b t)).length = (byt C t).length + 16 := by simp [byt, C.sealed_len]
        have hns : (n.map (BitVec.ofNat 8)).length = 12 := by simpa using hn
        refine (read302 hi hv hi0 hv0 (ns := n.map (BitVec.ofNat 8)) (s := byt C (.sealed kw m b t)) hns (by omega) (by omega) (by
          have : byt C (.blob i v0 n (.sealed kw m b t)) = num i ++ (num v0 ++ (n.map (BitVec.ofNat 8) ++ byt C (.sealed kw m b t))) := by
            rw [show byt C (.blob i v0 n (.sealed kw m b t)) = num i ++ num v0 ++ (n.map (BitVec.ofNat 8)).take 12 ++ byt C (.sealed kw m b t) from rfl, List.take_of_length_le (by omega)]
            simp only [List.append_assoc]
          rw [← this]
          exact hd)).mono fun e W' ⟨v', g1, ⟨b2, g2, g3⟩, g4⟩ => ?_
        have hone : v'.oneCell' = true := by
          obtain ⟨a, c, rfl⟩ := g2.slice
          rfl
        have hlt : ∀ b', b' = b2 → (0 < (byt C (.sealed kw m b t)).length) → b' < W'.heap.size := fun b' e _ => by
          subst e
          rcases g2 with ⟨_, h0⟩ | ⟨b3, o, cap, _, _, rfl, ⟨cs, t, fr, hb, _⟩, _⟩
          · rw [h0] at hsl; simp at hsl
          · exact heap_lt hb
        refine ⟨_, _, g1, Ext.set hk _, hok.token g4.stays hk hk3 (s := fun j => j = b2) (u := v') ⟨nobody_no, fun b' e => hlt b' e (by omega), g2⟩ (fun j hj => .inl (by omega)), .tup (.cons (.one (.nat i (by omega))) (.cons (.one (.nat v0 (by omega))) (.cons (.agg ?_ (by simpa using hn)) (.cons (.one (.tok (Nu.set_same _ _ _) hone)) (.cons (.one (.nat 0 (by decide))) .nil)))))⟩
        exact small_rep hsm
      · cases e1
  · cases he
end Go.Proofs.YtlpbbihjnmikkaaGreatDoor.Exe

namespace Go.Proofs.YtlpbbihjnmikkaaGreatDoor.Exe
set_option linter.unusedSimpArgs false
set_option linter.unusedVariables false
set_option maxRecDepth 100000
open Go.RowKit

theorem run_zeros_own {base : Nat} {w : World} {v : Value} {n : Nat} {xs : List Value} (hown : w.ownsRow base 5 1 v n xs) (hn : n ≤ 65536) (hbase : base ≤ w.heap.size) (k : Nat) (hk : k ≤ 4096) (ty : TypeId) :
    ∃ v' w', (Builtin.append_ #[24, 3] ty #[v, .int .i64 (k : Int)]).run Tryz.prog w = .ok v' w' ∧ w'.ownsRow base 5 1 v' (n + k) (xs ++ List.replicate k (.int .u8 0)) ∧ w.heap.size ≤ w'.heap.size ∧ Stays base w w' := by
  obtain ⟨i, hi, hz, hsz, hby⟩ := info5
  have hw : IntKind.i64.wrap (k : Int) = k := by rw [IntKind.wrap_i64]; omega
  have hz1 : (Value.int .u8 0).cells.size = 1 := rfl
  have hzc : ∀ m, (Builtin.zeroCells (Value.int .u8 0).cells m).toList = List.replicate m (.int .u8 0) := fun m => by
    refine List.ext_getElem (by simp [Builtin.zeroCells, Value.cells]) fun j h1 h2 => ?_
    simp [Builtin.zeroCells, Value.cells, Nat.mod_one]
  have hlen : (xs ++ List.replicate k (Value.int .u8 0)).length = (n + k) * 1 := by rw [List.length_append, hown.1, List.length_replicate]; omega
  by_cases h0 : k = 0
  · subst h0
    have hw0 : IntKind.i64.wrap 0 = 0 := by decide
    refine ⟨v, w, ?_, by simpa using hown, Nat.le_refl _, fun _ _ => rfl, Calm.refl _⟩
    rcases hown.2 with ⟨rfl, rfl⟩ | ⟨g, cap', cur, rfl, hg, h3, h4, _⟩
    · simp [Builtin.append_, run_underlying Tryz.underlying24, run_underlying Tryz.underlying3, sizeOf, typeInfo, hi, hsz, hw0, Builtin.lenOf, asInt, asIntOf, storeCells]
    · simp [Builtin.append_, run_underlying Tryz.underlying24, run_underlying Tryz.underlying3, sizeOf, typeInfo, hi, hsz, hw0, h4, Builtin.lenOf, asInt, asIntOf, storeCells]
  · have grow : ∀ (A : Option Addr) (cap : Nat), v = .slice A n cap → cap < n + k → (Builtin.firstCells i.size n (.slice A n cap)).run Tryz.prog w.drew = .ok xs.toArray w.drew →
        ∃ v' w', (Builtin.append_ #[24, 3] ty #[v, .int .i64 (k : Int)]).run Tryz.prog w = .ok v' w' ∧ w'.ownsRow base 5 1 v' (n + k) (xs ++ List.replicate k (.int .u8 0)) ∧ w.heap.size ≤ w'.heap.size ∧ Stays base w w' := fun A cap hv hc hold => by
      have hG := grownCap_ge w (n + k) cap 5
      have hG2 := grownCap_le_maxLen w (n + k) cap 5 (by unfold maxLen; omega)
      have hr := Lib.run_append_grow_zeros (P := Tryz.prog) w 24 3 ty 5 i _ .i64 .i64 Tryz.underlying24 Tryz.underlying3 hi hz A n cap xs hold k (by omega) (by omega) hc (by omega) (by rw [hby]; omega) (growslice_fits (need := n + k) (old := cap) (bytes := i.bytes) (by omega) (by rw [hby]; omega))
      rw [hv]
      refine ⟨_, _, hr, ⟨hlen, .inr ⟨w.heap.size, _, _, rfl, hbase, heap_alloc_new w.drew _, hG, hG2, ?_, ?_⟩⟩, by simp, fun j hj => heap_alloc_old (w := w.drew) _ (by show j < w.heap.size; omega), Calm.alloc (Calm.drew (Calm.refl _)) _⟩
      · have hxs : xs.length = n := by rw [hown.1]; omega
        simp only [Array.size_append, List.size_toArray, size_zeroCells, hz1, hxs]
        omega
      · simp only [Array.toList_append, hzc, List.append_assoc]
        rw [← List.append_assoc, ← hlen]
        exact List.take_left
    rcases hown.2 with ⟨rfl, rfl⟩ | ⟨g, cap, cur, rfl, hbg, hg, hnc, hcm, hcs, htake⟩
    · have hx : xs = [] := List.eq_nil_of_length_eq_zero (by simpa using hown.1)
      subst hx
      exact grow none 0 rfl (by omega) (by rw [hsz]; exact run_firstCells_none w.drew 1 0 0 0)
    · by_cases hroom : n + k ≤ cap
      · have hfit : n * 1 + (List.replicate k (Value.int .u8 0)).length ≤ cur.size := by rw [List.length_replicate, hcs]; omega
        have hst := run_storeCells_at Tryz.prog g (n * 1) 5 (List.replicate k (Value.int .u8 0)) 0 cur w hg (by simpa using hfit) (fun u hu => by rw [List.eq_of_mem_replicate hu]; rfl)
        simp only [Nat.add_zero, Nat.mul_one] at hst
        obtain ⟨B, hB⟩ : ∃ B : Array Value, B = (cur.toList.take n ++ List.replicate k (Value.int .u8 0) ++ cur.toList.drop (n + k)).toArray := ⟨_, rfl⟩
        refine ⟨.slice (some ⟨g, 0, none⟩) (n + k) cap, w.setRow g B, ?_, ⟨hlen, .inr ⟨g, cap, B, rfl, hbg, setRow_heap w g _ B 5 _ hg, hroom, hcm, ?_, ?_⟩⟩, by simp, ⟨fun j hj => setRow_other w g j B (by omega), rfl, rfl⟩⟩
        · have hneg : ¬ ((k : Int) < 0) := by omega
          have h48i : ¬ (281474976710656 < (k : Int) * (i.bytes : Int)) := by rw [hby]; omega
          subst hB
          simp [Builtin.append_, run_underlying Tryz.underlying24, run_underlying Tryz.underlying3, sizeOf, typeInfo, hi, hsz, hz, hw, hroom, Builtin.lenOf, asInt, asIntOf, zeroValue, h0, hneg, h48i, Addr.add_lit, hzc, hst]
        · subst hB
          simp
          omega
        · subst hB
          simp only [List.append_assoc]
          rw [← htake, Nat.mul_one, Nat.mul_one, ← List.append_assoc]
          have : (cur.toList.take n ++ List.replicate k (Value.int .u8 0)).length = n + k := by simp; omega
          rw [← this]
          exact List.take_left
      · refine grow _ cap rfl (by omega) ?_
        rw [hsz]
        have holds : ∀ j u, xs[j]? = some u → w.cell? ((⟨g, 0, none⟩ : Addr).add j) = some u := hown.cells (g := g) rfl
        exact run_firstCells_some (P := Tryz.prog) w.drew 1 n ⟨g, 0, none⟩ n cap xs hown.1 holds
theorem owns_of {w : World} {base : Nat} {v : Value} {n : Nat} {xs : List Value} {l : List Oct} (h : w.ownsRow base 5 1 v n xs) (hn : n = l.length) (hx : xs = octs l) : Owns w base v l := by
  subst hn hx
  exact h
/-- Noughts laid behind. -/
theorem wpList_zeros {ops : Array Oper} {rest : List Oper} {op : Oper} {a : Act} {w : World} {Q : Exit → Act → World → Prop} (hgd : op.guard = none) (s x : Operand) (ho : op.op = .call { callee := .builtin .append, args := #[s, x], argTypes := #[24, 3] })
    {base : Nat} {v : Value} {l : List Oct} (hown : Owns w base v l) (hn : l.length ≤ 8192) (hbase : base ≤ w.heap.size) (hs : a.eval s = v) {m : Int} (hx : a.eval x = .int .i64 m) {k : Nat} (hm : m = (k : Int)) (hk : k ≤ 64)
    (h : ∀ v' w', Owns w' base v' (l ++ List.replicate k 0) → Keeps base w w' → wpList Tryz.prog ops Q rest (a.put op.dst v') w') : wpList Tryz.prog ops Q (op :: rest) a w := by
  refine wpList_plain hgd fun K hK => ?_
  subst hm
  obtain ⟨v', w', hrun, h2, h3, h4⟩ := run_zeros_own hown (by omega) hbase k (by omega) op.type
  unfold Oper.wp execOp
  simp only [ho, resolve, invoke, builtin, Sem.run_bind, Sem.run_pure, Result.andThen_ok, List.map_toArray, List.map_cons, List.map_nil, hs, hx]
  rw [hrun]
  exact hK _ _ (h v' w' (owns_of h2 (by simp) (by simp [octs])) ⟨h3, h4.block, h4.calm⟩)
/-- Bytes laid behind. -/
theorem wpList_behind {ops : Array Oper} {rest : List Oper} {op : Oper} {a : Act} {w : World} {Q : Exit → Act → World → Prop} (hgd : op.guard = none) (s x : Operand) (ho : op.op = .call { callee := .builtin .append, args := #[s, x], argTypes := #[24, 24] })
    {base : Nat} {v : Value} {l : List Oct} (hown : Owns w base v l) (hn : l.length ≤ 8192) (hbase : base ≤ w.heap.size) (hs : a.eval s = v) {u : Value} (hx : a.eval x = u) {k : List Oct} (hu : Src u k w) (hk : k.length ≤ 8192)
    (h : ∀ v' w', Owns w' base v' (l ++ k) → Keeps base w w' → wpList Tryz.prog ops Q rest (a.put op.dst v') w') : wpList Tryz.prog ops Q (op :: rest) a w := by
  refine wpList_append_src hgd s x ho hown (by omega) hbase hs hx hu hk fun v' w' h2 h3 h4 => h v' w' (owns_of h2 (by simp) (by simp [octs])) ⟨h3, h4.block, h4.calm⟩
/-- One byte laid behind. -/
theorem wpList_byte {ops : Array Oper} {rest : List Oper} {op : Oper} {a : Act} {w : World} {Q : Exit → Act → World → Prop} (hgd : op.guard = none) (s x : Operand) (ho : op.op = .call { callee := .builtin .append, args := #[s, x], argTypes := #[24, 24] })
    {base : Nat} {v : Value} {l : List Oct} (y : Oct) {n : Int} (hy : n = y.toNat) (hown : Owns w base v l) (hn : l.length ≤ 8192) (hbase : base ≤ w.heap.size) (hs : a.eval s = v) (hx : a.eval x = .slice (some ⟨w.heap.size, 0, none⟩) 1 1)
    (h : ∀ v' w', Owns w' base v' (l ++ [y]) → Keeps base w w' → wpList Tryz.prog ops Q rest (a.put op.dst v') w') : wpList Tryz.prog ops Q (op :: rest) a (w.alloc (.cells #[.int .u8 n] 5)) := by
  subst hy
  refine wpList_append_src hgd s x ho (owns_alloc hown _) (by omega) (le_alloc hbase _) hs hx (l := [y]) (.inr ⟨w.heap.size, 0, 1, rfl, Nat.le_refl _, lt_alloc w _, fun j hj => ?_⟩) (by simp) fun v' w' h2 h3 h4 => h v' w' (owns_of h2 (by simp) (by simp [octs])) ⟨Nat.le_trans (le_alloc (Nat.le_refl _) _) h3, fun i hi => (h4 i hi).trans (heap_alloc_old _ (by omega)), by (repeat with_reducible first | exact .refl _ | assumption | refine .alloc ?_ _ | refine .drew ?_ | refine .b ?_ (by assumption) | refine .k ?_ (by assumption) | refine .e ?_ (by assumption) | refine .s ?_ (by assumption) | refine .trans ?_ (by assumption))⟩
  have : j = 0 := by simp at hj; omega
  subst this
  exact cell_alloc 5 _
theorem oct_of {n : Int} (h0 : 0 ≤ n) (h1 : n < 256) : n = ((BitVec.ofInt 8 n : Oct).toNat : Int) := by
  rw [BitVec.toNat_ofInt]
  omega
/-- A load, a store of a whole array, or of a part of one. -/
theorem load_valA {ρ : Operand → Value} {d : Option Tmp} {x : Operand} {ty ty' : TypeId} {pos : String} {af : Array Edge} {gd : Option (Nat × Bool)} {g : Nat} {cs : Array Value} {t : TypeId} {w : World} {dd : TypeDesc}
    (hd : dd.isRow = true) (hu : Tryz.prog.underlying ty = some dd) (hi : (Tryz.prog.info? ty).map (·.size) = some cs.size) (hg : Cells w g cs t) (hx : ρ x = .pointer (some ⟨g, 0, none⟩)) :
    (execOp ρ { dst := d, op := .load ty x, type := ty', pos := pos, after := af, guard := gd }).run Tryz.prog w = .ok (.value (.agg cs)) w := by
  unfold execOp
  simp only [hx, Instr.loadAt, Instr.sureAddr, Sem.run_bind, Sem.run_pure, Result.andThen_ok]
  rw [run_loadVar_row w g t ty cs (0, 0) dd hg hu (by cases dd <;> first | rfl | cases hd) hi]
  rfl
theorem load_mid {ρ : Operand → Value} {d : Option Tmp} {x : Operand} {ty ty' : TypeId} {pos : String} {af : Array Edge} {gd : Option (Nat × Bool)} {g off : Nat} {cs : List Value} {w : World} {dd : TypeDesc}
    (hd : dd.isRow = true) (hu : Tryz.prog.underlying ty = some dd) (hi : (Tryz.prog.info? ty).map (·.size) = some cs.length) (hg : w.rangeAt g off cs) (hx : ρ x = .pointer (some ⟨g, off, none⟩)) :
    (execOp ρ { dst := d, op := .load ty x, type := ty', pos := pos, after := af, guard := gd }).run Tryz.prog w = .ok (.value (.agg cs.toArray)) w := by
  unfold execOp
  simp only [hx, Instr.loadAt, Instr.sureAddr, Sem.run_bind, Sem.run_pure, Result.andThen_ok]
  rw [run_loadVar_mid w g off ty cs dd hg hu hd hi]
  rfl
theorem wpList_loadA {ops : Array Oper} {rest : List Oper} {o : Oper} {a : Act} {w : World} {Q : Exit → Act → World → Prop} (ty : TypeId) {dd : TypeDesc} (hd : dd.isRow = true) (hu : Tryz.prog.underlying ty = some dd) (hgd : o.guard = none) (x : Operand) (ho : o.op = .load ty x) {g : Nat} {cs : Array Value} {t : TypeId}
    (hx : a.eval x = .pointer (some ⟨g, 0, none⟩)) (hg : Cells w g cs t) (hi : (Tryz.prog.info? ty).map (·.size) = some cs.size) (h : wpList Tryz.prog ops Q rest (a.put o.dst (.agg cs)) w) : wpList Tryz.prog ops Q (o :: rest) a w :=
  wpList_load_row hgd ty x ho g hx t cs (0, 0) dd hg hu (by cases dd <;> first | rfl | cases hd) hi h
theorem wpList_storeA {ops : Array Oper} {rest : List Oper} {o : Oper} {a : Act} {w : World} {Q : Exit → Act → World → Prop} (ty : TypeId) (hgd : o.guard = none) (x y : Operand) (ho : o.op = .store ty x y) {g : Nat} {old cs : Array Value} {t : TypeId}
    (hx : a.eval x = .pointer (some ⟨g, 0, none⟩)) (hy : a.eval y = .agg cs) (hg : Cells w g old t) (hi : (Tryz.prog.info? ty).map (·.size) = some cs.size) (hs : old.size = cs.size) (h1 : cs.all (·.oneCell') = true)
    (h : ∀ w', Cells w' g cs t → w'.heap.size = w.heap.size → Else g w w' → wpList Tryz.prog ops Q rest (a.put o.dst undef) w') : wpList Tryz.prog ops Q (o :: rest) a w :=
  wpList_store_row hgd ty x y ho g cs hx hy t old hg hi hs h1 (h _ (setRow_heap w g _ _ t _ hg) (by simp) ⟨fun i hi => setRow_other w g i _ hi, rfl, rfl⟩)
theorem step_storeB {ops : Array Oper} {o : Oper} {a : Act} {w : World} {Q : Exit → Act → World → Prop} {K : Act → World → Prop} {E : Prop} (ty : TypeId) (hgd : o.guard = none) (x y : Operand) (ho : o.op = .store ty x y) {g : Nat} {old cs : Array Value} {t : TypeId}
    (hx : a.eval x = .pointer (some ⟨g, 0, none⟩)) (hy : a.eval y = .agg cs) (hg : Cells w g old t) (hi : (Tryz.prog.info? ty).map (·.size) = some cs.size) (hs : old.size = cs.size) (h1 : cs.all (·.oneCell') = true)
    (h : ∀ w', Cells w' g cs t → w'.heap.size = w.heap.size → Else g w w' → K (a.put o.dst undef) w') :
    if Region.wanted o (yielded ops a.tmps) = true then Oper.wp Tryz.prog o a w K Q else E :=
  step_storeA ty hgd x y ho hx hy hg hi hs h1 (h _ (setRow_heap w g _ _ t _ hg) (by simp) ⟨fun i hi => setRow_other w g i _ hi, rfl, rfl⟩)
theorem Cells.keeps {w w' : World} {g : Nat} {cs : Array Value} {t : TypeId} (h : Cells w g cs t) (k : Keeps w.heap.size w w') : Cells w' g cs t := (k.2 g (heap_lt h)).trans h
theorem Cells.lt {w : World} {g : Nat} {cs : Array Value} {t : TypeId} (h : Cells w g cs t) : g < w.heap.size := heap_lt h
theorem Cells.cell {w : World} {g : Nat} {cs : Array Value} {t : TypeId} (h : Cells w g cs t) (i : Nat) : w.cell? ⟨g, i, none⟩ = cs[i]? := cell_of_row w g i cs t (0, 0) h
theorem Keeps.drew {n : Nat} {w w' : World} (h : Keeps n w w') : Keeps n w w'.drew := ⟨h.1, h.2, h.3⟩
end Go.Proofs.YtlpbbihjnmikkaaGreatDoor.Exe
