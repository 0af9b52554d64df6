/-
  A ROW OF BYTES OF THE CALL's OWN: what an append makes of it; bytes turned to a string.
-/
import Derived.Test.YtddehfhklalfgaaProg
import Derived.Test.YtddehfhklalfgaaBlkT
import Derived.Maps.AppendAt
import Derived.OwnWalk
import Derived.Laws.BytesArg
import Derived.Below
import Derived.RegionTactic
namespace Go.Proofs.Ytddehfhklalfgaa
open Go.RowKit Gf

def cellsB (n : Nat) (bf : Bf) : List Value := (List.range n).map fun i => Value.int .u8 (bf i).toNat
theorem cellsB_len (n : Nat) (bf : Bf) : (cellsB n bf).length = n := by simp [cellsB]
theorem cellsB_get (n : Nat) (bf : Bf) (i : Nat) (h : i < n) : (cellsB n bf)[i]? = some (.int .u8 (bf i).toNat) := by simp [cellsB, h]
theorem cellsB_one (n : Nat) (bf : Bf) : ∀ u ∈ cellsB n bf, u.oneCell' = true := by
  intro v hv; simp [cellsB] at hv; obtain ⟨j, _, rfl⟩ := hv; rfl
def joinB (bf : Bf) (n : Nat) (cf : Bf) : Bf := fun i => if i < n then bf i else cf (i - n)
theorem cellsB_join (n m : Nat) (bf cf : Bf) : cellsB n bf ++ cellsB m cf = cellsB (n + m) (joinB bf n cf) := by
  apply List.ext_getElem?
  intro i
  by_cases h : i < n
  · rw [List.getElem?_append_left (by rw [cellsB_len]; exact h), cellsB_get _ _ _ h, cellsB_get _ _ _ (by omega)]
    unfold joinB; rw [if_pos h]
  · rw [List.getElem?_append_right (by rw [cellsB_len]; omega), cellsB_len]
    by_cases h2 : i < n + m
    · rw [cellsB_get _ _ _ (by omega), cellsB_get _ _ _ h2]
      unfold joinB; rw [if_neg h]
    · rw [List.getElem?_eq_none (by rw [cellsB_len]; omega), List.getElem?_eq_none (by rw [cellsB_len]; omega)]
def Own (base : Nat) (v : Value) (n : Nat) (bf : Bf) (w : World) : Prop := w.ownsRow base 5 1 v n (cellsB n bf)
theorem Own.slice {base n : Nat} {v : Value} {bf : Bf} {w : World} (h : Own base v n bf w) : ∃ A c, v = .slice A n c ∧ n ≤ c ∧ RdB w A n bf := by
  rcases h.2 with ⟨rfl, rfl⟩ | ⟨g, cap, cur, rfl, _, hg, hc, _, hs, ht⟩
  · exact ⟨none, 0, rfl, Nat.le_refl _, fun h => absurd h (by omega)⟩
  · refine ⟨some ⟨g, 0, none⟩, cap, rfl, hc, fun hn => ⟨_, rfl, ?_, fun j hj => ?_⟩⟩
    · rcases Nat.lt_or_ge g w.heap.size with h' | h'
      · exact h'
      · rw [Array.getElem?_eq_none h'] at hg; cases hg
    · have h1 : cur[j]? = some (.int .u8 (bf j).toNat) := by
        have h2 : (cur.toList.take (n * 1))[j]? = some (.int .u8 (bf j).toNat) := by rw [ht, cellsB_get _ _ _ hj]
        rw [List.getElem?_take_of_lt (by omega)] at h2
        simpa using h2
      have h3 := cell_of_row w g j cur 5 (0, 0) hg
      rw [show (⟨g, 0, none⟩ : Addr).add j = ⟨g, j, none⟩ by unfold Addr.add; by_cases h : j = 0 <;> simp [h], h3, h1]
theorem info5 : (Try.prog.info? 5).map (fun i => (i.zero, i.size, i.bytes)) = some (some (.int .u8 0), 1, 1) := by kernel_rfl
theorem run_append_rd {base n : Nat} {v : Value} {bf : Bf} {w : World} (hown : Own base v n bf w) (A : Option Addr) (m c : Nat) (cf : Bf) (hr : RdB w A m cf) (hnm : n + m ≤ 4096) (hbase : base ≤ w.heap.size) (ty : TypeId) :
    ∃ v' w', (Builtin.append_ #[28, 28] ty #[v, .slice A m c]).run Try.prog w = .ok v' w' ∧ Own base v' (n + m) (joinB bf n cf) w' ∧ Below base w w' := by
  obtain ⟨i, hi, hz, hsz, hby⟩ := info_parts info5
  rcases A with _ | ad
  · have hm : m = 0 := by
      rcases Nat.eq_zero_or_pos m with h0 | h0
      · exact h0
      · obtain ⟨_, h, _⟩ := hr h0; cases h
    subst hm
    refine ⟨v, w, ?_, ?_, Below.refl _ _⟩
    · rcases hown.2 with ⟨rfl, rfl⟩ | ⟨g, cap, cur, rfl, _, _, hnc, _⟩
      · simp [Builtin.append_, run_underlying Try.underlying28, sizeOf, typeInfo, hi, Builtin.lenOf, Builtin.firstCells]
      · simp [Builtin.append_, run_underlying Try.underlying28, sizeOf, typeInfo, hi, Builtin.lenOf, Builtin.firstCells, hnc, storeCells]
    · have e : cellsB (n + 0) (joinB bf n cf) = cellsB n bf := by rw [← cellsB_join]; simp [cellsB]
      unfold Own
      rw [e]
      exact hown
  · obtain ⟨v', w', hrun, h2, h3, _, h5⟩ := run_append_own_at (P := Try.prog) w base 28 ty 5 i _ 1 1 Try.underlying28 hi hz hsz hby rfl (by omega) v n _ hown ad m c (cellsB m cf) (by rw [cellsB_len]; omega)
      (fun j u hu => by
        have hj : j < m := by
          rcases Nat.lt_or_ge j m with h' | h'
          · exact h'
          · rw [List.getElem?_eq_none (by rw [cellsB_len]; exact h')] at hu; cases hu
        obtain ⟨_, e, _, hc⟩ := hr (by omega)
        cases e
        rw [cellsB_get _ _ _ hj] at hu
        rw [hc j hj]; exact hu)
      (cellsB_one _ _) (by simp only [maxLen]; omega) (by omega) hbase
    refine ⟨v', w', hrun, ?_, (Below.refl _ _).grown h3 hbase fun k hk => (World.ownsRow.lt hown k hk).1⟩
    rw [cellsB_join] at h2
    exact h2

section
variable {ops : Array Oper} {rest : List Oper} {o : Oper} {a : Act} {w : World} {Q : Exit → Act → World → Prop} {K : Act → World → Prop}
theorem wp_append_rd (s x : Operand) (ho : o.op = .call { callee := .builtin .append, args := #[s, x], argTypes := #[28, 28] })
    {base n : Nat} {v : Value} {bf : Bf} (hs : a.eval s = v) (hown : Own base v n bf w) (A : Option Addr) (m c : Nat) (cf : Bf) (hx : a.eval x = .slice A m c) (hr : RdB w A m cf) (hnm : n + m ≤ 4096) (hbase : base ≤ w.heap.size)
    (h : ∀ A' c' w', n + m ≤ c' → Own base (.slice A' (n + m) c') (n + m) (joinB bf n cf) w' → Below base w w' → K (a.put o.dst (.slice A' (n + m) c')) w') : o.wp Try.prog a w K Q := by
  obtain ⟨v', w', hrun, h2, h3⟩ := run_append_rd hown A m c cf hr hnm hbase o.type
  obtain ⟨A', c', rfl, hc', _⟩ := h2.slice
  unfold Oper.wp execOp
  simp only [ho, resolve, invoke, builtin, Sem.run_bind, Sem.run_pure, Result.andThen_ok, List.map_toArray, List.map_cons, List.map_nil, hs, hx, hrun]
  exact h A' c' w' hc' h2 h3
theorem wpList_append_rd (hgd : o.guard = none) (s x : Operand) (ho : o.op = .call { callee := .builtin .append, args := #[s, x], argTypes := #[28, 28] })
    {base n : Nat} {v : Value} {bf : Bf} (hs : a.eval s = v) (hown : Own base v n bf w) (A : Option Addr) (m c : Nat) (cf : Bf) (hx : a.eval x = .slice A m c) (hr : RdB w A m cf) (hnm : n + m ≤ 4096) (hbase : base ≤ w.heap.size)
    (h : ∀ A' c' w', n + m ≤ c' → Own base (.slice A' (n + m) c') (n + m) (joinB bf n cf) w' → Below base w w' → wpList Try.prog ops Q rest (a.put o.dst (.slice A' (n + m) c')) w') : wpList Try.prog ops Q (o :: rest) a w :=
  wpList_plain hgd fun _ hK => wp_append_rd s x ho hs hown A m c cf hx hr hnm hbase fun A' c' w' h0 h1 h2 => hK _ _ (h A' c' w' h0 h1 h2)
theorem step_append_rd {E : Prop} (hgd : o.guard = none) (s x : Operand) (ho : o.op = .call { callee := .builtin .append, args := #[s, x], argTypes := #[28, 28] })
    {base n : Nat} {v : Value} {bf : Bf} (hs : a.eval s = v) (hown : Own base v n bf w) (A : Option Addr) (m c : Nat) (cf : Bf) (hx : a.eval x = .slice A m c) (hr : RdB w A m cf) (hnm : n + m ≤ 4096) (hbase : base ≤ w.heap.size)
    (h : ∀ A' c' w', n + m ≤ c' → Own base (.slice A' (n + m) c') (n + m) (joinB bf n cf) w' → Below base w w' → K (a.put o.dst (.slice A' (n + m) c')) w') :
    if Region.wanted o (yielded ops a.tmps) = true then Oper.wp Try.prog o a w K Q else E := by
  have hw : Region.wanted o (yielded ops a.tmps) = true := by simp [Region.wanted, hgd]
  rw [if_pos hw]
  exact wp_append_rd s x ho hs hown A m c cf hx hr hnm hbase h
end

def strB (n : Nat) (bf : Bf) : ByteArray := ⟨((List.range n).map fun i => UInt8.ofNat (bf i).toNat).toArray⟩
theorem conv_val {S : World → Prop} {ρ : Operand → Value} {d : Option Tmp} {x : Operand} {ty : TypeId} {pos : String} {af : Array Edge} {gd : Option (Nat × Bool)} {A : Option Addr} {n c : Nat} {bf : Bf}
    (hx : ρ x = .slice A n c) (hS : ∀ w, S w → RdB w A n bf) (w : World) (hw : S w) :
    (execOp ρ { dst := d, op := .convert 28 9 x, type := ty, pos := pos, after := af, guard := gd }).run Try.prog w = .ok (.value (.string (strB n bf))) w := by
  have hr := hS w hw
  have key : (convert 28 9 (.slice A n c)).run Try.prog w = .ok (.string (strB n bf)) w := by
    rcases A with _ | ad
    · have hm : n = 0 := by
        rcases Nat.eq_zero_or_pos n with h0 | h0
        · exact h0
        · obtain ⟨_, h, _⟩ := hr h0; cases h
      subst hm
      exact run_convert_bytes_nil w 28 5 Try.underlying28 Try.underlying5 0 c 9 Try.underlying9
    · have h := run_convert_bytes_back (P := Try.prog) w 28 9 5 ad c ((List.range n).map fun i => UInt8.ofNat (bf i).toNat) Try.underlying28 Try.underlying5 Try.underlying9 (fun j hj => by
        have hj' : j < n := by simpa using hj
        obtain ⟨_, e, _, hc⟩ := hr (by omega)
        cases e
        rw [hc j hj']
        simp)
      rw [List.length_map, List.length_range] at h
      exact h
  unfold execOp
  simp only [hx, Sem.run_bind, key, Result.andThen_ok, Sem.run_pure]
end Go.Proofs.Ytddehfhklalfgaa
