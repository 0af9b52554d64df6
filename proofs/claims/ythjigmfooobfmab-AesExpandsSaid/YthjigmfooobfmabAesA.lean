/-
  A ROW OF BYTES OF THE CALL's OWN: what an append makes of it; what a literal of bytes makes.
-/
import Derived.Test.YthjigmfooobfmabAesR4
import Derived.Maps.AppendAt
import Derived.OwnWalk
import Derived.Laws.BytesArg
import Derived.RegionTactic
namespace Go.Proofs.Ythjigmfooobfmab
open Go.RowKit Gf
set_option linter.unusedSimpArgs false

/-- The slice's address and length read as n bytes, all of old blocks. -/
def RdB (w : World) (A : Option Addr) (n : Nat) (bf : Bf) : Prop :=
  0 < n → ∃ ad, A = some ad ∧ ad.block < w.heap.size ∧ ∀ j, j < n → w.cell? (ad.add j) = some (.int .u8 (bf j).toNat)

theorem add_add (a : Addr) (i j : Nat) : (a.add i).add j = a.add (i + j) := by
  unfold Addr.add
  by_cases hi : i = 0 <;> by_cases hj : j = 0 <;> simp [hi, hj, Nat.add_assoc]
theorem block_add (a : Addr) (n : Nat) : (a.add n).block = a.block := by unfold Addr.add; split <;> rfl
theorem RdB.below {w w' : World} {A : Option Addr} {n : Nat} {bf : Bf} (h : RdB w A n bf) (hb : Below w.heap.size w w') : RdB w' A n bf := fun hn => by
  obtain ⟨ad, rfl, hbl, hcell⟩ := h hn
  exact ⟨ad, rfl, Nat.lt_of_lt_of_le hbl hb.size, fun j hj => (hb.cell (by rw [block_add]; exact hbl)).trans (hcell j hj)⟩
def cellsB (n : Nat) (bf : Bf) : List Value := (List.range n).map fun i => Value.int .u8 (bf i).toNat
theorem cellsB_len (n : Nat) (bf : Bf) : (cellsB n bf).length = n := by simp [cellsB]
theorem cellsB_get (n : Nat) (bf : Bf) (i : Nat) (h : i < n) : (cellsB n bf)[i]? = some (.int .u8 (bf i).toNat) := by simp [cellsB, h]
theorem cellsB_one (n : Nat) (bf : Bf) : ∀ u ∈ cellsB n bf, u.oneCell' = true := by
  intro v hv; simp [cellsB] at hv; obtain ⟨j, _, rfl⟩ := hv; rfl
def joinB (bf : Bf) (n : Nat) (cf : Bf) : Bf := fun i => if i < n then bf i else cf (i - n)
theorem cellsB_join (n m : Nat) (bf cf : Bf) : cellsB n bf ++ cellsB m cf = cellsB (n + m) (joinB bf n cf) := by
  apply List.ext_getElem?
  intro i
  by_cases h : i < n
  · rw [List.getElem?_append_left (by rw [cellsB_len]; exact h), cellsB_get _ _ _ h, cellsB_get _ _ _ (by omega)]
    unfold joinB; rw [if_pos h]
  · rw [List.getElem?_append_right (by rw [cellsB_len]; omega), cellsB_len]
    by_cases h2 : i < n + m
    · rw [cellsB_get _ _ _ (by omega), cellsB_get _ _ _ h2]
      unfold joinB; rw [if_neg h]
    · rw [List.getElem?_eq_none (by rw [cellsB_len]; omega), List.getElem?_eq_none (by rw [cellsB_len]; omega)]
def Own (base : Nat) (v : Value) (n : Nat) (bf : Bf) (w : World) : Prop := w.ownsRow base 5 1 v n (cellsB n bf)
theorem Own.slice {base n : Nat} {v : Value} {bf : Bf} {w : World} (h : Own base v n bf w) : ∃ A c, v = .slice A n c ∧ n ≤ c ∧ RdB w A n bf := by
  rcases h.2 with ⟨rfl, rfl⟩ | ⟨g, cap, cur, rfl, _, hg, hc, _, hs, ht⟩
  · exact ⟨none, 0, rfl, Nat.le_refl _, fun h => absurd h (by omega)⟩
  · refine ⟨some ⟨g, 0, none⟩, cap, rfl, hc, fun hn => ⟨_, rfl, ?_, fun j hj => ?_⟩⟩
    · rcases Nat.lt_or_ge g w.heap.size with h' | h'
      · exact h'
      · rw [Array.getElem?_eq_none h'] at hg; cases hg
    · have h1 : cur[j]? = some (.int .u8 (bf j).toNat) := by
        have h2 : (cur.toList.take (n * 1))[j]? = some (.int .u8 (bf j).toNat) := by rw [ht, cellsB_get _ _ _ hj]
        rw [List.getElem?_take_of_lt (by omega)] at h2
        simpa using h2
      have h3 := cell_of_row w g j cur 5 (0, 0) hg
      rw [show (⟨g, 0, none⟩ : Addr).add j = ⟨g, j, none⟩ by unfold Addr.add; by_cases h : j = 0 <;> simp [h], h3, h1]
theorem info5 : (Try.prog.info? 5).map (fun i => (i.zero, i.size, i.bytes)) = some (some (.int .u8 0), 1, 1) := by kernel_rfl
theorem run_append_rz {base n : Nat} {v : Value} {bf : Bf} {w : World} (hown : Own base v n bf w) (A : Option Addr) (m c : Nat) (cf : Bf) (hr : RdB w A m cf) (hnm : n + m ≤ 4096) (hbase : base ≤ w.heap.size) (ty : TypeId) :
    ∃ v' w', (Builtin.append_ #[27, 27] ty #[v, .slice A m c]).run Try.prog w = .ok v' w' ∧ Own base v' (n + m) (joinB bf n cf) w' ∧ Below base w w' ∧
      (∀ g, g < w.heap.size → v.ownBlock ≠ some g → w'.heap[g]? = w.heap[g]? ∧ v'.ownBlock ≠ some g) := by
  obtain ⟨i, hi, hz, hsz, hby⟩ := info_parts info5
  rcases A with _ | ad
  · have hm : m = 0 := by
      rcases Nat.eq_zero_or_pos m with h0 | h0
      · exact h0
      · obtain ⟨_, h, _⟩ := hr h0; cases h
    subst hm
    refine ⟨v, w, ?_, ?_, Below.refl _ _, fun g _ h => ⟨rfl, h⟩⟩
    · rcases hown.2 with ⟨rfl, rfl⟩ | ⟨g, cap, cur, rfl, _, _, hnc, _⟩
      · simp [Builtin.append_, run_underlying Try.underlying27, sizeOf, typeInfo, hi, Builtin.lenOf, Builtin.firstCells]
      · simp [Builtin.append_, run_underlying Try.underlying27, sizeOf, typeInfo, hi, Builtin.lenOf, Builtin.firstCells, hnc, storeCells]
    · have e : cellsB (n + 0) (joinB bf n cf) = cellsB n bf := by rw [← cellsB_join]; simp [cellsB]
      unfold Own
      rw [e]
      exact hown
  · obtain ⟨v', w', hrun, h2, h3, _, h5⟩ := run_append_own_at (P := Try.prog) w base 27 ty 5 i _ 1 1 Try.underlying27 hi hz hsz hby rfl (by omega) v n _ hown ad m c (cellsB m cf) (by rw [cellsB_len]; omega)
      (fun j u hu => by
        have hj : j < m := by
          rcases Nat.lt_or_ge j m with h' | h'
          · exact h'
          · rw [List.getElem?_eq_none (by rw [cellsB_len]; exact h')] at hu; cases hu
        obtain ⟨_, e, _, hc⟩ := hr (by omega)
        cases e
        rw [cellsB_get _ _ _ hj] at hu
        rw [hc j hj]; exact hu)
      (cellsB_one _ _) (by simp only [maxLen]; omega) (by omega) hbase
    refine ⟨v', w', hrun, ?_, (Below.refl _ _).grown h3 hbase fun k hk => (World.ownsRow.lt hown k hk).1, fun g hg hne => ⟨h3.block g hg fun e => hne e.symm, fun e => ?_⟩⟩
    · rw [cellsB_join] at h2
      exact h2
    · rcases h5 with h5 | h5
      · exact hne (h5.symm.trans e)
      · rw [h5] at e; cases e; omega
section
variable {ops : Array Oper} {rest : List Oper} {o : Oper} {a : Act} {w : World} {Q : Exit → Act → World → Prop} {K : Act → World → Prop}
theorem wp_append_rz (s x : Operand) (ho : o.op = .call { callee := .builtin .append, args := #[s, x], argTypes := #[27, 27] })
    {base n : Nat} {v : Value} {bf : Bf} (hs : a.eval s = v) (hown : Own base v n bf w) (A : Option Addr) (m c : Nat) (cf : Bf) (hx : a.eval x = .slice A m c) (hr : RdB w A m cf) (hnm : n + m ≤ 4096) (hbase : base ≤ w.heap.size)
    (h : ∀ A' c' w', n + m ≤ c' → Own base (.slice A' (n + m) c') (n + m) (joinB bf n cf) w' → Below base w w' →
      (∀ g, g < w.heap.size → v.ownBlock ≠ some g → w'.heap[g]? = w.heap[g]? ∧ (Value.slice A' (n + m) c').ownBlock ≠ some g) → K (a.put o.dst (.slice A' (n + m) c')) w') : o.wp Try.prog a w K Q := by
  obtain ⟨v', w', hrun, h2, h3, h4⟩ := run_append_rz hown A m c cf hr hnm hbase o.type
  obtain ⟨A', c', rfl, hc', _⟩ := h2.slice
  unfold Oper.wp execOp
  simp only [ho, resolve, invoke, builtin, Sem.run_bind, Sem.run_pure, Result.andThen_ok, List.map_toArray, List.map_cons, List.map_nil, hs, hx, hrun]
  exact h A' c' w' hc' h2 h3 h4
theorem wpList_append_rz (hgd : o.guard = none) (s x : Operand) (ho : o.op = .call { callee := .builtin .append, args := #[s, x], argTypes := #[27, 27] })
    {base n : Nat} {v : Value} {bf : Bf} (hs : a.eval s = v) (hown : Own base v n bf w) (A : Option Addr) (m c : Nat) (cf : Bf) (hx : a.eval x = .slice A m c) (hr : RdB w A m cf) (hnm : n + m ≤ 4096) (hbase : base ≤ w.heap.size)
    (h : ∀ A' c' w', n + m ≤ c' → Own base (.slice A' (n + m) c') (n + m) (joinB bf n cf) w' → Below base w w' →
      (∀ g, g < w.heap.size → v.ownBlock ≠ some g → w'.heap[g]? = w.heap[g]? ∧ (Value.slice A' (n + m) c').ownBlock ≠ some g) → wpList Try.prog ops Q rest (a.put o.dst (.slice A' (n + m) c')) w') : wpList Try.prog ops Q (o :: rest) a w :=
  wpList_plain hgd fun _ hK => wp_append_rz s x ho hs hown A m c cf hx hr hnm hbase fun A' c' w' h0 h1 h2 h3 => hK _ _ (h A' c' w' h0 h1 h2 h3)
end
end Go.Proofs.Ythjigmfooobfmab
