/-
  ARRAYS OF BYTES BY VALUE, out of and into the middle of a block that is known whole.
-/
import Derived.Test.YthjigmfooobfmabOctW
import Derived.Test.YthjigmfooobfmabMem
import Derived.Test.YthjigmfooobfmabSteady2
import Derived.Deep.MidRow
import Derived.Laws.CopyOwn
import Derived.StillTailTactics
namespace Go.Proofs.Ythjigmfooobfmab
open Go.RowKit Gf

abbrev Bf := Nat → B8
theorem Blk.row_same {w : World} {g : Nat} {t : TypeId} {cs : Array Value} (h : Blk w g t cs) (ds : Array Value) : Blk (w.setRow g ds) g t ds := by
  unfold Blk at h ⊢
  exact setRow_heap w g _ ds t _ h
theorem Blk.row_other {w : World} {g : Nat} {t : TypeId} {cs : Array Value} (h : Blk w g t cs) {g' : Nat} (hne : g ≠ g') (ds : Array Value) : Blk (w.setRow g' ds) g t cs := by
  unfold Blk at h ⊢
  rw [setRow_other w g' g ds hne, h]
/-- n bytes v laid over f from off on. -/
def laid (f : Bf) (off n : Nat) (v : Bf) : Bf := fun i => if off ≤ i ∧ i < off + n then v (i - off) else f i
def part (f : Bf) (off : Nat) : Bf := fun i => f (off + i)
theorem part_zero (f : Bf) : part f 0 = f := by funext i; simp [part]
theorem part_part (f : Bf) (a b : Nat) : part (part f a) b = part f (a + b) := by funext i; simp [part, Nat.add_assoc]

section
variable {w : World} {g : Nat} {t : TypeId} {N : Nat} {f : Bf}
theorem Blk.byte (h : Blk w g t (bytes N f)) {i : Nat} (hi : i < N) : w.cell? ⟨g, i, none⟩ = some (.int .u8 (f i).toNat) := by rw [h.cell, bytes_get _ _ _ hi]
theorem Blk.range (h : Blk w g t (bytes N f)) {off n : Nat} (hle : off + n ≤ N) : w.rangeAt g off (bytes n (part f off)).toList := by
  intro j v hv
  have hj : j < n := by
    rcases Nat.lt_or_ge j n with h' | h'
    · exact h'
    · rw [List.getElem?_eq_none (by simp [bytes_size]; exact h')] at hv; cases hv
  have h1 : (bytes n (part f off))[j]? = some (.int .u8 (f (off + j)).toNat) := bytes_get _ _ _ hj
  rw [Array.getElem?_toList, h1] at hv
  rw [h.byte (by omega)]; exact hv
theorem Blk.there (h : Blk w g t (bytes N f)) {off n : Nat} (hle : off + n ≤ N) : w.there g off n := fun j hj => by
  rw [h.byte (by omega)]
  exact ⟨rfl, h.frozen _⟩
theorem setCells_other (g : Nat) {i : Nat} (hne : i ≠ g) : ∀ (vs : List Value) (o : Nat) (w : World), (w.setCells g o vs).heap[i]? = w.heap[i]?
  | [], _, _ => rfl
  | v :: r, o, w => (setCells_other g hne r (o + 1) _).trans (Below.heap_setCell w ⟨g, o, none⟩ v i hne)
theorem setCells_below {B : Nat} {w0 : World} : ∀ (vs : List Value) (o : Nat) (w : World), Below B w0 w → B ≤ g → Below B w0 (w.setCells g o vs)
  | [], _, _, h, _ => h
  | v :: r, o, _, h, hg => setCells_below r (o + 1) _ (h.setCell (p := ⟨g, o, none⟩) hg v) hg
theorem Blk.setList : ∀ (vs : List B8) (o : Nat) (w : World) (f : Bf), Blk w g t (bytes N f) → Blk (w.setCells g o (vs.map fun x => Value.int .u8 x.toNat)) g t (bytes N fun i => if o ≤ i ∧ i < o + vs.length then vs.getD (i - o) 0 else f i)
  | [], o, _, f, h => by
    have e : bytes N (fun i => if o ≤ i ∧ i < o + ([] : List B8).length then ([] : List B8).getD (i - o) 0 else f i) = bytes N f := bytes_ext fun i _ => by rw [if_neg (by simp)]
    rw [e]; exact h
  | v :: r, o, w, f, h => by
    have h1 := h.set_ o (.int .u8 v.toNat)
    rw [bytes_set] at h1
    have h2 := Blk.setList r (o + 1) _ _ h1
    refine (show bytes N _ = bytes N _ from bytes_ext fun i _ => ?_) ▸ h2
    unfold upd
    by_cases e : i = o
    · subst e
      rw [if_neg (by omega), if_pos rfl, if_pos (by simp)]
      simp
    · by_cases e1 : o + 1 ≤ i ∧ i < o + 1 + r.length
      · rw [if_pos e1, if_pos (by simp; omega), show i - o = i - (o + 1) + 1 by omega]
        simp
      · rw [if_neg e1, if_neg e, if_neg (by simp; omega)]
theorem Blk.mid (h : Blk w g t (bytes N f)) (off n : Nat) (v : Bf) : Blk (w.setCells g off (bytes n v).toList) g t (bytes N (laid f off n v)) := by
  have h1 := Blk.setList ((List.range n).map v) off w f h
  have e1 : ((List.range n).map v).map (fun x => Value.int .u8 x.toNat) = (bytes n v).toList := by simp [bytes]
  rw [e1] at h1
  refine (show bytes N _ = bytes N _ from bytes_ext fun i _ => ?_) ▸ h1
  unfold laid
  simp only [List.length_map, List.length_range]
  by_cases e : off ≤ i ∧ i < off + n
  · rw [if_pos e, if_pos e]
    simp [List.getD, show i - off < n by omega]
  · rw [if_neg e, if_neg e]
theorem Blk.mid_other {t' : TypeId} {cs : Array Value} {g' : Nat} (h : Blk w g' t' cs) (hne : g' ≠ g) (off : Nat) (vs : List Value) : Blk (w.setCells g off vs) g' t' cs := by
  unfold Blk at h ⊢
  rw [setCells_other g hne vs off w]; exact h
end

theorem bytes_one (n : Nat) (f : Bf) : (bytes n f).all (·.oneCell') = true := by
  rw [Array.all_eq_true_iff_forall_mem]; intro v hv; simp [bytes] at hv; obtain ⟨i, _, rfl⟩ := hv; rfl
/-- The array types of bytes, and their lengths. -/
def lenOf : TypeId → Nat
  | 43 => 4 | 23 => 16 | 31 => 32 | 32 => 240 | 44 => 240 | 51 => 256 | 39 => 32 | _ => 0
def isArr (ty : TypeId) : Bool := ty == 43 || ty == 23 || ty == 31 || ty == 32 || ty == 44 || ty == 51 || ty == 39
theorem arr_under {ty : TypeId} (h : isArr ty = true) : ∃ d, Try.prog.underlying ty = some d ∧ d.isRow = true ∧ (Try.prog.info? ty).map (·.size) = some (lenOf ty) := by
  simp only [isArr, Bool.or_eq_true, beq_iff_eq] at h
  rcases h with ((((((rfl | rfl) | rfl) | rfl) | rfl) | rfl) | rfl)
  · exact ⟨_, Try.underlying43, rfl, by kernel_rfl⟩
  · exact ⟨_, Try.underlying23, rfl, by kernel_rfl⟩
  · exact ⟨_, Try.underlying31, rfl, by kernel_rfl⟩
  · exact ⟨_, Try.underlying32, rfl, by kernel_rfl⟩
  · exact ⟨_, Try.underlying44, rfl, by kernel_rfl⟩
  · exact ⟨_, Try.underlying51, rfl, by kernel_rfl⟩
  · exact ⟨_, Try.underlying39, rfl, by kernel_rfl⟩

/-- A load of an array of bytes, as one operation. -/
theorem load_run {ρ : Operand → Value} {d : Option Tmp} {x : Operand} {ty ty' : TypeId} {pos : String} {af : Array Edge} {gd : Option (Nat × Bool)} {g off N : Nat} {t : TypeId} {f : Bf} {w : World}
    (ha : isArr ty = true) (hx : ρ x = .pointer (some ⟨g, off, none⟩)) (hb : Blk w g t (bytes N f)) (hle : off + lenOf ty ≤ N) :
    (execOp ρ { dst := d, op := .load ty x, type := ty', pos := pos, after := af, guard := gd }).run Try.prog w = .ok (.value (.agg (bytes (lenOf ty) (part f off)))) w := by
  obtain ⟨dd, hu, hr, hi⟩ := arr_under ha
  unfold execOp
  simp only [hx, Instr.loadAt, Instr.sureAddr, Sem.run_bind, Sem.run_pure, Result.andThen_ok]
  rw [run_loadVar_mid w g off ty _ dd (hb.range hle) hu hr (by rw [hi]; simp [bytes_size])]
  rfl
theorem load_val {S : World → Prop} {ρ : Operand → Value} {d : Option Tmp} {x : Operand} {ty ty' : TypeId} {pos : String} {af : Array Edge} {gd : Option (Nat × Bool)} {g off N : Nat} {t : TypeId} {f : Bf}
    (ha : isArr ty = true) (hx : ρ x = .pointer (some ⟨g, off, none⟩)) (hle : off + lenOf ty ≤ N) (hS : ∀ w, S w → Blk w g t (bytes N f)) (w : World) (hw : S w) :
    (execOp ρ { dst := d, op := .load ty x, type := ty', pos := pos, after := af, guard := gd }).run Try.prog w = .ok (.value (.agg (bytes (lenOf ty) (part f off)))) w :=
  load_run ha hx (hS w hw) hle
theorem store_run {ρ : Operand → Value} {d : Option Tmp} {x y : Operand} {ty ty' : TypeId} {pos : String} {af : Array Edge} {gd : Option (Nat × Bool)} {g off N : Nat} {t : TypeId} {f v : Bf} {w : World}
    (ha : isArr ty = true) (hx : ρ x = .pointer (some ⟨g, off, none⟩)) (hy : ρ y = .agg (bytes (lenOf ty) v)) (hb : Blk w g t (bytes N f)) (hle : off + lenOf ty ≤ N) :
    (execOp ρ { dst := d, op := .store ty x y, type := ty', pos := pos, after := af, guard := gd }).run Try.prog w = .ok .skip (w.setCells g off (bytes (lenOf ty) v).toList) := by
  obtain ⟨_, _, _, hi⟩ := arr_under ha
  unfold execOp
  simp only [hx, hy, Instr.storeAt, Instr.sureAddr, Sem.run_bind, Sem.run_pure, Result.andThen_ok]
  rw [run_storeVar_mid w g off ty _ (by rw [bytes_size]; exact hb.there hle) (by rw [hi, bytes_size]) (bytes_one _ _)]
  rfl
section
variable {ops : Array Oper} {rest : List Oper} {o : Oper} {a : Act} {w : World} {Q : Exit → Act → World → Prop}
theorem load_blk (ty : TypeId) (ha : isArr ty = true) (hgd : o.guard = none) (x : Operand) (ho : o.op = .load ty x) (g off : Nat) (hx : a.eval x = .pointer (some ⟨g, off, none⟩)) (f : Bf) {N : Nat} {t : TypeId} (hb : Blk w g t (bytes N f)) (hle : off + lenOf ty ≤ N)
    (h : wpList Try.prog ops Q rest (a.put o.dst (.agg (bytes (lenOf ty) (part f off)))) w) : wpList Try.prog ops Q (o :: rest) a w := by
  obtain ⟨dd, hu, hr, hi⟩ := arr_under ha
  exact wpList_load_mid hgd ty x ho g off hx _ dd (hb.range hle) hu hr (by rw [hi]; simp [bytes_size]) h
theorem store_blk (ty : TypeId) (ha : isArr ty = true) (hgd : o.guard = none) (x y : Operand) (ho : o.op = .store ty x y) (g off : Nat) (f v : Bf) (hx : a.eval x = .pointer (some ⟨g, off, none⟩)) (hy : a.eval y = .agg (bytes (lenOf ty) v)) {N : Nat} {t : TypeId}
    (hb : Blk w g t (bytes N f)) (hle : off + lenOf ty ≤ N) (h : wpList Try.prog ops Q rest (a.put o.dst undef) (w.setCells g off (bytes (lenOf ty) v).toList)) : wpList Try.prog ops Q (o :: rest) a w := by
  obtain ⟨_, _, _, hi⟩ := arr_under ha
  exact wpList_store_mid hgd ty x y ho g off _ hx hy (by rw [bytes_size]; exact hb.there hle) (by rw [hi, bytes_size]) (bytes_one _ _) h
end
theorem result_blk {fn : Func} {p : Tmp} {ty : TypeId} (ha : isArr ty = true) (h : fn.results = #[.cell p ty]) (tmps : Array Value) (w : World) (g : Nat) (f : Bf) (hp : tmps.getD p undef = .pointer (some ⟨g, 0, none⟩)) (hb : Blk w g ty (bytes (lenOf ty) f)) :
    (results fn tmps).run Try.prog w = .ok (.agg (bytes (lenOf ty) f)) w := by
  obtain ⟨dd, hu, hr, hi⟩ := arr_under ha
  exact results_cell_row h tmps w g ty _ (0, 0) _ hp hb hu (by cases dd <;> first | rfl | exact absurd hr (by simp)) (by rw [hi, bytes_size])
end Go.Proofs.Ythjigmfooobfmab
