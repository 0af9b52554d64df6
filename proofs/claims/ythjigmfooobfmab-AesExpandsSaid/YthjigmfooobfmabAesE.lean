/-
  TWO BLOCKS HELD AGAINST EACH OTHER: what '==' answers.
-/
import Derived.Test.YthjigmfooobfmabAesN
import Derived.Laws.StructEq
namespace Go.Proofs.Ythjigmfooobfmab
open Go.RowKit Gf

/-- The first n bytes are the same. -/
def sameB (n : Nat) (f g : Bf) : Bool := (List.range n).all fun i => f i == g i
theorem sameB_of {n : Nat} {f g : Bf} (h : ∀ i, i < n → f i = g i) : sameB n f g = true := by
  unfold sameB
  rw [List.all_eq_true]
  intro i hi
  rw [h i (List.mem_range.1 hi)]
  simp
theorem sameB_iff {n : Nat} {f g : Bf} : sameB n f g = true ↔ ∀ i, i < n → f i = g i := by
  refine ⟨fun h i hi => ?_, sameB_of⟩
  unfold sameB at h
  exact eq_of_beq (List.all_eq_true.1 h i (List.mem_range.2 hi))

theorem run_equalIn_bytesB {P : Program} (w : World) (d : Nat) (t e : TypeId) (n : Nat) (ht : P.underlying t = some (.array n e)) (he : P.underlying e = some (.int .u8)) (hsz : ∀ w, (sizeOf e).run P w = .ok 1 w)
    (f g : Bf) : (Op.equalIn (d + 2) t (.agg (bytes n f)) (.agg (bytes n g))).run P w = .ok (sameB n f g) w := by
  unfold sameB
  rw [List.range_eq_range', Op.equalIn]
  simp only [Sem.run_bind, run_underlying ht, Result.andThen_ok, hsz, Std.Legacy.Range.forIn_eq_forIn_range', Std.Legacy.Range.size, Nat.sub_zero, Nat.add_sub_cancel, Nat.div_one]
  have hl : ∀ i ∈ List.range' 0 n 1, i < n := fun i hi => by simpa using (List.mem_range'_1.1 hi).2
  generalize List.range' 0 n 1 = l at hl ⊢
  induction l with
  | nil => simp
  | cons i l ih =>
    have hi : i < n := hl i (by simp)
    have px : (Go.part e (bytes n f) (i * 1)).run P w = .ok (.int .u8 (f i).toNat) w := by
      simp [Go.part, isAgg, run_underlying he, bytes_get n f i hi]
    have py : (Go.part e (bytes n g) (i * 1)).run P w = .ok (.int .u8 (g i).toNat) w := by
      simp [Go.part, isAgg, run_underlying he, bytes_get n g i hi]
    have pe : (Op.equalIn (d + 1) e (.int .u8 (f i).toNat) (.int .u8 (g i).toNat)).run P w = .ok (f i == g i) w := by
      rw [run_equalIn_int w d e .u8 .u8 _ _ he]
      congr 1
      rw [Bool.eq_iff_iff]
      simp only [beq_iff_eq]
      constructor
      · intro h; exact BitVec.eq_of_toNat_eq (by omega)
      · intro h; rw [h]
    simp only [List.forIn_cons, Sem.run_bind, px, py, pe, Result.andThen_ok, List.all_cons]
    cases hb : (f i == g i)
    · simp
    · simp only [Bool.not_true, Bool.false_eq_true, if_false, Sem.run_pure, Result.andThen_ok, Bool.true_and]
      exact ih fun j hj => hl j (by simp [hj])
theorem size5 (w : World) : (sizeOf 5).run Try.prog w = .ok 1 w := by kernel_rfl
theorem eq_blk (w : World) (f g : Bf) : (Op.equalIn 10000 23 (.agg (bytes 16 f)) (.agg (bytes 16 g))).run Try.prog w = .ok (sameB 16 f g) w :=
  run_equalIn_bytesB w 9998 23 5 16 Try.underlying23 Try.underlying5 size5 f g
theorem eq_true {f g : Bf} (h : ∀ i, i < 16 → f i = g i) (w : World) : (Op.equalIn 10000 23 (.agg (bytes 16 f)) (.agg (bytes 16 g))).run Try.prog w = .ok true w := by
  rw [eq_blk, sameB_of h]
theorem no_guard : Try.prog.eqGuardType Try.prog.depth 23 = false := by kernel_rfl
end Go.Proofs.Ythjigmfooobfmab
