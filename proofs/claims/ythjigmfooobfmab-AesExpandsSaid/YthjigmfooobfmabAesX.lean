/-
  PLAIN FUNCTIONS of the key's blocks; zero values.
-/
import Derived.Test.YthjigmfooobfmabAesW3
import Derived.IntWalk
namespace Go.Proofs.Ythjigmfooobfmab
open Go.RowKit Gf
set_option linter.unusedSimpArgs false

theorem zero_of {ty n : Nat} (h : (Try.prog.info? ty).map (·.zero) = some (some (.agg (bytes n fun _ => 0#8)))) (w : World) : (zeroValue ty).run Try.prog w = .ok (.agg (bytes n fun _ => 0#8)) w := by
  obtain ⟨i, hi, hz⟩ := Option.map_eq_some_iff.1 h
  simp [zeroValue, typeInfo, hi, hz, go_sem]
set_option maxRecDepth 100000 in
theorem zero32 (w : World) : (zeroValue 32).run Try.prog w = .ok (.agg (bytes 240 fun _ => 0#8)) w := zero_of (by kernel_rfl) w
set_option maxRecDepth 100000 in
theorem zero44 (w : World) : (zeroValue 44).run Try.prog w = .ok (.agg (bytes 240 fun _ => 0#8)) w := zero_of (by kernel_rfl) w
set_option maxRecDepth 100000 in
theorem zero51 (w : World) : (zeroValue 51).run Try.prog w = .ok (.agg (bytes 256 fun _ => 0#8)) w := zero_of (by kernel_rfl) w
def powTo : Nat → B8
  | 0 => 1#8
  | i + 1 => if 8 ≤ i ∧ i % 8 = 0 then t2 (powTo i) else powTo i
def rotW (t : Bf) (p : B8) : Bf := fun r => if r = 0 then box8 (t 1) ^^^ p else box8 (t ((r + 1) % 4))
def subW (t : Bf) (p : B8) (i : Nat) : Bf := if i % 8 = 0 then rotW t p else if i % 8 = 4 then boxW t else t
def newW (kf l : Bf) (p : B8) (i : Nat) : Bf := if i < 8 then part kf (4 * i) else fun r => subW (part l (4 * (i - 1))) p i r ^^^ l (4 * (i - 8) + r)
/-- The words, i of them laid. -/
def lTo (kf : Bf) : Nat → Bf
  | 0 => fun _ => 0#8
  | i + 1 => laid (lTo kf i) (4 * i) 4 (newW kf (lTo kf i) (powTo i) i)
/-- A key's blocks. -/
def expB (kf : Bf) : Bf := lTo kf 60
/-- A word of an array of words. -/
theorem index_val {ρ : Operand → Value} {d : Option Tmp} {x y : Operand} {ty : TypeId} {pos : String} {af : Array Edge} {gd : Option (Nat × Bool)} {f : Bf} {i : Nat}
    (hx : ρ x = .agg (bytes 240 f)) (hy : ρ y = .int .i64 i) (hi : i < 60) (w : World) :
    (execOp ρ { dst := d, op := .index 44 x y, type := ty, pos := pos, after := af, guard := gd }).run Try.prog w = .ok (.value (.agg (bytes 4 (part f (4 * i))))) w := by
  obtain ⟨j, hj, hs⟩ := Option.map_eq_some_iff.1 (show (Try.prog.info? 43).map (·.size) = some 4 by kernel_rfl)
  have e1 : (bytes 240 f).extract (i * 4) (i * 4 + 4) = bytes 4 (part f (4 * i)) := by
    apply Array.ext_getElem?
    intro k
    rw [Array.getElem?_extract]
    by_cases hk : k < 4
    · rw [if_pos (by rw [bytes_size]; omega), bytes_get _ _ _ (by omega), bytes_get _ _ _ hk]
      unfold part
      rw [Nat.mul_comm]
    · rw [if_neg (by rw [bytes_size]; omega), Array.getElem?_eq_none (by rw [bytes_size]; omega)]
  have e3 : (Instr.index 44 (.agg (bytes 240 f)) (.int .i64 i)).run Try.prog w = .ok (.agg (bytes 4 (part f (4 * i)))) w := by
    have h60 : (0 : Int) ≤ (i : Int) ∧ (i : Int) < 60 := by omega
    simp [Instr.index, run_underlying Try.underlying44, sizeOf, typeInfo, hj, hs, go_sem, h60]
    rw [if_pos hi, e1]
  unfold execOp
  simp only [hx, hy, Sem.run_bind, e3, Result.andThen_ok, Sem.run_pure]
end Go.Proofs.Ythjigmfooobfmab
