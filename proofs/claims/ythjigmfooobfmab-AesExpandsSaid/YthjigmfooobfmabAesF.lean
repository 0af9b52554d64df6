/-
  PLAIN FUNCTIONS of layer 2: rounds, words.
-/
import Derived.Test.YthjigmfooobfmabAesM
namespace Go.Proofs.Ythjigmfooobfmab
open Go.RowKit Gf
set_option linter.unusedSimpArgs false

def boxW (a : Bf) : Bf := fun i => box8 (a i)
def allW (a : Bf) : B8 := a 0 ^^^ a 1 ^^^ a 2 ^^^ a 3
def mixW (a : Bf) : Bf := fun r => a r ^^^ allW a ^^^ t2 (a r ^^^ a ((r + 1) % 4))
def colW (s : Bf) (c : Nat) : Bf := fun r => box8 (s ((4 * (c + r) + r) % 16))
def mixIf (last : Bool) (a : Bf) : Bf := if last then a else mixW a
/-- A round. -/
def rndB (s k : Bf) (last : Bool) : Bf := fun i => mixIf last (colW s (i / 4)) (i % 4) ^^^ k i
/-- A store of an array of bytes, where whatever may come up comes up. -/
theorem step_store {ops : Array Oper} {o : Oper} {a : Act} {w : World} {Q : Exit → Act → World → Prop} {K : Act → World → Prop} {E : Prop} (ty : TypeId) (ha : isArr ty = true) (hgd : o.guard = none) (x y : Operand) (ho : o.op = .store ty x y) (g off : Nat) (f v : Bf) (hx : a.eval x = .pointer (some ⟨g, off, none⟩)) (hy : a.eval y = .agg (bytes (lenOf ty) v)) {N : Nat} {t : TypeId}
    (hb : Blk w g t (bytes N f)) (hle : off + lenOf ty ≤ N) (h : K (a.put o.dst undef) (w.setCells g off (bytes (lenOf ty) v).toList)) :
    if Region.wanted o (yielded ops a.tmps) = true then Oper.wp Try.prog o a w K Q else E := by
  have hw : Region.wanted o (yielded ops a.tmps) = true := by simp [Region.wanted, hgd]
  rw [if_pos hw]
  obtain ⟨_, _, _, hi⟩ := arr_under ha
  exact wp_store_mid ty x y ho g off _ hx hy (by rw [bytes_size]; exact hb.there hle) (by rw [hi, bytes_size]) (bytes_one _ _) h
end Go.Proofs.Ythjigmfooobfmab
