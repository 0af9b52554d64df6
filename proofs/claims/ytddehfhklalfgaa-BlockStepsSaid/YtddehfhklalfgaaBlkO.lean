/-
  ARGUMENTS OPENED: an array of bytes as 'bytes n f'; a row of bytes that the kit's 'open_ints' has read.
-/
import Derived.Test.YtddehfhklalfgaaProg
import Derived.Test.YtddehfhklalfgaaBlkT
import Derived.OpenShut
import Derived.ProofKit
import Derived.Below
import Derived.Carry
namespace Go.Proofs.Ytddehfhklalfgaa
open Go.RowKit Go.ChangeShapes Go.WideShapes Gf

theorem byte_of (a : Int) (h : (Lit.int .u8 a).wf = true) : ∃ x : BitVec 8, a = (x.toNat : Int) := by
  have hx : 0 ≤ a ∧ a ≤ 255 := by simpa [Lit.wf, IntKind.min, IntKind.max, IntKind.signed, IntKind.bits] using h
  refine ⟨BitVec.ofNat 8 a.toNat, ?_⟩
  rw [BitVec.toNat_ofNat]
  omega

section
variable {H : Type} {enc : TypeId × Value → H} {P : Program} {W : World} {base : Nat} {sp : Nat → Bool} {held : Bool}

theorem flat_nil {α β : Type} (xs : List (α × List β)) (h : ∀ (i : Nat) x, xs[i]? = some x → x.2 = []) : xs.flatMap (·.2) = [] := by
  induction xs with
  | nil => rfl
  | cons x xs ih =>
    rw [List.flatMap_cons, h 0 x rfl, ih (fun i y hy => h (i + 1) y (by simpa using hy))]
    rfl

/-- An array of n bytes that an argument has: as a function of the place. -/
theorem open_bytes {r : Reach} {b0 n : Nat} {t e : TypeId} {v : Value} {d : DataW H} {ps : List MemPlace} (ht : P.underlying t = some (.array n e)) (he : P.underlying e = some (.int .u8)) (hc : P.cellsOf t = n) (hce : P.cellsOf e = 1)
    (hval : Value.okWide P W r b0 t v) (hd : DataW.Trod enc P W base sp held t v d ps) : ∃ f : Bf, v = .agg (bytes n f) ∧ ps = [] := by
  simp only [Value.okWide, ht] at hval
  obtain ⟨cs, rfl, hsz, _⟩ := hval
  obtain ⟨fuel, hf⟩ := hd
  obtain ⟨xs, m, rfl, hx, hl, hxl, hel⟩ := DataW.trod_array ht hf
  have hl' : cs.size = n := by rw [hsz, hc]
  have key : ∀ i, i < n → ∃ x : BitVec 8, cs[i]? = some (.int .u8 x.toNat) ∧ ∃ y, xs[i]? = some y ∧ y.2 = [] := by
    intro i hi
    have h1 := hel i hi
    have hsome : ∃ y, xs[i]? = some y := ⟨xs[i]'(by omega), List.getElem?_eq_getElem (by omega)⟩
    obtain ⟨y, hy⟩ := hsome
    rw [hy, hce] at h1
    obtain ⟨a, ha, rfl, hw⟩ := DataW.trod_int he h1
    obtain ⟨x, rfl⟩ := byte_of a hw
    refine ⟨x, ?_, _, hy, rfl⟩
    have e1 : (Value.cells (.agg cs)).toList = cs.toList := rfl
    rw [e1, Nat.mul_one] at ha
    have h2 := congrArg (fun l => l[0]?) ha
    simp at h2
    exact h2
  refine ⟨fun i => if h : i < n then (key i h).choose else 0#8, ?_, ?_⟩
  · congr 1
    apply Array.ext_getElem?
    intro i
    by_cases hi : i < n
    · rw [bytes_get _ _ _ hi]
      simp only [dif_pos hi]
      exact (key i hi).choose_spec.1
    · rw [Array.getElem?_eq_none (by omega), Array.getElem?_eq_none (by rw [bytes_size]; omega)]
  · have e2 : ps = xs.flatMap (·.2) := by
      have := congrArg Prod.snd hx
      simpa using this
    rw [e2]
    refine flat_nil xs fun i x hx' => ?_
    have hi : i < n := by
      have : i < xs.length := by
        rcases Nat.lt_or_ge i xs.length with h | h
        · exact h
        · rw [List.getElem?_eq_none h] at hx'; cases hx'
      omega
    obtain ⟨_, _, y, hy, h0⟩ := key i hi
    rw [hx'] at hy
    cases hy
    exact h0

/-- A row of bytes that an argument has: nil, or read. -/
theorem open_row {r : Reach} {b0 : Nat} {t e : TypeId} {v : Value} {d : DataW H} {ps : List MemPlace} (ht : P.underlying t = some (.slice e)) (he : P.underlying e = some (.int .u8)) (hce : P.cellsOf e = 1)
    (hval : Value.okWide P W r b0 t v) (hd : DataW.Trod enc P W base sp held t v d ps) (hlt : ∀ x ∈ ps, x.block < W.heap.size) :
    ∃ (A : Option Addr) (n c : Nat) (bf : Bf), v = .slice A n c ∧ n ≤ c ∧ c ≤ maxLen ∧ RdB W A n bf := by
  obtain ⟨a, len, cap, rfl⟩ := okWide_slice ht hval
  obtain ⟨fuel, hf⟩ := hd
  rcases open_ints ht he hce hf with ⟨h1, _⟩ | ⟨ad, l, c, zs, h1, _, hlc, hm, hz, hx, hcell, hwf⟩
  · have e1 : (Value.cells (.slice a len cap)).toList = [.slice a len cap] := rfl
    rw [e1] at h1
    obtain ⟨rfl, rfl, rfl⟩ : a = none ∧ len = 0 ∧ cap = 0 := by simpa using h1
    exact ⟨none, 0, 0, fun _ => 0#8, rfl, Nat.le_refl _, by simp [maxLen], fun h => absurd h (by omega)⟩
  · have e1 : (Value.cells (.slice a len cap)).toList = [.slice a len cap] := rfl
    rw [e1] at h1
    obtain ⟨rfl, rfl, rfl⟩ : a = some ad ∧ len = l ∧ cap = c := by simpa using h1
    have hzl : len ≤ zs.length := by rw [hz]; split <;> omega
    refine ⟨some ad, len, cap, fun j => BitVec.ofNat 8 (zs.getD j 0).toNat, rfl, hlc, hm, fun h => ⟨ad, rfl, ?_, fun j hj => ?_⟩⟩
    · have e2 : ps = MemPlace.row ad zs.length := by
        have := congrArg Prod.snd hx
        simpa using this
      have hmem : MemPlace.cell ad.block ad.off ∈ ps := by
        rw [e2]
        unfold MemPlace.row
        simp
        omega
      exact hlt _ hmem
    · rw [hcell j (by omega)]
      have hj' : j < zs.length := by omega
      have hw := hwf _ (List.getElem_mem hj')
      obtain ⟨x, hx⟩ := byte_of _ hw
      have e3 : zs.getD j 0 = (x.toNat : Int) := by rw [← hx]; simp [List.getD, hj']
      show some (Value.int .u8 (zs.getD j 0)) = some (Value.int .u8 ((BitVec.ofNat 8 (zs.getD j 0).toNat).toNat : Int))
      rw [e3, Int.toNat_natCast, BitVec.ofNat_toNat, BitVec.setWidth_eq]
end
end Go.Proofs.Ytddehfhklalfgaa
