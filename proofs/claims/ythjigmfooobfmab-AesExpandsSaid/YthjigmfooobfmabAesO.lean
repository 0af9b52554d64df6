/-
  ARGUMENTS OPENED: an array of bytes as 'bytes n f'; an array of arrays of bytes too.
-/
import Derived.Test.YthjigmfooobfmabProg
import Derived.Test.YthjigmfooobfmabAesM
import Derived.OpenShut
import Derived.ProofKit
import Derived.Below
import Derived.Carry
namespace Go.Proofs.Ythjigmfooobfmab
open Go.RowKit Go.ChangeShapes Go.WideShapes Gf

theorem byte_of (a : Int) (h : (Lit.int .u8 a).wf = true) : ∃ x : BitVec 8, a = (x.toNat : Int) := by
  have hx : 0 ≤ a ∧ a ≤ 255 := by simpa [Lit.wf, IntKind.min, IntKind.max, IntKind.signed, IntKind.bits] using h
  refine ⟨BitVec.ofNat 8 a.toNat, ?_⟩
  rw [BitVec.toNat_ofNat]
  omega

section
variable {H : Type} {enc : TypeId × Value → H} {P : Program} {W : World} {base : Nat} {sp : Nat → Bool} {held : Bool}

theorem flat_nil {α β : Type} (xs : List (α × List β)) (h : ∀ (i : Nat) x, xs[i]? = some x → x.2 = []) : xs.flatMap (·.2) = [] := by
  induction xs with
  | nil => rfl
  | cons x xs ih =>
    rw [List.flatMap_cons, h 0 x rfl, ih (fun i y hy => h (i + 1) y (by simpa using hy))]
    rfl

/-- An array of n bytes that an argument has: as a function of the place. -/
theorem open_bytes {r : Reach} {b0 n : Nat} {t e : TypeId} {v : Value} {d : DataW H} {ps : List MemPlace} (ht : P.underlying t = some (.array n e)) (he : P.underlying e = some (.int .u8)) (hc : P.cellsOf t = n) (hce : P.cellsOf e = 1)
    (hval : Value.okWide P W r b0 t v) (hd : DataW.Trod enc P W base sp held t v d ps) : ∃ f : Bf, v = .agg (bytes n f) ∧ ps = [] := by
  simp only [Value.okWide, ht] at hval
  obtain ⟨cs, rfl, hsz, _⟩ := hval
  obtain ⟨fuel, hf⟩ := hd
  obtain ⟨xs, m, rfl, hx, hl, hxl, hel⟩ := DataW.trod_array ht hf
  have hl' : cs.size = n := by rw [hsz, hc]
  have key : ∀ i, i < n → ∃ x : BitVec 8, cs[i]? = some (.int .u8 x.toNat) ∧ ∃ y, xs[i]? = some y ∧ y.2 = [] := by
    intro i hi
    have h1 := hel i hi
    have hsome : ∃ y, xs[i]? = some y := ⟨xs[i]'(by omega), List.getElem?_eq_getElem (by omega)⟩
    obtain ⟨y, hy⟩ := hsome
    rw [hy, hce] at h1
    obtain ⟨a, ha, rfl, hw⟩ := DataW.trod_int he h1
    obtain ⟨x, rfl⟩ := byte_of a hw
    refine ⟨x, ?_, _, hy, rfl⟩
    have e1 : (Value.cells (.agg cs)).toList = cs.toList := rfl
    rw [e1, Nat.mul_one] at ha
    have h2 := congrArg (fun l => l[0]?) ha
    simp at h2
    exact h2
  refine ⟨fun i => if h : i < n then (key i h).choose else 0#8, ?_, ?_⟩
  · congr 1
    apply Array.ext_getElem?
    intro i
    by_cases hi : i < n
    · rw [bytes_get _ _ _ hi]
      simp only [dif_pos hi]
      exact (key i hi).choose_spec.1
    · rw [Array.getElem?_eq_none (by omega), Array.getElem?_eq_none (by rw [bytes_size]; omega)]
  · have e2 : ps = xs.flatMap (·.2) := by
      have := congrArg Prod.snd hx
      simpa using this
    rw [e2]
    refine flat_nil xs fun i x hx' => ?_
    have hi : i < n := by
      have : i < xs.length := by
        rcases Nat.lt_or_ge i xs.length with h | h
        · exact h
        · rw [List.getElem?_eq_none h] at hx'; cases hx'
      omega
    obtain ⟨_, _, y, hy, h0⟩ := key i hi
    rw [hx'] at hy
    cases hy
    exact h0

/-- A row of n arrays of m bytes that an argument has: as one function of the place. -/
theorem open_bytes2 {r : Reach} {b0 n m : Nat} {t e u : TypeId} {v : Value} {d : DataW H} {ps : List MemPlace} (ht : P.underlying t = some (.array n e)) (he : P.underlying e = some (.array m u)) (hu : P.underlying u = some (.int .u8))
    (hm : 0 < m) (hc : P.cellsOf t = n * m) (hce : P.cellsOf e = m) (hcu : P.cellsOf u = 1)
    (hval : Value.okWide P W r b0 t v) (hd : DataW.Trod enc P W base sp held t v d ps) : ∃ f : Bf, v = .agg (bytes (n * m) f) ∧ ps = [] := by
  simp only [Value.okWide, ht] at hval
  obtain ⟨cs, rfl, hsz, _⟩ := hval
  obtain ⟨fuel, hf⟩ := hd
  obtain ⟨xs, k, rfl, hx, hl, hxl, hel⟩ := DataW.trod_array ht hf
  have hl' : cs.size = n * m := by rw [hsz, hc]
  have e1 : (Value.cells (.agg cs)).toList = cs.toList := rfl
  rw [e1, hce] at hel
  have row : ∀ i, i < n → ∃ y, xs[i]? = some y ∧ y.2 = [] ∧ ∀ j, j < m → ∃ x : BitVec 8, cs[i * m + j]? = some (.int .u8 x.toNat) := by
    intro i hi
    have h1 := hel i hi
    obtain ⟨y, hy⟩ : ∃ y, xs[i]? = some y := ⟨xs[i]'(by omega), List.getElem?_eq_getElem (by omega)⟩
    rw [hy] at h1
    obtain ⟨ys, k2, rfl, hy2, hl2, hyl, hel2⟩ := DataW.trod_array he h1
    have cell : ∀ j, j < m → ∃ x : BitVec 8, cs[i * m + j]? = some (.int .u8 x.toNat) ∧ ∃ z, ys[j]? = some z ∧ z.2 = [] := by
      intro j hj
      have h3 := hel2 j hj
      obtain ⟨z, hz⟩ : ∃ z, ys[j]? = some z := ⟨ys[j]'(by omega), List.getElem?_eq_getElem (by omega)⟩
      rw [hz, hcu] at h3
      obtain ⟨a, ha, rfl, hw⟩ := DataW.trod_int hu h3
      obtain ⟨x, rfl⟩ := byte_of a hw
      refine ⟨x, ?_, _, hz, rfl⟩
      rw [Nat.mul_one] at ha
      have h4 := congrArg (fun l => l[0]?) ha
      simp [List.getElem?_drop, hj] at h4
      exact h4
    refine ⟨y, hy, ?_, fun j hj => (cell j hj).imp fun x hx => hx.1⟩
    have e2 : y.2 = ys.flatMap (·.2) := by
      have := congrArg Prod.snd hy2
      simpa using this
    rw [e2]
    refine flat_nil ys fun j z hz => ?_
    have hj : j < m := by
      rcases Nat.lt_or_ge j ys.length with h | h
      · omega
      · rw [List.getElem?_eq_none h] at hz; cases hz
    obtain ⟨_, _, z', hz', h0⟩ := cell j hj
    rw [hz] at hz'
    cases hz'
    exact h0
  have key : ∀ i, i < n * m → ∃ x : BitVec 8, cs[i]? = some (.int .u8 x.toNat) := by
    intro i hi
    have hq : i / m < n := (Nat.div_lt_iff_lt_mul hm).2 hi
    obtain ⟨_, _, _, hc⟩ := row (i / m) hq
    have h := hc (i % m) (Nat.mod_lt _ hm)
    rwa [show i / m * m + i % m = i from Nat.div_add_mod' i m] at h
  refine ⟨fun i => if h : i < n * m then (key i h).choose else 0#8, ?_, ?_⟩
  · congr 1
    apply Array.ext_getElem?
    intro i
    by_cases hi : i < n * m
    · rw [bytes_get _ _ _ hi]
      simp only [dif_pos hi]
      exact (key i hi).choose_spec
    · rw [Array.getElem?_eq_none (by omega), Array.getElem?_eq_none (by rw [bytes_size]; omega)]
  · have e2 : ps = xs.flatMap (·.2) := by
      have := congrArg Prod.snd hx
      simpa using this
    rw [e2]
    refine flat_nil xs fun i x hx' => ?_
    have hi : i < n := by
      rcases Nat.lt_or_ge i xs.length with h | h
      · omega
      · rw [List.getElem?_eq_none h] at hx'; cases hx'
    obtain ⟨y, hy, h0, _⟩ := row i hi
    rw [hx'] at hy
    cases hy
    exact h0
end
end Go.Proofs.Ythjigmfooobfmab
