/-
  PLAIN LAWS: a round tells two blocks apart; so does a key.
-/
import Derived.Test.YthjigmfooobfmabAesL2
namespace Go.Proofs.Ythjigmfooobfmab
open Go.RowKit Gf
set_option linter.unusedSimpArgs false

theorem xor_zero_eq {x y : B8} (h : x ^^^ y = 0#8) : x = y := by
  have e : x ^^^ y ^^^ y = 0#8 ^^^ y := by rw [h]
  rwa [BitVec.xor_assoc, BitVec.xor_self, BitVec.xor_zero, BitVec.zero_xor] at e
theorem mix_lin (a b : Bf) (r : Nat) : mixW a r ^^^ mixW b r = mixW (fun i => a i ^^^ b i) r := by
  show (a r ^^^ (a 0 ^^^ a 1 ^^^ a 2 ^^^ a 3) ^^^ t2 (a r ^^^ a ((r + 1) % 4))) ^^^ (b r ^^^ (b 0 ^^^ b 1 ^^^ b 2 ^^^ b 3) ^^^ t2 (b r ^^^ b ((r + 1) % 4))) = (a r ^^^ b r) ^^^ ((a 0 ^^^ b 0) ^^^ (a 1 ^^^ b 1) ^^^ (a 2 ^^^ b 2) ^^^ (a 3 ^^^ b 3)) ^^^ t2 ((a r ^^^ b r) ^^^ (a ((r + 1) % 4) ^^^ b ((r + 1) % 4)))
  rw [xor4 (a r) (b r) (a ((r + 1) % 4)) (b ((r + 1) % 4)), t2_lin (a r ^^^ a ((r + 1) % 4))]
  ac_rfl
/-- Only noughts are mixed to noughts. -/
theorem mix_zero {d0 d1 d2 d3 s : B8} (hs : d0 ^^^ d1 ^^^ d2 ^^^ d3 = s) (h0 : d0 ^^^ s ^^^ t2 (d0 ^^^ d1) = 0#8) (h1 : d1 ^^^ s ^^^ t2 (d1 ^^^ d2) = 0#8) (h2 : d2 ^^^ s ^^^ t2 (d2 ^^^ d3) = 0#8) (h3 : d3 ^^^ s ^^^ t2 (d3 ^^^ d0) = 0#8) : d0 = 0#8 ∧ d1 = 0#8 ∧ d2 = 0#8 ∧ d3 = 0#8 := by
  have z : t2 0#8 = 0#8 := t2_lin.zero
  have e0 := xor_zero_eq h0
  have e1 := xor_zero_eq h1
  have e2 := xor_zero_eq h2
  have e3 := xor_zero_eq h3
  have k : ∀ x y : B8, x ^^^ s ^^^ (y ^^^ s) = x ^^^ y := fun x y => by rw [xor4, BitVec.xor_self, BitVec.xor_zero]
  -- the sum of all four
  have hs0 : s = 0#8 := by
    have q : (d0 ^^^ s ^^^ (d1 ^^^ s)) ^^^ (d2 ^^^ s ^^^ (d3 ^^^ s)) = (t2 (d0 ^^^ d1) ^^^ t2 (d1 ^^^ d2)) ^^^ (t2 (d2 ^^^ d3) ^^^ t2 (d3 ^^^ d0)) := by rw [e0, e1, e2, e3]
    rw [k, k, ← t2_lin, ← t2_lin, ← t2_lin] at q
    have r : (d0 ^^^ d1 ^^^ (d1 ^^^ d2)) ^^^ (d2 ^^^ d3 ^^^ (d3 ^^^ d0)) = 0#8 := by
      have a1 : d0 ^^^ d1 ^^^ (d1 ^^^ d2) = d0 ^^^ d2 := by rw [BitVec.xor_assoc, ← BitVec.xor_assoc d1, BitVec.xor_self, BitVec.zero_xor]
      have a2 : d2 ^^^ d3 ^^^ (d3 ^^^ d0) = d2 ^^^ d0 := by rw [BitVec.xor_assoc, ← BitVec.xor_assoc d3, BitVec.xor_self, BitVec.zero_xor]
      rw [a1, a2, BitVec.xor_comm d2 d0, BitVec.xor_self]
    rw [r, z] at q
    rw [← hs]
    rw [show d0 ^^^ d1 ^^^ d2 ^^^ d3 = d0 ^^^ d1 ^^^ (d2 ^^^ d3) by rw [BitVec.xor_assoc (d0 ^^^ d1)]]
    exact q
  rw [hs0, BitVec.xor_zero] at e0 e1 e2 e3
  have p : ∀ x y u v : B8, x = t2 (x ^^^ y) → y = t2 (y ^^^ u) → u = t2 (u ^^^ v) → x ^^^ y ^^^ u ^^^ v = 0#8 → x = 0#8 := by
    intro x y u v hx hy hu hz
    have a1 : x ^^^ y = t2 (x ^^^ u) := by
      have : x ^^^ y = t2 (x ^^^ y) ^^^ t2 (y ^^^ u) := by rw [← hx, ← hy]
      rw [this, ← t2_lin, BitVec.xor_assoc, ← BitVec.xor_assoc y, BitVec.xor_self, BitVec.zero_xor]
    have a2 : y ^^^ u = t2 (y ^^^ v) := by
      have : y ^^^ u = t2 (y ^^^ u) ^^^ t2 (u ^^^ v) := by rw [← hy, ← hu]
      rw [this, ← t2_lin, BitVec.xor_assoc, ← BitVec.xor_assoc u, BitVec.xor_self, BitVec.zero_xor]
    have a3 : x ^^^ u = 0#8 := by
      have : x ^^^ u = (x ^^^ y) ^^^ (y ^^^ u) := by rw [BitVec.xor_assoc, ← BitVec.xor_assoc y, BitVec.xor_self, BitVec.zero_xor]
      rw [this, a1, a2, ← t2_lin, ← z]
      congr 1
      rw [← hz]; ac_rfl
    rw [hx, a1, a3, z, z]
  have hz : d0 ^^^ d1 ^^^ d2 ^^^ d3 = 0#8 := by rw [hs, hs0]
  exact ⟨p _ _ _ _ e0 e1 e2 hz, p _ _ _ _ e1 e2 e3 (by rw [← hz]; ac_rfl), p _ _ _ _ e2 e3 e0 (by rw [← hz]; ac_rfl), p _ _ _ _ e3 e0 e1 (by rw [← hz]; ac_rfl)⟩
theorem mix_inj {a b : Bf} (h : ∀ r, r < 4 → mixW a r = mixW b r) (r : Nat) (hr : r < 4) : a r = b r := by
  have d : ∀ r, r < 4 → mixW (fun i => a i ^^^ b i) r = 0#8 := fun r hr => by rw [← mix_lin, h r hr, BitVec.xor_self]
  have q := mix_zero (d0 := a 0 ^^^ b 0) (d1 := a 1 ^^^ b 1) (d2 := a 2 ^^^ b 2) (d3 := a 3 ^^^ b 3) rfl (d 0 (by omega)) (d 1 (by omega)) (d 2 (by omega)) (d 3 (by omega))
  rcases (by omega : r = 0 ∨ r = 1 ∨ r = 2 ∨ r = 3) with rfl | rfl | rfl | rfl
  · exact xor_zero_eq q.1
  · exact xor_zero_eq q.2.1
  · exact xor_zero_eq q.2.2.1
  · exact xor_zero_eq q.2.2.2
theorem mixIf_inj {a b : Bf} {last : Bool} (h : ∀ r, r < 4 → mixIf last a r = mixIf last b r) (r : Nat) (hr : r < 4) : a r = b r := by
  cases last
  · exact mix_inj h r hr
  · exact h r hr
theorem xor_left {x y k : B8} (h : x ^^^ k = y ^^^ k) : x = y := by
  have e : x ^^^ k ^^^ k = y ^^^ k ^^^ k := by rw [h]
  rwa [BitVec.xor_assoc, BitVec.xor_assoc, BitVec.xor_self, BitVec.xor_zero, BitVec.xor_zero] at e
theorem place_all : ∀ j, j < 16 → (4 * ((j / 4 + 4 - j % 4) % 4 + j % 4) + j % 4) % 16 = j := by decide
/-- A round tells two blocks apart. -/
theorem rnd_inj {s s' k : Bf} {last : Bool} (h : ∀ i, i < 16 → rndB s k last i = rndB s' k last i) (j : Nat) (hj : j < 16) : s j = s' j := by
  have hc : ∀ c, c < 4 → ∀ r, r < 4 → colW s c r = colW s' c r := fun c hc => mixIf_inj fun r hr => by
    have q := h (4 * c + r) (by omega)
    unfold rndB at q
    rw [show (4 * c + r) / 4 = c by omega, show (4 * c + r) % 4 = r by omega] at q
    exact xor_left q
  have q := hc ((j / 4 + 4 - j % 4) % 4) (Nat.mod_lt _ (by decide)) (j % 4) (Nat.mod_lt _ (by decide))
  unfold colW at q
  rw [place_all j hj] at q
  exact box_inj q
/-- A key tells two blocks apart. -/
theorem encS_inj {kf s s' : Bf} : ∀ n, (∀ i, i < 16 → encS kf s n i = encS kf s' n i) → ∀ i, i < 16 → s i = s' i
  | 0, h, i, hi => xor_left (h i hi)
  | n + 1, h, i, hi => encS_inj n (rnd_inj h) i hi
theorem enc_ext {kf s s' : Bf} (h : ∀ i, i < 16 → s i = s' i) : ∀ n i, i < 16 → encS kf s n i = encS kf s' n i
  | 0, i, hi => by show s i ^^^ _ = s' i ^^^ _; rw [h i hi]
  | n + 1, _, _ => rndB_ext (enc_ext h n) rfl
theorem same_rnd (s s' k : Bf) (last : Bool) : sameB 16 (rndB s k last) (rndB s' k last) = sameB 16 s s' := by
  rw [Bool.eq_iff_iff, sameB_iff, sameB_iff]
  exact ⟨rnd_inj, fun h i _ => rndB_ext h rfl⟩
theorem same_enc (kf s s' : Bf) : sameB 16 (encB kf s) (encB kf s') = sameB 16 s s' := by
  rw [Bool.eq_iff_iff, sameB_iff, sameB_iff]
  exact ⟨encS_inj 14, fun h i hi => enc_ext h 14 i hi⟩
end Go.Proofs.Ythjigmfooobfmab
