/-
  THE WALKS of the statements of layer 1: each returns true at every input; nothing of the world turns but the count of drawn orders.
-/
import Derived.Test.YthjigmfooobfmaaOctW
namespace Go.Proofs.Ythjigmfooobfmaa
open Go.RowKit Gf

theorem mul_eq (a b c : B8) (h : mul8 a b = c) (w : World) : Calls Try.prog 16 #[.int .u8 a.toNat, .int .u8 b.toNat] w fun e w' => e = .returned (.int .u8 c.toNat) ∧ w = w' := by
  subst h; exact mul_any a b w

set_option maxHeartbeats 1000000 in
theorem octetMuls_walk (a b : B8) (w : World) : Calls Try.prog 3 #[.int .u8 a.toNat, .int .u8 b.toNat] w fun e w' => e = .returned (.bool true) ∧ Drew w w' := by
  go_enter Try.func3, Try.ntmps3
  go_wp2_with fail
  refine (shown_any _).mono ?_
  rintro e w' ⟨rfl, rfl⟩
  go_wp2_with fail
  refine (mul_any _ _ _).mono ?_
  rintro e w' ⟨rfl, rfl⟩
  go_wp2_with fail
  refine (refMul_any _ _ _).mono ?_
  rintro e w' ⟨rfl, rfl⟩
  go_wp2_with fail
  refine (mul_eq b a (mul8 a b) (mul8_comm b a) _).mono ?_
  rintro e w' ⟨rfl, rfl⟩
  go_wp2_with fail
  refine (mul_any _ _ _).mono ?_
  rintro e w' ⟨rfl, rfl⟩
  go_wp2_with fail
  refine (times2_any _ _).mono ?_
  rintro e w' ⟨rfl, rfl⟩
  go_wp2_with fail
  refine (mul_eq a 2#8 (t2 a) (mul8_two a).symm _).mono ?_
  rintro e w' ⟨rfl, rfl⟩
  go_wp2_with fail
  go_ret
  exact ⟨rfl, Drew.refl _⟩

theorem nat_ne {x y : B8} (h : x ≠ y) : ((x.toNat : Int) == (y.toNat : Int)) = false := by
  rw [beq_eq_false_iff_ne]
  intro e
  exact h (BitVec.eq_of_toNat_eq (by omega))
theorem nat_neq {x y : B8} (h : x ≠ y) : ((x.toNat : Int) != (y.toNat : Int)) = true := by
  rw [bne, nat_ne h]; rfl

set_option maxHeartbeats 1000000 in
theorem octetInverts_zero (w : World) : Calls Try.prog 4 #[.int .u8 0] w fun e w' => e = .returned (.bool true) ∧ Drew w w' := by
  have m1 : ∀ w, Calls Try.prog 19 #[.int .u8 0] w fun e w' => e = .returned (.int .u8 0) ∧ w = w' := shown_m5
  have m2 : ∀ w, Calls Try.prog 16 #[.int .u8 0, .int .u8 0] w fun e w' => e = .returned (.int .u8 0) ∧ w = w' := fun w => mul_eq 0#8 0#8 0#8 (mul8_zero _) w
  have m3 : ∀ w, Calls Try.prog 20 #[.int .u8 0] w fun e w' => e = .returned (.int .u8 0) ∧ w = w' := fun w => by
    have h := refInvert_any 0#8 w
    rw [inv_zero] at h
    exact h
  have M1 := Lib.hid m1; have M2 := Lib.hid m2; have M3 := Lib.hid m3
  clear m1 m2 m3
  go_enter Try.func4, Try.ntmps4
  go_wp2_with fail
  refine (shown_any _).mono ?_
  rintro e w' ⟨rfl, rfl⟩
  go_wp2_with fail
  refine (M1.out _).mono ?_
  rintro e w' ⟨rfl, rfl⟩
  go_wp2_with fail
  refine (M2.out _).mono ?_
  rintro e w' ⟨rfl, rfl⟩
  go_wp2_with fail
  refine (M3.out _).mono ?_
  rintro e w' ⟨rfl, rfl⟩
  go_wp2_with fail
  refine (M1.out _).mono ?_
  rintro e w' ⟨rfl, rfl⟩
  go_wp2_with fail
  go_ret
  exact ⟨rfl, Drew.refl _⟩

theorem inv_back (a : B8) (w : World) : Calls Try.prog 19 #[.int .u8 (inv8 a).toNat] w fun e w' => e = .returned (.int .u8 a.toNat) ∧ w = w' := by
  have h := invert_any (inv8 a) w
  rw [inv_inv] at h
  exact h

set_option maxHeartbeats 1000000 in
theorem octetInverts_walk (a : B8) (w : World) : Calls Try.prog 4 #[.int .u8 a.toNat] w fun e w' => e = .returned (.bool true) ∧ Drew w w' := by
  by_cases h : a = 0#8
  · subst h
    exact octetInverts_zero w
  · have h1 : ((a.toNat : Int) == 0) = false := nat_ne (y := 0#8) h
    have h2 : ((a.toNat : Int) != 0) = true := nat_neq (y := 0#8) h
    have HM := Lib.hid (inv_ne a h)
    clear h
    go_enter Try.func4, Try.ntmps4
    go_wp2_with fail
    refine (shown_any _).mono ?_
    rintro e w' ⟨rfl, rfl⟩
    go_wp2_with fail
    refine (invert_any _ _).mono ?_
    rintro e w' ⟨rfl, rfl⟩
    go_wp2_with fail
    refine (mul_eq a (inv8 a) 1#8 HM.out _).mono ?_
    rintro e w' ⟨rfl, rfl⟩
    go_wp2_with fail
    refine (refInvert_any _ _).mono ?_
    rintro e w' ⟨rfl, rfl⟩
    go_wp2_with fail
    refine (inv_back a _).mono ?_
    rintro e w' ⟨rfl, rfl⟩
    go_wp2_with fail
    go_ret
    exact ⟨rfl, Drew.refl _⟩

set_option maxHeartbeats 1000000 in
theorem octetBoxes_walk (a : B8) (w : World) : Calls Try.prog 5 #[.int .u8 a.toNat] w fun e w' => e = .returned (.bool true) ∧ Drew w w' := by
  go_enter Try.func5, Try.ntmps5
  go_wp2_with fail
  refine (shown_any _).mono ?_
  rintro e w' ⟨rfl, rfl⟩
  go_wp2_with fail
  refine (box_any _ _).mono ?_
  rintro e w' ⟨rfl, rfl⟩
  go_wp2_with fail
  refine (refBox_any _ _).mono ?_
  rintro e w' ⟨rfl, hd⟩
  go_wp2_with fail
  go_ret
  exact ⟨rfl, hd⟩

set_option maxHeartbeats 1000000 in
theorem octetSpreads_walk (a b c : B8) (w : World) : Calls Try.prog 6 #[.int .u8 a.toNat, .int .u8 b.toNat, .int .u8 c.toNat] w fun e w' => e = .returned (.bool true) ∧ Drew w w' := by
  have hx := bits_xor8 b c
  have hy := bits_xor8 (mul8 a b) (mul8 a c)
  go_enter Try.func6, Try.ntmps6
  go_wp2_with fail
  refine (shown_any _).mono ?_
  rintro e w' ⟨rfl, rfl⟩
  go_wp2_with fail
  refine (mul_eq a (b ^^^ c) _ (mul8_spread a b c) _).mono ?_
  rintro e w' ⟨rfl, rfl⟩
  go_wp2_with fail
  refine (mul_any a b _).mono ?_
  rintro e w' ⟨rfl, rfl⟩
  go_wp2_with fail
  refine (mul_any a c _).mono ?_
  rintro e w' ⟨rfl, rfl⟩
  go_wp2_with fail
  refine (mul_any a b _).mono ?_
  rintro e w' ⟨rfl, rfl⟩
  go_wp2_with fail
  refine (mul_eq (mul8 a b) c _ (mul8_assoc a b c) _).mono ?_
  rintro e w' ⟨rfl, rfl⟩
  go_wp2_with fail
  refine (mul_any b c _).mono ?_
  rintro e w' ⟨rfl, rfl⟩
  go_wp2_with fail
  refine (mul_any a (mul8 b c) _).mono ?_
  rintro e w' ⟨rfl, rfl⟩
  go_wp2_with fail
  refine (mul_eq a 1#8 _ (mul8_one a) _).mono ?_
  rintro e w' ⟨rfl, rfl⟩
  go_wp2_with fail
  refine (mul_eq a 0#8 _ (mul8_zero a) _).mono ?_
  rintro e w' ⟨rfl, rfl⟩
  go_wp2_with fail
  go_ret
  exact ⟨rfl, Drew.refl _⟩

set_option maxHeartbeats 1000000 in
theorem octetTells_walk (a b : B8) (w : World) : Calls Try.prog 7 #[.int .u8 a.toNat, .int .u8 b.toNat] w fun e w' => e = .returned (.bool true) ∧ Drew w w' := by
  have hs : (((box8 a).toNat : Int) == ((box8 b).toNat : Int)) = ((a.toNat : Int) == (b.toNat : Int)) := by
    by_cases h : a = b
    · subst h; simp
    · rw [nat_ne h, nat_ne fun e => h (box_inj e)]
  have hm : (((box8 a).toNat : Int) != (a.toNat : Int)) = true := nat_neq (bne_iff_ne.1 (box_moves a).1)
  have hn : (((box8 a).toNat : Int) != bits .xor .u8 IntKind.u8.max (a.toNat : Int)) = true := by
    rw [show IntKind.u8.max = ((255#8).toNat : Int) from rfl, bits_xor8, show 255#8 ^^^ a = ~~~a from by rw [BitVec.xor_comm]; exact BitVec.xor_allOnes]
    exact nat_neq (bne_iff_ne.1 (box_moves a).2)
  have hg : IntKind.u8.signed = false := rfl
  go_enter Try.func7, Try.ntmps7
  go_wp2_with fail
  refine (shown_any _).mono ?_
  rintro e w' ⟨rfl, rfl⟩
  go_wp2_with fail
  refine (box_any a _).mono ?_
  rintro e w' ⟨rfl, rfl⟩
  go_wp2_with fail
  refine (box_any b _).mono ?_
  rintro e w' ⟨rfl, rfl⟩
  go_wp2_with fail
  refine (box_any a _).mono ?_
  rintro e w' ⟨rfl, rfl⟩
  go_wp2_with fail
  refine (box_any a _).mono ?_
  rintro e w' ⟨rfl, rfl⟩
  go_wp2_with fail
  go_ret
  exact ⟨rfl, Drew.refl _⟩

set_option maxRecDepth 10000 in
set_option maxHeartbeats 1000000 in
theorem octetPowers_walk (a : B8) (w : World) : Calls Try.prog 8 #[.int .u8 a.toNat] w fun e w' => e = .returned (.bool true) ∧ Drew w w' := by
  go_enter Try.func8, Try.ntmps8
  go_wp2_with fail
  refine (shown_any _).mono ?_
  rintro e w' ⟨rfl, rfl⟩
  go_wp2_with fail
  go_loop [4, 5] (fun x i => ∃ k : Nat, k ≤ 255 ∧ i = .int .i64 k ∧ x = .int .u8 (pow8 a k).toNat) (fun _ i => 255 - (intOf i).toNat)
  case atStart => exact ⟨0, by omega, rfl, rfl⟩
  case round =>
    obtain ⟨k, hk, rfl, rfl⟩ := hrel
    by_cases hlt : k < 255
    · go_wp2_with fail
      refine (mul_any _ _ _).mono ?_
      rintro e w' ⟨rfl, rfl⟩
      go_wp2_with fail
      go_round
      case rel => exact ⟨k + 1, by omega, by go_num, rfl⟩
      case measure => simp [intOf]; omega
    · obtain rfl : k = 255 := by omega
      have hp := pow_255 a
      generalize pow8 a 255 = q at *
      by_cases h : a = 0#8
      · subst h
        have hv : (q.toNat : Int) = 0 := by rw [hp]; rfl
        have h1 : (((0#8).toNat : Int) == 0) = true := rfl
        rw [hv]
        clear hp
        go_wp2
        go_ret
        exact ⟨rfl, Drew.refl _⟩
      · have hv : (q.toNat : Int) = 1 := by rw [hp, beq_eq_false_iff_ne.2 h]; rfl
        have h1 : ((a.toNat : Int) == 0) = false := nat_ne (y := 0#8) h
        have h2 : ((a.toNat : Int) != 0) = true := nat_neq (y := 0#8) h
        rw [hv]
        clear hp h
        go_wp2
        go_ret
        exact ⟨rfl, Drew.refl _⟩

set_option maxHeartbeats 1000000 in
theorem octetDoubles_walk (a b : B8) (w : World) : Calls Try.prog 9 #[.int .u8 a.toNat, .int .u8 b.toNat] w fun e w' => e = .returned (.bool true) ∧ Drew w w' := by
  go_enter Try.func9, Try.ntmps9
  go_wp2_with fail
  refine (shown_any _).mono ?_
  rintro e w' ⟨rfl, rfl⟩
  go_wp2_with fail
  go_loop [6, 7, 8] (fun s x i => ∃ k : Nat, k ≤ 8 ∧ i = .int .i64 k ∧ s = .int .u8 (mulTo a b k).toNat ∧ x = .int .u8 (pw t2 k a).toNat) (fun _ _ i => 8 - (intOf i).toNat)
  case atStart => exact ⟨0, by omega, rfl, rfl, rfl⟩
  case round =>
    obtain ⟨k, hk, rfl, rfl, rfl⟩ := hrel
    by_cases hlt : k < 8
    · have hbit := bit_asked b k
      cases hg : b.getLsbD k
      · rw [hg] at hbit
        have HH := Lib.hid (show ((mulTo a b k).toNat : Int) = ((mulTo a b (k + 1)).toNat : Int) by
          show _ = ((mulTo a b k ^^^ sel (b.getLsbD k) (pw t2 k a)).toNat : Int)
          rw [hg]; simp [sel])
        clear hg
        go_wp2_with (go_at_call 18; refine (times2_any _ _).mono ?_; rintro e w' ⟨rfl, rfl⟩)
        go_round
        case rel => exact ⟨k + 1, by omega, by go_num, val8 HH.out, rfl⟩
        case measure => simp [intOf]; omega
      · rw [hg] at hbit
        have HH := Lib.hid (show bits .xor .u8 ((mulTo a b k).toNat : Int) ((pw t2 k a).toNat : Int) = ((mulTo a b (k + 1)).toNat : Int) by
          rw [bits_xor8]
          show _ = ((mulTo a b k ^^^ sel (b.getLsbD k) (pw t2 k a)).toNat : Int)
          rw [hg]; rfl)
        clear hg
        go_wp2_with (go_at_call 18; refine (times2_any _ _).mono ?_; rintro e w' ⟨rfl, rfl⟩)
        go_round
        case rel => exact ⟨k + 1, by omega, by go_num, val8 HH.out, rfl⟩
        case measure => simp [intOf]; omega
    · obtain rfl : k = 8 := by omega
      go_wp2_with (go_at_call 16; refine (mul_eq a b (mulTo a b 8) rfl _).mono ?_; rintro e w' ⟨rfl, rfl⟩)
      go_ret
      exact ⟨rfl, Drew.refl _⟩

end Go.Proofs.Ythjigmfooobfmaa
