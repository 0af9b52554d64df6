/-
  THE WALK of the statement AesWords: true at every input.
-/
import Derived.Test.YthjigmfooobfmabAesL2
import Derived.IntWalk
import Derived.Deep.DeepCutAuto
import Derived.Lib.Hide
namespace Go.Proofs.Ythjigmfooobfmab
open Go.RowKit Gf
set_option linter.unusedSimpArgs false

attribute [local go_sem] eq_blk zero32
theorem lTo_laid (kf : Bf) : ∀ (d m k : Nat), k < 4 * m → lTo kf (m + d) k = lTo kf m k
  | 0, _, _, _ => rfl
  | d + 1, m, k, h => by
    show laid (lTo kf (m + d)) (4 * (m + d)) 4 _ k = _
    unfold laid
    rw [if_neg (by omega)]
    exact lTo_laid kf d m k h
theorem expB_word (kf : Bf) (i r : Nat) (hi : i < 60) (hr : r < 4) : expB kf (4 * i + r) = newW kf (lTo kf i) (powTo i) i r := by
  have h := lTo_laid kf (60 - (i + 1)) (i + 1) (4 * i + r) (by omega)
  rw [show i + 1 + (60 - (i + 1)) = 60 by omega] at h
  show lTo kf 60 (4 * i + r) = _
  rw [h]
  show laid (lTo kf i) (4 * i) 4 _ (4 * i + r) = _
  unfold laid
  rw [if_pos (by omega), show 4 * i + r - 4 * i = r by omega]
theorem lTo_exp (kf : Bf) (i k : Nat) (hi : i ≤ 60) (hk : k < 4 * i) : lTo kf i k = expB kf k := by
  have h := lTo_laid kf (60 - i) i k hk
  rw [show i + (60 - i) = 60 by omega] at h
  exact h.symm
theorem words_law (kf : Bf) (i r : Nat) (h8 : 8 ≤ i) (hi : i < 60) (h4 : i % 4 ≠ 0) (hr : r < 4) : expB kf (4 * i + r) = expB kf (4 * (i - 1) + r) ^^^ expB kf (4 * (i - 8) + r) := by
  rw [expB_word kf i r hi hr]
  unfold newW
  rw [if_neg (by omega)]
  unfold subW
  rw [if_neg (by omega), if_neg (by omega)]
  show lTo kf i (4 * (i - 1) + r) ^^^ lTo kf i (4 * (i - 8) + r) = _
  rw [lTo_exp kf i _ (by omega) (by omega), lTo_exp kf i _ (by omega) (by omega)]
/-- The place of a word's byte among a key's blocks, as the walk's numbers. -/
structure At (A j c m s r : Nat) : Prop where
  pd : ((A : Int)).tdiv 4 = (c : Int)
  pw : IntKind.i64.wrap (c : Int) = (c : Int)
  pm : ((A : Int)).tmod 4 = (m : Int)
  ps : IntKind.i64.wrap ((m : Int) * 4) = (s : Int)
  pr : IntKind.i64.wrap ((s : Int) + (j : Int)) = (r : Int)
  hc : (c : Int) < 15
  hr : (r : Int) < 16
  e : c * 16 + r = 4 * A + j
theorem at_of (A j : Nat) (hA : A < 60) (hj : j < 4) : ∃ c m s r, At A j c m s r :=
  ⟨A / 4, A % 4, A % 4 * 4, A % 4 * 4 + j, ⟨by rw [Int.tdiv_eq_ediv_of_nonneg (by omega)]; omega, IntWalk.i64_in _ (by omega), by rw [Int.tmod_eq_emod_of_nonneg (by omega)]; omega, by rw [IntWalk.i64_in _ (by omega)]; omega, by rw [IntWalk.i64_in _ (by omega)]; omega, by omega, by omega, by omega⟩⟩
set_option maxRecDepth 100000 in
set_option maxHeartbeats 4000000 in
theorem aesWords_walk (kf : Bf) (w : World) : Calls Try.prog 10 #[.agg (bytes 32 kf)] w fun e w' => e = .returned (.bool true) ∧ Below w.heap.size w w' := by
  have H0 := H1.start w 31 32 kf
  have hng := no_guard
  go_enter Try.func10, Try.ntmps10
  go_wp2_with fail
  refine (shown_any _).mono ?_
  rintro e w1 ⟨rfl, hb1⟩
  have Ha := H0.later hb1
  clear H0 hb1
  go_wp2_with (with_reducible refine load_blk 31 rfl rfl (.tmp 1) rfl w.heap.size 0 rfl _ Ha.b1 (by decide) ?_)
  rw [part_zero]
  refine (expand_any kf _).mono ?_
  rintro e w2 ⟨rfl, hb2⟩
  have Hb := Ha.later hb2
  clear Ha hb2
  have HY : H2 w 31 32 w.heap.size 32 240 w2.heap.size kf (fun _ => 0#8) (w2.alloc (.cells (bytes 240 fun _ => 0#8) 32)) := Hb.more 32 240 _
  have HZ := HY.put2 (expB kf)
  go_upto_region 3 with (with_reducible refine store_blk 32 rfl rfl (.tmp 4) (.tmp 9) rfl w2.heap.size 0 _ (expB kf) rfl rfl HY.b2 (by decide) ?_)
  simp only [Act.put]
  obtain ⟨g2, hg⟩ : ∃ g, g = w2.heap.size := ⟨_, rfl⟩
  have HS : H2 w 31 32 w.heap.size 32 240 g2 kf (expB kf) ((w2.alloc (.cells (bytes 240 fun _ => 0#8) 32)).setCells g2 0 (bytes (lenOf 32) (expB kf)).toList) := by rw [hg]; exact HZ
  simp only [← hg]
  clear HY HZ Hb
  generalize ((w2.alloc (.cells (bytes 240 fun _ => 0#8) 32)).setCells g2 0 (bytes (lenOf 32) (expB kf)).toList) = w3 at HS ⊢
  clear hg
  go_wp2
  go_loopw [5, 6] (fun x _ w' => ∃ i : Nat, 8 ≤ i ∧ i ≤ 60 ∧ x = .int .i64 i ∧ H2 w 31 32 w.heap.size 32 240 g2 kf (expB kf) w') (fun x _ _ => 60 - (intOf x).toNat)
  case atStart => exact ⟨8, by omega, by omega, rfl, HS⟩
  case round =>
    clear HS
    obtain ⟨i, h8, hi, rfl, hr⟩ := hrel
    by_cases hlt : i < 60
    · have hd : decide ((i : Int) < 60) = true := decide_eq_true (by omega)
      have zm : ((i : Int)).tmod 4 = ((i % 4 : Nat) : Int) := by rw [Int.tmod_eq_emod_of_nonneg (by omega)]; omega
      obtain ⟨m4, hm4⟩ : ∃ m, m = i % 4 := ⟨_, rfl⟩
      rw [← hm4] at zm
      by_cases h4 : i % 4 = 0
      · have hm0 : m4 = 0 := by omega
        have zb : ((m4 : Int) == 0) = true := by rw [hm0]; rfl
        clear hm4 hm0
        go_wp2
        first
          | exact ⟨⟨i + 1, by omega, by omega, by go_num, hr⟩, by simp [intOf]; omega⟩
          | (refine ⟨⟨_, _, _, _, _, _, _, ⟨i + 1, by omega, by omega, ?_, hr⟩, rfl⟩, ?_⟩
             · go_num
             · simp [intOf]; omega)
      · have hm0 : m4 ≠ 0 := by omega
        have zb : ((m4 : Int) == 0) = false := by rw [beq_eq_false_iff_ne]; omega
        clear hm4 hm0
        go_wp2
        clear zm zb
        obtain ⟨wo, rfl⟩ : ∃ wo : World, wo = wr := ⟨_, rfl⟩
        go_loopw [6] (fun x w' => ∃ j : Nat, j ≤ 4 ∧ x = .int .i64 j ∧ H2 w 31 32 w.heap.size 32 240 g2 kf (expB kf) w') (fun x _ => 4 - (intOf x).toNat)
        case atStart => exact ⟨0, by omega, rfl, hr⟩
        case round =>
          clear hr
          obtain ⟨j, hj, rfl, hr⟩ := hrel
          by_cases hltj : j < 4
          · have hd2 : decide ((j : Int) < 4) = true := decide_eq_true (by omega)
            go_wp2
            obtain ⟨c0, m0, s0, r0, A0⟩ := at_of i j hlt hltj
            obtain ⟨c1, m1, s1, r1, A1⟩ := at_of (i - 1) j (by omega) hltj
            obtain ⟨c8, m8, s8, r8, A8⟩ := at_of (i - 8) j (by omega) hltj
            have hL := words_law kf i j h8 hlt h4 hltj
            have k0 : ∀ (w' : World), H2 w 31 32 w.heap.size 32 240 g2 kf (expB kf) w' → w'.cell? ⟨g2, c0 * 16 + r0, none⟩ = some (.int .u8 (expB kf (4 * i + j)).toNat) := fun w' h => by rw [A0.e]; exact h.b2.byte (by omega)
            have k1 : ∀ (w' : World), H2 w 31 32 w.heap.size 32 240 g2 kf (expB kf) w' → w'.cell? ⟨g2, c1 * 16 + r1, none⟩ = some (.int .u8 (expB kf (4 * (i - 1) + j)).toNat) := fun w' h => by rw [A1.e]; exact h.b2.byte (by omega)
            have k8 : ∀ (w' : World), H2 w 31 32 w.heap.size 32 240 g2 kf (expB kf) w' → w'.cell? ⟨g2, c8 * 16 + r8, none⟩ = some (.int .u8 (expB kf (4 * (i - 8) + j)).toNat) := fun w' h => by rw [A8.e]; exact h.b2.byte (by omega)
            have x1 : bits .xor .u8 (expB kf (4 * (i - 1) + j)).toNat (expB kf (4 * (i - 8) + j)).toNat = (expB kf (4 * i + j)).toNat := by rw [bits_xor8, ← hL]
            generalize expB kf (4 * i + j) = b0 at k0 x1
            generalize expB kf (4 * (i - 1) + j) = b1 at k1 x1
            generalize expB kf (4 * (i - 8) + j) = b8 at k8 x1
            have n1 : IntKind.i64.wrap ((i : Int) - 1) = ((i - 1 : Nat) : Int) := by rw [IntWalk.i64_in _ (by omega)]; omega
            have n8 : IntKind.i64.wrap ((i : Int) - 8) = ((i - 8 : Nat) : Int) := by rw [IntWalk.i64_in _ (by omega)]; omega
            generalize i - 1 = i1 at A1 n1
            generalize i - 8 = i8 at A8 n8
            obtain ⟨d0, o0, e0, f0, q0, u0, v0, E0⟩ := A0
            obtain ⟨d1, o1, e1, f1, q1, u1, v1, E1⟩ := A1
            obtain ⟨d8, o8, e8, f8, q8, u8, v8, E8⟩ := A8
            clear hL E0 E1 E8
            refine wp_region_begin (by kernel_rfl) ?_
            refine wpAny_steady (H2 w 31 32 w.heap.size 32 240 g2 kf (expB kf)) [0, 1, 2, 3, 4, 5, 6, 7, 8, 9, 10, 11, 12, 13, 14, 15, 16, 17, 18, 19, 20, 21, 22, 23, 24, 25, 26, 27, 28, 29, 30, 31, 32, 33, 34, 35] (by kernel_rfl) (hr.drew) ?_
            repeat first
              | (refine Chain.step (oi := ?_) (v := ?_) ?_ (by kernel_rfl) (by kernel_rfl) (by kernel_rfl) ?_ ?_
                 rotate_left 2
                 · simp only [List.getElem?_toArray, List.getElem?_cons_zero, List.getElem?_cons_succ]
                   with_reducible rfl
                 · (refine Or.inl ⟨?_, Gives.val ?_⟩; rfl; intro wz hz; have p0 := k0 wz hz; have p1 := k1 wz hz; have p8 := k8 wz hz; go_simp; with_reducible rfl)
                 simp only [Act.put, List.setIfInBounds_toArray, List.set_cons_zero, List.set_cons_succ])
            refine Chain.done fun w9 hw9 => ?_
            refine wpAny_done (by kernel_rfl) ?_ _
            go_wp2
            clear k0 k1 k8 x1 n1 n8 d0 o0 e0 f0 q0 u0 v0 d1 o1 e1 f1 q1 u1 v1 d8 o8 e8 f8 q8 u8 v8
            first
              | exact ⟨⟨j + 1, by omega, by go_num, hw9⟩, by simp [intOf]; omega⟩
              | (refine ⟨⟨_, _, _, _, _, _, _, _, _, _, _, _, _, _, _, _, _, _, _, _, _, _, _, _, _, _, _, _, _, _, _, _, _, _, _, _, _, _, _, _, ⟨j + 1, by omega, ?_, hw9⟩, rfl⟩, ?_⟩
                 · go_num
                 · simp [intOf]; omega)
          · obtain rfl : j = 4 := by omega
            go_wp2
            first
              | exact ⟨⟨i + 1, by omega, by omega, by go_num, hr⟩, by simp [intOf]; omega⟩
              | (refine ⟨⟨_, _, _, _, _, _, _, ⟨i + 1, by omega, by omega, ?_, hr⟩, rfl⟩, ?_⟩
                 · go_num
                 · simp [intOf]; omega)
    · obtain rfl : i = 60 := by omega
      go_wp2
      go_ret
      exact ⟨rfl, hr.bel⟩
end Go.Proofs.Ythjigmfooobfmab
