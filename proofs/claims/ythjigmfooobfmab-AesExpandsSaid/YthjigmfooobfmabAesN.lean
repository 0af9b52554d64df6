/-
  THE EXAMPLE of layer 2: the key 0, 1, .. 31, the block 0, 17, .. 255: reckoned by the kernel, word by word, round by round. The lists were reckoned by wip/b/gen_aesn.py.
-/
import Derived.Test.YthjigmfooobfmabAesW5
namespace Go.Proofs.Ythjigmfooobfmab
open Go.RowKit Gf
def exK : Bf := fun i => BitVec.ofNat 8 i
def exB : Bf := fun i => BitVec.ofNat 8 (17 * i)
def exL : List Nat := [0, 1, 2, 3, 4, 5, 6, 7, 8, 9, 10, 11, 12, 13, 14, 15, 16, 17, 18, 19, 20, 21, 22, 23, 24, 25, 26, 27, 28, 29, 30, 31, 165, 115, 194, 159, 161, 118, 196, 152, 169, 127, 206, 147, 165, 114, 192, 156, 22, 81, 168, 205, 2, 68, 190, 218, 26, 93, 164, 193, 6, 64, 186, 222, 174, 135, 223, 240, 15, 241, 27, 104, 166, 142, 213, 251, 3, 252, 21, 103, 109, 225, 241, 72, 111, 165, 79, 146, 117, 248, 235, 83, 115, 184, 81, 141, 198, 86, 130, 127, 201, 167, 153, 23, 111, 41, 76, 236, 108, 213, 89, 139, 61, 226, 58, 117, 82, 71, 117, 231, 39, 191, 158, 180, 84, 7, 207, 57, 11, 220, 144, 95, 194, 123, 9, 72, 173, 82, 69, 164, 193, 135, 28, 47, 69, 245, 166, 96, 23, 178, 211, 135, 48, 13, 77, 51, 100, 10, 130, 10, 124, 207, 247, 28, 190, 180, 254, 84, 19, 230, 187, 240, 210, 97, 167, 223, 240, 26, 250, 254, 231, 168, 41, 121, 215, 165, 100, 74, 179, 175, 230, 64, 37, 65, 254, 113, 155, 245, 0, 37, 136, 19, 187, 213, 90, 114, 28, 10, 78, 90, 102, 153, 169, 242, 79, 224, 126, 87, 43, 170, 205, 248, 205, 234, 36, 252, 121, 204, 191, 9, 121, 233, 55, 26, 194, 60, 109, 104, 222, 54]
def exS : List (List Nat) := [[0, 16, 32, 48, 64, 80, 96, 112, 128, 144, 160, 176, 192, 208, 224, 240], [79, 99, 118, 6, 67, 224, 170, 133, 239, 167, 33, 50, 1, 164, 231, 5], [24, 89, 251, 194, 138, 28, 0, 160, 120, 237, 138, 173, 196, 47, 97, 9], [151, 92, 102, 193, 203, 159, 63, 168, 169, 58, 40, 223, 142, 225, 15, 99], [28, 5, 242, 113, 164, 23, 224, 79, 249, 33, 197, 193, 4, 112, 21, 84], [195, 87, 170, 225, 27, 69, 183, 176, 162, 199, 189, 40, 168, 220, 153, 250], [127, 7, 65, 67, 203, 78, 36, 62, 193, 12, 129, 93, 131, 117, 213, 76], [214, 83, 164, 105, 108, 160, 188, 15, 90, 202, 171, 93, 185, 108, 94, 125], [90, 168, 88, 57, 95, 210, 141, 125, 5, 225, 163, 136, 104, 243, 185, 197], [74, 130, 72, 81, 197, 126, 126, 71, 100, 61, 229, 12, 42, 243, 232, 201], [193, 73, 7, 246, 202, 59, 58, 160, 112, 233, 170, 49, 59, 82, 181, 236], [95, 156, 106, 191, 186, 198, 52, 170, 80, 64, 159, 167, 102, 103, 118, 83], [81, 102, 4, 149, 67, 83, 149, 3, 20, 251, 134, 228, 1, 146, 37, 33], [98, 123, 206, 185, 153, 157, 90, 170, 201, 69, 236, 244, 35, 245, 109, 165], [142, 162, 183, 202, 81, 103, 69, 191, 234, 252, 73, 144, 75, 73, 96, 137]]
def atL (k : Nat) : B8 := BitVec.ofNat 8 (exL.getD k 0)
def atS (n k : Nat) : B8 := BitVec.ofNat 8 ((exS.getD n []).getD k 0)
theorem newW_ext {kf l l' : Bf} {p : B8} {i : Nat} (h : ∀ k, k < 4 * i → l k = l' k) (r : Nat) (hr : r < 4) : newW kf l p i r = newW kf l' p i r := by
  unfold newW
  by_cases h8 : i < 8
  · rw [if_pos h8, if_pos h8]
  · rw [if_neg h8, if_neg h8]
    have e : ∀ j, j < 4 → part l (4 * (i - 1)) j = part l' (4 * (i - 1)) j := fun j hj => h _ (by omega)
    have e2 : subW (part l (4 * (i - 1))) p i r = subW (part l' (4 * (i - 1))) p i r := by
      unfold subW
      by_cases h0 : i % 8 = 0
      · rw [if_pos h0, if_pos h0]
        unfold rotW
        rw [e 1 (by omega), e ((r + 1) % 4) (by omega)]
      · rw [if_neg h0, if_neg h0]
        by_cases h4 : i % 8 = 4
        · rw [if_pos h4, if_pos h4]
          unfold boxW
          rw [e r hr]
        · rw [if_neg h4, if_neg h4, e r hr]
    show subW _ p i r ^^^ l _ = subW _ p i r ^^^ l' _
    rw [e2, h _ (by omega)]
theorem exL_step : (List.range 60).all (fun i => (List.range 4).all fun r => newW exK atL (powTo i) i r == atL (4 * i + r)) = true := by decide +kernel
theorem lTo_ex : ∀ i, i ≤ 60 → ∀ k, k < 4 * i → lTo exK i k = atL k
  | 0, _, k, hk => by omega
  | i + 1, hi, k, hk => by
    have ih := lTo_ex i (by omega)
    show laid (lTo exK i) (4 * i) 4 (newW exK (lTo exK i) (powTo i) i) k = _
    unfold laid
    by_cases e : 4 * i ≤ k ∧ k < 4 * i + 4
    · rw [if_pos e, newW_ext ih _ (by omega)]
      have h1 := List.all_eq_true.1 (List.all_eq_true.1 exL_step i (List.mem_range.2 (by omega))) (k - 4 * i) (List.mem_range.2 (by omega))
      rw [eq_of_beq h1, show 4 * i + (k - 4 * i) = k by omega]
    · rw [if_neg e]
      exact ih k (by omega)
theorem expB_ex (k : Nat) (hk : k < 240) : expB exK k = atL k := lTo_ex 60 (by omega) k hk
theorem rndB_ext {s s' k k' : Bf} {last : Bool} {i : Nat} (hs : ∀ j, j < 16 → s j = s' j) (hk : k i = k' i) : rndB s k last i = rndB s' k' last i := by
  have e : ∀ c, colW s c = colW s' c := fun c => by
    funext r
    unfold colW
    rw [hs _ (by omega)]
  show mixIf last (colW s (i / 4)) (i % 4) ^^^ k i = mixIf last (colW s' (i / 4)) (i % 4) ^^^ k' i
  rw [e, hk]
theorem exS_step : (List.range 14).all (fun n => (List.range 16).all fun i => rndB (atS n) (fun j => atL ((n + 1) * 16 + j)) (decide (n = 13)) i == atS (n + 1) i) = true := by decide +kernel
theorem exS_zero : (List.range 16).all (fun i => exB i ^^^ atL i == atS 0 i) = true := by decide +kernel
theorem encS_ex : ∀ n, n ≤ 14 → ∀ i, i < 16 → encS exK exB n i = atS n i
  | 0, _, i, hi => by
    show exB i ^^^ expB exK i = _
    rw [expB_ex i (by omega)]
    exact eq_of_beq (List.all_eq_true.1 exS_zero i (List.mem_range.2 hi))
  | n + 1, hn, i, hi => by
    have ih := encS_ex n (by omega)
    show rndB (encS exK exB n) (part (expB exK) ((n + 1) * 16)) (decide (n = 13)) i = _
    rw [rndB_ext (s' := atS n) (k' := fun j => atL ((n + 1) * 16 + j)) ih (expB_ex _ (by omega))]
    exact eq_of_beq (List.all_eq_true.1 (List.all_eq_true.1 exS_step n (List.mem_range.2 (by omega))) i (List.mem_range.2 hi))
theorem encB_ex (i : Nat) (hi : i < 16) : encB exK exB i = atS 14 i := encS_ex 14 (by omega) i hi
end Go.Proofs.Ythjigmfooobfmab
