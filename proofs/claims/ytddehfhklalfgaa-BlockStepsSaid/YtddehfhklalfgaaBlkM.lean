/-
  THE WALK of block.Mul: the product of two blocks.
-/
import Derived.Test.YtddehfhklalfgaaBlkH
namespace Go.Proofs.Ytddehfhklalfgaa
open Go.RowKit Gf

def hiW (x : B128) : B64 := x.extractLsb' 64 64
def loW (x : B128) : B64 := x.extractLsb' 0 64

abbrev zero16 : Array Value := #[.int .u8 0, .int .u8 0, .int .u8 0, .int .u8 0, .int .u8 0, .int .u8 0, .int .u8 0, .int .u8 0, .int .u8 0, .int .u8 0, .int .u8 0, .int .u8 0, .int .u8 0, .int .u8 0, .int .u8 0, .int .u8 0]
theorem zero16_eq : bytes 16 (fun _ => 0#8) = zero16 := rfl
/-- The three blocks that a function of two blocks lays first. -/
abbrev w3 (w : World) (f g : Bf) : World := ((w.alloc (.cells (bytes 16 f) 23)).alloc (.cells (bytes 16 g) 23)).alloc (.cells zero16 23)
structure Has3 (w : World) (f g : Bf) (w' : World) : Prop where
  a : Blk w' w.heap.size 23 (bytes 16 f)
  b : Blk w' (w.heap.size + 1) 23 (bytes 16 g)
  c : Blk w' (w.heap.size + 1 + 1) 23 (bytes 16 fun _ => 0#8)
  bel : Below w.heap.size w w'
  size : w.heap.size + 3 ≤ w'.heap.size
theorem Has3.start (f g : Bf) (w : World) : Has3 w f g (w3 w f g) := by
  unfold w3
  rw [← zero16_eq]
  have s1 : (w.alloc (.cells (bytes 16 f) 23)).heap.size = w.heap.size + 1 := by simp
  have s2 : ((w.alloc (.cells (bytes 16 f) 23)).alloc (.cells (bytes 16 g) 23)).heap.size = w.heap.size + 1 + 1 := by simp
  refine ⟨((Blk.new w 23 _).alloc _).alloc _, ?_, ?_, (((Below.refl _ _).alloc (Nat.le_refl _) _).alloc (by simp) _).alloc (by simp; omega) _, by simp⟩
  · have := (Blk.new (w.alloc (.cells (bytes 16 f) 23)) 23 (bytes 16 g)).alloc (.cells (bytes 16 fun _ => 0#8) 23)
    rwa [s1] at this
  · have := Blk.new ((w.alloc (.cells (bytes 16 f) 23)).alloc (.cells (bytes 16 g) 23)) 23 (bytes 16 fun _ => 0#8)
    rwa [s2] at this
theorem Has3.later {w w1 w2 : World} {f g : Bf} (h : Has3 w f g w1) (hb : Below w1.heap.size w1 w2) : Has3 w f g w2 :=
  ⟨h.a.below hb h.a.lt, h.b.below hb h.b.lt, h.c.below hb h.c.lt, h.bel.trans (hb.mono h.bel.size), Nat.le_trans h.size hb.size⟩

theorem hi_lo (x : B128) : (hiW x ++ loW x : B128) = x := by
  apply BitVec.eq_of_getLsbD_eq
  intro i hi
  unfold hiW loW
  rw [BitVec.getLsbD_append, BitVec.getLsbD_extractLsb', BitVec.getLsbD_extractLsb']
  by_cases h : i < 64
  · simp [h]
  · simp [h, show i - 64 < 64 by omega, show 64 + (i - 64) = i by omega]
theorem hi_app (h l : B64) : hiW (h ++ l : B128) = h := by
  apply BitVec.eq_of_getLsbD_eq
  intro i hi
  unfold hiW
  rw [BitVec.getLsbD_extractLsb', BitVec.getLsbD_append]
  simp [hi]
theorem lo_app (h l : B64) : loW (h ++ l : B128) = l := by
  apply BitVec.eq_of_getLsbD_eq
  intro i hi
  unfold loW
  rw [BitVec.getLsbD_extractLsb', BitVec.getLsbD_append]
  simp [hi]
theorem hi_blk (f : Bf) : hiW (blk f) = wordTo f 0 8 := hi_app _ _
theorem lo_blk (f : Bf) : loW (blk f) = wordTo f 8 8 := lo_app _ _

theorem bits_xor64 (x y : B64) : bits .xor .u64 (x.toNat : Int) (y.toNat : Int) = ((x ^^^ y).toNat : Int) := by
  rw [u64_xor_nat _ _ x.isLt y.isLt, BitVec.toNat_xor]
theorem bits_and64 (x y : B64) : bits .and .u64 (x.toNat : Int) (y.toNat : Int) = ((x &&& y).toNat : Int) := by
  rw [u64_and_nat _ _ x.isLt y.isLt, BitVec.toNat_and]
theorem bits_or64 (x y : B64) : bits .or .u64 (x.toNat : Int) (y.toNat : Int) = ((x ||| y).toNat : Int) := by
  rw [u64_or_nat _ _ x.isLt y.isLt, BitVec.toNat_or]
theorem neg64 (x : B64) : IntKind.u64.wrap (-(x.toNat : Int)) = ((-x).toNat : Int) := by
  have h := x.isLt
  rw [wrap_u64, BitVec.toNat_neg]
  omega
theorem half64 (x : B64) : (x.toNat : Int) / (2 : Int) = ((x >>> 1).toNat : Int) := by
  rw [BitVec.toNat_ushiftRight, Nat.shiftRight_eq_div_pow]
  omega
theorem shr64 (x : B64) (k : Nat) : (x.toNat : Int) / (2 : Int) ^ k = ((x >>> k).toNat : Int) := by
  rw [BitVec.toNat_ushiftRight, Nat.shiftRight_eq_div_pow]
  simp
theorem shl63 (x : B64) : IntKind.u64.wrap ((x.toNat : Int) * (9223372036854775808 : Int)) = ((x <<< 63).toNat : Int) := by
  rw [wrap_u64, BitVec.toNat_shiftLeft, Nat.shiftLeft_eq]
  omega
theorem one_mask (x : B64) : -(x &&& 1#64) = sel (x.getLsbD 0) (BitVec.allOnes 64) := by
  have e : x &&& 1#64 = sel (x.getLsbD 0) 1#64 := by
    apply BitVec.eq_of_getLsbD_eq
    intro i hi
    rw [BitVec.getLsbD_and, BitVec.getLsbD_one]
    cases h : x.getLsbD 0
    · by_cases h0 : i = 0
      · subst h0; rw [h]; rfl
      · simp [sel, h0]
    · by_cases h0 : i = 0
      · subst h0; rw [h]; rfl
      · simp [sel, h0]
  rw [e]
  cases x.getLsbD 0
  · show -(0#64) = 0#64
    decide
  · show -(1#64) = BitVec.allOnes 64
    decide
theorem and_sel (c : Bool) (x : B64) : x &&& sel c (BitVec.allOnes 64) = sel c x := by
  cases c
  · simp [sel]
  · show x &&& BitVec.allOnes 64 = x
    exact BitVec.and_allOnes
theorem mask_val (x : B64) : IntKind.u64.wrap (-bits .and .u64 (x.toNat : Int) 1) = ((sel (x.getLsbD 0) (BitVec.allOnes 64)).toNat : Int) := by
  have h := bits_and64 x 1#64
  rw [show ((1#64).toNat : Int) = 1 from rfl] at h
  rw [h, neg64, one_mask]
theorem hi_xor (x y : B128) : hiW (x ^^^ y) = hiW x ^^^ hiW y := by
  apply BitVec.eq_of_getLsbD_eq
  intro i hi
  simp [hiW, hi]
theorem lo_xor (x y : B128) : loW (x ^^^ y) = loW x ^^^ loW y := by
  apply BitVec.eq_of_getLsbD_eq
  intro i hi
  simp [loW, hi]
theorem hi_sel (c : Bool) (x : B128) : hiW (sel c x) = sel c (hiW x) := by
  cases c
  · show hiW 0#128 = 0#64
    decide
  · rfl
theorem lo_sel (c : Bool) (x : B128) : loW (sel c x) = sel c (loW x) := by
  cases c
  · show loW 0#128 = 0#64
    decide
  · rfl
theorem tx_hi (b : B128) : bits .xor .u64 ((((hiW b).toNat : Int)) / (2 : Int)) (bits .and .u64 16212958658533785600 (IntKind.u64.wrap (-bits .and .u64 ((loW b).toNat : Int) 1))) = ((hiW (tx b)).toNat : Int) := by
  have e : hiW (tx b) = (hiW b >>> 1) ^^^ sel ((loW b).getLsbD 0) 0xe100000000000000#64 := by
    conv => lhs; rw [← hi_lo b]
    rw [← tx_words, hi_app]
  rw [mask_val, half64, show (16212958658533785600 : Int) = ((0xe100000000000000#64).toNat : Int) from rfl, bits_and64, and_sel, bits_xor64, e]
theorem tx_lo (b : B128) : bits .or .u64 ((((loW b).toNat : Int)) / (2 : Int)) (IntKind.u64.wrap (((hiW b).toNat : Int) * (9223372036854775808 : Int))) = ((loW (tx b)).toNat : Int) := by
  have e : loW (tx b) = (loW b >>> 1) ||| (hiW b <<< 63) := by
    conv => lhs; rw [← hi_lo b]
    rw [← tx_words, lo_app]
  rw [half64, shl63, bits_or64, e]
theorem msb_hi (x : B128) (k : Nat) (hk : k < 64) : (hiW x >>> (63 - k % 64)).getLsbD 0 = x.getMsbD k := by
  unfold hiW
  rw [BitVec.getLsbD_ushiftRight, BitVec.getLsbD_extractLsb', BitVec.getMsbD_eq_getLsbD]
  have e1 : 64 + (63 - k % 64 + 0) = 128 - 1 - k := by omega
  rw [e1, decide_eq_true (show k < 128 by omega), decide_eq_true (show 63 - k % 64 + 0 < 64 by omega)]
theorem msb_lo (x : B128) (k : Nat) (hk : 64 ≤ k) (h2 : k < 128) : (loW x >>> (63 - k % 64)).getLsbD 0 = x.getMsbD k := by
  unfold loW
  rw [BitVec.getLsbD_ushiftRight, BitVec.getLsbD_extractLsb', BitVec.getMsbD_eq_getLsbD]
  have e1 : 0 + (63 - k % 64 + 0) = 128 - 1 - k := by omega
  rw [e1, decide_eq_true (show k < 128 by omega), decide_eq_true (show 63 - k % 64 + 0 < 64 by omega)]
theorem mul_hi (a b : B128) (u : B64) (k : Nat) (hu : (u >>> (63 - k % 64)).getLsbD 0 = a.getMsbD k) :
    bits .xor .u64 ((hiW (mulTo a b k)).toNat : Int) (bits .and .u64 ((hiW (pw tx k b)).toNat : Int) (IntKind.u64.wrap (-bits .and .u64 ((u.toNat : Int) / (2 : Int) ^ (63 - k % 64)) 1)))
      = ((hiW (mulTo a b (k + 1))).toNat : Int) := by
  rw [shr64, mask_val, hu, bits_and64, and_sel, bits_xor64]
  show _ = ((hiW (mulTo a b k ^^^ sel (a.getMsbD k) (pw tx k b))).toNat : Int)
  rw [hi_xor, hi_sel]
theorem mul_lo (a b : B128) (u : B64) (k : Nat) (hu : (u >>> (63 - k % 64)).getLsbD 0 = a.getMsbD k) :
    bits .xor .u64 ((loW (mulTo a b k)).toNat : Int) (bits .and .u64 ((loW (pw tx k b)).toNat : Int) (IntKind.u64.wrap (-bits .and .u64 ((u.toNat : Int) / (2 : Int) ^ (63 - k % 64)) 1)))
      = ((loW (mulTo a b (k + 1))).toNat : Int) := by
  rw [shr64, mask_val, hu, bits_and64, and_sel, bits_xor64]
  show _ = ((loW (mulTo a b k ^^^ sel (a.getMsbD k) (pw tx k b))).toNat : Int)
  rw [lo_xor, lo_sel]
theorem hi_zero : ((hiW 0#128).toNat : Int) = 0 := by decide
theorem lo_zero : ((loW 0#128).toNat : Int) = 0 := by decide
set_option maxRecDepth 100000 in
set_option maxHeartbeats 1000000 in
theorem mulC_any (f g : Bf) (w : World) :
    Calls Try.prog 11 #[.agg (bytes 16 f), .agg (bytes 16 g)] w fun e w' => e = .returned (.agg (bytes 16 (byteB (mulB (blk f) (blk g))))) ∧ Below w.heap.size w w' := by
  have H0 := Has3.start f g w
  go_enter Try.func11, Try.ntmps11
  go_wp2_with (with_reducible refine load_blk rfl (.tmp 2) rfl w.heap.size rfl _ H0.a ?_)
  refine (halves_any f _).mono ?_
  rintro e w1 ⟨rfl, hb1⟩
  have H1 := H0.later hb1
  clear H0 hb1
  go_wp2_with (with_reducible refine load_blk rfl (.tmp 3) rfl (w.heap.size + 1) rfl _ H1.b ?_)
  refine (halves_any g _).mono ?_
  rintro e w2 ⟨rfl, hb2⟩
  have H2 := H1.later hb2
  clear H1 hb2
  go_wp2_with fail
  go_loop [7, 8, 9, 10, 25] (fun bh bl zh zl i => ∃ k : Nat, k ≤ 128 ∧ i = .int .i64 k ∧ bh = .int .u64 (hiW (pw tx k (blk g))).toNat ∧ bl = .int .u64 (loW (pw tx k (blk g))).toNat ∧ zh = .int .u64 (hiW (mulTo (blk f) (blk g) k)).toNat ∧ zl = .int .u64 (loW (mulTo (blk f) (blk g) k)).toNat) (fun _ _ _ _ i => 128 - (intOf i).toNat)
  case atStart => exact ⟨0, by omega, rfl, by rw [← hi_blk]; rfl, by rw [← lo_blk]; rfl, valu64 hi_zero.symm, valu64 lo_zero.symm⟩
  case round =>
    obtain ⟨k, hk, rfl, rfl, rfl, rfl, rfl⟩ := hrel
    have h1 := (hiW (pw tx k (blk g))).isLt
    have h2 := (loW (pw tx k (blk g))).isLt
    have h3 := (wordTo f 0 8).isLt
    have h4 := (wordTo f 8 8).isLt
    by_cases hlt : k < 128
    · by_cases h64 : k < 64
      · have E1 := Lib.hid (mul_hi (blk f) (blk g) (wordTo f 0 8) k (by rw [← hi_blk]; exact msb_hi _ k h64))
        have E2 := Lib.hid (mul_lo (blk f) (blk g) (wordTo f 0 8) k (by rw [← hi_blk]; exact msb_hi _ k h64))
        go_wp2
        go_round
        case rel => exact ⟨k + 1, by omega, by go_num, valu64 (tx_hi _), valu64 (tx_lo _), valu64 E1.out, valu64 E2.out⟩
        case measure => simp [intOf]; omega
      · have E1 := Lib.hid (mul_hi (blk f) (blk g) (wordTo f 8 8) k (by rw [← lo_blk]; exact msb_lo _ k (by omega) hlt))
        have E2 := Lib.hid (mul_lo (blk f) (blk g) (wordTo f 8 8) k (by rw [← lo_blk]; exact msb_lo _ k (by omega) hlt))
        go_wp2
        go_round
        case rel => exact ⟨k + 1, by omega, by go_num, valu64 (tx_hi _), valu64 (tx_lo _), valu64 E1.out, valu64 E2.out⟩
        case measure => simp [intOf]; omega
    · obtain rfl : k = 128 := by omega
      go_wp2_with fail
      refine (whole_any _ _ _).mono ?_
      rintro e w3 ⟨rfl, hb3⟩
      have H3 := H2.later hb3
      clear H2 hb3
      go_wp2_with (with_reducible refine store_blk rfl (.tmp 4) (.tmp 65) rfl (w.heap.size + 1 + 1) _ _ rfl rfl H3.c ?_)
      refine bodyPost_ret (result_blk rfl _ _ (w.heap.size + 1 + 1) _ rfl (H3.c.row_same _)) rfl ⟨?_, below_setRow H3.bel (by omega) _⟩
      rw [hi_lo]
      rfl
end Go.Proofs.Ytddehfhklalfgaa
