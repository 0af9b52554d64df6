/-
  Joined: ShaB, PGf, POctF
-/
import Derived.Test.YtlpbbihjnmikkaaGreatDoorJ19
import Derived.Test.YtlpbbihjnmikkaaGreatDoorJ21
import Derived.Deep.DeepCutAuto
namespace Go.Proofs.YtlpbbihjnmikkaaGreatDoor.Exe
set_option linter.unusedSimpArgs false
set_option linter.unusedVariables false
set_option maxRecDepth 100000
open Go.RowKit

theorem oct128 : (128 : Int) = ((128#8 : Oct).toNat : Int) := rfl
noncomputable def beginRun : Out D Slot := runA Tryz.prog (fun _ => none) 10 5 306 [] (frameH true) 2 0 0
theorem begin_all : pressOk beginRun = true := by kernel_rfl
noncomputable def beginF : Nat → Int := cellsO beginRun
theorem begin306 (w : World) (hT : Laid w) : Calls Tryz.prog 306 #[] w fun e w' => e = .returned (.agg (arr32 8 beginF)) ∧ Keeps w.heap.size w w' := by
  obtain ⟨cs, h', nx, r, x, he, hfl, hk⟩ := pressOk_ok begin_all
  rw [show beginF = cellN cs from congrArg cellsO he]
  delta beginRun at he
  refine (reckoned (z := true) he hk w (fun _ => hT) .nil).mono fun e W' ⟨u, ν', e1, e2, _, e3⟩ => ⟨?_, e2⟩
  rw [e1, arr32_of hfl e3]
/-- How many noughts are laid behind; the length's bytes; all that is hashed. -/
def padN (n : Nat) : Nat := ((120 - ((n : Int) + 1) % 64) % 64).toNat
theorem padN_eq (n : Nat) : (120 - ((n : Int) + 1) % 64) % 64 = (padN n : Int) ∧ padN n < 64 := by
  unfold padN
  omega
def padF (l : List Oct) : List Oct := l ++ [128#8] ++ List.replicate (padN l.length) 0 ++ [BitVec.ofInt 8 (8 * (l.length : Int) / 72057594037927936)] ++ [BitVec.ofInt 8 (8 * (l.length : Int) / 281474976710656)] ++ [BitVec.ofInt 8 (8 * (l.length : Int) / 1099511627776)] ++ [BitVec.ofInt 8 (8 * (l.length : Int) / 4294967296)] ++ [BitVec.ofInt 8 (8 * (l.length : Int) / 16777216)] ++ [BitVec.ofInt 8 (8 * (l.length : Int) / 65536)] ++ [BitVec.ofInt 8 (8 * (l.length : Int) / 256)] ++ [BitVec.ofInt 8 (8 * (l.length : Int) % 256)]
theorem padF_len (l : List Oct) : (padF l).length = l.length + 1 + padN l.length + 8 ∧ (l.length + 1 + padN l.length + 8) % 64 = 0 := by
  refine ⟨by simp [padF]; omega, ?_⟩
  unfold padN
  omega
/-- The bytes of one piece; the hash behind some pieces; the answer's bytes. -/
def chunkI (M : List Oct) (j : Nat) : Nat → Int := fun i => ((M.getD (64 * j + i) 0).toNat : Int)
noncomputable def chainF (M : List Oct) : Nat → Nat → Int
  | 0 => beginF
  | j + 1 => pressF (chainF M j) (chunkI M j)
/-- A walk's world: a row of its own, the answer's cells, what was there. -/
def zeros32 : Array Value := (List.replicate 32 (Value.int .u8 0)).toArray
structure Hs (w w' : World) (v : Value) (M : List Oct) : Prop where
  o : Owns w' (w.heap.size + 1) v M
  k : Keeps w.heap.size w w'
  z : Cells w' w.heap.size zeros32 195
  n : w.heap.size + 1 ≤ w'.heap.size
structure Hp (w w' : World) (gh gm : Nat) (M : List Oct) (H : Nat → Int) : Prop where
  k : Keeps w.heap.size w w'
  z : Cells w' w.heap.size zeros32 195
  h : Cells w' gh (arr32 8 H) 410
  r : At w' gm 0 M.length M
  ne : gm ≠ gh
  lh : w.heap.size < gh
theorem Hp.later {w w1 w2 : World} {gh gm : Nat} {M : List Oct} {H : Nat → Int} (h : Hp w w1 gh gm M H) (k : Keeps w1.heap.size w1 w2) : Hp w w2 gh gm M H :=
  ⟨h.k.trans k h.k.1, h.z.keeps k, h.h.keeps k, ⟨Nat.lt_of_lt_of_le h.r.1 k.1, rfl, fun j hj => (cell_same (k.2 gm h.r.1)).trans (h.r.2.2 j hj)⟩, h.ne, h.lh⟩
theorem Hp.store {w w1 w2 : World} {gh gm : Nat} {M : List Oct} {H H' : Nat → Int} (h : Hp w w1 gh gm M H) (hc : Cells w2 gh (arr32 8 H') 410) (hz : w2.heap.size = w1.heap.size) (hb : Else gh w1 w2) : Hp w w2 gh gm M H' :=
  ⟨⟨by rw [hz]; exact h.k.1, fun i hi => (hb i (by have := h.lh; omega)).trans (h.k.2 i hi), h.k.3.trans hb.calm⟩, (hb _ (by have := h.lh; omega)).trans h.z, hc, ⟨by rw [hz]; exact h.r.1, rfl, fun j hj => (cell_same (hb gm h.ne)).trans (h.r.2.2 j hj)⟩, h.ne, h.lh⟩
theorem Hp.chunk {w w1 : World} {gh gm : Nat} {M : List Oct} {H : Nat → Int} (h : Hp w w1 gh gm M H) {j : Nat} (hj : 64 * j + 64 ≤ M.length) : w1.rangeAt gm (64 * j) (arr8 64 (chunkI M j)).toList := fun i v hv => by
  have hi : i < 64 := by
    rcases Nat.lt_or_ge i 64 with h' | h'
    · exact h'
    · rw [List.getElem?_eq_none (by simpa [arr8] using h')] at hv; cases hv
  have := h.r.2.2 (64 * j + i) (by omega)
  rw [Nat.zero_add] at this
  rw [this]
  simp [arr8, hi, chunkI] at hv
  rw [← hv, List.getElem?_eq_getElem (by omega)]
  rfl
abbrev z32 : Array Value := #[.int .u8 0, .int .u8 0, .int .u8 0, .int .u8 0, .int .u8 0, .int .u8 0, .int .u8 0, .int .u8 0, .int .u8 0, .int .u8 0, .int .u8 0, .int .u8 0, .int .u8 0, .int .u8 0, .int .u8 0, .int .u8 0, .int .u8 0, .int .u8 0, .int .u8 0, .int .u8 0, .int .u8 0, .int .u8 0, .int .u8 0, .int .u8 0, .int .u8 0, .int .u8 0, .int .u8 0, .int .u8 0, .int .u8 0, .int .u8 0, .int .u8 0, .int .u8 0]
def outI (H : Nat → Int) (i : Nat) : Int := H (i / 4) / 2 ^ (24 - 8 * (i % 4)) % 256
def outTo (H : Nat → Int) (n : Nat) : Array Value := arr8 32 fun i => if i < n then outI H i else 0
structure Ho (w w' : World) (gh go gm : Nat) (M : List Oct) (H : Nat → Int) (n : Nat) : Prop where
  p : Hp w w' gh gm M H
  o : Cells w' go (outTo H n) 195
  ne : go ≠ gh
  lo : w.heap.size < go
  nm : go ≠ gm
theorem Ho.step {w w1 : World} {gh go gm : Nat} {M : List Oct} {H : Nat → Int} {i : Nat} (h : Ho w w1 gh go gm M H i) (hi : i < 32) : Ho w (w1.setCell ⟨go, i, none⟩ (.int .u8 (H (i / 4) / 2 ^ (24 - 8 * (i % 4)) % 256))) gh go gm M H (i + 1) := by
  have hset : ∀ k : Nat, k ≠ go → (w1.setCell ⟨go, i, none⟩ (.int .u8 (H (i / 4) / 2 ^ (24 - 8 * (i % 4)) % 256))).heap[k]? = w1.heap[k]? := fun k hk => Below.heap_setCell w1 ⟨go, i, none⟩ _ k hk
  have hsz : (w1.setCell ⟨go, i, none⟩ (.int .u8 (H (i / 4) / 2 ^ (24 - 8 * (i % 4)) % 256))).heap.size = w1.heap.size := by simp
  have hl := h.lo
  have hcm : Calm w1 (w1.setCell ⟨go, i, none⟩ (.int .u8 (H (i / 4) / 2 ^ (24 - 8 * (i % 4)) % 256))) := ⟨rfl, rfl⟩
  have hb := Blk.set_ (t := 195) (show Blk w1 go 195 _ from h.o) i (.int .u8 (H (i / 4) / 2 ^ (24 - 8 * (i % 4)) % 256))
  generalize w1.setCell ⟨go, i, none⟩ (.int .u8 (H (i / 4) / 2 ^ (24 - 8 * (i % 4)) % 256)) = w2 at hset hsz hb hcm ⊢
  refine ⟨⟨⟨by rw [hsz]; exact h.p.k.1, fun k hk => (hset k (by omega)).trans (h.p.k.2 k hk), h.p.k.3.trans hcm⟩, (hset _ (by omega)).trans h.p.z, (hset _ (Ne.symm h.ne)).trans h.p.h, ⟨by rw [hsz]; exact h.p.r.1, rfl, fun j hj => (cell_same (hset gm (Ne.symm h.nm))).trans (h.p.r.2.2 j hj)⟩, h.p.ne, h.p.lh⟩, ?_, h.ne, h.lo, h.nm⟩
  have e : (outTo H i).setIfInBounds i (.int .u8 (H (i / 4) / 2 ^ (24 - 8 * (i % 4)) % 256)) = outTo H (i + 1) := by
    refine Array.ext (by simp [outTo, arr8]) fun k h1 h2 => ?_
    have hk : k < 32 := by simpa [outTo, arr8] using h2
    rw [Array.getElem_setIfInBounds (by simpa [outTo, arr8] using hk)]
    by_cases e : i = k
    · subst e
      simp [outTo, arr8, outI]
    · rw [if_neg e]
      simp only [outTo, arr8, List.getElem_toArray, List.getElem_map, List.getElem_range]
      by_cases e1 : k < i
      · rw [if_pos e1, if_pos (by omega)]
      · rw [if_neg e1, if_neg (by omega)]
  rw [e] at hb
  exact hb
theorem arr8_one (n : Nat) (f : Nat → Int) : (arr8 n f).all (·.oneCell') = true := by
  rw [Array.all_eq_true_iff_forall_mem]
  intro v hv
  simp [arr8] at hv
  obtain ⟨i, _, rfl⟩ := hv
  rfl
theorem info195 (f : Nat → Int) : (Tryz.prog.info? 195).map (·.size) = some (arr8 32 f).size := by rw [arr8_size]; kernel_rfl
theorem z32_size (f : Nat → Int) : zeros32.size = (arr8 32 f).size := by rw [arr8_size]; rfl
theorem info195o (H : Nat → Int) (n : Nat) : (Tryz.prog.info? 195).map (·.size) = some (outTo H n).size := info195 _
theorem z32o (H : Nat → Int) (n : Nat) : zeros32.size = (outTo H n).size := z32_size _
theorem outTo_one (H : Nat → Int) (n : Nat) : (outTo H n).all (·.oneCell') = true := arr8_one _ _
/-- A hash. -/
noncomputable def shaF (l : List Oct) : List Oct := (List.range 32).map fun i => BitVec.ofInt 8 (outI (chainF (padF l) ((padF l).length / 64)) i)
theorem outTo_all (H : Nat → Int) : outTo H 32 = (octs ((List.range 32).map fun i => BitVec.ofInt 8 (outI H i))).toArray := by
  unfold outTo arr8 octs
  rw [List.map_map]
  congr 1
  refine List.map_congr_left fun i hi => ?_
  have h0 : 0 ≤ outI H i := Int.emod_nonneg _ (by decide)
  have h1 : outI H i < 256 := Int.emod_lt_of_pos _ (by decide)
  show Value.int .u8 (if i < 32 then outI H i else 0) = .int .u8 ((BitVec.ofInt 8 (outI H i) : Oct).toNat : Int)
  rw [if_pos (List.mem_range.1 hi)]
  rw [← oct_of h0 h1]
def intOfV : Value → Int
  | .int _ n => n
  | _ => 0
def lenOfS : Value → Nat
  | .slice _ n _ => n
  | _ => 0
abbrev z8 : Array Value := #[.int .u32 0, .int .u32 0, .int .u32 0, .int .u32 0, .int .u32 0, .int .u32 0, .int .u32 0, .int .u32 0]
theorem info410 : (Tryz.prog.info? 410).map (·.size) = some 8 := by kernel_rfl
theorem info410a (f : Nat → Int) : (Tryz.prog.info? 410).map (·.size) = some (arr32 8 f).size := by rw [arr32_size]; exact info410
theorem z8_size (f : Nat → Int) : z8.size = (arr32 8 f).size := by rw [arr32_size]; rfl
theorem info388 : (Tryz.prog.info? 388).map (·.size) = some 64 := by kernel_rfl
theorem Hs.later {w w1 w2 : World} {v : Value} {M : List Oct} (h : Hs w w1 v M) (k : Keeps w1.heap.size w1 w2) : Hs w w2 v M :=
  ⟨h.o.keeps k, h.k.trans k h.k.1, (k.2 _ (heap_lt h.z)).trans h.z, Nat.le_trans h.n k.1⟩
theorem Hs.app {w w1 w2 : World} {v v' : Value} {M M' : List Oct} (h : Hs w w1 v M) (o : Owns w2 (w.heap.size + 1) v' M') (k : Keeps (w.heap.size + 1) w1 w2) : Hs w w2 v' M' :=
  ⟨o, ⟨Nat.le_trans h.k.1 k.1, fun i hi => (k.2 i (by omega)).trans (h.k.2 i hi), h.k.3.trans k.3⟩, (k.2 _ (by omega)).trans h.z, Nat.le_trans h.n k.1⟩
theorem Hs.start {w w1 : World} {v : Value} {M : List Oct} {Z : Array Value} (hZ : Z = zeros32) (o : Owns w1 (w.alloc (.cells Z 195)).heap.size v M) (k : Keeps (w.alloc (.cells Z 195)).heap.size (w.alloc (.cells Z 195)) w1) : Hs w w1 v M := by
  subst hZ
  have hs : (w.alloc (.cells zeros32 195)).heap.size = w.heap.size + 1 := by simp
  rw [hs] at o k
  exact ⟨o, (Keeps.alloc w _).trans k (by omega), (k.2 _ (by omega)).trans (heap_new w _ _), by have := k.1; omega⟩
theorem Hs.lenS {w w' : World} {v : Value} {M : List Oct} {y : Oct} {k : Nat} (_ : Hs w w' v (M ++ [y])) (hm : M.length ≤ k) : (M ++ [y]).length ≤ k + 1 := by rw [List.length_append]; simp; omega
set_option maxHeartbeats 2000000 in
theorem hash289 {w : World} {u : Value} {l : List Oct} (hT : Laid w) (hu : Src u l w) (hl : l.length ≤ 2048) : Calls Tryz.prog 289 #[u] w fun e w' => e = .returned (.agg (octs (shaF l)).toArray) ∧ Keeps w.heap.size w w' := by
  obtain ⟨A, c, rfl⟩ := hu.slice
  have hu1 : ∀ o, Src (.slice A l.length c) l (w.alloc o) := fun o => hu.later (Keeps.alloc w o).1 (Keeps.alloc w o).2
  have hl1 : l.length ≤ 4096 := by omega
  have hl2 : l.length ≤ 8192 := by omega
  obtain ⟨p1, p2⟩ := padN_eq l.length
  replace p1 := Lib.hid p1
  have hl3 : (l ++ [128#8]).length ≤ 8192 := by simp; omega
  have hlen1 : (l ++ [128#8]).length = l.length + 1 := by simp
  have p3 : padN l.length ≤ 64 := by omega
  obtain ⟨L0, hL⟩ : ∃ L, L = l ++ [128#8] ++ List.replicate (padN l.length) 0 := ⟨_, rfl⟩
  have hm : L0.length ≤ 4096 := by rw [hL]; simp; omega
  go_enter Tryz.func289, Tryz.ntmps289
  go_wp2_with (first
    | (go_at_call 8; (with_reducible refine (clone8_src (hu1 _) hl1).mono ?_); rintro e w1 ⟨v1, rfl, o1, k1⟩; have h1 := Hs.start rfl o1 k1; clear o1 k1)
    | (with_reducible refine wpList_byte rfl (.tmp 9) (.tmp 10) rfl 128#8 oct128 h1.o hl2 h1.n rfl rfl ?_; intro v2 w2 o2 k2; have h2 := h1.app o2 k2; clear h1 o2 k2; obtain ⟨A2, c2, rfl⟩ := h2.o.slice; rw [hlen1] at h2 ⊢)
    | (at_builtin; with_reducible refine wpList_zeros rfl (.tmp 12) (.tmp 17) rfl h2.o hl3 h2.n rfl rfl p1.out p3 ?_; rw [← hL]; intro v3 w3 o3 k3; have hs := h2.app o3 k3; clear h2 o3 k3))
  refine wp_loop_turns 9 ?_
  unfold turns
  go_wp2_with (first
    | (with_reducible refine wpList_byte rfl (.tmp 22) (.tmp 31) rfl _ (oct_of (by omega) (by omega)) hs.o (Nat.le_trans hm (by decide)) hs.n rfl rfl ?_; intro v4 w4 o4 k4; have hs := hs.app o4 k4; have hm := hs.lenS hm; clear o4 k4))
  unfold turns
  go_wp2_with (first
    | (with_reducible refine wpList_byte rfl (.tmp 22) (.tmp 31) rfl _ (oct_of (by omega) (by omega)) hs.o (Nat.le_trans hm (by decide)) hs.n rfl rfl ?_; intro v4 w4 o4 k4; have hs := hs.app o4 k4; have hm := hs.lenS hm; clear o4 k4))
  unfold turns
  go_wp2_with (first
    | (with_reducible refine wpList_byte rfl (.tmp 22) (.tmp 31) rfl _ (oct_of (by omega) (by omega)) hs.o (Nat.le_trans hm (by decide)) hs.n rfl rfl ?_; intro v4 w4 o4 k4; have hs := hs.app o4 k4; have hm := hs.lenS hm; clear o4 k4))
  unfold turns
  go_wp2_with (first
    | (with_reducible refine wpList_byte rfl (.tmp 22) (.tmp 31) rfl _ (oct_of (by omega) (by omega)) hs.o (Nat.le_trans hm (by decide)) hs.n rfl rfl ?_; intro v4 w4 o4 k4; have hs := hs.app o4 k4; have hm := hs.lenS hm; clear o4 k4))
  unfold turns
  go_wp2_with (first
    | (with_reducible refine wpList_byte rfl (.tmp 22) (.tmp 31) rfl _ (oct_of (by omega) (by omega)) hs.o (Nat.le_trans hm (by decide)) hs.n rfl rfl ?_; intro v4 w4 o4 k4; have hs := hs.app o4 k4; have hm := hs.lenS hm; clear o4 k4))
  unfold turns
  go_wp2_with (first
    | (with_reducible refine wpList_byte rfl (.tmp 22) (.tmp 31) rfl _ (oct_of (by omega) (by omega)) hs.o (Nat.le_trans hm (by decide)) hs.n rfl rfl ?_; intro v4 w4 o4 k4; have hs := hs.app o4 k4; have hm := hs.lenS hm; clear o4 k4))
  unfold turns
  go_wp2_with (first
    | (with_reducible refine wpList_byte rfl (.tmp 22) (.tmp 31) rfl _ (oct_of (by omega) (by omega)) hs.o (Nat.le_trans hm (by decide)) hs.n rfl rfl ?_; intro v4 w4 o4 k4; have hs := hs.app o4 k4; have hm := hs.lenS hm; clear o4 k4))
  unfold turns
  go_wp2_with (first
    | (with_reducible refine wpList_byte rfl (.tmp 22) (.tmp 31) rfl _ (oct_of (by omega) (by omega)) hs.o (Nat.le_trans hm (by decide)) hs.n rfl rfl ?_; intro v4 w4 o4 k4; have hs := hs.app o4 k4; have hm := hs.lenS hm; clear o4 k4))
  have hMe : L0 ++ [BitVec.ofInt 8 (8 * (l.length : Int) / 72057594037927936)] ++ [BitVec.ofInt 8 (8 * (l.length : Int) / 281474976710656)] ++ [BitVec.ofInt 8 (8 * (l.length : Int) / 1099511627776)] ++ [BitVec.ofInt 8 (8 * (l.length : Int) / 4294967296)] ++ [BitVec.ofInt 8 (8 * (l.length : Int) / 16777216)] ++ [BitVec.ofInt 8 (8 * (l.length : Int) / 65536)] ++ [BitVec.ofInt 8 (8 * (l.length : Int) / 256)] ++ [BitVec.ofInt 8 (8 * (l.length : Int) % 256)] = padF l := by rw [hL]; rfl
  rw [hMe] at hs
  clear hMe hL hm
  obtain ⟨hN1, hN2⟩ := padF_len l
  rw [← hN1] at hN2
  have hN0 : 0 < (padF l).length := by omega
  have hN4 : (padF l).length ≤ 4096 := by omega
  clear hN1
  generalize hM : padF l = M at hs hN2 hN0 hN4
  replace hM := Lib.hid hM
  obtain ⟨gm, cm, rfl, hcm, hgm⟩ : ∃ gm cm, v4 = .slice (some ⟨gm, 0, none⟩) M.length cm ∧ M.length ≤ cm ∧ w.heap.size < gm := by
    rcases hs.o.2 with ⟨_, h0⟩ | ⟨g, cap, cur, e, hg, _, hc, _⟩
    · omega
    · exact ⟨g, cap, e, hc, hg⟩
  have hat : At w4 gm 0 M.length M := by
    rcases hs.o.rowB.src with ⟨e, _⟩ | ⟨b, o, cap, e, _, hlt, hr⟩
    · cases e
    · cases e
      exact ⟨hlt, rfl, hr⟩
  unfold turns
  go_wp2_with (first
    | (go_at_call 306; (with_reducible refine (begin306 _ (hT.keeps hs.k.2)).mono ?_); rintro e w5 ⟨rfl, k5⟩; have hs5 := hs.later k5; have hz5 : Cells (w5.alloc (.cells z8 410)) w5.heap.size z8 410 := heap_new w5 z8 410)
    | (with_reducible refine wpList_storeA 410 rfl (.tmp 5) (.tmp 34) rfl rfl rfl hz5 (info410a _) (z8_size _) (arr32_one _ _) ?_; intro w6 hc6 hz6 hb6))
  obtain ⟨gh, hgh⟩ : ∃ gh, gh = w5.heap.size := ⟨_, rfl⟩
  rw [← hgh] at hc6 hb6 ⊢
  have hP : Hp w w6 gh gm M (chainF M 0) := by
    have hs6 : Hs w (w5.alloc (.cells z8 410)) (.slice (some ⟨gm, 0, none⟩) M.length cm) M := hs5.later (Keeps.alloc w5 _)
    have h56 : ∀ i : Nat, i < w5.heap.size → (w5.alloc (.cells z8 410)).heap[i]? = w5.heap[i]? := fun i hi => heap_alloc_old _ hi
    have hat5 : At w5 gm 0 M.length M := ⟨Nat.lt_of_lt_of_le hat.1 k5.1, rfl, fun j hj => (cell_same (k5.2 gm hat.1)).trans (hat.2.2 j hj)⟩
    have hz56 : (w5.alloc (.cells z8 410)).heap.size = w5.heap.size + 1 := by simp
    have hn5 := hs5.n
    have hz6 : w6.heap.size = w5.heap.size + 1 := hz6.trans hz56
    refine ⟨⟨by omega, fun i hi => (hb6 i (by omega)).trans (hs6.k.2 i hi), by have := hs6.k.3; (repeat with_reducible first | exact .refl _ | assumption | refine .alloc ?_ _ | refine .drew ?_ | refine .b ?_ (by assumption) | refine .k ?_ (by assumption) | refine .e ?_ (by assumption) | refine .s ?_ (by assumption) | refine .trans ?_ (by assumption))⟩, (hb6 w.heap.size (by omega)).trans hs6.z, hc6, ⟨by have := hat5.1; omega, rfl, fun j hj => (cell_same ((hb6 gm (by have := hat5.1; omega)).trans (h56 gm hat5.1))).trans (hat5.2.2 j hj)⟩, by have := hat5.1; omega, by omega⟩
  clear hs hs5 hz5 hc6 hb6 hz6 hat k5 hgh
  try simp only [Act.put, List.setIfInBounds_toArray, List.set_cons_zero, List.set_cons_succ]
  go_loopw [3] (fun m w' => ∃ j o c : Nat, 64 * j ≤ M.length ∧ m = .slice (some ⟨gm, o, none⟩) (M.length - 64 * j) c ∧ (64 * j < M.length → o = 64 * j) ∧ M.length - 64 * j ≤ c ∧ Hp w w' gh gm M (chainF M j)) (fun m _ => lenOfS m)
  case atStart => exact ⟨0, 0, cm, by omega, by simp, fun _ => rfl, by omega, hP⟩
  case round =>
    obtain ⟨j, o, c', hj, rfl, ho, hc', hP⟩ := hrel
    by_cases hlt : 64 * j < M.length
    · obtain rfl := ho hlt
      have h64 : 64 * j + 64 ≤ M.length := by omega
      have hpos : (0 : Int) < ((M.length - 64 * j : Nat) : Int) := by omega
      have h64n : 64 ≤ M.length - 64 * j := by omega
      have h64m : ¬ (M.length - 64 * j < 64) := by omega
      have harr : ∀ w0, (Instr.arrayAt 388 (.slice (some ⟨gm, 64 * j, none⟩) (M.length - 64 * j) c')).run Tryz.prog w0 = .ok (.pointer (some ⟨gm, 64 * j, none⟩)) w0 := fun w0 => by
        simp [Instr.arrayAt, run_underlying Tryz.underlying388, h64m, h64n]
      go_wp2
      refine wp_region_begin (by kernel_rfl) ?_
      have hP := hP.later (w2 := wr.drew) ⟨Nat.le_refl _, fun _ _ => rfl, rfl, rfl⟩
      generalize wr.drew = wd at hP ⊢
      refine wpAny_take (i := 1) (oi := ?_) (v := ?_) ?_ (by kernel_rfl) (by kernel_rfl) (by kernel_rfl) ?_ ?_ ?_
      rotate_left 2
      · simp only [List.getElem?_toArray, List.getElem?_cons_zero, List.getElem?_cons_succ]
        with_reducible rfl
      · exact fun _ _ _ q => q
      · (refine Or.inl ⟨?_, ?_⟩; rfl; intro w; go_simp; with_reducible rfl)
      simp only [Act.put, List.setIfInBounds_toArray, List.set_cons_zero, List.set_cons_succ]
      refine wpAny_take (i := 2) (oi := ?_) (v := ?_) ?_ (by kernel_rfl) (by kernel_rfl) (by kernel_rfl) ?_ ?_ ?_
      rotate_left 2
      · simp only [List.getElem?_toArray, List.getElem?_cons_zero, List.getElem?_cons_succ]
        with_reducible rfl
      · exact fun _ _ _ q => q
      · (refine Or.inl ⟨?_, ?_⟩; rfl; intro w; go_simp; with_reducible rfl)
      simp only [Act.put, List.setIfInBounds_toArray, List.set_cons_zero, List.set_cons_succ]
      refine wpAny_steady (fun w0 => Hp w w0 gh gm M (chainF M j)) [0, 3, 4] (by kernel_rfl) (hP) ?_
      repeat first
        | (refine Chain.step (oi := ?_) (v := ?_) ?_ (by kernel_rfl) (by kernel_rfl) (by kernel_rfl) ?_ ?_
           rotate_left 2
           · simp only [List.getElem?_toArray, List.getElem?_cons_zero, List.getElem?_cons_succ]
             with_reducible rfl
           · (refine Or.inl ⟨?_, Gives.val ?_⟩; rfl; intro wz hz; refine load_valA rfl Tryz.underlying410 (info410a _) hz.h ?_; rfl)
           simp only [Act.put, List.setIfInBounds_toArray, List.set_cons_zero, List.set_cons_succ])
        | (refine Chain.step (oi := ?_) (v := .agg (arr8 64 (chunkI M j))) ?_ (by kernel_rfl) (by kernel_rfl) (by kernel_rfl) ?_ ?_
           rotate_left 1
           · simp only [List.getElem?_toArray, List.getElem?_cons_zero, List.getElem?_cons_succ]
             with_reducible rfl
           · (refine Or.inl ⟨?_, Gives.val ?_⟩; rfl; intro wz hz; refine load_mid (cs := (arr8 64 (chunkI M j)).toList) rfl Tryz.underlying388 (by rw [Array.length_toList, arr8_size]; exact info388) (hz.chunk h64) ?_; rfl)
           simp only [Act.put, List.setIfInBounds_toArray, List.set_cons_zero, List.set_cons_succ])
        | (refine Chain.step (oi := ?_) (v := .agg (arr32 8 (chainF M (j + 1)))) ?_ (by kernel_rfl) (by kernel_rfl) (by kernel_rfl) ?_ ?_
           rotate_left 1
           · simp only [List.getElem?_toArray, List.getElem?_cons_zero, List.getElem?_cons_succ]
             with_reducible rfl
           · (refine Or.inl ⟨?_, Gives.call (f := 307) (args := #[.agg (arr32 8 (chainF M j)), .agg (arr8 64 (chunkI M j))]) ?_ ?_⟩; rfl; (intro wz hz; go_simp); intro wz hz; exact (press307 (chainF M j) (chunkI M j) wz (hT.keeps hz.k.2)).mono fun e wy h => ⟨h.1, Hp.later hz h.2⟩)
           simp only [Act.put, List.setIfInBounds_toArray, List.set_cons_zero, List.set_cons_succ])
      refine Chain.done fun w9 hw9 => ?_
      refine wpAny_ready (rs := [5]) (by kernel_rfl) (by simp) ?_
      refine AllReady.cons (o := ?_) ?_ (fun K hK => ?_) AllReady.nil
      rotate_left 1
      · simp only [List.getElem?_toArray, List.getElem?_cons_zero, List.getElem?_cons_succ]
        with_reducible rfl
      refine step_storeB 410 rfl (.tmp 5) (.tmp 44) rfl rfl rfl hw9.h (info410a _) ((arr32_size 8 _).trans (arr32_size 8 _).symm) (arr32_one _ _) ?_
      intro w10 hc10 hz10 hb10
      have hP := hw9.store hc10 hz10 hb10
      refine hK _ _ ?_
      clear hK K hc10 hz10 hb10 hw9
      refine wpAny_done (by kernel_rfl) ?_ _
      have e1 : M.length - 64 * j - 64 = M.length - 64 * (j + 1) := by omega
      have hle : (64 : Int) ≤ ((M.length - 64 * j : Nat) : Int) := by omega
      by_cases hc64 : c' = 64
      · subst hc64
        go_wp2
        refine ⟨⟨j + 1, 64 * j, 0, by omega, by first | rfl | rw [e1], by omega, by omega, hP⟩, ?_⟩
        simp only [lenOfS]
        omega
      · go_wp2
        refine ⟨⟨j + 1, 64 * j + 64, c' - 64, by omega, by first | rfl | rw [e1], by omega, by omega, hP⟩, ?_⟩
        simp only [lenOfS]
        omega
    · have hnpos : ¬ ((0 : Int) < ((M.length - 64 * j : Nat) : Int)) := by omega
      have h0n : M.length - 64 * j = 0 := by omega
      rw [h0n]
      go_wp2
      obtain ⟨H, hH⟩ : ∃ H, H = chainF M (M.length / 64) := ⟨_, rfl⟩
      have hjq : j = M.length / 64 := by omega
      rw [← hjq] at hH
      rw [← hH] at hP
      replace hH := Lib.hid hH
      obtain ⟨go, hgo⟩ : ∃ go, go = wr.heap.size := ⟨_, rfl⟩
      have hO : Ho w (wr.alloc (.cells z32 195)) gh go gm M H 0 := ⟨hP.later (Keeps.alloc wr _), by rw [hgo]; exact heap_new wr _ _, by have := hP.h.lt; omega, by have := hP.k.1; have := hP.h.lt; have := hP.lh; omega, by have := hP.r.1; omega⟩
      rw [← hgo]
      generalize wr.alloc (.cells z32 195) = wa at hO ⊢
      clear hP hgo h0n hnpos hlt
      go_loopw [45] (fun x w' => ∃ i : Nat, i ≤ 32 ∧ x = .int .i64 i ∧ Ho w w' gh go gm M H i) (fun x _ => 32 - (intOfV x).toNat)
      case atStart => exact ⟨0, by omega, rfl, hO⟩
      case round =>
        obtain ⟨i, hi, rfl, hO⟩ := hrel
        by_cases hi32 : i < 32
        · have hcH : wr.cell? ⟨gh, i / 4, none⟩ = some (.int .u32 (H (i / 4))) := by
            rw [hO.p.h.cell]
            simp [arr32, show i / 4 < 8 by omega]
          have hq4 : ((i : Int) / 4).toNat = i / 4 := by omega
          have hq8 : i / 4 < 8 := by omega
          have hfz : wr.frozen? ⟨go, i, none⟩ = false := by
            have := hO.o
            unfold Cells at this
            simp [World.frozen?, this]
          have hco : wr.cell? ⟨go, i, none⟩ = some (.int .u8 0) := by
            rw [hO.o.cell]
            simp [outTo, arr8, hi32]
          go_wp2
          refine ⟨⟨i + 1, by omega, by go_num, hO.step hi32⟩, ?_⟩
          simp only [intOfV]
          omega
        · obtain rfl : i = 32 := by omega
          go_wp2_with (first
            | (with_reducible refine wpList_loadA 195 rfl Tryz.underlying195 rfl (.tmp 6) rfl rfl hO.o (info195o _ _) ?_)
            | (with_reducible refine wpList_storeA 195 rfl (.tmp 2) (.tmp 61) rfl rfl rfl hO.p.z (info195o _ _) (z32o _ _) (outTo_one _ _) ?_; intro w11 hc11 hz11 hb11))
          go_wp2_with fail
          refine bodyPost_ret (results_cell_row rfl _ _ w.heap.size _ _ (0, 0) _ rfl hc11 Tryz.underlying195 rfl (info195o _ _)) rfl ⟨?_, ⟨by rw [hz11]; exact hO.p.k.1, fun i hi => (hb11 i (by omega)).trans (hO.p.k.2 i hi), hO.p.k.3.trans hb11.calm⟩⟩
          have hM := hM.out
          have hH := hH.out
          subst hM hH
          rw [outTo_all]
          unfold shaF
          rw [← hjq]
end Go.Proofs.YtlpbbihjnmikkaaGreatDoor.Exe

set_option maxRecDepth 100000
namespace Go.Proofs.YtlpbbihjnmikkaaGreatDoor.Aes.Gf

def sumTo {n : Nat} : Nat → (Nat → BitVec n) → BitVec n
  | 0, _ => 0#n
  | k + 1, f => sumTo k f ^^^ f k
def pw {n : Nat} (T : BitVec n → BitVec n) : Nat → BitVec n → BitVec n
  | 0, b => b
  | k + 1, b => T (pw T k b)
def sel {n : Nat} (c : Bool) (b : BitVec n) : BitVec n := bif c then b else 0#n
def mulG {n : Nat} (T : BitVec n → BitVec n) (bit : BitVec n → Nat → Bool) (m : Nat) (a b : BitVec n) : BitVec n := sumTo m fun i => sel (bit a i) (pw T i b)

def Lin {n : Nat} (T : BitVec n → BitVec n) : Prop := ∀ x y, T (x ^^^ y) = T x ^^^ T y

variable {n : Nat}

theorem xor4 (a b c d : BitVec n) : (a ^^^ b) ^^^ (c ^^^ d) = (a ^^^ c) ^^^ (b ^^^ d) := by
  rw [BitVec.xor_assoc, BitVec.xor_assoc, ← BitVec.xor_assoc b c d, BitVec.xor_comm b c, BitVec.xor_assoc c b d]

theorem Lin.zero {T : BitVec n → BitVec n} (h : Lin T) : T 0#n = 0#n := by
  have := h 0#n 0#n
  simpa using this

theorem Lin.sel {T : BitVec n → BitVec n} (h : Lin T) (c : Bool) (x : BitVec n) : T (sel c x) = sel c (T x) := by
  cases c
  · exact h.zero
  · rfl

theorem pw_lin {T : BitVec n → BitVec n} (h : Lin T) (k : Nat) : Lin (pw T k) := by
  induction k with
  | zero => intro x y; rfl
  | succ k ih => intro x y; show T (pw T k (x ^^^ y)) = T (pw T k x) ^^^ T (pw T k y); rw [ih x y, h]

theorem pw_shift (T : BitVec n → BitVec n) (k : Nat) (b : BitVec n) : pw T k (T b) = T (pw T k b) := by
  induction k with
  | zero => rfl
  | succ k ih => show T (pw T k (T b)) = T (T (pw T k b)); rw [ih]

theorem pw_add (T : BitVec n → BitVec n) (i j : Nat) (b : BitVec n) : pw T i (pw T j b) = pw T (i + j) b := by
  induction i with
  | zero => rw [Nat.zero_add]; rfl
  | succ i ih => rw [Nat.succ_add]; show T (pw T i (pw T j b)) = T (pw T (i + j) b); rw [ih]

theorem sumTo_congr {k : Nat} {f g : Nat → BitVec n} (h : ∀ i, i < k → f i = g i) : sumTo k f = sumTo k g := by
  induction k with
  | zero => rfl
  | succ k ih => show sumTo k f ^^^ f k = sumTo k g ^^^ g k; rw [ih fun i hi => h i (Nat.lt_succ_of_lt hi), h k (Nat.lt_succ_self k)]

theorem sumTo_xor (k : Nat) (f g : Nat → BitVec n) : sumTo k (fun i => f i ^^^ g i) = sumTo k f ^^^ sumTo k g := by
  induction k with
  | zero => simp [sumTo]
  | succ k ih => show sumTo k (fun i => f i ^^^ g i) ^^^ (f k ^^^ g k) = (sumTo k f ^^^ f k) ^^^ (sumTo k g ^^^ g k); rw [ih, xor4]

theorem sumTo_zero (k : Nat) : sumTo k (fun _ => 0#n) = 0#n := by
  induction k with
  | zero => rfl
  | succ k ih => show sumTo k (fun _ => 0#n) ^^^ 0#n = 0#n; rw [ih]; simp

theorem sumTo_lin {m : Nat} (T : BitVec n → BitVec m) (h : ∀ x y, T (x ^^^ y) = T x ^^^ T y) (k : Nat) (f : Nat → BitVec n) : T (sumTo k f) = sumTo k (fun i => T (f i)) := by
  induction k with
  | zero =>
    have h0 := h 0#n 0#n
    simpa [sumTo] using h0
  | succ k ih => show T (sumTo k f ^^^ f k) = sumTo k (fun i => T (f i)) ^^^ T (f k); rw [h, ih]

theorem sumTo_comm (k m : Nat) (f : Nat → Nat → BitVec n) : sumTo k (fun i => sumTo m (fun j => f i j)) = sumTo m (fun j => sumTo k (fun i => f i j)) := by
  induction k with
  | zero => exact (sumTo_zero m).symm
  | succ k ih =>
    show sumTo k (fun i => sumTo m (fun j => f i j)) ^^^ sumTo m (fun j => f k j) = sumTo m (fun j => sumTo k (fun i => f i j) ^^^ f k j)
    rw [ih, sumTo_xor]

theorem sel_xor (c : Bool) (x y : BitVec n) : sel c (x ^^^ y) = sel c x ^^^ sel c y := by
  cases c
  · simp [sel]
  · rfl
theorem sel_bxor (c d : Bool) (x : BitVec n) : sel (c ^^ d) x = sel c x ^^^ sel d x := by
  cases c <;> cases d <;> simp [sel]
theorem sel_sel (c d : Bool) (x : BitVec n) : sel c (sel d x) = sel d (sel c x) := by
  cases c <;> cases d <;> rfl
theorem sel_sum (c : Bool) (k : Nat) (f : Nat → BitVec n) : sel c (sumTo k f) = sumTo k (fun i => sel c (f i)) :=
  sumTo_lin (sel c) (sel_xor c) k f

section
variable {T : BitVec n → BitVec n} {bit : BitVec n → Nat → Bool} {m : Nat} {one : BitVec n}

theorem mulG_add_right (hT : Lin T) (a b c : BitVec n) : mulG T bit m a (b ^^^ c) = mulG T bit m a b ^^^ mulG T bit m a c := by
  unfold mulG
  rw [← sumTo_xor]
  exact sumTo_congr fun i _ => by rw [pw_lin hT i b c, sel_xor]

theorem mulG_add_left (hb : ∀ x y i, bit (x ^^^ y) i = (bit x i ^^ bit y i)) (a b c : BitVec n) : mulG T bit m (a ^^^ b) c = mulG T bit m a c ^^^ mulG T bit m b c := by
  unfold mulG
  rw [← sumTo_xor]
  exact sumTo_congr fun i _ => by rw [hb, sel_bxor]

theorem mulG_T (hT : Lin T) (a b : BitVec n) : mulG T bit m a (T b) = T (mulG T bit m a b) := by
  unfold mulG
  rw [sumTo_lin T hT]
  exact sumTo_congr fun i _ => by rw [hT.sel, pw_shift]

theorem mulG_pw (hT : Lin T) (a b : BitVec n) (k : Nat) : mulG T bit m a (pw T k b) = pw T k (mulG T bit m a b) := by
  induction k with
  | zero => rfl
  | succ k ih => show mulG T bit m a (T (pw T k b)) = T (pw T k (mulG T bit m a b)); rw [mulG_T hT, ih]

theorem mulG_one (basis : ∀ b : BitVec n, sumTo m (fun i => sel (bit b i) (pw T i one)) = b) (a : BitVec n) : mulG T bit m a one = a := basis a

theorem mulG_comm (hT : Lin T) (basis : ∀ b : BitVec n, sumTo m (fun i => sel (bit b i) (pw T i one)) = b) (a b : BitVec n) : mulG T bit m a b = mulG T bit m b a := by
  have key : ∀ a b : BitVec n, mulG T bit m a b = sumTo m (fun i => sumTo m (fun j => sel (bit a i) (sel (bit b j) (pw T (i + j) one)))) := by
    intro a b
    unfold mulG
    apply sumTo_congr
    intro i _
    conv => lhs; rw [← basis b]
    rw [sumTo_lin _ (pw_lin hT i), sel_sum]
    exact sumTo_congr fun j _ => by rw [(pw_lin hT i).sel, pw_add]
  rw [key a b, key b a, sumTo_comm]
  exact sumTo_congr fun j _ => sumTo_congr fun i _ => by rw [sel_sel, Nat.add_comm]

theorem mulG_assoc (hT : Lin T) (basis : ∀ b : BitVec n, sumTo m (fun i => sel (bit b i) (pw T i one)) = b) (a b c : BitVec n) :
    mulG T bit m (mulG T bit m a b) c = mulG T bit m a (mulG T bit m b c) := by
  rw [mulG_comm hT basis (mulG T bit m a b) c]
  have e : ∀ x, mulG T bit m c (mulG T bit m x b) = mulG T bit m x (mulG T bit m c b) := by
    intro x
    show mulG T bit m c (sumTo m fun i => sel (bit x i) (pw T i b)) = sumTo m fun i => sel (bit x i) (pw T i (mulG T bit m c b))
    have hl : Lin (mulG T bit m c) := fun u v => mulG_add_right hT c u v
    rw [sumTo_lin _ hl]
    exact sumTo_congr fun i _ => by rw [hl.sel, mulG_pw hT]
  rw [e a, mulG_comm hT basis c b]

theorem mulG_zero (hT : Lin T) (a : BitVec n) : mulG T bit m a 0#n = 0#n :=
  Lin.zero (T := mulG T bit m a) (fun u v => mulG_add_right hT a u v)
end

end Go.Proofs.YtlpbbihjnmikkaaGreatDoor.Aes.Gf

set_option maxRecDepth 100000
namespace Go.Proofs.YtlpbbihjnmikkaaGreatDoor.Aes.Gf

abbrev B8 := BitVec 8
def t2 (a : B8) : B8 := (a <<< 1) ^^^ (27#8 &&& -(a >>> 7))
/-- The product: the sum of the doubles of a that b's bits name. -/
def mul8 (a b : B8) : B8 := mulG t2 BitVec.getLsbD 8 b a

theorem allB (P : B8 → Bool) (h : (List.range 256).all (fun i => P (BitVec.ofNat 8 i)) = true) (a : B8) : P a = true := by
  have := List.all_eq_true.1 h a.toNat (List.mem_range.2 a.isLt)
  simpa using this

theorem mask_sel (x : B8) : 27#8 &&& -(x >>> 7) = sel (x.getLsbD 7) 27#8 :=
  eq_of_beq (allB (fun x => 27#8 &&& -(x >>> 7) == sel (x.getLsbD 7) 27#8) (by decide +kernel) x)
theorem t2_lin : Lin t2 := by
  intro x y
  unfold t2
  rw [mask_sel, mask_sel, mask_sel, BitVec.shiftLeft_xor_distrib, BitVec.getLsbD_xor, sel_bxor, xor4]
theorem getLsbD_add (x y : B8) (i : Nat) : (x ^^^ y).getLsbD i = (x.getLsbD i ^^ y.getLsbD i) := BitVec.getLsbD_xor
theorem basis8 (b : B8) : sumTo 8 (fun i => sel (b.getLsbD i) (pw t2 i 1#8)) = b :=
  eq_of_beq (allB (fun b => sumTo 8 (fun i => sel (b.getLsbD i) (pw t2 i 1#8)) == b) (by decide +kernel) b)

theorem mul8_comm (a b : B8) : mul8 a b = mul8 b a := mulG_comm t2_lin basis8 b a
theorem mul8_assoc (a b c : B8) : mul8 (mul8 a b) c = mul8 a (mul8 b c) := (mulG_assoc t2_lin basis8 c b a).symm
theorem mul8_spread (a b c : B8) : mul8 a (b ^^^ c) = mul8 a b ^^^ mul8 a c := mulG_add_left getLsbD_add b c a
theorem mul8_spread' (a b c : B8) : mul8 (a ^^^ b) c = mul8 a c ^^^ mul8 b c := mulG_add_right t2_lin c a b
theorem mul8_one (a : B8) : mul8 a 1#8 = a := by rw [mul8_comm]; exact mulG_one basis8 a
theorem mul8_zero (a : B8) : mul8 a 0#8 = 0#8 := by rw [mul8_comm]; exact mulG_zero t2_lin a
theorem mul8_two (a : B8) : t2 a = mul8 a 2#8 := by
  have e : (2#8 : B8) = t2 1#8 := by decide +kernel
  rw [e, mul8_comm]
  show t2 a = mulG t2 BitVec.getLsbD 8 a (t2 1#8)
  rw [mulG_T t2_lin, mulG_one basis8]
theorem mul8_three (a : B8) : mul8 a 3#8 = t2 a ^^^ a := by
  have e : (3#8 : B8) = 2#8 ^^^ 1#8 := by decide +kernel
  rw [e, mul8_spread, mul8_one, ← mul8_two]

/-! ### the code's product, round by round -/
/-- What the code's loop holds after k rounds. -/
def mulTo (a b : B8) (k : Nat) : B8 := sumTo k fun i => sel (b.getLsbD i) (pw t2 i a)
theorem mulTo_full (a b : B8) : mulTo a b 8 = mul8 a b := rfl

/-! ### the other factor -/
def invStep (p : B8 × B8) : B8 × B8 := (mul8 p.1 p.1, mul8 p.2 (mul8 p.1 p.1))
def invTo (a : B8) : Nat → B8 × B8
  | 0 => (a, 1#8)
  | k + 1 => invStep (invTo a k)
def inv8 (a : B8) : B8 := (invTo a 7).2
def invOk (a : B8) : Bool := mul8 a (inv8 a) == bif a == 0#8 then 0#8 else 1#8
theorem inv_table : (List.range 256).all (fun i => invOk (BitVec.ofNat 8 i)) = true := by decide +kernel
theorem inv_mul (a : B8) : mul8 a (inv8 a) = bif a == 0#8 then 0#8 else 1#8 := eq_of_beq (allB invOk inv_table a)
theorem inv_zero : inv8 0#8 = 0#8 := by decide +kernel
theorem inv_ne (a : B8) (h : a ≠ 0#8) : mul8 a (inv8 a) = 1#8 := by rw [inv_mul, beq_eq_false_iff_ne.2 h]; rfl
theorem inv_inv (a : B8) : inv8 (inv8 a) = a := by
  by_cases h : a = 0#8
  · rw [h, inv_zero, inv_zero]
  · have h1 := inv_ne a h
    have h2 : inv8 a ≠ 0#8 := by
      intro e
      rw [e, mul8_zero] at h1
      exact absurd h1 (by decide)
    have h3 := inv_ne _ h2
    have e1 : mul8 (mul8 a (inv8 a)) (inv8 (inv8 a)) = mul8 a 1#8 := by rw [mul8_assoc, h3]
    rw [h1, mul8_one, mul8_comm, mul8_one] at e1
    exact e1

/-! ### powers -/
def pow8 (a : B8) : Nat → B8
  | 0 => 1#8
  | k + 1 => mul8 (pow8 a k) a
theorem pow8_add (a : B8) (i j : Nat) : pow8 a (i + j) = mul8 (pow8 a i) (pow8 a j) := by
  induction j with
  | zero => exact (mul8_one _).symm
  | succ j ih => show mul8 (pow8 a (i + j)) a = mul8 (pow8 a i) (mul8 (pow8 a j) a); rw [ih, mul8_assoc]
theorem pow8_one (a : B8) : pow8 a 1 = a := by show mul8 1#8 a = a; rw [mul8_comm, mul8_one]
theorem invTo_eq (a : B8) (k : Nat) : invTo a k = (pow8 a (2 ^ k), pow8 a (2 ^ (k + 1) - 2)) := by
  induction k with
  | zero => show (a, 1#8) = (pow8 a 1, pow8 a 0); rw [pow8_one]; rfl
  | succ k ih =>
    show invStep (invTo a k) = _
    rw [ih]
    have p := Nat.two_pow_pos k
    have e1 : 2 ^ (k + 1) = 2 ^ k + 2 ^ k := by rw [Nat.pow_succ]; omega
    have e2 : 2 ^ (k + 1 + 1) - 2 = (2 ^ (k + 1) - 2) + (2 ^ k + 2 ^ k) := by rw [Nat.pow_succ 2 (k + 1), e1]; omega
    unfold invStep
    rw [e2, pow8_add a (2 ^ (k + 1) - 2), pow8_add a (2 ^ k), ← pow8_add a (2 ^ k), ← e1]
theorem pow_254 (a : B8) : pow8 a 254 = inv8 a := by
  show _ = (invTo a 7).2
  rw [invTo_eq]
theorem pow_255 (a : B8) : pow8 a 255 = bif a == 0#8 then 0#8 else 1#8 := by
  show mul8 (pow8 a 254) a = _
  rw [pow_254, mul8_comm, inv_mul]

/-! ### the reference's product, over a number -/
/-- A shifted factor into the number, where the other factor's bit asks. -/
def clTo (a b : B8) : Nat → BitVec 16
  | 0 => 0#16
  | k + 1 => clTo a b k ^^^ sel (b.getLsbD k) ((a.setWidth 16) <<< k)
/-- One step of taking away: what stands at x^(8 + j). -/
def redStep (t : BitVec 16) (j : Nat) : BitVec 16 := t ^^^ sel (t.getLsbD (8 + j)) (0x11b#16 <<< j)
/-- k steps: from x^14 down. -/
def redTo (t : BitVec 16) : Nat → BitVec 16
  | 0 => t
  | k + 1 => redStep (redTo t k) (6 - k)
def refMul (a b : B8) : B8 := (redTo (clTo a b 8) 7).setWidth 8

theorem redStep_lin (j : Nat) : Lin (fun t => redStep t j) := by
  intro x y
  show redStep _ _ = redStep _ _ ^^^ redStep _ _
  unfold redStep
  rw [BitVec.getLsbD_xor, sel_bxor, xor4]
theorem redTo_lin (k : Nat) : Lin (fun t => redTo t k) := by
  induction k with
  | zero => intro x y; rfl
  | succ k ih =>
    intro x y
    have i := ih x y
    show redStep (redTo (x ^^^ y) k) _ = redStep (redTo x k) _ ^^^ redStep (redTo y k) _
    rw [show redTo (x ^^^ y) k = _ from i]
    exact redStep_lin (6 - k) _ _
def redOkAt (a : B8) (k : Nat) : Bool := (redTo ((a.setWidth 16) <<< k) 7).setWidth 8 == pw t2 k a
def redOk (a : B8) : Bool := (List.range 8).all (redOkAt a)
theorem red_pw_table : (List.range 256).all (fun i => redOk (BitVec.ofNat 8 i)) = true := by decide +kernel
theorem red_pw (a : B8) (k : Nat) (hk : k < 8) : (redTo ((a.setWidth 16) <<< k) 7).setWidth 8 = pw t2 k a :=
  eq_of_beq (show redOkAt a k = true from List.all_eq_true.1 (show (List.range 8).all (redOkAt a) = true from allB redOk red_pw_table a) k (List.mem_range.2 hk))
theorem clTo_eq (a b : B8) (k : Nat) : clTo a b k = sumTo k fun i => sel (b.getLsbD i) ((a.setWidth 16) <<< i) := by
  induction k with
  | zero => rfl
  | succ k ih => show clTo a b k ^^^ _ = _; rw [ih]; rfl
theorem refMul_eq (a b : B8) : refMul a b = mul8 a b := by
  unfold refMul mul8 mulG
  have hl : ∀ x y : BitVec 16, (fun t => (redTo t 7).setWidth 8) (x ^^^ y) = (fun t => (redTo t 7).setWidth 8) x ^^^ (fun t => (redTo t 7).setWidth 8) y := by
    intro x y
    show ((redTo (x ^^^ y) 7).setWidth 8 : B8) = (redTo x 7).setWidth 8 ^^^ (redTo y 7).setWidth 8
    rw [show redTo (x ^^^ y) 7 = _ from redTo_lin 7 x y, BitVec.setWidth_xor]
  rw [clTo_eq]
  have := sumTo_lin (fun t => (redTo t 7).setWidth 8 : BitVec 16 → BitVec 8) hl 8 (fun i => sel (b.getLsbD i) ((a.setWidth 16) <<< i))
  rw [show (redTo (sumTo 8 fun i => sel (b.getLsbD i) ((a.setWidth 16) <<< i)) 7).setWidth 8 = _ from this]
  refine sumTo_congr fun i hi => ?_
  cases h : b.getLsbD i
  · show (redTo 0#16 7).setWidth 8 = 0#8
    decide +kernel
  · exact red_pw a i hi

/-! ### the box -/
def boxBytes : List Nat := [0x63, 0x7c, 0x77, 0x7b, 0xf2, 0x6b, 0x6f, 0xc5, 0x30, 0x01, 0x67, 0x2b, 0xfe, 0xd7, 0xab, 0x76,
  0xca, 0x82, 0xc9, 0x7d, 0xfa, 0x59, 0x47, 0xf0, 0xad, 0xd4, 0xa2, 0xaf, 0x9c, 0xa4, 0x72, 0xc0,
  0xb7, 0xfd, 0x93, 0x26, 0x36, 0x3f, 0xf7, 0xcc, 0x34, 0xa5, 0xe5, 0xf1, 0x71, 0xd8, 0x31, 0x15,
  0x04, 0xc7, 0x23, 0xc3, 0x18, 0x96, 0x05, 0x9a, 0x07, 0x12, 0x80, 0xe2, 0xeb, 0x27, 0xb2, 0x75,
  0x09, 0x83, 0x2c, 0x1a, 0x1b, 0x6e, 0x5a, 0xa0, 0x52, 0x3b, 0xd6, 0xb3, 0x29, 0xe3, 0x2f, 0x84,
  0x53, 0xd1, 0x00, 0xed, 0x20, 0xfc, 0xb1, 0x5b, 0x6a, 0xcb, 0xbe, 0x39, 0x4a, 0x4c, 0x58, 0xcf,
  0xd0, 0xef, 0xaa, 0xfb, 0x43, 0x4d, 0x33, 0x85, 0x45, 0xf9, 0x02, 0x7f, 0x50, 0x3c, 0x9f, 0xa8,
  0x51, 0xa3, 0x40, 0x8f, 0x92, 0x9d, 0x38, 0xf5, 0xbc, 0xb6, 0xda, 0x21, 0x10, 0xff, 0xf3, 0xd2,
  0xcd, 0x0c, 0x13, 0xec, 0x5f, 0x97, 0x44, 0x17, 0xc4, 0xa7, 0x7e, 0x3d, 0x64, 0x5d, 0x19, 0x73,
  0x60, 0x81, 0x4f, 0xdc, 0x22, 0x2a, 0x90, 0x88, 0x46, 0xee, 0xb8, 0x14, 0xde, 0x5e, 0x0b, 0xdb,
  0xe0, 0x32, 0x3a, 0x0a, 0x49, 0x06, 0x24, 0x5c, 0xc2, 0xd3, 0xac, 0x62, 0x91, 0x95, 0xe4, 0x79,
  0xe7, 0xc8, 0x37, 0x6d, 0x8d, 0xd5, 0x4e, 0xa9, 0x6c, 0x56, 0xf4, 0xea, 0x65, 0x7a, 0xae, 0x08,
  0xba, 0x78, 0x25, 0x2e, 0x1c, 0xa6, 0xb4, 0xc6, 0xe8, 0xdd, 0x74, 0x1f, 0x4b, 0xbd, 0x8b, 0x8a,
  0x70, 0x3e, 0xb5, 0x66, 0x48, 0x03, 0xf6, 0x0e, 0x61, 0x35, 0x57, 0xb9, 0x86, 0xc1, 0x1d, 0x9e,
  0xe1, 0xf8, 0x98, 0x11, 0x69, 0xd9, 0x8e, 0x94, 0x9b, 0x1e, 0x87, 0xe9, 0xce, 0x55, 0x28, 0xdf,
  0x8c, 0xa1, 0x89, 0x0d, 0xbf, 0xe6, 0x42, 0x68, 0x41, 0x99, 0x2d, 0x0f, 0xb0, 0x54, 0xbb, 0x16]
def box8 (a : B8) : B8 := BitVec.ofNat 8 (boxBytes.getD a.toNat 0)
/-- Bit i of the reference's box, as the code has it: the whole byte whose lowest bit counts. -/
def boxBit (b : B8) (i : Nat) : B8 := (0x63#8 >>> i) ^^^ (b >>> i) ^^^ (b >>> ((i + 4) % 8)) ^^^ (b >>> ((i + 5) % 8)) ^^^ (b >>> ((i + 6) % 8)) ^^^ (b >>> ((i + 7) % 8))
def boxTo (b : B8) : Nat → B8
  | 0 => 0#8
  | k + 1 => boxTo b k ||| ((boxBit b k &&& 1#8) <<< k)
def refBox (a : B8) : B8 := boxTo (inv8 a) 8
def boxOk (a : B8) : Bool := box8 a == refBox a
theorem box_table : (List.range 256).all (fun i => boxOk (BitVec.ofNat 8 i)) = true := by decide +kernel
theorem box_eq (a : B8) : box8 a = refBox a := eq_of_beq (allB boxOk box_table a)
/-- The box's way back, by search. -/
def unbox (a : B8) : B8 := BitVec.ofNat 8 (boxBytes.idxOf a.toNat)
def unboxOk (a : B8) : Bool := unbox (box8 a) == a
theorem unbox_table : (List.range 256).all (fun i => unboxOk (BitVec.ofNat 8 i)) = true := by decide +kernel
theorem unbox_box (a : B8) : unbox (box8 a) = a := eq_of_beq (allB unboxOk unbox_table a)
theorem box_inj {a b : B8} (h : box8 a = box8 b) : a = b := by rw [← unbox_box a, h, unbox_box]
def movesOk (a : B8) : Bool := box8 a != a && box8 a != ~~~a
theorem box_moves_table : (List.range 256).all (fun i => movesOk (BitVec.ofNat 8 i)) = true := by decide +kernel
theorem box_moves (a : B8) : (box8 a != a) = true ∧ (box8 a != ~~~a) = true := Bool.and_eq_true_iff.1 (allB movesOk box_moves_table a)

end Go.Proofs.YtlpbbihjnmikkaaGreatDoor.Aes.Gf
