/-
  Joined: GcmE, GcmF, GcmG
-/
import Derived.Test.YtlpbbihjnmikkaaGreatDoorJ30
import Derived.Test.YtlpbbihjnmikkaaGreatDoorJ33
namespace Go.Proofs.YtlpbbihjnmikkaaGreatDoor.Exe
set_option linter.unusedSimpArgs false
set_option linter.unusedVariables false
set_option maxRecDepth 100000
open Go.RowKit

theorem mapFn {l : List Oct} {n : Nat} (h : l.length = n) : (List.range n).map (fn l) = l := by
  refine List.ext_getElem (by simp [h]) fun i h1 h2 => ?_
  simp [fn, h2]
theorem octsN {l : List Oct} {n : Nat} (h : l.length = n) : (octs l).toArray = arrB n (fn l) := by
  rw [arrB_octs, mapFn h]
/-- A key's blocks. -/
def expO (k : List Oct) : List Oct := (List.range 240).map (Aes.expB (fn k))
theorem expO_len (k : List Oct) : (expO k).length = 240 := by simp [expO]
theorem expand247 {k : List Oct} (hk : k.length = 32) (w : World) : Calls Tryz.prog 247 #[.agg (octs k).toArray] w fun e w' => e = .returned (.agg (octs (expO k)).toArray) ∧ Keeps w.heap.size w w' := by
  rw [octsN hk]
  exact (Aes.expand_any (fn k) w).mono fun e w' ⟨h1, h2⟩ => ⟨h1.trans (by rw [expO, ← arrB_octs]; rfl), keeps_of_below h2⟩
/-- The next counter; the counters. -/
def nextO (b : List Oct) : List Oct := o16 (Blo.nextB (fn b))
theorem next249 {b : List Oct} (hb : b.length = 16) (w : World) : Calls Tryz.prog 249 #[.agg (octs b).toArray] w fun e w' => e = .returned (.agg (octs (nextO b)).toArray) ∧ Keeps w.heap.size w w' := by
  rw [octsN hb]
  exact (Blo.next_any (fn b) w).mono fun e w' ⟨h1, h2⟩ => ⟨h1.trans (by rw [nextO, o16, ← arrB_octs]; rfl), keeps_of_below h2⟩
def ctrTo (n : List Oct) : Nat → List Oct
  | 0 => ctrF n 2
  | q + 1 => nextO (ctrTo n q)
theorem ctrF_len {n : List Oct} (hn : n.length = 12) (c : Nat) : (ctrF n c).length = 16 := by simp [ctrF, hn]
theorem ctrTo_len {n : List Oct} (hn : n.length = 12) : ∀ q, (ctrTo n q).length = 16
  | 0 => ctrF_len hn 2
  | q + 1 => o16_len _
/-- A hash by a block. -/
def hashO (h l : List Oct) : List Oct := o16 (Blo.Gf.byteB (Blo.hashF (Blo.Gf.blk (fn h)) (fn l) l.length))
theorem hash253 {w : World} {h l : List Oct} {u : Value} (hh : h.length = 16) (hu : Src u l w) (hl : l.length ≤ 4096) : Calls Tryz.prog 253 #[.agg (octs h).toArray, u] w fun e w' => e = .returned (.agg (octs (hashO h l)).toArray) ∧ Keeps w.heap.size w w' := by
  rw [octsN hh]
  rcases hu with ⟨rfl, rfl⟩ | ⟨b, o, cap, rfl, hc, hb, hr⟩
  · exact (Blo.hash_any (fn h) (fn []) none 0 0 (by decide) (Nat.le_refl _) w (fun h => absurd h (Nat.lt_irrefl _))).mono fun e w' ⟨h1, h2⟩ => ⟨h1.trans (by rw [hashO, o16, ← arrB_octs]; rfl), keeps_of_below h2⟩
  · refine (Blo.hash_any (fn h) (fn l) (some ⟨b, o, none⟩) l.length cap hl hc w (fun _ => ⟨_, rfl, hb, fun j hj => ?_⟩)).mono fun e w' ⟨h1, h2⟩ => ⟨h1.trans (by rw [hashO, o16, ← arrB_octs]; rfl), keeps_of_below h2⟩
    rw [Addr.add_mid, hr j hj]
    simp [fn, hj]
/-- Noughts behind, up to whole blocks. -/
def padG (n : Nat) : Nat := (16 - n % 16) % 16
theorem padG_eq (n : Nat) : (16 - (n : Int) % 16) % 16 = (padG n : Int) ∧ padG n ≤ 64 := by
  unfold padG
  omega
def pad16 (l : List Oct) : List Oct := l ++ List.replicate (padG l.length) 0
theorem pad16_len (l : List Oct) : (pad16 l).length ≤ l.length + 15 := by
  unfold pad16 padG
  simp
  omega
theorem pad251 {w : World} {base : Nat} {v : Value} {l : List Oct} (ho : Owns w base v l) (hl : l.length ≤ 8192) (hb : base ≤ w.heap.size) : Calls Tryz.prog 251 #[v] w fun e w' => ∃ v', e = .returned v' ∧ Owns w' base v' (pad16 l) ∧ Keeps base w w' := by
  obtain ⟨A, c, rfl⟩ := ho.slice
  obtain ⟨p1, p2⟩ := padG_eq l.length
  replace p1 := Lib.hid p1
  go_enter Tryz.func251, Tryz.ntmps251
  go_wp2_with (first
    | (at_builtin; with_reducible refine wpList_zeros rfl (.tmp 3) (.tmp 8) rfl ho hl hb rfl rfl p1.out p2 ?_; intro v' w' o' k'))
  go_ret
  exact ⟨v', rfl, o', k'⟩
/-- The stream that is laid over a text; a text behind p bytes of it. -/
def strmF (K n : List Oct) (x : Nat) : Oct := fn (encF K (ctrTo n (x / 16))) (x % 16)
def xorTo (K n l : List Oct) (p : Nat) : List Oct := (List.range l.length).map fun x => if x < p then fn l x ^^^ strmF K n x else fn l x
def xorG (K n l : List Oct) : List Oct := (List.range l.length).map fun x => fn l x ^^^ strmF K n x
theorem xorTo_len (K n l : List Oct) (p : Nat) : (xorTo K n l p).length = l.length := by simp [xorTo]
theorem xorG_len (K n l : List Oct) : (xorG K n l).length = l.length := by simp [xorG]
theorem xorTo_zero (K n l : List Oct) : xorTo K n l 0 = l := by
  unfold xorTo
  simp only [Nat.not_lt_zero, if_false]
  exact mapFn rfl
theorem xorTo_all (K n l : List Oct) {p : Nat} (h : l.length ≤ p) : xorTo K n l p = xorG K n l := by
  unfold xorTo xorG
  refine List.map_congr_left fun i hi => ?_
  rw [if_pos (by have := List.mem_range.1 hi; omega)]
theorem xorTo_get (K n l : List Oct) {p x : Nat} (h : p ≤ x) (hx : x < l.length) : (xorTo K n l p)[x]? = some (fn l x) := by
  unfold xorTo
  rw [List.getElem?_map, List.getElem?_range hx]
  simp only [Option.map_some]
  rw [if_neg (by omega)]
theorem xorTo_step (K n l : List Oct) {p : Nat} (hp : p < l.length) : (xorTo K n l p).set p (fn l p ^^^ strmF K n p) = xorTo K n l (p + 1) := by
  refine List.ext_getElem (by simp [xorTo]) fun i h1 h2 => ?_
  have hi : i < l.length := by simpa [xorTo] using h2
  rw [List.getElem_set]
  by_cases e : p = i
  · subst e
    rw [if_pos rfl]
    simp [xorTo]
  · rw [if_neg e]
    simp only [xorTo, List.getElem_map, List.getElem_range]
    by_cases e1 : i < p
    · rw [if_pos e1, if_pos (by omega)]
    · rw [if_neg e1, if_neg (by omega)]
theorem xorG_twice (K n l : List Oct) : xorG K n (xorG K n l) = l := by
  refine List.ext_getElem (by rw [xorG_len, xorG_len]) fun i h1 h2 => ?_
  have e : fn (xorG K n l) i = fn l i ^^^ strmF K n i := by
    unfold fn
    rw [List.getD_eq_getElem?_getD, xorG, List.getElem?_map, List.getElem?_range h2]
    rfl
  unfold xorG at h1 ⊢
  rw [List.getElem_map, List.getElem_range]
  rw [show fn ((List.range l.length).map fun x => fn l x ^^^ strmF K n x) i = fn l i ^^^ strmF K n i from e, BitVec.xor_assoc, BitVec.xor_self, BitVec.xor_zero]
  simp [fn, h2]
/-- A length's bytes; what is hashed; the tag; what is sealed. -/
def lenB (m : Nat) : List Oct := [BitVec.ofInt 8 (8 * (m : Int) / 72057594037927936)] ++ [BitVec.ofInt 8 (8 * (m : Int) / 281474976710656)] ++ [BitVec.ofInt 8 (8 * (m : Int) / 1099511627776)] ++ [BitVec.ofInt 8 (8 * (m : Int) / 4294967296)] ++ [BitVec.ofInt 8 (8 * (m : Int) / 16777216)] ++ [BitVec.ofInt 8 (8 * (m : Int) / 65536)] ++ [BitVec.ofInt 8 (8 * (m : Int) / 256)] ++ [BitVec.ofInt 8 (8 * (m : Int) % 256)]
def dataT (b s : List Oct) : List Oct := pad16 (pad16 b ++ s) ++ lenB b.length ++ lenB s.length
def zero16 : List Oct := [0, 0, 0, 0, 0, 0, 0, 0, 0, 0, 0, 0, 0, 0, 0, 0]
def tagG (K n b s : List Oct) : List Oct := xorO (hashO (encF K zero16) (dataT b s)) (encF K (ctrF n 1))
theorem tagG_len (K n b s : List Oct) : (tagG K n b s).length = 16 := o16_len _
def sealG (k n b t : List Oct) : List Oct := xorG (expO k) n t ++ tagG (expO k) n b (xorG (expO k) n t)
theorem sealG_len (k n b t : List Oct) : (sealG k n b t).length = t.length + 16 := by simp [sealG, xorG_len, tagG_len]
end Go.Proofs.YtlpbbihjnmikkaaGreatDoor.Exe

namespace Go.Proofs.YtlpbbihjnmikkaaGreatDoor.Exe
set_option linter.unusedSimpArgs false
set_option linter.unusedVariables false
set_option maxRecDepth 100000
open Go.RowKit

theorem counter2 (C : Ciph) {W : World} (hT : Laid W) {n : List Oct} (hn : n.length = 12) :
    Calls Tryz.prog 248 #[.agg (octs n).toArray, .int .u32 2] W fun e W' => e = .returned (.agg (octs (ctrTo n 0)).toArray) ∧ Keeps W.heap.size W W' := counter248 C hT hn (.inr rfl)
theorem counter1 (C : Ciph) {W : World} (hT : Laid W) {n : List Oct} (hn : n.length = 12) :
    Calls Tryz.prog 248 #[.agg (octs n).toArray, .int .u32 1] W fun e W' => e = .returned (.agg (octs (ctrF n 1)).toArray) ∧ Keeps W.heap.size W W' := counter248 C hT hn (.inl rfl)
theorem octs_size {l : List Oct} {n : Nat} (h : l.length = n) : (octs l).toArray.size = n := by simp [octs, h]
theorem info23 {l : List Oct} (h : l.length = 32) : (Tryz.prog.info? 23).map (·.size) = some (octs l).toArray.size := by rw [octs_size h]; kernel_rfl
theorem info240 {l : List Oct} (h : l.length = 12) : (Tryz.prog.info? 240).map (·.size) = some (octs l).toArray.size := by rw [octs_size h]; kernel_rfl
theorem info310 {l : List Oct} (h : l.length = 16) : (Tryz.prog.info? 310).map (·.size) = some (octs l).toArray.size := by rw [octs_size h]; kernel_rfl
theorem info348o {l : List Oct} (h : l.length = 240) : (Tryz.prog.info? 348).map (·.size) = some (octs l).toArray.size := by rw [octs_size h]; exact info348
theorem octs_all (l : List Oct) : (octs l).toArray.all (·.oneCell') = true := by
  rw [Array.all_eq_true_iff_forall_mem]
  exact fun v hv => octs_one _ v (by simpa using hv)
theorem same_size {Z : Array Value} {l : List Oct} {n : Nat} (hz : Z.size = n) (h : l.length = n) : Z.size = (octs l).toArray.size := by rw [hz, octs_size h]
/-- The world of gcm.Xor: the key's blocks, the counter, the bytes. -/
structure Xs (w w' : World) (ga gc go cap : Nat) (K c M : List Oct) : Prop where
  k : Keeps w.heap.size w w'
  a : Cells w' ga (octs K).toArray 348
  c : Cells w' gc (octs c).toArray 310
  r : w'.ownsRow go 5 1 (.slice (some ⟨go, 0, none⟩) M.length cap) M.length (octs M)
  na : go ≠ ga
  nc : go ≠ gc
  ac : ga ≠ gc
  lo : w.heap.size ≤ go
  la : w.heap.size ≤ ga
  lc : w.heap.size ≤ gc
theorem ownsRow_keeps {w w' : World} {go cap n : Nat} {xs : List Value} (h : w.ownsRow go 5 1 (.slice (some ⟨go, 0, none⟩) n cap) n xs) (hb : w'.heap[go]? = w.heap[go]?) : w'.ownsRow go 5 1 (.slice (some ⟨go, 0, none⟩) n cap) n xs := by
  refine ⟨h.1, h.2.imp id fun ⟨g, cap', cur, e, h2, h3, h4⟩ => ?_⟩
  have : g = go := by cases e; rfl
  subst this
  exact ⟨g, cap', cur, e, h2, hb.trans h3, h4⟩
theorem ownsRow_lt {w : World} {go cap n : Nat} {xs : List Value} (h : w.ownsRow go 5 1 (.slice (some ⟨go, 0, none⟩) n cap) n xs) : go < w.heap.size ∧ n ≤ cap := by
  rcases h.2 with ⟨h, _⟩ | ⟨g, cap', cur, e, h2, h3, h4, _⟩
  · cases h
  · cases e
    exact ⟨heap_lt h3, h4⟩
theorem Xs.later {w w1 w2 : World} {ga gc go cap : Nat} {K c M : List Oct} (h : Xs w w1 ga gc go cap K c M) (k : Keeps w1.heap.size w1 w2) : Xs w w2 ga gc go cap K c M :=
  ⟨h.k.trans k h.k.1, h.a.keeps k, h.c.keeps k, ownsRow_keeps h.r (k.2 go (ownsRow_lt h.r).1), h.na, h.nc, h.ac, h.lo, h.la, h.lc⟩
theorem Xs.ctr {w w1 w2 : World} {ga gc go cap : Nat} {K c c' M : List Oct} (h : Xs w w1 ga gc go cap K c M) (hc : Cells w2 gc (octs c').toArray 310) (hz : w2.heap.size = w1.heap.size) (hb : Else gc w1 w2) : Xs w w2 ga gc go cap K c' M :=
  ⟨⟨by rw [hz]; exact h.k.1, fun i hi => (hb i (by have := h.lc; omega)).trans (h.k.2 i hi), h.k.3.trans hb.calm⟩, (hb _ h.ac).trans h.a, hc, ownsRow_keeps h.r (hb _ h.nc), h.na, h.nc, h.ac, h.lo, h.la, h.lc⟩
theorem octs_set (l : List Oct) (i : Nat) (y : Oct) : (octs l).set i (.int .u8 (y.toNat : Int)) = octs (l.set i y) := by simp [octs, List.map_set]
theorem Xs.byte {w w1 : World} {ga gc go cap : Nat} {K c M : List Oct} (h : Xs w w1 ga gc go cap K c M) (i : Nat) (y : Oct) : Xs w (w1.setCell ⟨go, i, none⟩ (.int .u8 (y.toNat : Int))) ga gc go cap K c (M.set i y) := by
  have hset : ∀ k : Nat, k ≠ go → (w1.setCell ⟨go, i, none⟩ (.int .u8 (y.toNat : Int))).heap[k]? = w1.heap[k]? := fun k hk => Below.heap_setCell w1 ⟨go, i, none⟩ _ k hk
  have hs := (h.r.stored i (.int .u8 (y.toNat : Int))).1
  rw [octs_set] at hs
  refine ⟨⟨by simpa using h.k.1, fun k hk => (hset k (by have := h.lo; omega)).trans (h.k.2 k hk), h.k.3.trans ⟨rfl, rfl⟩⟩, (hset _ (Ne.symm h.na)).trans h.a, (hset _ (Ne.symm h.nc)).trans h.c, ?_, h.na, h.nc, h.ac, h.lo, h.la, h.lc⟩
  rw [List.length_set]
  exact hs
theorem Xs.cell {w w1 : World} {ga gc go cap : Nat} {K c M : List Oct} (h : Xs w w1 ga gc go cap K c M) {i : Nat} {y : Oct} (hi : M[i]? = some y) : w1.cell? ⟨go, i, none⟩ = some (.int .u8 (y.toNat : Int)) := by
  have hlt : i < M.length := by
    rcases Nat.lt_or_ge i M.length with h | h
    · exact h
    · rw [List.getElem?_eq_none h] at hi; cases hi
  rw [h.r.cellAt i (by omega)]
  simp [octs, hi]
theorem Xs.owns {w w1 : World} {ga gc go cap : Nat} {K c M : List Oct} (h : Xs w w1 ga gc go cap K c M) : Owns w1 w.heap.size (.slice (some ⟨go, 0, none⟩) M.length cap) M := owns_base h.lo h.r
theorem cell16 {w : World} {g : Nat} {l : List Oct} {t : TypeId} (h : Cells w g (octs l).toArray t) {j : Nat} (hj : j < l.length) : w.cell? ⟨g, j, none⟩ = some (.int .u8 ((fn l j).toNat : Int)) := by
  rw [h.cell]
  simp [octs, fn, hj]
/-- How much of the text lies under the stream. -/
def doneTo (n i : Nat) : Nat := min n (16 * ((i + 15) / 16))
def ctrAt (i : Nat) : Nat := (i + 15) / 16 - 1
end Go.Proofs.YtlpbbihjnmikkaaGreatDoor.Exe

namespace Go.Proofs.YtlpbbihjnmikkaaGreatDoor.Exe
set_option linter.unusedSimpArgs false
set_option linter.unusedVariables false
set_option maxRecDepth 100000
open Go.RowKit

theorem z348 : Tryz.zeroCells348.size = 240 := by kernel_rfl
theorem z348o {l : List Oct} (h : l.length = 240) : Tryz.zeroCells348.size = (octs l).toArray.size := same_size z348 h
/-- The world ahead of the loop: the arguments' blocks, the key's blocks. -/
structure Xa (w w' : World) (ga : Nat) (k n K : List Oct) : Prop where
  s : Keeps w.heap.size w w'
  a : Cells w' w.heap.size (octs k).toArray 23
  b : Cells w' (w.heap.size + 1) (octs n).toArray 240
  c : Cells w' ga (octs K).toArray 348
  l : w.heap.size + 2 ≤ ga
theorem Xa.later {w w1 w2 : World} {ga : Nat} {k n K : List Oct} (h : Xa w w1 ga k n K) (q : Keeps w1.heap.size w1 w2) : Xa w w2 ga k n K :=
  ⟨h.s.trans q h.s.1, h.a.keeps q, h.b.keeps q, h.c.keeps q, h.l⟩
theorem Xa.made {w w1 w2 : World} {k n K : List Oct} {Z : Array Value} (k3 : Keeps ((w.alloc (.cells (octs k).toArray 23)).alloc (.cells (octs n).toArray 240)).heap.size ((w.alloc (.cells (octs k).toArray 23)).alloc (.cells (octs n).toArray 240)) w1)
    (hc : Cells w2 w1.heap.size (octs K).toArray 348) (hz : w2.heap.size = (w1.alloc (.cells Z 348)).heap.size) (hb : Else w1.heap.size (w1.alloc (.cells Z 348)) w2) : Xa w w2 w1.heap.size k n K := by
  have kA := Keeps.alloc w (.cells (octs k).toArray 23)
  have s1 : (w.alloc (.cells (octs k).toArray 23)).heap.size = w.heap.size + 1 := by simp
  have s2 : ((w.alloc (.cells (octs k).toArray 23)).alloc (.cells (octs n).toArray 240)).heap.size = w.heap.size + 1 + 1 := by simp
  have kB := Keeps.alloc (w.alloc (.cells (octs k).toArray 23)) (.cells (octs n).toArray 240)
  have hA := heap_new w (octs k).toArray 23
  have hB := heap_new (w.alloc (.cells (octs k).toArray 23)) (octs n).toArray 240
  rw [s1] at hB
  have hA2 : Cells ((w.alloc (.cells (octs k).toArray 23)).alloc (.cells (octs n).toArray 240)) w.heap.size (octs k).toArray 23 := Cells.keeps hA kB
  have hB2 : Cells ((w.alloc (.cells (octs k).toArray 23)).alloc (.cells (octs n).toArray 240)) (w.heap.size + 1) (octs n).toArray 240 := hB
  have k2 := kA.trans kB (by omega)
  have k4 := Keeps.allocStore _ hz hb
  have k5 := k3.trans k4 k3.1
  have l3 := k3.1
  exact ⟨k2.trans k5 (by omega), hA2.keeps k5, hB2.keeps k5, hc, by omega⟩
abbrev z16 : Array Value := #[.int .u8 0, .int .u8 0, .int .u8 0, .int .u8 0, .int .u8 0, .int .u8 0, .int .u8 0, .int .u8 0, .int .u8 0, .int .u8 0, .int .u8 0, .int .u8 0, .int .u8 0, .int .u8 0, .int .u8 0, .int .u8 0]
theorem z16o {l : List Oct} (h : l.length = 16) : z16.size = (octs l).toArray.size := same_size rfl h
theorem owns_cut {w : World} {base : Nat} {v : Value} {l : List Oct} (h : Owns w base v l) (h0 : 0 < l.length) : ∃ go cap, v = .slice (some ⟨go, 0, none⟩) l.length cap ∧ base ≤ go ∧ w.ownsRow go 5 1 (.slice (some ⟨go, 0, none⟩) l.length cap) l.length (octs l) := by
  rcases h.2 with ⟨_, e⟩ | ⟨g, cap, cur, e, h1, h2⟩
  · omega
  · exact ⟨g, cap, e, h1, h.1, .inr ⟨g, cap, cur, rfl, Nat.le_refl _, h2⟩⟩
theorem Xs.made {w w2 w4 w5 : World} {ga go cap : Nat} {k n K c l : List Oct} {Z : Array Value} (h2 : Xa w w2 ga k n K) (h4 : Xa w w4 ga k n K) (hgo : w2.heap.size ≤ go) (o4 : w4.ownsRow go 5 1 (.slice (some ⟨go, 0, none⟩) l.length cap) l.length (octs l))
    (hc : Cells w5 w4.heap.size (octs c).toArray 310) (hz : w5.heap.size = (w4.alloc (.cells Z 310)).heap.size) (hb : Else w4.heap.size (w4.alloc (.cells Z 310)) w5) : Xs w w5 ga w4.heap.size go cap K c l := by
  have k4 := Keeps.allocStore _ hz hb
  have h5 := h4.later k4
  have l1 := h2.c.lt
  have l2 := h4.c.lt
  have l3 := (ownsRow_lt o4).1
  have l4 := h4.l
  exact ⟨h5.s, h5.c, hc, ownsRow_keeps o4 (k4.2 go l3), by omega, by omega, by omega, by have := h2.s.1; omega, by omega, by have := h4.s.1; omega⟩
theorem octs_same {a b : List Oct} {n : Nat} (ha : a.length = n) (hb : b.length = n) : (octs a).toArray.size = (octs b).toArray.size := by rw [octs_size ha, octs_size hb]
theorem Xs.next {w w1 w2 : World} {ga gc go cap : Nat} {K n M : List Oct} {q q' : Nat} (h : Xs w w1 ga gc go cap K (ctrTo n q) M) (hc : Cells w2 gc (octs (nextO (ctrTo n q))).toArray 310) (hz : w2.heap.size = w1.heap.size) (hb : Else gc w1 w2) (hq : q + 1 = q') : Xs w w2 ga gc go cap K (ctrTo n q') M := by
  subst hq
  exact h.ctr hc hz hb
/-- Beside it the stream's piece. -/
structure Xt (w w' : World) (ga gc go gs cap : Nat) (K c e M : List Oct) : Prop where
  s : Xs w w' ga gc go cap K c M
  e : Cells w' gs (octs e).toArray 310
  ne : go ≠ gs
theorem Xt.made {w w8 w9 : World} {ga gc go cap : Nat} {K c e M : List Oct} {Z : Array Value} (h : Xs w w8 ga gc go cap K c M) (hc : Cells w9 w8.heap.size (octs e).toArray 310) (hz : w9.heap.size = (w8.alloc (.cells Z 310)).heap.size) (hb : Else w8.heap.size (w8.alloc (.cells Z 310)) w9) : Xt w w9 ga gc go w8.heap.size cap K c e M :=
  ⟨h.later (Keeps.allocStore _ hz hb), hc, by have := (ownsRow_lt h.r).1; omega⟩
theorem Xt.byte {w w1 : World} {ga gc go gs cap : Nat} {K c e M : List Oct} (h : Xt w w1 ga gc go gs cap K c e M) (i : Nat) (y : Oct) : Xt w (w1.setCell ⟨go, i, none⟩ (.int .u8 (y.toNat : Int))) ga gc go gs cap K c e (M.set i y) :=
  ⟨h.s.byte i y, (Below.heap_setCell w1 ⟨go, i, none⟩ _ gs (Ne.symm h.ne)).trans h.e, h.ne⟩
theorem Xt.drew {w w1 : World} {ga gc go gs cap : Nat} {K c e M : List Oct} (h : Xt w w1 ga gc go gs cap K c e M) : Xt w w1.drew ga gc go gs cap K c e M :=
  ⟨h.s.later ⟨Nat.le_refl _, fun _ _ => rfl, rfl, rfl⟩, h.e, h.ne⟩
theorem Xt.step {w w1 : World} {ga gc go gs cap i j : Nat} {K n l c : List Oct} (h : Xt w w1 ga gc go gs cap K c (encF K (ctrTo n (i / 16))) (xorTo K n l (i + j))) (hi : i % 16 = 0) (hj : j < 16) (hij : i + j < l.length) :
    Xt w (w1.setCell ⟨go, i + j, none⟩ (.int .u8 (((fn l (i + j)).toNat ^^^ (fn (encF K (ctrTo n (i / 16))) j).toNat : Nat) : Int))).drew ga gc go gs cap K c (encF K (ctrTo n (i / 16))) (xorTo K n l (i + (j + 1))) := by
  have e : fn (encF K (ctrTo n (i / 16))) j = strmF K n (i + j) := by
    unfold strmF
    rw [show (i + j) / 16 = i / 16 by omega, show (i + j) % 16 = j by omega]
  have := (h.byte (i + j) (fn l (i + j) ^^^ strmF K n (i + j))).drew
  rw [xorTo_step _ _ _ hij, BitVec.toNat_xor, ← e] at this
  exact this
set_option maxHeartbeats 4000000 in
theorem xor196n (C : Ciph) {w : World} {u : Value} {k n l : List Oct} (hT : Laid w) (hk : k.length = 32) (hn : n.length = 12) (hu : Src u l w) (hl : l.length ≤ 4096) (hl0 : 0 < l.length) :
    Calls Tryz.prog 196 #[.agg (octs k).toArray, .agg (octs n).toArray, .int .u32 2, u] w fun e w' => ∃ v, e = .returned v ∧ Owns w' w.heap.size v (xorG (expO k) n l) ∧ Keeps w.heap.size w w' := by
  obtain ⟨A, c, rfl⟩ := hu.slice
  have hA := heap_new w (octs k).toArray 23
  have kB := Keeps.alloc (w.alloc (.cells (octs k).toArray 23)) (.cells (octs n).toArray 240)
  have hA2 : Cells ((w.alloc (.cells (octs k).toArray 23)).alloc (.cells (octs n).toArray 240)) w.heap.size (octs k).toArray 23 := Cells.keeps hA kB
  clear hA kB
  have hK240 := expO_len k
  have hC16 := ctrTo_len hn 0
  go_enter Tryz.func196, Tryz.ntmps196
  go_wp2_with (first
    | (with_reducible refine wpList_loadA 23 rfl Tryz.underlying23 rfl (.tmp 4) rfl rfl hA2 (info23 hk) ?_)
    | (go_at_call 247; (with_reducible refine (expand247 hk _).mono ?_); rintro e w1 ⟨rfl, k3⟩; have hz1 : Cells (w1.alloc (.cells Tryz.zeroCells348 348)) w1.heap.size Tryz.zeroCells348 348 := heap_new w1 Tryz.zeroCells348 348)
    | (with_reducible refine wpList_storeA 348 rfl (.tmp 9) (.tmp 17) rfl rfl rfl hz1 (info348o hK240) (z348o hK240) (octs_all _) ?_; intro w2 hc2 hz2 hb2; have hX2 := Xa.made (n := n) k3 hc2 hz2 hb2; clear hz1 hc2 hz2 hb2 k3; generalize w1.heap.size = ga at hX2 ⊢; have hs2 := hu.later hX2.s.1 hX2.s.2)
    | (go_at_call 8; (with_reducible refine (clone8_src hs2 hl).mono ?_); rintro e w3 ⟨v3, rfl, o3, k3⟩; have hX3 := hX2.later k3; have hT3 := hT.keeps hX3.s.2; obtain ⟨go, cap, rfl, hgo, r3⟩ := owns_cut o3 hl0; clear o3)
    | (with_reducible refine wpList_loadA 240 rfl Tryz.underlying240 rfl (.tmp 5) rfl rfl hX3.b (info240 hn) ?_)
    | (go_at_call 248; (with_reducible refine (counter2 C hT3 hn).mono ?_); rintro e w4 ⟨rfl, k4⟩; have hX4 := hX3.later k4; have r4 := ownsRow_keeps r3 (k4.2 go (ownsRow_lt r3).1); have hz4 : Cells (w4.alloc (.cells z16 310)) w4.heap.size z16 310 := heap_new w4 z16 310)
    | (with_reducible refine wpList_storeA 310 rfl (.tmp 11) (.tmp 22) rfl rfl rfl hz4 (info310 hC16) (z16o hC16) (octs_all _) ?_; intro w5 hc5 hz5 hb5; have hS := Xs.made hX2 hX4 hgo r4 hc5 hz5 hb5; clear hz4 hc5 hz5 hb5 hX2 hX3 hX4 r3 r4 k3 k4 hT3 hs2 hA2; generalize w4.heap.size = gc at hS ⊢))
  go_loopw [25] (fun x w' => ∃ i : Nat, i ≤ l.length ∧ x = .int .i64 i ∧ Xs w w' ga gc go cap (expO k) (ctrTo n (ctrAt i)) (xorTo (expO k) n l (doneTo l.length i))) (fun x _ => l.length - (intOfV x).toNat)
  case atStart =>
    refine ⟨0, Nat.zero_le _, rfl, ?_⟩
    rw [show ctrAt 0 = 0 from rfl, show doneTo l.length 0 = 0 from by simp [doneTo], xorTo_zero]
    exact hS
  case round =>
    clear hS
    obtain ⟨i, hi, rfl, hS⟩ := hrel
    by_cases hlt : i < l.length
    · have hd : (i : Int) < (l.length : Int) := by omega
      by_cases h16 : i % 16 = 0
      · have hm : (i : Int) % 16 = 0 := by omega
        rw [show doneTo l.length i = i by unfold doneTo; omega] at hS
        have hcq := ctrTo_len hn (i / 16)
        have hce := encF_len (expO k) (ctrTo n (i / 16))
        obtain ⟨m, hmn, hm1, hm2, hm3⟩ : ∃ m : Nat, min ((i : Int) + 16) (l.length : Int) = (m : Int) ∧ i < m ∧ m ≤ i + 16 ∧ m = min (i + 16) l.length := ⟨min (i + 16) l.length, by omega, by omega, by omega, rfl⟩
        replace hm3 := Lib.hid hm3
        have hcap := (ownsRow_lt hS.r).2
        rw [xorTo_len] at hcap
        have hb1 : (i : Int) ≤ (m : Int) := by omega
        have hb2 : (m : Int) ≤ (cap : Int) := by omega
        have hb3 : ¬ cap = i := by omega
        by_cases h0 : i = 0
        · have hnp : ¬ ((0 : Int) < (i : Int)) := by omega
          rw [show ctrAt i = i / 16 by unfold ctrAt; omega] at hS
          have hT7 := hT.keeps hS.k.2
          clear h0
          go_wp2_with (first
            | (with_reducible refine wpList_loadA 310 rfl Tryz.underlying310 rfl (.tmp 11) rfl rfl hS.c (info310 hcq) ?_)
            | (go_at_call 250; (with_reducible refine (encrypt250 C hT7 hS.a hK240 hcq).mono ?_); rintro e w8 ⟨rfl, k8⟩; have hS8 := hS.later k8; have hz8 : Cells (w8.alloc (.cells z16 310)) w8.heap.size z16 310 := heap_new w8 z16 310)
            | (with_reducible refine wpList_storeA 310 rfl (.tmp 13) (.tmp 41) rfl rfl rfl hz8 (info310 hce) (z16o hce) (octs_all _) ?_; intro w9 hc9 hz9 hb9; have hY := Xt.made hS8 hc9 hz9 hb9; clear hS8 hz8 hc9 hz9 hb9 k8; generalize w8.heap.size = gs at hY ⊢))
          go_loopw [52] (fun x w' => ∃ j : Nat, j ≤ m - i ∧ x = .int .i64 j ∧ Xt w w' ga gc go gs cap (expO k) (ctrTo n (i / 16)) (encF (expO k) (ctrTo n (i / 16))) (xorTo (expO k) n l (i + j))) (fun x _ => (m - i) - (intOfV x).toNat)
          case atStart => exact ⟨0, Nat.zero_le _, rfl, hY⟩
          case round =>
            clear hY
            obtain ⟨j, hj, rfl, hY⟩ := hrel
            by_cases hjl : j < m - i
            · have hij : i + j < l.length := by omega
              have hj16 : j < 16 := by omega
              have c1 := hY.s.cell (xorTo_get (expO k) n l (Nat.le_refl _) hij)
              have c2 := cell16 hY.e (j := j) (by rw [hce]; exact hj16)
              have f1 := hY.s.r.frozenAt (i + j)
              have x1 := Aes.bits_xor8 (fn l (i + j)) (fn (encF (expO k) (ctrTo n (i / 16))) j)
              have hjd : (j : Int) < ((m - i : Nat) : Int) := by omega
              have hN := Xt.step hY h16 hj16 hij
              clear hY
              go_wp2_with fail
              have c1 : wr.drew.cell? ⟨go, i + j, none⟩ = _ := c1
              have c2 : wr.drew.cell? ⟨gs, j, none⟩ = _ := c2
              have f1 : wr.drew.frozen? ⟨go, i + j, none⟩ = false := f1
              go_region
              all_goals go_wp2_with fail
              all_goals exact ⟨⟨j + 1, by omega, by go_num, hN⟩, by simp only [intOfV]; omega⟩
            · obtain rfl : j = m - i := by omega
              go_wp2_with fail
              have hm3 := hm3.out
              refine ⟨⟨i + 1, by omega, by go_num, ?_⟩, by simp only [intOfV]; omega⟩
              rw [show ctrAt (i + 1) = i / 16 by unfold ctrAt; omega, show doneTo l.length (i + 1) = i + (m - i) by unfold doneTo; omega]
              exact hY.s
        · have hpos : (0 : Int) < (i : Int) := by omega
          have hcl := ctrTo_len hn (ctrAt i)
          have hcn := o16_len (Blo.nextB (fn (ctrTo n (ctrAt i))))
          have hq : ctrAt i + 1 = i / 16 := by unfold ctrAt; omega
          go_wp2_with (first
            | (with_reducible refine wpList_loadA 310 rfl Tryz.underlying310 rfl (.tmp 11) rfl rfl hS.c (info310 hcl) ?_)
            | (go_at_call 249; (with_reducible refine (next249 hcl _).mono ?_); rintro e w6 ⟨rfl, k6⟩; have hS6 := hS.later k6)
            | (with_reducible refine wpList_storeA 310 rfl (.tmp 11) (.tmp 36) rfl rfl rfl hS6.c (info310 hcn) (octs_same hcl hcn) (octs_all _) ?_; intro w7 hc7 hz7 hb7; have hS7 := Xs.next hS6 hc7 hz7 hb7 hq; clear hS6 k6 hc7 hz7 hb7; have hT7 := hT.keeps hS7.k.2)
            | (with_reducible refine wpList_loadA 310 rfl Tryz.underlying310 rfl (.tmp 11) rfl rfl hS7.c (info310 hcq) ?_)
            | (go_at_call 250; (with_reducible refine (encrypt250 C hT7 hS7.a hK240 hcq).mono ?_); rintro e w8 ⟨rfl, k8⟩; have hS8 := hS7.later k8; have hz8 : Cells (w8.alloc (.cells z16 310)) w8.heap.size z16 310 := heap_new w8 z16 310)
            | (with_reducible refine wpList_storeA 310 rfl (.tmp 13) (.tmp 41) rfl rfl rfl hz8 (info310 hce) (z16o hce) (octs_all _) ?_; intro w9 hc9 hz9 hb9; have hY := Xt.made hS8 hc9 hz9 hb9; clear hS8 hz8 hc9 hz9 hb9 k8; generalize w8.heap.size = gs at hY ⊢))
          go_loopw [52] (fun x w' => ∃ j : Nat, j ≤ m - i ∧ x = .int .i64 j ∧ Xt w w' ga gc go gs cap (expO k) (ctrTo n (i / 16)) (encF (expO k) (ctrTo n (i / 16))) (xorTo (expO k) n l (i + j))) (fun x _ => (m - i) - (intOfV x).toNat)
          case atStart => exact ⟨0, Nat.zero_le _, rfl, hY⟩
          case round =>
            clear hY
            obtain ⟨j, hj, rfl, hY⟩ := hrel
            by_cases hjl : j < m - i
            · have hij : i + j < l.length := by omega
              have hj16 : j < 16 := by omega
              have c1 := hY.s.cell (xorTo_get (expO k) n l (Nat.le_refl _) hij)
              have c2 := cell16 hY.e (j := j) (by rw [hce]; exact hj16)
              have f1 := hY.s.r.frozenAt (i + j)
              have x1 := Aes.bits_xor8 (fn l (i + j)) (fn (encF (expO k) (ctrTo n (i / 16))) j)
              have hjd : (j : Int) < ((m - i : Nat) : Int) := by omega
              have hN := Xt.step hY h16 hj16 hij
              clear hY
              go_wp2_with fail
              have c1 : wr.drew.cell? ⟨go, i + j, none⟩ = _ := c1
              have c2 : wr.drew.cell? ⟨gs, j, none⟩ = _ := c2
              have f1 : wr.drew.frozen? ⟨go, i + j, none⟩ = false := f1
              go_region
              all_goals go_wp2_with fail
              all_goals exact ⟨⟨j + 1, by omega, by go_num, hN⟩, by simp only [intOfV]; omega⟩
            · obtain rfl : j = m - i := by omega
              go_wp2_with fail
              have hm3 := hm3.out
              refine ⟨⟨i + 1, by omega, by go_num, ?_⟩, by simp only [intOfV]; omega⟩
              rw [show ctrAt (i + 1) = i / 16 by unfold ctrAt; omega, show doneTo l.length (i + 1) = i + (m - i) by unfold doneTo; omega]
              exact hY.s
      · have hm : ¬ ((i : Int) % 16 = 0) := by omega
        go_wp2_with fail
        refine ⟨⟨i + 1, by omega, by go_num, ?_⟩, by simp only [intOfV]; omega⟩
        rw [show ctrAt (i + 1) = ctrAt i by unfold ctrAt; omega, show doneTo l.length (i + 1) = doneTo l.length i by unfold doneTo; omega]
        exact hS
    · obtain rfl : i = l.length := by omega
      rw [show doneTo l.length l.length = l.length by unfold doneTo; omega, xorTo_all _ _ _ (Nat.le_refl _)] at hS
      go_wp2_with fail
      have ho := hS.owns
      rw [xorG_len] at ho
      go_ret
      exact ⟨_, rfl, ho, hS.k⟩
end Go.Proofs.YtlpbbihjnmikkaaGreatDoor.Exe
