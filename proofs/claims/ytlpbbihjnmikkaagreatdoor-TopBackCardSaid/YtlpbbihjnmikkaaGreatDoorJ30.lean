/-
  Joined: PBlkHa, GcmC, GcmD
-/
import Derived.Test.YtlpbbihjnmikkaaGreatDoorJ29
import Derived.Test.YtlpbbihjnmikkaaGreatDoorJ12
import Derived.Test.YtlpbbihjnmikkaaGreatDoorJ25
import Derived.Test.YtlpbbihjnmikkaaGreatDoorJ27
set_option maxRecDepth 100000
namespace Go.Proofs.YtlpbbihjnmikkaaGreatDoor.Blo
open Go.RowKit Gf

attribute [local go_sem ↓] store_rule
attribute [local go_sem] headPtr_mk blockOf_mk cellsOf_mk is16_bytes rowB_drew rowOf_drew rowB_drewN rowOf_drewN

theorem load_val {S : World → Prop} {ρ : Operand → Value} {d : Option Tmp} {x : Operand} {ty : TypeId} {pos : String} {af : Array Edge} {gd : Option (Nat × Bool)} {g : Nat} {f : Bf}
    (hx : ρ x = .pointer (some ⟨g, 0, none⟩)) (hS : ∀ w, S w → Blk w g 310 (bytes 16 f)) (w : World) (hw : S w) :
    (execOp ρ { dst := d, op := .load 310 x, type := ty, pos := pos, after := af, guard := gd }).run Tryz.prog w = .ok (.value (.agg (bytes 16 f))) w := by
  have hb := hS w hw
  have h := load_rule ρ d x ty pos af gd w (by rw [hx]; rfl) (by rw [hx]; exact hb.rowB)
  rw [h, hx]
  rw [show rowOf w (blockOf (.pointer (some ⟨g, 0, none⟩))) = _ from hb.rowOf]

structure HashRel (w : World) (h bf : Bf) (n k : Nat) (w' : World) : Prop where
  a : Blk w' w.heap.size 310 (bytes 16 h)
  c : Blk w' (w.heap.size + 1) 310 (bytes 16 fun _ => 0#8)
  y : Blk w' (w.heap.size + 1 + 1) 310 (bytes 16 (byteB (hashTo (blk h) bf n k)))
  bel : Below w.heap.size w w'
theorem HashRel.start (w : World) (h bf : Bf) (n : Nat) : HashRel w h bf n 0 (((w.alloc (.cells (bytes 16 h) 310)).alloc (.cells zero16 310)).alloc (.cells zero16 310)) := by
  have H := Has3.start h (fun _ => 0#8) w
  have e : w3 w h (fun _ => 0#8) = ((w.alloc (.cells (bytes 16 h) 310)).alloc (.cells zero16 310)).alloc (.cells zero16 310) := rfl
  rw [← e]
  refine ⟨H.a, H.b, ?_, H.bel⟩
  have e2 : bytes 16 (byteB (hashTo (blk h) bf n 0)) = bytes 16 fun _ => 0#8 := bytes_ext fun i _ => by show byteB 0#128 i = 0#8; unfold byteB; simp
  rw [e2]
  exact H.c
theorem HashRel.later {w w1 w2 : World} {h bf : Bf} {n k : Nat} (H : HashRel w h bf n k w1) (hb : Below w1.heap.size w1 w2) : HashRel w h bf n k w2 :=
  ⟨H.a.below hb H.a.lt, H.c.below hb H.c.lt, H.y.below hb H.y.lt, H.bel.trans (hb.mono H.bel.size)⟩

def SliceRel (w : World) (bf : Bf) (n k : Nat) (v : Value) : Prop := ∃ A c, v = .slice A (n - 16 * k) c ∧ n - 16 * k ≤ c ∧ RdB w A (n - 16 * k) fun j => bf (16 * k + j)
def sliceLen : Value → Nat
  | .slice _ n _ => n
  | _ => 0

def chunkCells (bf : Bf) (_n k m : Nat) : List Value := (List.range m).map fun j => Value.int .u8 (bf (16 * k + j)).toNat
theorem splice_chunk (bf : Bf) (n k m : Nat) (hm : m = min (n - 16 * k) 16) : (splice (bytes 16 fun _ => 0#8).toList 0 (chunkCells bf n k m)).toArray = bytes 16 (chunk bf n k) := by
  have hl : (chunkCells bf n k m).length = m := by simp [chunkCells]
  apply Array.ext_getElem?
  intro i
  unfold splice
  rw [List.take_zero, List.nil_append, List.getElem?_toArray, hl, Nat.zero_add]
  by_cases hi : i < 16
  · rw [bytes_get 16 _ i hi]
    unfold chunk
    by_cases h2 : i < m
    · rw [List.getElem?_append_left (by omega)]
      rw [if_pos (by omega)]
      simp [chunkCells, h2]
    · rw [List.getElem?_append_right (by omega), hl, List.getElem?_drop, if_neg (by omega), show m + (i - m) = i by omega]
      have := bytes_get 16 (fun _ => 0#8) i hi
      simpa using this
  · have h1 : (bytes 16 (chunk bf n k))[i]? = none := Array.getElem?_eq_none (by rw [bytes_size]; omega)
    rw [h1, List.getElem?_eq_none]
    simp [hl, bytes_size]
    omega
theorem slice_next {w : World} {bf : Bf} {n k m ck : Nat} {Ak : Option Addr} (hm : m = min (n - 16 * k) 16) (hck : n - 16 * k ≤ ck) (hrd : RdB w Ak (n - 16 * k) fun j => bf (16 * k + j)) :
    SliceRel w bf n (k + 1) (.slice (if ck = m then Ak else Option.map (fun x => x.add m) Ak) (n - 16 * k - m) (ck - m)) := by
  have e : n - 16 * (k + 1) = n - 16 * k - m := by omega
  refine ⟨_, _, by rw [e], by omega, ?_⟩
  have h2 := hrd.cut (k := m) (cap := ck) hck
  rw [e]
  refine h2.ext fun j hj => ?_
  show bf (16 * k + (m + j)) = bf (16 * (k + 1) + j)
  congr 1
  omega
structure HashMid (w : World) (h bf : Bf) (n k gx : Nat) (w' : World) : Prop where
  r : HashRel w h bf n k w'
  x : Blk w' gx 310 (bytes 16 (chunk bf n k))
  lo : w.heap.size + 1 + 1 < gx
theorem HashMid.later {w w1 w2 : World} {h bf : Bf} {n k gx : Nat} (H : HashMid w h bf n k gx w1) (hb : Below w1.heap.size w1 w2) : HashMid w h bf n k gx w2 := ⟨H.r.later hb, H.x.below hb H.x.lt, H.lo⟩
theorem hash_mul (h bf : Bf) (n k : Nat) (w : World) :
    Calls Tryz.prog 293 #[.agg (bytes 16 (fun i => byteB (hashTo (blk h) bf n k) i ^^^ chunk bf n k i)), .agg (bytes 16 h)] w fun e w' => e = .returned (.agg (bytes 16 (byteB (hashTo (blk h) bf n (k + 1))))) ∧ Below w.heap.size w w' := by
  have := mulC_any (fun i => byteB (hashTo (blk h) bf n k) i ^^^ chunk bf n k i) h w
  rw [blk_xor (byteB (hashTo (blk h) bf n k)) (chunk bf n k), blk_byteB] at this
  exact this

set_option maxRecDepth 100000 in
set_option maxHeartbeats 2000000 in
theorem hash_any (h bf : Bf) (A : Option Addr) (n c : Nat) (hn : n ≤ 4096) (hc : n ≤ c) (w : World) (hr : RdB w A n bf) :
    Calls Tryz.prog 253 #[.agg (bytes 16 h), .slice A n c] w fun e w' => e = .returned (.agg (bytes 16 (byteB (hashF (blk h) bf n)))) ∧ Below w.heap.size w w' := by
  have H0 := HashRel.start w h bf n
  go_enter Tryz.func253, Tryz.ntmps253
  go_wp2
  go_loopw [1, 6, 7] (fun b _ _ w' => ∃ k : Nat, 16 * k ≤ n + 15 ∧ SliceRel w bf n k b ∧ HashRel w h bf n k w') (fun b _ _ _ => sliceLen b)
  case atStart => exact ⟨0, by omega, ⟨A, c, rfl, hc, by simpa using hr⟩, H0⟩
  case round =>
    clear H0
    obtain ⟨k, hk, ⟨Ak, ck, rfl, hck, hrd⟩, hR⟩ := hrel
    by_cases hlt : 0 < n - 16 * k
    · obtain ⟨m, hm⟩ : ∃ m, m = min (n - 16 * k) 16 := ⟨_, rfl⟩
      have hm1 : m ≤ n - 16 * k := by omega
      have hm2 : m ≤ 16 := by omega
      have hm0 : 0 < m := by omega
      have hml : (chunkCells bf n k m).length = m := by simp [chunkCells]
      have HM := Lib.hid hm
      have HN := Lib.hid (show (chunkCells bf n k m).length = Nat.min (n - 16 * k) 16 by rw [hml, hm])
      have HG := Lib.hid (show (wr.alloc (.cells zero16 310)).heap[wr.heap.size]? = some (.cells (bytes 16 fun _ => 0#8).toList.toArray 310 (0, 0)) from Blk.new wr 310 _)
      have HF := Lib.hid (show 0 + (chunkCells bf n k m).length ≤ (bytes 16 fun _ => 0#8).toList.length by rw [hml]; simp [bytes_size]; omega)
      have H1 := Lib.hid (show ∀ v ∈ chunkCells bf n k m, v.oneCell' = true by intro v hv; simp [chunkCells] at hv; obtain ⟨j, _, rfl⟩ := hv; rfl)
      have HB := Lib.hid (show Below wr.heap.size wr (wr.alloc (.cells zero16 310)) from (Below.refl _ _).alloc (Nat.le_refl _) _)
      have HP := Lib.hid (show 0 < (chunkCells bf n k m).length → some (⟨wr.heap.size, 0, none⟩ : Addr) = some ⟨wr.heap.size, 0, none⟩ ∧ ∃ ad, Ak = some ad ∧ ∀ j v, (chunkCells bf n k m)[j]? = some v → (wr.alloc (.cells zero16 310)).cell? (ad.add j) = some v by
        intro _
        refine ⟨rfl, ?_⟩
        obtain ⟨ad, e, hbl, hcell⟩ := hrd hlt
        refine ⟨ad, e, fun j v hv => ?_⟩
        have hj : j < m := by
          rcases Nat.lt_or_ge j m with h' | h'
          · exact h'
          · rw [List.getElem?_eq_none (by rw [hml]; exact h')] at hv; cases hv
        have hv2 : v = .int .u8 (bf (16 * k + j)).toNat := by
          simp [chunkCells, hj] at hv
          exact hv.symm
        rw [hv2]
        have hb3 : Below w.heap.size w (wr.alloc (.cells zero16 310)) := hR.bel.alloc hR.bel.size _
        exact (hb3.cell (by rw [block_add]; exact hbl)).trans (hcell j (by omega)))
      have HML := Lib.hid hml
      clear hm hml
      go_wp2_with (with_reducible refine wpList_copy_splice rfl (.tmp 11) (.tmp 12) 24 24 rfl 5 Tryz.underlying24 (by kernel_rfl) _ _ _ _ _ _ rfl rfl wr.heap.size 0 (bytes 16 fun _ => 0#8).toList 310 HG.out (chunkCells bf n k m) HN.out HP.out HF.out H1.out wr.heap.size wr HB.out (Nat.le_refl _) ?_; intro w2 hg2 hb2)
      have hX : Blk w2 wr.heap.size 310 (bytes 16 (chunk bf n k)) := by rw [← splice_chunk bf n k m HM.out]; exact hg2.out
      have hR2 := hR.later hb2
      have hM : HashMid w h bf n k wr.heap.size w2 := ⟨hR2, hX, by have := hR.y.lt; exact this⟩
      rw [HML.out]
      have hM2 : HashMid w h bf n k wr.heap.size w2.drew := hM.later (Below.refl _ _).drew
      clear hX hR2 hM hg2 hb2
      refine wp_region_begin (by kernel_rfl) ?_
      refine wpAny_take (i := 5) (oi := ?_) (v := ?_) ?_ (by kernel_rfl) (by kernel_rfl) (by kernel_rfl) ?_ ?_ ?_
      rotate_left 2
      · simp only [List.getElem?_toArray, List.getElem?_cons_zero, List.getElem?_cons_succ]
        with_reducible rfl
      · exact fun _ _ _ q => q
      · (refine Or.inl ⟨?_, ?_⟩; rfl; intro w; go_simp; with_reducible rfl)
      simp only [Act.put, List.setIfInBounds_toArray, List.set_cons_zero, List.set_cons_succ]
      refine wpAny_take (i := 6) (oi := ?_) (v := ?_) ?_ (by kernel_rfl) (by kernel_rfl) (by kernel_rfl) ?_ ?_ ?_
      rotate_left 2
      · simp only [List.getElem?_toArray, List.getElem?_cons_zero, List.getElem?_cons_succ]
        with_reducible rfl
      · exact fun _ _ _ q => q
      · (refine Or.inl ⟨?_, ?_⟩; rfl; intro w; go_simp; with_reducible rfl)
      simp only [Act.put, List.setIfInBounds_toArray, List.set_cons_zero, List.set_cons_succ]
      refine wpAny_take (i := 7) (oi := ?_) (v := ?_) ?_ (by kernel_rfl) (by kernel_rfl) (by kernel_rfl) ?_ ?_ ?_
      rotate_left 2
      · simp only [List.getElem?_toArray, List.getElem?_cons_zero, List.getElem?_cons_succ]
        with_reducible rfl
      · exact fun _ _ _ q => q
      · (refine Or.inl ⟨?_, ?_⟩; rfl; intro w; go_simp; with_reducible rfl)
      simp only [Act.put, List.setIfInBounds_toArray, List.set_cons_zero, List.set_cons_succ]
      refine wpAny_steady (HashMid w h bf n k wr.heap.size) [0, 1, 2, 3, 4] (by kernel_rfl) (hM2) ?_
      repeat first
        | (refine Chain.step (oi := ?_) (v := ?_) ?_ (by kernel_rfl) (by kernel_rfl) (by kernel_rfl) ?_ ?_
           rotate_left 2
           · simp only [List.getElem?_toArray, List.getElem?_cons_zero, List.getElem?_cons_succ]
             with_reducible rfl
           · (refine Or.inl ⟨?_, Gives.val ?_⟩; rfl; intro w1 hw1; refine load_val (S := HashMid w h bf n k wr.heap.size) (g := w.heap.size + 1 + 1) (f := byteB (hashTo (blk h) bf n k)) ?_ (fun _ q => q.r.y) w1 hw1; rfl)
           simp only [Act.put, List.setIfInBounds_toArray, List.set_cons_zero, List.set_cons_succ])
        | (refine Chain.step (oi := ?_) (v := ?_) ?_ (by kernel_rfl) (by kernel_rfl) (by kernel_rfl) ?_ ?_
           rotate_left 2
           · simp only [List.getElem?_toArray, List.getElem?_cons_zero, List.getElem?_cons_succ]
             with_reducible rfl
           · (refine Or.inl ⟨?_, Gives.val ?_⟩; rfl; intro w1 hw1; refine load_val (S := HashMid w h bf n k wr.heap.size) (g := wr.heap.size) (f := chunk bf n k) ?_ (fun _ q => q.x) w1 hw1; rfl)
           simp only [Act.put, List.setIfInBounds_toArray, List.set_cons_zero, List.set_cons_succ])
        | (refine Chain.step (oi := ?_) (v := ?_) ?_ (by kernel_rfl) (by kernel_rfl) (by kernel_rfl) ?_ ?_
           rotate_left 2
           · simp only [List.getElem?_toArray, List.getElem?_cons_zero, List.getElem?_cons_succ]
             with_reducible rfl
           · (refine Or.inl ⟨?_, Gives.val ?_⟩; rfl; intro w1 hw1; refine load_val (S := HashMid w h bf n k wr.heap.size) (g := w.heap.size) (f := h) ?_ (fun _ q => q.r.a) w1 hw1; rfl)
           simp only [Act.put, List.setIfInBounds_toArray, List.set_cons_zero, List.set_cons_succ])
        | (refine Chain.step (oi := ?_) (v := .agg (bytes 16 (fun i => byteB (hashTo (blk h) bf n k) i ^^^ chunk bf n k i))) ?_ (by kernel_rfl) (by kernel_rfl) (by kernel_rfl) ?_ ?_
           rotate_left 1
           · simp only [List.getElem?_toArray, List.getElem?_cons_zero, List.getElem?_cons_succ]
             with_reducible rfl
           · (refine Or.inl ⟨?_, Gives.call (f := 252) (args := #[.agg (bytes 16 (byteB (hashTo (blk h) bf n k))), .agg (bytes 16 (chunk bf n k))]) ?_ ?_⟩; rfl; (intro w1 hw1; go_simp); intro w1 hw1; exact (xor_any (byteB (hashTo (blk h) bf n k)) (chunk bf n k) w1).mono fun e w2 q => ⟨q.1, HashMid.later hw1 q.2⟩)
           simp only [Act.put, List.setIfInBounds_toArray, List.set_cons_zero, List.set_cons_succ])
        | (refine Chain.step (oi := ?_) (v := .agg (bytes 16 (byteB (hashTo (blk h) bf n (k + 1))))) ?_ (by kernel_rfl) (by kernel_rfl) (by kernel_rfl) ?_ ?_
           rotate_left 1
           · simp only [List.getElem?_toArray, List.getElem?_cons_zero, List.getElem?_cons_succ]
             with_reducible rfl
           · (refine Or.inl ⟨?_, Gives.call (f := 293) (args := #[.agg (bytes 16 (fun i => byteB (hashTo (blk h) bf n k) i ^^^ chunk bf n k i)), .agg (bytes 16 h)]) ?_ ?_⟩; rfl; (intro w1 hw1; go_simp); intro w1 hw1; exact (hash_mul h bf n k w1).mono fun e w2 q => ⟨q.1, HashMid.later hw1 q.2⟩)
           simp only [Act.put, List.setIfInBounds_toArray, List.set_cons_zero, List.set_cons_succ])
      refine Chain.done fun w9 hw9 => ?_
      have hB9 := hw9.r.y.rowB
      refine wpAny_ready (rs := [8]) (by kernel_rfl) (by simp) ?_
      refine AllReady.cons (o := ?_) ?_ (fun K hK => ?_) AllReady.nil
      rotate_left 1
      · simp only [List.getElem?_toArray, List.getElem?_cons_zero, List.getElem?_cons_succ]
        with_reducible rfl
      go_simp
      refine hK _ _ ?_
      clear hK K
      refine wpAny_ready (rs := [9]) (by kernel_rfl) (by simp) ?_
      refine AllReady.cons (o := ?_) ?_ (fun K hK => ?_) AllReady.nil
      rotate_left 1
      · simp only [List.getElem?_toArray, List.getElem?_cons_zero, List.getElem?_cons_succ]
        with_reducible rfl
      go_simp
      refine hK _ _ ?_
      clear hK K
      refine wpAny_done (by kernel_rfl) ?_ _
      go_wp2
      exact ⟨⟨k + 1, by omega, slice_next HM.out hck hrd, ⟨hw9.r.a.row_other (by omega) _, hw9.r.c.row_other (by omega) _, hw9.r.y.row_same _, below_setRow hw9.r.bel (by omega) _⟩⟩, show n - 16 * k - m < n - 16 * k by omega⟩
    · have hK : k = (n + 15) / 16 := by omega
      have e : hashTo (blk h) bf n k = hashF (blk h) bf n := by rw [hK]; rfl
      have hy := hR.y
      rw [e] at hy
      clear hK e
      go_wp2_with (first | (with_reducible refine load_blk rfl (.tmp 5) rfl (w.heap.size + 1 + 1) rfl _ hy ?_) | (with_reducible refine store_blk rfl (.tmp 4) (.tmp 22) rfl (w.heap.size + 1) _ _ rfl rfl hR.c ?_))
      exact bodyPost_ret (result_blk rfl _ _ (w.heap.size + 1) _ rfl (hR.c.row_same _)) rfl ⟨rfl, below_setRow hR.bel (by omega) _⟩
end Go.Proofs.YtlpbbihjnmikkaaGreatDoor.Blo

namespace Go.Proofs.YtlpbbihjnmikkaaGreatDoor.Exe
set_option linter.unusedSimpArgs false
set_option linter.unusedVariables false
set_option maxRecDepth 100000
open Go.RowKit

/-- A list as a function; sixteen bytes, XOR others; a round. -/
def fn (l : List Oct) : Nat → Oct := fun i => l.getD i 0
def o16 (f : Nat → Oct) : List Oct := (List.range 16).map f
theorem o16_len (f : Nat → Oct) : (o16 f).length = 16 := by simp [o16]
def xorO (a b : List Oct) : List Oct := o16 fun i => fn a i ^^^ fn b i
def rndO (s k : List Oct) (last : Bool) : List Oct := o16 (Aes.rndB (fn s) (fn k) last)
theorem o16_fn {l : List Oct} (h : l.length = 16) : o16 (fn l) = l := by
  refine List.ext_getElem (by simp [o16, h]) fun i h1 h2 => ?_
  simp [o16, fn, h2]
theorem octs16 {l : List Oct} (h : l.length = 16) : (octs l).toArray = arrB 16 (fn l) := by
  rw [arrB_octs]
  exact congrArg (fun x => (octs x).toArray) (o16_fn h).symm
theorem keeps_of_below {w w' : World} (h : Below w.heap.size w w') : Keeps w.heap.size w w' := ⟨h.size, h.block, h.os, h.output⟩
theorem xor252 {a b : List Oct} (ha : a.length = 16) (hb : b.length = 16) (w : World) : Calls Tryz.prog 252 #[.agg (octs a).toArray, .agg (octs b).toArray] w fun e w' => e = .returned (.agg (octs (xorO a b)).toArray) ∧ Keeps w.heap.size w w' := by
  rw [octs16 ha, octs16 hb]
  exact (Blo.xor_any (fn a) (fn b) w).mono fun e w' ⟨h1, h2⟩ => ⟨h1.trans (by rw [xorO, o16, ← arrB_octs]; rfl), keeps_of_below h2⟩
theorem round292 {s k : List Oct} (hs : s.length = 16) (hk : k.length = 16) (last : Bool) (w : World) : Calls Tryz.prog 292 #[.agg (octs s).toArray, .agg (octs k).toArray, .bool last] w fun e w' => e = .returned (.agg (octs (rndO s k last)).toArray) ∧ Keeps w.heap.size w w' := by
  rw [octs16 hs, octs16 hk]
  exact (Aes.round_any (fn s) (fn k) last w).mono fun e w' ⟨h1, h2⟩ => ⟨h1.trans (by rw [rndO, o16, ← arrB_octs]; rfl), keeps_of_below h2⟩
/-- The word for a block's bytes. -/
noncomputable def blkOf {α : Type} (s : Slot) (f : Word → M D α) : M D α := match s with
  | .agg n cs => chk 380 (Nat.beq n 16) (cellsW cs f)
  | _ => Exe.bad 381
theorem Loc.blkOf {α : Type} (s : Slot) {f : Word → M D α} (hf : ∀ d, Loc (f d)) : Loc (blkOf s f) := by
  unfold Exe.blkOf
  split
  · exact Loc.chk _ _ (Loc.cellsW _ hf)
  · exact Loc.bad _
theorem blkOf_ok {C : Ciph} {P : Program} {ν : Nu} {h : Heap D} {W : World} {α : Type} {f : Word → M D α} (hok : Ok P (lore C) ν h W) {s : Slot} {u : Value} {nx r w : Nat} {x : α} {h' : Heap D} {nx' r' w' : Nat} (he : blkOf s f h nx r w = .ok x h' nx' r' w') (hr : RepS ν s u) :
    ∃ d r1 w1, f d h nx r1 w1 = .ok x h' nx' r' w' ∧ u = .agg (octs (byt C d)).toArray ∧ (byt C d).length = 16 := by
  cases s with
  | one c => cases he
  | tup l => cases he
  | agg n cs =>
    have he : (chk 380 (Nat.beq n 16) (cellsW cs f) : M D α) h nx r w = .ok x h' nx' r' w' := he
    obtain ⟨hb, e⟩ := chk_ok he
    have hb := Nat.eq_of_beq_eq_true hb
    cases hr with
    | agg hl hn =>
      obtain ⟨d, r1, w1, e1, e2⟩ := cellsW_ok hok e hl
      refine ⟨d, r1, w1, e1, by rw [← e2], ?_⟩
      have h1 := hl.length
      rw [e2] at h1
      simp [octs] at h1
      omega
noncomputable def blkS (d : Word) : M D Slot := M.bind (bytesFor d 16 0) fun l => M.ret (.agg 16 l)
theorem blkS_loc (d : Word) : Loc (blkS d) := Loc.bind (bytesFor_loc _ _ _) fun _ => Loc.ret _
theorem bytes16_ok {C : Ciph} {P : Program} {w : Word} {h : Heap D} {nx r wr : Nat} {l : List Cell} {h' : Heap D} {nx' r' w' : Nat} {ν : Nu} {W : World} (he : bytesFor w 16 0 h nx r wr = .ok l h' nx' r' w') (hl : (byt C w).length = 16) (hok : Ok P (lore C) ν h W) (hf : Fresh ν nx nx') :
    ∃ ν', Ext ν ν' nx nx' ∧ Ok P (lore C) ν' h' W ∧ RepL ν' l (octs (byt C w)) := by
  obtain ⟨_, ν', g1, g2, g3⟩ := bytesFor_ok 16 he (by omega) hok hf
  rw [List.drop_zero, List.take_of_length_le (by omega)] at g3
  exact ⟨ν', g1, g2, g3⟩
noncomputable def fXorB : F := fun args => match args with
  | [a, b] => blkOf a fun x => blkOf b fun y => blkS (.op 0 x y)
  | _ => Exe.bad 382
noncomputable def fRnd : F := fun args => match args with
  | [a, b, .one (.bool t)] => blkOf a fun x => blkOf b fun y => blkS (.op (cond t 2 1) x y)
  | _ => Exe.bad 383
theorem fXorB_loc (args : List Slot) : Loc (fXorB args) := by
  unfold fXorB
  split
  · exact Loc.blkOf _ fun _ => Loc.blkOf _ fun _ => blkS_loc _
  · exact Loc.bad _
theorem fRnd_loc (args : List Slot) : Loc (fRnd args) := by
  unfold fRnd
  split
  · exact Loc.blkOf _ fun _ => Loc.blkOf _ fun _ => blkS_loc _
  · exact Loc.bad _
theorem blk_ends {C : Ciph} {ν : Nu} {h : Heap D} {W : World} (hok : Ok Tryz.prog (lore C) ν h W) {f : FuncId} {args : Array Value} {n : Nat} {a b : Word} {nx nx' r w r' w' : Nat} {v : Slot} {h' : Heap D} (he : blkS (.op n a b) h nx r w = .ok v h' nx' r' w') (hf : Fresh ν nx nx')
    (hc : Calls Tryz.prog f args W fun e W' => e = .returned (.agg (octs (C.op n (byt C a) (byt C b))).toArray) ∧ Keeps W.heap.size W W') :
    Calls Tryz.prog f args W fun e W' => ∃ u ν', e = .returned u ∧ Ext ν ν' nx nx' ∧ Ok Tryz.prog (lore C) ν' h' W' ∧ RepS ν' v u := by
  obtain ⟨l, h1, n1, r1, w1, e1, e2⟩ := bind_ok he
  cases e2
  refine hc.mono fun e W' ⟨g1, g2⟩ => ?_
  obtain ⟨ν', x1, x2, x3⟩ := bytes16_ok (C := C) (W := W') e1 (C.op_len _ _ _) (hok.world g2.2 g2.3) hf
  refine ⟨_, ν', g1, x1, x2, .agg x3 ?_⟩
  rw [x3.length]
  simp [octs, byt, C.op_len]
theorem xorB_known (C : Ciph) (hC : ∀ a b, C.op 0 a b = xorO a b) : KnownOk Tryz.prog (lore C) 252 fXorB := fun args h nx r w v h' nx' r' w' he ν W args' hok hf ha => by
  unfold fXorB at he
  split at he
  · rename_i a b
    obtain ⟨l⟩ := args'
    cases ha with
    | cons ha1 ha => cases ha with
      | cons ha2 ha =>
        cases ha
        obtain ⟨x, r1, w1, e1, rfl, hx⟩ := blkOf_ok hok he ha1
        obtain ⟨y, r2, w2, e2, rfl, hy⟩ := blkOf_ok hok e1 ha2
        refine blk_ends hok e2 hf ?_
        rw [hC]
        exact xor252 hx hy W
  · cases he
theorem rnd_known (C : Ciph) (h1 : ∀ a b, C.op 1 a b = rndO a b false) (h2 : ∀ a b, C.op 2 a b = rndO a b true) : KnownOk Tryz.prog (lore C) 292 fRnd := fun args h nx r w v h' nx' r' w' he ν W args' hok hf ha => by
  unfold fRnd at he
  split at he
  · rename_i a b t
    obtain ⟨l⟩ := args'
    cases ha with
    | cons ha1 ha => cases ha with
      | cons ha2 ha => cases ha with
        | cons ha3 ha =>
          cases ha
          cases ha3 with
          | one ha3 =>
            cases ha3
            obtain ⟨x, r1, w1, e1, rfl, hx⟩ := blkOf_ok hok he ha1
            obtain ⟨y, r2, w2, e2, rfl, hy⟩ := blkOf_ok hok e1 ha2
            refine blk_ends hok e2 hf ?_
            cases t with
            | false =>
              rw [cond_false, h1]
              exact round292 hx hy false W
            | true =>
              rw [cond_true, h2]
              exact round292 hx hy true W
  · cases he
noncomputable def knownE : Known := pick [(252, fXorB), (292, fRnd)]
theorem knownE_loc (f : FuncId) (k : F) (args : List Slot) (h : knownE f = some k) : Loc (k args) := by
  have := pick_cases h
  simp only [List.mem_cons, List.not_mem_nil, or_false, Prod.mk.injEq] at this
  rcases this with ⟨_, rfl⟩ | ⟨_, rfl⟩
  · exact fXorB_loc _
  · exact fRnd_loc _
theorem knownE_ok (C : Ciph) (h0 : ∀ a b, C.op 0 a b = xorO a b) (h1 : ∀ a b, C.op 1 a b = rndO a b false) (h2 : ∀ a b, C.op 2 a b = rndO a b true) (f : FuncId) (k : F) (h : knownE f = some k) : CallOk Tryz.prog (lore C) (fun g args => if g = f then k args else Exe.bad 0) := by
  have := pick_cases h
  simp only [List.mem_cons, List.not_mem_nil, or_false, Prod.mk.injEq] at this
  rcases this with ⟨rfl, rfl⟩ | ⟨rfl, rfl⟩
  · exact (xorB_known C h0).call
  · exact (rnd_known C h1 h2).call
/-- The key's blocks, as words; the memory that holds them. -/
def kw (i : Nat) : Word := .op (10 + i) .none .none
noncomputable def keysFor : Nat → Nat → M D (List Cell)
  | 0, _ => M.ret []
  | n + 1, i => M.bind (bytesFor (kw i) 16 0) fun l => M.bind (keysFor n (i + 1)) fun r => M.ret (app l r)
noncomputable def encRun : Out D Slot := M.bind (keysFor 15 0) (fun l => M.bind (new (.cells 240 l 348)) fun k => M.bind (bytesFor (.op 9 .none .none) 16 0) fun b => runA Tryz.prog knownE 100 100 250 [.one (.ptr k 0), .agg 16 b]) (frameH true) 2 0 0
def encW : Word := .op 2 (.op 1 (.op 1 (.op 1 (.op 1 (.op 1 (.op 1 (.op 1 (.op 1 (.op 1 (.op 1 (.op 1 (.op 1 (.op 1 (.op 0 (.op 9 .none .none) (kw 0)) (kw 1)) (kw 2)) (kw 3)) (kw 4)) (kw 5)) (kw 6)) (kw 7)) (kw 8)) (kw 9)) (kw 10)) (kw 11)) (kw 12)) (kw 13)) (kw 14)
/-- These cells are the key's blocks. -/
noncomputable def keysAre (h : Heap D) : Nat → Nat → List Cell → Bool
  | 0, _, cs => match cs with | [] => true | _ => false
  | n + 1, i, cs => (match blkOf (.agg 16 (takeN 16 cs)) (fun e => chk 1 (eqW (kw i) e) (M.ret ())) h 0 0 0 with | .ok _ _ _ _ _ => true | _ => false) && keysAre h n (i + 1) (dropN 16 cs)
noncomputable def keysAt (h : Heap D) (k : Nat) : Bool := match h.at k with
  | some (.cells n cs e) => Nat.beq n 240 && Nat.beq e 348 && keysAre h 15 0 cs
  | _ => false
noncomputable def encOk (o : Out D Slot) : Bool := match o with
  | .ok (.agg 16 cs) h' _ _ _ => still1 h' && table0 h' && keysAt h' 242 && (match blkOf (.agg 16 cs) (fun e => chk 1 (eqW encW e) (M.ret ())) h' 0 0 0 with | .ok _ _ _ _ _ => true | _ => false)
  | _ => false
theorem enc_all : encOk encRun = true := by kernel_rfl
end Go.Proofs.YtlpbbihjnmikkaaGreatDoor.Exe

namespace Go.Proofs.YtlpbbihjnmikkaaGreatDoor.Exe
set_option linter.unusedSimpArgs false
set_option linter.unusedVariables false
set_option maxRecDepth 100000
open Go.RowKit

/-- A frame that leaves out some blocks. -/
def frameNuX (W : World) (X : Nat → Prop) : Nu := fun k => if k = 0 then some (.blk 0 1) else if k = 1 then some (.val (.bool true) (fun _ => False) (fun i => i < W.heap.size ∧ i ≠ 0 ∧ ¬ X i)) else none
theorem Ok.frameX (C : Ciph) (W : World) (X : Nat → Prop) (hp : C.past = W) (hT : Laid W) : Ok Tryz.prog (lore C) (frameNuX W X) (frameH true) W where
  base := rfl
  calm := by rw [show (lore C).home = W from hp]; exact Calm.refl _
  thing k t hk := by
    rcases frameH_at hk with ⟨rfl, rfl⟩ | ⟨hz', rfl, rfl⟩
    · exact ⟨_, rfl, nobody_no, fun b hb => ⟨hb.1, by rw [hp]⟩⟩
    · refine ⟨_, rfl, tableV, hT, ?_, ?_, fun _ => ?_⟩
      · rw [List.take_of_length_le (by simp [tableV, table_len])]
        exact flats_of _ _
      · simp [tableV, table_len]
      · obtain ⟨i, hi, hs⟩ := Option.map_eq_some_iff.1 info424
        exact ⟨i, hi, by rw [hs]; simp [tableV, table_len]⟩
  apart k k' t t' s s' hne hk hk' hs hs' b hb := by
    rcases frameH_at hk with ⟨rfl, rfl⟩ | ⟨hz', rfl, rfl⟩
    · cases hs
      exact hb.elim
    · rcases frameH_at hk' with ⟨rfl, rfl⟩ | ⟨_, rfl, rfl⟩
      · cases hs
        cases hs'
        exact ⟨fun h => h, fun h => h.2.1 hb⟩
      · exact absurd rfl hne
theorem frameX_keeps {C : Ciph} {W W' : World} {X : Nat → Prop} {ν' : Nu} {h' : Heap D} (hp : C.past = W) (hT : Laid W) (hsub : Sub (frameNuX W X) ν') (hok : Ok Tryz.prog (lore C) ν' h' W') (h1 : still1 h' = true) (h0 : table0 h' = true) (hX : ∀ i : Nat, X i → W'.heap[i]? = W.heap[i]?) : Keeps W.heap.size W W' := by
  obtain ⟨s, hs, ht⟩ := hok.thing 1 _ (still1_at h1)
  rw [hsub 1 _ rfl] at hs
  cases hs
  obtain ⟨_, hb⟩ := ht
  have hall : ∀ i : Nat, i < W.heap.size → W'.heap[i]? = W.heap[i]? := fun i hi => by
    by_cases e : i = 0
    · rw [e]; exact (table0_laid hok h0).trans (show W.heap[0]? = _ from hT).symm
    · by_cases hx : X i
      · exact hX i hx
      · have := (hb i ⟨hi, e, hx⟩).2
        rw [hp] at this
        exact this
  refine ⟨?_, hall, by have := hok.calm; rw [show (lore C).home = W from hp] at this; exact this⟩
  rcases Nat.lt_or_ge W'.heap.size W.heap.size with h | h
  · have e1 := hall _ h
    rw [Array.getElem?_eq_none (Nat.le_refl _), Array.getElem?_eq_getElem h] at e1
    cases e1
  · exact h
theorem frameX_fresh (W : World) (X : Nat → Prop) (n : Nat) : Fresh (frameNuX W X) 2 n := fun k h1 _ => by
  unfold frameNuX
  rw [if_neg (by omega), if_neg (by omega)]
/-- New names that have no blocks. -/
def Bare (ν ν' : Nu) : Prop := ∀ k s, ν' k = some s → ν k = some s ∨ ∀ i, ¬ s.own i ∧ ¬ s.sees i
theorem Bare.refl (ν : Nu) : Bare ν ν := fun _ _ h => .inl h
theorem Bare.trans {ν ν' ν'' : Nu} (h : Bare ν ν') (h' : Bare ν' ν'') : Bare ν ν'' := fun k s hk => (h' k s hk).elim (h k s) .inr
theorem Bare.set {ν : Nu} {k : Nat} {v : Value} : Bare ν (ν.set k (.val v (fun _ => False) (fun _ => False))) := fun j s hj => by
  unfold Nu.set at hj
  split at hj
  · cases hj
    exact .inr fun _ => ⟨fun h => h, fun h => h⟩
  · exact .inl hj
theorem bytesFor_nx {w : Word} : ∀ (n : Nat) {j : Nat} {h : Heap D} {nx r wr : Nat} {l : List Cell} {h' : Heap D} {nx' r' w' : Nat}, bytesFor w n j h nx r wr = .ok l h' nx' r' w' → nx' = nx + n
  | 0, j, h, nx, r, wr, l, h', nx', r', w', he => by cases he; rfl
  | n + 1, j, h, nx, r, wr, l, h', nx', r', w', he => by
    have he : (M.bind (new (.data (.byte w j))) fun k => M.bind (bytesFor w n (j + 1)) fun l => M.ret (.tok k :: l) : M D (List Cell)) h nx r wr = .ok l h' nx' r' w' := he
    obtain ⟨k, h1, n1, r1, w1, e1, e2⟩ := bind_ok he
    obtain ⟨hk3, rfl, rfl, rfl, rfl, rfl⟩ := new_ok e1
    obtain ⟨l1, h2, n2, r2, w2, e3, e4⟩ := bind_ok e2
    cases e4
    have := bytesFor_nx n e3
    omega
theorem bytesFor_bare {C : Ciph} {P : Program} {w : Word} : ∀ (n : Nat) {j : Nat} {h : Heap D} {nx r wr : Nat} {l : List Cell} {h' : Heap D} {nx' r' w' : Nat} {ν : Nu} {W : World}, bytesFor w n j h nx r wr = .ok l h' nx' r' w' → j + n ≤ (byt C w).length → Ok P (lore C) ν h W → Fresh ν nx nx' →
    ∃ ν', Ext ν ν' nx nx' ∧ Ok P (lore C) ν' h' W ∧ RepL ν' l (octs (((byt C w).drop j).take n)) ∧ Bare ν ν'
  | 0, j, h, nx, r, wr, l, h', nx', r', w', ν, W, he, hj, hok, hf => by
    cases he
    exact ⟨ν, Ext.refl _ _, hok, by rw [List.take_zero]; exact .nil, Bare.refl _⟩
  | n + 1, j, h, nx, r, wr, l, h', nx', r', w', ν, W, he, hj, hok, hf => by
    have he : (M.bind (new (.data (.byte w j))) fun k => M.bind (bytesFor w n (j + 1)) fun l => M.ret (.tok k :: l) : M D (List Cell)) h nx r wr = .ok l h' nx' r' w' := he
    obtain ⟨k, h1, n1, r1, w1, e1, e2⟩ := bind_ok he
    obtain ⟨hk3, rfl, rfl, rfl, rfl, rfl⟩ := new_ok e1
    obtain ⟨l1, h2, n2, r2, w2, e3, e4⟩ := bind_ok e2
    cases e4
    have hj1 : j < (byt C w).length := by omega
    have hle : k + 1 ≤ nx' := bytesFor_le n e3
    have hk := hf k (Nat.le_refl _) (by omega)
    have hok1 := hok.token' hk hk3 (d := .byte w j) (u := .int .u8 ((byt C w)[j]'hj1).toNat) (s := fun _ => False) ⟨nobody_no, nobody_no, _, List.getElem?_eq_getElem hj1, rfl⟩ (fun _ h => h.elim)
    obtain ⟨ν', g1, g2, g3, g4⟩ := bytesFor_bare n e3 (by omega) hok1 (hf.right (Nat.le_succ _) (Ext.set hk _))
    refine ⟨ν', Ext.trans (Nat.le_succ _) hle (Ext.set hk _) g1, g2, ?_, Bare.set.trans g4⟩
    rw [List.drop_eq_getElem_cons hj1, List.take_succ_cons]
    exact .cons (.tok (g1.sub _ _ (Nu.set_same _ _ _)) rfl) g3
theorem bytes16_bare {C : Ciph} {P : Program} {w : Word} {h : Heap D} {nx r wr : Nat} {l : List Cell} {h' : Heap D} {nx' r' w' : Nat} {ν : Nu} {W : World} (he : bytesFor w 16 0 h nx r wr = .ok l h' nx' r' w') (hl : (byt C w).length = 16) (hok : Ok P (lore C) ν h W) (hf : Fresh ν nx nx') :
    ∃ ν', Ext ν ν' nx nx' ∧ Ok P (lore C) ν' h' W ∧ RepL ν' l (octs (byt C w)) ∧ Bare ν ν' := by
  obtain ⟨ν', g1, g2, g3, g4⟩ := bytesFor_bare 16 he (by omega) hok hf
  rw [List.drop_zero, List.take_of_length_le (by omega)] at g3
  exact ⟨ν', g1, g2, g3, g4⟩
/-- The key's blocks' bytes. -/
def keysB (C : Ciph) : Nat → Nat → List Oct
  | 0, _ => []
  | n + 1, i => byt C (kw i) ++ keysB C n (i + 1)
theorem octs_append (a b : List Oct) : octs (a ++ b) = octs a ++ octs b := by simp [octs]
theorem keysFor_nx : ∀ (n : Nat) {i : Nat} {h : Heap D} {nx r wr : Nat} {l : List Cell} {h' : Heap D} {nx' r' w' : Nat}, keysFor n i h nx r wr = .ok l h' nx' r' w' → nx' = nx + 16 * n
  | 0, i, h, nx, r, wr, l, h', nx', r', w', he => by cases he; rfl
  | n + 1, i, h, nx, r, wr, l, h', nx', r', w', he => by
    have he : (M.bind (bytesFor (kw i) 16 0) fun l => M.bind (keysFor n (i + 1)) fun r => M.ret (app l r) : M D (List Cell)) h nx r wr = .ok l h' nx' r' w' := he
    obtain ⟨l1, h1, n1, r1, w1, e1, e2⟩ := bind_ok he
    obtain ⟨l2, h2, n2, r2, w2, e3, e4⟩ := bind_ok e2
    cases e4
    have := bytesFor_nx 16 e1
    have := keysFor_nx n e3
    omega
theorem keysFor_ok {C : Ciph} {P : Program} : ∀ (n : Nat) {i : Nat} {h : Heap D} {nx r wr : Nat} {l : List Cell} {h' : Heap D} {nx' r' w' : Nat} {ν : Nu} {W : World}, keysFor n i h nx r wr = .ok l h' nx' r' w' → Ok P (lore C) ν h W → Fresh ν nx nx' →
    ∃ ν', Ext ν ν' nx nx' ∧ Ok P (lore C) ν' h' W ∧ RepL ν' l (octs (keysB C n i)) ∧ Bare ν ν'
  | 0, i, h, nx, r, wr, l, h', nx', r', w', ν, W, he, hok, hf => by
    cases he
    exact ⟨ν, Ext.refl _ _, hok, .nil, Bare.refl _⟩
  | n + 1, i, h, nx, r, wr, l, h', nx', r', w', ν, W, he, hok, hf => by
    have he : (M.bind (bytesFor (kw i) 16 0) fun l => M.bind (keysFor n (i + 1)) fun r => M.ret (app l r) : M D (List Cell)) h nx r wr = .ok l h' nx' r' w' := he
    obtain ⟨l1, h1, n1, r1, w1, e1, e2⟩ := bind_ok he
    obtain ⟨l2, h2, n2, r2, w2, e3, e4⟩ := bind_ok e2
    cases e4
    have q1 := bytesFor_nx 16 e1
    have q2 := keysFor_nx n e3
    obtain ⟨ν1, a1, a2, a3, a4⟩ := bytes16_bare (C := C) e1 (C.op_len _ _ _) hok (hf.left (by omega))
    obtain ⟨ν2, b1, b2, b3, b4⟩ := keysFor_ok n e3 a2 (hf.right (by omega) a1)
    refine ⟨ν2, Ext.trans (by omega) (by omega) a1 b1, b2, ?_, a4.trans b4⟩
    show RepL ν2 _ (octs (byt C (kw i) ++ keysB C n (i + 1)))
    rw [octs_append]
    exact (a3.mono b1.sub).append b3
/-- A block that was there, named. -/
theorem Ok.old {P : Program} {L : Lore} {ν : Nu} {h : Heap D} {W : World} (hok : Ok P L ν h W) {k : Nat} (hk : ν k = none) (hk3 : k < 32768) {b n room : Nat} {cs : List Cell} {c : Array Value} {e : TypeId} (hc : W.heap[b]? = some (.cells c e (0, 0))) (hr : RepL ν cs (c.toList.take n)) (hn : n ≤ c.size)
    (hroom : room ≠ 0 → ∃ i, P.info? e = some i ∧ c.size = room * i.size) (hfree : ∀ j sj, ν j = some sj → ¬ sj.own b ∧ ¬ sj.sees b) :
    Ok P L (ν.set k (.blk b room)) (h.lay k (some (.cells n cs e))) W := by
  refine hok.step (Sub.set hk _) hk3 (fun j tj sj hj hjt hjs i hi => rfl) (fun t0 ht0 => ?_)
  cases ht0
  refine ⟨_, Nu.set_same _ _ _, ⟨c, hc, hr.mono (Sub.set hk _), hn, hroom⟩, fun j tj sj hj hjt hjs i => ?_⟩
  have h1 := hfree j sj hjs
  refine ⟨fun hi => ?_, fun hi => ?_⟩
  · have hi : i = b := hi
    rw [hi]
    exact h1
  · exact ⟨fun h => by have h : i = b := h; rw [h] at hi; exact h1.1 hi, fun h => h.elim⟩
theorem blkIs_ok {C : Ciph} {P : Program} {ν : Nu} {h : Heap D} {W : World} (hok : Ok P (lore C) ν h W) {cs : List Cell} {vs : List Value} {d : Word} (hk : (match blkOf (.agg 16 cs) (fun e => chk 1 (eqW d e) (M.ret ())) h 0 0 0 with | .ok _ _ _ _ _ => true | _ => false) = true) (hr : RepL ν cs vs) (hl : cs.length = 16) : vs = octs (byt C d) := by
  split at hk
  · rename_i x h' nx' r' w' he
    obtain ⟨e, r1, w1, e1, e2, _⟩ := blkOf_ok hok he (.agg (vs := vs.toArray) hr hl)
    obtain ⟨hb, _⟩ := chk_ok e1
    rw [eqW_eq _ _ hb]
    simpa using e2
  · cases hk
theorem keysAre_ok {C : Ciph} {P : Program} {ν : Nu} {h : Heap D} {W : World} (hok : Ok P (lore C) ν h W) : ∀ (n i : Nat) {cs : List Cell} {vs : List Value}, keysAre h n i cs = true → RepL ν cs vs → vs.length = 16 * n → vs = octs (keysB C n i)
  | 0, i, cs, vs, hk, hr, hl => List.length_eq_zero_iff.1 hl
  | n + 1, i, cs, vs, hk, hr, hl => by
    unfold keysAre at hk
    rw [Bool.and_eq_true] at hk
    have hcl := hr.length
    have p1 : RepL ν (takeN 16 cs) (vs.take 16) := by rw [takeN_eq]; exact hr.take 16
    have p2 : RepL ν (dropN 16 cs) (vs.drop 16) := by rw [dropN_eq]; exact hr.drop 16
    have q1 := blkIs_ok hok hk.1 p1 (by rw [takeN_eq, List.length_take]; omega)
    have q2 := keysAre_ok hok n (i + 1) hk.2 p2 (by rw [List.length_drop]; omega)
    show vs = octs (byt C (kw i) ++ keysB C n (i + 1))
    rw [octs_append, ← q1, ← q2, List.take_append_drop]
theorem info348 : (Tryz.prog.info? 348).map (·.size) = some 240 := by kernel_rfl
/-- The ciphers for some blocks. -/
def kbO (K : List Oct) (i : Nat) : List Oct := o16 fun j => fn K (16 * i + j)
def Ciph.blks (C : Ciph) (W : World) (K b : List Oct) : Ciph :=
  { C with
    past := W
    op := fun n x y => if n = 0 then xorO x y else if n = 1 then rndO x y false else if n = 2 then rndO x y true else if n = 9 then o16 (fn b) else kbO K (n - 10)
    op_len := fun n a b => by
      split
      · exact o16_len _
      · split
        · exact o16_len _
        · split
          · exact o16_len _
          · split <;> exact o16_len _ }
theorem byt_kw (C : Ciph) (W : World) (K b : List Oct) (i : Nat) : byt (C.blks W K b) (kw i) = kbO K i := by
  show (if 10 + i = 0 then _ else if 10 + i = 1 then _ else if 10 + i = 2 then _ else if 10 + i = 9 then _ else kbO K (10 + i - 10)) = kbO K i
  rw [if_neg (by omega), if_neg (by omega), if_neg (by omega), if_neg (by omega), Nat.add_sub_cancel_left]
theorem keysB_eq (C : Ciph) (W : World) (K b : List Oct) : ∀ n i, keysB (C.blks W K b) n i = (List.range (16 * n)).map fun j => fn K (16 * i + j)
  | 0, i => rfl
  | n + 1, i => by
    show byt _ (kw i) ++ keysB _ n (i + 1) = _
    rw [byt_kw, keysB_eq C W K b n (i + 1), show 16 * (n + 1) = 16 + 16 * n by omega, List.range_add, List.map_append, List.map_map]
    congr 1
    refine List.map_congr_left fun j _ => ?_
    show fn K (16 * (i + 1) + j) = fn K (16 * i + (16 + j))
    congr 1
    omega
theorem keysB_all (C : Ciph) (W : World) (K b : List Oct) (hK : K.length = 240) : keysB (C.blks W K b) 15 0 = K := by
  rw [keysB_eq]
  refine List.ext_getElem (by simp [hK]) fun i h1 h2 => ?_
  simp [fn, h2]
/-- Sixteen bytes by a key's blocks. -/
def encF (K b : List Oct) : List Oct := rndO (rndO (rndO (rndO (rndO (rndO (rndO (rndO (rndO (rndO (rndO (rndO (rndO (rndO (xorO (o16 (fn b)) (kbO K 0)) (kbO K 1) false) (kbO K 2) false) (kbO K 3) false) (kbO K 4) false) (kbO K 5) false) (kbO K 6) false) (kbO K 7) false) (kbO K 8) false) (kbO K 9) false) (kbO K 10) false) (kbO K 11) false) (kbO K 12) false) (kbO K 13) false) (kbO K 14) true
theorem encF_len (K b : List Oct) : (encF K b).length = 16 := o16_len _
theorem byt_op2 (C : Ciph) (W : World) (K b : List Oct) (x y : Word) : byt (C.blks W K b) (.op 2 x y) = rndO (byt (C.blks W K b) x) (byt (C.blks W K b) y) true := rfl
theorem byt_op1 (C : Ciph) (W : World) (K b : List Oct) (x y : Word) : byt (C.blks W K b) (.op 1 x y) = rndO (byt (C.blks W K b) x) (byt (C.blks W K b) y) false := rfl
theorem byt_op0 (C : Ciph) (W : World) (K b : List Oct) (x y : Word) : byt (C.blks W K b) (.op 0 x y) = xorO (byt (C.blks W K b) x) (byt (C.blks W K b) y) := rfl
theorem byt_op9 (C : Ciph) (W : World) (K b : List Oct) (x y : Word) : byt (C.blks W K b) (.op 9 x y) = o16 (fn b) := rfl
theorem byt_encW (C : Ciph) (W : World) (K b : List Oct) : byt (C.blks W K b) encW = encF K b := by
  unfold encW encF
  simp only [byt_op2, byt_op1, byt_op0, byt_op9, byt_kw]
theorem encrypt250 (C : Ciph) {W : World} (hT : Laid W) {K b : List Oct} {g : Nat} (hg : Cells W g (octs K).toArray 348) (hK : K.length = 240) (hb : b.length = 16) :
    Calls Tryz.prog 250 #[.pointer (some ⟨g, 0, none⟩), .agg (octs b).toArray] W fun e W' => e = .returned (.agg (octs (encF K b)).toArray) ∧ Keeps W.heap.size W W' := by
  have hg0 : g ≠ 0 := fun e => by
    subst e
    have := (show W.heap[0]? = _ from hg).symm.trans (show W.heap[0]? = _ from hT)
    simp only [Option.some.injEq, Obj.cells.injEq] at this
    exact absurd this.2.1 (by decide)
  have hr := enc_all
  unfold encOk at hr
  split at hr
  · rename_i cs h' nx' r' w' he
    simp only [Bool.and_eq_true] at hr
    obtain ⟨⟨⟨h1, h0⟩, h2⟩, h3⟩ := hr
    obtain ⟨l, ha, n1, r1, w1, e1, e2⟩ := bind_ok he
    obtain ⟨k, hb', n2, r2, w2, e3, e4⟩ := bind_ok e2
    obtain ⟨hk3, rfl, rfl, rfl, rfl, rfl⟩ := new_ok e3
    obtain ⟨lb, hc, n3, r3, w3, e5, e6⟩ := bind_ok e4
    have q1 := keysFor_nx 15 e1
    have q2 := bytesFor_nx 16 e5
    have hk242 : k = 242 := by omega
    subst hk242
    obtain ⟨ν1, x1, ok1, p1, b1⟩ := keysFor_ok (C := C.blks W K b) 15 e1 (Ok.frameX _ W (fun i => i = g) rfl hT) (frameX_fresh W _ _)
    rw [keysB_all C W K b hK] at p1
    have hk0 : ν1 242 = none := by
      cases hν : ν1 242 with
      | none => rfl
      | some s =>
        rcases x1.only 242 s hν with h | h
        · rw [frameX_fresh W _ 243 242 (by omega) (by omega)] at h
          cases h
        · omega
    have hoctl : (octs K).toArray.size = 240 := by simp [octs, hK]
    have hok2 := ok1.old hk0 hk3 (room := 1) hg (n := 240) (cs := l) (by rw [List.take_of_length_le (by rw [Array.length_toList, hoctl]; exact Nat.le_refl _)]; exact p1) (by rw [hoctl]; exact Nat.le_refl _) (fun _ => by
      obtain ⟨i, hi, hs⟩ := Option.map_eq_some_iff.1 info348
      exact ⟨i, hi, by rw [hs, hoctl]⟩) (fun j sj hj => by
      rcases b1 j sj hj with h | h
      · unfold frameNuX at h
        split at h
        · cases h
          exact ⟨fun h => hg0 h, fun h => h⟩
        · split at h
          · cases h
            exact ⟨fun h => h, fun h => h.2.2 rfl⟩
          · cases h
      · exact h g)
    have hf2 : ∀ m, Fresh (ν1.set 242 (.blk g 1)) 243 m := fun m j h5 h6 => by
      unfold Nu.set
      rw [if_neg (by omega)]
      cases hν : ν1 j with
      | none => rfl
      | some s =>
        rcases x1.only j s hν with h | h
        · rw [frameX_fresh W _ (j + 1) j (by omega) (by omega)] at h
          cases h
        · omega
    obtain ⟨ν3, x3, ok3, p3, b3⟩ := bytes16_bare (C := C.blks W K b) e5 ((C.blks W K b).op_len _ _ _) hok2 (hf2 _)
    have hb16 : byt (C.blks W K b) (.op 9 .none .none) = b := o16_fn hb
    rw [hb16] at p3
    have hs13 : Sub ν1 ν3 := (Sub.set hk0 _).trans x3.sub
    have hν3 : ν3 242 = some (.blk g 1) := x3.sub _ _ (Nu.set_same _ _ _)
    refine (run_sim named mixed knownE_loc (knownE_ok (C.blks W K b) (fun _ _ => rfl) (fun _ _ => rfl) (fun _ _ => rfl)) 100 100 250 _ _ n3 r3 w3 _ h' nx' r' w' e6 ν3 W #[.pointer (some ⟨g, 0, none⟩), .agg (octs b).toArray] ok3 (fun j h5 h6 => ?_) (.cons (.one (.ptr hν3)) (.cons (.agg p3 (by rw [p3.length]; simp [octs, hb])) .nil))).mono fun e W' ⟨u, ν', g1, g2, g3, g4⟩ => ?_
    · cases hν : ν3 j with
      | none => rfl
      | some s =>
        rcases x3.only j s hν with h | h
        · rw [hf2 (j + 1) j (by omega) (by omega)] at h
          cases h
        · omega
    · have hsub : Sub (frameNuX W fun i => i = g) ν' := x1.sub.trans (hs13.trans g2.sub)
      have hgk : W'.heap[g]? = W.heap[g]? := by
        unfold keysAt at h2
        split at h2
        · rename_i n cs' ty hat
          simp only [Bool.and_eq_true] at h2
          obtain ⟨⟨hn, hty⟩, hks⟩ := h2
          have hn := Nat.eq_of_beq_eq_true hn
          have hty := Nat.eq_of_beq_eq_true hty
          subst hn hty
          obtain ⟨s, hs, ht⟩ := g3.thing 242 _ hat
          rw [g2.sub _ _ hν3] at hs
          cases hs
          obtain ⟨c, c1, c2, c3, c4⟩ := ht
          obtain ⟨i, hi, hsz⟩ := c4 (by decide)
          obtain ⟨i', hi', hs'⟩ := Option.map_eq_some_iff.1 info348
          rw [hi'] at hi
          cases hi
          have hcs : c.size = 240 := by rw [hsz, hs']
          have hl : c.toList.take 240 = c.toList := List.take_of_length_le (by rw [Array.length_toList]; omega)
          rw [hl] at c2
          have := keysAre_ok g3 15 0 hks c2 (by rw [Array.length_toList]; omega)
          rw [keysB_all C W K b hK] at this
          rw [c1, show W.heap[g]? = _ from hg, ← this]
        · cases h2
      refine ⟨?_, frameX_keeps rfl hT hsub g3 h1 h0 fun i hi => by rw [show i = g from hi]; exact hgk⟩
      cases g4 with
      | @agg _ _ vs hl hlen =>
        have := blkIs_ok g3 h3 hl hlen
        rw [byt_encW] at this
        rw [g1, ← this]
  · cases hr
end Go.Proofs.YtlpbbihjnmikkaaGreatDoor.Exe
