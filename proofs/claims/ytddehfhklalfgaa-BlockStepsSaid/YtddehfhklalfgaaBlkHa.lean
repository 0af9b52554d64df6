/-
  THE WALK of block.Hash.
-/
import Derived.Test.YtddehfhklalfgaaBlkS
import Derived.Test.YtddehfhklalfgaaBlkR
import Derived.Test.YtddehfhklalfgaaBlkT
import Derived.Test.YtddehfhklalfgaaSteady
namespace Go.Proofs.Ytddehfhklalfgaa
open Go.RowKit Gf

attribute [local go_sem ↓] store_rule
attribute [local go_sem] headPtr_mk blockOf_mk cellsOf_mk is16_bytes rowB_drew rowOf_drew rowB_drewN rowOf_drewN eq_blk

theorem load_val {S : World → Prop} {ρ : Operand → Value} {d : Option Tmp} {x : Operand} {ty : TypeId} {pos : String} {af : Array Edge} {gd : Option (Nat × Bool)} {g : Nat} {f : Bf}
    (hx : ρ x = .pointer (some ⟨g, 0, none⟩)) (hS : ∀ w, S w → Blk w g 23 (bytes 16 f)) (w : World) (hw : S w) :
    (execOp ρ { dst := d, op := .load 23 x, type := ty, pos := pos, after := af, guard := gd }).run Try.prog w = .ok (.value (.agg (bytes 16 f))) w := by
  have hb := hS w hw
  have h := load_rule ρ d x ty pos af gd w (by rw [hx]; rfl) (by rw [hx]; exact hb.rowB)
  rw [h, hx]
  rw [show rowOf w (blockOf (.pointer (some ⟨g, 0, none⟩))) = _ from hb.rowOf]

structure HashRel (w : World) (h bf : Bf) (n k : Nat) (w' : World) : Prop where
  a : Blk w' w.heap.size 23 (bytes 16 h)
  c : Blk w' (w.heap.size + 1) 23 (bytes 16 fun _ => 0#8)
  y : Blk w' (w.heap.size + 1 + 1) 23 (bytes 16 (byteB (hashTo (blk h) bf n k)))
  bel : Below w.heap.size w w'
theorem HashRel.start (w : World) (h bf : Bf) (n : Nat) : HashRel w h bf n 0 (((w.alloc (.cells (bytes 16 h) 23)).alloc (.cells zero16 23)).alloc (.cells zero16 23)) := by
  have H := Has3.start h (fun _ => 0#8) w
  have e : w3 w h (fun _ => 0#8) = ((w.alloc (.cells (bytes 16 h) 23)).alloc (.cells zero16 23)).alloc (.cells zero16 23) := rfl
  rw [← e]
  refine ⟨H.a, H.b, ?_, H.bel⟩
  have e2 : bytes 16 (byteB (hashTo (blk h) bf n 0)) = bytes 16 fun _ => 0#8 := bytes_ext fun i _ => by show byteB 0#128 i = 0#8; unfold byteB; simp
  rw [e2]
  exact H.c
theorem HashRel.later {w w1 w2 : World} {h bf : Bf} {n k : Nat} (H : HashRel w h bf n k w1) (hb : Below w1.heap.size w1 w2) : HashRel w h bf n k w2 :=
  ⟨H.a.below hb H.a.lt, H.c.below hb H.c.lt, H.y.below hb H.y.lt, H.bel.trans (hb.mono H.bel.size)⟩

def SliceRel (w : World) (bf : Bf) (n k : Nat) (v : Value) : Prop := ∃ A c, v = .slice A (n - 16 * k) c ∧ n - 16 * k ≤ c ∧ RdB w A (n - 16 * k) fun j => bf (16 * k + j)
def sliceLen : Value → Nat
  | .slice _ n _ => n
  | _ => 0

def chunkCells (bf : Bf) (_n k m : Nat) : List Value := (List.range m).map fun j => Value.int .u8 (bf (16 * k + j)).toNat
theorem splice_chunk (bf : Bf) (n k m : Nat) (hm : m = min (n - 16 * k) 16) : (splice (bytes 16 fun _ => 0#8).toList 0 (chunkCells bf n k m)).toArray = bytes 16 (chunk bf n k) := by
  have hl : (chunkCells bf n k m).length = m := by simp [chunkCells]
  apply Array.ext_getElem?
  intro i
  unfold splice
  rw [List.take_zero, List.nil_append, List.getElem?_toArray, hl, Nat.zero_add]
  by_cases hi : i < 16
  · rw [bytes_get 16 _ i hi]
    unfold chunk
    by_cases h2 : i < m
    · rw [List.getElem?_append_left (by omega)]
      rw [if_pos (by omega)]
      simp [chunkCells, h2]
    · rw [List.getElem?_append_right (by omega), hl, List.getElem?_drop, if_neg (by omega), show m + (i - m) = i by omega]
      have := bytes_get 16 (fun _ => 0#8) i hi
      simpa using this
  · have h1 : (bytes 16 (chunk bf n k))[i]? = none := Array.getElem?_eq_none (by rw [bytes_size]; omega)
    rw [h1, List.getElem?_eq_none]
    simp [hl, bytes_size]
    omega
theorem slice_next {w : World} {bf : Bf} {n k m ck : Nat} {Ak : Option Addr} (hm : m = min (n - 16 * k) 16) (hck : n - 16 * k ≤ ck) (hrd : RdB w Ak (n - 16 * k) fun j => bf (16 * k + j)) :
    SliceRel w bf n (k + 1) (.slice (if ck = m then Ak else Option.map (fun x => x.add m) Ak) (n - 16 * k - m) (ck - m)) := by
  have e : n - 16 * (k + 1) = n - 16 * k - m := by omega
  refine ⟨_, _, by rw [e], by omega, ?_⟩
  have h2 := hrd.cut (k := m) (cap := ck) hck
  rw [e]
  refine h2.ext fun j hj => ?_
  show bf (16 * k + (m + j)) = bf (16 * (k + 1) + j)
  congr 1
  omega
structure HashMid (w : World) (h bf : Bf) (n k gx : Nat) (w' : World) : Prop where
  r : HashRel w h bf n k w'
  x : Blk w' gx 23 (bytes 16 (chunk bf n k))
  lo : w.heap.size + 1 + 1 < gx
theorem HashMid.later {w w1 w2 : World} {h bf : Bf} {n k gx : Nat} (H : HashMid w h bf n k gx w1) (hb : Below w1.heap.size w1 w2) : HashMid w h bf n k gx w2 := ⟨H.r.later hb, H.x.below hb H.x.lt, H.lo⟩
theorem hash_mul (h bf : Bf) (n k : Nat) (w : World) :
    Calls Try.prog 11 #[.agg (bytes 16 (fun i => byteB (hashTo (blk h) bf n k) i ^^^ chunk bf n k i)), .agg (bytes 16 h)] w fun e w' => e = .returned (.agg (bytes 16 (byteB (hashTo (blk h) bf n (k + 1))))) ∧ Below w.heap.size w w' := by
  have := mulC_any (fun i => byteB (hashTo (blk h) bf n k) i ^^^ chunk bf n k i) h w
  rw [blk_xor (byteB (hashTo (blk h) bf n k)) (chunk bf n k), blk_byteB] at this
  exact this

set_option maxRecDepth 100000 in
set_option maxHeartbeats 2000000 in
theorem hash_any (h bf : Bf) (A : Option Addr) (n c : Nat) (hn : n ≤ 4096) (hc : n ≤ c) (w : World) (hr : RdB w A n bf) :
    Calls Try.prog 15 #[.agg (bytes 16 h), .slice A n c] w fun e w' => e = .returned (.agg (bytes 16 (byteB (hashF (blk h) bf n)))) ∧ Below w.heap.size w w' := by
  have H0 := HashRel.start w h bf n
  go_enter Try.func15, Try.ntmps15
  go_wp2
  go_loopw [1, 6, 7] (fun b _ _ w' => ∃ k : Nat, 16 * k ≤ n + 15 ∧ SliceRel w bf n k b ∧ HashRel w h bf n k w') (fun b _ _ _ => sliceLen b)
  case atStart => exact ⟨0, by omega, ⟨A, c, rfl, hc, by simpa using hr⟩, H0⟩
  case round =>
    clear H0
    obtain ⟨k, hk, ⟨Ak, ck, rfl, hck, hrd⟩, hR⟩ := hrel
    by_cases hlt : 0 < n - 16 * k
    · obtain ⟨m, hm⟩ : ∃ m, m = min (n - 16 * k) 16 := ⟨_, rfl⟩
      have hm1 : m ≤ n - 16 * k := by omega
      have hm2 : m ≤ 16 := by omega
      have hm0 : 0 < m := by omega
      have hml : (chunkCells bf n k m).length = m := by simp [chunkCells]
      have HM := Lib.hid hm
      have HN := Lib.hid (show (chunkCells bf n k m).length = Nat.min (n - 16 * k) 16 by rw [hml, hm])
      have HG := Lib.hid (show (wr.alloc (.cells zero16 23)).heap[wr.heap.size]? = some (.cells (bytes 16 fun _ => 0#8).toList.toArray 23 (0, 0)) from Blk.new wr 23 _)
      have HF := Lib.hid (show 0 + (chunkCells bf n k m).length ≤ (bytes 16 fun _ => 0#8).toList.length by rw [hml]; simp [bytes_size]; omega)
      have H1 := Lib.hid (show ∀ v ∈ chunkCells bf n k m, v.oneCell' = true by intro v hv; simp [chunkCells] at hv; obtain ⟨j, _, rfl⟩ := hv; rfl)
      have HB := Lib.hid (show Below wr.heap.size wr (wr.alloc (.cells zero16 23)) from (Below.refl _ _).alloc (Nat.le_refl _) _)
      have HP := Lib.hid (show 0 < (chunkCells bf n k m).length → some (⟨wr.heap.size, 0, none⟩ : Addr) = some ⟨wr.heap.size, 0, none⟩ ∧ ∃ ad, Ak = some ad ∧ ∀ j v, (chunkCells bf n k m)[j]? = some v → (wr.alloc (.cells zero16 23)).cell? (ad.add j) = some v by
        intro _
        refine ⟨rfl, ?_⟩
        obtain ⟨ad, e, hbl, hcell⟩ := hrd hlt
        refine ⟨ad, e, fun j v hv => ?_⟩
        have hj : j < m := by
          rcases Nat.lt_or_ge j m with h' | h'
          · exact h'
          · rw [List.getElem?_eq_none (by rw [hml]; exact h')] at hv; cases hv
        have hv2 : v = .int .u8 (bf (16 * k + j)).toNat := by
          simp [chunkCells, hj] at hv
          exact hv.symm
        rw [hv2]
        have hb3 : Below w.heap.size w (wr.alloc (.cells zero16 23)) := hR.bel.alloc hR.bel.size _
        exact (hb3.cell (by rw [block_add]; exact hbl)).trans (hcell j (by omega)))
      have HML := Lib.hid hml
      clear hm hml
      go_wp2_with (with_reducible refine wpList_copy_splice rfl (.tmp 11) (.tmp 12) 28 28 rfl 5 Try.underlying28 (by kernel_rfl) _ _ _ _ _ _ rfl rfl wr.heap.size 0 (bytes 16 fun _ => 0#8).toList 23 HG.out (chunkCells bf n k m) HN.out HP.out HF.out H1.out wr.heap.size wr HB.out (Nat.le_refl _) ?_; intro w2 hg2 hb2)
      have hX : Blk w2 wr.heap.size 23 (bytes 16 (chunk bf n k)) := by rw [← splice_chunk bf n k m HM.out]; exact hg2.out
      have hR2 := hR.later hb2
      have hM : HashMid w h bf n k wr.heap.size w2 := ⟨hR2, hX, by have := hR.y.lt; exact this⟩
      rw [HML.out]
      have hM2 : HashMid w h bf n k wr.heap.size w2.drew := hM.later (Below.refl _ _).drew
      clear hX hR2 hM hg2 hb2
      refine wp_region_begin (by kernel_rfl) ?_
      refine wpAny_take (i := 5) (oi := ?_) (v := ?_) ?_ (by kernel_rfl) (by kernel_rfl) (by kernel_rfl) ?_ ?_ ?_
      rotate_left 2
      · simp only [List.getElem?_toArray, List.getElem?_cons_zero, List.getElem?_cons_succ]
        with_reducible rfl
      · exact fun _ _ _ q => q
      · (refine Or.inl ⟨?_, ?_⟩; rfl; intro w; go_simp; with_reducible rfl)
      simp only [Act.put, List.setIfInBounds_toArray, List.set_cons_zero, List.set_cons_succ]
      refine wpAny_take (i := 6) (oi := ?_) (v := ?_) ?_ (by kernel_rfl) (by kernel_rfl) (by kernel_rfl) ?_ ?_ ?_
      rotate_left 2
      · simp only [List.getElem?_toArray, List.getElem?_cons_zero, List.getElem?_cons_succ]
        with_reducible rfl
      · exact fun _ _ _ q => q
      · (refine Or.inl ⟨?_, ?_⟩; rfl; intro w; go_simp; with_reducible rfl)
      simp only [Act.put, List.setIfInBounds_toArray, List.set_cons_zero, List.set_cons_succ]
      refine wpAny_take (i := 7) (oi := ?_) (v := ?_) ?_ (by kernel_rfl) (by kernel_rfl) (by kernel_rfl) ?_ ?_ ?_
      rotate_left 2
      · simp only [List.getElem?_toArray, List.getElem?_cons_zero, List.getElem?_cons_succ]
        with_reducible rfl
      · exact fun _ _ _ q => q
      · (refine Or.inl ⟨?_, ?_⟩; rfl; intro w; go_simp; with_reducible rfl)
      simp only [Act.put, List.setIfInBounds_toArray, List.set_cons_zero, List.set_cons_succ]
      refine wpAny_steady (HashMid w h bf n k wr.heap.size) [0, 1, 2, 3, 4] (by kernel_rfl) (hM2) ?_
      repeat first
        | (refine Chain.step (oi := ?_) (v := ?_) ?_ (by kernel_rfl) (by kernel_rfl) (by kernel_rfl) ?_ ?_
           rotate_left 2
           · simp only [List.getElem?_toArray, List.getElem?_cons_zero, List.getElem?_cons_succ]
             with_reducible rfl
           · (refine Or.inl ⟨?_, Gives.val ?_⟩; rfl; intro w1 hw1; refine load_val (S := HashMid w h bf n k wr.heap.size) (g := w.heap.size + 1 + 1) (f := byteB (hashTo (blk h) bf n k)) ?_ (fun _ q => q.r.y) w1 hw1; rfl)
           simp only [Act.put, List.setIfInBounds_toArray, List.set_cons_zero, List.set_cons_succ])
        | (refine Chain.step (oi := ?_) (v := ?_) ?_ (by kernel_rfl) (by kernel_rfl) (by kernel_rfl) ?_ ?_
           rotate_left 2
           · simp only [List.getElem?_toArray, List.getElem?_cons_zero, List.getElem?_cons_succ]
             with_reducible rfl
           · (refine Or.inl ⟨?_, Gives.val ?_⟩; rfl; intro w1 hw1; refine load_val (S := HashMid w h bf n k wr.heap.size) (g := wr.heap.size) (f := chunk bf n k) ?_ (fun _ q => q.x) w1 hw1; rfl)
           simp only [Act.put, List.setIfInBounds_toArray, List.set_cons_zero, List.set_cons_succ])
        | (refine Chain.step (oi := ?_) (v := ?_) ?_ (by kernel_rfl) (by kernel_rfl) (by kernel_rfl) ?_ ?_
           rotate_left 2
           · simp only [List.getElem?_toArray, List.getElem?_cons_zero, List.getElem?_cons_succ]
             with_reducible rfl
           · (refine Or.inl ⟨?_, Gives.val ?_⟩; rfl; intro w1 hw1; refine load_val (S := HashMid w h bf n k wr.heap.size) (g := w.heap.size) (f := h) ?_ (fun _ q => q.r.a) w1 hw1; rfl)
           simp only [Act.put, List.setIfInBounds_toArray, List.set_cons_zero, List.set_cons_succ])
        | (refine Chain.step (oi := ?_) (v := .agg (bytes 16 (fun i => byteB (hashTo (blk h) bf n k) i ^^^ chunk bf n k i))) ?_ (by kernel_rfl) (by kernel_rfl) (by kernel_rfl) ?_ ?_
           rotate_left 1
           · simp only [List.getElem?_toArray, List.getElem?_cons_zero, List.getElem?_cons_succ]
             with_reducible rfl
           · (refine Or.inl ⟨?_, Gives.call (f := 13) (args := #[.agg (bytes 16 (byteB (hashTo (blk h) bf n k))), .agg (bytes 16 (chunk bf n k))]) ?_ ?_⟩; rfl; (intro w1 hw1; go_simp); intro w1 hw1; exact (xor_any (byteB (hashTo (blk h) bf n k)) (chunk bf n k) w1).mono fun e w2 q => ⟨q.1, HashMid.later hw1 q.2⟩)
           simp only [Act.put, List.setIfInBounds_toArray, List.set_cons_zero, List.set_cons_succ])
        | (refine Chain.step (oi := ?_) (v := .agg (bytes 16 (byteB (hashTo (blk h) bf n (k + 1))))) ?_ (by kernel_rfl) (by kernel_rfl) (by kernel_rfl) ?_ ?_
           rotate_left 1
           · simp only [List.getElem?_toArray, List.getElem?_cons_zero, List.getElem?_cons_succ]
             with_reducible rfl
           · (refine Or.inl ⟨?_, Gives.call (f := 11) (args := #[.agg (bytes 16 (fun i => byteB (hashTo (blk h) bf n k) i ^^^ chunk bf n k i)), .agg (bytes 16 h)]) ?_ ?_⟩; rfl; (intro w1 hw1; go_simp); intro w1 hw1; exact (hash_mul h bf n k w1).mono fun e w2 q => ⟨q.1, HashMid.later hw1 q.2⟩)
           simp only [Act.put, List.setIfInBounds_toArray, List.set_cons_zero, List.set_cons_succ])
      refine Chain.done fun w9 hw9 => ?_
      have hB9 := hw9.r.y.rowB
      refine wpAny_ready (rs := [8]) (by kernel_rfl) (by simp) ?_
      refine AllReady.cons (o := ?_) ?_ (fun K hK => ?_) AllReady.nil
      rotate_left 1
      · simp only [List.getElem?_toArray, List.getElem?_cons_zero, List.getElem?_cons_succ]
        with_reducible rfl
      go_simp
      refine hK _ _ ?_
      clear hK K
      refine wpAny_ready (rs := [9]) (by kernel_rfl) (by simp) ?_
      refine AllReady.cons (o := ?_) ?_ (fun K hK => ?_) AllReady.nil
      rotate_left 1
      · simp only [List.getElem?_toArray, List.getElem?_cons_zero, List.getElem?_cons_succ]
        with_reducible rfl
      go_simp
      refine hK _ _ ?_
      clear hK K
      refine wpAny_done (by kernel_rfl) ?_ _
      go_wp2
      exact ⟨⟨k + 1, by omega, slice_next HM.out hck hrd, ⟨hw9.r.a.row_other (by omega) _, hw9.r.c.row_other (by omega) _, hw9.r.y.row_same _, below_setRow hw9.r.bel (by omega) _⟩⟩, show n - 16 * k - m < n - 16 * k by omega⟩
    · have hK : k = (n + 15) / 16 := by omega
      have e : hashTo (blk h) bf n k = hashF (blk h) bf n := by rw [hK]; rfl
      have hy := hR.y
      rw [e] at hy
      clear hK e
      go_wp2_with (first | (with_reducible refine load_blk rfl (.tmp 5) rfl (w.heap.size + 1 + 1) rfl _ hy ?_) | (with_reducible refine store_blk rfl (.tmp 4) (.tmp 22) rfl (w.heap.size + 1) _ _ rfl rfl hR.c ?_))
      exact bodyPost_ret (result_blk rfl _ _ (w.heap.size + 1) _ rfl (hR.c.row_same _)) rfl ⟨rfl, below_setRow hR.bel (by omega) _⟩
end Go.Proofs.Ytddehfhklalfgaa
