/-
  THE WALK of the statement BlockSpreads: true at every input.
-/
import Derived.Test.YtddehfhklalfgaaBlkSh
import Derived.Test.YtddehfhklalfgaaBlkHr
namespace Go.Proofs.Ytddehfhklalfgaa
open Go.RowKit Gf
attribute [local go_sem ↓] store_rule
attribute [local go_sem] headPtr_mk blockOf_mk cellsOf_mk is16_bytes rowB_drew rowOf_drew rowB_drewN rowOf_drewN eq_blk
def oneF : Bf := litB [128]
abbrev oneC : Array Value := #[.int .u8 128, .int .u8 0, .int .u8 0, .int .u8 0, .int .u8 0, .int .u8 0, .int .u8 0, .int .u8 0, .int .u8 0, .int .u8 0, .int .u8 0, .int .u8 0, .int .u8 0, .int .u8 0, .int .u8 0, .int .u8 0]
theorem oneC_eq : bytes 16 oneF = oneC := rfl
theorem blk_one : blk oneF = one128 := by decide +kernel
structure Sp1 (w : World) (a b c : Bf) (w' : World) : Prop where
  a : Blk w' w.heap.size 23 (bytes 16 a)
  b : Blk w' (w.heap.size + 1) 23 (bytes 16 b)
  c : Blk w' (w.heap.size + 1 + 1) 23 (bytes 16 c)
  bel : Below w.heap.size w w'
theorem Sp1.start (w : World) (a b c : Bf) : Sp1 w a b c (((w.alloc (.cells (bytes 16 a) 23)).alloc (.cells (bytes 16 b) 23)).alloc (.cells (bytes 16 c) 23)) := by
  have s1 : (w.alloc (.cells (bytes 16 a) 23)).heap.size = w.heap.size + 1 := by simp
  have s2 : ((w.alloc (.cells (bytes 16 a) 23)).alloc (.cells (bytes 16 b) 23)).heap.size = w.heap.size + 1 + 1 := by simp
  refine ⟨((Blk.new w 23 _).alloc _).alloc _, ?_, ?_, (((Below.refl _ _).alloc (Nat.le_refl _) _).alloc (by simp) _).alloc (by simp; omega) _⟩
  · rw [← s1]; exact (Blk.new _ 23 _).alloc _
  · rw [← s2]; exact Blk.new _ 23 _
theorem Sp1.later {w w1 w2 : World} {a b c : Bf} (H : Sp1 w a b c w1) (hb : Below w1.heap.size w1 w2) : Sp1 w a b c w2 :=
  ⟨H.a.below hb H.a.lt, H.b.below hb H.b.lt, H.c.below hb H.c.lt, H.bel.trans (hb.mono H.bel.size)⟩
structure Sp2 (w : World) (a b c : Bf) (g : Nat) (w' : World) : Prop where
  r : Sp1 w a b c w'
  o : Blk w' g 23 (bytes 16 oneF)
theorem Sp2.later {w w1 w2 : World} {a b c : Bf} {g : Nat} (H : Sp2 w a b c g w1) (hb : Below w1.heap.size w1 w2) : Sp2 w a b c g w2 := ⟨H.r.later hb, H.o.below hb H.o.lt⟩
theorem byteB_xor (x y : B128) (i : Nat) (hi : i < 16) : byteB (x ^^^ y) i = byteB x i ^^^ byteB y i := by
  apply BitVec.eq_of_getLsbD_eq
  intro j hj
  rw [BitVec.getLsbD_xor, byteB_bit _ i hi j hj, byteB_bit _ i hi j hj, byteB_bit _ i hi j hj, getMsbD_add]
set_option maxRecDepth 100000 in
set_option maxHeartbeats 8000000 in
theorem blockSpreads_walk (a b c : Bf) (w : World) : Calls Try.prog 4 #[.agg (bytes 16 a), .agg (bytes 16 b), .agg (bytes 16 c)] w fun e w' => e = .returned (.bool true) ∧ Below w.heap.size w w' := by
  have H0 := Sp1.start w a b c
  have hs0 : sameB 16 (byteB (mulB (blk a) (blk (fun i => b i ^^^ c i)))) (fun i => byteB (mulB (blk a) (blk b)) i ^^^ byteB (mulB (blk a) (blk c)) i) = true := sameB_of fun i hi => by rw [blk_xor, mulB_spread, byteB_xor _ _ i hi]
  have hs1 : sameB 16 (byteB (mulB (blk (byteB (mulB (blk a) (blk b)))) (blk c))) (byteB (mulB (blk a) (blk (byteB (mulB (blk b) (blk c)))))) = true := sameB_of fun i _ => by rw [blk_byteB, blk_byteB, mulB_assoc]
  have hs2 : sameB 16 (byteB (mulB (blk a) (blk oneF))) a = true := sameB_of fun i hi => by rw [blk_one, mulB_one, byteB_blk _ i hi]
  have hs3 : sameB 16 (byteB (mulB (blk a) (blk fun _ => 0#8))) (fun _ => 0#8) = true := sameB_of fun i hi => by rw [blk_zero, mulB_zero, ← blk_zero, byteB_blk _ i hi]
  have hng := no_guard
  go_enter Try.func4, Try.ntmps4
  go_wp2_with fail
  refine (shown_any _).mono ?_
  rintro e w1 ⟨rfl, hb1⟩
  have H1 : Sp2 w a b c w1.heap.size (w1.alloc (.cells oneC 23)) := ⟨(H0.later hb1).later ((Below.refl _ _).alloc (Nat.le_refl _) _), by rw [← oneC_eq]; exact Blk.new w1 23 _⟩
  clear H0 hb1
  go_wp2
  refine wp_region_begin (by kernel_rfl) ?_
  refine wpAny_steady (Sp2 w a b c w1.heap.size) [0, 1, 2, 3, 4, 5, 6, 7, 8, 9, 10, 11, 12, 13, 14, 15, 16, 17, 18, 19, 20, 21, 22, 23, 24, 25, 26, 27, 28, 29, 30, 31, 32, 33, 34, 35, 36, 37, 38, 39, 40, 41, 42] (by kernel_rfl) (H1.later (Below.refl _ _).drew) ?_
  repeat first
    | (refine Chain.step (oi := ?_) (v := ?_) ?_ (by kernel_rfl) (by kernel_rfl) (by kernel_rfl) ?_ ?_
       rotate_left 2
       · simp only [List.getElem?_toArray, List.getElem?_cons_zero, List.getElem?_cons_succ]
         with_reducible rfl
       · (refine Or.inl ⟨?_, Gives.val ?_⟩; rfl; intro wz hz; refine load_val (S := Sp2 w a b c w1.heap.size) (g := w.heap.size) (f := a) ?_ (fun _ h => h.r.a) wz hz; rfl)
       simp only [Act.put, List.setIfInBounds_toArray, List.set_cons_zero, List.set_cons_succ])
    | (refine Chain.step (oi := ?_) (v := ?_) ?_ (by kernel_rfl) (by kernel_rfl) (by kernel_rfl) ?_ ?_
       rotate_left 2
       · simp only [List.getElem?_toArray, List.getElem?_cons_zero, List.getElem?_cons_succ]
         with_reducible rfl
       · (refine Or.inl ⟨?_, Gives.val ?_⟩; rfl; intro wz hz; refine load_val (S := Sp2 w a b c w1.heap.size) (g := w.heap.size + 1) (f := b) ?_ (fun _ h => h.r.b) wz hz; rfl)
       simp only [Act.put, List.setIfInBounds_toArray, List.set_cons_zero, List.set_cons_succ])
    | (refine Chain.step (oi := ?_) (v := ?_) ?_ (by kernel_rfl) (by kernel_rfl) (by kernel_rfl) ?_ ?_
       rotate_left 2
       · simp only [List.getElem?_toArray, List.getElem?_cons_zero, List.getElem?_cons_succ]
         with_reducible rfl
       · (refine Or.inl ⟨?_, Gives.val ?_⟩; rfl; intro wz hz; refine load_val (S := Sp2 w a b c w1.heap.size) (g := w.heap.size + 1 + 1) (f := c) ?_ (fun _ h => h.r.c) wz hz; rfl)
       simp only [Act.put, List.setIfInBounds_toArray, List.set_cons_zero, List.set_cons_succ])
    | (refine Chain.step (oi := ?_) (v := ?_) ?_ (by kernel_rfl) (by kernel_rfl) (by kernel_rfl) ?_ ?_
       rotate_left 2
       · simp only [List.getElem?_toArray, List.getElem?_cons_zero, List.getElem?_cons_succ]
         with_reducible rfl
       · (refine Or.inl ⟨?_, Gives.val ?_⟩; rfl; intro wz hz; refine load_val (S := Sp2 w a b c w1.heap.size) (g := w1.heap.size) (f := oneF) ?_ (fun _ h => h.o) wz hz; rfl)
       simp only [Act.put, List.setIfInBounds_toArray, List.set_cons_zero, List.set_cons_succ])
    | (refine Chain.step (oi := ?_) (v := .agg (bytes 16 (fun i => b i ^^^ c i))) ?_ (by kernel_rfl) (by kernel_rfl) (by kernel_rfl) ?_ ?_
       rotate_left 1
       · simp only [List.getElem?_toArray, List.getElem?_cons_zero, List.getElem?_cons_succ]
         with_reducible rfl
       · (refine Or.inl ⟨?_, Gives.call (f := 13) (args := #[.agg (bytes 16 (b)), .agg (bytes 16 (c))]) ?_ ?_⟩; rfl; (intro wz hz; go_simp); intro wz hz; exact (xor_any b c wz).mono fun e wy h => ⟨h.1, Sp2.later hz h.2⟩)
       simp only [Act.put, List.setIfInBounds_toArray, List.set_cons_zero, List.set_cons_succ])
    | (refine Chain.step (oi := ?_) (v := .agg (bytes 16 (byteB (mulB (blk a) (blk (fun i => b i ^^^ c i)))))) ?_ (by kernel_rfl) (by kernel_rfl) (by kernel_rfl) ?_ ?_
       rotate_left 1
       · simp only [List.getElem?_toArray, List.getElem?_cons_zero, List.getElem?_cons_succ]
         with_reducible rfl
       · (refine Or.inl ⟨?_, Gives.call (f := 11) (args := #[.agg (bytes 16 (a)), .agg (bytes 16 (fun i => b i ^^^ c i))]) ?_ ?_⟩; rfl; (intro wz hz; go_simp); intro wz hz; exact (mulC_any a (fun i => b i ^^^ c i) wz).mono fun e wy h => ⟨h.1, Sp2.later hz h.2⟩)
       simp only [Act.put, List.setIfInBounds_toArray, List.set_cons_zero, List.set_cons_succ])
    | (refine Chain.step (oi := ?_) (v := .agg (bytes 16 (byteB (mulB (blk a) (blk b))))) ?_ (by kernel_rfl) (by kernel_rfl) (by kernel_rfl) ?_ ?_
       rotate_left 1
       · simp only [List.getElem?_toArray, List.getElem?_cons_zero, List.getElem?_cons_succ]
         with_reducible rfl
       · (refine Or.inl ⟨?_, Gives.call (f := 11) (args := #[.agg (bytes 16 (a)), .agg (bytes 16 (b))]) ?_ ?_⟩; rfl; (intro wz hz; go_simp); intro wz hz; exact (mulC_any a b wz).mono fun e wy h => ⟨h.1, Sp2.later hz h.2⟩)
       simp only [Act.put, List.setIfInBounds_toArray, List.set_cons_zero, List.set_cons_succ])
    | (refine Chain.step (oi := ?_) (v := .agg (bytes 16 (byteB (mulB (blk a) (blk c))))) ?_ (by kernel_rfl) (by kernel_rfl) (by kernel_rfl) ?_ ?_
       rotate_left 1
       · simp only [List.getElem?_toArray, List.getElem?_cons_zero, List.getElem?_cons_succ]
         with_reducible rfl
       · (refine Or.inl ⟨?_, Gives.call (f := 11) (args := #[.agg (bytes 16 (a)), .agg (bytes 16 (c))]) ?_ ?_⟩; rfl; (intro wz hz; go_simp); intro wz hz; exact (mulC_any a c wz).mono fun e wy h => ⟨h.1, Sp2.later hz h.2⟩)
       simp only [Act.put, List.setIfInBounds_toArray, List.set_cons_zero, List.set_cons_succ])
    | (refine Chain.step (oi := ?_) (v := .agg (bytes 16 (fun i => byteB (mulB (blk a) (blk b)) i ^^^ byteB (mulB (blk a) (blk c)) i))) ?_ (by kernel_rfl) (by kernel_rfl) (by kernel_rfl) ?_ ?_
       rotate_left 1
       · simp only [List.getElem?_toArray, List.getElem?_cons_zero, List.getElem?_cons_succ]
         with_reducible rfl
       · (refine Or.inl ⟨?_, Gives.call (f := 13) (args := #[.agg (bytes 16 (byteB (mulB (blk a) (blk b)))), .agg (bytes 16 (byteB (mulB (blk a) (blk c))))]) ?_ ?_⟩; rfl; (intro wz hz; go_simp); intro wz hz; exact (xor_any (byteB (mulB (blk a) (blk b))) (byteB (mulB (blk a) (blk c))) wz).mono fun e wy h => ⟨h.1, Sp2.later hz h.2⟩)
       simp only [Act.put, List.setIfInBounds_toArray, List.set_cons_zero, List.set_cons_succ])
    | (refine Chain.step (oi := ?_) (v := .agg (bytes 16 (byteB (mulB (blk (byteB (mulB (blk a) (blk b)))) (blk c))))) ?_ (by kernel_rfl) (by kernel_rfl) (by kernel_rfl) ?_ ?_
       rotate_left 1
       · simp only [List.getElem?_toArray, List.getElem?_cons_zero, List.getElem?_cons_succ]
         with_reducible rfl
       · (refine Or.inl ⟨?_, Gives.call (f := 11) (args := #[.agg (bytes 16 (byteB (mulB (blk a) (blk b)))), .agg (bytes 16 (c))]) ?_ ?_⟩; rfl; (intro wz hz; go_simp); intro wz hz; exact (mulC_any (byteB (mulB (blk a) (blk b))) c wz).mono fun e wy h => ⟨h.1, Sp2.later hz h.2⟩)
       simp only [Act.put, List.setIfInBounds_toArray, List.set_cons_zero, List.set_cons_succ])
    | (refine Chain.step (oi := ?_) (v := .agg (bytes 16 (byteB (mulB (blk b) (blk c))))) ?_ (by kernel_rfl) (by kernel_rfl) (by kernel_rfl) ?_ ?_
       rotate_left 1
       · simp only [List.getElem?_toArray, List.getElem?_cons_zero, List.getElem?_cons_succ]
         with_reducible rfl
       · (refine Or.inl ⟨?_, Gives.call (f := 11) (args := #[.agg (bytes 16 (b)), .agg (bytes 16 (c))]) ?_ ?_⟩; rfl; (intro wz hz; go_simp); intro wz hz; exact (mulC_any b c wz).mono fun e wy h => ⟨h.1, Sp2.later hz h.2⟩)
       simp only [Act.put, List.setIfInBounds_toArray, List.set_cons_zero, List.set_cons_succ])
    | (refine Chain.step (oi := ?_) (v := .agg (bytes 16 (byteB (mulB (blk a) (blk (byteB (mulB (blk b) (blk c)))))))) ?_ (by kernel_rfl) (by kernel_rfl) (by kernel_rfl) ?_ ?_
       rotate_left 1
       · simp only [List.getElem?_toArray, List.getElem?_cons_zero, List.getElem?_cons_succ]
         with_reducible rfl
       · (refine Or.inl ⟨?_, Gives.call (f := 11) (args := #[.agg (bytes 16 (a)), .agg (bytes 16 (byteB (mulB (blk b) (blk c))))]) ?_ ?_⟩; rfl; (intro wz hz; go_simp); intro wz hz; exact (mulC_any a (byteB (mulB (blk b) (blk c))) wz).mono fun e wy h => ⟨h.1, Sp2.later hz h.2⟩)
       simp only [Act.put, List.setIfInBounds_toArray, List.set_cons_zero, List.set_cons_succ])
    | (refine Chain.step (oi := ?_) (v := .agg (bytes 16 (byteB (mulB (blk a) (blk oneF))))) ?_ (by kernel_rfl) (by kernel_rfl) (by kernel_rfl) ?_ ?_
       rotate_left 1
       · simp only [List.getElem?_toArray, List.getElem?_cons_zero, List.getElem?_cons_succ]
         with_reducible rfl
       · (refine Or.inl ⟨?_, Gives.call (f := 11) (args := #[.agg (bytes 16 (a)), .agg (bytes 16 (oneF))]) ?_ ?_⟩; rfl; (intro wz hz; go_simp); intro wz hz; exact (mulC_any a oneF wz).mono fun e wy h => ⟨h.1, Sp2.later hz h.2⟩)
       simp only [Act.put, List.setIfInBounds_toArray, List.set_cons_zero, List.set_cons_succ])
    | (refine Chain.step (oi := ?_) (v := .agg (bytes 16 (byteB (mulB (blk a) (blk fun _ => 0#8))))) ?_ (by kernel_rfl) (by kernel_rfl) (by kernel_rfl) ?_ ?_
       rotate_left 1
       · simp only [List.getElem?_toArray, List.getElem?_cons_zero, List.getElem?_cons_succ]
         with_reducible rfl
       · (refine Or.inl ⟨?_, Gives.call (f := 11) (args := #[.agg (bytes 16 (a)), .agg (bytes 16 (fun _ => 0#8))]) ?_ ?_⟩; rfl; (intro wz hz; go_simp); intro wz hz; exact (mulC_any a (fun _ => 0#8) wz).mono fun e wy h => ⟨h.1, Sp2.later hz h.2⟩)
       simp only [Act.put, List.setIfInBounds_toArray, List.set_cons_zero, List.set_cons_succ])
    | (refine Chain.step (oi := ?_) (v := .agg (bytes 16 fun _ => 0#8)) ?_ (by kernel_rfl) (by kernel_rfl) (by kernel_rfl) ?_ ?_
       rotate_left 1
       · simp only [List.getElem?_toArray, List.getElem?_cons_zero, List.getElem?_cons_succ]
         with_reducible rfl
       · (refine Or.inl ⟨?_, Gives.val ?_⟩; rfl; exact build_val (S := Sp2 w a b c w1.heap.size))
       simp only [Act.put, List.setIfInBounds_toArray, List.set_cons_zero, List.set_cons_succ])
    | (refine Chain.step (oi := ?_) (v := ?_) ?_ (by kernel_rfl) (by kernel_rfl) (by kernel_rfl) ?_ ?_
       rotate_left 2
       · simp only [List.getElem?_toArray, List.getElem?_cons_zero, List.getElem?_cons_succ]
         with_reducible rfl
       · (refine Or.inl ⟨?_, Gives.val ?_⟩; rfl; intro w _hw; go_simp; with_reducible rfl)
       simp only [Act.put, List.setIfInBounds_toArray, List.set_cons_zero, List.set_cons_succ])
  refine Chain.done fun w9 hw9 => ?_
  refine wpAny_ready (rs := [43]) (by kernel_rfl) (by simp) ?_
  refine AllReady.cons (o := ?_) ?_ (fun K hK => ?_) AllReady.nil
  rotate_left 1
  · simp only [List.getElem?_toArray, List.getElem?_cons_zero, List.getElem?_cons_succ]
    with_reducible rfl
  go_simp
  refine hK _ _ ?_
  clear hK K
  refine wpAny_done (by kernel_rfl) ?_ _
  go_wp2
  go_ret
  exact ⟨rfl, hw9.r.bel⟩
end Go.Proofs.Ytddehfhklalfgaa
