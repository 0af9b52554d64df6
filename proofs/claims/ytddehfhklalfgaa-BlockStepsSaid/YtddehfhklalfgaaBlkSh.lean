/-
  THE WALK of the statements' head of layer 3: the document's examples.
-/
import Derived.Test.YtddehfhklalfgaaBlkHa
import Derived.Test.YtddehfhklalfgaaBlkN
namespace Go.Proofs.Ytddehfhklalfgaa
open Go.RowKit Gf
attribute [local go_sem ↓] store_rule
attribute [local go_sem] headPtr_mk blockOf_mk cellsOf_mk is16_bytes rowB_drew rowOf_drew rowB_drewN rowOf_drewN eq_blk

theorem built23 : Try.prog.built 23 [] = some (bytes 16 fun _ => 0#8) := by kernel_rfl
theorem build_val {S : World → Prop} {ρ : Operand → Value} {d : Option Tmp} {ty : TypeId} {pos : String} {af : Array Edge} {gd : Option (Nat × Bool)} (w : World) (_hw : S w) :
    (execOp ρ { dst := d, op := .build 23 #[], type := ty, pos := pos, after := af, guard := gd }).run Try.prog w = .ok (.value (.agg (bytes 16 fun _ => 0#8))) w := by
  unfold execOp
  simp [run_build w 23 _ _ built23]
def litB (l : List Nat) : Bf := fun i => BitVec.ofNat 8 (l.getD i 0)
def sA : Bf := litB [102, 233, 75, 212, 239, 138, 44, 59, 136, 76, 250, 89, 202, 52, 43, 46]
def sB : Bf := litB [3, 136, 218, 206, 96, 182, 163, 146, 243, 40, 194, 185, 113, 178, 254, 120]
def sC : Bf := litB [94, 46, 199, 70, 145, 112, 98, 136, 44, 133, 176, 104, 83, 83, 222, 183]
def sF : Bf := litB [5, 0, 0, 0, 0, 0, 0, 0, 0, 0, 0, 7, 255, 255, 255, 255]
def sN : Bf := litB [5, 0, 0, 0, 0, 0, 0, 0, 0, 0, 0, 7, 0, 0, 0, 0]
abbrev sAc : Array Value := #[.int .u8 102, .int .u8 233, .int .u8 75, .int .u8 212, .int .u8 239, .int .u8 138, .int .u8 44, .int .u8 59, .int .u8 136, .int .u8 76, .int .u8 250, .int .u8 89, .int .u8 202, .int .u8 52, .int .u8 43, .int .u8 46]
theorem sA_eq : bytes 16 sA = sAc := rfl
abbrev sBc : Array Value := #[.int .u8 3, .int .u8 136, .int .u8 218, .int .u8 206, .int .u8 96, .int .u8 182, .int .u8 163, .int .u8 146, .int .u8 243, .int .u8 40, .int .u8 194, .int .u8 185, .int .u8 113, .int .u8 178, .int .u8 254, .int .u8 120]
theorem sB_eq : bytes 16 sB = sBc := rfl
abbrev sCc : Array Value := #[.int .u8 94, .int .u8 46, .int .u8 199, .int .u8 70, .int .u8 145, .int .u8 112, .int .u8 98, .int .u8 136, .int .u8 44, .int .u8 133, .int .u8 176, .int .u8 104, .int .u8 83, .int .u8 83, .int .u8 222, .int .u8 183]
theorem sC_eq : bytes 16 sC = sCc := rfl
abbrev sFc : Array Value := #[.int .u8 5, .int .u8 0, .int .u8 0, .int .u8 0, .int .u8 0, .int .u8 0, .int .u8 0, .int .u8 0, .int .u8 0, .int .u8 0, .int .u8 0, .int .u8 7, .int .u8 255, .int .u8 255, .int .u8 255, .int .u8 255]
theorem sF_eq : bytes 16 sF = sFc := rfl
abbrev sNc : Array Value := #[.int .u8 5, .int .u8 0, .int .u8 0, .int .u8 0, .int .u8 0, .int .u8 0, .int .u8 0, .int .u8 0, .int .u8 0, .int .u8 0, .int .u8 0, .int .u8 7, .int .u8 0, .int .u8 0, .int .u8 0, .int .u8 0]
theorem sN_eq : bytes 16 sN = sNc := rfl
theorem shown_mul : sameB 16 (byteB (mulB (blk sA) (blk sB))) sC = true := by decide +kernel
theorem shown_next : sameB 16 (nextB sF) sN = true := by decide +kernel
theorem shown_hash : sameB 16 (byteB (hashF (blk sA) (fun _ => 0#8) 0)) (fun _ => 0#8) = true := by decide +kernel
structure ShownS (w w' : World) : Prop where
  a : Blk w' w.heap.size 23 (bytes 16 sA)
  b : Blk w' (w.heap.size + 1) 23 (bytes 16 sB)
  c : Blk w' (w.heap.size + 1 + 1) 23 (bytes 16 sC)
  f : Blk w' (w.heap.size + 1 + 1 + 1) 23 (bytes 16 sF)
  n : Blk w' (w.heap.size + 1 + 1 + 1 + 1) 23 (bytes 16 sN)
  bel : Below w.heap.size w w'
theorem ShownS.later {w w1 w2 : World} (H : ShownS w w1) (hb : Below w1.heap.size w1 w2) : ShownS w w2 :=
  ⟨H.a.below hb H.a.lt, H.b.below hb H.b.lt, H.c.below hb H.c.lt, H.f.below hb H.f.lt, H.n.below hb H.n.lt, H.bel.trans (hb.mono H.bel.size)⟩
theorem ShownS.start (w : World) : ShownS w (((((w.alloc (.cells sAc 23)).alloc (.cells sBc 23)).alloc (.cells sCc 23)).alloc (.cells sFc 23)).alloc (.cells sNc 23)) := by
  have s1 : (w.alloc (.cells sAc 23)).heap.size = w.heap.size + 1 := by simp
  have s2 : ((w.alloc (.cells sAc 23)).alloc (.cells sBc 23)).heap.size = w.heap.size + 1 + 1 := by simp
  have s3 : (((w.alloc (.cells sAc 23)).alloc (.cells sBc 23)).alloc (.cells sCc 23)).heap.size = w.heap.size + 1 + 1 + 1 := by simp
  have s4 : ((((w.alloc (.cells sAc 23)).alloc (.cells sBc 23)).alloc (.cells sCc 23)).alloc (.cells sFc 23)).heap.size = w.heap.size + 1 + 1 + 1 + 1 := by simp
  refine ⟨((((Blk.new w 23 _).alloc _).alloc _).alloc _).alloc _, ?_, ?_, ?_, ?_, ((((Below.refl _ _).alloc (Nat.le_refl _) _).alloc (by simp) _).alloc (by simp; omega) _ |>.alloc (by simp; omega) _ |>.alloc (by simp; omega) _)⟩
  · rw [← s1]; exact (((Blk.new _ 23 _).alloc _).alloc _).alloc _
  · rw [← s2]; exact ((Blk.new _ 23 _).alloc _).alloc _
  · rw [← s3]; exact (Blk.new _ 23 _).alloc _
  · rw [← s4]; exact Blk.new _ 23 _

set_option maxRecDepth 100000 in
set_option maxHeartbeats 4000000 in
theorem shown_any (w : World) : Calls Try.prog 10 #[] w fun e w' => e = .returned (.bool true) ∧ Below w.heap.size w w' := by
  have H0 := ShownS.start w
  have hs1 := shown_mul
  have hs2 := shown_next
  have hs3 := shown_hash
  have hng := no_guard
  go_enter Try.func10, Try.ntmps10
  go_wp2
  refine wp_region_begin (by kernel_rfl) ?_
  refine wpAny_steady (ShownS w) [0, 1, 2, 3, 4, 5, 6, 7, 8, 9, 10, 11, 12, 13, 14, 15, 16] (by kernel_rfl) (H0.later (Below.refl _ _).drew) ?_
  repeat first
    | (refine Chain.step (oi := ?_) (v := ?_) ?_ (by kernel_rfl) (by kernel_rfl) (by kernel_rfl) ?_ ?_
       rotate_left 2
       · simp only [List.getElem?_toArray, List.getElem?_cons_zero, List.getElem?_cons_succ]
         with_reducible rfl
       · (refine Or.inl ⟨?_, Gives.val ?_⟩; rfl; intro w1 hw1; refine load_val (S := ShownS w) (g := w.heap.size) (f := sA) ?_ (fun _ h => h.a) w1 hw1; rfl)
       simp only [Act.put, List.setIfInBounds_toArray, List.set_cons_zero, List.set_cons_succ])
    | (refine Chain.step (oi := ?_) (v := ?_) ?_ (by kernel_rfl) (by kernel_rfl) (by kernel_rfl) ?_ ?_
       rotate_left 2
       · simp only [List.getElem?_toArray, List.getElem?_cons_zero, List.getElem?_cons_succ]
         with_reducible rfl
       · (refine Or.inl ⟨?_, Gives.val ?_⟩; rfl; intro w1 hw1; refine load_val (S := ShownS w) (g := w.heap.size + 1) (f := sB) ?_ (fun _ h => h.b) w1 hw1; rfl)
       simp only [Act.put, List.setIfInBounds_toArray, List.set_cons_zero, List.set_cons_succ])
    | (refine Chain.step (oi := ?_) (v := ?_) ?_ (by kernel_rfl) (by kernel_rfl) (by kernel_rfl) ?_ ?_
       rotate_left 2
       · simp only [List.getElem?_toArray, List.getElem?_cons_zero, List.getElem?_cons_succ]
         with_reducible rfl
       · (refine Or.inl ⟨?_, Gives.val ?_⟩; rfl; intro w1 hw1; refine load_val (S := ShownS w) (g := w.heap.size + 1 + 1) (f := sC) ?_ (fun _ h => h.c) w1 hw1; rfl)
       simp only [Act.put, List.setIfInBounds_toArray, List.set_cons_zero, List.set_cons_succ])
    | (refine Chain.step (oi := ?_) (v := ?_) ?_ (by kernel_rfl) (by kernel_rfl) (by kernel_rfl) ?_ ?_
       rotate_left 2
       · simp only [List.getElem?_toArray, List.getElem?_cons_zero, List.getElem?_cons_succ]
         with_reducible rfl
       · (refine Or.inl ⟨?_, Gives.val ?_⟩; rfl; intro w1 hw1; refine load_val (S := ShownS w) (g := w.heap.size + 1 + 1 + 1) (f := sF) ?_ (fun _ h => h.f) w1 hw1; rfl)
       simp only [Act.put, List.setIfInBounds_toArray, List.set_cons_zero, List.set_cons_succ])
    | (refine Chain.step (oi := ?_) (v := ?_) ?_ (by kernel_rfl) (by kernel_rfl) (by kernel_rfl) ?_ ?_
       rotate_left 2
       · simp only [List.getElem?_toArray, List.getElem?_cons_zero, List.getElem?_cons_succ]
         with_reducible rfl
       · (refine Or.inl ⟨?_, Gives.val ?_⟩; rfl; intro w1 hw1; refine load_val (S := ShownS w) (g := w.heap.size + 1 + 1 + 1 + 1) (f := sN) ?_ (fun _ h => h.n) w1 hw1; rfl)
       simp only [Act.put, List.setIfInBounds_toArray, List.set_cons_zero, List.set_cons_succ])
    | (refine Chain.step (oi := ?_) (v := .agg (bytes 16 (byteB (mulB (blk sA) (blk sB))))) ?_ (by kernel_rfl) (by kernel_rfl) (by kernel_rfl) ?_ ?_
       rotate_left 1
       · simp only [List.getElem?_toArray, List.getElem?_cons_zero, List.getElem?_cons_succ]
         with_reducible rfl
       · (refine Or.inl ⟨?_, Gives.call (f := 11) (args := #[.agg (bytes 16 sA), .agg (bytes 16 sB)]) ?_ ?_⟩; rfl; (intro w1 hw1; go_simp); intro w1 hw1; exact (mulC_any sA sB w1).mono fun e w2 h => ⟨h.1, ShownS.later hw1 h.2⟩)
       simp only [Act.put, List.setIfInBounds_toArray, List.set_cons_zero, List.set_cons_succ])
    | (refine Chain.step (oi := ?_) (v := .agg (bytes 16 (nextB sF))) ?_ (by kernel_rfl) (by kernel_rfl) (by kernel_rfl) ?_ ?_
       rotate_left 1
       · simp only [List.getElem?_toArray, List.getElem?_cons_zero, List.getElem?_cons_succ]
         with_reducible rfl
       · (refine Or.inl ⟨?_, Gives.call (f := 17) (args := #[.agg (bytes 16 sF)]) ?_ ?_⟩; rfl; (intro w1 hw1; go_simp); intro w1 hw1; exact (next_any sF w1).mono fun e w2 h => ⟨h.1, ShownS.later hw1 h.2⟩)
       simp only [Act.put, List.setIfInBounds_toArray, List.set_cons_zero, List.set_cons_succ])
    | (refine Chain.step (oi := ?_) (v := .agg (bytes 16 (byteB (hashF (blk sA) (fun _ => 0#8) 0)))) ?_ (by kernel_rfl) (by kernel_rfl) (by kernel_rfl) ?_ ?_
       rotate_left 1
       · simp only [List.getElem?_toArray, List.getElem?_cons_zero, List.getElem?_cons_succ]
         with_reducible rfl
       · (refine Or.inl ⟨?_, Gives.call (f := 15) (args := #[.agg (bytes 16 sA), .slice none 0 0]) ?_ ?_⟩; rfl; (intro w1 hw1; go_simp); intro w1 hw1; exact ((fun w1 => hash_any sA (fun _ => 0#8) none 0 0 (by omega) (Nat.le_refl _) w1 (fun h => absurd h (by omega))) w1).mono fun e w2 h => ⟨h.1, ShownS.later hw1 h.2⟩)
       simp only [Act.put, List.setIfInBounds_toArray, List.set_cons_zero, List.set_cons_succ])
    | (refine Chain.step (oi := ?_) (v := .agg (bytes 16 fun _ => 0#8)) ?_ (by kernel_rfl) (by kernel_rfl) (by kernel_rfl) ?_ ?_
       rotate_left 1
       · simp only [List.getElem?_toArray, List.getElem?_cons_zero, List.getElem?_cons_succ]
         with_reducible rfl
       · (refine Or.inl ⟨?_, Gives.val ?_⟩; rfl; exact build_val (S := ShownS w))
       simp only [Act.put, List.setIfInBounds_toArray, List.set_cons_zero, List.set_cons_succ])
    | (refine Chain.step (oi := ?_) (v := ?_) ?_ (by kernel_rfl) (by kernel_rfl) (by kernel_rfl) ?_ ?_
       rotate_left 2
       · simp only [List.getElem?_toArray, List.getElem?_cons_zero, List.getElem?_cons_succ]
         with_reducible rfl
       · (refine Or.inl ⟨?_, Gives.val ?_⟩; rfl; intro w _hw; go_simp; with_reducible rfl)
       simp only [Act.put, List.setIfInBounds_toArray, List.set_cons_zero, List.set_cons_succ])
  refine Chain.done fun w9 hw9 => ?_
  refine wpAny_ready (rs := [17]) (by kernel_rfl) (by simp) ?_
  refine AllReady.cons (o := ?_) ?_ (fun K hK => ?_) AllReady.nil
  rotate_left 1
  · simp only [List.getElem?_toArray, List.getElem?_cons_zero, List.getElem?_cons_succ]
    with_reducible rfl
  go_simp
  refine hK _ _ ?_
  clear hK K
  refine wpAny_done (by kernel_rfl) ?_ _
  go_wp2
  go_ret
  exact ⟨rfl, hw9.bel⟩
end Go.Proofs.Ytddehfhklalfgaa
