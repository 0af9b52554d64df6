/-
  Joined: PAesF, PAesA, PAesB, PAesC
-/
import Derived.Test.YtlpbbihjnmikkaaGreatDoorJ25
import Derived.IntWalk
set_option maxRecDepth 100000
namespace Go.Proofs.YtlpbbihjnmikkaaGreatDoor.Aes
open Go.RowKit Gf
set_option linter.unusedSimpArgs false

def boxW (a : Bf) : Bf := fun i => box8 (a i)
def allW (a : Bf) : B8 := a 0 ^^^ a 1 ^^^ a 2 ^^^ a 3
def mixW (a : Bf) : Bf := fun r => a r ^^^ allW a ^^^ t2 (a r ^^^ a ((r + 1) % 4))
def colW (s : Bf) (c : Nat) : Bf := fun r => box8 (s ((4 * (c + r) + r) % 16))
def mixIf (last : Bool) (a : Bf) : Bf := if last then a else mixW a
/-- A round. -/
def rndB (s k : Bf) (last : Bool) : Bf := fun i => mixIf last (colW s (i / 4)) (i % 4) ^^^ k i
/-- A store of an array of bytes, where whatever may come up comes up. -/
theorem step_store {ops : Array Oper} {o : Oper} {a : Act} {w : World} {Q : Exit → Act → World → Prop} {K : Act → World → Prop} {E : Prop} (ty : TypeId) (ha : isArr ty = true) (hgd : o.guard = none) (x y : Operand) (ho : o.op = .store ty x y) (g off : Nat) (f v : Bf) (hx : a.eval x = .pointer (some ⟨g, off, none⟩)) (hy : a.eval y = .agg (bytes (lenOf ty) v)) {N : Nat} {t : TypeId}
    (hb : Blk w g t (bytes N f)) (hle : off + lenOf ty ≤ N) (h : K (a.put o.dst undef) (w.setCells g off (bytes (lenOf ty) v).toList)) :
    if Region.wanted o (yielded ops a.tmps) = true then Oper.wp Tryz.prog o a w K Q else E := by
  have hw : Region.wanted o (yielded ops a.tmps) = true := by simp [Region.wanted, hgd]
  rw [if_pos hw]
  obtain ⟨_, _, _, hi⟩ := arr_under ha
  exact wp_store_mid ty x y ho g off _ hx hy (by rw [bytes_size]; exact hb.there hle) (by rw [hi, bytes_size]) (bytes_one _ _) h
end Go.Proofs.YtlpbbihjnmikkaaGreatDoor.Aes

set_option maxRecDepth 100000
namespace Go.Proofs.YtlpbbihjnmikkaaGreatDoor.Aes
open Go.RowKit Gf
set_option linter.unusedSimpArgs false

theorem laid_all (f v : Bf) (n : Nat) : bytes n (laid f 0 n v) = bytes n v := bytes_ext fun i hi => by
  unfold laid
  rw [if_pos (by omega), Nat.sub_zero]
theorem Blk.whole {w : World} {g : Nat} {t : TypeId} {n : Nat} {f v : Bf} (h : Blk w g t (bytes n (laid f 0 n v))) : Blk w g t (bytes n v) := by rwa [laid_all] at h
structure Bx (w : World) (a : Bf) (w' : World) : Prop where
  a : Blk w' w.heap.size 390 (bytes 4 a)
  c : Blk w' (w.heap.size + 1) 390 (bytes 4 fun _ => 0#8)
  bel : Below w.heap.size w w'
theorem Bx.start (w : World) (a : Bf) : Bx w a ((w.alloc (.cells (bytes 4 a) 390)).alloc (.cells #[.int .u8 0, .int .u8 0, .int .u8 0, .int .u8 0] 390)) := by
  have s1 : (w.alloc (.cells (bytes 4 a) 390)).heap.size = w.heap.size + 1 := by simp
  refine ⟨(Blk.new w 390 _).alloc _, ?_, ((Below.refl _ _).alloc (Nat.le_refl _) _).alloc (by simp) _⟩
  rw [← s1]; exact Blk.new _ 390 _
theorem Bx.drew {w w1 : World} {a : Bf} (h : Bx w a w1) : Bx w a w1.drew := ⟨h.a.drew, h.c.drew, h.bel.drew⟩
set_option maxRecDepth 100000 in
set_option maxHeartbeats 1000000 in
theorem boxed_any (a : Bf) (w : World) : Calls Tryz.prog 290 #[.agg (bytes 4 a)] w fun e w' => e = .returned (.agg (bytes 4 (boxW a))) ∧ Below w.heap.size w w' := by
  have H0 := Bx.start w a
  go_enter Tryz.func290, Tryz.ntmps290
  go_wp2_with fail
  refine wp_region_begin (by kernel_rfl) ?_
  refine wpAny_steady (Bx w a) [0, 1, 2, 3, 4, 5, 6, 7, 8, 9, 10, 11, 12] (by kernel_rfl) (H0.drew) ?_
  repeat first
    | (refine Chain.step (oi := ?_) (v := .int .u8 (box8 (a 0)).toNat) ?_ (by kernel_rfl) (by kernel_rfl) (by kernel_rfl) ?_ ?_
       rotate_left 1
       · simp only [List.getElem?_toArray, List.getElem?_cons_zero, List.getElem?_cons_succ]
         with_reducible rfl
       · (refine Or.inl ⟨?_, Gives.call (f := 308) (args := #[.int .u8 (a 0).toNat]) ?_ ?_⟩; rfl; (intro wz hz; go_simp); intro wz hz; exact (box_any (a 0) wz).mono fun e wy h => ⟨h.1, h.2 ▸ hz⟩)
       simp only [Act.put, List.setIfInBounds_toArray, List.set_cons_zero, List.set_cons_succ])
    | (refine Chain.step (oi := ?_) (v := .int .u8 (box8 (a 1)).toNat) ?_ (by kernel_rfl) (by kernel_rfl) (by kernel_rfl) ?_ ?_
       rotate_left 1
       · simp only [List.getElem?_toArray, List.getElem?_cons_zero, List.getElem?_cons_succ]
         with_reducible rfl
       · (refine Or.inl ⟨?_, Gives.call (f := 308) (args := #[.int .u8 (a 1).toNat]) ?_ ?_⟩; rfl; (intro wz hz; go_simp); intro wz hz; exact (box_any (a 1) wz).mono fun e wy h => ⟨h.1, h.2 ▸ hz⟩)
       simp only [Act.put, List.setIfInBounds_toArray, List.set_cons_zero, List.set_cons_succ])
    | (refine Chain.step (oi := ?_) (v := .int .u8 (box8 (a 2)).toNat) ?_ (by kernel_rfl) (by kernel_rfl) (by kernel_rfl) ?_ ?_
       rotate_left 1
       · simp only [List.getElem?_toArray, List.getElem?_cons_zero, List.getElem?_cons_succ]
         with_reducible rfl
       · (refine Or.inl ⟨?_, Gives.call (f := 308) (args := #[.int .u8 (a 2).toNat]) ?_ ?_⟩; rfl; (intro wz hz; go_simp); intro wz hz; exact (box_any (a 2) wz).mono fun e wy h => ⟨h.1, h.2 ▸ hz⟩)
       simp only [Act.put, List.setIfInBounds_toArray, List.set_cons_zero, List.set_cons_succ])
    | (refine Chain.step (oi := ?_) (v := .int .u8 (box8 (a 3)).toNat) ?_ (by kernel_rfl) (by kernel_rfl) (by kernel_rfl) ?_ ?_
       rotate_left 1
       · simp only [List.getElem?_toArray, List.getElem?_cons_zero, List.getElem?_cons_succ]
         with_reducible rfl
       · (refine Or.inl ⟨?_, Gives.call (f := 308) (args := #[.int .u8 (a 3).toNat]) ?_ ?_⟩; rfl; (intro wz hz; go_simp); intro wz hz; exact (box_any (a 3) wz).mono fun e wy h => ⟨h.1, h.2 ▸ hz⟩)
       simp only [Act.put, List.setIfInBounds_toArray, List.set_cons_zero, List.set_cons_succ])
    | (refine Chain.step (oi := ?_) (v := ?_) ?_ (by kernel_rfl) (by kernel_rfl) (by kernel_rfl) ?_ ?_
       rotate_left 2
       · simp only [List.getElem?_toArray, List.getElem?_cons_zero, List.getElem?_cons_succ]
         with_reducible rfl
       · (refine Or.inl ⟨?_, Gives.val ?_⟩; rfl; intro wz hz; have q0 := hz.a.byte (i := 0) (by omega); have q1 := hz.a.byte (i := 1) (by omega); have q2 := hz.a.byte (i := 2) (by omega); have q3 := hz.a.byte (i := 3) (by omega); go_simp; with_reducible rfl)
       simp only [Act.put, List.setIfInBounds_toArray, List.set_cons_zero, List.set_cons_succ])
  refine Chain.done fun w9 hw9 => ?_
  refine wpAny_ready (rs := [13]) (by kernel_rfl) (by simp) ?_
  refine AllReady.cons (o := ?_) ?_ (fun K hK => ?_) AllReady.nil
  rotate_left 1
  · simp only [List.getElem?_toArray, List.getElem?_cons_zero, List.getElem?_cons_succ]
    with_reducible rfl
  refine step_store 390 rfl rfl (.tmp 2) (.tmp 15) rfl (w.heap.size + 1) 0 _ (boxW a) rfl rfl hw9.c (by decide) ?_
  refine hK _ _ ?_
  clear hK K
  refine wpAny_done (by kernel_rfl) ?_ _
  go_wp2
  exact bodyPost_ret (result_blk rfl rfl _ _ (w.heap.size + 1) _ rfl ((hw9.c.mid 0 4 (boxW a)).whole)) rfl ⟨rfl, setCells_below _ _ _ hw9.bel (by omega)⟩
end Go.Proofs.YtlpbbihjnmikkaaGreatDoor.Aes

set_option maxRecDepth 100000
namespace Go.Proofs.YtlpbbihjnmikkaaGreatDoor.Aes
open Go.RowKit Gf
set_option linter.unusedSimpArgs false

structure Mx (w : World) (f : Bf) (k : Nat) (w' : World) : Prop where
  a : Blk w' w.heap.size 390 (bytes 4 f)
  c : Blk w' (w.heap.size + 1) 390 (bytes 4 fun _ => 0#8)
  o : Blk w' (w.heap.size + 1 + 1) 390 (bytes 4 fun i => if i < k then mixW f i else 0#8)
  bel : Below w.heap.size w w'
abbrev zero4 : Array Value := #[.int .u8 0, .int .u8 0, .int .u8 0, .int .u8 0]
theorem Mx.start (w : World) (a : Bf) : Mx w a 0 (((w.alloc (.cells (bytes 4 a) 390)).alloc (.cells zero4 390)).alloc (.cells zero4 390)) := by
  have s1 : (w.alloc (.cells (bytes 4 a) 390)).heap.size = w.heap.size + 1 := by simp
  have s2 : ((w.alloc (.cells (bytes 4 a) 390)).alloc (.cells zero4 390)).heap.size = w.heap.size + 1 + 1 := by simp
  refine ⟨((Blk.new w 390 _).alloc _).alloc _, ?_, ?_, (((Below.refl _ _).alloc (Nat.le_refl _) _).alloc (by simp) _).alloc (by simp; omega) _⟩
  · rw [← s1]; exact (Blk.new _ 390 _).alloc _
  · rw [← s2]
    have e : bytes 4 (fun i => if i < 0 then mixW a i else 0#8) = zero4 := rfl
    rw [e]; exact Blk.new _ 390 _
theorem Mx.drew {w w1 : World} {a : Bf} {k : Nat} (h : Mx w a k w1) : Mx w a k w1.drew := ⟨h.a.drew, h.c.drew, h.o.drew, h.bel.drew⟩
theorem Mx.step {w w1 : World} {a : Bf} {k : Nat} (h : Mx w a k w1) : Mx w a (k + 1) (w1.setCell ⟨w.heap.size + 1 + 1, k, none⟩ (.int .u8 (mixW a k).toNat)) := by
  refine ⟨h.a.far (by simp; omega) _, h.c.far (by simp) _, ?_, h.bel.setCell (by simp; omega) _⟩
  have := h.o.set_ k (.int .u8 (mixW a k).toNat)
  rw [bytes_set] at this
  refine (show bytes 4 _ = bytes 4 _ from bytes_ext fun i _ => ?_) ▸ this
  unfold upd
  by_cases e : i = k
  · subst e; simp
  · by_cases e1 : i < k
    · simp [e, e1, show i < k + 1 by omega]
    · simp [e, e1, show ¬ i < k + 1 by omega]
theorem mix_val (a : Bf) (k : Nat) : (mixW a k).toNat = (a k).toNat ^^^ ((a 0).toNat ^^^ (a 1).toNat ^^^ (a 2).toNat ^^^ (a 3).toNat) ^^^ (t2 (a k ^^^ a ((k + 1) % 4))).toNat := rfl
set_option maxRecDepth 100000 in
set_option maxHeartbeats 2000000 in
theorem mixed_any (a : Bf) (w : World) : Calls Tryz.prog 309 #[.agg (bytes 4 a)] w fun e w' => e = .returned (.agg (bytes 4 (mixW a))) ∧ Below w.heap.size w w' := by
  have H0 := Mx.start w a
  have p0 := H0.a.byte (i := 0) (by omega)
  have p1 := H0.a.byte (i := 1) (by omega)
  have p2 := H0.a.byte (i := 2) (by omega)
  have p3 := H0.a.byte (i := 3) (by omega)
  have x1 := bits_xor8 (a 0) (a 1)
  have x2 := bits_xor8 (a 0 ^^^ a 1) (a 2)
  have x3 := bits_xor8 (a 0 ^^^ a 1 ^^^ a 2) (a 3)
  simp only [BitVec.toNat_xor] at x1 x2 x3
  go_enter Tryz.func309, Tryz.ntmps309
  go_wp2
  clear p0 p1 p2 p3 x1 x2 x3
  go_loopw [5, 17] (fun _ i w' => ∃ k : Nat, k ≤ 4 ∧ i = .int .i64 k ∧ Mx w a k w') (fun _ i _ => 4 - (intOf i).toNat)
  case atStart => exact ⟨0, by omega, rfl, H0⟩
  case round =>
    clear H0
    obtain ⟨k, hk, rfl, hr⟩ := hrel
    by_cases hlt : k < 4
    · have hd : decide ((k : Int) < 4) = true := decide_eq_true (by omega)
      go_wp2
      have w1 : IntKind.i64.wrap ((k : Int) + 1) = (k : Int) + 1 := IntWalk.i64_in _ (by omega)
      have w0 : (k : Int) < 4 := by omega
      have w4 : ((k : Int) + 1) % 4 < 4 := by omega
      have w5 : (0 : Int) ≤ ((k : Int) + 1) % 4 := by omega
      have w6 : (((k : Int) + 1) % 4).toNat = (k + 1) % 4 := by omega
      have w2 : ((k : Int) + 1).tmod 4 = (((k + 1) % 4 : Nat) : Int) := by rw [Int.tmod_eq_emod_of_nonneg (by omega)]; omega
      have w3 : (k + 1) % 4 < 4 := by omega
      have x1 := bits_xor8 (a k) (a 0 ^^^ a 1 ^^^ a 2 ^^^ a 3)
      have x2 := bits_xor8 (a k) (a ((k + 1) % 4))
      have x3 := bits_xor8 (a k ^^^ (a 0 ^^^ a 1 ^^^ a 2 ^^^ a 3)) (t2 (a k ^^^ a ((k + 1) % 4)))
      simp only [BitVec.toNat_xor] at x1 x2 x3
      refine wp_region_begin (by kernel_rfl) ?_
      refine wpAny_steady (Mx w a k) [0, 1, 2, 3, 4, 5, 6, 7, 8, 9, 10, 11, 12, 13, 14, 15, 16, 17] (by kernel_rfl) (hr.drew) ?_
      repeat first
        | (refine Chain.step (oi := ?_) (v := .int .u8 (t2 (a k ^^^ a ((k + 1) % 4))).toNat) ?_ (by kernel_rfl) (by kernel_rfl) (by kernel_rfl) ?_ ?_
           rotate_left 1
           · simp only [List.getElem?_toArray, List.getElem?_cons_zero, List.getElem?_cons_succ]
             with_reducible rfl
           · (refine Or.inl ⟨?_, Gives.call (f := 291) (args := #[.int .u8 (a k ^^^ a ((k + 1) % 4)).toNat]) ?_ ?_⟩; rfl; (intro wz hz; go_simp); intro wz hz; exact (times2_any (a k ^^^ a ((k + 1) % 4)) wz).mono fun e wy h => ⟨h.1, h.2 ▸ hz⟩)
           simp only [Act.put, List.setIfInBounds_toArray, List.set_cons_zero, List.set_cons_succ])
        | (refine Chain.step (oi := ?_) (v := ?_) ?_ (by kernel_rfl) (by kernel_rfl) (by kernel_rfl) ?_ ?_
           rotate_left 2
           · simp only [List.getElem?_toArray, List.getElem?_cons_zero, List.getElem?_cons_succ]
             with_reducible rfl
           · (refine Or.inl ⟨?_, Gives.val ?_⟩; rfl; intro wz hz; have q1 := hz.a.byte (i := k) (by omega); have q2 := hz.a.byte (i := (k + 1) % 4) (by omega); go_simp; with_reducible rfl)
           simp only [Act.put, List.setIfInBounds_toArray, List.set_cons_zero, List.set_cons_succ])
      refine Chain.done fun w9 hw9 => ?_
      have y1 := hw9.o.byte (i := k) (by omega)
      have y2 := hw9.o.frozen k
      refine wpAny_ready (rs := [18]) (by kernel_rfl) (by simp) ?_
      refine AllReady.cons (o := ?_) ?_ (fun K hK => ?_) AllReady.nil
      rotate_left 1
      · simp only [List.getElem?_toArray, List.getElem?_cons_zero, List.getElem?_cons_succ]
        with_reducible rfl
      go_simp
      refine hK _ _ ?_
      clear hK K
      refine wpAny_done (by kernel_rfl) ?_ _
      go_wp2
      exact ⟨⟨k + 1, by omega, by go_num, hw9.step⟩, by simp [intOf]; omega⟩
    · obtain rfl : k = 4 := by omega
      go_wp2_with (first | (with_reducible refine load_blk 390 rfl rfl (.tmp 3) rfl (w.heap.size + 1 + 1) 0 rfl _ hr.o (by decide) ?_) | (with_reducible refine store_blk 390 rfl rfl (.tmp 2) (.tmp 39) rfl (w.heap.size + 1) 0 _ _ rfl rfl hr.c (by decide) ?_))
      have e : bytes 4 (part (fun i => if i < 4 then mixW a i else 0#8) 0) = bytes 4 (mixW a) := bytes_ext fun i hi => by simp [part, hi]
      rw [← e]
      exact bodyPost_ret (result_blk rfl rfl _ _ (w.heap.size + 1) _ rfl ((hr.c.mid 0 4 _).whole)) rfl ⟨rfl, setCells_below _ _ _ hr.bel (by omega)⟩
end Go.Proofs.YtlpbbihjnmikkaaGreatDoor.Aes

set_option maxRecDepth 100000
namespace Go.Proofs.YtlpbbihjnmikkaaGreatDoor.Aes
open Go.RowKit Gf
set_option linter.unusedSimpArgs false

abbrev zero16 : Array Value := #[.int .u8 0, .int .u8 0, .int .u8 0, .int .u8 0, .int .u8 0, .int .u8 0, .int .u8 0, .int .u8 0, .int .u8 0, .int .u8 0, .int .u8 0, .int .u8 0, .int .u8 0, .int .u8 0, .int .u8 0, .int .u8 0]
structure Rd (w : World) (sf kf : Bf) (last : Bool) (n : Nat) (w' : World) : Prop where
  s : Blk w' w.heap.size 310 (bytes 16 sf)
  k : Blk w' (w.heap.size + 1) 310 (bytes 16 kf)
  c : Blk w' (w.heap.size + 1 + 1) 310 (bytes 16 fun _ => 0#8)
  o : Blk w' (w.heap.size + 1 + 1 + 1) 310 (bytes 16 fun i => if i < n then rndB sf kf last i else 0#8)
  bel : Below w.heap.size w w'
theorem Rd.later {w w1 w2 : World} {s k : Bf} {last : Bool} {n : Nat} (H : Rd w s k last n w1) (hb : Below w1.heap.size w1 w2) : Rd w s k last n w2 :=
  ⟨H.s.below hb H.s.lt, H.k.below hb H.k.lt, H.c.below hb H.c.lt, H.o.below hb H.o.lt, H.bel.trans (hb.mono H.bel.size)⟩
theorem Rd.start (w : World) (s k : Bf) (last : Bool) : Rd w s k last 0 ((((w.alloc (.cells (bytes 16 s) 310)).alloc (.cells (bytes 16 k) 310)).alloc (.cells zero16 310)).alloc (.cells zero16 310)) := by
  have s1 : (w.alloc (.cells (bytes 16 s) 310)).heap.size = w.heap.size + 1 := by simp
  have s2 : ((w.alloc (.cells (bytes 16 s) 310)).alloc (.cells (bytes 16 k) 310)).heap.size = w.heap.size + 1 + 1 := by simp
  have s3 : (((w.alloc (.cells (bytes 16 s) 310)).alloc (.cells (bytes 16 k) 310)).alloc (.cells zero16 310)).heap.size = w.heap.size + 1 + 1 + 1 := by simp
  refine ⟨(((Blk.new w 310 _).alloc _).alloc _).alloc _, ?_, ?_, ?_, ((((Below.refl _ _).alloc (Nat.le_refl _) _).alloc (by simp) _).alloc (by simp <;> omega) _).alloc (by simp <;> omega) _⟩
  · rw [← s1]; exact ((Blk.new _ 310 _).alloc _).alloc _
  · rw [← s2]; exact (Blk.new _ 310 _).alloc _
  · rw [← s3]; exact Blk.new _ 310 _
theorem Rd.mid {w w1 : World} {s k : Bf} {last : Bool} {n g : Nat} (H : Rd w s k last n w1) (hg : w.heap.size + 1 + 1 + 1 < g) (off : Nat) (vs : List Value) : Rd w s k last n (w1.setCells g off vs) :=
  ⟨H.s.mid_other (by omega) _ _, H.k.mid_other (by omega) _ _, H.c.mid_other (by omega) _ _, H.o.mid_other (by omega) _ _, setCells_below _ _ _ H.bel (by omega)⟩
/-- In the first inner loop: the column so far. -/
structure Ra (w : World) (sf kf : Bf) (last : Bool) (c g m : Nat) (w' : World) : Prop where
  r : Rd w sf kf last (4 * c) w'
  a : Blk w' g 390 (bytes 4 fun i => if i < m then colW sf c i else 0#8)
  lo : w.heap.size + 1 + 1 + 1 < g
/-- In the second inner loop. -/
structure Rm (w : World) (s k : Bf) (last : Bool) (n g : Nat) (f : Bf) (w' : World) : Prop where
  r : Rd w s k last n w'
  a : Blk w' g 390 (bytes 4 f)
  lo : w.heap.size + 1 + 1 + 1 < g
theorem Rm.drew {w w1 : World} {s k f : Bf} {last : Bool} {n g : Nat} (H : Rm w s k last n g f w1) : Rm w s k last n g f w1.drew := ⟨H.r.later (Below.refl _ _).drew, H.a.drew, H.lo⟩
theorem Rm.step {w w1 : World} {s k : Bf} {last : Bool} {c r g : Nat} (H : Rm w s k last (4 * c + r) g (mixIf last (colW s c)) w1) (hr : r < 4) (_hc : c < 4) :
    Rm w s k last (4 * c + (r + 1)) g (mixIf last (colW s c)) (w1.setCell ⟨w.heap.size + 1 + 1 + 1, 4 * c + r, none⟩ (.int .u8 (mixIf last (colW s c) r ^^^ k (4 * c + r)).toNat)) := by
  have hlo := H.lo
  refine ⟨⟨H.r.s.far (by simp <;> omega) _, H.r.k.far (by simp <;> omega) _, H.r.c.far (by simp) _, ?_, H.r.bel.setCell (by simp <;> omega) _⟩, H.a.far (by simp <;> omega) _, hlo⟩
  have := H.r.o.set_ (4 * c + r) (.int .u8 (mixIf last (colW s c) r ^^^ k (4 * c + r)).toNat)
  rw [bytes_set] at this
  refine (show bytes 16 _ = bytes 16 _ from bytes_ext fun i _ => ?_) ▸ this
  unfold upd
  by_cases e : i = 4 * c + r
  · subst e
    rw [if_pos rfl, if_pos (by omega)]
    show _ = mixIf last (colW s ((4 * c + r) / 4)) ((4 * c + r) % 4) ^^^ k (4 * c + r)
    rw [show (4 * c + r) / 4 = c by omega, show (4 * c + r) % 4 = r by omega]
  · rw [if_neg e]
    dsimp only
    by_cases e1 : i < 4 * c + r
    · rw [if_pos e1, if_pos (by omega)]
    · rw [if_neg e1, if_neg (by omega)]
theorem Ra.step {w w1 : World} {s k : Bf} {last : Bool} {c r g : Nat} (H : Ra w s k last c g r w1) : Ra w s k last c g (r + 1) (w1.setCell ⟨g, r, none⟩ (.int .u8 (colW s c r).toNat)) := by
  have hlo := H.lo
  refine ⟨⟨H.r.s.far (by simp <;> omega) _, H.r.k.far (by simp <;> omega) _, H.r.c.far (by simp <;> omega) _, H.r.o.far (by simp <;> omega) _, H.r.bel.setCell (by simp <;> omega) _⟩, ?_, hlo⟩
  have := H.a.set_ r (.int .u8 (colW s c r).toNat)
  rw [bytes_set] at this
  refine (show bytes 4 _ = bytes 4 _ from bytes_ext fun i _ => ?_) ▸ this
  unfold upd
  by_cases e : i = r
  · subst e
    rw [if_pos rfl, if_pos (by omega)]
  · rw [if_neg e]
    dsimp only
    by_cases e1 : i < r
    · rw [if_pos e1, if_pos (by omega)]
    · rw [if_neg e1, if_neg (by omega)]
set_option maxRecDepth 100000 in
set_option maxHeartbeats 4000000 in
theorem round_any (s k : Bf) (last : Bool) (w : World) : Calls Tryz.prog 292 #[.agg (bytes 16 s), .agg (bytes 16 k), .bool last] w fun e w' => e = .returned (.agg (bytes 16 (rndB s k last))) ∧ Below w.heap.size w w' := by
  have H0 := Rd.start w s k last
  go_enter Tryz.func292, Tryz.ntmps292
  go_wp2_with fail
  go_loopw [8, 9, 10, 11, 12] (fun _ _ _ _ i w' => ∃ c : Nat, c ≤ 4 ∧ i = .int .i64 c ∧ Rd w s k last (4 * c) w') (fun _ _ _ _ i _ => 4 - (intOf i).toNat)
  case atStart => exact ⟨0, by omega, rfl, H0⟩
  case round =>
    clear H0
    obtain ⟨c, hc, rfl, hR⟩ := hrel
    by_cases hlt : c < 4
    · have hd : decide ((c : Int) < 4) = true := decide_eq_true (by omega)
      obtain ⟨wo, hwo⟩ : ∃ x : World, x = wr := ⟨_, rfl⟩
      rw [← hwo] at hR ⊢
      clear hwo
      have HA : Ra w s k last c wo.heap.size 0 (wo.alloc (.cells #[.int .u8 0, .int .u8 0, .int .u8 0, .int .u8 0] 390)) := ⟨hR.later ((Below.refl _ _).alloc (Nat.le_refl _) _), Blk.new wo 390 _, hR.o.lt⟩
      obtain ⟨g, hg⟩ : ∃ g, g = wo.heap.size := ⟨_, rfl⟩
      go_wp2
      rw [← hg] at HA ⊢
      generalize (wo.alloc (.cells #[.int .u8 0, .int .u8 0, .int .u8 0, .int .u8 0] 390)) = wa at HA ⊢
      clear hg hR
      go_loopw [10, 15] (fun _ i w' => ∃ r : Nat, r ≤ 4 ∧ i = .int .i64 r ∧ Ra w s k last c g r w') (fun _ i _ => 4 - (intOf i).toNat)
      case atStart => exact ⟨0, by omega, rfl, HA⟩
      case round =>
        clear HA
        obtain ⟨r, hr4, rfl, ha⟩ := hrel
        by_cases hlt1 : r < 4
        · have hd1 : decide ((r : Int) < 4) = true := decide_eq_true (by omega)
          have q1 := ha.r.s.byte (i := (4 * (c + r) + r) % 16) (by omega)
          have q2 := ha.a.byte (i := r) (by omega)
          have q3 := ha.a.frozen r
          have z1 : (4 * ((c : Int) + r) + r) % 16 < 16 := by omega
          have z2 : (0 : Int) ≤ (4 * ((c : Int) + r) + r) % 16 := by omega
          have z3 : ((4 * ((c : Int) + r) + r) % 16).toNat = (4 * (c + r) + r) % 16 := by omega
          have z4 : (4 * ((c : Int) + r) + r).tmod 16 = (4 * ((c : Int) + r) + r) % 16 := Int.tmod_eq_emod_of_nonneg (by omega)
          have z5 : (r : Int) < 4 := by omega
          go_wp2_with (go_at_call 308; refine (box_any _ _).mono ?_; rintro e w' ⟨rfl, rfl⟩)
          exact ⟨⟨r + 1, by omega, by go_num, ha.step⟩, by simp [intOf]; omega⟩
        · obtain rfl : r = 4 := by omega
          have HB : Blk wr g 390 (bytes 4 (colW s c)) := by
            have e : bytes 4 (fun i => if i < 4 then colW s c i else 0#8) = bytes 4 (colW s c) := bytes_ext fun i hi => by rw [if_pos hi]
            rw [← e]; exact ha.a
          have HR := ha.r
          have hlo := ha.lo
          clear ha
          cases last
          · go_wp2_with (first | (with_reducible refine load_blk 390 rfl rfl (.tmp 9) rfl g 0 rfl _ HB (by decide) ?_))
            rw [part_zero]
            refine (mixed_any (colW s c) _).mono ?_
            rintro e w2 ⟨rfl, hb2⟩
            have HB2 := HB.below hb2 HB.lt
            have HQ0 : Rm w s k false (4 * c) g (mixIf false (colW s c)) (w2.setCells g 0 (bytes (lenOf 390) (mixW (colW s c))).toList) := ⟨(HR.later hb2).mid (by omega) _ _, (HB2.mid 0 4 _).whole, hlo⟩
            go_wp2_with (first | (with_reducible refine store_blk 390 rfl rfl (.tmp 9) (.tmp 34) rfl g 0 _ (mixW (colW s c)) rfl rfl HB2 (by decide) ?_))
            clear HB HB2 hb2 HR
            generalize (w2.setCells g 0 (bytes (lenOf 390) (mixW (colW s c))).toList) = wq at HQ0 ⊢
            have HQ : Rm w s k false (4 * c) g (mixIf false (colW s c)) wq := HQ0
            clear HQ0
            go_loopw [11, 35] (fun _ i w' => ∃ r : Nat, r ≤ 4 ∧ i = .int .i64 r ∧ Rm w s k false (4 * c + r) g (mixIf false (colW s c)) w') (fun _ i _ => 4 - (intOf i).toNat)
            case atStart => exact ⟨0, by omega, rfl, HQ⟩
            case round =>
              clear HQ
              obtain ⟨r, hr4, rfl, hm⟩ := hrel
              by_cases hlt2 : r < 4
              · have hd2 : decide ((r : Int) < 4) = true := decide_eq_true (by omega)
                go_wp2
                have z1 : IntKind.i64.wrap (4 * (c : Int)) = 4 * (c : Int) := IntWalk.i64_in _ (by omega)
                have z2 : IntKind.i64.wrap (4 * (c : Int) + r) = 4 * (c : Int) + r := IntWalk.i64_in _ (by omega)
                have z3 : (r : Int) < 4 := by omega
                have z4 : 4 * (c : Int) + r < 16 := by omega
                have z5 : (0 : Int) ≤ 4 * (c : Int) + r := by omega
                have z6 : (4 * (c : Int) + r).toNat = 4 * c + r := by omega
                have x1 := bits_xor8 (mixIf false (colW s c) r) (k (4 * c + r))
                simp only [BitVec.toNat_xor] at x1
                refine wp_region_begin (by kernel_rfl) ?_
                refine wpAny_steady (Rm w s k false (4 * c + r) g (mixIf false (colW s c))) [0, 1, 2, 3, 4, 5, 6, 7, 8, 9, 10, 11, 12, 13, 14] (by kernel_rfl) (hm.drew) ?_
                repeat first
                  | (refine Chain.step (oi := ?_) (v := ?_) ?_ (by kernel_rfl) (by kernel_rfl) (by kernel_rfl) ?_ ?_
                     rotate_left 2
                     · simp only [List.getElem?_toArray, List.getElem?_cons_zero, List.getElem?_cons_succ]
                       with_reducible rfl
                     · (refine Or.inl ⟨?_, Gives.val ?_⟩; rfl; intro wz hz; have q1 := hz.a.byte (i := r) (by omega); have q2 := hz.r.k.byte (i := 4 * c + r) (by omega); go_simp; with_reducible rfl)
                     simp only [Act.put, List.setIfInBounds_toArray, List.set_cons_zero, List.set_cons_succ])
                refine Chain.done fun w9 hw9 => ?_
                have y1 := hw9.r.o.byte (i := 4 * c + r) (by omega)
                have y2 := hw9.r.o.frozen (4 * c + r)
                refine wpAny_ready (rs := [15]) (by kernel_rfl) (by simp) ?_
                refine AllReady.cons (o := ?_) ?_ (fun K hK => ?_) AllReady.nil
                rotate_left 1
                · simp only [List.getElem?_toArray, List.getElem?_cons_zero, List.getElem?_cons_succ]
                  with_reducible rfl
                go_simp
                refine hK _ _ ?_
                clear hK K
                refine wpAny_done (by kernel_rfl) ?_ _
                go_wp2
                first
                  | exact ⟨⟨r + 1, by omega, by go_num, hw9.step (by omega) (by omega)⟩, by simp [intOf]; omega⟩
                  | (refine ⟨⟨_, _, _, _, _, _, _, _, _, _, _, _, _, _, _, _, _, _, _, _, ⟨r + 1, by omega, ?_, hw9.step (by omega) (by omega)⟩, rfl⟩, ?_⟩
                     · go_num
                     · simp [intOf]; omega)
              · obtain rfl : r = 4 := by omega
                go_wp2
                exact ⟨⟨c + 1, by omega, by go_num, by have := hm.r; rwa [show 4 * c + 4 = 4 * (c + 1) by omega] at this⟩, by simp [intOf]; omega⟩
          · go_wp2_with fail
            have HQ0 : Rm w s k true (4 * c) g (mixIf true (colW s c)) wr := ⟨HR, HB, hlo⟩
            clear HB HR
            generalize wr = wq at HQ0 ⊢
            have HQ : Rm w s k true (4 * c) g (mixIf true (colW s c)) wq := HQ0
            clear HQ0
            go_loopw [11, 35] (fun _ i w' => ∃ r : Nat, r ≤ 4 ∧ i = .int .i64 r ∧ Rm w s k true (4 * c + r) g (mixIf true (colW s c)) w') (fun _ i _ => 4 - (intOf i).toNat)
            case atStart => exact ⟨0, by omega, rfl, HQ⟩
            case round =>
              clear HQ
              obtain ⟨r, hr4, rfl, hm⟩ := hrel
              by_cases hlt2 : r < 4
              · have hd2 : decide ((r : Int) < 4) = true := decide_eq_true (by omega)
                go_wp2
                have z1 : IntKind.i64.wrap (4 * (c : Int)) = 4 * (c : Int) := IntWalk.i64_in _ (by omega)
                have z2 : IntKind.i64.wrap (4 * (c : Int) + r) = 4 * (c : Int) + r := IntWalk.i64_in _ (by omega)
                have z3 : (r : Int) < 4 := by omega
                have z4 : 4 * (c : Int) + r < 16 := by omega
                have z5 : (0 : Int) ≤ 4 * (c : Int) + r := by omega
                have z6 : (4 * (c : Int) + r).toNat = 4 * c + r := by omega
                have x1 := bits_xor8 (mixIf true (colW s c) r) (k (4 * c + r))
                simp only [BitVec.toNat_xor] at x1
                refine wp_region_begin (by kernel_rfl) ?_
                refine wpAny_steady (Rm w s k true (4 * c + r) g (mixIf true (colW s c))) [0, 1, 2, 3, 4, 5, 6, 7, 8, 9, 10, 11, 12, 13, 14] (by kernel_rfl) (hm.drew) ?_
                repeat first
                  | (refine Chain.step (oi := ?_) (v := ?_) ?_ (by kernel_rfl) (by kernel_rfl) (by kernel_rfl) ?_ ?_
                     rotate_left 2
                     · simp only [List.getElem?_toArray, List.getElem?_cons_zero, List.getElem?_cons_succ]
                       with_reducible rfl
                     · (refine Or.inl ⟨?_, Gives.val ?_⟩; rfl; intro wz hz; have q1 := hz.a.byte (i := r) (by omega); have q2 := hz.r.k.byte (i := 4 * c + r) (by omega); go_simp; with_reducible rfl)
                     simp only [Act.put, List.setIfInBounds_toArray, List.set_cons_zero, List.set_cons_succ])
                refine Chain.done fun w9 hw9 => ?_
                have y1 := hw9.r.o.byte (i := 4 * c + r) (by omega)
                have y2 := hw9.r.o.frozen (4 * c + r)
                refine wpAny_ready (rs := [15]) (by kernel_rfl) (by simp) ?_
                refine AllReady.cons (o := ?_) ?_ (fun K hK => ?_) AllReady.nil
                rotate_left 1
                · simp only [List.getElem?_toArray, List.getElem?_cons_zero, List.getElem?_cons_succ]
                  with_reducible rfl
                go_simp
                refine hK _ _ ?_
                clear hK K
                refine wpAny_done (by kernel_rfl) ?_ _
                go_wp2
                first
                  | exact ⟨⟨r + 1, by omega, by go_num, hw9.step (by omega) (by omega)⟩, by simp [intOf]; omega⟩
                  | (refine ⟨⟨_, _, _, _, _, _, _, _, _, _, _, _, _, _, _, _, _, _, _, _, ⟨r + 1, by omega, ?_, hw9.step (by omega) (by omega)⟩, rfl⟩, ?_⟩
                     · go_num
                     · simp [intOf]; omega)
              · obtain rfl : r = 4 := by omega
                go_wp2
                exact ⟨⟨c + 1, by omega, by go_num, by have := hm.r; rwa [show 4 * c + 4 = 4 * (c + 1) by omega] at this⟩, by simp [intOf]; omega⟩
    · obtain rfl : c = 4 := by omega
      go_wp2_with (first | (with_reducible refine load_blk 310 rfl rfl (.tmp 7) rfl (w.heap.size + 1 + 1 + 1) 0 rfl _ hR.o (by decide) ?_) | (with_reducible refine store_blk 310 rfl rfl (.tmp 6) (.tmp 55) rfl (w.heap.size + 1 + 1) 0 _ _ rfl rfl hR.c (by decide) ?_))
      have e : bytes 16 (part (fun i => if i < 4 * 4 then rndB s k last i else 0#8) 0) = bytes 16 (rndB s k last) := bytes_ext fun i hi => by simp [part, hi]
      rw [← e]
      exact bodyPost_ret (result_blk rfl rfl _ _ (w.heap.size + 1 + 1) _ rfl ((hR.c.mid 0 16 _).whole)) rfl ⟨rfl, setCells_below _ _ _ hR.bel (by omega)⟩
end Go.Proofs.YtlpbbihjnmikkaaGreatDoor.Aes
