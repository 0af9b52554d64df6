/-
  THE WALK of aes's mixed.
-/
import Derived.Test.YthjigmfooobfmabAesW1
import Derived.IntWalk
namespace Go.Proofs.Ythjigmfooobfmab
open Go.RowKit Gf
set_option linter.unusedSimpArgs false

structure Mx (w : World) (f : Bf) (k : Nat) (w' : World) : Prop where
  a : Blk w' w.heap.size 43 (bytes 4 f)
  c : Blk w' (w.heap.size + 1) 43 (bytes 4 fun _ => 0#8)
  o : Blk w' (w.heap.size + 1 + 1) 43 (bytes 4 fun i => if i < k then mixW f i else 0#8)
  bel : Below w.heap.size w w'
abbrev zero4 : Array Value := #[.int .u8 0, .int .u8 0, .int .u8 0, .int .u8 0]
theorem Mx.start (w : World) (a : Bf) : Mx w a 0 (((w.alloc (.cells (bytes 4 a) 43)).alloc (.cells zero4 43)).alloc (.cells zero4 43)) := by
  have s1 : (w.alloc (.cells (bytes 4 a) 43)).heap.size = w.heap.size + 1 := by simp
  have s2 : ((w.alloc (.cells (bytes 4 a) 43)).alloc (.cells zero4 43)).heap.size = w.heap.size + 1 + 1 := by simp
  refine ⟨((Blk.new w 43 _).alloc _).alloc _, ?_, ?_, (((Below.refl _ _).alloc (Nat.le_refl _) _).alloc (by simp) _).alloc (by simp; omega) _⟩
  · rw [← s1]; exact (Blk.new _ 43 _).alloc _
  · rw [← s2]
    have e : bytes 4 (fun i => if i < 0 then mixW a i else 0#8) = zero4 := rfl
    rw [e]; exact Blk.new _ 43 _
theorem Mx.drew {w w1 : World} {a : Bf} {k : Nat} (h : Mx w a k w1) : Mx w a k w1.drew := ⟨h.a.drew, h.c.drew, h.o.drew, h.bel.drew⟩
theorem Mx.step {w w1 : World} {a : Bf} {k : Nat} (h : Mx w a k w1) : Mx w a (k + 1) (w1.setCell ⟨w.heap.size + 1 + 1, k, none⟩ (.int .u8 (mixW a k).toNat)) := by
  refine ⟨h.a.far (by simp; omega) _, h.c.far (by simp) _, ?_, h.bel.setCell (by simp; omega) _⟩
  have := h.o.set_ k (.int .u8 (mixW a k).toNat)
  rw [bytes_set] at this
  refine (show bytes 4 _ = bytes 4 _ from bytes_ext fun i _ => ?_) ▸ this
  unfold upd
  by_cases e : i = k
  · subst e; simp
  · by_cases e1 : i < k
    · simp [e, e1, show i < k + 1 by omega]
    · simp [e, e1, show ¬ i < k + 1 by omega]
theorem mix_val (a : Bf) (k : Nat) : (mixW a k).toNat = (a k).toNat ^^^ ((a 0).toNat ^^^ (a 1).toNat ^^^ (a 2).toNat ^^^ (a 3).toNat) ^^^ (t2 (a k ^^^ a ((k + 1) % 4))).toNat := rfl
set_option maxRecDepth 100000 in
set_option maxHeartbeats 2000000 in
theorem mixed_any (a : Bf) (w : World) : Calls Try.prog 29 #[.agg (bytes 4 a)] w fun e w' => e = .returned (.agg (bytes 4 (mixW a))) ∧ Below w.heap.size w w' := by
  have H0 := Mx.start w a
  have p0 := H0.a.byte (i := 0) (by omega)
  have p1 := H0.a.byte (i := 1) (by omega)
  have p2 := H0.a.byte (i := 2) (by omega)
  have p3 := H0.a.byte (i := 3) (by omega)
  have x1 := bits_xor8 (a 0) (a 1)
  have x2 := bits_xor8 (a 0 ^^^ a 1) (a 2)
  have x3 := bits_xor8 (a 0 ^^^ a 1 ^^^ a 2) (a 3)
  simp only [BitVec.toNat_xor] at x1 x2 x3
  go_enter Try.func29, Try.ntmps29
  go_wp2
  clear p0 p1 p2 p3 x1 x2 x3
  go_loopw [5, 17] (fun _ i w' => ∃ k : Nat, k ≤ 4 ∧ i = .int .i64 k ∧ Mx w a k w') (fun _ i _ => 4 - (intOf i).toNat)
  case atStart => exact ⟨0, by omega, rfl, H0⟩
  case round =>
    clear H0
    obtain ⟨k, hk, rfl, hr⟩ := hrel
    by_cases hlt : k < 4
    · have hd : decide ((k : Int) < 4) = true := decide_eq_true (by omega)
      go_wp2
      have w1 : IntKind.i64.wrap ((k : Int) + 1) = (k : Int) + 1 := IntWalk.i64_in _ (by omega)
      have w0 : (k : Int) < 4 := by omega
      have w4 : ((k : Int) + 1) % 4 < 4 := by omega
      have w5 : (0 : Int) ≤ ((k : Int) + 1) % 4 := by omega
      have w6 : (((k : Int) + 1) % 4).toNat = (k + 1) % 4 := by omega
      have w2 : ((k : Int) + 1).tmod 4 = (((k + 1) % 4 : Nat) : Int) := by rw [Int.tmod_eq_emod_of_nonneg (by omega)]; omega
      have w3 : (k + 1) % 4 < 4 := by omega
      have x1 := bits_xor8 (a k) (a 0 ^^^ a 1 ^^^ a 2 ^^^ a 3)
      have x2 := bits_xor8 (a k) (a ((k + 1) % 4))
      have x3 := bits_xor8 (a k ^^^ (a 0 ^^^ a 1 ^^^ a 2 ^^^ a 3)) (t2 (a k ^^^ a ((k + 1) % 4)))
      simp only [BitVec.toNat_xor] at x1 x2 x3
      refine wp_region_begin (by kernel_rfl) ?_
      refine wpAny_steady (Mx w a k) [0, 1, 2, 3, 4, 5, 6, 7, 8, 9, 10, 11, 12, 13, 14, 15, 16, 17] (by kernel_rfl) (hr.drew) ?_
      repeat first
        | (refine Chain.step (oi := ?_) (v := .int .u8 (t2 (a k ^^^ a ((k + 1) % 4))).toNat) ?_ (by kernel_rfl) (by kernel_rfl) (by kernel_rfl) ?_ ?_
           rotate_left 1
           · simp only [List.getElem?_toArray, List.getElem?_cons_zero, List.getElem?_cons_succ]
             with_reducible rfl
           · (refine Or.inl ⟨?_, Gives.call (f := 25) (args := #[.int .u8 (a k ^^^ a ((k + 1) % 4)).toNat]) ?_ ?_⟩; rfl; (intro wz hz; go_simp); intro wz hz; exact (times2_any (a k ^^^ a ((k + 1) % 4)) wz).mono fun e wy h => ⟨h.1, h.2 ▸ hz⟩)
           simp only [Act.put, List.setIfInBounds_toArray, List.set_cons_zero, List.set_cons_succ])
        | (refine Chain.step (oi := ?_) (v := ?_) ?_ (by kernel_rfl) (by kernel_rfl) (by kernel_rfl) ?_ ?_
           rotate_left 2
           · simp only [List.getElem?_toArray, List.getElem?_cons_zero, List.getElem?_cons_succ]
             with_reducible rfl
           · (refine Or.inl ⟨?_, Gives.val ?_⟩; rfl; intro wz hz; have q1 := hz.a.byte (i := k) (by omega); have q2 := hz.a.byte (i := (k + 1) % 4) (by omega); go_simp; with_reducible rfl)
           simp only [Act.put, List.setIfInBounds_toArray, List.set_cons_zero, List.set_cons_succ])
      refine Chain.done fun w9 hw9 => ?_
      have y1 := hw9.o.byte (i := k) (by omega)
      have y2 := hw9.o.frozen k
      refine wpAny_ready (rs := [18]) (by kernel_rfl) (by simp) ?_
      refine AllReady.cons (o := ?_) ?_ (fun K hK => ?_) AllReady.nil
      rotate_left 1
      · simp only [List.getElem?_toArray, List.getElem?_cons_zero, List.getElem?_cons_succ]
        with_reducible rfl
      go_simp
      refine hK _ _ ?_
      clear hK K
      refine wpAny_done (by kernel_rfl) ?_ _
      go_wp2
      exact ⟨⟨k + 1, by omega, by go_num, hw9.step⟩, by simp [intOf]; omega⟩
    · obtain rfl : k = 4 := by omega
      go_wp2_with (first | (with_reducible refine load_blk 43 rfl rfl (.tmp 3) rfl (w.heap.size + 1 + 1) 0 rfl _ hr.o (by decide) ?_) | (with_reducible refine store_blk 43 rfl rfl (.tmp 2) (.tmp 39) rfl (w.heap.size + 1) 0 _ _ rfl rfl hr.c (by decide) ?_))
      have e : bytes 4 (part (fun i => if i < 4 then mixW a i else 0#8) 0) = bytes 4 (mixW a) := bytes_ext fun i hi => by simp [part, hi]
      rw [← e]
      exact bodyPost_ret (result_blk rfl rfl _ _ (w.heap.size + 1) _ rfl ((hr.c.mid 0 4 _).whole)) rfl ⟨rfl, setCells_below _ _ _ hr.bel (by omega)⟩
end Go.Proofs.Ythjigmfooobfmab
