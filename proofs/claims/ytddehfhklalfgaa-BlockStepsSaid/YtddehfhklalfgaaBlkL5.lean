/-
  THE WALK of the statement BlockLinear: true at every input.
-/
import Derived.Test.YtddehfhklalfgaaBlkSh
import Derived.Test.YtddehfhklalfgaaBlkA
import Derived.Test.YtddehfhklalfgaaBlkHr
import Derived.Test.YtddehfhklalfgaaSteady2
namespace Go.Proofs.Ytddehfhklalfgaa
open Go.RowKit Gf
set_option linter.unusedSimpArgs false
attribute [local go_sem ↓] store_rule
attribute [local go_sem] headPtr_mk blockOf_mk cellsOf_mk is16_bytes rowB_drew rowOf_drew rowB_drewN rowOf_drewN eq_blk

theorem Own.below {base n : Nat} {v : Value} {bf : Bf} {w w' : World} (h : Own base v n bf w) (hb : Below w.heap.size w w') : Own base v n bf w' := by
  refine ⟨h.1, ?_⟩
  rcases h.2 with h1 | ⟨g, cap, cur, hv, hbg, hg, rest⟩
  · exact .inl h1
  · have hlt : g < w.heap.size := by
      rcases Nat.lt_or_ge g w.heap.size with h' | h'
      · exact h'
      · rw [Array.getElem?_eq_none h'] at hg; cases hg
    exact .inr ⟨g, cap, cur, hv, hbg, (hb.block g hlt).trans hg, rest⟩
theorem Own.ext {base n : Nat} {v : Value} {bf cf : Bf} {w : World} (h : Own base v n bf w) (e : ∀ i, i < n → bf i = cf i) : Own base v n cf w := by
  have : cellsB n bf = cellsB n cf := List.map_congr_left fun i hi => by rw [e i (List.mem_range.1 hi)]
  unfold Own at h ⊢
  rw [← this]; exact h
theorem Own.rd {base n : Nat} {A : Option Addr} {c : Nat} {bf : Bf} {w : World} (h : Own base (.slice A n c) n bf w) : RdB w A n bf := by
  obtain ⟨A', c', e, _, hr⟩ := h.slice
  cases e
  exact hr
theorem byteB_xor (x y : B128) (i : Nat) (hi : i < 16) : byteB (x ^^^ y) i = byteB x i ^^^ byteB y i := by
  apply BitVec.eq_of_getLsbD_eq
  intro j hj
  rw [BitVec.getLsbD_xor, byteB_bit _ i hi j hj, byteB_bit _ i hi j hj, byteB_bit _ i hi j hj, getMsbD_add]
theorem slice_val {ρ : Operand → Value} {d : Option Tmp} {x y : Operand} {ty : TypeId} {pos : String} {af : Array Edge} {gd : Option (Nat × Bool)} {A : Option Addr} {n c N : Nat}
    (hx : ρ x = .slice A n c) (hy : ρ y = .int .i64 N) (hN : N ≤ c) (w : World) :
    (execOp ρ { dst := d, op := .slice 28 x none (some y) none, type := ty, pos := pos, after := af, guard := gd }).run Try.prog w = .ok (.value (.slice A N c)) w := by
  unfold execOp
  simp only [hx, hy, Option.map]
  go_simp
theorem own_empty0 (w : World) : Own w.heap.size (.slice (some ⟨w.heap.size, 0, none⟩) 0 0) 0 (fun _ => 0#8) (w.alloc (.cells #[] 5)) :=
  World.ownsRow_made w #[] 0 (Nat.le_refl _) (by simp [maxLen]) rfl
theorem rd_one (w : World) (x : BitVec 8) : RdB (w.alloc (.cells #[.int .u8 x.toNat] 5)) (some ⟨w.heap.size, 0, none⟩) 1 (fun _ => x) := fun _ => by
  refine ⟨_, rfl, by simp, fun j hj => ?_⟩
  obtain rfl : j = 0 := by omega
  exact cell_of_row _ _ 0 _ 5 (0, 0) (Blk.new w 5 _)
theorem rd_xor (w : World) (x y : BitVec 8) : RdB (w.alloc (.cells #[.int .u8 ((x.toNat ^^^ y.toNat : Nat) : Int)] 5)) (some ⟨w.heap.size, 0, none⟩) 1 (fun _ => x ^^^ y) := by
  have := rd_one w (x ^^^ y)
  rwa [BitVec.toNat_xor] at this
theorem bits_xor8' (x y : BitVec 8) : bits .xor .u8 (x.toNat : Int) (y.toNat : Int) = ((x ^^^ y).toNat : Int) := by
  rw [u8_xor_nat _ _ x.isLt y.isLt, BitVec.toNat_xor]
structure Ln0 (w : World) (h bf cf : Bf) (n m : Nat) (A B : Option Addr) (w' : World) : Prop where
  a : Blk w' w.heap.size 23 (bytes 16 h)
  r1 : RdB w' A n bf
  r2 : RdB w' B m cf
  bel : Below w.heap.size w w'
theorem Ln0.later {w w1 w2 : World} {h bf cf : Bf} {n m : Nat} {A B : Option Addr} (H : Ln0 w h bf cf n m A B w1) (hb : Below w1.heap.size w1 w2) : Ln0 w h bf cf n m A B w2 :=
  ⟨H.a.below hb H.a.lt, H.r1.below hb, H.r2.below hb, H.bel.trans (hb.mono H.bel.size)⟩
/-- What stands at the loop: the box of h, both rows, the row of the call's own. -/
structure Ln (w : World) (h bf cf : Bf) (n m : Nat) (A B : Option Addr) (w1 : World) (k : Nat) (v : Value) (w' : World) : Prop where
  h0 : Ln0 w h bf cf n m A B w1
  bw : Below w1.heap.size w1 w'
  o : Own w1.heap.size v k (fun i => bf i ^^^ cf i) w'
section
variable {w w1 w2 w3 : World} {h bf cf : Bf} {n m : Nat} {A B : Option Addr} {k : Nat} {v : Value}
theorem Ln.a (H : Ln w h bf cf n m A B w1 k v w2) : Blk w2 w.heap.size 23 (bytes 16 h) := H.h0.a.below H.bw H.h0.a.lt
theorem Ln.r1 (H : Ln w h bf cf n m A B w1 k v w2) : RdB w2 A n bf := H.h0.r1.below H.bw
theorem Ln.r2 (H : Ln w h bf cf n m A B w1 k v w2) : RdB w2 B m cf := H.h0.r2.below H.bw
theorem Ln.cellA {ad : Addr} (H : Ln w h bf cf n m (some ad) B w1 k v w2) {j : Nat} (hj : j < n) : w2.cell? (ad.add j) = some (.int .u8 (bf j).toNat) := by
  obtain ⟨_, e, _, hc⟩ := H.r1 (by omega)
  cases e
  exact hc j hj
theorem Ln.cellB {bd : Addr} (H : Ln w h bf cf n m A (some bd) w1 k v w2) {j : Nat} (hj : j < m) : w2.cell? (bd.add j) = some (.int .u8 (cf j).toNat) := by
  obtain ⟨_, e, _, hc⟩ := H.r2 (by omega)
  cases e
  exact hc j hj
theorem Ln.bel (H : Ln w h bf cf n m A B w1 k v w2) : Below w.heap.size w w2 := H.h0.bel.trans (H.bw.mono H.h0.bel.size)
theorem Ln.later (H : Ln w h bf cf n m A B w1 k v w2) (hb : Below w2.heap.size w2 w3) : Ln w h bf cf n m A B w1 k v w3 :=
  ⟨H.h0, H.bw.trans (hb.mono H.bw.size), H.o.below hb⟩
end

set_option maxRecDepth 100000 in
set_option maxHeartbeats 4000000 in
theorem blockLinear_walk (kf bf : Bf) (A : Option Addr) (n c : Nat) (hc : n ≤ c) (_hm : c ≤ maxLen) (cf : Bf) (B : Option Addr) (m d : Nat) (hd : m ≤ d) (_hm2 : d ≤ maxLen) (w : World) (hr : RdB w A n bf) (hr2 : RdB w B m cf) :
    Calls Try.prog 9 #[.agg (bytes 16 kf), .slice A n c, .slice B m d] w fun e w' => e = .returned (.bool true) ∧ Below w.heap.size w w' := by
  have hb0 : Below w.heap.size w (w.alloc (.cells (bytes 16 kf) 23)) := (Below.refl _ _).alloc (Nat.le_refl _) _
  have H0 : Ln0 w kf bf cf n m A B (w.alloc (.cells (bytes 16 kf) 23)) := ⟨Blk.new w 23 _, hr.below hb0, hr2.below hb0, hb0⟩
  have hng := no_guard
  clear hb0 hr hr2
  go_enter Try.func9, Try.ntmps9
  go_wp2_with fail
  refine (shown_any _).mono ?_
  rintro e w1 ⟨rfl, hb1⟩
  have H1 := H0.later hb1
  clear H0 hb1
  go_wp2_with fail
  · have FNn := Lib.hid (show 2000 ≤ n by omega)
    have FNm := Lib.hid (show 2000 ≤ m by omega)
    have FN := Lib.hid (show 2000 ≤ 4096 by omega)
    have FNC := Lib.hid (show 2000 ≤ c by omega)
    have FND := Lib.hid (show 2000 ≤ d by omega)
    have S0 : Ln w kf bf cf n m A B w1 0 (.slice (some ⟨w1.heap.size, 0, none⟩) 0 0) (w1.alloc (.cells #[] 5)) := by
      exact ⟨H1, (Below.refl w1.heap.size w1).alloc (Nat.le_refl _) (.cells #[] 5), (own_empty0 w1).ext (fun i hi => absurd hi (by omega))⟩
    clear H1
    go_loopw [9, 10] (fun v i w' => ∃ (k : Nat) (A' : Option Addr) (c' : Nat), k ≤ 2000 ∧ v = .slice A' k c' ∧ k ≤ c' ∧ i = .int .i64 k ∧ Ln w kf bf cf n m A B w1 k (.slice A' k c') w') (fun _ i _ => 2000 - (intOf i).toNat)
    case atStart => exact ⟨0, _, _, by omega, rfl, Nat.le_refl _, rfl, S0⟩
    case round =>
      clear S0
      obtain ⟨k, A', c', hk, rfl, hkc, rfl, hR⟩ := hrel
      by_cases hlt : k < 2000
      · have hkn : k < n := by have := FNn.out; omega
        have hkm : k < m := by have := FNm.out; omega
        obtain ⟨ad, rfl, _, hca⟩ := hR.r1 (by omega)
        obtain ⟨bd, rfl, _, hcb⟩ := hR.r2 (by omega)
        have hc1 := hca k hkn
        have hc2 := hcb k hkm
        clear hca hcb
        have hx := bits_xor8' (bf k) (cf k)
        have hd1 : decide ((k : Int) < (2000 : Int)) = true := decide_eq_true (by omega)
        go_wp2
        refine wp_region_begin (by kernel_rfl) ?_
        refine wpAny_take (i := 0) (oi := ?_) (v := ?_) ?_ (by kernel_rfl) (by kernel_rfl) (by kernel_rfl) ?_ ?_ ?_
        rotate_left 2
        · simp only [List.getElem?_toArray, List.getElem?_cons_zero, List.getElem?_cons_succ]
          with_reducible rfl
        · exact fun _ _ _ q => q
        · (refine Or.inl ⟨?_, ?_⟩; rfl; intro w; go_simp; with_reducible rfl)
        simp only [Act.put, List.setIfInBounds_toArray, List.set_cons_zero, List.set_cons_succ]
        refine wpAny_along (Ln w kf bf cf n m (some ad) (some bd) w1 k (.slice A' k c')) [1, 2, 3, 4, 5, 6, 7, 8, 9] 9 (by kernel_rfl) (by kernel_rfl) (by kernel_rfl) (by decide) rfl (hR.later (Below.refl _ _).drew) ?_
        repeat first
          | (refine Chain.step (oi := ?_) (v := ?_) ?_ (by kernel_rfl) (by kernel_rfl) (by kernel_rfl) ?_ ?_
             rotate_left 2
             · simp only [List.getElem?_toArray, List.getElem?_cons_zero, List.getElem?_cons_succ]
               with_reducible rfl
             · (refine Or.inl ⟨?_, Gives.val ?_⟩; rfl; intro wz hz; have q1 := hz.cellA hkn; have q2 := hz.cellB hkm; go_simp; with_reducible rfl)
             simp only [Act.put, List.setIfInBounds_toArray, List.set_cons_zero, List.set_cons_succ])
        refine Chain.done fun w9 hw9 => ?_
        refine wpAny_ready (rs := [10]) (by kernel_rfl) (by simp) ?_
        refine AllReady.cons (o := ?_) ?_ (fun K hK => ?_) AllReady.nil
        rotate_left 1
        · simp only [List.getElem?_toArray, List.getElem?_cons_zero, List.getElem?_cons_succ]
          with_reducible rfl
        go_simp
        refine hK _ _ ?_
        clear hK K
        have HO := Lib.hid (show Own w1.heap.size (.slice A' k c') k (fun i => bf i ^^^ cf i) (w9.alloc (.cells #[.int .u8 (((bf k).toNat ^^^ (cf k).toNat : Nat) : Int)] 5)) from hw9.o.below ((Below.refl _ _).alloc (Nat.le_refl _) _))
        have HR := Lib.hid (rd_xor w9 (bf k) (cf k))
        have HN := Lib.hid (show k + 1 ≤ 4096 by have := FN.out; omega)
        have HS := Lib.hid (show w1.heap.size ≤ (w9.alloc (.cells #[.int .u8 (((bf k).toNat ^^^ (cf k).toNat : Nat) : Int)] 5)).heap.size from Nat.le_trans hw9.bw.size (by simp))
        refine wpAny_ready (rs := [11]) (by kernel_rfl) (by simp) ?_
        refine AllReady.cons (o := ?_) ?_ (fun K hK => ?_) AllReady.nil
        rotate_left 1
        · simp only [List.getElem?_toArray, List.getElem?_cons_zero, List.getElem?_cons_succ]
          with_reducible rfl
        (with_reducible refine step_append_rd rfl (.tmp 23) (.tmp 33) rfl rfl HO.out _ 1 1 _ rfl HR.out HN.out HS.out ?_)
        intro A2 c2 w2 hc2 hown2 hb2
        refine hK _ _ ?_
        clear hK K HO HR HN HS
        simp only [Act.put, List.setIfInBounds_toArray, List.set_cons_zero, List.set_cons_succ]
        refine wpAny_ready (rs := [12]) (by kernel_rfl) (by simp) ?_
        refine AllReady.cons (o := ?_) ?_ (fun K hK => ?_) AllReady.nil
        rotate_left 1
        · simp only [List.getElem?_toArray, List.getElem?_cons_zero, List.getElem?_cons_succ]
          with_reducible rfl
        go_simp
        refine hK _ _ ?_
        clear hK K
        refine wpAny_done (by kernel_rfl) ?_ _
        have hb3 : Below w1.heap.size w9 w2 := ((Below.refl _ _).alloc hw9.bw.size _).trans hb2
        go_wp2
        have e : ∀ i, i < k + 1 → joinB (fun i => bf i ^^^ cf i) k (fun _ => bf k ^^^ cf k) i = bf i ^^^ cf i := fun i hi => by
          unfold joinB
          by_cases h1 : i < k
          · rw [if_pos h1]
          · rw [if_neg h1, show i = k by omega]
        exact ⟨⟨k + 1, A2, c2, by omega, rfl, hc2, by go_num, ⟨hR.h0, hw9.bw.trans hb3, hown2.ext e⟩⟩, by simp [intOf]; omega⟩
      · have ek : k = 2000 := by omega
        have FK := Lib.hid (show k ≤ 4096 by have := FN.out; omega)
        have FC := Lib.hid hkc
        have hs0 : sameB 16 (byteB (hashF (blk kf) (fun i => bf i ^^^ cf i) k)) (fun i => byteB (hashF (blk kf) bf 2000) i ^^^ byteB (hashF (blk kf) cf 2000) i) = true := sameB_of fun i hi => by rw [hashF_xor, ek, byteB_xor _ _ i hi]
        clear ek
        have hd1 : decide ((k : Int) < (2000 : Int)) = false := decide_eq_false (by omega)
        go_wp2
        refine wp_region_begin (by kernel_rfl) ?_
        refine wpAny_steady (Ln w kf bf cf n m A B w1 k (.slice A' k c')) [0, 1, 2, 3, 4, 5, 6, 7, 8, 9, 10, 11, 12, 13, 14, 15, 16, 17] (by kernel_rfl) (hR.later (Below.refl _ _).drew) ?_
        repeat first
          | (refine Chain.step (oi := ?_) (v := ?_) ?_ (by kernel_rfl) (by kernel_rfl) (by kernel_rfl) ?_ ?_
             rotate_left 2
             · simp only [List.getElem?_toArray, List.getElem?_cons_zero, List.getElem?_cons_succ]
               with_reducible rfl
             · (refine Or.inl ⟨?_, Gives.val ?_⟩; rfl; intro wz hz; refine load_val (S := Ln w kf bf cf n m A B w1 k (.slice A' k c')) (g := w.heap.size) (f := kf) ?_ (fun _ h => h.a) wz hz; rfl)
             simp only [Act.put, List.setIfInBounds_toArray, List.set_cons_zero, List.set_cons_succ])
          | (refine Chain.step (oi := ?_) (v := .agg (bytes 16 (byteB (hashF (blk kf) (fun i => bf i ^^^ cf i) k)))) ?_ (by kernel_rfl) (by kernel_rfl) (by kernel_rfl) ?_ ?_
             rotate_left 1
             · simp only [List.getElem?_toArray, List.getElem?_cons_zero, List.getElem?_cons_succ]
               with_reducible rfl
             · (refine Or.inl ⟨?_, Gives.call (f := 15) (args := #[.agg (bytes 16 (kf)), .slice A' k c']) ?_ ?_⟩; rfl; (intro wz hz; go_simp); intro wz hz; exact (hash_any kf (fun i => bf i ^^^ cf i) A' k c' FK.out FC.out wz (Own.rd hz.o)).mono fun e wy h => ⟨h.1, Ln.later hz h.2⟩)
             simp only [Act.put, List.setIfInBounds_toArray, List.set_cons_zero, List.set_cons_succ])
          | (refine Chain.step (oi := ?_) (v := .agg (bytes 16 (byteB (hashF (blk kf) bf 2000)))) ?_ (by kernel_rfl) (by kernel_rfl) (by kernel_rfl) ?_ ?_
             rotate_left 1
             · simp only [List.getElem?_toArray, List.getElem?_cons_zero, List.getElem?_cons_succ]
               with_reducible rfl
             · (refine Or.inl ⟨?_, Gives.call (f := 15) (args := #[.agg (bytes 16 (kf)), .slice A 2000 c]) ?_ ?_⟩; rfl; (intro wz hz; go_simp); intro wz hz; exact (hash_any kf bf A 2000 c FN.out FNC.out wz (hz.r1.less FNn.out)).mono fun e wy h => ⟨h.1, Ln.later hz h.2⟩)
             simp only [Act.put, List.setIfInBounds_toArray, List.set_cons_zero, List.set_cons_succ])
          | (refine Chain.step (oi := ?_) (v := .agg (bytes 16 (byteB (hashF (blk kf) cf 2000)))) ?_ (by kernel_rfl) (by kernel_rfl) (by kernel_rfl) ?_ ?_
             rotate_left 1
             · simp only [List.getElem?_toArray, List.getElem?_cons_zero, List.getElem?_cons_succ]
               with_reducible rfl
             · (refine Or.inl ⟨?_, Gives.call (f := 15) (args := #[.agg (bytes 16 (kf)), .slice B 2000 d]) ?_ ?_⟩; rfl; (intro wz hz; go_simp); intro wz hz; exact (hash_any kf cf B 2000 d FN.out FND.out wz (hz.r2.less FNm.out)).mono fun e wy h => ⟨h.1, Ln.later hz h.2⟩)
             simp only [Act.put, List.setIfInBounds_toArray, List.set_cons_zero, List.set_cons_succ])
          | (refine Chain.step (oi := ?_) (v := .agg (bytes 16 (fun i => byteB (hashF (blk kf) bf 2000) i ^^^ byteB (hashF (blk kf) cf 2000) i))) ?_ (by kernel_rfl) (by kernel_rfl) (by kernel_rfl) ?_ ?_
             rotate_left 1
             · simp only [List.getElem?_toArray, List.getElem?_cons_zero, List.getElem?_cons_succ]
               with_reducible rfl
             · (refine Or.inl ⟨?_, Gives.call (f := 13) (args := #[.agg (bytes 16 (byteB (hashF (blk kf) bf 2000))), .agg (bytes 16 (byteB (hashF (blk kf) cf 2000)))]) ?_ ?_⟩; rfl; (intro wz hz; go_simp); intro wz hz; exact (xor_any (byteB (hashF (blk kf) bf 2000)) (byteB (hashF (blk kf) cf 2000)) wz).mono fun e wy h => ⟨h.1, Ln.later hz h.2⟩)
             simp only [Act.put, List.setIfInBounds_toArray, List.set_cons_zero, List.set_cons_succ])
          | (refine Chain.step (oi := ?_) (v := .slice A 2000 c) ?_ (by kernel_rfl) (by kernel_rfl) (by kernel_rfl) ?_ ?_
             rotate_left 1
             · simp only [List.getElem?_toArray, List.getElem?_cons_zero, List.getElem?_cons_succ]
               with_reducible rfl
             · (refine Or.inl ⟨?_, Gives.val ?_⟩; rfl; intro wz _; refine slice_val (A := A) (n := n) (c := c) (N := 2000) ?_ ?_ FNC.out wz; rfl; rfl)
             simp only [Act.put, List.setIfInBounds_toArray, List.set_cons_zero, List.set_cons_succ])
          | (refine Chain.step (oi := ?_) (v := .slice B 2000 d) ?_ (by kernel_rfl) (by kernel_rfl) (by kernel_rfl) ?_ ?_
             rotate_left 1
             · simp only [List.getElem?_toArray, List.getElem?_cons_zero, List.getElem?_cons_succ]
               with_reducible rfl
             · (refine Or.inl ⟨?_, Gives.val ?_⟩; rfl; intro wz _; refine slice_val (A := B) (n := m) (c := d) (N := 2000) ?_ ?_ FND.out wz; rfl; rfl)
             simp only [Act.put, List.setIfInBounds_toArray, List.set_cons_zero, List.set_cons_succ])
          | (refine Chain.step (oi := ?_) (v := ?_) ?_ (by kernel_rfl) (by kernel_rfl) (by kernel_rfl) ?_ ?_
             rotate_left 2
             · simp only [List.getElem?_toArray, List.getElem?_cons_zero, List.getElem?_cons_succ]
               with_reducible rfl
             · (refine Or.inl ⟨?_, Gives.val ?_⟩; rfl; intro w _hw; go_simp; with_reducible rfl)
             simp only [Act.put, List.setIfInBounds_toArray, List.set_cons_zero, List.set_cons_succ])
        refine Chain.done fun w9 hw9 => ?_
        refine wpAny_ready (rs := [18]) (by kernel_rfl) (by simp) ?_
        refine AllReady.cons (o := ?_) ?_ (fun K hK => ?_) AllReady.nil
        rotate_left 1
        · simp only [List.getElem?_toArray, List.getElem?_cons_zero, List.getElem?_cons_succ]
          with_reducible rfl
        go_simp
        refine hK _ _ ?_
        clear hK K
        refine wpAny_done (by kernel_rfl) ?_ _
        go_wp2
        go_ret
        exact ⟨rfl, hw9.bel⟩
  · have FNn := Lib.hid (show m ≤ n by omega)
    have FNm := Lib.hid (show m ≤ m by omega)
    have FN := Lib.hid (show m ≤ 4096 by omega)
    have FNC := Lib.hid (show m ≤ c by omega)
    have FND := Lib.hid (show m ≤ d by omega)
    have S0 : Ln w kf bf cf n m A B w1 0 (.slice (some ⟨w1.heap.size, 0, none⟩) 0 0) (w1.alloc (.cells #[] 5)) := by
      exact ⟨H1, (Below.refl w1.heap.size w1).alloc (Nat.le_refl _) (.cells #[] 5), (own_empty0 w1).ext (fun i hi => absurd hi (by omega))⟩
    clear H1
    go_loopw [9, 10] (fun v i w' => ∃ (k : Nat) (A' : Option Addr) (c' : Nat), k ≤ m ∧ v = .slice A' k c' ∧ k ≤ c' ∧ i = .int .i64 k ∧ Ln w kf bf cf n m A B w1 k (.slice A' k c') w') (fun _ i _ => m - (intOf i).toNat)
    case atStart => exact ⟨0, _, _, by omega, rfl, Nat.le_refl _, rfl, S0⟩
    case round =>
      clear S0
      obtain ⟨k, A', c', hk, rfl, hkc, rfl, hR⟩ := hrel
      by_cases hlt : k < m
      · have hkn : k < n := by have := FNn.out; omega
        have hkm : k < m := by have := FNm.out; omega
        obtain ⟨ad, rfl, _, hca⟩ := hR.r1 (by omega)
        obtain ⟨bd, rfl, _, hcb⟩ := hR.r2 (by omega)
        have hc1 := hca k hkn
        have hc2 := hcb k hkm
        clear hca hcb
        have hx := bits_xor8' (bf k) (cf k)
        have hd1 : decide ((k : Int) < (m : Int)) = true := decide_eq_true (by omega)
        go_wp2
        refine wp_region_begin (by kernel_rfl) ?_
        refine wpAny_take (i := 0) (oi := ?_) (v := ?_) ?_ (by kernel_rfl) (by kernel_rfl) (by kernel_rfl) ?_ ?_ ?_
        rotate_left 2
        · simp only [List.getElem?_toArray, List.getElem?_cons_zero, List.getElem?_cons_succ]
          with_reducible rfl
        · exact fun _ _ _ q => q
        · (refine Or.inl ⟨?_, ?_⟩; rfl; intro w; go_simp; with_reducible rfl)
        simp only [Act.put, List.setIfInBounds_toArray, List.set_cons_zero, List.set_cons_succ]
        refine wpAny_along (Ln w kf bf cf n m (some ad) (some bd) w1 k (.slice A' k c')) [1, 2, 3, 4, 5, 6, 7, 8, 9] 9 (by kernel_rfl) (by kernel_rfl) (by kernel_rfl) (by decide) rfl (hR.later (Below.refl _ _).drew) ?_
        repeat first
          | (refine Chain.step (oi := ?_) (v := ?_) ?_ (by kernel_rfl) (by kernel_rfl) (by kernel_rfl) ?_ ?_
             rotate_left 2
             · simp only [List.getElem?_toArray, List.getElem?_cons_zero, List.getElem?_cons_succ]
               with_reducible rfl
             · (refine Or.inl ⟨?_, Gives.val ?_⟩; rfl; intro wz hz; have q1 := hz.cellA hkn; have q2 := hz.cellB hkm; go_simp; with_reducible rfl)
             simp only [Act.put, List.setIfInBounds_toArray, List.set_cons_zero, List.set_cons_succ])
        refine Chain.done fun w9 hw9 => ?_
        refine wpAny_ready (rs := [10]) (by kernel_rfl) (by simp) ?_
        refine AllReady.cons (o := ?_) ?_ (fun K hK => ?_) AllReady.nil
        rotate_left 1
        · simp only [List.getElem?_toArray, List.getElem?_cons_zero, List.getElem?_cons_succ]
          with_reducible rfl
        go_simp
        refine hK _ _ ?_
        clear hK K
        have HO := Lib.hid (show Own w1.heap.size (.slice A' k c') k (fun i => bf i ^^^ cf i) (w9.alloc (.cells #[.int .u8 (((bf k).toNat ^^^ (cf k).toNat : Nat) : Int)] 5)) from hw9.o.below ((Below.refl _ _).alloc (Nat.le_refl _) _))
        have HR := Lib.hid (rd_xor w9 (bf k) (cf k))
        have HN := Lib.hid (show k + 1 ≤ 4096 by have := FN.out; omega)
        have HS := Lib.hid (show w1.heap.size ≤ (w9.alloc (.cells #[.int .u8 (((bf k).toNat ^^^ (cf k).toNat : Nat) : Int)] 5)).heap.size from Nat.le_trans hw9.bw.size (by simp))
        refine wpAny_ready (rs := [11]) (by kernel_rfl) (by simp) ?_
        refine AllReady.cons (o := ?_) ?_ (fun K hK => ?_) AllReady.nil
        rotate_left 1
        · simp only [List.getElem?_toArray, List.getElem?_cons_zero, List.getElem?_cons_succ]
          with_reducible rfl
        (with_reducible refine step_append_rd rfl (.tmp 23) (.tmp 33) rfl rfl HO.out _ 1 1 _ rfl HR.out HN.out HS.out ?_)
        intro A2 c2 w2 hc2 hown2 hb2
        refine hK _ _ ?_
        clear hK K HO HR HN HS
        simp only [Act.put, List.setIfInBounds_toArray, List.set_cons_zero, List.set_cons_succ]
        refine wpAny_ready (rs := [12]) (by kernel_rfl) (by simp) ?_
        refine AllReady.cons (o := ?_) ?_ (fun K hK => ?_) AllReady.nil
        rotate_left 1
        · simp only [List.getElem?_toArray, List.getElem?_cons_zero, List.getElem?_cons_succ]
          with_reducible rfl
        go_simp
        refine hK _ _ ?_
        clear hK K
        refine wpAny_done (by kernel_rfl) ?_ _
        have hb3 : Below w1.heap.size w9 w2 := ((Below.refl _ _).alloc hw9.bw.size _).trans hb2
        go_wp2
        have e : ∀ i, i < k + 1 → joinB (fun i => bf i ^^^ cf i) k (fun _ => bf k ^^^ cf k) i = bf i ^^^ cf i := fun i hi => by
          unfold joinB
          by_cases h1 : i < k
          · rw [if_pos h1]
          · rw [if_neg h1, show i = k by omega]
        exact ⟨⟨k + 1, A2, c2, by omega, rfl, hc2, by go_num, ⟨hR.h0, hw9.bw.trans hb3, hown2.ext e⟩⟩, by simp [intOf]; omega⟩
      · have ek : k = m := by omega
        have FK := Lib.hid (show k ≤ 4096 by have := FN.out; omega)
        have FC := Lib.hid hkc
        have hs0 : sameB 16 (byteB (hashF (blk kf) (fun i => bf i ^^^ cf i) k)) (fun i => byteB (hashF (blk kf) bf m) i ^^^ byteB (hashF (blk kf) cf m) i) = true := sameB_of fun i hi => by rw [hashF_xor, ek, byteB_xor _ _ i hi]
        clear ek
        have hd1 : decide ((k : Int) < (m : Int)) = false := decide_eq_false (by omega)
        go_wp2
        refine wp_region_begin (by kernel_rfl) ?_
        refine wpAny_steady (Ln w kf bf cf n m A B w1 k (.slice A' k c')) [0, 1, 2, 3, 4, 5, 6, 7, 8, 9, 10, 11, 12, 13, 14, 15, 16, 17] (by kernel_rfl) (hR.later (Below.refl _ _).drew) ?_
        repeat first
          | (refine Chain.step (oi := ?_) (v := ?_) ?_ (by kernel_rfl) (by kernel_rfl) (by kernel_rfl) ?_ ?_
             rotate_left 2
             · simp only [List.getElem?_toArray, List.getElem?_cons_zero, List.getElem?_cons_succ]
               with_reducible rfl
             · (refine Or.inl ⟨?_, Gives.val ?_⟩; rfl; intro wz hz; refine load_val (S := Ln w kf bf cf n m A B w1 k (.slice A' k c')) (g := w.heap.size) (f := kf) ?_ (fun _ h => h.a) wz hz; rfl)
             simp only [Act.put, List.setIfInBounds_toArray, List.set_cons_zero, List.set_cons_succ])
          | (refine Chain.step (oi := ?_) (v := .agg (bytes 16 (byteB (hashF (blk kf) (fun i => bf i ^^^ cf i) k)))) ?_ (by kernel_rfl) (by kernel_rfl) (by kernel_rfl) ?_ ?_
             rotate_left 1
             · simp only [List.getElem?_toArray, List.getElem?_cons_zero, List.getElem?_cons_succ]
               with_reducible rfl
             · (refine Or.inl ⟨?_, Gives.call (f := 15) (args := #[.agg (bytes 16 (kf)), .slice A' k c']) ?_ ?_⟩; rfl; (intro wz hz; go_simp); intro wz hz; exact (hash_any kf (fun i => bf i ^^^ cf i) A' k c' FK.out FC.out wz (Own.rd hz.o)).mono fun e wy h => ⟨h.1, Ln.later hz h.2⟩)
             simp only [Act.put, List.setIfInBounds_toArray, List.set_cons_zero, List.set_cons_succ])
          | (refine Chain.step (oi := ?_) (v := .agg (bytes 16 (byteB (hashF (blk kf) bf m)))) ?_ (by kernel_rfl) (by kernel_rfl) (by kernel_rfl) ?_ ?_
             rotate_left 1
             · simp only [List.getElem?_toArray, List.getElem?_cons_zero, List.getElem?_cons_succ]
               with_reducible rfl
             · (refine Or.inl ⟨?_, Gives.call (f := 15) (args := #[.agg (bytes 16 (kf)), .slice A m c]) ?_ ?_⟩; rfl; (intro wz hz; go_simp); intro wz hz; exact (hash_any kf bf A m c FN.out FNC.out wz (hz.r1.less FNn.out)).mono fun e wy h => ⟨h.1, Ln.later hz h.2⟩)
             simp only [Act.put, List.setIfInBounds_toArray, List.set_cons_zero, List.set_cons_succ])
          | (refine Chain.step (oi := ?_) (v := .agg (bytes 16 (byteB (hashF (blk kf) cf m)))) ?_ (by kernel_rfl) (by kernel_rfl) (by kernel_rfl) ?_ ?_
             rotate_left 1
             · simp only [List.getElem?_toArray, List.getElem?_cons_zero, List.getElem?_cons_succ]
               with_reducible rfl
             · (refine Or.inl ⟨?_, Gives.call (f := 15) (args := #[.agg (bytes 16 (kf)), .slice B m d]) ?_ ?_⟩; rfl; (intro wz hz; go_simp); intro wz hz; exact (hash_any kf cf B m d FN.out FND.out wz (hz.r2.less FNm.out)).mono fun e wy h => ⟨h.1, Ln.later hz h.2⟩)
             simp only [Act.put, List.setIfInBounds_toArray, List.set_cons_zero, List.set_cons_succ])
          | (refine Chain.step (oi := ?_) (v := .agg (bytes 16 (fun i => byteB (hashF (blk kf) bf m) i ^^^ byteB (hashF (blk kf) cf m) i))) ?_ (by kernel_rfl) (by kernel_rfl) (by kernel_rfl) ?_ ?_
             rotate_left 1
             · simp only [List.getElem?_toArray, List.getElem?_cons_zero, List.getElem?_cons_succ]
               with_reducible rfl
             · (refine Or.inl ⟨?_, Gives.call (f := 13) (args := #[.agg (bytes 16 (byteB (hashF (blk kf) bf m))), .agg (bytes 16 (byteB (hashF (blk kf) cf m)))]) ?_ ?_⟩; rfl; (intro wz hz; go_simp); intro wz hz; exact (xor_any (byteB (hashF (blk kf) bf m)) (byteB (hashF (blk kf) cf m)) wz).mono fun e wy h => ⟨h.1, Ln.later hz h.2⟩)
             simp only [Act.put, List.setIfInBounds_toArray, List.set_cons_zero, List.set_cons_succ])
          | (refine Chain.step (oi := ?_) (v := .slice A m c) ?_ (by kernel_rfl) (by kernel_rfl) (by kernel_rfl) ?_ ?_
             rotate_left 1
             · simp only [List.getElem?_toArray, List.getElem?_cons_zero, List.getElem?_cons_succ]
               with_reducible rfl
             · (refine Or.inl ⟨?_, Gives.val ?_⟩; rfl; intro wz _; refine slice_val (A := A) (n := n) (c := c) (N := m) ?_ ?_ FNC.out wz; rfl; rfl)
             simp only [Act.put, List.setIfInBounds_toArray, List.set_cons_zero, List.set_cons_succ])
          | (refine Chain.step (oi := ?_) (v := .slice B m d) ?_ (by kernel_rfl) (by kernel_rfl) (by kernel_rfl) ?_ ?_
             rotate_left 1
             · simp only [List.getElem?_toArray, List.getElem?_cons_zero, List.getElem?_cons_succ]
               with_reducible rfl
             · (refine Or.inl ⟨?_, Gives.val ?_⟩; rfl; intro wz _; refine slice_val (A := B) (n := m) (c := d) (N := m) ?_ ?_ FND.out wz; rfl; rfl)
             simp only [Act.put, List.setIfInBounds_toArray, List.set_cons_zero, List.set_cons_succ])
          | (refine Chain.step (oi := ?_) (v := ?_) ?_ (by kernel_rfl) (by kernel_rfl) (by kernel_rfl) ?_ ?_
             rotate_left 2
             · simp only [List.getElem?_toArray, List.getElem?_cons_zero, List.getElem?_cons_succ]
               with_reducible rfl
             · (refine Or.inl ⟨?_, Gives.val ?_⟩; rfl; intro w _hw; go_simp; with_reducible rfl)
             simp only [Act.put, List.setIfInBounds_toArray, List.set_cons_zero, List.set_cons_succ])
        refine Chain.done fun w9 hw9 => ?_
        refine wpAny_ready (rs := [18]) (by kernel_rfl) (by simp) ?_
        refine AllReady.cons (o := ?_) ?_ (fun K hK => ?_) AllReady.nil
        rotate_left 1
        · simp only [List.getElem?_toArray, List.getElem?_cons_zero, List.getElem?_cons_succ]
          with_reducible rfl
        go_simp
        refine hK _ _ ?_
        clear hK K
        refine wpAny_done (by kernel_rfl) ?_ _
        go_wp2
        go_ret
        exact ⟨rfl, hw9.bel⟩
  · have FNn := Lib.hid (show n ≤ n by omega)
    have FNm := Lib.hid (show n ≤ m by omega)
    have FN := Lib.hid (show n ≤ 4096 by omega)
    have FNC := Lib.hid (show n ≤ c by omega)
    have FND := Lib.hid (show n ≤ d by omega)
    have S0 : Ln w kf bf cf n m A B w1 0 (.slice (some ⟨w1.heap.size, 0, none⟩) 0 0) (w1.alloc (.cells #[] 5)) := by
      exact ⟨H1, (Below.refl w1.heap.size w1).alloc (Nat.le_refl _) (.cells #[] 5), (own_empty0 w1).ext (fun i hi => absurd hi (by omega))⟩
    clear H1
    go_loopw [9, 10] (fun v i w' => ∃ (k : Nat) (A' : Option Addr) (c' : Nat), k ≤ n ∧ v = .slice A' k c' ∧ k ≤ c' ∧ i = .int .i64 k ∧ Ln w kf bf cf n m A B w1 k (.slice A' k c') w') (fun _ i _ => n - (intOf i).toNat)
    case atStart => exact ⟨0, _, _, by omega, rfl, Nat.le_refl _, rfl, S0⟩
    case round =>
      clear S0
      obtain ⟨k, A', c', hk, rfl, hkc, rfl, hR⟩ := hrel
      by_cases hlt : k < n
      · have hkn : k < n := by have := FNn.out; omega
        have hkm : k < m := by have := FNm.out; omega
        obtain ⟨ad, rfl, _, hca⟩ := hR.r1 (by omega)
        obtain ⟨bd, rfl, _, hcb⟩ := hR.r2 (by omega)
        have hc1 := hca k hkn
        have hc2 := hcb k hkm
        clear hca hcb
        have hx := bits_xor8' (bf k) (cf k)
        have hd1 : decide ((k : Int) < (n : Int)) = true := decide_eq_true (by omega)
        go_wp2
        refine wp_region_begin (by kernel_rfl) ?_
        refine wpAny_take (i := 0) (oi := ?_) (v := ?_) ?_ (by kernel_rfl) (by kernel_rfl) (by kernel_rfl) ?_ ?_ ?_
        rotate_left 2
        · simp only [List.getElem?_toArray, List.getElem?_cons_zero, List.getElem?_cons_succ]
          with_reducible rfl
        · exact fun _ _ _ q => q
        · (refine Or.inl ⟨?_, ?_⟩; rfl; intro w; go_simp; with_reducible rfl)
        simp only [Act.put, List.setIfInBounds_toArray, List.set_cons_zero, List.set_cons_succ]
        refine wpAny_along (Ln w kf bf cf n m (some ad) (some bd) w1 k (.slice A' k c')) [1, 2, 3, 4, 5, 6, 7, 8, 9] 9 (by kernel_rfl) (by kernel_rfl) (by kernel_rfl) (by decide) rfl (hR.later (Below.refl _ _).drew) ?_
        repeat first
          | (refine Chain.step (oi := ?_) (v := ?_) ?_ (by kernel_rfl) (by kernel_rfl) (by kernel_rfl) ?_ ?_
             rotate_left 2
             · simp only [List.getElem?_toArray, List.getElem?_cons_zero, List.getElem?_cons_succ]
               with_reducible rfl
             · (refine Or.inl ⟨?_, Gives.val ?_⟩; rfl; intro wz hz; have q1 := hz.cellA hkn; have q2 := hz.cellB hkm; go_simp; with_reducible rfl)
             simp only [Act.put, List.setIfInBounds_toArray, List.set_cons_zero, List.set_cons_succ])
        refine Chain.done fun w9 hw9 => ?_
        refine wpAny_ready (rs := [10]) (by kernel_rfl) (by simp) ?_
        refine AllReady.cons (o := ?_) ?_ (fun K hK => ?_) AllReady.nil
        rotate_left 1
        · simp only [List.getElem?_toArray, List.getElem?_cons_zero, List.getElem?_cons_succ]
          with_reducible rfl
        go_simp
        refine hK _ _ ?_
        clear hK K
        have HO := Lib.hid (show Own w1.heap.size (.slice A' k c') k (fun i => bf i ^^^ cf i) (w9.alloc (.cells #[.int .u8 (((bf k).toNat ^^^ (cf k).toNat : Nat) : Int)] 5)) from hw9.o.below ((Below.refl _ _).alloc (Nat.le_refl _) _))
        have HR := Lib.hid (rd_xor w9 (bf k) (cf k))
        have HN := Lib.hid (show k + 1 ≤ 4096 by have := FN.out; omega)
        have HS := Lib.hid (show w1.heap.size ≤ (w9.alloc (.cells #[.int .u8 (((bf k).toNat ^^^ (cf k).toNat : Nat) : Int)] 5)).heap.size from Nat.le_trans hw9.bw.size (by simp))
        refine wpAny_ready (rs := [11]) (by kernel_rfl) (by simp) ?_
        refine AllReady.cons (o := ?_) ?_ (fun K hK => ?_) AllReady.nil
        rotate_left 1
        · simp only [List.getElem?_toArray, List.getElem?_cons_zero, List.getElem?_cons_succ]
          with_reducible rfl
        (with_reducible refine step_append_rd rfl (.tmp 23) (.tmp 33) rfl rfl HO.out _ 1 1 _ rfl HR.out HN.out HS.out ?_)
        intro A2 c2 w2 hc2 hown2 hb2
        refine hK _ _ ?_
        clear hK K HO HR HN HS
        simp only [Act.put, List.setIfInBounds_toArray, List.set_cons_zero, List.set_cons_succ]
        refine wpAny_ready (rs := [12]) (by kernel_rfl) (by simp) ?_
        refine AllReady.cons (o := ?_) ?_ (fun K hK => ?_) AllReady.nil
        rotate_left 1
        · simp only [List.getElem?_toArray, List.getElem?_cons_zero, List.getElem?_cons_succ]
          with_reducible rfl
        go_simp
        refine hK _ _ ?_
        clear hK K
        refine wpAny_done (by kernel_rfl) ?_ _
        have hb3 : Below w1.heap.size w9 w2 := ((Below.refl _ _).alloc hw9.bw.size _).trans hb2
        go_wp2
        have e : ∀ i, i < k + 1 → joinB (fun i => bf i ^^^ cf i) k (fun _ => bf k ^^^ cf k) i = bf i ^^^ cf i := fun i hi => by
          unfold joinB
          by_cases h1 : i < k
          · rw [if_pos h1]
          · rw [if_neg h1, show i = k by omega]
        exact ⟨⟨k + 1, A2, c2, by omega, rfl, hc2, by go_num, ⟨hR.h0, hw9.bw.trans hb3, hown2.ext e⟩⟩, by simp [intOf]; omega⟩
      · have ek : k = n := by omega
        have FK := Lib.hid (show k ≤ 4096 by have := FN.out; omega)
        have FC := Lib.hid hkc
        have hs0 : sameB 16 (byteB (hashF (blk kf) (fun i => bf i ^^^ cf i) k)) (fun i => byteB (hashF (blk kf) bf n) i ^^^ byteB (hashF (blk kf) cf n) i) = true := sameB_of fun i hi => by rw [hashF_xor, ek, byteB_xor _ _ i hi]
        clear ek
        have hd1 : decide ((k : Int) < (n : Int)) = false := decide_eq_false (by omega)
        go_wp2
        refine wp_region_begin (by kernel_rfl) ?_
        refine wpAny_steady (Ln w kf bf cf n m A B w1 k (.slice A' k c')) [0, 1, 2, 3, 4, 5, 6, 7, 8, 9, 10, 11, 12, 13, 14, 15, 16, 17] (by kernel_rfl) (hR.later (Below.refl _ _).drew) ?_
        repeat first
          | (refine Chain.step (oi := ?_) (v := ?_) ?_ (by kernel_rfl) (by kernel_rfl) (by kernel_rfl) ?_ ?_
             rotate_left 2
             · simp only [List.getElem?_toArray, List.getElem?_cons_zero, List.getElem?_cons_succ]
               with_reducible rfl
             · (refine Or.inl ⟨?_, Gives.val ?_⟩; rfl; intro wz hz; refine load_val (S := Ln w kf bf cf n m A B w1 k (.slice A' k c')) (g := w.heap.size) (f := kf) ?_ (fun _ h => h.a) wz hz; rfl)
             simp only [Act.put, List.setIfInBounds_toArray, List.set_cons_zero, List.set_cons_succ])
          | (refine Chain.step (oi := ?_) (v := .agg (bytes 16 (byteB (hashF (blk kf) (fun i => bf i ^^^ cf i) k)))) ?_ (by kernel_rfl) (by kernel_rfl) (by kernel_rfl) ?_ ?_
             rotate_left 1
             · simp only [List.getElem?_toArray, List.getElem?_cons_zero, List.getElem?_cons_succ]
               with_reducible rfl
             · (refine Or.inl ⟨?_, Gives.call (f := 15) (args := #[.agg (bytes 16 (kf)), .slice A' k c']) ?_ ?_⟩; rfl; (intro wz hz; go_simp); intro wz hz; exact (hash_any kf (fun i => bf i ^^^ cf i) A' k c' FK.out FC.out wz (Own.rd hz.o)).mono fun e wy h => ⟨h.1, Ln.later hz h.2⟩)
             simp only [Act.put, List.setIfInBounds_toArray, List.set_cons_zero, List.set_cons_succ])
          | (refine Chain.step (oi := ?_) (v := .agg (bytes 16 (byteB (hashF (blk kf) bf n)))) ?_ (by kernel_rfl) (by kernel_rfl) (by kernel_rfl) ?_ ?_
             rotate_left 1
             · simp only [List.getElem?_toArray, List.getElem?_cons_zero, List.getElem?_cons_succ]
               with_reducible rfl
             · (refine Or.inl ⟨?_, Gives.call (f := 15) (args := #[.agg (bytes 16 (kf)), .slice A n c]) ?_ ?_⟩; rfl; (intro wz hz; go_simp); intro wz hz; exact (hash_any kf bf A n c FN.out FNC.out wz (hz.r1.less FNn.out)).mono fun e wy h => ⟨h.1, Ln.later hz h.2⟩)
             simp only [Act.put, List.setIfInBounds_toArray, List.set_cons_zero, List.set_cons_succ])
          | (refine Chain.step (oi := ?_) (v := .agg (bytes 16 (byteB (hashF (blk kf) cf n)))) ?_ (by kernel_rfl) (by kernel_rfl) (by kernel_rfl) ?_ ?_
             rotate_left 1
             · simp only [List.getElem?_toArray, List.getElem?_cons_zero, List.getElem?_cons_succ]
               with_reducible rfl
             · (refine Or.inl ⟨?_, Gives.call (f := 15) (args := #[.agg (bytes 16 (kf)), .slice B n d]) ?_ ?_⟩; rfl; (intro wz hz; go_simp); intro wz hz; exact (hash_any kf cf B n d FN.out FND.out wz (hz.r2.less FNm.out)).mono fun e wy h => ⟨h.1, Ln.later hz h.2⟩)
             simp only [Act.put, List.setIfInBounds_toArray, List.set_cons_zero, List.set_cons_succ])
          | (refine Chain.step (oi := ?_) (v := .agg (bytes 16 (fun i => byteB (hashF (blk kf) bf n) i ^^^ byteB (hashF (blk kf) cf n) i))) ?_ (by kernel_rfl) (by kernel_rfl) (by kernel_rfl) ?_ ?_
             rotate_left 1
             · simp only [List.getElem?_toArray, List.getElem?_cons_zero, List.getElem?_cons_succ]
               with_reducible rfl
             · (refine Or.inl ⟨?_, Gives.call (f := 13) (args := #[.agg (bytes 16 (byteB (hashF (blk kf) bf n))), .agg (bytes 16 (byteB (hashF (blk kf) cf n)))]) ?_ ?_⟩; rfl; (intro wz hz; go_simp); intro wz hz; exact (xor_any (byteB (hashF (blk kf) bf n)) (byteB (hashF (blk kf) cf n)) wz).mono fun e wy h => ⟨h.1, Ln.later hz h.2⟩)
             simp only [Act.put, List.setIfInBounds_toArray, List.set_cons_zero, List.set_cons_succ])
          | (refine Chain.step (oi := ?_) (v := .slice A n c) ?_ (by kernel_rfl) (by kernel_rfl) (by kernel_rfl) ?_ ?_
             rotate_left 1
             · simp only [List.getElem?_toArray, List.getElem?_cons_zero, List.getElem?_cons_succ]
               with_reducible rfl
             · (refine Or.inl ⟨?_, Gives.val ?_⟩; rfl; intro wz _; refine slice_val (A := A) (n := n) (c := c) (N := n) ?_ ?_ FNC.out wz; rfl; rfl)
             simp only [Act.put, List.setIfInBounds_toArray, List.set_cons_zero, List.set_cons_succ])
          | (refine Chain.step (oi := ?_) (v := .slice B n d) ?_ (by kernel_rfl) (by kernel_rfl) (by kernel_rfl) ?_ ?_
             rotate_left 1
             · simp only [List.getElem?_toArray, List.getElem?_cons_zero, List.getElem?_cons_succ]
               with_reducible rfl
             · (refine Or.inl ⟨?_, Gives.val ?_⟩; rfl; intro wz _; refine slice_val (A := B) (n := m) (c := d) (N := n) ?_ ?_ FND.out wz; rfl; rfl)
             simp only [Act.put, List.setIfInBounds_toArray, List.set_cons_zero, List.set_cons_succ])
          | (refine Chain.step (oi := ?_) (v := ?_) ?_ (by kernel_rfl) (by kernel_rfl) (by kernel_rfl) ?_ ?_
             rotate_left 2
             · simp only [List.getElem?_toArray, List.getElem?_cons_zero, List.getElem?_cons_succ]
               with_reducible rfl
             · (refine Or.inl ⟨?_, Gives.val ?_⟩; rfl; intro w _hw; go_simp; with_reducible rfl)
             simp only [Act.put, List.setIfInBounds_toArray, List.set_cons_zero, List.set_cons_succ])
        refine Chain.done fun w9 hw9 => ?_
        refine wpAny_ready (rs := [18]) (by kernel_rfl) (by simp) ?_
        refine AllReady.cons (o := ?_) ?_ (fun K hK => ?_) AllReady.nil
        rotate_left 1
        · simp only [List.getElem?_toArray, List.getElem?_cons_zero, List.getElem?_cons_succ]
          with_reducible rfl
        go_simp
        refine hK _ _ ?_
        clear hK K
        refine wpAny_done (by kernel_rfl) ?_ _
        go_wp2
        go_ret
        exact ⟨rfl, hw9.bel⟩
end Go.Proofs.Ytddehfhklalfgaa
