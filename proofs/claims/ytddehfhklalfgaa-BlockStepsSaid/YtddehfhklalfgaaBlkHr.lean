/-
  THE WALK of the reference's hash.
-/
import Derived.Test.YtddehfhklalfgaaBlkHa
namespace Go.Proofs.Ytddehfhklalfgaa
open Go.RowKit Gf
attribute [local go_sem ↓] store_rule
attribute [local go_sem] headPtr_mk blockOf_mk cellsOf_mk is16_bytes rowB_drew rowOf_drew rowB_drewN rowOf_drewN eq_blk

theorem hash_refMul (h bf : Bf) (n k : Nat) (w : World) :
    Calls Try.prog 12 #[.agg (bytes 16 (fun i => byteB (hashTo (blk h) bf n k) i ^^^ chunk bf n k i)), .agg (bytes 16 h)] w fun e w' => e = .returned (.agg (bytes 16 (byteB (hashTo (blk h) bf n (k + 1))))) ∧ Below w.heap.size w w' := by
  have := refMul_any (fun i => byteB (hashTo (blk h) bf n k) i ^^^ chunk bf n k i) h w
  rw [blk_xor (byteB (hashTo (blk h) bf n k)) (chunk bf n k), blk_byteB] at this
  exact this
structure XRel (w : World) (h bf : Bf) (n k gx j : Nat) (w' : World) : Prop where
  r : HashRel w h bf n k w'
  x : Blk w' gx 23 (bytes 16 fun i => if i < j then chunk bf n k i else 0#8)
  lo : w.heap.size + 1 + 1 < gx

theorem XRel.step {w w1 : World} {h bf : Bf} {n k gx j : Nat} (H : XRel w h bf n k gx j w1) (hj : j < 16) (hjn : 16 * k + j < n) :
    XRel w h bf n k gx (j + 1) (w1.setCell ⟨gx, j, none⟩ (.int .u8 (bf (16 * k + j)).toNat)) := by
  have hlo := H.lo
  refine ⟨⟨H.r.a.far (by simp; omega) _, H.r.c.far (by simp; omega) _, H.r.y.far (by simp; omega) _, H.r.bel.setCell (by simp; omega) _⟩, ?_, H.lo⟩
  have := H.x.set_ j (.int .u8 (bf (16 * k + j)).toNat)
  rw [bytes_set] at this
  refine (show bytes 16 (fun i => if i < j + 1 then chunk bf n k i else 0#8) = bytes 16 (upd (fun i => if i < j then chunk bf n k i else 0#8) j (bf (16 * k + j))) from bytes_ext fun i _ => ?_) ▸ this
  unfold upd
  by_cases e : i = j
  · subst e
    rw [if_pos rfl, if_pos (by omega)]
    unfold chunk
    rw [if_pos hjn]
  · rw [if_neg e]
    by_cases e2 : i < j
    · rw [if_pos (show i < j + 1 by omega)]; exact (if_pos e2).symm
    · rw [if_neg (show ¬ i < j + 1 by omega)]; exact (if_neg e2).symm
set_option maxRecDepth 100000 in
set_option maxHeartbeats 2000000 in
theorem refHash_some (h bf : Bf) (ad : Addr) (n c : Nat) (hn : n ≤ 4096) (w : World) (hb : ad.block < w.heap.size) (hr : ∀ j, j < n → w.cell? (ad.add j) = some (.int .u8 (bf j).toNat)) :
    Calls Try.prog 16 #[.agg (bytes 16 h), .slice (some ad) n c] w fun e w' => e = .returned (.agg (bytes 16 (byteB (hashF (blk h) bf n)))) ∧ Below w.heap.size w w' := by
  have H0 := HashRel.start w h bf n
  have HR := Lib.hid hr
  clear hr
  go_enter Try.func16, Try.ntmps16
  go_wp2
  go_loopw [6, 7, 8] (fun i _ _ w' => ∃ k : Nat, 16 * k ≤ n + 15 ∧ i = .int .i64 (16 * (k : Int)) ∧ HashRel w h bf n k w') (fun i _ _ _ => n + 16 - (intOf i).toNat)
  case atStart => exact ⟨0, by omega, rfl, H0⟩
  case round =>
    clear H0
    obtain ⟨k, hk, rfl, hR⟩ := hrel
    obtain ⟨wo, rfl⟩ : ∃ wo : World, wo = wr := ⟨_, rfl⟩
    by_cases hlt : 16 * k < n
    · have hdec : decide (16 * (k : Int) < (n : Int)) = true := by simp; omega
      go_wp2
      go_loopw [8] (fun i w' => ∃ j : Nat, j ≤ 16 ∧ i = .int .i64 j ∧ XRel w h bf n k wo.heap.size j w') (fun i _ => 16 - (intOf i).toNat)
      case atStart => exact ⟨0, by omega, rfl, ⟨hR.later ((Below.refl _ _).alloc (Nat.le_refl _) _), Blk.new wo 23 _, by have := hR.y.lt; omega⟩⟩
      case round =>
        obtain ⟨j, hj, rfl, hX⟩ := hrel
        by_cases hgo : j < 16 ∧ 16 * k + j < n
        · obtain ⟨hj16, hjn⟩ := hgo
          have hc1 := HR.out (16 * k + j) hjn
          have hc2 : wr.cell? (ad.add (16 * k + j)) = some (.int .u8 (bf (16 * k + j)).toNat) := (hX.r.bel.cell (by rw [block_add]; exact hb)).trans hc1
          have hf := hX.x.frozen j
          have hx1 : wr.cell? ⟨wo.heap.size, j, none⟩ = some (.int .u8 0) := by rw [hX.x.cell, bytes_get _ _ _ hj16, if_neg (by omega)]; rfl
          clear hc1
          have d1 : decide ((j : Int) < 16) = true := by simp; omega
          have d2 : decide (16 * (k : Int) + (j : Int) < (n : Int)) = true := by simp; omega
          have e1 : (16 * (k : Int) + (j : Int)).toNat = 16 * k + j := by omega
          have e2 : (0 : Int) ≤ 16 * (k : Int) + (j : Int) := by omega
          have e3 : 16 * (k : Int) + (j : Int) < (n : Int) := by omega
          go_wp2
          exact ⟨⟨j + 1, by omega, by go_num, hX.step hj16 hjn⟩, by simp [intOf]; omega⟩
        · have hM : HashMid w h bf n k wo.heap.size wr := by
            refine ⟨hX.r, ?_, hX.lo⟩
            have e : bytes 16 (fun i => if i < j then chunk bf n k i else 0#8) = bytes 16 (chunk bf n k) := bytes_ext fun i hi => by
              by_cases h1 : i < j
              · rw [if_pos h1]
              · rw [if_neg h1]; unfold chunk; rw [if_neg (by omega)]
            rw [← e]; exact hX.x
          have hexit : (decide ((j : Int) < 16) = false) ∨ (decide ((j : Int) < 16) = true ∧ decide (16 * (k : Int) + (j : Int) < (n : Int)) = false) := by
            by_cases h1 : j < 16
            · exact .inr ⟨by simp; omega, by simp; omega⟩
            · exact .inl (by simp; omega)
          clear hX
          rcases hexit with d1 | ⟨d1, d2⟩
          all_goals
            go_wp2
            refine wp_region_steady (HashMid w h bf n k wo.heap.size) [0, 1, 2, 3, 4] (by kernel_rfl) (by kernel_rfl) (hM.later (Below.refl _ _).drew) ?_
            repeat first
              | (refine Chain.step (oi := ?_) (v := ?_) ?_ (by kernel_rfl) (by kernel_rfl) (by kernel_rfl) ?_ ?_
                 rotate_left 2
                 · simp only [List.getElem?_toArray, List.getElem?_cons_zero, List.getElem?_cons_succ]
                   with_reducible rfl
                 · (refine Or.inl ⟨?_, Gives.val ?_⟩; rfl; intro w1 hw1; refine load_val (S := HashMid w h bf n k wo.heap.size) (g := w.heap.size + 1 + 1) (f := byteB (hashTo (blk h) bf n k)) ?_ (fun _ q => q.r.y) w1 hw1; rfl)
                 simp only [Act.put, List.setIfInBounds_toArray, List.set_cons_zero, List.set_cons_succ])
              | (refine Chain.step (oi := ?_) (v := ?_) ?_ (by kernel_rfl) (by kernel_rfl) (by kernel_rfl) ?_ ?_
                 rotate_left 2
                 · simp only [List.getElem?_toArray, List.getElem?_cons_zero, List.getElem?_cons_succ]
                   with_reducible rfl
                 · (refine Or.inl ⟨?_, Gives.val ?_⟩; rfl; intro w1 hw1; refine load_val (S := HashMid w h bf n k wo.heap.size) (g := wo.heap.size) (f := chunk bf n k) ?_ (fun _ q => q.x) w1 hw1; rfl)
                 simp only [Act.put, List.setIfInBounds_toArray, List.set_cons_zero, List.set_cons_succ])
              | (refine Chain.step (oi := ?_) (v := ?_) ?_ (by kernel_rfl) (by kernel_rfl) (by kernel_rfl) ?_ ?_
                 rotate_left 2
                 · simp only [List.getElem?_toArray, List.getElem?_cons_zero, List.getElem?_cons_succ]
                   with_reducible rfl
                 · (refine Or.inl ⟨?_, Gives.val ?_⟩; rfl; intro w1 hw1; refine load_val (S := HashMid w h bf n k wo.heap.size) (g := w.heap.size) (f := h) ?_ (fun _ q => q.r.a) w1 hw1; rfl)
                 simp only [Act.put, List.setIfInBounds_toArray, List.set_cons_zero, List.set_cons_succ])
              | (refine Chain.step (oi := ?_) (v := .agg (bytes 16 (fun i => byteB (hashTo (blk h) bf n k) i ^^^ chunk bf n k i))) ?_ (by kernel_rfl) (by kernel_rfl) (by kernel_rfl) ?_ ?_
                 rotate_left 1
                 · simp only [List.getElem?_toArray, List.getElem?_cons_zero, List.getElem?_cons_succ]
                   with_reducible rfl
                 · (refine Or.inl ⟨?_, Gives.call (f := 14) (args := #[.agg (bytes 16 (byteB (hashTo (blk h) bf n k))), .agg (bytes 16 (chunk bf n k))]) ?_ ?_⟩; rfl; (intro w1 hw1; go_simp); intro w1 hw1; exact (refXor_any (byteB (hashTo (blk h) bf n k)) (chunk bf n k) w1).mono fun e w2 q => ⟨q.1, HashMid.later hw1 q.2⟩)
                 simp only [Act.put, List.setIfInBounds_toArray, List.set_cons_zero, List.set_cons_succ])
              | (refine Chain.step (oi := ?_) (v := .agg (bytes 16 (byteB (hashTo (blk h) bf n (k + 1))))) ?_ (by kernel_rfl) (by kernel_rfl) (by kernel_rfl) ?_ ?_
                 rotate_left 1
                 · simp only [List.getElem?_toArray, List.getElem?_cons_zero, List.getElem?_cons_succ]
                   with_reducible rfl
                 · (refine Or.inl ⟨?_, Gives.call (f := 12) (args := #[.agg (bytes 16 (fun i => byteB (hashTo (blk h) bf n k) i ^^^ chunk bf n k i)), .agg (bytes 16 h)]) ?_ ?_⟩; rfl; (intro w1 hw1; go_simp); intro w1 hw1; exact (hash_refMul h bf n k w1).mono fun e w2 q => ⟨q.1, HashMid.later hw1 q.2⟩)
                 simp only [Act.put, List.setIfInBounds_toArray, List.set_cons_zero, List.set_cons_succ])
            refine Chain.done fun w9 hw9 => ?_
            have hB9 := hw9.r.y.rowB
            refine wpAny_ready (rs := [5]) (by kernel_rfl) (by simp) ?_
            refine AllReady.cons (o := ?_) ?_ (fun K hK => ?_) AllReady.nil
            rotate_left 1
            · simp only [List.getElem?_toArray, List.getElem?_cons_zero, List.getElem?_cons_succ]
              with_reducible rfl
            go_simp
            refine hK _ _ ?_
            clear hK K
            refine wpAny_done (by kernel_rfl) ?_ _

            go_wp2
            exact ⟨⟨k + 1, by omega, valu_i64 (by omega), ⟨hw9.r.a.row_other (by omega) _, hw9.r.c.row_other (by omega) _, hw9.r.y.row_same _, below_setRow hw9.r.bel (by omega) _⟩⟩, by simp [intOf]; omega⟩
    · have hK : k = (n + 15) / 16 := by omega
      have e : hashTo (blk h) bf n k = hashF (blk h) bf n := by rw [hK]; rfl
      have hy := hR.y
      rw [e] at hy
      clear hK e
      go_wp2_with (first | (with_reducible refine load_blk rfl (.tmp 5) rfl (w.heap.size + 1 + 1) rfl _ hy ?_) | (with_reducible refine store_blk rfl (.tmp 4) (.tmp 42) rfl (w.heap.size + 1) _ _ rfl rfl hR.c ?_))
      exact bodyPost_ret (result_blk rfl _ _ (w.heap.size + 1) _ rfl (hR.c.row_same _)) rfl ⟨rfl, below_setRow hR.bel (by omega) _⟩

set_option maxRecDepth 100000 in
set_option maxHeartbeats 2000000 in
theorem refHash_none (h bf : Bf) (A : Option Addr) (c : Nat) (w : World) :
    Calls Try.prog 16 #[.agg (bytes 16 h), .slice A 0 c] w fun e w' => e = .returned (.agg (bytes 16 (byteB (hashF (blk h) bf 0)))) ∧ Below w.heap.size w w' := by
  have H0 := HashRel.start w h bf 0
  go_enter Try.func16, Try.ntmps16
  go_wp2_with fail
  refine wp_loop_rounds 1 ?_
  rw [rounds_succ]
  go_wp2_with (first | (with_reducible refine load_blk rfl (.tmp 5) rfl (w.heap.size + 1 + 1) rfl _ H0.y ?_) | (with_reducible refine store_blk rfl (.tmp 4) (.tmp 42) rfl (w.heap.size + 1) _ _ rfl rfl H0.c ?_))
  exact bodyPost_ret (result_blk rfl _ _ (w.heap.size + 1) _ rfl (H0.c.row_same _)) rfl ⟨rfl, below_setRow H0.bel (by omega) _⟩

theorem refHash_any (h bf : Bf) (A : Option Addr) (n c : Nat) (hn : n ≤ 4096) (w : World) (hr : RdB w A n bf) :
    Calls Try.prog 16 #[.agg (bytes 16 h), .slice A n c] w fun e w' => e = .returned (.agg (bytes 16 (byteB (hashF (blk h) bf n)))) ∧ Below w.heap.size w w' := by
  by_cases h0 : 0 < n
  · obtain ⟨ad, rfl, hb, hcell⟩ := hr h0
    exact refHash_some h bf ad n c hn w hb hcell
  · obtain rfl : n = 0 := by omega
    exact refHash_none h bf A c w
end Go.Proofs.Ytddehfhklalfgaa
