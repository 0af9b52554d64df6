/-
  THE WALK of the reference's Box: the table of all boxes.
-/
import Derived.Test.YthjigmfooobfmabAesL4
import Derived.IntWalk
import Derived.Deep.DeepCutAuto
namespace Go.Proofs.Ythjigmfooobfmab
open Go.RowKit Gf
set_option linter.unusedSimpArgs false

attribute [local go_sem] zero51
theorem built51 : Try.prog.built 51 [] = some (bytes 256 fun _ => 0#8) := by kernel_rfl
def tabB : Bf := fun i => box8 (BitVec.ofNat 8 i)
def tabTo (m : Nat) : Bf := fun i => if i < m then tabB i else 0#8
theorem tabTo_step (m i : Nat) (_ : i < 256) : upd (tabTo m) m (tabB m) i = tabTo (m + 1) i := by
  unfold upd tabTo
  by_cases e : i = m
  · subst e; rw [if_pos rfl, if_pos (by omega)]
  · rw [if_neg e]
    by_cases e1 : i < m
    · rw [if_pos e1, if_pos (by omega)]
    · rw [if_neg e1, if_neg (by omega)]
set_option maxRecDepth 100000 in
set_option maxHeartbeats 4000000 in
theorem refTab_any (w : World) : Calls Try.prog 31 #[] w fun e w' => e = .returned (.agg (bytes 256 tabB)) ∧ Below w.heap.size w w' := by
  have H0 := H2.start w 51 256 51 256 (fun _ => 0#8) (fun _ => 0#8)
  have HZ := H0.put2 (fun _ => 0#8)
  go_enter Try.func31, Try.ntmps31
  go_upto_region 2 with (first | (with_reducible refine wpList_run rfl (build_run built51 _) ?_) | (with_reducible refine store_blk 51 rfl rfl (.tmp 1) (.tmp 3) rfl (w.heap.size + 1) 0 _ (fun _ => 0#8) rfl rfl H0.b2 (by decide) ?_))
  simp only [Act.put]
  generalize hq : (((w.alloc (.cells (bytes 256 fun _ => 0#8) 51)).alloc (.cells (bytes 256 fun _ => 0#8) 51)).setCells (w.heap.size + 1) 0 (bytes (lenOf 51) fun _ => 0#8).toList) = w1
  have HS : H2 w 51 256 w.heap.size 51 256 (w.heap.size + 1) (fun _ => 0#8) (fun _ => 0#8) w1 := hq ▸ HZ
  clear HZ H0 hq
  have HT : H2 w 51 256 w.heap.size 51 256 (w.heap.size + 1) (fun _ => 0#8) (tabTo 0) w1 := HS.as2 fun i _ => by unfold tabTo; rw [if_neg (by omega)]
  clear HS
  go_wp2
  go_loopw [2] (fun x w' => ∃ i : Nat, i ≤ 256 ∧ x = .int .i64 i ∧ H2 w 51 256 w.heap.size 51 256 (w.heap.size + 1) (fun _ => 0#8) (tabTo i) w') (fun x _ => 256 - (intOf x).toNat)
  case atStart => exact ⟨0, by omega, rfl, HT⟩
  case round =>
    clear HT
    obtain ⟨i, hi, rfl, hr⟩ := hrel
    by_cases hlt : i < 256
    · have hd : decide ((i : Int) < 256) = true := decide_eq_true (by omega)
      have zi : (i : Int) < 256 := by omega
      have zw : IntKind.u8.wrap (i : Int) = ((BitVec.ofNat 8 i).toNat : Int) := by rw [BitVec.toNat_ofNat, Nat.mod_eq_of_lt (by omega)]; simp [IntKind.wrap, IntKind.signed, IntKind.bits]; omega
      generalize hv : BitVec.ofNat 8 i = v at zw
      go_wp2_with fail
      refine (refBox_any v _).mono ?_
      rintro e w5 ⟨rfl, hb5⟩
      have HM := hr.later hb5.below
      have y1 := HM.b2.byte (i := i) hlt
      have y2 := HM.b2.frozen i
      go_wp2
      have HN := (HM.byte2 i (tabB i)).as2 (tabTo_step i)
      rw [show tabB i = box8 v by rw [← hv]; rfl] at HN
      first
        | exact ⟨⟨i + 1, by omega, by go_num, HN⟩, by simp [intOf]; omega⟩
        | (refine ⟨⟨_, _, _, _, _, _, _, _, _, ⟨i + 1, by omega, ?_, HN⟩, rfl⟩, ?_⟩
           · go_num
           · simp [intOf]; omega)
    · obtain rfl : i = 256 := by omega
      have HE : H2 w 51 256 w.heap.size 51 256 (w.heap.size + 1) (fun _ => 0#8) tabB wr := hr.as2 fun i hi => by unfold tabTo; rw [if_pos hi]
      clear hr
      go_wp2_with (first | (with_reducible refine load_blk 51 rfl rfl (.tmp 1) rfl (w.heap.size + 1) 0 rfl _ HE.b2 (by decide) ?_) | (with_reducible refine store_blk 51 rfl rfl (.tmp 0) (.tmp 13) rfl w.heap.size 0 _ _ rfl rfl HE.b1 (by decide) ?_))
      rw [part_zero]
      have HF := HE.put1 tabB
      exact bodyPost_ret (result_blk rfl rfl _ _ w.heap.size _ rfl HF.b1) rfl ⟨rfl, HF.bel⟩
end Go.Proofs.Ythjigmfooobfmab
