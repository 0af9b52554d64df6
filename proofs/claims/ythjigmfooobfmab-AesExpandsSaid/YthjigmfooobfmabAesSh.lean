/-
  THE WALK of the statements' head of layer 2: the document's example.
-/
import Derived.Test.YthjigmfooobfmabAesE
import Derived.IntWalk
import Derived.Deep.DeepCutAuto
namespace Go.Proofs.Ythjigmfooobfmab
open Go.RowKit Gf
set_option linter.unusedSimpArgs false

attribute [local go_sem] eq_blk
abbrev zero32c : Array Value := #[.int .u8 0, .int .u8 0, .int .u8 0, .int .u8 0, .int .u8 0, .int .u8 0, .int .u8 0, .int .u8 0, .int .u8 0, .int .u8 0, .int .u8 0, .int .u8 0, .int .u8 0, .int .u8 0, .int .u8 0, .int .u8 0, .int .u8 0, .int .u8 0, .int .u8 0, .int .u8 0, .int .u8 0, .int .u8 0, .int .u8 0, .int .u8 0, .int .u8 0, .int .u8 0, .int .u8 0, .int .u8 0, .int .u8 0, .int .u8 0, .int .u8 0, .int .u8 0]
set_option maxRecDepth 100000 in
theorem built31 : Try.prog.built 31 [] = some (bytes 32 fun _ => 0#8) := by kernel_rfl
theorem built23 : Try.prog.built 23 [] = some (bytes 16 fun _ => 0#8) := by kernel_rfl
theorem build_run {ρ : Operand → Value} {d : Option Tmp} {ty t : TypeId} {pos : String} {af : Array Edge} {gd : Option (Nat × Bool)} {cs : Array Value} (hb : Try.prog.built t [] = some cs) (w : World) :
    (execOp ρ { dst := d, op := .build t #[], type := ty, pos := pos, after := af, guard := gd }).run Try.prog w = .ok (.value (.agg cs)) w := by
  unfold execOp
  simp [run_build w t _ _ hb]
theorem lit_ex : bytes 16 (atS 14) = #[.int .u8 142, .int .u8 162, .int .u8 183, .int .u8 202, .int .u8 81, .int .u8 103, .int .u8 69, .int .u8 191, .int .u8 234, .int .u8 252, .int .u8 73, .int .u8 144, .int .u8 75, .int .u8 73, .int .u8 96, .int .u8 137] := by kernel_rfl
theorem eq_ex (w : World) : (Op.equalIn 10000 23 (.agg (bytes 16 (atS 14))) (.agg #[.int .u8 142, .int .u8 162, .int .u8 183, .int .u8 202, .int .u8 81, .int .u8 103, .int .u8 69, .int .u8 191, .int .u8 234, .int .u8 252, .int .u8 73, .int .u8 144, .int .u8 75, .int .u8 73, .int .u8 96, .int .u8 137])).run Try.prog w = .ok true w := by
  have h := eq_blk w (atS 14) (atS 14)
  rw [sameB_of (fun _ _ => rfl)] at h
  rwa [lit_ex] at h ⊢
structure Sh (w : World) (g1 g2 i : Nat) (w' : World) : Prop where
  k : Blk w' g1 31 (bytes 32 fun k => if k < i then exK k else 0#8)
  b : Blk w' g2 23 (bytes 16 fun j => if 2 * j < i then exB j else 0#8)
  bel : Below w.heap.size w w'
  lt : g1 < g2
  le : w.heap.size ≤ g1
theorem Sh.step {w w1 : World} {g1 g2 i : Nat} (H : Sh w g1 g2 i w1) (hi : i < 32) : Sh w g1 g2 (i + 1) ((w1.setCell ⟨g1, i, none⟩ (.int .u8 (i : Int))).setCell ⟨g2, i / 2, none⟩ (.int .u8 (17 * ((i : Int) / 2)))) := by
  have hlt := H.lt
  have hle := H.le
  have e1 : ((i : Int)) = ((exK i).toNat : Int) := by unfold exK; rw [BitVec.toNat_ofNat]; omega
  have e2 : (17 * ((i : Int) / 2)) = ((exB (i / 2)).toNat : Int) := by unfold exB; rw [BitVec.toNat_ofNat]; omega
  refine ⟨?_, ?_, (H.bel.setCell hle _).setCell (Nat.le_trans hle (Nat.le_of_lt hlt)) _, hlt, hle⟩
  · have := H.k.set_ i (.int .u8 (exK i).toNat)
    rw [bytes_set] at this
    rw [e1]
    refine Blk.far ?_ (by simp <;> omega) _
    refine (show bytes 32 _ = bytes 32 _ from bytes_ext fun k _ => ?_) ▸ this
    unfold upd
    by_cases e : k = i
    · subst e; rw [if_pos rfl, if_pos (by omega)]
    · rw [if_neg e]
      dsimp only
      by_cases h : k < i
      · rw [if_pos h, if_pos (by omega)]
      · rw [if_neg h, if_neg (by omega)]
  · have := (H.b.far (p := ⟨g1, i, none⟩) (by simp <;> omega) (.int .u8 (i : Int))).set_ (i / 2) (.int .u8 (exB (i / 2)).toNat)
    rw [bytes_set] at this
    rw [e2]
    refine (show bytes 16 _ = bytes 16 _ from bytes_ext fun k _ => ?_) ▸ this
    unfold upd
    by_cases e : k = i / 2
    · subst e; rw [if_pos rfl, if_pos (by omega)]
    · rw [if_neg e]
      dsimp only
      by_cases h : 2 * k < i
      · rw [if_pos h, if_pos (by omega)]
      · rw [if_neg h, if_neg (by omega)]
set_option maxRecDepth 100000 in
set_option maxHeartbeats 4000000 in
theorem shown_any (w : World) : Calls Try.prog 15 #[] w fun e w' => e = .returned (.bool true) ∧ Below w.heap.size w w' := by
  have hng := no_guard
  go_enter Try.func15, Try.ntmps15
  have HZ : Blk (w.alloc (.cells zero32c 31)) w.heap.size 31 (bytes 32 fun _ => 0#8) := Blk.new w 31 _
  have HZ2 : Blk ((w.alloc (.cells zero32c 31)).setCells w.heap.size 0 (bytes (lenOf 31) fun _ => 0#8).toList) w.heap.size 31 (bytes 32 fun _ => 0#8) := (HZ.mid 0 32 _).whole
  go_upto_region 2 with (first | (with_reducible refine wpList_run rfl (build_run built31 _) ?_) | (with_reducible refine store_blk 31 rfl rfl (.tmp 1) (.tmp 4) rfl w.heap.size 0 _ (fun _ => 0#8) rfl rfl HZ (by decide) ?_))
  simp only [Act.put]
  have HB : Below w.heap.size w ((w.alloc (.cells zero32c 31)).setCells w.heap.size 0 (bytes (lenOf 31) fun _ => 0#8).toList) := setCells_below _ _ _ ((Below.refl _ _).alloc (Nat.le_refl _) _) (Nat.le_refl _)
  obtain ⟨g1, hg1⟩ : ∃ g, g = w.heap.size := ⟨_, rfl⟩
  have hle : w.heap.size ≤ g1 := Nat.le_of_eq hg1.symm
  simp only [← hg1] at HZ2 ⊢
  have HB' : Below w.heap.size w ((w.alloc (.cells zero32c 31)).setCells g1 0 (bytes (lenOf 31) fun _ => 0#8).toList) := by rw [hg1]; exact HB
  generalize ((w.alloc (.cells zero32c 31)).setCells g1 0 (bytes (lenOf 31) fun _ => 0#8).toList) = w1 at HZ2 HB' ⊢
  clear HB HZ hg1
  have HY : Blk (w1.alloc (.cells zero16 23)) w1.heap.size 23 (bytes 16 fun _ => 0#8) := Blk.new w1 23 _
  have HY2 : Blk ((w1.alloc (.cells zero16 23)).setCells w1.heap.size 0 (bytes (lenOf 23) fun _ => 0#8).toList) w1.heap.size 23 (bytes 16 fun _ => 0#8) := (HY.mid 0 16 _).whole
  have hlt1 := HZ2.lt
  have HX2 : Blk ((w1.alloc (.cells zero16 23)).setCells w1.heap.size 0 (bytes (lenOf 23) fun _ => 0#8).toList) g1 31 (bytes 32 fun _ => 0#8) := (HZ2.alloc _).mid_other (by omega) _ _
  have HB2 : Below w.heap.size w ((w1.alloc (.cells zero16 23)).setCells w1.heap.size 0 (bytes (lenOf 23) fun _ => 0#8).toList) := setCells_below _ _ _ (HB'.alloc HB'.size _) HB'.size
  go_upto_region 3 with (first | (with_reducible refine wpList_run rfl (build_run built23 _) ?_) | (with_reducible refine store_blk 23 rfl rfl (.tmp 2) (.tmp 5) rfl w1.heap.size 0 _ (fun _ => 0#8) rfl rfl HY (by decide) ?_))
  simp only [Act.put]
  obtain ⟨g2, hg2⟩ : ∃ g, g = w1.heap.size := ⟨_, rfl⟩
  simp only [← hg2] at HY2 HX2 HB2 hlt1 ⊢
  generalize ((w1.alloc (.cells zero16 23)).setCells g2 0 (bytes (lenOf 23) fun _ => 0#8).toList) = w2 at HY2 HX2 HB2 ⊢
  clear HY HB' HZ2 hg2
  have HS : Sh w g1 g2 0 w2 := by
    refine ⟨?_, ?_, HB2, hlt1, hle⟩
    · refine (show bytes 32 _ = bytes 32 _ from bytes_ext fun k _ => ?_) ▸ HX2
      rw [if_neg (by omega)]
    · refine (show bytes 16 _ = bytes 16 _ from bytes_ext fun k _ => ?_) ▸ HY2
      rw [if_neg (by omega)]
  clear HY2 HX2 HB2
  go_wp2
  go_loopw [3] (fun x w' => ∃ i : Nat, i ≤ 32 ∧ x = .int .i64 i ∧ Sh w g1 g2 i w') (fun x _ => 32 - (intOf x).toNat)
  case atStart => exact ⟨0, by omega, rfl, HS⟩
  case round =>
    clear HS
    obtain ⟨i, hi, rfl, hr⟩ := hrel
    by_cases hlt : i < 32
    · have hd : decide ((i : Int) < 32) = true := decide_eq_true (by omega)
      have y1 := hr.k.byte (i := i) (by omega)
      have y2 := hr.k.frozen i
      have y3 := hr.b.byte (i := i / 2) (by omega)
      have y4 := hr.b.frozen (i / 2)
      have hne := hr.lt
      go_wp2
      exact ⟨⟨i + 1, by omega, by go_num, hr.step hlt⟩, by simp [intOf]; omega⟩
    · obtain rfl : i = 32 := by omega
      have HK : Blk wr g1 31 (bytes 32 exK) := by
        refine (show bytes 32 _ = bytes 32 _ from bytes_ext fun k hk => ?_) ▸ hr.k
        rw [if_pos hk]
      have HB : Blk wr g2 23 (bytes 16 exB) := by
        refine (show bytes 16 _ = bytes 16 _ from bytes_ext fun k hk => ?_) ▸ hr.b
        rw [if_pos (by omega)]
      have hb := hr.bel
      clear hr
      go_wp2_with (first | (with_reducible refine load_blk 31 rfl rfl (.tmp 1) rfl g1 0 rfl _ HK (by decide) ?_) | (with_reducible refine load_blk 23 rfl rfl (.tmp 2) rfl g2 0 rfl _ HB (by decide) ?_))
      rw [part_zero, part_zero]
      refine (encrypt_any exK exB _).mono ?_
      rintro e w3 ⟨rfl, hb3⟩
      rw [show bytes 16 (encB exK exB) = bytes 16 (atS 14) from bytes_ext encB_ex]
      have heq := eq_ex
      generalize bytes 16 (atS 14) = q at heq ⊢
      go_wp2_with fail
      go_ret
      exact ⟨rfl, hb.trans (hb3.mono hb.size)⟩
end Go.Proofs.Ythjigmfooobfmab
