/-
  THE WALK of aes.Encrypt.
-/
import Derived.Test.YthjigmfooobfmabAesW4
import Derived.IntWalk
import Derived.Deep.DeepCutAuto
namespace Go.Proofs.Ythjigmfooobfmab
open Go.RowKit Gf
set_option linter.unusedSimpArgs false

attribute [local go_sem] zero32 zero44 zero51
/-- The block behind i rounds. -/
def encS (kf bf : Bf) : Nat → Bf
  | 0 => fun j => bf j ^^^ expB kf j
  | i + 1 => rndB (encS kf bf i) (part (expB kf) ((i + 1) * 16)) (decide (i = 13))
def encB (kf bf : Bf) : Bf := encS kf bf 14
structure Ea (w : World) (kf bf : Bf) (w' : World) : Prop where
  k : Blk w' w.heap.size 31 (bytes 32 kf)
  b : Blk w' (w.heap.size + 1) 23 (bytes 16 bf)
  c : Blk w' (w.heap.size + 1 + 1) 23 (bytes 16 fun _ => 0#8)
  bel : Below w.heap.size w w'
theorem Ea.later {w w1 w2 : World} {kf bf : Bf} (H : Ea w kf bf w1) (hb : Below w1.heap.size w1 w2) : Ea w kf bf w2 :=
  ⟨H.k.below hb H.k.lt, H.b.below hb H.b.lt, H.c.below hb H.c.lt, H.bel.trans (hb.mono H.bel.size)⟩
theorem Ea.start (w : World) (kf bf : Bf) : Ea w kf bf (((w.alloc (.cells (bytes 32 kf) 31)).alloc (.cells (bytes 16 bf) 23)).alloc (.cells zero16 23)) := by
  have s1 : (w.alloc (.cells (bytes 32 kf) 31)).heap.size = w.heap.size + 1 := by simp
  have s2 : ((w.alloc (.cells (bytes 32 kf) 31)).alloc (.cells (bytes 16 bf) 23)).heap.size = w.heap.size + 1 + 1 := by simp
  refine ⟨((Blk.new w 31 _).alloc _).alloc _, ?_, ?_, (((Below.refl _ _).alloc (Nat.le_refl _) _).alloc (by simp) _).alloc (by simp <;> omega) _⟩
  · rw [← s1]; exact (Blk.new _ 23 _).alloc _
  · rw [← s2]; exact Blk.new _ 23 _
/-- The state: b's block is sf, the key's blocks lie in ge. -/
structure En (w : World) (kf sf : Bf) (ge : Nat) (w' : World) : Prop where
  b : Blk w' (w.heap.size + 1) 23 (bytes 16 sf)
  c : Blk w' (w.heap.size + 1 + 1) 23 (bytes 16 fun _ => 0#8)
  x : Blk w' ge 32 (bytes 240 (expB kf))
  bel : Below w.heap.size w w'
  lo : w.heap.size + 1 + 1 < ge
theorem En.later {w w1 w2 : World} {kf sf : Bf} {ge : Nat} (H : En w kf sf ge w1) (hb : Below w1.heap.size w1 w2) : En w kf sf ge w2 :=
  ⟨H.b.below hb H.b.lt, H.c.below hb H.c.lt, H.x.below hb H.x.lt, H.bel.trans (hb.mono H.bel.size), H.lo⟩
theorem load_all {S : World → Prop} {ρ : Operand → Value} {d : Option Tmp} {x : Operand} {ty ty' : TypeId} {pos : String} {af : Array Edge} {gd : Option (Nat × Bool)} {g : Nat} {t : TypeId} {f : Bf}
    (ha : isArr ty = true) (hx : ρ x = .pointer (some ⟨g, 0, none⟩)) (hS : ∀ w, S w → Blk w g t (bytes (lenOf ty) f)) (w : World) (hw : S w) :
    (execOp ρ { dst := d, op := .load ty x, type := ty', pos := pos, after := af, guard := gd }).run Try.prog w = .ok (.value (.agg (bytes (lenOf ty) f))) w := by
  have h := load_val (S := S) (d := d) (ty' := ty') (pos := pos) (af := af) (gd := gd) (f := f) ha hx (by rw [Nat.zero_add]; exact Nat.le_refl _) hS w hw
  rwa [part_zero] at h
def xorP (kf bf : Bf) (i : Nat) : Bf := fun j => if j < i then bf j ^^^ expB kf j else bf j
theorem En.at_i {w w1 : World} {kf bf : Bf} {ge i : Nat} (H : En w kf (xorP kf bf i) ge w1) (hi : i < 16) : w1.cell? ⟨w.heap.size + 1, i, none⟩ = some (.int .u8 (bf i).toNat) := by
  rw [H.b.byte hi]
  unfold xorP
  rw [if_neg (by omega)]
theorem En.step {w w1 : World} {kf bf : Bf} {ge i : Nat} (H : En w kf (xorP kf bf i) ge w1) (_hi : i < 16) : En w kf (xorP kf bf (i + 1)) ge (w1.setCell ⟨w.heap.size + 1, i, none⟩ (.int .u8 (bf i ^^^ expB kf i).toNat)) := by
  have hlo := H.lo
  refine ⟨?_, H.c.far (by simp) _, H.x.far (by simp <;> omega) _, H.bel.setCell (by simp) _, hlo⟩
  have := H.b.set_ i (.int .u8 (bf i ^^^ expB kf i).toNat)
  rw [bytes_set] at this
  refine (show bytes 16 _ = bytes 16 _ from bytes_ext fun j _ => ?_) ▸ this
  unfold upd xorP
  by_cases e : j = i
  · subst e
    rw [if_pos rfl, if_pos (by omega)]
  · rw [if_neg e]
    by_cases e1 : j < i
    · rw [if_pos e1, if_pos (by omega)]
    · rw [if_neg e1, if_neg (by omega)]
set_option maxRecDepth 100000 in
set_option maxHeartbeats 4000000 in
theorem encrypt_any (kf bf : Bf) (w : World) : Calls Try.prog 20 #[.agg (bytes 32 kf), .agg (bytes 16 bf)] w fun e w' => e = .returned (.agg (bytes 16 (encB kf bf))) ∧ Below w.heap.size w w' := by
  have H0 := Ea.start w kf bf
  go_enter Try.func20, Try.ntmps20
  go_wp2_with (with_reducible refine load_blk 31 rfl rfl (.tmp 2) rfl w.heap.size 0 rfl _ H0.k (by decide) ?_)
  rw [part_zero]
  refine (expand_any kf _).mono ?_
  rintro e w1 ⟨rfl, hb1⟩
  have H1 := H0.later hb1
  have HZ : Blk (w1.alloc (.cells (bytes 240 fun _ => 0#8) 32)) w1.heap.size 32 (bytes 240 fun _ => 0#8) := Blk.new w1 32 _
  have HX : Blk ((w1.alloc (.cells (bytes 240 fun _ => 0#8) 32)).setCells w1.heap.size 0 (bytes (lenOf 32) (expB kf)).toList) w1.heap.size 32 (bytes 240 (expB kf)) := (HZ.mid 0 240 _).whole
  clear H0 hb1
  go_upto_region 2 with (with_reducible refine store_blk 32 rfl rfl (.tmp 5) (.tmp 9) rfl w1.heap.size 0 _ (expB kf) rfl rfl HZ (by decide) ?_)
  simp only [Act.put]
  obtain ⟨ge, hge⟩ : ∃ g, g = w1.heap.size := ⟨_, rfl⟩
  have hlo : w.heap.size + 1 + 1 < w1.heap.size := H1.c.lt
  have H2 := H1.later ((Below.refl _ _).alloc (Nat.le_refl _) (.cells (bytes 240 fun _ => 0#8) 32))
  have HQ : En w kf bf w1.heap.size ((w1.alloc (.cells (bytes 240 fun _ => 0#8) 32)).setCells w1.heap.size 0 (bytes (lenOf 32) (expB kf)).toList) :=
    ⟨H2.b.mid_other (by omega) _ _, H2.c.mid_other (by omega) _ _, HX, setCells_below _ _ _ H2.bel (by omega), hlo⟩
  simp only [← hge] at HQ ⊢
  generalize ((w1.alloc (.cells (bytes 240 fun _ => 0#8) 32)).setCells ge 0 (bytes (lenOf 32) (expB kf)).toList) = wq at HQ ⊢
  clear HX HZ H1 H2 hlo hge
  have HE : En w kf (xorP kf bf 0) ge wq := by
    have e : bytes 16 (xorP kf bf 0) = bytes 16 bf := bytes_ext fun j _ => by unfold xorP; rw [if_neg (by omega)]
    exact ⟨by rw [e]; exact HQ.b, HQ.c, HQ.x, HQ.bel, HQ.lo⟩
  clear HQ
  go_wp2
  go_loopw [6, 10] (fun _ x w' => ∃ i : Nat, i ≤ 16 ∧ x = .int .i64 i ∧ En w kf (xorP kf bf i) ge w') (fun _ x _ => 16 - (intOf x).toNat)
  case atStart => exact ⟨0, by omega, rfl, HE⟩
  case round =>
    clear HE
    obtain ⟨i, hi, rfl, hr⟩ := hrel
    by_cases hlt : i < 16
    · have hd : decide ((i : Int) < 16) = true := decide_eq_true (by omega)
      go_wp2
      have z3 : (i : Int) < 16 := by omega
      have x1 := bits_xor8 (bf i) (expB kf i)
      simp only [BitVec.toNat_xor] at x1
      refine wp_region_begin (by kernel_rfl) ?_
      refine wpAny_steady (En w kf (xorP kf bf i) ge) [0, 1, 2, 3, 4, 5, 6, 7, 8] (by kernel_rfl) (hr.later (Below.refl _ _).drew) ?_
      repeat first
        | (refine Chain.step (oi := ?_) (v := ?_) ?_ (by kernel_rfl) (by kernel_rfl) (by kernel_rfl) ?_ ?_
           rotate_left 2
           · simp only [List.getElem?_toArray, List.getElem?_cons_zero, List.getElem?_cons_succ]
             with_reducible rfl
           · (refine Or.inl ⟨?_, Gives.val ?_⟩; rfl; intro wz hz; have q1 := hz.at_i hlt; have q2 := hz.x.byte (i := i) (by omega); go_simp; with_reducible rfl)
           simp only [Act.put, List.setIfInBounds_toArray, List.set_cons_zero, List.set_cons_succ])
      refine Chain.done fun w9 hw9 => ?_
      have y1 := hw9.at_i hlt
      have y2 := hw9.b.frozen i
      refine wpAny_ready (rs := [9]) (by kernel_rfl) (by simp) ?_
      refine AllReady.cons (o := ?_) ?_ (fun K hK => ?_) AllReady.nil
      rotate_left 1
      · simp only [List.getElem?_toArray, List.getElem?_cons_zero, List.getElem?_cons_succ]
        with_reducible rfl
      go_simp
      refine hK _ _ ?_
      clear hK K
      refine wpAny_done (by kernel_rfl) ?_ _
      go_wp2
      exact ⟨⟨i + 1, by omega, by go_num, hw9.step hlt⟩, by simp [intOf]; omega⟩
    · obtain rfl : i = 16 := by omega
      have HE : En w kf (encS kf bf 0) ge wr := by
        have e : bytes 16 (xorP kf bf 16) = bytes 16 (encS kf bf 0) := bytes_ext fun j hj => by unfold xorP; rw [if_pos hj]; rfl
        exact ⟨by rw [← e]; exact hr.b, hr.c, hr.x, hr.bel, hr.lo⟩
      clear hr
      go_wp2
      go_loopw [7, 23] (fun _ x w' => ∃ i : Nat, i ≤ 14 ∧ x = .int .i64 i ∧ En w kf (encS kf bf i) ge w') (fun _ x _ => 14 - (intOf x).toNat)
      case atStart => exact ⟨0, by omega, rfl, HE⟩
      case round =>
        clear HE
        obtain ⟨i, hi, rfl, hr⟩ := hrel
        by_cases hlt : i < 14
        · have hd : decide ((i : Int) < 14) = true := decide_eq_true (by omega)
          go_wp2
          have z1 : IntKind.i64.wrap ((i : Int) + 1) = (i : Int) + 1 := IntWalk.i64_in _ (by omega)
          have z2 : (i : Int) + 1 < 15 := by omega
          have z3 : (0 : Int) ≤ (i : Int) + 1 := by omega
          have z4 : ((i : Int) + 1).toNat = i + 1 := by omega
          have z5 : ((i : Int) == 13) = decide (i = 13) := by
            by_cases e : i = 13
            · subst e; rfl
            · rw [decide_eq_false e, beq_eq_false_iff_ne]; omega
          have le1 : (i + 1) * 16 + lenOf 23 ≤ 240 := by show (i + 1) * 16 + 16 ≤ 240; omega
          have HR := fun w => round_any (encS kf bf i) (part (expB kf) ((i + 1) * 16)) (decide (i = 13)) w
          refine wp_region_begin (by kernel_rfl) ?_
          refine wpAny_steady (En w kf (encS kf bf i) ge) [0, 1, 2, 3, 4, 5, 6, 7] (by kernel_rfl) (hr.later (Below.refl _ _).drew) ?_
          repeat first
            | (refine Chain.step (oi := ?_) (v := .agg (bytes 16 (encS kf bf i))) ?_ (by kernel_rfl) (by kernel_rfl) (by kernel_rfl) ?_ ?_
               rotate_left 1
               · simp only [List.getElem?_toArray, List.getElem?_cons_zero, List.getElem?_cons_succ]
                 with_reducible rfl
               · (refine Or.inl ⟨?_, Gives.val ?_⟩; rfl; intro wz hz; refine load_all (S := En w kf (encS kf bf i) ge) (ty := 23) (g := w.heap.size + 1) (f := encS kf bf i) rfl ?_ (fun _ h => h.b) wz hz; rfl)
               simp only [Act.put, List.setIfInBounds_toArray, List.set_cons_zero, List.set_cons_succ])
            | (refine Chain.step (oi := ?_) (v := .agg (bytes 16 (part (expB kf) ((i + 1) * 16)))) ?_ (by kernel_rfl) (by kernel_rfl) (by kernel_rfl) ?_ ?_
               rotate_left 1
               · simp only [List.getElem?_toArray, List.getElem?_cons_zero, List.getElem?_cons_succ]
                 with_reducible rfl
               · (refine Or.inl ⟨?_, Gives.val ?_⟩; rfl; intro wz hz; refine load_val (S := En w kf (encS kf bf i) ge) (ty := 23) (g := ge) (off := (i + 1) * 16) (N := 240) (f := expB kf) rfl ?_ le1 (fun _ h => h.x) wz hz; rfl)
               simp only [Act.put, List.setIfInBounds_toArray, List.set_cons_zero, List.set_cons_succ])
            | (refine Chain.step (oi := ?_) (v := .agg (bytes 16 (encS kf bf (i + 1)))) ?_ (by kernel_rfl) (by kernel_rfl) (by kernel_rfl) ?_ ?_
               rotate_left 1
               · simp only [List.getElem?_toArray, List.getElem?_cons_zero, List.getElem?_cons_succ]
                 with_reducible rfl
               · (refine Or.inl ⟨?_, Gives.call (f := 18) (args := #[.agg (bytes 16 (encS kf bf i)), .agg (bytes 16 (part (expB kf) ((i + 1) * 16))), .bool (decide (i = 13))]) ?_ ?_⟩; rfl; (intro wz hz; go_simp); intro wz hz; exact (HR wz).mono fun e wy h => ⟨h.1, En.later hz h.2⟩)
               simp only [Act.put, List.setIfInBounds_toArray, List.set_cons_zero, List.set_cons_succ])
            | (refine Chain.step (oi := ?_) (v := ?_) ?_ (by kernel_rfl) (by kernel_rfl) (by kernel_rfl) ?_ ?_
               rotate_left 2
               · simp only [List.getElem?_toArray, List.getElem?_cons_zero, List.getElem?_cons_succ]
                 with_reducible rfl
               · (refine Or.inl ⟨?_, Gives.val ?_⟩; rfl; intro wz hz; go_simp; with_reducible rfl)
               simp only [Act.put, List.setIfInBounds_toArray, List.set_cons_zero, List.set_cons_succ])
          refine Chain.done fun w9 hw9 => ?_
          refine wpAny_ready (rs := [8]) (by kernel_rfl) (by simp) ?_
          refine AllReady.cons (o := ?_) ?_ (fun K hK => ?_) AllReady.nil
          rotate_left 1
          · simp only [List.getElem?_toArray, List.getElem?_cons_zero, List.getElem?_cons_succ]
            with_reducible rfl
          refine step_store 23 rfl rfl (.tmp 3) (.tmp 33) rfl (w.heap.size + 1) 0 _ (encS kf bf (i + 1)) rfl rfl hw9.b (by decide) ?_
          refine hK _ _ ?_
          clear hK K
          refine wpAny_done (by kernel_rfl) ?_ _
          have hlo := hw9.lo
          have HN : En w kf (encS kf bf (i + 1)) ge (w9.setCells (w.heap.size + 1) 0 (bytes (lenOf 23) (encS kf bf (i + 1))).toList) :=
            ⟨(hw9.b.mid 0 16 _).whole, hw9.c.mid_other (by omega) _ _, hw9.x.mid_other (by omega) _ _, setCells_below _ _ _ hw9.bel (by omega), hlo⟩
          simp only [Act.put]
          generalize (w9.setCells (w.heap.size + 1) 0 (bytes (lenOf 23) (encS kf bf (i + 1))).toList) = w8 at HN ⊢
          clear hw9 hr HR z1 z2 z3 z4 z5 le1 hlo
          go_wp2
          exact ⟨⟨i + 1, by omega, by go_num, HN⟩, by simp [intOf]; omega⟩
        · obtain rfl : i = 14 := by omega
          go_wp2_with (first | (with_reducible refine load_blk 23 rfl rfl (.tmp 3) rfl (w.heap.size + 1) 0 rfl _ hr.b (by decide) ?_) | (with_reducible refine store_blk 23 rfl rfl (.tmp 4) (.tmp 35) rfl (w.heap.size + 1 + 1) 0 _ _ rfl rfl hr.c (by decide) ?_))
          rw [part_zero]
          exact bodyPost_ret (result_blk rfl rfl _ _ (w.heap.size + 1 + 1) _ rfl ((hr.c.mid 0 16 _).whole)) rfl ⟨rfl, setCells_below _ _ _ hr.bel (by omega)⟩
end Go.Proofs.Ythjigmfooobfmab
