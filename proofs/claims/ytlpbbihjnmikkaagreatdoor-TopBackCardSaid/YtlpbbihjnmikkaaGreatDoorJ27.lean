/-
  Joined: PAesX, PAesD
-/
import Derived.Test.YtlpbbihjnmikkaaGreatDoorJ26
import Derived.IntWalk
import Derived.Deep.DeepCutAuto
set_option maxRecDepth 100000
namespace Go.Proofs.YtlpbbihjnmikkaaGreatDoor.Aes
open Go.RowKit Gf
set_option linter.unusedSimpArgs false

theorem zero_of {ty n : Nat} (h : (Tryz.prog.info? ty).map (·.zero) = some (some (.agg (bytes n fun _ => 0#8)))) (w : World) : (zeroValue ty).run Tryz.prog w = .ok (.agg (bytes n fun _ => 0#8)) w := by
  obtain ⟨i, hi, hz⟩ := Option.map_eq_some_iff.1 h
  simp [zeroValue, typeInfo, hi, hz, go_sem]
set_option maxRecDepth 100000 in
theorem zc347 : Tryz.zeroCells347 = bytes 240 (fun _ => 0#8) := by kernel_rfl
theorem zero347 (w : World) : (zeroValue 347).run Tryz.prog w = .ok (.agg (bytes 240 fun _ => 0#8)) w := zero_of (by kernel_rfl) w
set_option maxRecDepth 100000 in
theorem zero391 (w : World) : (zeroValue 391).run Tryz.prog w = .ok (.agg (bytes 240 fun _ => 0#8)) w := zero_of (by kernel_rfl) w
def powTo : Nat → B8
  | 0 => 1#8
  | i + 1 => if 8 ≤ i ∧ i % 8 = 0 then t2 (powTo i) else powTo i
def rotW (t : Bf) (p : B8) : Bf := fun r => if r = 0 then box8 (t 1) ^^^ p else box8 (t ((r + 1) % 4))
def subW (t : Bf) (p : B8) (i : Nat) : Bf := if i % 8 = 0 then rotW t p else if i % 8 = 4 then boxW t else t
def newW (kf l : Bf) (p : B8) (i : Nat) : Bf := if i < 8 then part kf (4 * i) else fun r => subW (part l (4 * (i - 1))) p i r ^^^ l (4 * (i - 8) + r)
/-- The words, i of them laid. -/
def lTo (kf : Bf) : Nat → Bf
  | 0 => fun _ => 0#8
  | i + 1 => laid (lTo kf i) (4 * i) 4 (newW kf (lTo kf i) (powTo i) i)
/-- A key's blocks. -/
def expB (kf : Bf) : Bf := lTo kf 60
/-- A word of an array of words. -/
theorem index_val {ρ : Operand → Value} {d : Option Tmp} {x y : Operand} {ty : TypeId} {pos : String} {af : Array Edge} {gd : Option (Nat × Bool)} {f : Bf} {i : Nat}
    (hx : ρ x = .agg (bytes 240 f)) (hy : ρ y = .int .i64 i) (hi : i < 60) (w : World) :
    (execOp ρ { dst := d, op := .index 391 x y, type := ty, pos := pos, after := af, guard := gd }).run Tryz.prog w = .ok (.value (.agg (bytes 4 (part f (4 * i))))) w := by
  obtain ⟨j, hj, hs⟩ := Option.map_eq_some_iff.1 (show (Tryz.prog.info? 390).map (·.size) = some 4 by kernel_rfl)
  have e1 : (bytes 240 f).extract (i * 4) (i * 4 + 4) = bytes 4 (part f (4 * i)) := by
    apply Array.ext_getElem?
    intro k
    rw [Array.getElem?_extract]
    by_cases hk : k < 4
    · rw [if_pos (by rw [bytes_size]; omega), bytes_get _ _ _ (by omega), bytes_get _ _ _ hk]
      unfold part
      rw [Nat.mul_comm]
    · rw [if_neg (by rw [bytes_size]; omega), Array.getElem?_eq_none (by rw [bytes_size]; omega)]
  have e3 : (Instr.index 391 (.agg (bytes 240 f)) (.int .i64 i)).run Tryz.prog w = .ok (.agg (bytes 4 (part f (4 * i)))) w := by
    have h60 : (0 : Int) ≤ (i : Int) ∧ (i : Int) < 60 := by omega
    simp [Instr.index, run_underlying Tryz.underlying391, sizeOf, typeInfo, hj, hs, go_sem, h60]
    rw [if_pos hi, e1]
  unfold execOp
  simp only [hx, hy, Sem.run_bind, e3, Result.andThen_ok, Sem.run_pure]
end Go.Proofs.YtlpbbihjnmikkaaGreatDoor.Aes

set_option maxRecDepth 100000
namespace Go.Proofs.YtlpbbihjnmikkaaGreatDoor.Aes
open Go.RowKit Gf
set_option linter.unusedSimpArgs false

attribute [local go_sem] zero347 zero391
structure Ex (w : World) (kf : Bf) (i : Nat) (w' : World) : Prop where
  k : Blk w' w.heap.size 23 (bytes 32 kf)
  c : Blk w' (w.heap.size + 1) 347 (bytes 240 fun _ => 0#8)
  l : Blk w' (w.heap.size + 1 + 1) 391 (bytes 240 (lTo kf i))
  bel : Below w.heap.size w w'
theorem Ex.later {w w1 w2 : World} {kf : Bf} {i : Nat} (H : Ex w kf i w1) (hb : Below w1.heap.size w1 w2) : Ex w kf i w2 :=
  ⟨H.k.below hb H.k.lt, H.c.below hb H.c.lt, H.l.below hb H.l.lt, H.bel.trans (hb.mono H.bel.size)⟩
theorem Ex.start (w : World) (kf : Bf) : Ex w kf 0 (((w.alloc (.cells (bytes 32 kf) 23)).alloc (.cells (bytes 240 fun _ => 0#8) 347)).alloc (.cells (bytes 240 fun _ => 0#8) 391)) := by
  have s1 : (w.alloc (.cells (bytes 32 kf) 23)).heap.size = w.heap.size + 1 := by simp
  have s2 : ((w.alloc (.cells (bytes 32 kf) 23)).alloc (.cells (bytes 240 fun _ => 0#8) 347)).heap.size = w.heap.size + 1 + 1 := by simp
  refine ⟨((Blk.new w 23 _).alloc _).alloc _, ?_, ?_, (((Below.refl _ _).alloc (Nat.le_refl _) _).alloc (by simp) _).alloc (by simp <;> omega) _⟩
  · rw [← s1]; exact (Blk.new _ 347 _).alloc _
  · rw [← s2]; exact Blk.new _ 391 _
theorem slice_key (g i : Nat) (h : i < 8) (w : World) : (Instr.sliceAt 23 (.pointer (some ⟨g, 0, none⟩)) (some (.int .i64 (4 * (i : Int)))) (some (.int .i64 (4 * (i : Int) + 4))) none).run Tryz.prog w = .ok (.slice (some ⟨g, 4 * i, none⟩) 4 (32 - 4 * i)) w := by
  rcases (by omega : i = 0 ∨ i = 1 ∨ i = 2 ∨ i = 3 ∨ i = 4 ∨ i = 5 ∨ i = 6 ∨ i = 7) with rfl | rfl | rfl | rfl | rfl | rfl | rfl | rfl <;> go_simp
/-- A word laid. -/
theorem Ex.word {w w1 : World} {kf v : Bf} {i off : Nat} (H : Ex w kf i w1) (ho : off = 4 * i) (hv : ∀ r, r < 4 → v r = newW kf (lTo kf i) (powTo i) i r) : Ex w kf (i + 1) (w1.setCells (w.heap.size + 1 + 1) off (bytes 4 v).toList) := by
  subst ho
  refine ⟨H.k.mid_other (by omega) _ _, H.c.mid_other (by omega) _ _, ?_, setCells_below _ _ _ H.bel (by omega)⟩
  have := H.l.mid (4 * i) 4 v
  refine (show bytes 240 _ = bytes 240 _ from bytes_ext fun k _ => ?_) ▸ this
  show _ = laid (lTo kf i) (4 * i) 4 (newW kf (lTo kf i) (powTo i) i) k
  unfold laid
  by_cases e : 4 * i ≤ k ∧ k < 4 * i + 4
  · rw [if_pos e, if_pos e, hv _ (by omega)]
  · rw [if_neg e, if_neg e]
theorem Ex.mid {w w1 : World} {kf : Bf} {i g : Nat} (H : Ex w kf i w1) (hg : w.heap.size + 1 + 1 < g) (off : Nat) (vs : List Value) : Ex w kf i (w1.setCells g off vs) :=
  ⟨H.k.mid_other (by omega) _ _, H.c.mid_other (by omega) _ _, H.l.mid_other (by omega) _ _, setCells_below _ _ _ H.bel (by omega)⟩
/-- The word that is made, j of its bytes laid over. -/
structure Ey (w : World) (kf : Bf) (i g j : Nat) (w' : World) : Prop where
  r : Ex w kf i w'
  t : Blk w' g 390 (bytes 4 fun r => if r < j then subW (part (lTo kf i) (4 * (i - 1))) (powTo i) i r ^^^ lTo kf i (4 * (i - 8) + r) else subW (part (lTo kf i) (4 * (i - 1))) (powTo i) i r)
  lo : w.heap.size + 1 + 1 < g
theorem Ex.far {w w1 : World} {kf : Bf} {i g : Nat} (H : Ex w kf i w1) (hg : w.heap.size + 1 + 1 < g) {k : Nat} (u : Value) : Ex w kf i (w1.setCell ⟨g, k, none⟩ u) :=
  ⟨H.k.far (by simp <;> omega) _, H.c.far (by simp <;> omega) _, H.l.far (by simp <;> omega) _, H.bel.setCell (by simp <;> omega) _⟩
theorem Ey.start {w w1 : World} {kf v : Bf} {i g : Nat} (H : Ex w kf i w1) (ht : Blk w1 g 390 (bytes 4 v)) (lo : w.heap.size + 1 + 1 < g) (e : ∀ r, r < 4 → subW (part (lTo kf i) (4 * (i - 1))) (powTo i) i r = v r) : Ey w kf i g 0 w1 := by
  refine ⟨H, ?_, lo⟩
  refine (show bytes 4 _ = bytes 4 _ from bytes_ext fun r hr => ?_) ▸ ht
  rw [if_neg (by omega), e r hr]
theorem Ey.drew {w w1 : World} {kf : Bf} {i g j : Nat} (H : Ey w kf i g j w1) : Ey w kf i g j w1.drew := ⟨H.r.later (Below.refl _ _).drew, H.t.drew, H.lo⟩
theorem Ey.at_j {w w1 : World} {kf : Bf} {i g j : Nat} (H : Ey w kf i g j w1) (hj : j < 4) : w1.cell? ⟨g, j, none⟩ = some (.int .u8 (subW (part (lTo kf i) (4 * (i - 1))) (powTo i) i j).toNat) := by
  rw [H.t.byte hj, if_neg (by omega)]
theorem Ey.step {w w1 : World} {kf : Bf} {i g j m : Nat} (H : Ey w kf i g j w1) (hm : i = m + 8) (_hj : j < 4) :
    Ey w kf i g (j + 1) (w1.setCell ⟨g, j, none⟩ (.int .u8 (subW (part (lTo kf i) (4 * (i - 1))) (powTo i) i j ^^^ lTo kf i (m * 4 + j)).toNat)) := by
  refine ⟨H.r.far H.lo _, ?_, H.lo⟩
  have := H.t.set_ j (.int .u8 (subW (part (lTo kf i) (4 * (i - 1))) (powTo i) i j ^^^ lTo kf i (m * 4 + j)).toNat)
  rw [bytes_set] at this
  refine (show bytes 4 _ = bytes 4 _ from bytes_ext fun r _ => ?_) ▸ this
  unfold upd
  by_cases e : r = j
  · subst e
    rw [if_pos rfl, if_pos (by omega), show 4 * (i - 8) = m * 4 by omega]
  · rw [if_neg e]
    dsimp only
    by_cases e1 : r < j
    · rw [if_pos e1, if_pos (by omega)]
    · rw [if_neg e1, if_neg (by omega)]
theorem Ey.word {w w1 : World} {kf : Bf} {i g : Nat} (H : Ey w kf i g 4 w1) (h8 : ¬ i < 8) :
    Ex w kf (i + 1) (w1.setCells (w.heap.size + 1 + 1) (i * 4) (bytes (lenOf 390) (part (fun r => if r < 4 then subW (part (lTo kf i) (4 * (i - 1))) (powTo i) i r ^^^ lTo kf i (4 * (i - 8) + r) else subW (part (lTo kf i) (4 * (i - 1))) (powTo i) i r) 0)).toList) :=
  H.r.word (Nat.mul_comm _ _) fun r hr => by
    unfold newW
    rw [if_neg h8, part_zero, if_pos hr]
theorem rot_is {f : Bf} {p : B8} {i : Nat} (h : i % 8 = 0) (r : Nat) : subW f p i r = upd (boxW fun r => f ((r + 1) % 4)) 0 (boxW (fun r => f ((r + 1) % 4)) 0 ^^^ p) r := by
  unfold subW upd
  rw [if_pos h]
  unfold rotW boxW
  by_cases e : r = 0
  · rw [if_pos e]
  · rw [if_neg e]
theorem slice_out (g off r : Nat) (h : r < 4) (w : World) : (Instr.sliceAt 310 (.pointer (some ⟨g, off, none⟩)) (some (.int .i64 (4 * (r : Int)))) none none).run Tryz.prog w = .ok (.slice (some ⟨g, off + 4 * r, none⟩) (16 - 4 * r) (16 - 4 * r)) w := by
  rcases (by omega : r = 0 ∨ r = 1 ∨ r = 2 ∨ r = 3) with rfl | rfl | rfl | rfl <;> go_simp
theorem wpList_run {ops : Array Oper} {rest : List Oper} {o : Oper} {a : Act} {w : World} {Q : Exit → Act → World → Prop} {v : Value} (hgd : o.guard = none) (hrun : (execOp a.eval o).run Tryz.prog w = .ok (.value v) w)
    (h : wpList Tryz.prog ops Q rest (a.put o.dst v) w) : wpList Tryz.prog ops Q (o :: rest) a w :=
  wpList_plain hgd fun _ hK => by
    unfold Oper.wp
    rw [hrun]
    exact hK _ _ h
/-- The blocks so far. -/
structure Eo (w : World) (kf : Bf) (g i : Nat) (w' : World) : Prop where
  r : Ex w kf 60 w'
  o : Blk w' g 347 (bytes 240 fun k => if k < 4 * i then expB kf k else 0#8)
  lo : w.heap.size + 1 + 1 < g
theorem Eo.later {w w1 w2 : World} {kf : Bf} {g i : Nat} (H : Eo w kf g i w1) (hb : Below w1.heap.size w1 w2) : Eo w kf g i w2 := ⟨H.r.later hb, H.o.below hb H.o.lt, H.lo⟩
theorem Eo.mid {w w1 : World} {kf : Bf} {g i g' : Nat} (H : Eo w kf g i w1) (hg : g < g') (off : Nat) (vs : List Value) : Eo w kf g i (w1.setCells g' off vs) :=
  ⟨H.r.mid (Nat.lt_trans H.lo hg) _ _, H.o.mid_other (by omega) _ _, H.lo⟩
/-- .. and the word that is copied. -/
structure Ec (w : World) (kf : Bf) (g gw i : Nat) (w' : World) : Prop where
  e : Eo w kf g i w'
  c : Blk w' gw 390 (bytes 4 (part (lTo kf 60) (4 * i)))
  ne : g < gw
theorem Ec.drew {w w1 : World} {kf : Bf} {g gw i : Nat} (H : Ec w kf g gw i w1) : Ec w kf g gw i w1.drew := ⟨H.e.later (Below.refl _ _).drew, H.c.drew, H.ne⟩
theorem splice_bytes (N off n : Nat) (f v : Bf) (h : off + n ≤ N) : (splice (bytes N f).toList off (bytes n v).toList).toArray = bytes N (laid f off n v) := by
  have hl : (bytes n v).toList.length = n := by simp [bytes_size]
  have hL : (bytes N f).toList.length = N := by simp [bytes_size]
  apply Array.ext_getElem?
  intro i
  unfold splice
  rw [List.getElem?_toArray, hl]
  by_cases hi : i < N
  · rw [bytes_get _ _ _ hi]
    unfold laid
    by_cases h1 : i < off
    · rw [List.getElem?_append_left (by rw [List.length_take, hL]; omega), List.getElem?_take_of_lt h1, Array.getElem?_toList, bytes_get _ _ _ hi, if_neg (by omega)]
    · rw [List.getElem?_append_right (by rw [List.length_take, hL]; omega), List.length_take, hL, Nat.min_eq_left (by omega)]
      by_cases h2 : i < off + n
      · rw [List.getElem?_append_left (by rw [hl]; omega), Array.getElem?_toList, bytes_get _ _ _ (by omega), if_pos (by omega)]
      · rw [List.getElem?_append_right (by rw [hl]; omega), hl, List.getElem?_drop, Array.getElem?_toList, bytes_get _ _ _ (by omega), if_neg (by omega), show off + n + (i - off - n) = i by omega]
  · rw [Array.getElem?_eq_none (by rw [bytes_size]; omega), List.getElem?_eq_none]
    rw [List.length_append, List.length_append, List.length_take, List.length_drop, hl, hL]
    omega
set_option maxRecDepth 100000 in
set_option maxHeartbeats 4000000 in
theorem expand_any (kf : Bf) (w : World) : Calls Tryz.prog 247 #[.agg (bytes 32 kf)] w fun e w' => e = .returned (.agg (bytes 240 (expB kf))) ∧ Below w.heap.size w w' := by
  have H0 := Ex.start w kf
  go_enter Tryz.func247, Tryz.ntmps247
  go_wp2_with fail
  go_loopw [4, 5, 6, 7, 11] (fun p _ _ _ x w' => ∃ i : Nat, i ≤ 60 ∧ x = .int .i64 i ∧ p = .int .u8 (powTo i).toNat ∧ Ex w kf i w') (fun _ _ _ _ x _ => 60 - (intOf x).toNat)
  case atStart => exact ⟨0, by omega, rfl, rfl, H0⟩
  case round =>
    clear H0
    obtain ⟨i, hi, rfl, rfl, hR⟩ := hrel
    by_cases hlt : i < 60
    · have hd : decide ((i : Int) < 60) = true := decide_eq_true (by omega)
      by_cases h8 : i < 8
      · have hd8 : decide ((i : Int) < 8) = true := decide_eq_true (by omega)
        have z1 : (4 * (i : Int)).toNat = 4 * i := by omega
        have z2 : (4 * (i : Int) + 4).toNat = 4 * i + 4 := by omega
        have hsl := slice_key w.heap.size i h8 wr
        have le1 : 4 * i + lenOf 390 ≤ 32 := by show 4 * i + 4 ≤ 32; omega
        have le2 : i * 4 + lenOf 390 ≤ 240 := by show i * 4 + 4 ≤ 240; omega
        go_wp2_with fail
        rename_i hKK
        refine hKK _ _ ?_
        clear hKK
        simp only [Act.put, List.setIfInBounds_toArray, List.set_cons_zero, List.set_cons_succ]
        go_wp2_with (first | (with_reducible refine load_blk 390 rfl rfl (.tmp 23) rfl w.heap.size (4 * i) rfl _ hR.k le1 ?_) | (with_reducible refine store_blk 390 rfl rfl (.tmp 25) (.tmp 24) rfl (w.heap.size + 1 + 1) (i * 4) _ (part kf (4 * i)) rfl rfl hR.l le2 ?_))
        have hw := hR.word (off := i * 4) (v := part kf (4 * i)) (Nat.mul_comm _ _) (fun r _ => by unfold newW; rw [if_pos h8])
        exact ⟨⟨i + 1, by omega, by go_num, by rw [powTo, if_neg (by omega)], hw⟩, by simp [intOf]; omega⟩
      · have hd8 : decide ((i : Int) < 8) = false := decide_eq_false (by omega)
        have HZ : Blk (wr.alloc (.cells zero4 390)) wr.heap.size 390 (bytes 4 fun _ => 0#8) := Blk.new wr 390 _
        have le2 : (i - 1) * 4 + lenOf 390 ≤ 240 := by show (i - 1) * 4 + 4 ≤ 240; omega
        go_upto_region 9 with (first | (with_reducible refine load_blk 390 rfl rfl (.tmp 28) rfl (w.heap.size + 1 + 1) ((i - 1) * 4) rfl _ hR.l le2 ?_) | (with_reducible refine store_blk 390 rfl rfl (.tmp 6) (.tmp 29) rfl wr.heap.size 0 _ (part (lTo kf i) ((i - 1) * 4)) rfl rfl HZ (by decide) ?_))
        have HE : Ex w kf i (wr.alloc (.cells zero4 390)) := hR.later ((Below.refl _ _).alloc (Nat.le_refl _) _)
        have HT : Blk ((wr.alloc (.cells zero4 390)).setCells wr.heap.size 0 (bytes (lenOf 390) (part (lTo kf i) ((i - 1) * 4))).toList) wr.heap.size 390 (bytes 4 (part (lTo kf i) ((i - 1) * 4))) := (HZ.mid 0 4 (part (lTo kf i) ((i - 1) * 4))).whole
        have hlo : w.heap.size + 1 + 1 < wr.heap.size := hR.l.lt
        have HE2 := HE.mid hlo 0 (bytes (lenOf 390) (part (lTo kf i) ((i - 1) * 4))).toList
        obtain ⟨g, hg⟩ : ∃ g, g = wr.heap.size := ⟨_, rfl⟩
        simp only [Act.put, ← hg] at HT HE2 hlo ⊢
        generalize ((wr.alloc (.cells zero4 390)).setCells g 0 (bytes (lenOf 390) (part (lTo kf i) ((i - 1) * 4))).toList) = wa at HT HE2 ⊢
        clear hg HE HZ hR le2
        rw [Nat.mul_comm (i - 1) 4] at HT
        obtain ⟨m, hm⟩ : ∃ m, m = i - 8 := ⟨_, rfl⟩
        have hmm := Lib.hid (show i = m + 8 by omega)
        clear hm
        by_cases h0 : i % 8 = 0
        · have ht8 : (i : Int).tmod 8 = 0 := by rw [Int.tmod_eq_emod_of_nonneg (by omega)]; omega
          have H0 := Lib.hid h0
          have p0 := HT.byte (i := 0) (by omega)
          have p1 := HT.byte (i := 1) (by omega)
          have p2 := HT.byte (i := 2) (by omega)
          have p3 := HT.byte (i := 3) (by omega)
          have H8 := Lib.hid h8
          clear h0 h8
          go_wp2_with (fail)
          refine (boxed_any (fun r => part (lTo kf i) (4 * (i - 1)) ((r + 1) % 4)) _).mono ?_
          rintro e wb ⟨rfl, hb⟩
          clear p0 p1 p2 p3
          have HTb := HT.below hb HT.lt
          have HEb := HE2.later hb
          have HT3 : Blk (wb.setCells g 0 (bytes (lenOf 390) (boxW fun r => part (lTo kf i) (4 * (i - 1)) ((r + 1) % 4))).toList) g 390 (bytes 4 (boxW fun r => part (lTo kf i) (4 * (i - 1)) ((r + 1) % 4))) := (HTb.mid 0 4 _).whole
          have HE3 := HEb.mid hlo 0 (bytes (lenOf 390) (boxW fun r => part (lTo kf i) (4 * (i - 1)) ((r + 1) % 4))).toList
          go_upto_region 12 with (with_reducible refine store_blk 390 rfl rfl (.tmp 6) (.tmp 43) rfl g 0 _ (boxW fun r => part (lTo kf i) (4 * (i - 1)) ((r + 1) % 4)) rfl rfl HTb (by decide) ?_)
          simp only [Act.put]
          generalize (wb.setCells g 0 (bytes (lenOf 390) (boxW fun r => part (lTo kf i) (4 * (i - 1)) ((r + 1) % 4))).toList) = wc at HT3 HE3 ⊢
          clear HTb HEb hb HT HE2
          have p0 := HT3.byte (i := 0) (by omega)
          have p1 := HT3.frozen 0
          have x1 := bits_xor8 (boxW (fun r => part (lTo kf i) (4 * (i - 1)) ((r + 1) % 4)) 0) (powTo i)
          go_wp2_with (go_at_call 291; refine (times2_any _ _).mono ?_; rintro e w' ⟨rfl, rfl⟩)
          have HT := HT3.set_ 0 (.int .u8 (boxW (fun r => part (lTo kf i) (4 * (i - 1)) ((r + 1) % 4)) 0 ^^^ powTo i).toNat)
          have HE2 : Ex w kf i (wc.setCell ⟨g, 0, none⟩ (.int .u8 (boxW (fun r => part (lTo kf i) (4 * (i - 1)) ((r + 1) % 4)) 0 ^^^ powTo i).toNat)) := HE3.far hlo _
          rw [bytes_set] at HT
          have HQ0 : Ey w kf i g 0 (wc.setCell ⟨g, 0, none⟩ (.int .u8 (boxW (fun r => part (lTo kf i) (4 * (i - 1)) ((r + 1) % 4)) 0 ^^^ powTo i).toNat)) := Ey.start HE2 HT hlo (fun r _ => rot_is H0.out r)
          clear p0 p1 x1 HT3 HE3
          clear HT HE2
          go_loopw [7, 55] (fun _ x w' => ∃ j : Nat, j ≤ 4 ∧ x = .int .i64 j ∧ Ey w kf i g j w') (fun _ x _ => 4 - (intOf x).toNat)
          case atStart => exact ⟨0, by omega, rfl, HQ0⟩
          case round =>
            clear HQ0
            obtain ⟨j, hj, rfl, hm⟩ := hrel
            by_cases hlt2 : j < 4
            · have hd2 : decide ((j : Int) < 4) = true := decide_eq_true (by omega)
              go_wp2
              have z1 : IntKind.i64.wrap ((i : Int) - 8) = (m : Int) := by rw [IntWalk.i64_in _ (by omega)]; have := hmm.out; omega
              have z3 : (j : Int) < 4 := by omega
              have z4 : (m : Int) < 60 := by have := hmm.out; omega
              have z5 : m * 4 + j < 240 := by have := hmm.out; omega
              have x1 := bits_xor8 (subW (part (lTo kf i) (4 * (i - 1))) (powTo i) i j) (lTo kf i (m * 4 + j))
              simp only [BitVec.toNat_xor] at x1
              refine wp_region_begin (by kernel_rfl) ?_
              refine wpAny_steady (Ey w kf i g j) [0, 1, 2, 3, 4, 5, 6, 7, 8, 9, 10] (by kernel_rfl) (hm.drew) ?_
              repeat first
                | (refine Chain.step (oi := ?_) (v := ?_) ?_ (by kernel_rfl) (by kernel_rfl) (by kernel_rfl) ?_ ?_
                   rotate_left 2
                   · simp only [List.getElem?_toArray, List.getElem?_cons_zero, List.getElem?_cons_succ]
                     with_reducible rfl
                   · (refine Or.inl ⟨?_, Gives.val ?_⟩; rfl; intro wz hz; have q1 := hz.at_j hlt2; have q2 := hz.r.l.byte (i := m * 4 + j) z5; go_simp; with_reducible rfl)
                   simp only [Act.put, List.setIfInBounds_toArray, List.set_cons_zero, List.set_cons_succ])
              refine Chain.done fun w9 hw9 => ?_
              have y1 := hw9.at_j hlt2
              have y2 := hw9.t.frozen j
              refine wpAny_ready (rs := [11]) (by kernel_rfl) (by simp) ?_
              refine AllReady.cons (o := ?_) ?_ (fun K hK => ?_) AllReady.nil
              rotate_left 1
              · simp only [List.getElem?_toArray, List.getElem?_cons_zero, List.getElem?_cons_succ]
                with_reducible rfl
              go_simp
              refine hK _ _ ?_
              clear hK K
              refine wpAny_done (by kernel_rfl) ?_ _
              go_wp2
              first
                | exact ⟨⟨j + 1, by omega, by go_num, hw9.step hmm.out hlt2⟩, by simp [intOf]; omega⟩
                | (refine ⟨⟨_, _, _, _, _, _, _, _, _, _, _, _, _, _, _, _, ⟨j + 1, by omega, ?_, hw9.step hmm.out hlt2⟩, rfl⟩, ?_⟩
                   · go_num
                   · simp [intOf]; omega)
            · obtain rfl : j = 4 := by omega
              have le3 : i * 4 + lenOf 390 ≤ 240 := by show i * 4 + 4 ≤ 240; omega
              go_wp2_with (first | (with_reducible refine load_blk 390 rfl rfl (.tmp 6) rfl g 0 rfl _ hm.t (by decide) ?_) | (with_reducible refine store_blk 390 rfl rfl (.tmp 72) (.tmp 71) rfl (w.heap.size + 1 + 1) (i * 4) _ _ rfl rfl hm.r.l le3 ?_))
              exact ⟨⟨i + 1, by omega, by go_num, by rw [powTo, if_pos ⟨by have := H8.out; omega, H0.out⟩], hm.word H8.out⟩, by simp [intOf]; omega⟩
        · by_cases h4 : i % 8 = 4
          · have ht8 : (i : Int).tmod 8 = 4 := by rw [Int.tmod_eq_emod_of_nonneg (by omega)]; omega
            have H0 := Lib.hid h4
            have H8 := Lib.hid h8
            clear h0 h4 h8
            go_wp2_with (with_reducible refine load_blk 390 rfl rfl (.tmp 6) rfl g 0 rfl _ HT (by decide) ?_)
            rw [part_zero]
            refine (boxed_any (part (lTo kf i) (4 * (i - 1))) _).mono ?_
            rintro e wb ⟨rfl, hb⟩
            have HTb := HT.below hb HT.lt
            have HEb := HE2.later hb
            have HQ0 : Ey w kf i g 0 (wb.setCells g 0 (bytes (lenOf 390) (boxW (part (lTo kf i) (4 * (i - 1))))).toList) := Ey.start (HEb.mid hlo _ _) (HTb.mid 0 4 _).whole hlo (fun r _ => by unfold subW; rw [if_neg (by have := H0.out; omega), if_pos H0.out])
            go_wp2_with (with_reducible refine store_blk 390 rfl rfl (.tmp 6) (.tmp 54) rfl g 0 _ (boxW (part (lTo kf i) (4 * (i - 1)))) rfl rfl HTb (by decide) ?_)
            generalize (wb.setCells g 0 (bytes (lenOf 390) (boxW (part (lTo kf i) (4 * (i - 1))))).toList) = wc at HQ0 ⊢
            clear HTb HEb hb
            clear HT HE2
            go_loopw [7, 55] (fun _ x w' => ∃ j : Nat, j ≤ 4 ∧ x = .int .i64 j ∧ Ey w kf i g j w') (fun _ x _ => 4 - (intOf x).toNat)
            case atStart => exact ⟨0, by omega, rfl, HQ0⟩
            case round =>
              clear HQ0
              obtain ⟨j, hj, rfl, hm⟩ := hrel
              by_cases hlt2 : j < 4
              · have hd2 : decide ((j : Int) < 4) = true := decide_eq_true (by omega)
                go_wp2
                have z1 : IntKind.i64.wrap ((i : Int) - 8) = (m : Int) := by rw [IntWalk.i64_in _ (by omega)]; have := hmm.out; omega
                have z3 : (j : Int) < 4 := by omega
                have z4 : (m : Int) < 60 := by have := hmm.out; omega
                have z5 : m * 4 + j < 240 := by have := hmm.out; omega
                have x1 := bits_xor8 (subW (part (lTo kf i) (4 * (i - 1))) (powTo i) i j) (lTo kf i (m * 4 + j))
                simp only [BitVec.toNat_xor] at x1
                refine wp_region_begin (by kernel_rfl) ?_
                refine wpAny_steady (Ey w kf i g j) [0, 1, 2, 3, 4, 5, 6, 7, 8, 9, 10] (by kernel_rfl) (hm.drew) ?_
                repeat first
                  | (refine Chain.step (oi := ?_) (v := ?_) ?_ (by kernel_rfl) (by kernel_rfl) (by kernel_rfl) ?_ ?_
                     rotate_left 2
                     · simp only [List.getElem?_toArray, List.getElem?_cons_zero, List.getElem?_cons_succ]
                       with_reducible rfl
                     · (refine Or.inl ⟨?_, Gives.val ?_⟩; rfl; intro wz hz; have q1 := hz.at_j hlt2; have q2 := hz.r.l.byte (i := m * 4 + j) z5; go_simp; with_reducible rfl)
                     simp only [Act.put, List.setIfInBounds_toArray, List.set_cons_zero, List.set_cons_succ])
                refine Chain.done fun w9 hw9 => ?_
                have y1 := hw9.at_j hlt2
                have y2 := hw9.t.frozen j
                refine wpAny_ready (rs := [11]) (by kernel_rfl) (by simp) ?_
                refine AllReady.cons (o := ?_) ?_ (fun K hK => ?_) AllReady.nil
                rotate_left 1
                · simp only [List.getElem?_toArray, List.getElem?_cons_zero, List.getElem?_cons_succ]
                  with_reducible rfl
                go_simp
                refine hK _ _ ?_
                clear hK K
                refine wpAny_done (by kernel_rfl) ?_ _
                go_wp2
                first
                  | exact ⟨⟨j + 1, by omega, by go_num, hw9.step hmm.out hlt2⟩, by simp [intOf]; omega⟩
                  | (refine ⟨⟨_, _, _, _, _, _, _, _, _, _, _, _, _, _, _, _, ⟨j + 1, by omega, ?_, hw9.step hmm.out hlt2⟩, rfl⟩, ?_⟩
                     · go_num
                     · simp [intOf]; omega)
              · obtain rfl : j = 4 := by omega
                have le3 : i * 4 + lenOf 390 ≤ 240 := by show i * 4 + 4 ≤ 240; omega
                go_wp2_with (first | (with_reducible refine load_blk 390 rfl rfl (.tmp 6) rfl g 0 rfl _ hm.t (by decide) ?_) | (with_reducible refine store_blk 390 rfl rfl (.tmp 72) (.tmp 71) rfl (w.heap.size + 1 + 1) (i * 4) _ _ rfl rfl hm.r.l le3 ?_))
                exact ⟨⟨i + 1, by omega, by go_num, by rw [powTo, if_neg (by have := H0.out; omega)], hm.word H8.out⟩, by simp [intOf]; omega⟩
          · obtain ⟨e8, he8⟩ : ∃ e, e = i % 8 := ⟨_, rfl⟩
            have ht8 : (i : Int).tmod 8 = (e8 : Int) := by rw [Int.tmod_eq_emod_of_nonneg (by omega)]; omega
            have hs0 : decide ((e8 : Int) = 0) = false := decide_eq_false (by omega)
            have hs4 : decide ((e8 : Int) = 4) = false := decide_eq_false (by omega)
            have H0 := Lib.hid h0
            have H4 := Lib.hid h4
            have H8 := Lib.hid h8
            have g0 : ¬ e8 = 0 := by omega
            have g4 : ¬ e8 = 4 := by omega
            clear he8 h0 h4 h8
            go_wp2_with (fail)
            have HQ0 : Ey w kf i g 0 wa := Ey.start HE2 HT hlo (fun r _ => by unfold subW; rw [if_neg H0.out, if_neg H4.out])
            have hb0 : ((e8 : Int) == 0) = false := by simp; omega
            have hb4 : ((e8 : Int) == 4) = false := by simp; omega
            simp only [hb0, hb4]
            clear g0 g4 hs0 hs4 hb0 hb4
            clear HT HE2
            go_loopw [7, 55] (fun _ x w' => ∃ j : Nat, j ≤ 4 ∧ x = .int .i64 j ∧ Ey w kf i g j w') (fun _ x _ => 4 - (intOf x).toNat)
            case atStart => exact ⟨0, by omega, rfl, HQ0⟩
            case round =>
              clear HQ0
              obtain ⟨j, hj, rfl, hm⟩ := hrel
              by_cases hlt2 : j < 4
              · have hd2 : decide ((j : Int) < 4) = true := decide_eq_true (by omega)
                go_wp2
                have z1 : IntKind.i64.wrap ((i : Int) - 8) = (m : Int) := by rw [IntWalk.i64_in _ (by omega)]; have := hmm.out; omega
                have z3 : (j : Int) < 4 := by omega
                have z4 : (m : Int) < 60 := by have := hmm.out; omega
                have z5 : m * 4 + j < 240 := by have := hmm.out; omega
                have x1 := bits_xor8 (subW (part (lTo kf i) (4 * (i - 1))) (powTo i) i j) (lTo kf i (m * 4 + j))
                simp only [BitVec.toNat_xor] at x1
                refine wp_region_begin (by kernel_rfl) ?_
                refine wpAny_steady (Ey w kf i g j) [0, 1, 2, 3, 4, 5, 6, 7, 8, 9, 10] (by kernel_rfl) (hm.drew) ?_
                repeat first
                  | (refine Chain.step (oi := ?_) (v := ?_) ?_ (by kernel_rfl) (by kernel_rfl) (by kernel_rfl) ?_ ?_
                     rotate_left 2
                     · simp only [List.getElem?_toArray, List.getElem?_cons_zero, List.getElem?_cons_succ]
                       with_reducible rfl
                     · (refine Or.inl ⟨?_, Gives.val ?_⟩; rfl; intro wz hz; have q1 := hz.at_j hlt2; have q2 := hz.r.l.byte (i := m * 4 + j) z5; go_simp; with_reducible rfl)
                     simp only [Act.put, List.setIfInBounds_toArray, List.set_cons_zero, List.set_cons_succ])
                refine Chain.done fun w9 hw9 => ?_
                have y1 := hw9.at_j hlt2
                have y2 := hw9.t.frozen j
                refine wpAny_ready (rs := [11]) (by kernel_rfl) (by simp) ?_
                refine AllReady.cons (o := ?_) ?_ (fun K hK => ?_) AllReady.nil
                rotate_left 1
                · simp only [List.getElem?_toArray, List.getElem?_cons_zero, List.getElem?_cons_succ]
                  with_reducible rfl
                go_simp
                refine hK _ _ ?_
                clear hK K
                refine wpAny_done (by kernel_rfl) ?_ _
                go_wp2
                first
                  | exact ⟨⟨j + 1, by omega, by go_num, hw9.step hmm.out hlt2⟩, by simp [intOf]; omega⟩
                  | (refine ⟨⟨_, _, _, _, _, _, _, _, _, _, _, _, _, _, _, _, ⟨j + 1, by omega, ?_, hw9.step hmm.out hlt2⟩, rfl⟩, ?_⟩
                     · go_num
                     · simp [intOf]; omega)
              · obtain rfl : j = 4 := by omega
                have le3 : i * 4 + lenOf 390 ≤ 240 := by show i * 4 + 4 ≤ 240; omega
                go_wp2_with (first | (with_reducible refine load_blk 390 rfl rfl (.tmp 6) rfl g 0 rfl _ hm.t (by decide) ?_) | (with_reducible refine store_blk 390 rfl rfl (.tmp 72) (.tmp 71) rfl (w.heap.size + 1 + 1) (i * 4) _ _ rfl rfl hm.r.l le3 ?_))
                exact ⟨⟨i + 1, by omega, by go_num, by rw [powTo, if_neg (by have := H0.out; omega)], hm.word H8.out⟩, by simp [intOf]; omega⟩
    · obtain rfl : i = 60 := by omega
      have HR' : Ex w kf 60 (wr.alloc (.cells Tryz.zeroCells347 347)) := hR.later ((Below.refl _ _).alloc (Nat.le_refl _) _)
      go_upto_region 25 with (with_reducible refine load_blk 391 rfl rfl (.tmp 3) rfl (w.heap.size + 1 + 1) 0 rfl _ HR'.l len391 ?_)
      simp only [zc347] at HR' ⊢
      have HO : Eo w kf wr.heap.size 0 (wr.alloc (.cells (bytes 240 fun _ => 0#8) 347)) := ⟨HR', by
        have e : bytes 240 (fun i => if i < 4 * 0 then expB kf i else 0#8) = bytes 240 (fun _ => 0#8) := bytes_ext fun i _ => by rw [if_neg (by omega)]
        rw [e]; exact Blk.new wr 347 _, hR.l.lt⟩
      obtain ⟨go, hgo⟩ : ∃ g, g = wr.heap.size := ⟨_, rfl⟩
      simp only [← hgo] at HO ⊢
      rw [part_zero]
      generalize (wr.alloc (.cells (bytes 240 fun _ => 0#8) 347)) = wa at HO ⊢
      clear HR' hR hgo
      go_loopw [9, 10, 75] (fun _ _ x w' => ∃ i : Nat, i ≤ 60 ∧ x = .int .i64 i ∧ Eo w kf go i w') (fun _ _ x _ => 60 - (intOf x).toNat)
      case atStart => exact ⟨0, by omega, rfl, HO⟩
      case round =>
        clear HO
        obtain ⟨i, hi, rfl, hO⟩ := hrel
        by_cases hlt : i < 60
        · have hd : decide ((i : Int) < 60) = true := decide_eq_true (by omega)
          have HZ : Blk (wr.alloc (.cells zero4 390)) wr.heap.size 390 (bytes 4 fun _ => 0#8) := Blk.new wr 390 _
          have HW : Blk ((wr.alloc (.cells zero4 390)).setCells wr.heap.size 0 (bytes (lenOf 390) (part (lTo kf 60) (4 * i))).toList) wr.heap.size 390 (bytes 4 (part (lTo kf 60) (4 * i))) := (HZ.mid 0 4 _).whole
          have hlo : go < wr.heap.size := hO.o.lt
          have HE := (hO.later ((Below.refl _ _).alloc (Nat.le_refl _) (.cells zero4 390))).mid hlo 0 (bytes (lenOf 390) (part (lTo kf 60) (4 * i))).toList
          go_upto_region 27 with (first | (with_reducible refine wpList_run rfl (index_val (f := lTo kf 60) (i := i) rfl rfl hlt _) ?_) | (with_reducible refine store_blk 390 rfl rfl (.tmp 10) (.tmp 78) rfl wr.heap.size 0 _ (part (lTo kf 60) (4 * i)) rfl rfl HZ (by decide) ?_))
          simp only [Act.put]
          obtain ⟨gw, hgw⟩ : ∃ g, g = wr.heap.size := ⟨_, rfl⟩
          simp only [← hgw] at HW HE hlo ⊢
          generalize ((wr.alloc (.cells zero4 390)).setCells gw 0 (bytes (lenOf 390) (part (lTo kf 60) (4 * i))).toList) = wb at HW HE ⊢
          clear hgw HZ hO
          obtain ⟨q, hq⟩ : ∃ q, q = i / 4 := ⟨_, rfl⟩
          obtain ⟨r, hr⟩ : ∃ r, r = i % 4 := ⟨_, rfl⟩
          have t1 : (i : Int).tdiv 4 = (q : Int) := by rw [Int.tdiv_eq_ediv_of_nonneg (by omega)]; omega
          have t2 : (i : Int).tmod 4 = (r : Int) := by rw [Int.tmod_eq_emod_of_nonneg (by omega)]; omega
          have t1b : (i : Int) / 4 = (q : Int) := by omega
          have t2b : (i : Int) % 4 = (r : Int) := by omega
          have t3 : (q : Int) < 15 := by omega
          have t3b : (0 : Int) ≤ (q : Int) ∧ (q : Int) < 15 := by omega
          have t3c : q < 15 := by omega
          have t4 : r < 4 := by omega
          have t5 : IntKind.i64.wrap (4 * (r : Int)) = 4 * (r : Int) := IntWalk.i64_in _ (by omega)
          have t6 : IntKind.i64.wrap (q : Int) = (q : Int) := IntWalk.i64_in _ (by omega)
          have hI := Lib.hid (show q * 16 + 4 * r = 4 * i by omega)
          have hsl := fun (w : World) => slice_out go (q * 16) r t4 w
          clear hq hr
          have hC : Ec w kf go gw i wb := ⟨HE, HW, hlo⟩
          clear HE HW
          refine wp_region_begin (by kernel_rfl) ?_
          refine wpAny_take (i := 7) (oi := ?_) (v := ?_) ?_ (by kernel_rfl) (by kernel_rfl) (by kernel_rfl) ?_ ?_ ?_
          rotate_left 2
          · simp only [List.getElem?_toArray, List.getElem?_cons_zero, List.getElem?_cons_succ]
            with_reducible rfl
          · exact fun _ _ _ q => q
          · (refine Or.inl ⟨?_, ?_⟩; rfl; intro w; go_simp; with_reducible rfl)
          simp only [Act.put, List.setIfInBounds_toArray, List.set_cons_zero, List.set_cons_succ]
          refine wpAny_along (Ec w kf go gw i) [0, 1, 2, 3, 4, 5, 6] 6 (by kernel_rfl) (by kernel_rfl) (by kernel_rfl) (by decide) rfl hC.drew ?_
          repeat first
            | (refine Chain.step (oi := ?_) (v := ?_) ?_ (by kernel_rfl) (by kernel_rfl) (by kernel_rfl) ?_ ?_
               rotate_left 2
               · simp only [List.getElem?_toArray, List.getElem?_cons_zero, List.getElem?_cons_succ]
                 with_reducible rfl
               · (refine Or.inl ⟨?_, Gives.val ?_⟩; rfl; intro wz hz; have q1 := hsl wz; go_simp; with_reducible rfl)
               simp only [Act.put, List.setIfInBounds_toArray, List.set_cons_zero, List.set_cons_succ])
          refine Chain.done fun w9 hw9 => ?_
          refine wpAny_ready (rs := [8]) (by kernel_rfl) (by simp) ?_
          refine AllReady.cons (o := ?_) ?_ (fun K hK => ?_) AllReady.nil
          rotate_left 1
          · simp only [List.getElem?_toArray, List.getElem?_cons_zero, List.getElem?_cons_succ]
            with_reducible rfl
          have HG : w9.heap[go]? = some (.cells (bytes 240 fun k => if k < 4 * i then expB kf k else 0#8).toList.toArray 347 (0, 0)) := hw9.e.o
          have hcl : (bytes 4 (part (lTo kf 60) (4 * i))).toList.length = 4 := by simp [bytes_size]
          have HN : (bytes 4 (part (lTo kf 60) (4 * i))).toList.length = Nat.min 4 (16 - 4 * r) := by rw [hcl]; exact (Nat.min_eq_left (by omega)).symm
          have hI2 := hI.out
          have HP : 0 < (bytes 4 (part (lTo kf 60) (4 * i))).toList.length → some (⟨go, q * 16 + 4 * r, none⟩ : Addr) = some ⟨go, q * 16 + 4 * r, none⟩ ∧ ∃ ad, some (⟨gw, 0, none⟩ : Addr) = some ad ∧ ∀ j v, (bytes 4 (part (lTo kf 60) (4 * i))).toList[j]? = some v → w9.cell? (ad.add j) = some v := fun _ =>
            ⟨rfl, _, rfl, fun j v hv => by
              rw [Array.getElem?_toList] at hv
              rw [show (⟨gw, 0, none⟩ : Addr).add j = ⟨gw, j, none⟩ by unfold Addr.add; by_cases e : j = 0 <;> simp [e], hw9.c.cell, hv]⟩
          have HF : q * 16 + 4 * r + (bytes 4 (part (lTo kf 60) (4 * i))).toList.length ≤ (bytes 240 fun k => if k < 4 * i then expB kf k else 0#8).toList.length := by rw [hcl]; simp [bytes_size]; omega
          have H1 : ∀ v ∈ (bytes 4 (part (lTo kf 60) (4 * i))).toList, v.oneCell' = true := by
            intro v hv; simp [bytes] at hv; obtain ⟨j, _, rfl⟩ := hv; rfl
          refine step_copy_splice rfl (.tmp 85) (.tmp 86) 24 24 rfl 5 Tryz.underlying24 (by kernel_rfl) _ _ _ _ _ _ rfl rfl go (q * 16 + 4 * r) _ 347 HG _ HN HP HF H1 go w9 (Below.refl _ _) (Nat.le_refl _) ?_
          intro w2 hg2 hb2
          refine hK _ _ ?_
          clear hK K
          rw [splice_bytes 240 (q * 16 + 4 * r) 4 _ _ (by omega)] at hg2
          have hb3 : Below (w.heap.size + 1 + 1 + 1) w9 w2 := hb2.mono (by have := hw9.e.lo; omega)
          have hE : Eo w kf go (i + 1) w2 := by
            refine ⟨⟨hw9.e.r.k.below hb3 (by omega), hw9.e.r.c.below hb3 (by omega), hw9.e.r.l.below hb3 (by omega), hw9.e.r.bel.trans (hb3.mono (by omega))⟩, ?_, hw9.e.lo⟩
            have hB : Blk w2 go 347 (bytes 240 (laid (fun k => if k < 4 * i then expB kf k else 0#8) (q * 16 + 4 * r) 4 (part (lTo kf 60) (4 * i)))) := hg2.out
            refine (show bytes 240 _ = bytes 240 _ from bytes_ext fun k _ => ?_) ▸ hB
            unfold laid
            rw [hI2]
            by_cases e : 4 * i ≤ k ∧ k < 4 * i + 4
            · rw [if_pos e, if_pos (by omega)]
              show lTo kf 60 (4 * i + (k - 4 * i)) = lTo kf 60 k
              rw [show 4 * i + (k - 4 * i) = k by omega]
            · rw [if_neg e]
              dsimp only
              by_cases e1 : k < 4 * i
              · rw [if_pos e1, if_pos (by omega)]
              · rw [if_neg e1, if_neg (by omega)]
          clear hg2 hb2 hb3 HG HN HP HF H1
          simp only [Act.put, List.setIfInBounds_toArray, List.set_cons_zero, List.set_cons_succ]
          refine wpAny_done (by kernel_rfl) ?_ _
          go_wp2
          exact ⟨⟨i + 1, by omega, by go_num, hE⟩, by simp [intOf]; omega⟩
        · obtain rfl : i = 60 := by omega
          go_wp2_with (first | (with_reducible refine load_blk 347 rfl rfl (.tmp 8) rfl go 0 rfl _ hO.o len347 ?_) | (with_reducible refine store_blk 347 rfl rfl (.tmp 2) (.tmp 89) rfl (w.heap.size + 1) 0 _ _ rfl rfl hO.r.c len347 ?_))
          have e : bytes 240 (part (fun k => if k < 4 * 60 then expB kf k else 0#8) 0) = bytes 240 (expB kf) := bytes_ext fun k hk => by simp [part, hk]
          rw [← e]
          exact bodyPost_ret (result_blk rfl rfl _ _ (w.heap.size + 1) _ rfl ((hO.r.c.mid 0 240 _).whole)) rfl ⟨rfl, setCells_below _ _ _ hO.r.bel (by omega)⟩
end Go.Proofs.YtlpbbihjnmikkaaGreatDoor.Aes
