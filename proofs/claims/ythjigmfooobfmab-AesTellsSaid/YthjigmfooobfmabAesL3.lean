/-
  THE WALK of the statement AesTells: true at every input.
-/
import Derived.Test.YthjigmfooobfmabAesT
import Derived.Test.YthjigmfooobfmabFloat
import Derived.IntWalk
import Derived.Deep.DeepCutAuto
namespace Go.Proofs.Ythjigmfooobfmab
open Go.RowKit Gf
set_option linter.unusedSimpArgs false

attribute [local go_sem] eq_blk
theorem arr23 (a : Option Addr) (c : Nat) (w : World) : (Instr.arrayAt 23 (.slice a 16 c)).run Try.prog w = .ok (.pointer a) w := by
  simp [Instr.arrayAt, run_underlying Try.underlying23, go_sem]
attribute [local go_sem] arr23
/-- H holds; and, once made, the block g of noughts is there, above lo. -/
structure Fl (H : World → Prop) (lo : Nat) (og : Option Nat) (w : World) : Prop where
  h : H w
  n : ∀ g, og = some g → Blk w g 23 (bytes 16 fun _ => 0#8) ∧ lo < g
theorem Fl.later {H : World → Prop} {lo : Nat} {og : Option Nat} {w w2 : World} (h : Fl H lo og w) (hH : H w2) (hb : Below w.heap.size w w2) : Fl H lo og w2 :=
  ⟨hH, fun g e => ⟨(h.n g e).1.below hb (h.n g e).1.lt, (h.n g e).2⟩⟩
theorem Fl.makes {H : World → Prop} {lo : Nat} (hA : ∀ w, H w → H (w.alloc (.cells zero16 23))) (hlo : ∀ w, H w → lo < w.heap.size) (d : Option Tmp) (ty : TypeId) (pos : String) :
    Makes Try.prog (Fl H lo) { dst := d, op := .alloc 23, type := ty, pos := pos, after := #[], guard := none } := by
  intro ρ w hw
  refine ⟨w.heap.size, w.alloc (.cells zero16 23), ?_, hA w hw.h, fun g e => ?_⟩
  · go_simp
  · cases e
    exact ⟨Blk.new w 23 _, hlo w hw.h⟩
theorem load_b23 {ops : Array Oper} {rest : List Oper} {o : Oper} {a : Act} {w : World} {Q : Exit → Act → World → Prop} (hgd : o.guard = none) (x : Operand) (ho : o.op = .load 23 x) (g off : Nat) (hx : a.eval x = .pointer (some ⟨g, off, none⟩)) (f : Bf) {N : Nat} {t : TypeId} (hb : Blk w g t (bytes N f)) (hle : off + 16 ≤ N)
    (h : wpList Try.prog ops Q rest (a.put o.dst (.agg (bytes 16 (part f off)))) w) : wpList Try.prog ops Q (o :: rest) a w :=
  load_blk 23 rfl hgd x ho g off hx f hb hle h
set_option maxRecDepth 100000 in
set_option maxHeartbeats 4000000 in
theorem aesTells_walk (kf tf : Bf) (last : Bool) (w : World) : Calls Try.prog 8 #[.agg (bytes 32 kf), .agg (bytes 32 tf), .bool last] w fun e w' => e = .returned (.bool true) ∧ Below w.heap.size w w' := by
  have H0 := H2.start w 31 32 39 32 kf tf
  have hng := no_guard
  obtain ⟨sm, hsm⟩ : ∃ sm, sameB 16 (part tf 0) (part tf 16) = sm := ⟨_, rfl⟩
  have he := same_enc (part kf 0) (part tf 0) (part tf 16)
  have hx : sameB 16 (part (rndB (part tf 0) (part kf 0) last) 0) (part (rndB (part tf 16) (part kf 0) last) 0) = sameB 16 (part tf 0) (part tf 16) := by
    rw [part_zero (rndB _ _ _), part_zero (rndB _ _ _)]
    exact same_rnd (part tf 0) (part tf 16) (part kf 0) last
  rw [hsm] at he hx
  have hbb : (sm == sm) = true := by simp
  go_enter Try.func8, Try.ntmps8
  go_wp2_with fail
  refine (shown_any _).mono ?_
  rintro e w1 ⟨rfl, hb1⟩
  have Ha := H0.later hb1
  clear H0 hb1
  go_wp2_with (first | (with_reducible refine load_b23 rfl (.tmp 12) rfl (w.heap.size + 1) 0 rfl tf Ha.b2 (by decide) ?_) | (with_reducible refine load_b23 rfl (.tmp 14) rfl (w.heap.size + 1) 16 rfl tf Ha.b2 (by decide) ?_))
  have hmk : ∀ d ty pos, Makes Try.prog (Fl (H2 w 31 32 w.heap.size 39 32 (w.heap.size + 1) kf tf) (w.heap.size + 1)) { dst := d, op := .alloc 23, type := ty, pos := pos, after := #[], guard := none } := fun d ty pos => Fl.makes (fun _ h => ⟨h.b1.alloc _, h.b2.alloc _, h.bel.alloc h.bel.size _, h.lo, h.lt1⟩) (fun _ h => h.b2.lt) d ty pos
  refine wp_region_begin (by kernel_rfl) ?_
  refine wpAny_float (oz := ?_) (Fl (H2 w 31 32 w.heap.size 39 32 (w.heap.size + 1) kf tf) (w.heap.size + 1)) [0, 1, 2, 3, 4, 5, 6] 7 ?_ (by kernel_rfl) ?_ ?_ (by kernel_rfl) (by kernel_rfl) (by decide) (⟨Ha.drew, fun g h => by cases h⟩) ?_
  rotate_left 1
  · simp only [List.getElem?_toArray, List.getElem?_cons_zero, List.getElem?_cons_succ]
    with_reducible rfl
  · rfl
  · exact hmk _ _ _
  repeat first
    | (refine ChainF.step (oi := ?_) (v := .agg (bytes 16 (part tf 0))) ?_ (by kernel_rfl) (by kernel_rfl) (by kernel_rfl) ?_ ?_
       rotate_left 1
       · simp only [List.getElem?_toArray, List.getElem?_cons_zero, List.getElem?_cons_succ]
         with_reducible rfl
       · (intro og; refine Or.inl ⟨?_, Gives.val ?_⟩; rfl; intro wz hz; refine load_val (S := Fl (H2 w 31 32 w.heap.size 39 32 (w.heap.size + 1) kf tf) (w.heap.size + 1) og) (ty := 23) (g := w.heap.size + 1) (off := 0) (N := 32) (f := tf) rfl ?_ (by decide) (fun _ h => h.h.b2) wz hz; rfl)
       simp only [Act.put, List.setIfInBounds_toArray, List.set_cons_zero, List.set_cons_succ])
    | (refine ChainF.step (oi := ?_) (v := .agg (bytes 16 (part kf 0))) ?_ (by kernel_rfl) (by kernel_rfl) (by kernel_rfl) ?_ ?_
       rotate_left 1
       · simp only [List.getElem?_toArray, List.getElem?_cons_zero, List.getElem?_cons_succ]
         with_reducible rfl
       · (intro og; refine Or.inl ⟨?_, Gives.val ?_⟩; rfl; intro wz hz; refine load_val (S := Fl (H2 w 31 32 w.heap.size 39 32 (w.heap.size + 1) kf tf) (w.heap.size + 1) og) (ty := 23) (g := w.heap.size) (off := 0) (N := 32) (f := kf) rfl ?_ (by decide) (fun _ h => h.h.b1) wz hz; rfl)
       simp only [Act.put, List.setIfInBounds_toArray, List.set_cons_zero, List.set_cons_succ])
    | (refine ChainF.step (oi := ?_) (v := .agg (bytes 16 (rndB (part tf 0) (part kf 0) last))) ?_ (by kernel_rfl) (by kernel_rfl) (by kernel_rfl) ?_ ?_
       rotate_left 1
       · simp only [List.getElem?_toArray, List.getElem?_cons_zero, List.getElem?_cons_succ]
         with_reducible rfl
       · (intro og; refine Or.inl ⟨?_, Gives.call (f := 18) (args := #[.agg (bytes 16 (part tf 0)), .agg (bytes 16 (part kf 0)), .bool last]) ?_ ?_⟩; rfl; (intro wz hz; go_simp); intro wz hz; exact (round_any (part tf 0) (part kf 0) last wz).mono fun e wy h => ⟨h.1, hz.later (hz.h.later h.2) h.2⟩)
       simp only [Act.put, List.setIfInBounds_toArray, List.set_cons_zero, List.set_cons_succ])
    | (refine ChainF.step (oi := ?_) (v := ?_) ?_ (by kernel_rfl) (by kernel_rfl) (by kernel_rfl) ?_ ?_
       rotate_left 2
       · simp only [List.getElem?_toArray, List.getElem?_cons_zero, List.getElem?_cons_succ]
         with_reducible rfl
       · (intro og; refine Or.inl ⟨?_, Gives.val ?_⟩; rfl; intro wz hz; go_simp; with_reducible rfl)
       simp only [Act.put, List.setIfInBounds_toArray, List.set_cons_zero, List.set_cons_succ])
  refine ChainF.done fun g9 w9 hw9 => ?_
  have HN : H3 w 31 32 w.heap.size 39 32 (w.heap.size + 1) 23 16 g9 kf tf (fun _ => 0#8) w9 := ⟨hw9.h.b1, hw9.h.b2, (hw9.n g9 rfl).1, hw9.h.bel, hw9.h.lo, hw9.h.lt1, (hw9.n g9 rfl).2⟩
  refine wpAny_ready (rs := [8]) (by kernel_rfl) (by simp) ?_
  refine AllReady.cons (o := ?_) ?_ (fun K hK => ?_) AllReady.nil
  rotate_left 1
  · simp only [List.getElem?_toArray, List.getElem?_cons_zero, List.getElem?_cons_succ]
    with_reducible rfl
  refine step_store 23 rfl rfl (.tmp 9) (.tmp 23) rfl g9 0 _ (rndB (part tf 0) (part kf 0) last) rfl rfl HN.b3 (by decide) ?_
  refine hK _ _ ?_
  clear hK K
  refine wpAny_done (by kernel_rfl) ?_ _
  have HM := HN.put3 (rndB (part tf 0) (part kf 0) last)
  simp only [Act.put, List.setIfInBounds_toArray, List.set_cons_zero, List.set_cons_succ]
  clear hmk hw9 HN Ha
  obtain ⟨g3, hg⟩ : ∃ g, g9 = g := ⟨_, rfl⟩
  subst hg
  generalize hq : (w9.setCells g9 0 (bytes (lenOf 23) (rndB (part tf 0) (part kf 0) last)).toList) = w3
  have HS : H3 w 31 32 w.heap.size 39 32 (w.heap.size + 1) 23 16 g9 kf tf (rndB (part tf 0) (part kf 0) last) w3 := hq ▸ HM
  clear HM hq
  generalize g9 = g3 at HS ⊢
  go_wp2
  have hmk : ∀ d ty pos, Makes Try.prog (Fl (H3 w 31 32 w.heap.size 39 32 (w.heap.size + 1) 23 16 g3 kf tf (rndB (part tf 0) (part kf 0) last)) (g3)) { dst := d, op := .alloc 23, type := ty, pos := pos, after := #[], guard := none } := fun d ty pos => Fl.makes (fun _ h => ⟨h.b1.alloc _, h.b2.alloc _, h.b3.alloc _, h.bel.alloc h.bel.size _, h.lo, h.lt1, h.lt2⟩) (fun _ h => h.b3.lt) d ty pos
  refine wp_region_begin (by kernel_rfl) ?_
  refine wpAny_float (oz := ?_) (Fl (H3 w 31 32 w.heap.size 39 32 (w.heap.size + 1) 23 16 g3 kf tf (rndB (part tf 0) (part kf 0) last)) (g3)) [0, 1, 2, 3, 4, 5, 6] 7 ?_ (by kernel_rfl) ?_ ?_ (by kernel_rfl) (by kernel_rfl) (by decide) (⟨HS.drew, fun g h => by cases h⟩) ?_
  rotate_left 1
  · simp only [List.getElem?_toArray, List.getElem?_cons_zero, List.getElem?_cons_succ]
    with_reducible rfl
  · rfl
  · exact hmk _ _ _
  repeat first
    | (refine ChainF.step (oi := ?_) (v := .agg (bytes 16 (part tf 16))) ?_ (by kernel_rfl) (by kernel_rfl) (by kernel_rfl) ?_ ?_
       rotate_left 1
       · simp only [List.getElem?_toArray, List.getElem?_cons_zero, List.getElem?_cons_succ]
         with_reducible rfl
       · (intro og; refine Or.inl ⟨?_, Gives.val ?_⟩; rfl; intro wz hz; refine load_val (S := Fl (H3 w 31 32 w.heap.size 39 32 (w.heap.size + 1) 23 16 g3 kf tf (rndB (part tf 0) (part kf 0) last)) (g3) og) (ty := 23) (g := w.heap.size + 1) (off := 16) (N := 32) (f := tf) rfl ?_ (by decide) (fun _ h => h.h.b2) wz hz; rfl)
       simp only [Act.put, List.setIfInBounds_toArray, List.set_cons_zero, List.set_cons_succ])
    | (refine ChainF.step (oi := ?_) (v := .agg (bytes 16 (part kf 0))) ?_ (by kernel_rfl) (by kernel_rfl) (by kernel_rfl) ?_ ?_
       rotate_left 1
       · simp only [List.getElem?_toArray, List.getElem?_cons_zero, List.getElem?_cons_succ]
         with_reducible rfl
       · (intro og; refine Or.inl ⟨?_, Gives.val ?_⟩; rfl; intro wz hz; refine load_val (S := Fl (H3 w 31 32 w.heap.size 39 32 (w.heap.size + 1) 23 16 g3 kf tf (rndB (part tf 0) (part kf 0) last)) (g3) og) (ty := 23) (g := w.heap.size) (off := 0) (N := 32) (f := kf) rfl ?_ (by decide) (fun _ h => h.h.b1) wz hz; rfl)
       simp only [Act.put, List.setIfInBounds_toArray, List.set_cons_zero, List.set_cons_succ])
    | (refine ChainF.step (oi := ?_) (v := .agg (bytes 16 (rndB (part tf 16) (part kf 0) last))) ?_ (by kernel_rfl) (by kernel_rfl) (by kernel_rfl) ?_ ?_
       rotate_left 1
       · simp only [List.getElem?_toArray, List.getElem?_cons_zero, List.getElem?_cons_succ]
         with_reducible rfl
       · (intro og; refine Or.inl ⟨?_, Gives.call (f := 18) (args := #[.agg (bytes 16 (part tf 16)), .agg (bytes 16 (part kf 0)), .bool last]) ?_ ?_⟩; rfl; (intro wz hz; go_simp); intro wz hz; exact (round_any (part tf 16) (part kf 0) last wz).mono fun e wy h => ⟨h.1, hz.later (hz.h.later h.2) h.2⟩)
       simp only [Act.put, List.setIfInBounds_toArray, List.set_cons_zero, List.set_cons_succ])
    | (refine ChainF.step (oi := ?_) (v := ?_) ?_ (by kernel_rfl) (by kernel_rfl) (by kernel_rfl) ?_ ?_
       rotate_left 2
       · simp only [List.getElem?_toArray, List.getElem?_cons_zero, List.getElem?_cons_succ]
         with_reducible rfl
       · (intro og; refine Or.inl ⟨?_, Gives.val ?_⟩; rfl; intro wz hz; go_simp; with_reducible rfl)
       simp only [Act.put, List.setIfInBounds_toArray, List.set_cons_zero, List.set_cons_succ])
  refine ChainF.done fun g9 w9 hw9 => ?_
  have HN : H4 w 31 32 w.heap.size 39 32 (w.heap.size + 1) 23 16 g3 23 16 g9 kf tf (rndB (part tf 0) (part kf 0) last) (fun _ => 0#8) w9 := ⟨hw9.h.b1, hw9.h.b2, hw9.h.b3, (hw9.n g9 rfl).1, hw9.h.bel, hw9.h.lo, hw9.h.lt1, hw9.h.lt2, (hw9.n g9 rfl).2⟩
  refine wpAny_ready (rs := [8]) (by kernel_rfl) (by simp) ?_
  refine AllReady.cons (o := ?_) ?_ (fun K hK => ?_) AllReady.nil
  rotate_left 1
  · simp only [List.getElem?_toArray, List.getElem?_cons_zero, List.getElem?_cons_succ]
    with_reducible rfl
  refine step_store 23 rfl rfl (.tmp 10) (.tmp 30) rfl g9 0 _ (rndB (part tf 16) (part kf 0) last) rfl rfl HN.b4 (by decide) ?_
  refine hK _ _ ?_
  clear hK K
  refine wpAny_done (by kernel_rfl) ?_ _
  have HM := HN.put4 (rndB (part tf 16) (part kf 0) last)
  simp only [Act.put, List.setIfInBounds_toArray, List.set_cons_zero, List.set_cons_succ]
  clear hmk hw9 HN HS
  generalize hq : (w9.setCells g9 0 (bytes (lenOf 23) (rndB (part tf 16) (part kf 0) last)).toList) = w4
  have HS : H4 w 31 32 w.heap.size 39 32 (w.heap.size + 1) 23 16 g3 23 16 g9 kf tf (rndB (part tf 0) (part kf 0) last) (rndB (part tf 16) (part kf 0) last) w4 := hq ▸ HM
  clear HM hq
  generalize g9 = g4 at HS ⊢
  go_wp2
  refine wp_region_begin (by kernel_rfl) ?_
  refine wpAny_steady (H4 w 31 32 w.heap.size 39 32 (w.heap.size + 1) 23 16 g3 23 16 g4 kf tf (rndB (part tf 0) (part kf 0) last) (rndB (part tf 16) (part kf 0) last)) [0, 1, 2, 3, 4, 5, 6, 7, 8, 9, 10, 11, 12, 13, 14, 15, 16, 17, 18, 19, 20] (by kernel_rfl) (HS.drew) ?_
  repeat first
    | (refine Chain.step (oi := ?_) (v := .agg (bytes 32 (part kf 0))) ?_ (by kernel_rfl) (by kernel_rfl) (by kernel_rfl) ?_ ?_
       rotate_left 1
       · simp only [List.getElem?_toArray, List.getElem?_cons_zero, List.getElem?_cons_succ]
         with_reducible rfl
       · (refine Or.inl ⟨?_, Gives.val ?_⟩; rfl; intro wz hz; refine load_val (S := H4 w 31 32 w.heap.size 39 32 (w.heap.size + 1) 23 16 g3 23 16 g4 kf tf (rndB (part tf 0) (part kf 0) last) (rndB (part tf 16) (part kf 0) last)) (ty := 31) (g := w.heap.size) (off := 0) (N := 32) (f := kf) rfl ?_ (by decide) (fun _ h => h.b1) wz hz; rfl)
       simp only [Act.put, List.setIfInBounds_toArray, List.set_cons_zero, List.set_cons_succ])
    | (refine Chain.step (oi := ?_) (v := .agg (bytes 16 (part tf 0))) ?_ (by kernel_rfl) (by kernel_rfl) (by kernel_rfl) ?_ ?_
       rotate_left 1
       · simp only [List.getElem?_toArray, List.getElem?_cons_zero, List.getElem?_cons_succ]
         with_reducible rfl
       · (refine Or.inl ⟨?_, Gives.val ?_⟩; rfl; intro wz hz; refine load_val (S := H4 w 31 32 w.heap.size 39 32 (w.heap.size + 1) 23 16 g3 23 16 g4 kf tf (rndB (part tf 0) (part kf 0) last) (rndB (part tf 16) (part kf 0) last)) (ty := 23) (g := w.heap.size + 1) (off := 0) (N := 32) (f := tf) rfl ?_ (by decide) (fun _ h => h.b2) wz hz; rfl)
       simp only [Act.put, List.setIfInBounds_toArray, List.set_cons_zero, List.set_cons_succ])
    | (refine Chain.step (oi := ?_) (v := .agg (bytes 16 (part tf 16))) ?_ (by kernel_rfl) (by kernel_rfl) (by kernel_rfl) ?_ ?_
       rotate_left 1
       · simp only [List.getElem?_toArray, List.getElem?_cons_zero, List.getElem?_cons_succ]
         with_reducible rfl
       · (refine Or.inl ⟨?_, Gives.val ?_⟩; rfl; intro wz hz; refine load_val (S := H4 w 31 32 w.heap.size 39 32 (w.heap.size + 1) 23 16 g3 23 16 g4 kf tf (rndB (part tf 0) (part kf 0) last) (rndB (part tf 16) (part kf 0) last)) (ty := 23) (g := w.heap.size + 1) (off := 16) (N := 32) (f := tf) rfl ?_ (by decide) (fun _ h => h.b2) wz hz; rfl)
       simp only [Act.put, List.setIfInBounds_toArray, List.set_cons_zero, List.set_cons_succ])
    | (refine Chain.step (oi := ?_) (v := .agg (bytes 16 (part (rndB (part tf 0) (part kf 0) last) 0))) ?_ (by kernel_rfl) (by kernel_rfl) (by kernel_rfl) ?_ ?_
       rotate_left 1
       · simp only [List.getElem?_toArray, List.getElem?_cons_zero, List.getElem?_cons_succ]
         with_reducible rfl
       · (refine Or.inl ⟨?_, Gives.val ?_⟩; rfl; intro wz hz; refine load_val (S := H4 w 31 32 w.heap.size 39 32 (w.heap.size + 1) 23 16 g3 23 16 g4 kf tf (rndB (part tf 0) (part kf 0) last) (rndB (part tf 16) (part kf 0) last)) (ty := 23) (g := g3) (off := 0) (N := 16) (f := rndB (part tf 0) (part kf 0) last) rfl ?_ (by decide) (fun _ h => h.b3) wz hz; rfl)
       simp only [Act.put, List.setIfInBounds_toArray, List.set_cons_zero, List.set_cons_succ])
    | (refine Chain.step (oi := ?_) (v := .agg (bytes 16 (part (rndB (part tf 16) (part kf 0) last) 0))) ?_ (by kernel_rfl) (by kernel_rfl) (by kernel_rfl) ?_ ?_
       rotate_left 1
       · simp only [List.getElem?_toArray, List.getElem?_cons_zero, List.getElem?_cons_succ]
         with_reducible rfl
       · (refine Or.inl ⟨?_, Gives.val ?_⟩; rfl; intro wz hz; refine load_val (S := H4 w 31 32 w.heap.size 39 32 (w.heap.size + 1) 23 16 g3 23 16 g4 kf tf (rndB (part tf 0) (part kf 0) last) (rndB (part tf 16) (part kf 0) last)) (ty := 23) (g := g4) (off := 0) (N := 16) (f := rndB (part tf 16) (part kf 0) last) rfl ?_ (by decide) (fun _ h => h.b4) wz hz; rfl)
       simp only [Act.put, List.setIfInBounds_toArray, List.set_cons_zero, List.set_cons_succ])
    | (refine Chain.step (oi := ?_) (v := .agg (bytes 16 (encB (part kf 0) (part tf 0)))) ?_ (by kernel_rfl) (by kernel_rfl) (by kernel_rfl) ?_ ?_
       rotate_left 1
       · simp only [List.getElem?_toArray, List.getElem?_cons_zero, List.getElem?_cons_succ]
         with_reducible rfl
       · (refine Or.inl ⟨?_, Gives.call (f := 20) (args := #[.agg (bytes 32 (part kf 0)), .agg (bytes 16 (part tf 0))]) ?_ ?_⟩; rfl; (intro wz hz; go_simp); intro wz hz; exact (encrypt_any (part kf 0) (part tf 0) wz).mono fun e wy h => ⟨h.1, H4.later hz h.2⟩)
       simp only [Act.put, List.setIfInBounds_toArray, List.set_cons_zero, List.set_cons_succ])
    | (refine Chain.step (oi := ?_) (v := .agg (bytes 16 (encB (part kf 0) (part tf 16)))) ?_ (by kernel_rfl) (by kernel_rfl) (by kernel_rfl) ?_ ?_
       rotate_left 1
       · simp only [List.getElem?_toArray, List.getElem?_cons_zero, List.getElem?_cons_succ]
         with_reducible rfl
       · (refine Or.inl ⟨?_, Gives.call (f := 20) (args := #[.agg (bytes 32 (part kf 0)), .agg (bytes 16 (part tf 16))]) ?_ ?_⟩; rfl; (intro wz hz; go_simp); intro wz hz; exact (encrypt_any (part kf 0) (part tf 16) wz).mono fun e wy h => ⟨h.1, H4.later hz h.2⟩)
       simp only [Act.put, List.setIfInBounds_toArray, List.set_cons_zero, List.set_cons_succ])
    | (refine Chain.step (oi := ?_) (v := ?_) ?_ (by kernel_rfl) (by kernel_rfl) (by kernel_rfl) ?_ ?_
       rotate_left 2
       · simp only [List.getElem?_toArray, List.getElem?_cons_zero, List.getElem?_cons_succ]
         with_reducible rfl
       · (refine Or.inl ⟨?_, Gives.val ?_⟩; rfl; intro wz hz; go_simp; with_reducible rfl)
       simp only [Act.put, List.setIfInBounds_toArray, List.set_cons_zero, List.set_cons_succ])
  refine Chain.done fun w9 hw9 => ?_
  refine wpAny_ready (rs := [21]) (by kernel_rfl) (by simp) ?_
  refine AllReady.cons (o := ?_) ?_ (fun K hK => ?_) AllReady.nil
  rotate_left 1
  · simp only [List.getElem?_toArray, List.getElem?_cons_zero, List.getElem?_cons_succ]
    with_reducible rfl
  go_simp
  refine hK _ _ ?_
  clear hK K
  refine wpAny_done (by kernel_rfl) ?_ _
  go_wp2
  go_ret
  exact ⟨rfl, hw9.bel⟩
end Go.Proofs.Ythjigmfooobfmab
