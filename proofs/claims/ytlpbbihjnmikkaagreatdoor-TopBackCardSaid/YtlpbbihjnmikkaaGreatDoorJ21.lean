/-
  Joined: DskB, ShaA
-/
import Derived.Test.YtlpbbihjnmikkaaGreatDoorJ20
import Derived.Test.YtlpbbihjnmikkaaGreatDoorJ16
namespace Go.Proofs.YtlpbbihjnmikkaaGreatDoor.Exe
set_option linter.unusedSimpArgs false
set_option linter.unusedVariables false
set_option maxRecDepth 100000
open Go.RowKit

abbrev nilV : Value := .slice none 0 0
/-- The disk's cells. -/
abbrev dskC (now sure since : Value) (st : Int) (ext : List Value) : Array Value := (now :: sure :: since :: nilV :: nilV :: nilV :: nilV :: nilV :: nilV :: nilV :: nilV :: nilV :: .bool false :: .bool false :: .int .i64 0 :: .int .i64 st :: ext).toArray
/-- Only one block is changed. -/
structure But (g n : Nat) (w w' : World) : Prop where
  size : w.heap.size ≤ w'.heap.size
  block : ∀ i : Nat, i < n → i ≠ g → w'.heap[i]? = w.heap[i]?
  calm : Calm w w'
theorem Calm.b {g n : Nat} {w w' u : World} (h : Calm w w') (k : But g n w' u) : Calm w u := h.trans k.3
theorem But.refl (g n : Nat) (w : World) : But g n w w := ⟨Nat.le_refl _, fun _ _ _ => rfl, Calm.refl _⟩
theorem But.keeps {g n m : Nat} {w w1 w2 : World} (h : But g n w w1) (k : Keeps m w1 w2) (hm : n ≤ m) : But g n w w2 := ⟨Nat.le_trans h.1 k.1, fun i hi hg => (k.2 i (by omega)).trans (h.2 i hi hg), h.3.trans k.3⟩
theorem But.set {g n : Nat} {w w1 : World} (h : But g n w w1) (i : Nat) (v : Value) : But g n w (w1.setCell ⟨g, i, none⟩ v) := ⟨by simpa using h.1, fun k hk hg => (Below.heap_setCell w1 ⟨g, i, none⟩ v k hg).trans (h.2 k hk hg), h.3.trans ⟨rfl, rfl⟩⟩
theorem But.trans {g n m : Nat} {w w1 w2 : World} (h : But g n w w1) (k : But g m w1 w2) (hm : n ≤ m) : But g n w w2 := ⟨Nat.le_trans h.1 k.1, fun i hi hg => (k.2 i (by omega) hg).trans (h.2 i hi hg), h.3.trans k.3⟩
theorem Cells.set {w : World} {g : Nat} {cs : Array Value} {t : TypeId} (h : Cells w g cs t) (i : Nat) (v : Value) : Cells (w.setCell ⟨g, i, none⟩ v) g (cs.setIfInBounds i v) t := Blk.set_ (show Blk w g t cs from h) i v
theorem Cells.frozen {w : World} {g : Nat} {cs : Array Value} {t : TypeId} (h : Cells w g cs t) (i : Nat) : w.frozen? ⟨g, i, none⟩ = false := Blk.frozen (show Blk w g t cs from h) i
theorem RowB.but {v : Value} {s : Nat → Prop} {l : List Oct} {w w' : World} {g n : Nat} (h : RowB v s l w) (hg : ¬ s g) (hn : ∀ i, s i → i < n) (k : But g n w w') : RowB v s l w' := h.stable fun b hb => k.2 b (hn b hb) fun e => hg (e ▸ hb)
theorem at123 (g : Nat) (w : World) : Calls Tryz.prog 123 #[.pointer (some ⟨g, 0, none⟩), .int .i64 0] w fun e w' => e = .returned (.pointer (some ⟨g, 0, none⟩)) ∧ w = w' := by
  go_enter Tryz.func123, Tryz.ntmps123
  go_wp2
  go_ret
  exact ⟨rfl, rfl⟩
theorem power125 {g : Nat} {w : World} (q12 : w.cell? ⟨g, 12, none⟩ = some (.bool false)) (q13 : w.cell? ⟨g, 13, none⟩ = some (.bool false)) : Calls Tryz.prog 125 #[.pointer (some ⟨g, 0, none⟩)] w fun e w' => e = .returned (.bool true) ∧ w = w' := by
  go_enter Tryz.func125, Tryz.ntmps125
  go_wp2
  go_ret
  exact ⟨rfl, rfl⟩
/-- A step is counted. -/
theorem step126 {ext : List Value} {g : Nat} {w : World} {now sure since : Value} {st : Int} (hg : Cells w g (dskC now sure since st ext) 70) (hst1 : IntKind.i64.wrap (st + 1) = st + 1) : Calls Tryz.prog 126 #[.pointer (some ⟨g, 0, none⟩)] w fun e w' => e = .returned (.tuple #[]) ∧ Cells w' g (dskC now sure since (st + 1) ext) 70 ∧ But g w.heap.size w w' ∧ w'.heap.size = w.heap.size := by
  have q13 := hg.cell 13
  have q15 := hg.cell 15
  have f15 := hg.frozen 15
  simp only [List.getElem?_toArray, List.getElem?_cons_zero, List.getElem?_cons_succ] at q13 q15
  have hs := hg.set 15 (.int .i64 (st + 1))
  have q13' : (w.setCell ⟨g, 15, none⟩ (.int .i64 (st + 1))).cell? ⟨g, 13, none⟩ = some (.bool false) := hs.cell 13
  have hb := (But.refl g w.heap.size w).set 15 (.int .i64 (st + 1))
  go_enter Tryz.func126, Tryz.ntmps126
  go_wp2
  exact bodyPost_end (results_none rfl _ _ _) rfl ⟨rfl, hs, hb, by simp⟩
theorem owns_set {w : World} {g i base : Nat} {v x : Value} {l : List Oct} (h : Owns w base v l) (hg : g < base) : Owns (w.setCell ⟨g, i, none⟩ x) base v l := by
  refine ⟨h.1, h.2.imp id fun ⟨r, cap, cur, h1, h2, h3, h4⟩ => ⟨r, cap, cur, h1, h2, (Below.heap_setCell w ⟨g, i, none⟩ x r (by show r ≠ g; omega)).trans h3, h4⟩⟩
set_option maxHeartbeats 4000000 in
theorem does44 {w : World} {ext : List Value} {g : Nat} {st : Int} {now sure since u : Value} {s : Nat → Prop} {l k : List Oct} (hg : Cells w g (dskC now sure since st ext) 70) (hn : RowB now s l w) (hu : Src u k w) (hlk : l.length + k.length ≤ 1048576) (h0 : 0 < k.length) :
    Calls Tryz.prog 44 #[.pointer (some ⟨g, 0, none⟩), .agg #[.bool false, .int .i64 0, u]] w fun e w' => ∃ now', e = .returned (.tuple #[]) ∧ Cells w' g (dskC now' sure since st ext) 70 ∧ Owns w' w.heap.size now' (l ++ k) ∧ But g w.heap.size w w' := by
  obtain ⟨A, c, rfl⟩ := hn.slice
  obtain ⟨A2, c2, rfl⟩ := hu.slice
  have kA := Keeps.alloc w (.cells #[.bool false, .int .i64 0, .slice A2 k.length c2] 128)
  have hb : Cells (w.alloc (.cells #[.bool false, .int .i64 0, .slice A2 k.length c2] 128)) w.heap.size #[.bool false, .int .i64 0, .slice A2 k.length c2] 128 := heap_new w _ 128
  have hg1 := hg.keeps kA
  have hn1 := hn.src.later kA.1 kA.2
  have hu1 := hu.later kA.1 kA.2
  have hl : l.length ≤ 1048576 := by omega
  have hk : k.length ≤ 1048576 := by omega
  have hpos : 0 < l.length + k.length := by omega
  go_enter Tryz.func44, Tryz.ntmps44
  go_wp2_with fail
  generalize w.alloc (.cells #[.bool false, .int .i64 0, .slice A2 k.length c2] 128) = wa at kA hb hg1 hn1 hu1 ⊢
  have q0 : wa.drew.cell? ⟨g, 0, none⟩ = some (.slice A l.length c) := hg1.cell 0
  have q2 : wa.drew.cell? ⟨w.heap.size, 2, none⟩ = some (.slice A2 k.length c2) := hb.cell 2
  have kb : Keeps wa.heap.size wa (wa.alloc (.cells #[.slice A l.length c, .slice A2 k.length c2] 24)).drew := ⟨(Keeps.alloc wa _).1, (Keeps.alloc wa (.cells #[.slice A l.length c, .slice A2 k.length c2] 24)).2, rfl, rfl⟩
  have hC := concat2L (w := (wa.alloc (.cells #[.slice A l.length c, .slice A2 k.length c2] 24)).drew) (b := wa.heap.size) (heap_new wa #[.slice A l.length c, .slice A2 k.length c2] 24) (hn1.later kb.1 kb.2) (hu1.later kb.1 kb.2) hl hk hpos
  go_region_with (first
    | (go_at_call 100; (with_reducible refine hC.mono ?_); rintro e w3 ⟨v3, rfl, o3, k3⟩; have g3 := (hg1.keeps kb).keeps k3; have q3 := g3.cell 0; have f3 := g3.frozen 0; obtain ⟨A3, c3, rfl⟩ := o3.slice; simp only [List.getElem?_toArray, List.getElem?_cons_zero] at q3))
  all_goals
    rw [List.length_append] at o3
    have hlt := hg.lt
    have hba : w.heap.size ≤ (wa.alloc (.cells #[.slice A l.length c, .slice A2 k.length c2] 24)).drew.heap.size := Nat.le_trans kA.1 kb.1
    refine bodyPost_end (results_none rfl _ _ _) rfl ⟨.slice A3 (l.length + k.length) c3, rfl, g3.set 0 (.slice A3 (l.length + k.length) c3), owns_base hba (owns_set o3 (by omega)), ?_⟩
    exact ((((But.refl g w.heap.size w).keeps kA (Nat.le_refl _)).keeps kb kA.1).keeps k3 hba).set 0 _
theorem info128 : (Tryz.prog.info? 128).map (fun i => (i.zero.isSome, i.size, i.bytes)) = some (true, 3, 40) := by kernel_rfl
theorem info128s {a b c : Value} : (Tryz.prog.info? 128).map (·.size) = some (#[a, b, c] : Array Value).size := by kernel_rfl
theorem under65 : Tryz.prog.underlying 65 = some (.slice 128) := by kernel_rfl
theorem run_since {w : World} {gs : Nat} {x y z : Value} (h : Cells w gs #[x, y, z] 128) (ty : TypeId) : ∃ c w', (Builtin.append_ #[65, 65] ty #[.slice none 0 0, .slice (some ⟨gs, 0, none⟩) 1 1]).run Tryz.prog w = .ok (.slice (some ⟨w.heap.size, 0, none⟩) 1 c) w' ∧ Keeps w.heap.size w w' := by
  obtain ⟨i, hi, hs⟩ := Option.map_eq_some_iff.1 info128
  simp only [Prod.mk.injEq] at hs
  obtain ⟨h1, h2, h3⟩ := hs
  obtain ⟨zv, hz⟩ := Option.isSome_iff_exists.1 h1
  have hr := run_append_nil (P := Tryz.prog) w 65 ty 128 i zv under65 hi hz ⟨gs, 0, none⟩ 1 1 [x, y, z] (by simp [h2]) (fun j v hj => by
    rw [Addr.add_mid, Nat.zero_add, h.cell]
    simpa using hj) (by decide) (by decide) (by rw [h3]; decide)
  exact ⟨_, _, hr, ⟨by simp, fun j hj => heap_alloc_old (w := w.drew) _ (by show j < w.heap.size; omega), rfl, rfl⟩⟩
theorem step_since {ops : Array Oper} {o : Oper} {a : Act} {w : World} {Q : Exit → Act → World → Prop} {K : Act → World → Prop} {E : Prop} (hgd : o.guard = none) (s x : Operand) (ho : o.op = .call { callee := .builtin .append, args := #[s, x], argTypes := #[65, 65] })
    {gs : Nat} {p q r : Value} (hs : a.eval s = .slice none 0 0) (hx : a.eval x = .slice (some ⟨gs, 0, none⟩) 1 1) (hg : Cells w gs #[p, q, r] 128)
    (h : ∀ c w', Keeps w.heap.size w w' → K (a.put o.dst (.slice (some ⟨w.heap.size, 0, none⟩) 1 c)) w') : if Region.wanted o (yielded ops a.tmps) = true then Oper.wp Tryz.prog o a w K Q else E := by
  have hw : Region.wanted o (yielded ops a.tmps) = true := by simp [Region.wanted, hgd]
  rw [if_pos hw]
  obtain ⟨c, w', hrun, h2⟩ := run_since hg o.type
  unfold Oper.wp execOp
  simp only [ho, resolve, invoke, builtin, Sem.run_bind, Sem.run_pure, Result.andThen_ok, List.map_toArray, List.map_cons, List.map_nil, hs, hx]
  rw [hrun]
  exact h c w' h2
/-- What the end of Append looks at. -/
structure Dz (w : World) (ext : List Value) (g gx : Nat) (now sure : Value) (st : Int) (v : Value) (M : List Oct) (og : Option Value) (w' : World) : Prop where
  d : Cells w' g (dskC now sure nilV st ext) 70
  x : Cells w' gx #[.bool false, .int .i64 0, v] 128
  b : But g w.heap.size w w'
  o : Owns w' w.heap.size now M
  m : ∀ u, og = some u → ∃ gs, u = .slice (some ⟨gs, 0, none⟩) 1 1 ∧ Cells w' gs #[.bool false, .int .i64 0, v] 128
theorem Dz.later {w w1 w2 : World} {ext : List Value} {g gx : Nat} {now sure : Value} {st : Int} {v : Value} {M : List Oct} {og : Option Value} (h : Dz w ext g gx now sure st v M og w1) (q : Keeps w1.heap.size w1 w2) : Dz w ext g gx now sure st v M og w2 :=
  ⟨h.d.keeps q, h.x.keeps q, h.b.keeps q h.b.1, h.o.keeps q, fun u e => by
    obtain ⟨gs, h1, h2⟩ := h.m u e
    exact ⟨gs, h1, h2.keeps q⟩⟩
theorem Dz.made {w w1 : World} {ext : List Value} {g gx : Nat} {now sure : Value} {st : Int} {v : Value} {M : List Oct} (h : Dz w ext g gx now sure st v M none w1) : Dz w ext g gx now sure st v M (some (.slice (some ⟨w1.heap.size, 0, none⟩) 1 1)) (w1.alloc (.cells #[.bool false, .int .i64 0, v] 128)) := by
  have h2 := h.later (Keeps.alloc w1 (.cells #[.bool false, .int .i64 0, v] 128))
  exact ⟨h2.d, h2.x, h2.b, h2.o, fun u e => by
    cases e
    exact ⟨_, rfl, heap_new w1 _ 128⟩⟩
set_option maxHeartbeats 4000000 in
theorem append156 {w : World} {ext : List Value} {g : Nat} {st : Int} {now sure u : Value} {s s2 : Nat → Prop} {l k : List Oct} (hg : Cells w g (dskC now sure nilV st ext) 70) (hst : 0 ≤ st) (hst2 : st < 2000000) (hn : RowB now s l w) (hns : ¬ s g) (hnl : ∀ i, s i → i < w.heap.size) (hu : RowB u s2 k w) (hus : ¬ s2 g) (hul : ∀ i, s2 i → i < w.heap.size) (hlk : l.length + k.length ≤ 1048576) (h0 : 0 < k.length) :
    Calls Tryz.prog 156 #[.pointer (some ⟨g, 0, none⟩), .int .i64 0, u] w fun e w' => ∃ now' since', e = .returned (.int .i64 0) ∧ Cells w' g (dskC now' sure since' (st + 1) ext) 70 ∧ Owns w' w.heap.size now' (l ++ k) ∧ But g w.heap.size w w' := by
  obtain ⟨A, c, rfl⟩ := hn.slice
  obtain ⟨A2, c2, rfl⟩ := hu.slice
  have q0 := hg.cell 0
  have q12 := hg.cell 12
  have q13 := hg.cell 13
  simp only [List.getElem?_toArray, List.getElem?_cons_zero, List.getElem?_cons_succ] at q0 q12 q13
  have hsub : ¬ ((k.length : Int) > 1048576 - (l.length : Int)) := by omega
  have hst1 : IntKind.i64.wrap (st + 1) = st + 1 := IntWalk.i64_in _ (by omega)
  have hk : k.length ≤ 1048576 := by omega
  go_enter Tryz.func156, Tryz.ntmps156
  go_wp2_with (first
    | (go_at_call 123; (with_reducible refine (at123 g w).mono ?_); rintro e w0 ⟨rfl, rfl⟩)
    | (go_at_call 125; (with_reducible refine (power125 q12 q13).mono ?_); rintro e w0 ⟨rfl, rfl⟩)
    | (go_at_call 126; (with_reducible refine (step126 hg hst1).mono ?_); rintro e w1 ⟨rfl, g1, b1, z1⟩; have n1 := hn.but hns hnl b1; have u1 := (hu.but hus hul b1).src; clear q0 q12 q13)
    | (go_at_call 8; (with_reducible refine (clone8L u1 hk).mono ?_); rintro e w2 ⟨v2, rfl, o2, k2⟩; obtain ⟨A4, c4, rfl⟩ := o2.slice; have g2 := g1.keeps k2; have b2 := b1.keeps k2 (by rw [z1]; exact Nat.le_refl _); have n2 := n1.stable (fun b hb => k2.2 b (by rw [z1]; exact hnl b hb)); have kx := Keeps.alloc w2 (.cells #[.bool false, .int .i64 0, .slice A4 k.length c4] 128); have g3 := g2.keeps kx; have n3 := n2.stable (fun b hb => kx.2 b (Nat.lt_of_lt_of_le (hnl b hb) b2.1)); have u3 := (Owns.rowB o2).src.later kx.1 kx.2; have x3 : Cells (w2.alloc (.cells #[.bool false, .int .i64 0, .slice A4 k.length c4] 128)) w2.heap.size #[.bool false, .int .i64 0, .slice A4 k.length c4] 128 := heap_new w2 _ 128; have b3 := b2.keeps kx b2.1; clear g1 g2 n1 n2 k2 u1)
    | (go_at_call 44; (with_reducible refine (does44 g3 n3 u3 hlk h0).mono ?_); rintro e w4 ⟨now4, rfl, g4, o4, b4⟩; have x4 : Cells w4 w2.heap.size _ 128 := (b4.2 _ x3.lt (fun e => by have := hg.lt; have := b2.1; omega)).trans x3; have b5 := b3.trans b4 b3.1; have o5 := owns_base b3.1 o4; clear g3 n3 u3 x3 b3 b4 o4 kx))
  try simp only [Act.put]
  refine wp_region_begin (by kernel_rfl) ?_
  generalize w2.heap.size = gx at x4 ⊢
  have g4 : Cells w4.drew g (dskC now4 sure nilV (st + 1) ext) 70 := g4
  have x4 : Cells w4.drew gx #[.bool false, .int .i64 0, .slice A4 k.length c4] 128 := x4
  have b5 := b5.keeps (m := w4.heap.size) (w2 := w4.drew) ⟨Nat.le_refl _, fun _ _ => rfl, rfl, rfl⟩ b5.1
  have o5 : Owns w4.drew w.heap.size now4 (l ++ k) := o5
  generalize w4.drew = wd at g4 x4 b5 o5 ⊢
  refine wpAny_take (i := 0) (oi := ?_) (v := ?_) ?_ (by kernel_rfl) (by kernel_rfl) (by kernel_rfl) ?_ ?_ ?_
  rotate_left 2
  · simp only [List.getElem?_toArray, List.getElem?_cons_zero, List.getElem?_cons_succ]
    with_reducible rfl
  · exact fun _ _ _ q => q
  · (refine Or.inl ⟨?_, ?_⟩; rfl; intro w; go_simp; with_reducible rfl)
  simp only [Act.put, List.setIfInBounds_toArray, List.set_cons_zero, List.set_cons_succ]
  refine wpAny_take (i := 1) (oi := ?_) (v := ?_) ?_ (by kernel_rfl) (by kernel_rfl) (by kernel_rfl) ?_ ?_ ?_
  rotate_left 2
  · simp only [List.getElem?_toArray, List.getElem?_cons_zero, List.getElem?_cons_succ]
    with_reducible rfl
  · exact fun _ _ _ q => q
  · (refine Or.inl ⟨?_, ?_⟩; rfl; intro w; go_simp; with_reducible rfl)
  simp only [Act.put, List.setIfInBounds_toArray, List.set_cons_zero, List.set_cons_succ]
  refine wpAny_take (i := 2) (oi := ?_) (v := ?_) ?_ (by kernel_rfl) (by kernel_rfl) (by kernel_rfl) ?_ ?_ ?_
  rotate_left 2
  · simp only [List.getElem?_toArray, List.getElem?_cons_zero, List.getElem?_cons_succ]
    with_reducible rfl
  · exact fun _ _ _ q => q
  · (refine Or.inl ⟨?_, ?_⟩; rfl; intro w; go_simp; with_reducible rfl)
  simp only [Act.put, List.setIfInBounds_toArray, List.set_cons_zero, List.set_cons_succ]
  refine wpAny_take (i := 3) (oi := ?_) (v := ?_) ?_ (by kernel_rfl) (by kernel_rfl) (by kernel_rfl) ?_ ?_ ?_
  rotate_left 2
  · simp only [List.getElem?_toArray, List.getElem?_cons_zero, List.getElem?_cons_succ]
    with_reducible rfl
  · exact fun _ _ _ q => q
  · (refine Or.inl ⟨?_, ?_⟩; rfl; intro w; go_simp; with_reducible rfl)
  simp only [Act.put, List.setIfInBounds_toArray, List.set_cons_zero, List.set_cons_succ]
  have hz : Dz w ext g gx now4 sure (st + 1) (.slice A4 k.length c4) (l ++ k) none wd := ⟨g4, x4, b5, o5, fun u e => by cases e⟩
  refine wpAny_mix (oz := ?_) (Dz w ext g gx now4 sure (st + 1) (.slice A4 k.length c4) (l ++ k)) [4, 5] 6 ?_ (by kernel_rfl) ?_ (by kernel_rfl) (by kernel_rfl) (by kernel_rfl) (by decide) rfl hz ?_
  rotate_left 1
  · simp only [List.getElem?_toArray, List.getElem?_cons_zero, List.getElem?_cons_succ]
    with_reducible rfl
  · rfl
  repeat first
    | (refine ChainM.step (oi := ?_) (v := ?_) ?_ (by kernel_rfl) (by kernel_rfl) (by kernel_rfl) ?_ ?_
       rotate_left 2
       · simp only [List.getElem?_toArray, List.getElem?_cons_zero, List.getElem?_cons_succ]
         with_reducible rfl
       · (intro og; refine Or.inl ⟨?_, Gives.val ?_⟩; rfl; intro wz hz; have q2 : wz.cell? ⟨g, 2, none⟩ = some nilV := hz.d.cell 2; go_simp; with_reducible rfl)
       simp only [Act.put, List.setIfInBounds_toArray, List.set_cons_zero, List.set_cons_succ])
    | (refine ChainM.step (oi := ?_) (v := ?_) ?_ (by kernel_rfl) (by kernel_rfl) (by kernel_rfl) ?_ ?_
       rotate_left 2
       · simp only [List.getElem?_toArray, List.getElem?_cons_zero, List.getElem?_cons_succ]
         with_reducible rfl
       · (intro og; refine Or.inl ⟨?_, Gives.val ?_⟩; rfl; intro wz hz; refine load_valA rfl Tryz.underlying128 info128s hz.x ?_; rfl)
       simp only [Act.put, List.setIfInBounds_toArray, List.set_cons_zero, List.set_cons_succ])
  refine ChainM.done (by kernel_rfl) ?_ fun u9 w9 hw9 => ?_
  · exact MakesAt.val fun wz hz => ⟨.slice (some ⟨wz.heap.size, 0, none⟩) 1 1, wz.alloc (.cells #[.bool false, .int .i64 0, .slice A4 k.length c4] 128), by go_simp, hz.made⟩
  obtain ⟨gs, rfl, hs9⟩ := hw9.m _ rfl
  refine wpAny_ready (rs := [7]) (by kernel_rfl) (by simp) ?_
  refine AllReady.cons (o := ?_) ?_ (fun K hK => ?_) AllReady.nil
  rotate_left 1
  · simp only [List.getElem?_toArray, List.getElem?_cons_zero, List.getElem?_cons_succ]
    with_reducible rfl
  refine step_since rfl (.tmp 41) (.tmp 43) rfl rfl rfl hs9 ?_
  intro cc w10 k10
  have hz := hw9.later k10
  refine hK _ _ ?_
  clear hK K hs9 k10
  have q2 := hz.d.cell 2
  have f2 := hz.d.frozen 2
  simp only [List.getElem?_toArray, List.getElem?_cons_zero, List.getElem?_cons_succ] at q2
  refine wpAny_ready (rs := [8]) (by kernel_rfl) (by simp) ?_
  refine AllReady.cons (o := ?_) ?_ (fun K hK => ?_) AllReady.nil
  rotate_left 1
  · simp only [List.getElem?_toArray, List.getElem?_cons_zero, List.getElem?_cons_succ]
    with_reducible rfl
  go_simp
  refine hK _ _ ?_
  clear hK K
  refine wpAny_ready (rs := [9]) (by kernel_rfl) (by simp) ?_
  refine AllReady.cons (o := ?_) ?_ (fun K hK => ?_) AllReady.nil
  rotate_left 1
  · simp only [List.getElem?_toArray, List.getElem?_cons_zero, List.getElem?_cons_succ]
    with_reducible rfl
  go_simp
  refine hK _ _ ?_
  clear hK K
  refine wpAny_ready (rs := [10]) (by kernel_rfl) (by simp) ?_
  refine AllReady.cons (o := ?_) ?_ (fun K hK => ?_) AllReady.nil
  rotate_left 1
  · simp only [List.getElem?_toArray, List.getElem?_cons_zero, List.getElem?_cons_succ]
    with_reducible rfl
  go_simp
  refine hK _ _ ?_
  clear hK K
  refine wpAny_done (by kernel_rfl) ?_ _
  go_wp2_with fail
  go_ret
  exact ⟨now4, _, rfl, hz.d.set 2 _, owns_set hz.o hg.lt, hz.b.set 2 _⟩
theorem owns_but {w w' : World} {g base : Nat} {v : Value} {l : List Oct} (h : Owns w base v l) (hg : g < base) (b : But g w.heap.size w w') : Owns w' base v l := by
  refine ⟨h.1, h.2.imp id fun ⟨r, cap, cur, h1, h2, h3, h4⟩ => ⟨r, cap, cur, h1, h2, (b.2 r (heap_lt h3) (by omega)).trans h3, h4⟩⟩
set_option maxHeartbeats 1000000 in
theorem sync66 {w : World} {ext : List Value} {g : Nat} {st : Int} {now sure since : Value} {l : List Oct} {base : Nat} (hg : Cells w g (dskC now sure since st ext) 70) (hst : 0 ≤ st) (hst2 : st < 3000000) (ho : Owns w base now l) (hgb : g < base) :
    Calls Tryz.prog 66 #[.pointer (some ⟨g, 0, none⟩), .int .i64 0] w fun e w' => e = .returned (.int .i64 0) ∧ Cells w' g (dskC now now nilV (st + 1) ext) 70 ∧ Owns w' base now l ∧ But g w.heap.size w w' := by
  obtain ⟨A, c, rfl⟩ := ho.slice
  have q12 := hg.cell 12
  have q13 := hg.cell 13
  simp only [List.getElem?_toArray, List.getElem?_cons_zero, List.getElem?_cons_succ] at q12 q13
  have hst1 : IntKind.i64.wrap (st + 1) = st + 1 := IntWalk.i64_in _ (by omega)
  go_enter Tryz.func66, Tryz.ntmps66
  go_wp2_with (first
    | (go_at_call 123; (with_reducible refine (at123 g w).mono ?_); rintro e w0 ⟨rfl, rfl⟩)
    | (go_at_call 125; (with_reducible refine (power125 q12 q13).mono ?_); rintro e w0 ⟨rfl, rfl⟩)
    | (go_at_call 126; (with_reducible refine (step126 hg hst1).mono ?_); rintro e w1 ⟨rfl, g1, b1, z1⟩; clear q12 q13; have q0 := g1.cell 0; have q1 := g1.cell 1; have f1 := g1.frozen 1; have g2 := g1.set 1 (.slice A l.length c); have q2 := g2.cell 2; have f2 := g2.frozen 2; simp only [List.getElem?_toArray, List.getElem?_cons_zero, List.getElem?_cons_succ, List.setIfInBounds_toArray, List.set_cons_zero, List.set_cons_succ] at q0 q1 q2))
  go_ret
  exact ⟨rfl, g2.set 2 nilV, owns_set (owns_set (owns_but ho hgb b1) hgb) hgb, (b1.set 1 _).set 2 _⟩
end Go.Proofs.YtlpbbihjnmikkaaGreatDoor.Exe

namespace Go.Proofs.YtlpbbihjnmikkaaGreatDoor.Exe
set_option maxRecDepth 100000
set_option linter.unusedSimpArgs false

def u32s (n : Nat) (f : Nat → Int) : List Cell := (List.range n).map fun i => .flat (.int .u32 (f i))
def u8s (n : Nat) (f : Nat → Int) : List Cell := (List.range n).map fun i => .flat (.int .u8 (f i))
def arr32 (n : Nat) (f : Nat → Int) : Array Value := ((List.range n).map fun i => Value.int .u32 (f i)).toArray
def arr8 (n : Nat) (f : Nat → Int) : Array Value := ((List.range n).map fun i => Value.int .u8 (f i)).toArray
theorem arr32_one (n : Nat) (f : Nat → Int) : (arr32 n f).all (·.oneCell') = true := by
  rw [Array.all_eq_true_iff_forall_mem]
  intro v hv
  simp [arr32] at hv
  obtain ⟨i, _, rfl⟩ := hv
  rfl
theorem arr32_size (n : Nat) (f : Nat → Int) : (arr32 n f).size = n := by simp [arr32]
theorem arr8_size (n : Nat) (f : Nat → Int) : (arr8 n f).size = n := by simp [arr8]
theorem flat_rep (ν : Nu) (k : IntKind) (hk : k ≠ .i64) (f : Nat → Int) (l : List Nat) : RepL ν (l.map fun i => .flat (.int k (f i))) (l.map fun i => .int k (f i)) := by
  induction l with
  | nil => exact .nil
  | cons i l ih => exact .cons (.flat _ (by cases k <;> first | rfl | exact absurd rfl hk)) ih
noncomputable def pressRun (h m : Nat → Int) : Out D Slot := runA Tryz.prog (fun _ => none) 70 20 307 [.agg 8 (u32s 8 h), .agg 64 (u8s 64 m)] (frameH true) 2 0 0
def flat32 : List Cell → Bool
  | [] => true
  | .flat (.int .u32 _) :: cs => flat32 cs
  | _ => false
noncomputable def pressOk (o : Out D Slot) : Bool := match o with
  | .ok (.agg n cs) h' _ _ _ => Nat.beq n 8 && (flat32 cs && (still1 h' && table0 h'))
  | _ => false
theorem press_all : (fun h m => pressOk (pressRun h m)) = fun _ _ => true := by kernel_rfl
def cellN (cs : List Cell) (i : Nat) : Int := match cs[i]? with
  | some (.flat (.int _ n)) => n
  | _ => 0
def cellsO (o : Out D Slot) : Nat → Int := match o with
  | .ok (.agg _ cs) _ _ _ _ => cellN cs
  | _ => fun _ => 0
/-- What sha.Press makes. -/
noncomputable def pressF (h m : Nat → Int) : Nat → Int := cellsO (pressRun h m)
theorem flat32_rep {ν : Nu} : ∀ {cs : List Cell} {vs : List Value}, flat32 cs = true → RepL ν cs vs → vs = (List.range cs.length).map fun i => .int .u32 (cellN cs i)
  | [], vs, _, h => by cases h; rfl
  | c :: cs, vs, hf, h => by
    unfold flat32 at hf
    split at hf
    · rename_i e; cases e
    · rename_i n cs' e
      cases e
      cases h with
      | cons h1 h2 =>
        cases h1
        rw [flat32_rep hf h2, List.length_cons, List.range_succ_eq_map, List.map_cons, List.map_map]
        rfl
    · cases hf
theorem pressOk_ok {o : Out D Slot} (h : pressOk o = true) : ∃ cs h' nx r w, o = .ok (.agg 8 cs) h' nx r w ∧ flat32 cs = true ∧ (still1 h' && (!true || table0 h')) = true := by
  unfold pressOk at h
  split at h
  · rename_i n cs h' nx r w
    simp only [Bool.and_eq_true] at h
    obtain ⟨hn, hfl, h1, h2⟩ := h
    rw [← Nat.eq_of_beq_eq_true hn]
    exact ⟨cs, h', nx, r, w, rfl, hfl, by rw [h1, h2]; rfl⟩
  · cases h
theorem arr32_of {ν : Nu} {cs : List Cell} {u : Value} (hfl : flat32 cs = true) (h : RepS ν (.agg 8 cs) u) : u = .agg (arr32 8 (cellN cs)) := by
  cases h with
  | agg hl hlen =>
    have hv := flat32_rep hfl hl
    rw [hlen] at hv
    congr 1
    exact Array.ext' hv
theorem press_run {h m : Nat → Int} {cs : List Cell} {h' : Heap D} {nx r w : Nat} (he : pressRun h m = .ok (.agg 8 cs) h' nx r w) : runA Tryz.prog (fun _ => none) 70 20 307 [.agg 8 (u32s 8 h), .agg 64 (u8s 64 m)] (frameH true) 2 0 0 = .ok (.agg 8 cs) h' nx r w := by
  delta pressRun at he
  exact he
theorem press_of {h m : Nat → Int} {cs : List Cell} {h' : Heap D} {nx r w : Nat} (he : runA Tryz.prog (fun _ => none) 70 20 307 [.agg 8 (u32s 8 h), .agg 64 (u8s 64 m)] (frameH true) 2 0 0 = .ok (.agg 8 cs) h' nx r w) (hfl : flat32 cs = true) (hk : (still1 h' && (!true || table0 h')) = true) (W : World) (hT : Laid W) :
    Calls Tryz.prog 307 #[.agg (arr32 8 h), .agg (arr8 64 m)] W fun e W' => e = .returned (.agg (arr32 8 (cellN cs))) ∧ Keeps W.heap.size W W' := by
  have ha : All2 (RepS (frameNu W true)) [.agg 8 (u32s 8 h), .agg 64 (u8s 64 m)] (#[Value.agg (arr32 8 h), .agg (arr8 64 m)] : Array Value).toList :=
    .cons (.agg (flat_rep _ .u32 (by decide) h _) (by simp [u32s])) (.cons (.agg (flat_rep _ .u8 (by decide) m _) (by simp [u8s])) .nil)
  have hr := @reckoned true 307 [.agg 8 (u32s 8 h), .agg 64 (u8s 64 m)] #[.agg (arr32 8 h), .agg (arr8 64 m)] 70 20 _ _ _ _ _ he hk W (fun _ => hT) ha
  clear he hk ha
  refine hr.mono ?_
  rintro e W' ⟨u, ν', e1, e2, _, e3⟩
  exact ⟨by rw [e1, arr32_of hfl e3], e2⟩
theorem press307 (h m : Nat → Int) (W : World) (hT : Laid W) : Calls Tryz.prog 307 #[.agg (arr32 8 h), .agg (arr8 64 m)] W fun e W' => e = .returned (.agg (arr32 8 (pressF h m))) ∧ Keeps W.heap.size W W' := by
  obtain ⟨cs, h', nx, r, w, he, hfl, hk⟩ := pressOk_ok (congrFun (congrFun press_all h) m)
  rw [show pressF h m = cellN cs from congrArg cellsO he]
  exact press_of (press_run he) hfl hk W hT
end Go.Proofs.YtlpbbihjnmikkaaGreatDoor.Exe
