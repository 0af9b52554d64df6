/-
  ROWS OF ROWS: the words of the reference's Expand in memory.
-/
import Derived.Test.YthjigmfooobfmabAesA
import Derived.Laws.MakeOwn
import Derived.IntWalk
namespace Go.Proofs.Ythjigmfooobfmab
open Go.RowKit Gf
set_option linter.unusedSimpArgs false

/-- Where a word's bytes lie: block, place, room. -/
abbrev Spot := Nat × Nat × Nat
def spotV (p : Spot) : Value := .slice (some ⟨p.1, p.2.1, none⟩) 4 p.2.2
def rowW (i : Nat) (W : Nat → Spot) : Array Value := ((List.range 60).map fun m => if m < i then spotV (W m) else .slice none 0 0).toArray
def updW (W : Nat → Spot) (i : Nat) (p : Spot) : Nat → Spot := fun m => if m = i then p else W m
theorem rowW_size (i : Nat) (W : Nat → Spot) : (rowW i W).size = 60 := by simp [rowW]
theorem rowW_get (i : Nat) (W : Nat → Spot) (m : Nat) (h : m < i) (h60 : m < 60) : (rowW i W)[m]? = some (spotV (W m)) := by
  simp [rowW, h, h60]
theorem rowW_nil (i : Nat) (W : Nat → Spot) (h60 : i < 60) : (rowW i W)[i]? = some (.slice none 0 0) := by
  simp [rowW, h60]
theorem rowW_set (i : Nat) (W : Nat → Spot) (p : Spot) : (rowW i W).setIfInBounds i (spotV p) = rowW (i + 1) (updW W i p) := by
  apply Array.ext_getElem?
  intro m
  rw [Array.getElem?_setIfInBounds, rowW_size]
  unfold updW
  by_cases hm : m < 60
  · by_cases e : i = m
    · subst e; simp [rowW, hm]
    · have e' : ¬ m = i := fun h => e h.symm
      rw [if_neg e]
      by_cases h1 : m < i
      · rw [rowW_get _ _ _ h1 hm, rowW_get _ _ _ (by omega) hm]; simp [e']
      · simp [rowW, hm, h1, show ¬ m < i + 1 by omega]
  · rw [Array.getElem?_eq_none (by rw [rowW_size]; omega), Array.getElem?_eq_none (by rw [rowW_size]; omega)]
    by_cases e : i = m
    · subst e; simp [hm]
    · rw [if_neg e]
theorem info27 : (Try.prog.info? 27).map (fun i => (i.zero, i.size, i.bytes)) = some (some (.slice none 0 0), 1, 24) := by kernel_rfl
theorem make47 (W : Nat → Spot) (w : World) : (Instr.makeSlice 47 (.int .i64 60) (.int .i64 60)).run Try.prog w = .ok (.slice (some ⟨w.heap.size, 0, none⟩) 60 60) (w.alloc (.cells (rowW 0 W) 27)) := by
  obtain ⟨i, hi, hz, hsz, hby⟩ := info_parts info27
  have h := run_makeSlice (P := Try.prog) (w := w) 47 27 i _ Try.underlying47 hi hz .i64 .i64 60 60 (by decide) (by decide) (by rw [hsz]; decide) (by rw [hby]; decide) (by decide)
  rw [hsz] at h
  have e1 : rowW 0 W = ((List.range 60).map fun _ => Value.slice none 0 0).toArray := by simp [rowW]
  have e : madeCells (Value.slice none 0 0).cells (Int.toNat 60 * 1) = ((List.range 60).map fun _ => Value.slice none 0 0).toArray := by kernel_rfl
  rw [e, ← e1] at h
  exact h
/-- The words ahead of i lie whole, in blocks other than gw; each block of the call's own. -/
structure Wd (w : World) (kf : Bf) (gw : Nat) (W : Nat → Spot) (i : Nat) (w' : World) : Prop where
  k : Blk w' w.heap.size 31 (bytes 32 kf)
  o : Blk w' (w.heap.size + 1) 32 (bytes 240 fun _ => 0#8)
  r : Blk w' gw 27 (rowW i W)
  d : ∀ m, m < i → (W m).1 ≠ gw ∧ (W m).1 < w'.heap.size ∧ ∀ j, j < 4 → w'.cell? ⟨(W m).1, (W m).2.1 + j, none⟩ = some (.int .u8 (expB kf (4 * m + j)).toNat)
  bel : Below w.heap.size w w'
  lo : w.heap.size + 1 < gw
theorem Wd.later {w w1 w2 : World} {kf : Bf} {gw i : Nat} {W : Nat → Spot} (H : Wd w kf gw W i w1) (hb : Below w1.heap.size w1 w2) : Wd w kf gw W i w2 :=
  ⟨H.k.below hb H.k.lt, H.o.below hb H.o.lt, H.r.below hb H.r.lt, fun m hm => ⟨(H.d m hm).1, Nat.lt_of_lt_of_le (H.d m hm).2.1 hb.size, fun j hj => by
    rw [hb.cell (p := ⟨(W m).1, (W m).2.1 + j, none⟩) (H.d m hm).2.1]; exact (H.d m hm).2.2 j hj⟩, H.bel.trans (hb.mono H.bel.size), H.lo⟩
theorem Wd.drew {w w1 : World} {kf : Bf} {gw i : Nat} {W : Nat → Spot} (H : Wd w kf gw W i w1) : Wd w kf gw W i w1.drew := H.later (Below.refl _ _).drew
theorem Wd.start (w : World) (kf : Bf) (W : Nat → Spot) : Wd w kf (w.heap.size + 1 + 1) W 0 (((w.alloc (.cells (bytes 32 kf) 31)).alloc (.cells (bytes 240 fun _ => 0#8) 32)).alloc (.cells (rowW 0 W) 27)) := by
  have h := H2.start w 31 32 32 240 kf (fun _ => 0#8)
  have s1 : ((w.alloc (.cells (bytes 32 kf) 31)).alloc (.cells (bytes 240 fun _ => 0#8) 32)).heap.size = w.heap.size + 1 + 1 := by simp
  refine ⟨h.b1.alloc _, h.b2.alloc _, ?_, fun m hm => by omega, h.bel.alloc h.bel.size _, by omega⟩
  rw [← s1]; exact Blk.new _ 27 _
/-- Bytes of one's own: four at least, in block gt. -/
structure Tw (gt : Nat) (f : Bf) (w' : World) : Prop where
  ex : ∃ cur, Blk w' gt 5 cur ∧ ∀ j, j < 4 → cur[j]? = some (.int .u8 (f j).toNat)
theorem Tw.byte {gt : Nat} {f : Bf} {w' : World} (h : Tw gt f w') {j : Nat} (hj : j < 4) : w'.cell? ⟨gt, j, none⟩ = some (.int .u8 (f j).toNat) := by
  obtain ⟨cur, hb, hc⟩ := h.ex
  rw [hb.cell]; exact hc j hj
theorem Tw.frozen {gt : Nat} {f : Bf} {w' : World} (h : Tw gt f w') (j : Nat) : w'.frozen? ⟨gt, j, none⟩ = false := by
  obtain ⟨cur, hb, _⟩ := h.ex
  exact hb.frozen j
theorem Tw.lt {gt : Nat} {f : Bf} {w' : World} (h : Tw gt f w') : gt < w'.heap.size := by
  obtain ⟨cur, hb, _⟩ := h.ex
  exact hb.lt
theorem Tw.below {gt : Nat} {f : Bf} {w1 w2 : World} (h : Tw gt f w1) (hb : Below w1.heap.size w1 w2) : Tw gt f w2 := by
  obtain ⟨cur, hbl, hc⟩ := h.ex
  exact ⟨cur, hbl.below hb hbl.lt, hc⟩
theorem Tw.set {gt : Nat} {f : Bf} {w' : World} (h : Tw gt f w') (m : Nat) (x : B8) : Tw gt (upd f m x) (w'.setCell ⟨gt, m, none⟩ (.int .u8 x.toNat)) := by
  obtain ⟨cur, hb, hc⟩ := h.ex
  refine ⟨_, hb.set_ m _, fun j hj => ?_⟩
  have hlt : j < cur.size := by
    rcases Nat.lt_or_ge j cur.size with h | h
    · exact h
    · have := hc j hj; rw [Array.getElem?_eq_none h] at this; cases this
  rw [Array.getElem?_setIfInBounds]
  unfold upd
  by_cases e : m = j
  · subst e; simp [hlt]
  · have e' : ¬ j = m := fun h => e h.symm
    rw [if_neg e, if_neg e']; exact hc j hj
theorem Tw.as {gt : Nat} {f g : Bf} {w' : World} (h : Tw gt f w') (e : ∀ j, j < 4 → f j = g j) : Tw gt g w' := by
  obtain ⟨cur, hb, hc⟩ := h.ex
  exact ⟨cur, hb, fun j hj => by rw [← e j hj]; exact hc j hj⟩
/-- A round's state: the words ahead, and the word at work in a block of its own. -/
structure Wt (w : World) (kf : Bf) (gw : Nat) (W : Nat → Spot) (i gt : Nat) (f : Bf) (w' : World) : Prop where
  h : Wd w kf gw W i w'
  t : Tw gt f w'
  ne : gt ≠ gw
  nw : ∀ m, m < i → (W m).1 ≠ gt
  lo : w.heap.size + 1 < gt
theorem Wt.later {w w1 w2 : World} {kf f : Bf} {gw i gt : Nat} {W : Nat → Spot} (H : Wt w kf gw W i gt f w1) (hb : Below w1.heap.size w1 w2) : Wt w kf gw W i gt f w2 :=
  ⟨H.h.later hb, H.t.below hb, H.ne, H.nw, H.lo⟩
theorem Wt.drew {w w1 : World} {kf f : Bf} {gw i gt : Nat} {W : Nat → Spot} (H : Wt w kf gw W i gt f w1) : Wt w kf gw W i gt f w1.drew := H.later (Below.refl _ _).drew
theorem cell_far {w : World} {p q : Addr} {v : Value} (h : p.block ≠ q.block) : (w.setCell q v).cell? p = w.cell? p := by
  unfold World.cell?
  rw [Below.heap_setCell w q v p.block h]
theorem Wt.set {w w1 : World} {kf f : Bf} {gw i gt : Nat} {W : Nat → Spot} (H : Wt w kf gw W i gt f w1) (m : Nat) (x : B8) : Wt w kf gw W i gt (upd f m x) (w1.setCell ⟨gt, m, none⟩ (.int .u8 x.toNat)) := by
  have h1 := H.lo
  have h2 := H.ne
  have hb : Below w.heap.size w (w1.setCell ⟨gt, m, none⟩ (.int .u8 x.toNat)) := H.h.bel.setCell (by simp <;> omega) _
  refine ⟨⟨H.h.k.far (by simp <;> omega) _, H.h.o.far (by simp <;> omega) _, H.h.r.far (by simp <;> omega) _, fun k hk => ⟨(H.h.d k hk).1, by simpa using (H.h.d k hk).2.1, fun j hj => ?_⟩, hb, H.h.lo⟩, H.t.set m x, H.ne, H.nw, H.lo⟩
  rw [cell_far (by simpa using H.nw k hk)]
  exact (H.h.d k hk).2.2 j hj
/-- The word at work becomes the i-th. -/
theorem Wt.done {w w1 : World} {kf f : Bf} {gw i gt c : Nat} {W : Nat → Spot} (H : Wt w kf gw W i gt f w1) (he : ∀ j, j < 4 → f j = expB kf (4 * i + j)) :
    Wd w kf gw (updW W i (gt, 0, c)) (i + 1) (w1.setCell ⟨gw, i, none⟩ (.slice (some ⟨gt, 0, none⟩) 4 c)) := by
  have h1 := H.h.lo
  have h2 := H.ne
  have hb : Below w.heap.size w (w1.setCell ⟨gw, i, none⟩ (.slice (some ⟨gt, 0, none⟩) 4 c)) := H.h.bel.setCell (by simp <;> omega) _
  refine ⟨H.h.k.far (by simp <;> omega) _, H.h.o.far (by simp <;> omega) _, ?_, fun m hm => ?_, hb, H.h.lo⟩
  · rw [← rowW_set]; exact H.h.r.set_ i _
  · unfold updW
    by_cases e : m = i
    · subst e
      rw [if_pos rfl]
      refine ⟨h2, by simpa using H.t.lt, fun j hj => ?_⟩
      rw [cell_far (by simpa using h2), ← he j hj]
      have := H.t.byte hj
      simpa using this
    · rw [if_neg e]
      obtain ⟨d1, d2, d3⟩ := H.h.d m (by omega)
      refine ⟨d1, by simpa using d2, fun j hj => ?_⟩
      rw [cell_far (by simpa using d1)]
      exact d3 j hj
/-- The key's own words. -/
theorem Wd.key {w w1 : World} {kf : Bf} {gw i : Nat} {W : Nat → Spot} (H : Wd w kf gw W i w1) (h8 : i < 8) (he : ∀ j, j < 4 → kf (4 * i + j) = expB kf (4 * i + j)) :
    Wd w kf gw (updW W i (w.heap.size, 4 * i, 32 - 4 * i)) (i + 1) (w1.setCell ⟨gw, i, none⟩ (.slice (some ⟨w.heap.size, 4 * i, none⟩) 4 (32 - 4 * i))) := by
  have h1 := H.lo
  have hb : Below w.heap.size w (w1.setCell ⟨gw, i, none⟩ (.slice (some ⟨w.heap.size, 4 * i, none⟩) 4 (32 - 4 * i))) := H.bel.setCell (by simp <;> omega) _
  refine ⟨H.k.far (by simp <;> omega) _, H.o.far (by simp <;> omega) _, ?_, fun m hm => ?_, hb, H.lo⟩
  · rw [← rowW_set]; exact H.r.set_ i _
  · unfold updW
    by_cases e : m = i
    · subst e
      rw [if_pos rfl]
      refine ⟨by simp <;> omega, by simpa using H.k.lt, fun j hj => ?_⟩
      rw [cell_far (by simp <;> omega), ← he j hj]
      exact H.k.byte (i := 4 * m + j) (by omega)
    · rw [if_neg e]
      obtain ⟨d1, d2, d3⟩ := H.d m (by omega)
      refine ⟨d1, by simpa using d2, fun j hj => ?_⟩
      rw [cell_far (by simpa using d1)]
      exact d3 j hj
theorem Wd.spot {w w1 : World} {kf : Bf} {gw i : Nat} {W : Nat → Spot} (H : Wd w kf gw W i w1) {m : Nat} (h : m < i) (h60 : m < 60) : w1.cell? ⟨gw, m, none⟩ = some (.slice (some ⟨(W m).1, (W m).2.1, none⟩) 4 (W m).2.2) := by
  rw [H.r.cell, rowW_get _ _ _ h h60]; rfl
theorem Wd.free {w w1 : World} {kf : Bf} {gw i : Nat} {W : Nat → Spot} (H : Wd w kf gw W i w1) (h60 : i < 60) : w1.cell? ⟨gw, i, none⟩ = some (.slice none 0 0) := by
  rw [H.r.cell, rowW_nil _ _ h60]
theorem Wd.rd {w w1 : World} {kf : Bf} {gw i : Nat} {W : Nat → Spot} (H : Wd w kf gw W i w1) {m : Nat} (h : m < i) : RdB w1 (some ⟨(W m).1, (W m).2.1, none⟩) 4 (part (expB kf) (4 * m)) := fun _ =>
  ⟨_, rfl, (H.d m h).2.1, fun j hj => by
    have e : (⟨(W m).1, (W m).2.1, none⟩ : Addr).add j = ⟨(W m).1, (W m).2.1 + j, none⟩ := by
      unfold Addr.add
      by_cases h : j = 0 <;> simp [h]
    rw [e]; exact (H.d m h).2.2 j hj⟩
/-- What an append onto an empty literal has made: a word at work. -/
theorem Wd.word {w w1 w2 : World} {kf f : Bf} {gw i base c : Nat} {A : Option Addr} {W : Nat → Spot} (H : Wd w kf gw W i w1) (hbase : base = w1.heap.size) (hown : Own base (.slice A 4 c) 4 f w2) (hb : Below base w1 w2) : ∃ gt, A = some ⟨gt, 0, none⟩ ∧ Wt w kf gw W i gt f w2 := by
  subst hbase
  have H2 := H.later hb
  rcases hown.2 with ⟨h, _⟩ | ⟨g, cap, cur, hv, hge, hg, hc, _, hs, ht⟩
  · cases h
  · cases hv
    have hr := H.r.lt
    have hk := H.lo
    refine ⟨g, rfl, H2, ⟨⟨cur, hg, fun j hj => ?_⟩⟩, by omega, fun m hm => ?_, by omega⟩
    · have h2 : (cur.toList.take (4 * 1))[j]? = some (.int .u8 (f j).toNat) := by rw [ht, cellsB_get _ _ _ hj]
      rw [List.getElem?_take_of_lt (by omega)] at h2
      simpa using h2
    · have := (H.d m hm).2.1
      omega
/-- A literal of four bytes: a word at work. -/
theorem Wd.literal {w w1 : World} {kf : Bf} {gw i : Nat} {W : Nat → Spot} (H : Wd w kf gw W i w1) (f : Bf) : Wt w kf gw W i w1.heap.size f (w1.alloc (.cells (bytes 4 f) 5)) := by
  have hr := H.r.lt
  have hk := H.lo
  refine ⟨H.later ((Below.refl _ _).alloc (Nat.le_refl _) _), ⟨⟨_, Blk.new w1 5 _, fun j hj => bytes_get _ _ _ hj⟩⟩, by omega, fun m hm => ?_, by omega⟩
  have := (H.d m hm).2.1
  omega
end Go.Proofs.Ythjigmfooobfmab
