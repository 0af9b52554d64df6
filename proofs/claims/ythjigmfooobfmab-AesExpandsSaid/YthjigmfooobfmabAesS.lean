/-
  BLOCKS OF BYTES in memory, two, three or four of them, one above the other, made since a world w.
-/
import Derived.Test.YthjigmfooobfmabAesSh
namespace Go.Proofs.Ythjigmfooobfmab
open Go.RowKit Gf
set_option linter.unusedSimpArgs false
structure H1 (w : World) (t1 : TypeId) (n1 g1 : Nat) (f1 : Bf) (w' : World) : Prop where
  b1 : Blk w' g1 t1 (bytes n1 f1)
  bel : Below w.heap.size w w'
  lo : w.heap.size ≤ g1
theorem H1.later {w w1 w2 : World} {t1 : TypeId} {n1 g1 : Nat} {f1 : Bf} (H : H1 w t1 n1 g1 f1 w1) (hb : Below w1.heap.size w1 w2) : H1 w t1 n1 g1 f1 w2 :=
  ⟨H.b1.below hb H.b1.lt, H.bel.trans (hb.mono H.bel.size), H.lo⟩
theorem H1.drew {w w1 : World} {t1 : TypeId} {n1 g1 : Nat} {f1 : Bf} (H : H1 w t1 n1 g1 f1 w1) : H1 w t1 n1 g1 f1 w1.drew := H.later (Below.refl _ _).drew
theorem H1.put1 {w w1 : World} {t1 : TypeId} {n1 g1 : Nat} {f1 : Bf} (H : H1 w t1 n1 g1 f1 w1) (v : Bf) : H1 w t1 n1 g1 v (w1.setCells g1 0 (bytes n1 v).toList) := by
  have q0 := H.lo
  exact ⟨(H.b1.mid 0 n1 v).whole, setCells_below _ _ _ H.bel (by omega), H.lo⟩
theorem H1.byte1 {w w1 : World} {t1 : TypeId} {n1 g1 : Nat} {f1 : Bf} (H : H1 w t1 n1 g1 f1 w1) (m : Nat) (x : B8) : H1 w t1 n1 g1 (upd f1 m x) (w1.setCell ⟨g1, m, none⟩ (.int .u8 x.toNat)) := by
  have q0 := H.lo
  refine ⟨?_, H.bel.setCell (by simp <;> omega) _, H.lo⟩
  rw [← bytes_set]
  exact H.b1.set_ m _
theorem H1.as1 {w w1 : World} {t1 : TypeId} {n1 g1 : Nat} {f1 : Bf} (H : H1 w t1 n1 g1 f1 w1) {v : Bf} (h : ∀ i, i < n1 → f1 i = v i) : H1 w t1 n1 g1 v w1 :=
  ⟨(show bytes _ _ = bytes _ _ from bytes_ext h) ▸ H.b1, H.bel, H.lo⟩
structure H2 (w : World) (t1 : TypeId) (n1 g1 : Nat) (t2 : TypeId) (n2 g2 : Nat) (f1 f2 : Bf) (w' : World) : Prop where
  b1 : Blk w' g1 t1 (bytes n1 f1)
  b2 : Blk w' g2 t2 (bytes n2 f2)
  bel : Below w.heap.size w w'
  lo : w.heap.size ≤ g1
  lt1 : g1 < g2
theorem H2.later {w w1 w2 : World} {t1 t2 : TypeId} {n1 n2 g1 g2 : Nat} {f1 f2 : Bf} (H : H2 w t1 n1 g1 t2 n2 g2 f1 f2 w1) (hb : Below w1.heap.size w1 w2) : H2 w t1 n1 g1 t2 n2 g2 f1 f2 w2 :=
  ⟨H.b1.below hb H.b1.lt, H.b2.below hb H.b2.lt, H.bel.trans (hb.mono H.bel.size), H.lo, H.lt1⟩
theorem H2.drew {w w1 : World} {t1 t2 : TypeId} {n1 n2 g1 g2 : Nat} {f1 f2 : Bf} (H : H2 w t1 n1 g1 t2 n2 g2 f1 f2 w1) : H2 w t1 n1 g1 t2 n2 g2 f1 f2 w1.drew := H.later (Below.refl _ _).drew
theorem H2.put1 {w w1 : World} {t1 t2 : TypeId} {n1 n2 g1 g2 : Nat} {f1 f2 : Bf} (H : H2 w t1 n1 g1 t2 n2 g2 f1 f2 w1) (v : Bf) : H2 w t1 n1 g1 t2 n2 g2 v f2 (w1.setCells g1 0 (bytes n1 v).toList) := by
  have q0 := H.lo; have q1 := H.lt1
  exact ⟨(H.b1.mid 0 n1 v).whole, H.b2.mid_other (by omega) _ _, setCells_below _ _ _ H.bel (by omega), H.lo, H.lt1⟩
theorem H2.byte1 {w w1 : World} {t1 t2 : TypeId} {n1 n2 g1 g2 : Nat} {f1 f2 : Bf} (H : H2 w t1 n1 g1 t2 n2 g2 f1 f2 w1) (m : Nat) (x : B8) : H2 w t1 n1 g1 t2 n2 g2 (upd f1 m x) f2 (w1.setCell ⟨g1, m, none⟩ (.int .u8 x.toNat)) := by
  have q0 := H.lo; have q1 := H.lt1
  refine ⟨?_, H.b2.far (by simp <;> omega) _, H.bel.setCell (by simp <;> omega) _, H.lo, H.lt1⟩
  rw [← bytes_set]
  exact H.b1.set_ m _
theorem H2.as1 {w w1 : World} {t1 t2 : TypeId} {n1 n2 g1 g2 : Nat} {f1 f2 : Bf} (H : H2 w t1 n1 g1 t2 n2 g2 f1 f2 w1) {v : Bf} (h : ∀ i, i < n1 → f1 i = v i) : H2 w t1 n1 g1 t2 n2 g2 v f2 w1 :=
  ⟨(show bytes _ _ = bytes _ _ from bytes_ext h) ▸ H.b1, H.b2, H.bel, H.lo, H.lt1⟩
theorem H2.put2 {w w1 : World} {t1 t2 : TypeId} {n1 n2 g1 g2 : Nat} {f1 f2 : Bf} (H : H2 w t1 n1 g1 t2 n2 g2 f1 f2 w1) (v : Bf) : H2 w t1 n1 g1 t2 n2 g2 f1 v (w1.setCells g2 0 (bytes n2 v).toList) := by
  have q0 := H.lo; have q1 := H.lt1
  exact ⟨H.b1.mid_other (by omega) _ _, (H.b2.mid 0 n2 v).whole, setCells_below _ _ _ H.bel (by omega), H.lo, H.lt1⟩
theorem H2.byte2 {w w1 : World} {t1 t2 : TypeId} {n1 n2 g1 g2 : Nat} {f1 f2 : Bf} (H : H2 w t1 n1 g1 t2 n2 g2 f1 f2 w1) (m : Nat) (x : B8) : H2 w t1 n1 g1 t2 n2 g2 f1 (upd f2 m x) (w1.setCell ⟨g2, m, none⟩ (.int .u8 x.toNat)) := by
  have q0 := H.lo; have q1 := H.lt1
  refine ⟨H.b1.far (by simp <;> omega) _, ?_, H.bel.setCell (by simp <;> omega) _, H.lo, H.lt1⟩
  rw [← bytes_set]
  exact H.b2.set_ m _
theorem H2.as2 {w w1 : World} {t1 t2 : TypeId} {n1 n2 g1 g2 : Nat} {f1 f2 : Bf} (H : H2 w t1 n1 g1 t2 n2 g2 f1 f2 w1) {v : Bf} (h : ∀ i, i < n2 → f2 i = v i) : H2 w t1 n1 g1 t2 n2 g2 f1 v w1 :=
  ⟨H.b1, (show bytes _ _ = bytes _ _ from bytes_ext h) ▸ H.b2, H.bel, H.lo, H.lt1⟩
structure H3 (w : World) (t1 : TypeId) (n1 g1 : Nat) (t2 : TypeId) (n2 g2 : Nat) (t3 : TypeId) (n3 g3 : Nat) (f1 f2 f3 : Bf) (w' : World) : Prop where
  b1 : Blk w' g1 t1 (bytes n1 f1)
  b2 : Blk w' g2 t2 (bytes n2 f2)
  b3 : Blk w' g3 t3 (bytes n3 f3)
  bel : Below w.heap.size w w'
  lo : w.heap.size ≤ g1
  lt1 : g1 < g2
  lt2 : g2 < g3
theorem H3.later {w w1 w2 : World} {t1 t2 t3 : TypeId} {n1 n2 n3 g1 g2 g3 : Nat} {f1 f2 f3 : Bf} (H : H3 w t1 n1 g1 t2 n2 g2 t3 n3 g3 f1 f2 f3 w1) (hb : Below w1.heap.size w1 w2) : H3 w t1 n1 g1 t2 n2 g2 t3 n3 g3 f1 f2 f3 w2 :=
  ⟨H.b1.below hb H.b1.lt, H.b2.below hb H.b2.lt, H.b3.below hb H.b3.lt, H.bel.trans (hb.mono H.bel.size), H.lo, H.lt1, H.lt2⟩
theorem H3.drew {w w1 : World} {t1 t2 t3 : TypeId} {n1 n2 n3 g1 g2 g3 : Nat} {f1 f2 f3 : Bf} (H : H3 w t1 n1 g1 t2 n2 g2 t3 n3 g3 f1 f2 f3 w1) : H3 w t1 n1 g1 t2 n2 g2 t3 n3 g3 f1 f2 f3 w1.drew := H.later (Below.refl _ _).drew
theorem H3.put1 {w w1 : World} {t1 t2 t3 : TypeId} {n1 n2 n3 g1 g2 g3 : Nat} {f1 f2 f3 : Bf} (H : H3 w t1 n1 g1 t2 n2 g2 t3 n3 g3 f1 f2 f3 w1) (v : Bf) : H3 w t1 n1 g1 t2 n2 g2 t3 n3 g3 v f2 f3 (w1.setCells g1 0 (bytes n1 v).toList) := by
  have q0 := H.lo; have q1 := H.lt1; have q2 := H.lt2
  exact ⟨(H.b1.mid 0 n1 v).whole, H.b2.mid_other (by omega) _ _, H.b3.mid_other (by omega) _ _, setCells_below _ _ _ H.bel (by omega), H.lo, H.lt1, H.lt2⟩
theorem H3.byte1 {w w1 : World} {t1 t2 t3 : TypeId} {n1 n2 n3 g1 g2 g3 : Nat} {f1 f2 f3 : Bf} (H : H3 w t1 n1 g1 t2 n2 g2 t3 n3 g3 f1 f2 f3 w1) (m : Nat) (x : B8) : H3 w t1 n1 g1 t2 n2 g2 t3 n3 g3 (upd f1 m x) f2 f3 (w1.setCell ⟨g1, m, none⟩ (.int .u8 x.toNat)) := by
  have q0 := H.lo; have q1 := H.lt1; have q2 := H.lt2
  refine ⟨?_, H.b2.far (by simp <;> omega) _, H.b3.far (by simp <;> omega) _, H.bel.setCell (by simp <;> omega) _, H.lo, H.lt1, H.lt2⟩
  rw [← bytes_set]
  exact H.b1.set_ m _
theorem H3.as1 {w w1 : World} {t1 t2 t3 : TypeId} {n1 n2 n3 g1 g2 g3 : Nat} {f1 f2 f3 : Bf} (H : H3 w t1 n1 g1 t2 n2 g2 t3 n3 g3 f1 f2 f3 w1) {v : Bf} (h : ∀ i, i < n1 → f1 i = v i) : H3 w t1 n1 g1 t2 n2 g2 t3 n3 g3 v f2 f3 w1 :=
  ⟨(show bytes _ _ = bytes _ _ from bytes_ext h) ▸ H.b1, H.b2, H.b3, H.bel, H.lo, H.lt1, H.lt2⟩
theorem H3.put2 {w w1 : World} {t1 t2 t3 : TypeId} {n1 n2 n3 g1 g2 g3 : Nat} {f1 f2 f3 : Bf} (H : H3 w t1 n1 g1 t2 n2 g2 t3 n3 g3 f1 f2 f3 w1) (v : Bf) : H3 w t1 n1 g1 t2 n2 g2 t3 n3 g3 f1 v f3 (w1.setCells g2 0 (bytes n2 v).toList) := by
  have q0 := H.lo; have q1 := H.lt1; have q2 := H.lt2
  exact ⟨H.b1.mid_other (by omega) _ _, (H.b2.mid 0 n2 v).whole, H.b3.mid_other (by omega) _ _, setCells_below _ _ _ H.bel (by omega), H.lo, H.lt1, H.lt2⟩
theorem H3.byte2 {w w1 : World} {t1 t2 t3 : TypeId} {n1 n2 n3 g1 g2 g3 : Nat} {f1 f2 f3 : Bf} (H : H3 w t1 n1 g1 t2 n2 g2 t3 n3 g3 f1 f2 f3 w1) (m : Nat) (x : B8) : H3 w t1 n1 g1 t2 n2 g2 t3 n3 g3 f1 (upd f2 m x) f3 (w1.setCell ⟨g2, m, none⟩ (.int .u8 x.toNat)) := by
  have q0 := H.lo; have q1 := H.lt1; have q2 := H.lt2
  refine ⟨H.b1.far (by simp <;> omega) _, ?_, H.b3.far (by simp <;> omega) _, H.bel.setCell (by simp <;> omega) _, H.lo, H.lt1, H.lt2⟩
  rw [← bytes_set]
  exact H.b2.set_ m _
theorem H3.as2 {w w1 : World} {t1 t2 t3 : TypeId} {n1 n2 n3 g1 g2 g3 : Nat} {f1 f2 f3 : Bf} (H : H3 w t1 n1 g1 t2 n2 g2 t3 n3 g3 f1 f2 f3 w1) {v : Bf} (h : ∀ i, i < n2 → f2 i = v i) : H3 w t1 n1 g1 t2 n2 g2 t3 n3 g3 f1 v f3 w1 :=
  ⟨H.b1, (show bytes _ _ = bytes _ _ from bytes_ext h) ▸ H.b2, H.b3, H.bel, H.lo, H.lt1, H.lt2⟩
theorem H3.put3 {w w1 : World} {t1 t2 t3 : TypeId} {n1 n2 n3 g1 g2 g3 : Nat} {f1 f2 f3 : Bf} (H : H3 w t1 n1 g1 t2 n2 g2 t3 n3 g3 f1 f2 f3 w1) (v : Bf) : H3 w t1 n1 g1 t2 n2 g2 t3 n3 g3 f1 f2 v (w1.setCells g3 0 (bytes n3 v).toList) := by
  have q0 := H.lo; have q1 := H.lt1; have q2 := H.lt2
  exact ⟨H.b1.mid_other (by omega) _ _, H.b2.mid_other (by omega) _ _, (H.b3.mid 0 n3 v).whole, setCells_below _ _ _ H.bel (by omega), H.lo, H.lt1, H.lt2⟩
theorem H3.byte3 {w w1 : World} {t1 t2 t3 : TypeId} {n1 n2 n3 g1 g2 g3 : Nat} {f1 f2 f3 : Bf} (H : H3 w t1 n1 g1 t2 n2 g2 t3 n3 g3 f1 f2 f3 w1) (m : Nat) (x : B8) : H3 w t1 n1 g1 t2 n2 g2 t3 n3 g3 f1 f2 (upd f3 m x) (w1.setCell ⟨g3, m, none⟩ (.int .u8 x.toNat)) := by
  have q0 := H.lo; have q1 := H.lt1; have q2 := H.lt2
  refine ⟨H.b1.far (by simp <;> omega) _, H.b2.far (by simp <;> omega) _, ?_, H.bel.setCell (by simp <;> omega) _, H.lo, H.lt1, H.lt2⟩
  rw [← bytes_set]
  exact H.b3.set_ m _
theorem H3.as3 {w w1 : World} {t1 t2 t3 : TypeId} {n1 n2 n3 g1 g2 g3 : Nat} {f1 f2 f3 : Bf} (H : H3 w t1 n1 g1 t2 n2 g2 t3 n3 g3 f1 f2 f3 w1) {v : Bf} (h : ∀ i, i < n3 → f3 i = v i) : H3 w t1 n1 g1 t2 n2 g2 t3 n3 g3 f1 f2 v w1 :=
  ⟨H.b1, H.b2, (show bytes _ _ = bytes _ _ from bytes_ext h) ▸ H.b3, H.bel, H.lo, H.lt1, H.lt2⟩
structure H4 (w : World) (t1 : TypeId) (n1 g1 : Nat) (t2 : TypeId) (n2 g2 : Nat) (t3 : TypeId) (n3 g3 : Nat) (t4 : TypeId) (n4 g4 : Nat) (f1 f2 f3 f4 : Bf) (w' : World) : Prop where
  b1 : Blk w' g1 t1 (bytes n1 f1)
  b2 : Blk w' g2 t2 (bytes n2 f2)
  b3 : Blk w' g3 t3 (bytes n3 f3)
  b4 : Blk w' g4 t4 (bytes n4 f4)
  bel : Below w.heap.size w w'
  lo : w.heap.size ≤ g1
  lt1 : g1 < g2
  lt2 : g2 < g3
  lt3 : g3 < g4
theorem H4.later {w w1 w2 : World} {t1 t2 t3 t4 : TypeId} {n1 n2 n3 n4 g1 g2 g3 g4 : Nat} {f1 f2 f3 f4 : Bf} (H : H4 w t1 n1 g1 t2 n2 g2 t3 n3 g3 t4 n4 g4 f1 f2 f3 f4 w1) (hb : Below w1.heap.size w1 w2) : H4 w t1 n1 g1 t2 n2 g2 t3 n3 g3 t4 n4 g4 f1 f2 f3 f4 w2 :=
  ⟨H.b1.below hb H.b1.lt, H.b2.below hb H.b2.lt, H.b3.below hb H.b3.lt, H.b4.below hb H.b4.lt, H.bel.trans (hb.mono H.bel.size), H.lo, H.lt1, H.lt2, H.lt3⟩
theorem H4.drew {w w1 : World} {t1 t2 t3 t4 : TypeId} {n1 n2 n3 n4 g1 g2 g3 g4 : Nat} {f1 f2 f3 f4 : Bf} (H : H4 w t1 n1 g1 t2 n2 g2 t3 n3 g3 t4 n4 g4 f1 f2 f3 f4 w1) : H4 w t1 n1 g1 t2 n2 g2 t3 n3 g3 t4 n4 g4 f1 f2 f3 f4 w1.drew := H.later (Below.refl _ _).drew
theorem H4.put1 {w w1 : World} {t1 t2 t3 t4 : TypeId} {n1 n2 n3 n4 g1 g2 g3 g4 : Nat} {f1 f2 f3 f4 : Bf} (H : H4 w t1 n1 g1 t2 n2 g2 t3 n3 g3 t4 n4 g4 f1 f2 f3 f4 w1) (v : Bf) : H4 w t1 n1 g1 t2 n2 g2 t3 n3 g3 t4 n4 g4 v f2 f3 f4 (w1.setCells g1 0 (bytes n1 v).toList) := by
  have q0 := H.lo; have q1 := H.lt1; have q2 := H.lt2; have q3 := H.lt3
  exact ⟨(H.b1.mid 0 n1 v).whole, H.b2.mid_other (by omega) _ _, H.b3.mid_other (by omega) _ _, H.b4.mid_other (by omega) _ _, setCells_below _ _ _ H.bel (by omega), H.lo, H.lt1, H.lt2, H.lt3⟩
theorem H4.byte1 {w w1 : World} {t1 t2 t3 t4 : TypeId} {n1 n2 n3 n4 g1 g2 g3 g4 : Nat} {f1 f2 f3 f4 : Bf} (H : H4 w t1 n1 g1 t2 n2 g2 t3 n3 g3 t4 n4 g4 f1 f2 f3 f4 w1) (m : Nat) (x : B8) : H4 w t1 n1 g1 t2 n2 g2 t3 n3 g3 t4 n4 g4 (upd f1 m x) f2 f3 f4 (w1.setCell ⟨g1, m, none⟩ (.int .u8 x.toNat)) := by
  have q0 := H.lo; have q1 := H.lt1; have q2 := H.lt2; have q3 := H.lt3
  refine ⟨?_, H.b2.far (by simp <;> omega) _, H.b3.far (by simp <;> omega) _, H.b4.far (by simp <;> omega) _, H.bel.setCell (by simp <;> omega) _, H.lo, H.lt1, H.lt2, H.lt3⟩
  rw [← bytes_set]
  exact H.b1.set_ m _
theorem H4.as1 {w w1 : World} {t1 t2 t3 t4 : TypeId} {n1 n2 n3 n4 g1 g2 g3 g4 : Nat} {f1 f2 f3 f4 : Bf} (H : H4 w t1 n1 g1 t2 n2 g2 t3 n3 g3 t4 n4 g4 f1 f2 f3 f4 w1) {v : Bf} (h : ∀ i, i < n1 → f1 i = v i) : H4 w t1 n1 g1 t2 n2 g2 t3 n3 g3 t4 n4 g4 v f2 f3 f4 w1 :=
  ⟨(show bytes _ _ = bytes _ _ from bytes_ext h) ▸ H.b1, H.b2, H.b3, H.b4, H.bel, H.lo, H.lt1, H.lt2, H.lt3⟩
theorem H4.put2 {w w1 : World} {t1 t2 t3 t4 : TypeId} {n1 n2 n3 n4 g1 g2 g3 g4 : Nat} {f1 f2 f3 f4 : Bf} (H : H4 w t1 n1 g1 t2 n2 g2 t3 n3 g3 t4 n4 g4 f1 f2 f3 f4 w1) (v : Bf) : H4 w t1 n1 g1 t2 n2 g2 t3 n3 g3 t4 n4 g4 f1 v f3 f4 (w1.setCells g2 0 (bytes n2 v).toList) := by
  have q0 := H.lo; have q1 := H.lt1; have q2 := H.lt2; have q3 := H.lt3
  exact ⟨H.b1.mid_other (by omega) _ _, (H.b2.mid 0 n2 v).whole, H.b3.mid_other (by omega) _ _, H.b4.mid_other (by omega) _ _, setCells_below _ _ _ H.bel (by omega), H.lo, H.lt1, H.lt2, H.lt3⟩
theorem H4.byte2 {w w1 : World} {t1 t2 t3 t4 : TypeId} {n1 n2 n3 n4 g1 g2 g3 g4 : Nat} {f1 f2 f3 f4 : Bf} (H : H4 w t1 n1 g1 t2 n2 g2 t3 n3 g3 t4 n4 g4 f1 f2 f3 f4 w1) (m : Nat) (x : B8) : H4 w t1 n1 g1 t2 n2 g2 t3 n3 g3 t4 n4 g4 f1 (upd f2 m x) f3 f4 (w1.setCell ⟨g2, m, none⟩ (.int .u8 x.toNat)) := by
  have q0 := H.lo; have q1 := H.lt1; have q2 := H.lt2; have q3 := H.lt3
  refine ⟨H.b1.far (by simp <;> omega) _, ?_, H.b3.far (by simp <;> omega) _, H.b4.far (by simp <;> omega) _, H.bel.setCell (by simp <;> omega) _, H.lo, H.lt1, H.lt2, H.lt3⟩
  rw [← bytes_set]
  exact H.b2.set_ m _
theorem H4.as2 {w w1 : World} {t1 t2 t3 t4 : TypeId} {n1 n2 n3 n4 g1 g2 g3 g4 : Nat} {f1 f2 f3 f4 : Bf} (H : H4 w t1 n1 g1 t2 n2 g2 t3 n3 g3 t4 n4 g4 f1 f2 f3 f4 w1) {v : Bf} (h : ∀ i, i < n2 → f2 i = v i) : H4 w t1 n1 g1 t2 n2 g2 t3 n3 g3 t4 n4 g4 f1 v f3 f4 w1 :=
  ⟨H.b1, (show bytes _ _ = bytes _ _ from bytes_ext h) ▸ H.b2, H.b3, H.b4, H.bel, H.lo, H.lt1, H.lt2, H.lt3⟩
theorem H4.put3 {w w1 : World} {t1 t2 t3 t4 : TypeId} {n1 n2 n3 n4 g1 g2 g3 g4 : Nat} {f1 f2 f3 f4 : Bf} (H : H4 w t1 n1 g1 t2 n2 g2 t3 n3 g3 t4 n4 g4 f1 f2 f3 f4 w1) (v : Bf) : H4 w t1 n1 g1 t2 n2 g2 t3 n3 g3 t4 n4 g4 f1 f2 v f4 (w1.setCells g3 0 (bytes n3 v).toList) := by
  have q0 := H.lo; have q1 := H.lt1; have q2 := H.lt2; have q3 := H.lt3
  exact ⟨H.b1.mid_other (by omega) _ _, H.b2.mid_other (by omega) _ _, (H.b3.mid 0 n3 v).whole, H.b4.mid_other (by omega) _ _, setCells_below _ _ _ H.bel (by omega), H.lo, H.lt1, H.lt2, H.lt3⟩
theorem H4.byte3 {w w1 : World} {t1 t2 t3 t4 : TypeId} {n1 n2 n3 n4 g1 g2 g3 g4 : Nat} {f1 f2 f3 f4 : Bf} (H : H4 w t1 n1 g1 t2 n2 g2 t3 n3 g3 t4 n4 g4 f1 f2 f3 f4 w1) (m : Nat) (x : B8) : H4 w t1 n1 g1 t2 n2 g2 t3 n3 g3 t4 n4 g4 f1 f2 (upd f3 m x) f4 (w1.setCell ⟨g3, m, none⟩ (.int .u8 x.toNat)) := by
  have q0 := H.lo; have q1 := H.lt1; have q2 := H.lt2; have q3 := H.lt3
  refine ⟨H.b1.far (by simp <;> omega) _, H.b2.far (by simp <;> omega) _, ?_, H.b4.far (by simp <;> omega) _, H.bel.setCell (by simp <;> omega) _, H.lo, H.lt1, H.lt2, H.lt3⟩
  rw [← bytes_set]
  exact H.b3.set_ m _
theorem H4.as3 {w w1 : World} {t1 t2 t3 t4 : TypeId} {n1 n2 n3 n4 g1 g2 g3 g4 : Nat} {f1 f2 f3 f4 : Bf} (H : H4 w t1 n1 g1 t2 n2 g2 t3 n3 g3 t4 n4 g4 f1 f2 f3 f4 w1) {v : Bf} (h : ∀ i, i < n3 → f3 i = v i) : H4 w t1 n1 g1 t2 n2 g2 t3 n3 g3 t4 n4 g4 f1 f2 v f4 w1 :=
  ⟨H.b1, H.b2, (show bytes _ _ = bytes _ _ from bytes_ext h) ▸ H.b3, H.b4, H.bel, H.lo, H.lt1, H.lt2, H.lt3⟩
theorem H4.put4 {w w1 : World} {t1 t2 t3 t4 : TypeId} {n1 n2 n3 n4 g1 g2 g3 g4 : Nat} {f1 f2 f3 f4 : Bf} (H : H4 w t1 n1 g1 t2 n2 g2 t3 n3 g3 t4 n4 g4 f1 f2 f3 f4 w1) (v : Bf) : H4 w t1 n1 g1 t2 n2 g2 t3 n3 g3 t4 n4 g4 f1 f2 f3 v (w1.setCells g4 0 (bytes n4 v).toList) := by
  have q0 := H.lo; have q1 := H.lt1; have q2 := H.lt2; have q3 := H.lt3
  exact ⟨H.b1.mid_other (by omega) _ _, H.b2.mid_other (by omega) _ _, H.b3.mid_other (by omega) _ _, (H.b4.mid 0 n4 v).whole, setCells_below _ _ _ H.bel (by omega), H.lo, H.lt1, H.lt2, H.lt3⟩
theorem H4.byte4 {w w1 : World} {t1 t2 t3 t4 : TypeId} {n1 n2 n3 n4 g1 g2 g3 g4 : Nat} {f1 f2 f3 f4 : Bf} (H : H4 w t1 n1 g1 t2 n2 g2 t3 n3 g3 t4 n4 g4 f1 f2 f3 f4 w1) (m : Nat) (x : B8) : H4 w t1 n1 g1 t2 n2 g2 t3 n3 g3 t4 n4 g4 f1 f2 f3 (upd f4 m x) (w1.setCell ⟨g4, m, none⟩ (.int .u8 x.toNat)) := by
  have q0 := H.lo; have q1 := H.lt1; have q2 := H.lt2; have q3 := H.lt3
  refine ⟨H.b1.far (by simp <;> omega) _, H.b2.far (by simp <;> omega) _, H.b3.far (by simp <;> omega) _, ?_, H.bel.setCell (by simp <;> omega) _, H.lo, H.lt1, H.lt2, H.lt3⟩
  rw [← bytes_set]
  exact H.b4.set_ m _
theorem H4.as4 {w w1 : World} {t1 t2 t3 t4 : TypeId} {n1 n2 n3 n4 g1 g2 g3 g4 : Nat} {f1 f2 f3 f4 : Bf} (H : H4 w t1 n1 g1 t2 n2 g2 t3 n3 g3 t4 n4 g4 f1 f2 f3 f4 w1) {v : Bf} (h : ∀ i, i < n4 → f4 i = v i) : H4 w t1 n1 g1 t2 n2 g2 t3 n3 g3 t4 n4 g4 f1 f2 f3 v w1 :=
  ⟨H.b1, H.b2, H.b3, (show bytes _ _ = bytes _ _ from bytes_ext h) ▸ H.b4, H.bel, H.lo, H.lt1, H.lt2, H.lt3⟩
structure H5 (w : World) (t1 : TypeId) (n1 g1 : Nat) (t2 : TypeId) (n2 g2 : Nat) (t3 : TypeId) (n3 g3 : Nat) (t4 : TypeId) (n4 g4 : Nat) (t5 : TypeId) (n5 g5 : Nat) (f1 f2 f3 f4 f5 : Bf) (w' : World) : Prop where
  b1 : Blk w' g1 t1 (bytes n1 f1)
  b2 : Blk w' g2 t2 (bytes n2 f2)
  b3 : Blk w' g3 t3 (bytes n3 f3)
  b4 : Blk w' g4 t4 (bytes n4 f4)
  b5 : Blk w' g5 t5 (bytes n5 f5)
  bel : Below w.heap.size w w'
  lo : w.heap.size ≤ g1
  lt1 : g1 < g2
  lt2 : g2 < g3
  lt3 : g3 < g4
  lt4 : g4 < g5
theorem H5.later {w w1 w2 : World} {t1 t2 t3 t4 t5 : TypeId} {n1 n2 n3 n4 n5 g1 g2 g3 g4 g5 : Nat} {f1 f2 f3 f4 f5 : Bf} (H : H5 w t1 n1 g1 t2 n2 g2 t3 n3 g3 t4 n4 g4 t5 n5 g5 f1 f2 f3 f4 f5 w1) (hb : Below w1.heap.size w1 w2) : H5 w t1 n1 g1 t2 n2 g2 t3 n3 g3 t4 n4 g4 t5 n5 g5 f1 f2 f3 f4 f5 w2 :=
  ⟨H.b1.below hb H.b1.lt, H.b2.below hb H.b2.lt, H.b3.below hb H.b3.lt, H.b4.below hb H.b4.lt, H.b5.below hb H.b5.lt, H.bel.trans (hb.mono H.bel.size), H.lo, H.lt1, H.lt2, H.lt3, H.lt4⟩
theorem H5.drew {w w1 : World} {t1 t2 t3 t4 t5 : TypeId} {n1 n2 n3 n4 n5 g1 g2 g3 g4 g5 : Nat} {f1 f2 f3 f4 f5 : Bf} (H : H5 w t1 n1 g1 t2 n2 g2 t3 n3 g3 t4 n4 g4 t5 n5 g5 f1 f2 f3 f4 f5 w1) : H5 w t1 n1 g1 t2 n2 g2 t3 n3 g3 t4 n4 g4 t5 n5 g5 f1 f2 f3 f4 f5 w1.drew := H.later (Below.refl _ _).drew
theorem H5.put1 {w w1 : World} {t1 t2 t3 t4 t5 : TypeId} {n1 n2 n3 n4 n5 g1 g2 g3 g4 g5 : Nat} {f1 f2 f3 f4 f5 : Bf} (H : H5 w t1 n1 g1 t2 n2 g2 t3 n3 g3 t4 n4 g4 t5 n5 g5 f1 f2 f3 f4 f5 w1) (v : Bf) : H5 w t1 n1 g1 t2 n2 g2 t3 n3 g3 t4 n4 g4 t5 n5 g5 v f2 f3 f4 f5 (w1.setCells g1 0 (bytes n1 v).toList) := by
  have q0 := H.lo; have q1 := H.lt1; have q2 := H.lt2; have q3 := H.lt3; have q4 := H.lt4
  exact ⟨(H.b1.mid 0 n1 v).whole, H.b2.mid_other (by omega) _ _, H.b3.mid_other (by omega) _ _, H.b4.mid_other (by omega) _ _, H.b5.mid_other (by omega) _ _, setCells_below _ _ _ H.bel (by omega), H.lo, H.lt1, H.lt2, H.lt3, H.lt4⟩
theorem H5.byte1 {w w1 : World} {t1 t2 t3 t4 t5 : TypeId} {n1 n2 n3 n4 n5 g1 g2 g3 g4 g5 : Nat} {f1 f2 f3 f4 f5 : Bf} (H : H5 w t1 n1 g1 t2 n2 g2 t3 n3 g3 t4 n4 g4 t5 n5 g5 f1 f2 f3 f4 f5 w1) (m : Nat) (x : B8) : H5 w t1 n1 g1 t2 n2 g2 t3 n3 g3 t4 n4 g4 t5 n5 g5 (upd f1 m x) f2 f3 f4 f5 (w1.setCell ⟨g1, m, none⟩ (.int .u8 x.toNat)) := by
  have q0 := H.lo; have q1 := H.lt1; have q2 := H.lt2; have q3 := H.lt3; have q4 := H.lt4
  refine ⟨?_, H.b2.far (by simp <;> omega) _, H.b3.far (by simp <;> omega) _, H.b4.far (by simp <;> omega) _, H.b5.far (by simp <;> omega) _, H.bel.setCell (by simp <;> omega) _, H.lo, H.lt1, H.lt2, H.lt3, H.lt4⟩
  rw [← bytes_set]
  exact H.b1.set_ m _
theorem H5.as1 {w w1 : World} {t1 t2 t3 t4 t5 : TypeId} {n1 n2 n3 n4 n5 g1 g2 g3 g4 g5 : Nat} {f1 f2 f3 f4 f5 : Bf} (H : H5 w t1 n1 g1 t2 n2 g2 t3 n3 g3 t4 n4 g4 t5 n5 g5 f1 f2 f3 f4 f5 w1) {v : Bf} (h : ∀ i, i < n1 → f1 i = v i) : H5 w t1 n1 g1 t2 n2 g2 t3 n3 g3 t4 n4 g4 t5 n5 g5 v f2 f3 f4 f5 w1 :=
  ⟨(show bytes _ _ = bytes _ _ from bytes_ext h) ▸ H.b1, H.b2, H.b3, H.b4, H.b5, H.bel, H.lo, H.lt1, H.lt2, H.lt3, H.lt4⟩
theorem H5.put2 {w w1 : World} {t1 t2 t3 t4 t5 : TypeId} {n1 n2 n3 n4 n5 g1 g2 g3 g4 g5 : Nat} {f1 f2 f3 f4 f5 : Bf} (H : H5 w t1 n1 g1 t2 n2 g2 t3 n3 g3 t4 n4 g4 t5 n5 g5 f1 f2 f3 f4 f5 w1) (v : Bf) : H5 w t1 n1 g1 t2 n2 g2 t3 n3 g3 t4 n4 g4 t5 n5 g5 f1 v f3 f4 f5 (w1.setCells g2 0 (bytes n2 v).toList) := by
  have q0 := H.lo; have q1 := H.lt1; have q2 := H.lt2; have q3 := H.lt3; have q4 := H.lt4
  exact ⟨H.b1.mid_other (by omega) _ _, (H.b2.mid 0 n2 v).whole, H.b3.mid_other (by omega) _ _, H.b4.mid_other (by omega) _ _, H.b5.mid_other (by omega) _ _, setCells_below _ _ _ H.bel (by omega), H.lo, H.lt1, H.lt2, H.lt3, H.lt4⟩
theorem H5.byte2 {w w1 : World} {t1 t2 t3 t4 t5 : TypeId} {n1 n2 n3 n4 n5 g1 g2 g3 g4 g5 : Nat} {f1 f2 f3 f4 f5 : Bf} (H : H5 w t1 n1 g1 t2 n2 g2 t3 n3 g3 t4 n4 g4 t5 n5 g5 f1 f2 f3 f4 f5 w1) (m : Nat) (x : B8) : H5 w t1 n1 g1 t2 n2 g2 t3 n3 g3 t4 n4 g4 t5 n5 g5 f1 (upd f2 m x) f3 f4 f5 (w1.setCell ⟨g2, m, none⟩ (.int .u8 x.toNat)) := by
  have q0 := H.lo; have q1 := H.lt1; have q2 := H.lt2; have q3 := H.lt3; have q4 := H.lt4
  refine ⟨H.b1.far (by simp <;> omega) _, ?_, H.b3.far (by simp <;> omega) _, H.b4.far (by simp <;> omega) _, H.b5.far (by simp <;> omega) _, H.bel.setCell (by simp <;> omega) _, H.lo, H.lt1, H.lt2, H.lt3, H.lt4⟩
  rw [← bytes_set]
  exact H.b2.set_ m _
theorem H5.as2 {w w1 : World} {t1 t2 t3 t4 t5 : TypeId} {n1 n2 n3 n4 n5 g1 g2 g3 g4 g5 : Nat} {f1 f2 f3 f4 f5 : Bf} (H : H5 w t1 n1 g1 t2 n2 g2 t3 n3 g3 t4 n4 g4 t5 n5 g5 f1 f2 f3 f4 f5 w1) {v : Bf} (h : ∀ i, i < n2 → f2 i = v i) : H5 w t1 n1 g1 t2 n2 g2 t3 n3 g3 t4 n4 g4 t5 n5 g5 f1 v f3 f4 f5 w1 :=
  ⟨H.b1, (show bytes _ _ = bytes _ _ from bytes_ext h) ▸ H.b2, H.b3, H.b4, H.b5, H.bel, H.lo, H.lt1, H.lt2, H.lt3, H.lt4⟩
theorem H5.put3 {w w1 : World} {t1 t2 t3 t4 t5 : TypeId} {n1 n2 n3 n4 n5 g1 g2 g3 g4 g5 : Nat} {f1 f2 f3 f4 f5 : Bf} (H : H5 w t1 n1 g1 t2 n2 g2 t3 n3 g3 t4 n4 g4 t5 n5 g5 f1 f2 f3 f4 f5 w1) (v : Bf) : H5 w t1 n1 g1 t2 n2 g2 t3 n3 g3 t4 n4 g4 t5 n5 g5 f1 f2 v f4 f5 (w1.setCells g3 0 (bytes n3 v).toList) := by
  have q0 := H.lo; have q1 := H.lt1; have q2 := H.lt2; have q3 := H.lt3; have q4 := H.lt4
  exact ⟨H.b1.mid_other (by omega) _ _, H.b2.mid_other (by omega) _ _, (H.b3.mid 0 n3 v).whole, H.b4.mid_other (by omega) _ _, H.b5.mid_other (by omega) _ _, setCells_below _ _ _ H.bel (by omega), H.lo, H.lt1, H.lt2, H.lt3, H.lt4⟩
theorem H5.byte3 {w w1 : World} {t1 t2 t3 t4 t5 : TypeId} {n1 n2 n3 n4 n5 g1 g2 g3 g4 g5 : Nat} {f1 f2 f3 f4 f5 : Bf} (H : H5 w t1 n1 g1 t2 n2 g2 t3 n3 g3 t4 n4 g4 t5 n5 g5 f1 f2 f3 f4 f5 w1) (m : Nat) (x : B8) : H5 w t1 n1 g1 t2 n2 g2 t3 n3 g3 t4 n4 g4 t5 n5 g5 f1 f2 (upd f3 m x) f4 f5 (w1.setCell ⟨g3, m, none⟩ (.int .u8 x.toNat)) := by
  have q0 := H.lo; have q1 := H.lt1; have q2 := H.lt2; have q3 := H.lt3; have q4 := H.lt4
  refine ⟨H.b1.far (by simp <;> omega) _, H.b2.far (by simp <;> omega) _, ?_, H.b4.far (by simp <;> omega) _, H.b5.far (by simp <;> omega) _, H.bel.setCell (by simp <;> omega) _, H.lo, H.lt1, H.lt2, H.lt3, H.lt4⟩
  rw [← bytes_set]
  exact H.b3.set_ m _
theorem H5.as3 {w w1 : World} {t1 t2 t3 t4 t5 : TypeId} {n1 n2 n3 n4 n5 g1 g2 g3 g4 g5 : Nat} {f1 f2 f3 f4 f5 : Bf} (H : H5 w t1 n1 g1 t2 n2 g2 t3 n3 g3 t4 n4 g4 t5 n5 g5 f1 f2 f3 f4 f5 w1) {v : Bf} (h : ∀ i, i < n3 → f3 i = v i) : H5 w t1 n1 g1 t2 n2 g2 t3 n3 g3 t4 n4 g4 t5 n5 g5 f1 f2 v f4 f5 w1 :=
  ⟨H.b1, H.b2, (show bytes _ _ = bytes _ _ from bytes_ext h) ▸ H.b3, H.b4, H.b5, H.bel, H.lo, H.lt1, H.lt2, H.lt3, H.lt4⟩
theorem H5.put4 {w w1 : World} {t1 t2 t3 t4 t5 : TypeId} {n1 n2 n3 n4 n5 g1 g2 g3 g4 g5 : Nat} {f1 f2 f3 f4 f5 : Bf} (H : H5 w t1 n1 g1 t2 n2 g2 t3 n3 g3 t4 n4 g4 t5 n5 g5 f1 f2 f3 f4 f5 w1) (v : Bf) : H5 w t1 n1 g1 t2 n2 g2 t3 n3 g3 t4 n4 g4 t5 n5 g5 f1 f2 f3 v f5 (w1.setCells g4 0 (bytes n4 v).toList) := by
  have q0 := H.lo; have q1 := H.lt1; have q2 := H.lt2; have q3 := H.lt3; have q4 := H.lt4
  exact ⟨H.b1.mid_other (by omega) _ _, H.b2.mid_other (by omega) _ _, H.b3.mid_other (by omega) _ _, (H.b4.mid 0 n4 v).whole, H.b5.mid_other (by omega) _ _, setCells_below _ _ _ H.bel (by omega), H.lo, H.lt1, H.lt2, H.lt3, H.lt4⟩
theorem H5.byte4 {w w1 : World} {t1 t2 t3 t4 t5 : TypeId} {n1 n2 n3 n4 n5 g1 g2 g3 g4 g5 : Nat} {f1 f2 f3 f4 f5 : Bf} (H : H5 w t1 n1 g1 t2 n2 g2 t3 n3 g3 t4 n4 g4 t5 n5 g5 f1 f2 f3 f4 f5 w1) (m : Nat) (x : B8) : H5 w t1 n1 g1 t2 n2 g2 t3 n3 g3 t4 n4 g4 t5 n5 g5 f1 f2 f3 (upd f4 m x) f5 (w1.setCell ⟨g4, m, none⟩ (.int .u8 x.toNat)) := by
  have q0 := H.lo; have q1 := H.lt1; have q2 := H.lt2; have q3 := H.lt3; have q4 := H.lt4
  refine ⟨H.b1.far (by simp <;> omega) _, H.b2.far (by simp <;> omega) _, H.b3.far (by simp <;> omega) _, ?_, H.b5.far (by simp <;> omega) _, H.bel.setCell (by simp <;> omega) _, H.lo, H.lt1, H.lt2, H.lt3, H.lt4⟩
  rw [← bytes_set]
  exact H.b4.set_ m _
theorem H5.as4 {w w1 : World} {t1 t2 t3 t4 t5 : TypeId} {n1 n2 n3 n4 n5 g1 g2 g3 g4 g5 : Nat} {f1 f2 f3 f4 f5 : Bf} (H : H5 w t1 n1 g1 t2 n2 g2 t3 n3 g3 t4 n4 g4 t5 n5 g5 f1 f2 f3 f4 f5 w1) {v : Bf} (h : ∀ i, i < n4 → f4 i = v i) : H5 w t1 n1 g1 t2 n2 g2 t3 n3 g3 t4 n4 g4 t5 n5 g5 f1 f2 f3 v f5 w1 :=
  ⟨H.b1, H.b2, H.b3, (show bytes _ _ = bytes _ _ from bytes_ext h) ▸ H.b4, H.b5, H.bel, H.lo, H.lt1, H.lt2, H.lt3, H.lt4⟩
theorem H5.put5 {w w1 : World} {t1 t2 t3 t4 t5 : TypeId} {n1 n2 n3 n4 n5 g1 g2 g3 g4 g5 : Nat} {f1 f2 f3 f4 f5 : Bf} (H : H5 w t1 n1 g1 t2 n2 g2 t3 n3 g3 t4 n4 g4 t5 n5 g5 f1 f2 f3 f4 f5 w1) (v : Bf) : H5 w t1 n1 g1 t2 n2 g2 t3 n3 g3 t4 n4 g4 t5 n5 g5 f1 f2 f3 f4 v (w1.setCells g5 0 (bytes n5 v).toList) := by
  have q0 := H.lo; have q1 := H.lt1; have q2 := H.lt2; have q3 := H.lt3; have q4 := H.lt4
  exact ⟨H.b1.mid_other (by omega) _ _, H.b2.mid_other (by omega) _ _, H.b3.mid_other (by omega) _ _, H.b4.mid_other (by omega) _ _, (H.b5.mid 0 n5 v).whole, setCells_below _ _ _ H.bel (by omega), H.lo, H.lt1, H.lt2, H.lt3, H.lt4⟩
theorem H5.byte5 {w w1 : World} {t1 t2 t3 t4 t5 : TypeId} {n1 n2 n3 n4 n5 g1 g2 g3 g4 g5 : Nat} {f1 f2 f3 f4 f5 : Bf} (H : H5 w t1 n1 g1 t2 n2 g2 t3 n3 g3 t4 n4 g4 t5 n5 g5 f1 f2 f3 f4 f5 w1) (m : Nat) (x : B8) : H5 w t1 n1 g1 t2 n2 g2 t3 n3 g3 t4 n4 g4 t5 n5 g5 f1 f2 f3 f4 (upd f5 m x) (w1.setCell ⟨g5, m, none⟩ (.int .u8 x.toNat)) := by
  have q0 := H.lo; have q1 := H.lt1; have q2 := H.lt2; have q3 := H.lt3; have q4 := H.lt4
  refine ⟨H.b1.far (by simp <;> omega) _, H.b2.far (by simp <;> omega) _, H.b3.far (by simp <;> omega) _, H.b4.far (by simp <;> omega) _, ?_, H.bel.setCell (by simp <;> omega) _, H.lo, H.lt1, H.lt2, H.lt3, H.lt4⟩
  rw [← bytes_set]
  exact H.b5.set_ m _
theorem H5.as5 {w w1 : World} {t1 t2 t3 t4 t5 : TypeId} {n1 n2 n3 n4 n5 g1 g2 g3 g4 g5 : Nat} {f1 f2 f3 f4 f5 : Bf} (H : H5 w t1 n1 g1 t2 n2 g2 t3 n3 g3 t4 n4 g4 t5 n5 g5 f1 f2 f3 f4 f5 w1) {v : Bf} (h : ∀ i, i < n5 → f5 i = v i) : H5 w t1 n1 g1 t2 n2 g2 t3 n3 g3 t4 n4 g4 t5 n5 g5 f1 f2 f3 f4 v w1 :=
  ⟨H.b1, H.b2, H.b3, H.b4, (show bytes _ _ = bytes _ _ from bytes_ext h) ▸ H.b5, H.bel, H.lo, H.lt1, H.lt2, H.lt3, H.lt4⟩
theorem H1.more {w w1 : World} {t1 : TypeId} {n1 g1 : Nat} {f1 : Bf} (H : H1 w t1 n1 g1 f1 w1) (t : TypeId) (n : Nat) (f : Bf) : H2 w t1 n1 g1 t n w1.heap.size f1 f (w1.alloc (.cells (bytes n f) t)) :=
  ⟨H.b1.alloc _, Blk.new w1 t _, H.bel.alloc H.bel.size _, H.lo, H.b1.lt⟩
theorem H2.more {w w1 : World} {t1 t2 : TypeId} {n1 g1 n2 g2 : Nat} {f1 f2 : Bf} (H : H2 w t1 n1 g1 t2 n2 g2 f1 f2 w1) (t : TypeId) (n : Nat) (f : Bf) : H3 w t1 n1 g1 t2 n2 g2 t n w1.heap.size f1 f2 f (w1.alloc (.cells (bytes n f) t)) :=
  ⟨H.b1.alloc _, H.b2.alloc _, Blk.new w1 t _, H.bel.alloc H.bel.size _, H.lo, H.lt1, H.b2.lt⟩
theorem H3.more {w w1 : World} {t1 t2 t3 : TypeId} {n1 g1 n2 g2 n3 g3 : Nat} {f1 f2 f3 : Bf} (H : H3 w t1 n1 g1 t2 n2 g2 t3 n3 g3 f1 f2 f3 w1) (t : TypeId) (n : Nat) (f : Bf) : H4 w t1 n1 g1 t2 n2 g2 t3 n3 g3 t n w1.heap.size f1 f2 f3 f (w1.alloc (.cells (bytes n f) t)) :=
  ⟨H.b1.alloc _, H.b2.alloc _, H.b3.alloc _, Blk.new w1 t _, H.bel.alloc H.bel.size _, H.lo, H.lt1, H.lt2, H.b3.lt⟩
theorem H4.more {w w1 : World} {t1 t2 t3 t4 : TypeId} {n1 g1 n2 g2 n3 g3 n4 g4 : Nat} {f1 f2 f3 f4 : Bf} (H : H4 w t1 n1 g1 t2 n2 g2 t3 n3 g3 t4 n4 g4 f1 f2 f3 f4 w1) (t : TypeId) (n : Nat) (f : Bf) : H5 w t1 n1 g1 t2 n2 g2 t3 n3 g3 t4 n4 g4 t n w1.heap.size f1 f2 f3 f4 f (w1.alloc (.cells (bytes n f) t)) :=
  ⟨H.b1.alloc _, H.b2.alloc _, H.b3.alloc _, H.b4.alloc _, Blk.new w1 t _, H.bel.alloc H.bel.size _, H.lo, H.lt1, H.lt2, H.lt3, H.b4.lt⟩
theorem H1.start (w : World) (t : TypeId) (n : Nat) (f : Bf) : H1 w t n w.heap.size f (w.alloc (.cells (bytes n f) t)) := ⟨Blk.new w t _, (Below.refl _ _).alloc (Nat.le_refl _) _, Nat.le_refl _⟩
theorem H2.start (w : World) (t n t' n' : Nat) (f f' : Bf) : H2 w t n w.heap.size t' n' (w.heap.size + 1) f f' ((w.alloc (.cells (bytes n f) t)).alloc (.cells (bytes n' f') t')) := by
  have h := (H1.start w t n f).more t' n' f'
  have s1 : (w.alloc (.cells (bytes n f) t)).heap.size = w.heap.size + 1 := by simp
  rwa [s1] at h
theorem H3.start (w : World) (t n t' n' t'' n'' : Nat) (f f' f'' : Bf) : H3 w t n w.heap.size t' n' (w.heap.size + 1) t'' n'' (w.heap.size + 1 + 1) f f' f'' (((w.alloc (.cells (bytes n f) t)).alloc (.cells (bytes n' f') t')).alloc (.cells (bytes n'' f'') t'')) := by
  have h := (H2.start w t n t' n' f f').more t'' n'' f''
  have s1 : ((w.alloc (.cells (bytes n f) t)).alloc (.cells (bytes n' f') t')).heap.size = w.heap.size + 1 + 1 := by simp
  rwa [s1] at h
theorem H4.start (w : World) (t n t' n' t'' n'' t3 n3 : Nat) (f f' f'' f3 : Bf) : H4 w t n w.heap.size t' n' (w.heap.size + 1) t'' n'' (w.heap.size + 1 + 1) t3 n3 (w.heap.size + 1 + 1 + 1) f f' f'' f3 ((((w.alloc (.cells (bytes n f) t)).alloc (.cells (bytes n' f') t')).alloc (.cells (bytes n'' f'') t'')).alloc (.cells (bytes n3 f3) t3)) := by
  have h := (H3.start w t n t' n' t'' n'' f f' f'').more t3 n3 f3
  have s1 : (((w.alloc (.cells (bytes n f) t)).alloc (.cells (bytes n' f') t')).alloc (.cells (bytes n'' f'') t'')).heap.size = w.heap.size + 1 + 1 + 1 := by simp
  rwa [s1] at h
theorem H5.start (w : World) (t n t' n' t'' n'' t3 n3 t4 n4 : Nat) (f f' f'' f3 f4 : Bf) : H5 w t n w.heap.size t' n' (w.heap.size + 1) t'' n'' (w.heap.size + 1 + 1) t3 n3 (w.heap.size + 1 + 1 + 1) t4 n4 (w.heap.size + 1 + 1 + 1 + 1) f f' f'' f3 f4 (((((w.alloc (.cells (bytes n f) t)).alloc (.cells (bytes n' f') t')).alloc (.cells (bytes n'' f'') t'')).alloc (.cells (bytes n3 f3) t3)).alloc (.cells (bytes n4 f4) t4)) := by
  have h := (H4.start w t n t' n' t'' n'' t3 n3 f f' f'' f3).more t4 n4 f4
  have s1 : ((((w.alloc (.cells (bytes n f) t)).alloc (.cells (bytes n' f') t')).alloc (.cells (bytes n'' f'') t'')).alloc (.cells (bytes n3 f3) t3)).heap.size = w.heap.size + 1 + 1 + 1 + 1 := by simp
  rwa [s1] at h
theorem bytes_zero16 : bytes 16 (fun _ => 0#8) = #[.int .u8 0, .int .u8 0, .int .u8 0, .int .u8 0, .int .u8 0, .int .u8 0, .int .u8 0, .int .u8 0, .int .u8 0, .int .u8 0, .int .u8 0, .int .u8 0, .int .u8 0, .int .u8 0, .int .u8 0, .int .u8 0] := rfl
end Go.Proofs.Ythjigmfooobfmab
