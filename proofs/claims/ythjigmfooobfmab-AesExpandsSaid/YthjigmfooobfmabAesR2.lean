/-
  THE WALK of the reference's round.
-/
import Derived.Test.YthjigmfooobfmabAesR1
import Derived.IntWalk
import Derived.Deep.DeepCutAuto
namespace Go.Proofs.Ythjigmfooobfmab
open Go.RowKit Gf
set_option linter.unusedSimpArgs false
structure H6 (w : World) (t1 : TypeId) (n1 g1 : Nat) (t2 : TypeId) (n2 g2 : Nat) (t3 : TypeId) (n3 g3 : Nat) (t4 : TypeId) (n4 g4 : Nat) (t5 : TypeId) (n5 g5 : Nat) (t6 : TypeId) (n6 g6 : Nat) (f1 f2 f3 f4 f5 f6 : Bf) (w' : World) : Prop where
  b1 : Blk w' g1 t1 (bytes n1 f1)
  b2 : Blk w' g2 t2 (bytes n2 f2)
  b3 : Blk w' g3 t3 (bytes n3 f3)
  b4 : Blk w' g4 t4 (bytes n4 f4)
  b5 : Blk w' g5 t5 (bytes n5 f5)
  b6 : Blk w' g6 t6 (bytes n6 f6)
  bel : Below w.heap.size w w'
  lo : w.heap.size ≤ g1
  lt1 : g1 < g2
  lt2 : g2 < g3
  lt3 : g3 < g4
  lt4 : g4 < g5
  lt5 : g5 < g6
theorem H6.later {w w1 w2 : World} {t1 t2 t3 t4 t5 t6 : TypeId} {n1 n2 n3 n4 n5 n6 g1 g2 g3 g4 g5 g6 : Nat} {f1 f2 f3 f4 f5 f6 : Bf} (H : H6 w t1 n1 g1 t2 n2 g2 t3 n3 g3 t4 n4 g4 t5 n5 g5 t6 n6 g6 f1 f2 f3 f4 f5 f6 w1) (hb : Below w1.heap.size w1 w2) : H6 w t1 n1 g1 t2 n2 g2 t3 n3 g3 t4 n4 g4 t5 n5 g5 t6 n6 g6 f1 f2 f3 f4 f5 f6 w2 :=
  ⟨H.b1.below hb H.b1.lt, H.b2.below hb H.b2.lt, H.b3.below hb H.b3.lt, H.b4.below hb H.b4.lt, H.b5.below hb H.b5.lt, H.b6.below hb H.b6.lt, H.bel.trans (hb.mono H.bel.size), H.lo, H.lt1, H.lt2, H.lt3, H.lt4, H.lt5⟩
theorem H6.drew {w w1 : World} {t1 t2 t3 t4 t5 t6 : TypeId} {n1 n2 n3 n4 n5 n6 g1 g2 g3 g4 g5 g6 : Nat} {f1 f2 f3 f4 f5 f6 : Bf} (H : H6 w t1 n1 g1 t2 n2 g2 t3 n3 g3 t4 n4 g4 t5 n5 g5 t6 n6 g6 f1 f2 f3 f4 f5 f6 w1) : H6 w t1 n1 g1 t2 n2 g2 t3 n3 g3 t4 n4 g4 t5 n5 g5 t6 n6 g6 f1 f2 f3 f4 f5 f6 w1.drew := H.later (Below.refl _ _).drew
theorem H6.put1 {w w1 : World} {t1 t2 t3 t4 t5 t6 : TypeId} {n1 n2 n3 n4 n5 n6 g1 g2 g3 g4 g5 g6 : Nat} {f1 f2 f3 f4 f5 f6 : Bf} (H : H6 w t1 n1 g1 t2 n2 g2 t3 n3 g3 t4 n4 g4 t5 n5 g5 t6 n6 g6 f1 f2 f3 f4 f5 f6 w1) (v : Bf) : H6 w t1 n1 g1 t2 n2 g2 t3 n3 g3 t4 n4 g4 t5 n5 g5 t6 n6 g6 v f2 f3 f4 f5 f6 (w1.setCells g1 0 (bytes n1 v).toList) := by
  have q0 := H.lo; have q1 := H.lt1; have q2 := H.lt2; have q3 := H.lt3; have q4 := H.lt4; have q5 := H.lt5
  exact ⟨(H.b1.mid 0 n1 v).whole, H.b2.mid_other (by omega) _ _, H.b3.mid_other (by omega) _ _, H.b4.mid_other (by omega) _ _, H.b5.mid_other (by omega) _ _, H.b6.mid_other (by omega) _ _, setCells_below _ _ _ H.bel (by omega), H.lo, H.lt1, H.lt2, H.lt3, H.lt4, H.lt5⟩
theorem H6.byte1 {w w1 : World} {t1 t2 t3 t4 t5 t6 : TypeId} {n1 n2 n3 n4 n5 n6 g1 g2 g3 g4 g5 g6 : Nat} {f1 f2 f3 f4 f5 f6 : Bf} (H : H6 w t1 n1 g1 t2 n2 g2 t3 n3 g3 t4 n4 g4 t5 n5 g5 t6 n6 g6 f1 f2 f3 f4 f5 f6 w1) (m : Nat) (x : B8) : H6 w t1 n1 g1 t2 n2 g2 t3 n3 g3 t4 n4 g4 t5 n5 g5 t6 n6 g6 (upd f1 m x) f2 f3 f4 f5 f6 (w1.setCell ⟨g1, m, none⟩ (.int .u8 x.toNat)) := by
  have q0 := H.lo; have q1 := H.lt1; have q2 := H.lt2; have q3 := H.lt3; have q4 := H.lt4; have q5 := H.lt5
  refine ⟨?_, H.b2.far (by simp <;> omega) _, H.b3.far (by simp <;> omega) _, H.b4.far (by simp <;> omega) _, H.b5.far (by simp <;> omega) _, H.b6.far (by simp <;> omega) _, H.bel.setCell (by simp <;> omega) _, H.lo, H.lt1, H.lt2, H.lt3, H.lt4, H.lt5⟩
  rw [← bytes_set]
  exact H.b1.set_ m _
theorem H6.as1 {w w1 : World} {t1 t2 t3 t4 t5 t6 : TypeId} {n1 n2 n3 n4 n5 n6 g1 g2 g3 g4 g5 g6 : Nat} {f1 f2 f3 f4 f5 f6 : Bf} (H : H6 w t1 n1 g1 t2 n2 g2 t3 n3 g3 t4 n4 g4 t5 n5 g5 t6 n6 g6 f1 f2 f3 f4 f5 f6 w1) {v : Bf} (h : ∀ i, i < n1 → f1 i = v i) : H6 w t1 n1 g1 t2 n2 g2 t3 n3 g3 t4 n4 g4 t5 n5 g5 t6 n6 g6 v f2 f3 f4 f5 f6 w1 :=
  ⟨(show bytes _ _ = bytes _ _ from bytes_ext h) ▸ H.b1, H.b2, H.b3, H.b4, H.b5, H.b6, H.bel, H.lo, H.lt1, H.lt2, H.lt3, H.lt4, H.lt5⟩
theorem H6.put2 {w w1 : World} {t1 t2 t3 t4 t5 t6 : TypeId} {n1 n2 n3 n4 n5 n6 g1 g2 g3 g4 g5 g6 : Nat} {f1 f2 f3 f4 f5 f6 : Bf} (H : H6 w t1 n1 g1 t2 n2 g2 t3 n3 g3 t4 n4 g4 t5 n5 g5 t6 n6 g6 f1 f2 f3 f4 f5 f6 w1) (v : Bf) : H6 w t1 n1 g1 t2 n2 g2 t3 n3 g3 t4 n4 g4 t5 n5 g5 t6 n6 g6 f1 v f3 f4 f5 f6 (w1.setCells g2 0 (bytes n2 v).toList) := by
  have q0 := H.lo; have q1 := H.lt1; have q2 := H.lt2; have q3 := H.lt3; have q4 := H.lt4; have q5 := H.lt5
  exact ⟨H.b1.mid_other (by omega) _ _, (H.b2.mid 0 n2 v).whole, H.b3.mid_other (by omega) _ _, H.b4.mid_other (by omega) _ _, H.b5.mid_other (by omega) _ _, H.b6.mid_other (by omega) _ _, setCells_below _ _ _ H.bel (by omega), H.lo, H.lt1, H.lt2, H.lt3, H.lt4, H.lt5⟩
theorem H6.byte2 {w w1 : World} {t1 t2 t3 t4 t5 t6 : TypeId} {n1 n2 n3 n4 n5 n6 g1 g2 g3 g4 g5 g6 : Nat} {f1 f2 f3 f4 f5 f6 : Bf} (H : H6 w t1 n1 g1 t2 n2 g2 t3 n3 g3 t4 n4 g4 t5 n5 g5 t6 n6 g6 f1 f2 f3 f4 f5 f6 w1) (m : Nat) (x : B8) : H6 w t1 n1 g1 t2 n2 g2 t3 n3 g3 t4 n4 g4 t5 n5 g5 t6 n6 g6 f1 (upd f2 m x) f3 f4 f5 f6 (w1.setCell ⟨g2, m, none⟩ (.int .u8 x.toNat)) := by
  have q0 := H.lo; have q1 := H.lt1; have q2 := H.lt2; have q3 := H.lt3; have q4 := H.lt4; have q5 := H.lt5
  refine ⟨H.b1.far (by simp <;> omega) _, ?_, H.b3.far (by simp <;> omega) _, H.b4.far (by simp <;> omega) _, H.b5.far (by simp <;> omega) _, H.b6.far (by simp <;> omega) _, H.bel.setCell (by simp <;> omega) _, H.lo, H.lt1, H.lt2, H.lt3, H.lt4, H.lt5⟩
  rw [← bytes_set]
  exact H.b2.set_ m _
theorem H6.as2 {w w1 : World} {t1 t2 t3 t4 t5 t6 : TypeId} {n1 n2 n3 n4 n5 n6 g1 g2 g3 g4 g5 g6 : Nat} {f1 f2 f3 f4 f5 f6 : Bf} (H : H6 w t1 n1 g1 t2 n2 g2 t3 n3 g3 t4 n4 g4 t5 n5 g5 t6 n6 g6 f1 f2 f3 f4 f5 f6 w1) {v : Bf} (h : ∀ i, i < n2 → f2 i = v i) : H6 w t1 n1 g1 t2 n2 g2 t3 n3 g3 t4 n4 g4 t5 n5 g5 t6 n6 g6 f1 v f3 f4 f5 f6 w1 :=
  ⟨H.b1, (show bytes _ _ = bytes _ _ from bytes_ext h) ▸ H.b2, H.b3, H.b4, H.b5, H.b6, H.bel, H.lo, H.lt1, H.lt2, H.lt3, H.lt4, H.lt5⟩
theorem H6.put3 {w w1 : World} {t1 t2 t3 t4 t5 t6 : TypeId} {n1 n2 n3 n4 n5 n6 g1 g2 g3 g4 g5 g6 : Nat} {f1 f2 f3 f4 f5 f6 : Bf} (H : H6 w t1 n1 g1 t2 n2 g2 t3 n3 g3 t4 n4 g4 t5 n5 g5 t6 n6 g6 f1 f2 f3 f4 f5 f6 w1) (v : Bf) : H6 w t1 n1 g1 t2 n2 g2 t3 n3 g3 t4 n4 g4 t5 n5 g5 t6 n6 g6 f1 f2 v f4 f5 f6 (w1.setCells g3 0 (bytes n3 v).toList) := by
  have q0 := H.lo; have q1 := H.lt1; have q2 := H.lt2; have q3 := H.lt3; have q4 := H.lt4; have q5 := H.lt5
  exact ⟨H.b1.mid_other (by omega) _ _, H.b2.mid_other (by omega) _ _, (H.b3.mid 0 n3 v).whole, H.b4.mid_other (by omega) _ _, H.b5.mid_other (by omega) _ _, H.b6.mid_other (by omega) _ _, setCells_below _ _ _ H.bel (by omega), H.lo, H.lt1, H.lt2, H.lt3, H.lt4, H.lt5⟩
theorem H6.byte3 {w w1 : World} {t1 t2 t3 t4 t5 t6 : TypeId} {n1 n2 n3 n4 n5 n6 g1 g2 g3 g4 g5 g6 : Nat} {f1 f2 f3 f4 f5 f6 : Bf} (H : H6 w t1 n1 g1 t2 n2 g2 t3 n3 g3 t4 n4 g4 t5 n5 g5 t6 n6 g6 f1 f2 f3 f4 f5 f6 w1) (m : Nat) (x : B8) : H6 w t1 n1 g1 t2 n2 g2 t3 n3 g3 t4 n4 g4 t5 n5 g5 t6 n6 g6 f1 f2 (upd f3 m x) f4 f5 f6 (w1.setCell ⟨g3, m, none⟩ (.int .u8 x.toNat)) := by
  have q0 := H.lo; have q1 := H.lt1; have q2 := H.lt2; have q3 := H.lt3; have q4 := H.lt4; have q5 := H.lt5
  refine ⟨H.b1.far (by simp <;> omega) _, H.b2.far (by simp <;> omega) _, ?_, H.b4.far (by simp <;> omega) _, H.b5.far (by simp <;> omega) _, H.b6.far (by simp <;> omega) _, H.bel.setCell (by simp <;> omega) _, H.lo, H.lt1, H.lt2, H.lt3, H.lt4, H.lt5⟩
  rw [← bytes_set]
  exact H.b3.set_ m _
theorem H6.as3 {w w1 : World} {t1 t2 t3 t4 t5 t6 : TypeId} {n1 n2 n3 n4 n5 n6 g1 g2 g3 g4 g5 g6 : Nat} {f1 f2 f3 f4 f5 f6 : Bf} (H : H6 w t1 n1 g1 t2 n2 g2 t3 n3 g3 t4 n4 g4 t5 n5 g5 t6 n6 g6 f1 f2 f3 f4 f5 f6 w1) {v : Bf} (h : ∀ i, i < n3 → f3 i = v i) : H6 w t1 n1 g1 t2 n2 g2 t3 n3 g3 t4 n4 g4 t5 n5 g5 t6 n6 g6 f1 f2 v f4 f5 f6 w1 :=
  ⟨H.b1, H.b2, (show bytes _ _ = bytes _ _ from bytes_ext h) ▸ H.b3, H.b4, H.b5, H.b6, H.bel, H.lo, H.lt1, H.lt2, H.lt3, H.lt4, H.lt5⟩
theorem H6.put4 {w w1 : World} {t1 t2 t3 t4 t5 t6 : TypeId} {n1 n2 n3 n4 n5 n6 g1 g2 g3 g4 g5 g6 : Nat} {f1 f2 f3 f4 f5 f6 : Bf} (H : H6 w t1 n1 g1 t2 n2 g2 t3 n3 g3 t4 n4 g4 t5 n5 g5 t6 n6 g6 f1 f2 f3 f4 f5 f6 w1) (v : Bf) : H6 w t1 n1 g1 t2 n2 g2 t3 n3 g3 t4 n4 g4 t5 n5 g5 t6 n6 g6 f1 f2 f3 v f5 f6 (w1.setCells g4 0 (bytes n4 v).toList) := by
  have q0 := H.lo; have q1 := H.lt1; have q2 := H.lt2; have q3 := H.lt3; have q4 := H.lt4; have q5 := H.lt5
  exact ⟨H.b1.mid_other (by omega) _ _, H.b2.mid_other (by omega) _ _, H.b3.mid_other (by omega) _ _, (H.b4.mid 0 n4 v).whole, H.b5.mid_other (by omega) _ _, H.b6.mid_other (by omega) _ _, setCells_below _ _ _ H.bel (by omega), H.lo, H.lt1, H.lt2, H.lt3, H.lt4, H.lt5⟩
theorem H6.byte4 {w w1 : World} {t1 t2 t3 t4 t5 t6 : TypeId} {n1 n2 n3 n4 n5 n6 g1 g2 g3 g4 g5 g6 : Nat} {f1 f2 f3 f4 f5 f6 : Bf} (H : H6 w t1 n1 g1 t2 n2 g2 t3 n3 g3 t4 n4 g4 t5 n5 g5 t6 n6 g6 f1 f2 f3 f4 f5 f6 w1) (m : Nat) (x : B8) : H6 w t1 n1 g1 t2 n2 g2 t3 n3 g3 t4 n4 g4 t5 n5 g5 t6 n6 g6 f1 f2 f3 (upd f4 m x) f5 f6 (w1.setCell ⟨g4, m, none⟩ (.int .u8 x.toNat)) := by
  have q0 := H.lo; have q1 := H.lt1; have q2 := H.lt2; have q3 := H.lt3; have q4 := H.lt4; have q5 := H.lt5
  refine ⟨H.b1.far (by simp <;> omega) _, H.b2.far (by simp <;> omega) _, H.b3.far (by simp <;> omega) _, ?_, H.b5.far (by simp <;> omega) _, H.b6.far (by simp <;> omega) _, H.bel.setCell (by simp <;> omega) _, H.lo, H.lt1, H.lt2, H.lt3, H.lt4, H.lt5⟩
  rw [← bytes_set]
  exact H.b4.set_ m _
theorem H6.as4 {w w1 : World} {t1 t2 t3 t4 t5 t6 : TypeId} {n1 n2 n3 n4 n5 n6 g1 g2 g3 g4 g5 g6 : Nat} {f1 f2 f3 f4 f5 f6 : Bf} (H : H6 w t1 n1 g1 t2 n2 g2 t3 n3 g3 t4 n4 g4 t5 n5 g5 t6 n6 g6 f1 f2 f3 f4 f5 f6 w1) {v : Bf} (h : ∀ i, i < n4 → f4 i = v i) : H6 w t1 n1 g1 t2 n2 g2 t3 n3 g3 t4 n4 g4 t5 n5 g5 t6 n6 g6 f1 f2 f3 v f5 f6 w1 :=
  ⟨H.b1, H.b2, H.b3, (show bytes _ _ = bytes _ _ from bytes_ext h) ▸ H.b4, H.b5, H.b6, H.bel, H.lo, H.lt1, H.lt2, H.lt3, H.lt4, H.lt5⟩
theorem H6.put5 {w w1 : World} {t1 t2 t3 t4 t5 t6 : TypeId} {n1 n2 n3 n4 n5 n6 g1 g2 g3 g4 g5 g6 : Nat} {f1 f2 f3 f4 f5 f6 : Bf} (H : H6 w t1 n1 g1 t2 n2 g2 t3 n3 g3 t4 n4 g4 t5 n5 g5 t6 n6 g6 f1 f2 f3 f4 f5 f6 w1) (v : Bf) : H6 w t1 n1 g1 t2 n2 g2 t3 n3 g3 t4 n4 g4 t5 n5 g5 t6 n6 g6 f1 f2 f3 f4 v f6 (w1.setCells g5 0 (bytes n5 v).toList) := by
  have q0 := H.lo; have q1 := H.lt1; have q2 := H.lt2; have q3 := H.lt3; have q4 := H.lt4; have q5 := H.lt5
  exact ⟨H.b1.mid_other (by omega) _ _, H.b2.mid_other (by omega) _ _, H.b3.mid_other (by omega) _ _, H.b4.mid_other (by omega) _ _, (H.b5.mid 0 n5 v).whole, H.b6.mid_other (by omega) _ _, setCells_below _ _ _ H.bel (by omega), H.lo, H.lt1, H.lt2, H.lt3, H.lt4, H.lt5⟩
theorem H6.byte5 {w w1 : World} {t1 t2 t3 t4 t5 t6 : TypeId} {n1 n2 n3 n4 n5 n6 g1 g2 g3 g4 g5 g6 : Nat} {f1 f2 f3 f4 f5 f6 : Bf} (H : H6 w t1 n1 g1 t2 n2 g2 t3 n3 g3 t4 n4 g4 t5 n5 g5 t6 n6 g6 f1 f2 f3 f4 f5 f6 w1) (m : Nat) (x : B8) : H6 w t1 n1 g1 t2 n2 g2 t3 n3 g3 t4 n4 g4 t5 n5 g5 t6 n6 g6 f1 f2 f3 f4 (upd f5 m x) f6 (w1.setCell ⟨g5, m, none⟩ (.int .u8 x.toNat)) := by
  have q0 := H.lo; have q1 := H.lt1; have q2 := H.lt2; have q3 := H.lt3; have q4 := H.lt4; have q5 := H.lt5
  refine ⟨H.b1.far (by simp <;> omega) _, H.b2.far (by simp <;> omega) _, H.b3.far (by simp <;> omega) _, H.b4.far (by simp <;> omega) _, ?_, H.b6.far (by simp <;> omega) _, H.bel.setCell (by simp <;> omega) _, H.lo, H.lt1, H.lt2, H.lt3, H.lt4, H.lt5⟩
  rw [← bytes_set]
  exact H.b5.set_ m _
theorem H6.as5 {w w1 : World} {t1 t2 t3 t4 t5 t6 : TypeId} {n1 n2 n3 n4 n5 n6 g1 g2 g3 g4 g5 g6 : Nat} {f1 f2 f3 f4 f5 f6 : Bf} (H : H6 w t1 n1 g1 t2 n2 g2 t3 n3 g3 t4 n4 g4 t5 n5 g5 t6 n6 g6 f1 f2 f3 f4 f5 f6 w1) {v : Bf} (h : ∀ i, i < n5 → f5 i = v i) : H6 w t1 n1 g1 t2 n2 g2 t3 n3 g3 t4 n4 g4 t5 n5 g5 t6 n6 g6 f1 f2 f3 f4 v f6 w1 :=
  ⟨H.b1, H.b2, H.b3, H.b4, (show bytes _ _ = bytes _ _ from bytes_ext h) ▸ H.b5, H.b6, H.bel, H.lo, H.lt1, H.lt2, H.lt3, H.lt4, H.lt5⟩
theorem H6.put6 {w w1 : World} {t1 t2 t3 t4 t5 t6 : TypeId} {n1 n2 n3 n4 n5 n6 g1 g2 g3 g4 g5 g6 : Nat} {f1 f2 f3 f4 f5 f6 : Bf} (H : H6 w t1 n1 g1 t2 n2 g2 t3 n3 g3 t4 n4 g4 t5 n5 g5 t6 n6 g6 f1 f2 f3 f4 f5 f6 w1) (v : Bf) : H6 w t1 n1 g1 t2 n2 g2 t3 n3 g3 t4 n4 g4 t5 n5 g5 t6 n6 g6 f1 f2 f3 f4 f5 v (w1.setCells g6 0 (bytes n6 v).toList) := by
  have q0 := H.lo; have q1 := H.lt1; have q2 := H.lt2; have q3 := H.lt3; have q4 := H.lt4; have q5 := H.lt5
  exact ⟨H.b1.mid_other (by omega) _ _, H.b2.mid_other (by omega) _ _, H.b3.mid_other (by omega) _ _, H.b4.mid_other (by omega) _ _, H.b5.mid_other (by omega) _ _, (H.b6.mid 0 n6 v).whole, setCells_below _ _ _ H.bel (by omega), H.lo, H.lt1, H.lt2, H.lt3, H.lt4, H.lt5⟩
theorem H6.byte6 {w w1 : World} {t1 t2 t3 t4 t5 t6 : TypeId} {n1 n2 n3 n4 n5 n6 g1 g2 g3 g4 g5 g6 : Nat} {f1 f2 f3 f4 f5 f6 : Bf} (H : H6 w t1 n1 g1 t2 n2 g2 t3 n3 g3 t4 n4 g4 t5 n5 g5 t6 n6 g6 f1 f2 f3 f4 f5 f6 w1) (m : Nat) (x : B8) : H6 w t1 n1 g1 t2 n2 g2 t3 n3 g3 t4 n4 g4 t5 n5 g5 t6 n6 g6 f1 f2 f3 f4 f5 (upd f6 m x) (w1.setCell ⟨g6, m, none⟩ (.int .u8 x.toNat)) := by
  have q0 := H.lo; have q1 := H.lt1; have q2 := H.lt2; have q3 := H.lt3; have q4 := H.lt4; have q5 := H.lt5
  refine ⟨H.b1.far (by simp <;> omega) _, H.b2.far (by simp <;> omega) _, H.b3.far (by simp <;> omega) _, H.b4.far (by simp <;> omega) _, H.b5.far (by simp <;> omega) _, ?_, H.bel.setCell (by simp <;> omega) _, H.lo, H.lt1, H.lt2, H.lt3, H.lt4, H.lt5⟩
  rw [← bytes_set]
  exact H.b6.set_ m _
theorem H6.as6 {w w1 : World} {t1 t2 t3 t4 t5 t6 : TypeId} {n1 n2 n3 n4 n5 n6 g1 g2 g3 g4 g5 g6 : Nat} {f1 f2 f3 f4 f5 f6 : Bf} (H : H6 w t1 n1 g1 t2 n2 g2 t3 n3 g3 t4 n4 g4 t5 n5 g5 t6 n6 g6 f1 f2 f3 f4 f5 f6 w1) {v : Bf} (h : ∀ i, i < n6 → f6 i = v i) : H6 w t1 n1 g1 t2 n2 g2 t3 n3 g3 t4 n4 g4 t5 n5 g5 t6 n6 g6 f1 f2 f3 f4 f5 v w1 :=
  ⟨H.b1, H.b2, H.b3, H.b4, H.b5, (show bytes _ _ = bytes _ _ from bytes_ext h) ▸ H.b6, H.bel, H.lo, H.lt1, H.lt2, H.lt3, H.lt4, H.lt5⟩
theorem H5.more {w w1 : World} {t1 t2 t3 t4 t5 : TypeId} {n1 g1 n2 g2 n3 g3 n4 g4 n5 g5 : Nat} {f1 f2 f3 f4 f5 : Bf} (H : H5 w t1 n1 g1 t2 n2 g2 t3 n3 g3 t4 n4 g4 t5 n5 g5 f1 f2 f3 f4 f5 w1) (t : TypeId) (n : Nat) (f : Bf) : H6 w t1 n1 g1 t2 n2 g2 t3 n3 g3 t4 n4 g4 t5 n5 g5 t n w1.heap.size f1 f2 f3 f4 f5 f (w1.alloc (.cells (bytes n f) t)) :=
  ⟨H.b1.alloc _, H.b2.alloc _, H.b3.alloc _, H.b4.alloc _, H.b5.alloc _, Blk.new w1 t _, H.bel.alloc H.bel.size _, H.lo, H.lt1, H.lt2, H.lt3, H.lt4, H.b5.lt⟩

def colT (s : Bf) : Bf := fun i => colW s (i / 4) (i % 4)
def outB (s : Bf) (last : Bool) : Bf := fun i => mixIf last (colW s (i / 4)) (i % 4)
def firstB (a b : Bf) (n : Nat) : Bf := fun i => if i < n then a i else b i
theorem firstB_zero (a b : Bf) (i : Nat) : b i = firstB a b 0 i := by unfold firstB; rw [if_neg (by omega)]
theorem firstB_step (a b : Bf) (m i : Nat) : upd (firstB a b m) m (a m) i = firstB a b (m + 1) i := by
  unfold upd firstB
  by_cases e : i = m
  · subst e; rw [if_pos rfl, if_pos (by omega)]
  · rw [if_neg e]
    by_cases e1 : i < m
    · rw [if_pos e1, if_pos (by omega)]
    · rw [if_neg e1, if_neg (by omega)]
theorem firstB_all (a b : Bf) (i : Nat) (h : i < 16) : firstB a b 16 i = a i := by unfold firstB; rw [if_pos h]
theorem overK_out (s k : Bf) (last : Bool) (i : Nat) (hi : i < 16) : overK (outB s last) k 16 i = rndB s k last i := by
  unfold overK; rw [if_pos hi]; rfl
theorem tabB_at (x : B8) : tabB x.toNat = box8 x := by unfold tabB; rw [BitVec.ofNat_toNat, BitVec.setWidth_eq]
theorem colT_at (s : Bf) (c r : Nat) (hr : r < 4) : colT s (4 * c + r) = box8 (s (4 * ((c + r) % 4) + r)) := by
  unfold colT colW
  rw [show (4 * c + r) / 4 = c by omega, show (4 * c + r) % 4 = r by omega]
  congr 2
  omega
theorem mix_ref (s : Bf) (c r : Nat) (hr : r < 4) : outB s false (4 * c + r) = mul8 (colT s (4 * c + r)) 2#8 ^^^ mul8 (colT s (4 * c + (r + 1) % 4)) 3#8 ^^^ colT s (4 * c + (r + 2) % 4) ^^^ colT s (4 * c + (r + 3) % 4) := by
  have e : ∀ j, j < 4 → colT s (4 * c + j) = colW s c j := fun j hj => by
    unfold colT
    rw [show (4 * c + j) / 4 = c by omega, show (4 * c + j) % 4 = j by omega]
  rw [e r hr, e _ (Nat.mod_lt _ (by decide)), e _ (Nat.mod_lt _ (by decide)), e _ (Nat.mod_lt _ (by decide)), ← mul8_two, mul8_three]
  unfold outB
  rw [show (4 * c + r) / 4 = c by omega, show (4 * c + r) % 4 = r by omega]
  show mixW (colW s c) r = _
  generalize colW s c = a
  show a r ^^^ (a 0 ^^^ a 1 ^^^ a 2 ^^^ a 3) ^^^ t2 (a r ^^^ a ((r + 1) % 4)) = _
  rw [t2_lin]
  have x : ∀ p q u v : B8, p ^^^ (p ^^^ q ^^^ u ^^^ v) = q ^^^ u ^^^ v := fun p q u v => by
    rw [BitVec.xor_assoc p, BitVec.xor_assoc p, ← BitVec.xor_assoc p p, BitVec.xor_self, BitVec.zero_xor]
  rcases (by omega : r = 0 ∨ r = 1 ∨ r = 2 ∨ r = 3) with rfl | rfl | rfl | rfl
  · show a 0 ^^^ (a 0 ^^^ a 1 ^^^ a 2 ^^^ a 3) ^^^ (t2 (a 0) ^^^ t2 (a 1)) = t2 (a 0) ^^^ (t2 (a 1) ^^^ a 1) ^^^ a 2 ^^^ a 3
    rw [x]; ac_rfl
  · show a 1 ^^^ (a 0 ^^^ a 1 ^^^ a 2 ^^^ a 3) ^^^ (t2 (a 1) ^^^ t2 (a 2)) = t2 (a 1) ^^^ (t2 (a 2) ^^^ a 2) ^^^ a 3 ^^^ a 0
    rw [show a 0 ^^^ a 1 ^^^ a 2 ^^^ a 3 = a 1 ^^^ a 0 ^^^ a 2 ^^^ a 3 by ac_rfl, x]; ac_rfl
  · show a 2 ^^^ (a 0 ^^^ a 1 ^^^ a 2 ^^^ a 3) ^^^ (t2 (a 2) ^^^ t2 (a 3)) = t2 (a 2) ^^^ (t2 (a 3) ^^^ a 3) ^^^ a 0 ^^^ a 1
    rw [show a 0 ^^^ a 1 ^^^ a 2 ^^^ a 3 = a 2 ^^^ a 0 ^^^ a 1 ^^^ a 3 by ac_rfl, x]; ac_rfl
  · show a 3 ^^^ (a 0 ^^^ a 1 ^^^ a 2 ^^^ a 3) ^^^ (t2 (a 3) ^^^ t2 (a 0)) = t2 (a 3) ^^^ (t2 (a 0) ^^^ a 0) ^^^ a 1 ^^^ a 2
    rw [show a 0 ^^^ a 1 ^^^ a 2 ^^^ a 3 = a 3 ^^^ a 0 ^^^ a 1 ^^^ a 2 by ac_rfl, x]; ac_rfl
set_option maxRecDepth 100000 in
set_option maxHeartbeats 4000000 in
theorem refRound_any (s k : Bf) (last : Bool) (w : World) : Calls Try.prog 30 #[.agg (bytes 16 s), .agg (bytes 16 k), .bool last, .agg (bytes 256 tabB)] w fun e w' => e = .returned (.agg (bytes 16 (rndB s k last))) ∧ Below w.heap.size w w' := by
  have HY : H5 w 23 16 w.heap.size 23 16 (w.heap.size + 1) 51 256 (w.heap.size + 1 + 1) 23 16 (w.heap.size + 1 + 1 + 1) 23 16 (w.heap.size + 1 + 1 + 1 + 1) s k tabB (fun _ => 0#8) (fun _ => 0#8) (((((w.alloc (.cells (bytes 16 s) 23)).alloc (.cells (bytes 16 k) 23)).alloc (.cells (bytes 256 tabB) 51)).alloc (.cells zero16 23)).alloc (.cells zero16 23)) := H5.start w 23 16 23 16 51 256 23 16 23 16 s k tabB (fun _ => 0#8) (fun _ => 0#8)
  have HZ := HY.put5 (fun _ => 0#8)
  go_enter Try.func30, Try.ntmps30
  go_upto_region 2 with (first | (with_reducible refine wpList_run rfl (build_run built23 _) ?_) | (with_reducible refine store_blk 23 rfl rfl (.tmp 9) (.tmp 18) rfl (w.heap.size + 1 + 1 + 1 + 1) 0 _ (fun _ => 0#8) rfl rfl HY.b5 (by decide) ?_))
  simp only [Act.put]
  generalize hq : ((((((w.alloc (.cells (bytes 16 s) 23)).alloc (.cells (bytes 16 k) 23)).alloc (.cells (bytes 256 tabB) 51)).alloc (.cells zero16 23)).alloc (.cells zero16 23)).setCells (w.heap.size + 1 + 1 + 1 + 1) 0 (bytes (lenOf 23) fun _ => 0#8).toList) = w1
  have HS : H5 w 23 16 w.heap.size 23 16 (w.heap.size + 1) 51 256 (w.heap.size + 1 + 1) 23 16 (w.heap.size + 1 + 1 + 1) 23 16 (w.heap.size + 1 + 1 + 1 + 1) s k tabB (fun _ => 0#8) (fun _ => 0#8) w1 := hq ▸ HZ
  clear HZ HY hq
  generalize w.heap.size + 1 + 1 + 1 + 1 = g5 at HS ⊢
  have HT : H5 w 23 16 w.heap.size 23 16 (w.heap.size + 1) 51 256 (w.heap.size + 1 + 1) 23 16 (w.heap.size + 1 + 1 + 1) 23 16 g5 s k tabB (fun _ => 0#8) (firstB (colT s) (fun _ => 0#8) 0) w1 := HS.as5 fun i _ => firstB_zero (colT s) (fun _ => 0#8) i
  clear HS
  go_wp2
  go_loopw [10, 11] (fun x _ w' => ∃ c : Nat, c ≤ 4 ∧ x = .int .i64 c ∧ H5 w 23 16 w.heap.size 23 16 (w.heap.size + 1) 51 256 (w.heap.size + 1 + 1) 23 16 (w.heap.size + 1 + 1 + 1) 23 16 g5 s k tabB (fun _ => 0#8) (firstB (colT s) (fun _ => 0#8) (4 * c)) w') (fun x _ _ => 4 - (intOf x).toNat)
  case atStart => exact ⟨0, by omega, rfl, HT⟩
  case round =>
    clear HT
    obtain ⟨c, hc, rfl, hr⟩ := hrel
    by_cases hlt : c < 4
    · have hd : decide ((c : Int) < 4) = true := decide_eq_true (by omega)
      go_wp2
      obtain ⟨wo, rfl⟩ : ∃ wo : World, wo = wr := ⟨_, rfl⟩
      go_loopw [11] (fun x w' => ∃ r : Nat, r ≤ 4 ∧ x = .int .i64 r ∧ H5 w 23 16 w.heap.size 23 16 (w.heap.size + 1) 51 256 (w.heap.size + 1 + 1) 23 16 (w.heap.size + 1 + 1 + 1) 23 16 g5 s k tabB (fun _ => 0#8) (firstB (colT s) (fun _ => 0#8) (4 * c + r)) w') (fun x _ => 4 - (intOf x).toNat)
      case atStart => exact ⟨0, by omega, rfl, hr⟩
      case round =>
        clear hr
        obtain ⟨r, hr4, rfl, hr⟩ := hrel
        by_cases hltr : r < 4
        · have hd2 : decide ((r : Int) < 4) = true := decide_eq_true (by omega)
          have hT := colT_at s c r hltr
          obtain ⟨q, hq⟩ : ∃ q, q = 4 * ((c + r) % 4) + r := ⟨_, rfl⟩
          obtain ⟨p, hp⟩ : ∃ p, p = 4 * c + r := ⟨_, rfl⟩
          have a1 : IntKind.i64.wrap (4 * (c : Int)) = ((4 * c : Nat) : Int) := by rw [IntWalk.i64_in _ (by omega)]; omega
          have a2 : IntKind.i64.wrap (((4 * c : Nat) : Int) + (r : Int)) = (p : Int) := by rw [IntWalk.i64_in _ (by omega)]; omega
          have a3 : IntKind.i64.wrap ((c : Int) + (r : Int)) = ((c + r : Nat) : Int) := by rw [IntWalk.i64_in _ (by omega)]; omega
          have a4 : (((c + r : Nat) : Int)).tmod 4 = (((c + r) % 4 : Nat) : Int) := by rw [Int.tmod_eq_emod_of_nonneg (by omega)]; omega
          have a5 : IntKind.i64.wrap (4 * (((c + r) % 4 : Nat) : Int)) = ((4 * ((c + r) % 4) : Nat) : Int) := by rw [IntWalk.i64_in _ (by omega)]; omega
          have a6 : IntKind.i64.wrap (((4 * ((c + r) % 4) : Nat) : Int) + (r : Int)) = (q : Int) := by rw [IntWalk.i64_in _ (by omega)]; omega
          have b1 : (p : Int) < 16 := by omega
          have b2 : (q : Int) < 16 := by omega
          rw [← hq, ← hp] at hT
          rw [← hp] at hr
          have c1 := hr.b1.byte (i := q) (by omega)
          have hsl := (s q).isLt
          have c2 := hr.b3.byte (i := (s q).toNat) (by omega)
          rw [tabB_at, ← hT] at c2
          have b3 : ((s q).toNat : Int) < 256 := by omega
          have c3 := hr.b5.byte (i := p) (by omega)
          have c4 := hr.b5.frozen p
          have HN := (hr.byte5 p (colT s p)).as5 fun i _ => firstB_step (colT s) (fun _ => 0#8) p i
          rw [hp, show 4 * c + r + 1 = 4 * c + (r + 1) by omega, ← hp] at HN
          generalize (4 * ((c + r) % 4) : Nat) = m16 at a5 a6
          generalize (c + r) % 4 = m4 at a4 a5
          generalize c + r = m at a3 a4
          generalize 4 * c = c4 at a1 a2 HN ⊢
          generalize colT s p = o at c2 HN
          clear hq hp hT hsl hr
          go_wp2
          first
            | exact ⟨⟨r + 1, by omega, by go_num, HN⟩, by simp [intOf]; omega⟩
            | (refine ⟨?_, ?_⟩
               · (repeat apply Exists.intro)
                 exact ⟨⟨r + 1, by omega, by go_num, HN⟩, rfl⟩
               · simp [intOf]; omega)
        · obtain rfl : r = 4 := by omega
          rw [show 4 * c + 4 = 4 * (c + 1) by omega] at hr
          go_wp2
          first
            | exact ⟨⟨c + 1, by omega, by go_num, hr⟩, by simp [intOf]; omega⟩
            | (refine ⟨?_, ?_⟩
               · (repeat apply Exists.intro)
                 exact ⟨⟨c + 1, by omega, by go_num, hr⟩, rfl⟩
               · simp [intOf]; omega)
    · obtain rfl : c = 4 := by omega
      have HT : H5 w 23 16 w.heap.size 23 16 (w.heap.size + 1) 51 256 (w.heap.size + 1 + 1) 23 16 (w.heap.size + 1 + 1 + 1) 23 16 g5 s k tabB (fun _ => 0#8) (colT s) wr := hr.as5 fun i hi => firstB_all (colT s) (fun _ => 0#8) i hi
      clear hr
      have HY : H6 w 23 16 w.heap.size 23 16 (w.heap.size + 1) 51 256 (w.heap.size + 1 + 1) 23 16 (w.heap.size + 1 + 1 + 1) 23 16 g5 23 16 wr.heap.size s k tabB (fun _ => 0#8) (colT s) (fun _ => 0#8) (wr.alloc (.cells zero16 23)) := HT.more 23 16 _
      have HZ := HY.put6 (colT s)
      go_upto_region 10 with (first | (with_reducible refine load_blk 23 rfl rfl (.tmp 9) rfl g5 0 rfl _ HT.b5 (by decide) ?_) | (with_reducible refine store_blk 23 rfl rfl (.tmp 12) (.tmp 43) rfl wr.heap.size 0 _ (colT s) rfl rfl HY.b6 (by decide) ?_))
      simp only [Act.put]
      generalize hq : ((wr.alloc (.cells zero16 23)).setCells wr.heap.size 0 (bytes (lenOf 23) (colT s)).toList) = w2
      have HS : H6 w 23 16 w.heap.size 23 16 (w.heap.size + 1) 51 256 (w.heap.size + 1 + 1) 23 16 (w.heap.size + 1 + 1 + 1) 23 16 g5 23 16 wr.heap.size s k tabB (fun _ => 0#8) (colT s) (colT s) w2 := hq ▸ HZ
      clear HZ HY hq HT
      generalize wr.heap.size = g6 at HS ⊢
      have HT : H6 w 23 16 w.heap.size 23 16 (w.heap.size + 1) 51 256 (w.heap.size + 1 + 1) 23 16 (w.heap.size + 1 + 1 + 1) 23 16 g5 23 16 g6 s k tabB (fun _ => 0#8) (colT s) (firstB (outB s false) (colT s) 0) w2 := HS.as6 fun i _ => firstB_zero (outB s false) (colT s) i
      clear HS
      go_wp2
      go_loopw [13, 14, 15, 16] (fun x _ _ _ w' => ∃ c : Nat, c ≤ 4 ∧ (last = true → c = 0) ∧ x = .int .i64 c ∧ H6 w 23 16 w.heap.size 23 16 (w.heap.size + 1) 51 256 (w.heap.size + 1 + 1) 23 16 (w.heap.size + 1 + 1 + 1) 23 16 g5 23 16 g6 s k tabB (fun _ => 0#8) (colT s) (firstB (outB s false) (colT s) (4 * c)) w') (fun x _ _ _ _ => 4 - (intOf x).toNat)
      case atStart => exact ⟨0, by omega, fun _ => rfl, rfl, HT⟩
      case round =>
        clear HT
        obtain ⟨c, hc, hl0, rfl, hr⟩ := hrel
        cases last
        · by_cases hlt : c < 4
          · have hd : decide ((c : Int) < 4) = true := decide_eq_true (by omega)
            clear hl0
            go_wp2
            obtain ⟨wo, rfl⟩ : ∃ wo : World, wo = wr := ⟨_, rfl⟩
            go_loopw [14, 15, 16] (fun x _ _ w' => ∃ r : Nat, r ≤ 4 ∧ x = .int .i64 r ∧ H6 w 23 16 w.heap.size 23 16 (w.heap.size + 1) 51 256 (w.heap.size + 1 + 1) 23 16 (w.heap.size + 1 + 1 + 1) 23 16 g5 23 16 g6 s k tabB (fun _ => 0#8) (colT s) (firstB (outB s false) (colT s) (4 * c + r)) w') (fun x _ _ _ => 4 - (intOf x).toNat)
            case atStart => exact ⟨0, by omega, rfl, hr⟩
            case round =>
              clear hr
              obtain ⟨r, hr4, rfl, hr⟩ := hrel
              by_cases hltr : r < 4
              · have hd2 : decide ((r : Int) < 4) = true := decide_eq_true (by omega)
                have hM := mix_ref s c r hltr
                have a1 : IntKind.i64.wrap (4 * (c : Int)) = ((4 * c : Nat) : Int) := by rw [IntWalk.i64_in _ (by omega)]; omega
                have a2 : IntKind.i64.wrap (((4 * c : Nat) : Int) + (r : Int)) = ((4 * c + r : Nat) : Int) := by rw [IntWalk.i64_in _ (by omega)]; omega
                have b1 : ((4 * c + r : Nat) : Int) < 16 := by omega
                have k0 : ∀ w', H6 w 23 16 w.heap.size 23 16 (w.heap.size + 1) 51 256 (w.heap.size + 1 + 1) 23 16 (w.heap.size + 1 + 1 + 1) 23 16 g5 23 16 g6 s k tabB (fun _ => 0#8) (colT s) (firstB (outB s false) (colT s) (4 * c + r)) w' → w'.cell? ⟨g5, 4 * c + r, none⟩ = some (.int .u8 (colT s (4 * c + r)).toNat) := fun w' h => h.b5.byte (by omega)
                have d1 : IntKind.i64.wrap ((r : Int) + 1) = ((r + 1 : Nat) : Int) := by rw [IntWalk.i64_in _ (by omega)]; omega
                have e1 : (((r + 1 : Nat) : Int)).tmod 4 = (((r + 1) % 4 : Nat) : Int) := by rw [Int.tmod_eq_emod_of_nonneg (by omega)]; omega
                have f1 : IntKind.i64.wrap (((4 * c : Nat) : Int) + (((r + 1) % 4 : Nat) : Int)) = ((4 * c + (r + 1) % 4 : Nat) : Int) := by rw [IntWalk.i64_in _ (by omega)]; omega
                have g1 : ((4 * c + (r + 1) % 4 : Nat) : Int) < 16 := by omega
                have k1 : ∀ w', H6 w 23 16 w.heap.size 23 16 (w.heap.size + 1) 51 256 (w.heap.size + 1 + 1) 23 16 (w.heap.size + 1 + 1 + 1) 23 16 g5 23 16 g6 s k tabB (fun _ => 0#8) (colT s) (firstB (outB s false) (colT s) (4 * c + r)) w' → w'.cell? ⟨g5, 4 * c + (r + 1) % 4, none⟩ = some (.int .u8 (colT s (4 * c + (r + 1) % 4)).toNat) := fun w' h => h.b5.byte (by omega)
                have d2 : IntKind.i64.wrap ((r : Int) + 2) = ((r + 2 : Nat) : Int) := by rw [IntWalk.i64_in _ (by omega)]; omega
                have e2 : (((r + 2 : Nat) : Int)).tmod 4 = (((r + 2) % 4 : Nat) : Int) := by rw [Int.tmod_eq_emod_of_nonneg (by omega)]; omega
                have f2 : IntKind.i64.wrap (((4 * c : Nat) : Int) + (((r + 2) % 4 : Nat) : Int)) = ((4 * c + (r + 2) % 4 : Nat) : Int) := by rw [IntWalk.i64_in _ (by omega)]; omega
                have g2 : ((4 * c + (r + 2) % 4 : Nat) : Int) < 16 := by omega
                have k2 : ∀ w', H6 w 23 16 w.heap.size 23 16 (w.heap.size + 1) 51 256 (w.heap.size + 1 + 1) 23 16 (w.heap.size + 1 + 1 + 1) 23 16 g5 23 16 g6 s k tabB (fun _ => 0#8) (colT s) (firstB (outB s false) (colT s) (4 * c + r)) w' → w'.cell? ⟨g5, 4 * c + (r + 2) % 4, none⟩ = some (.int .u8 (colT s (4 * c + (r + 2) % 4)).toNat) := fun w' h => h.b5.byte (by omega)
                have d3 : IntKind.i64.wrap ((r : Int) + 3) = ((r + 3 : Nat) : Int) := by rw [IntWalk.i64_in _ (by omega)]; omega
                have e3 : (((r + 3 : Nat) : Int)).tmod 4 = (((r + 3) % 4 : Nat) : Int) := by rw [Int.tmod_eq_emod_of_nonneg (by omega)]; omega
                have f3 : IntKind.i64.wrap (((4 * c : Nat) : Int) + (((r + 3) % 4 : Nat) : Int)) = ((4 * c + (r + 3) % 4 : Nat) : Int) := by rw [IntWalk.i64_in _ (by omega)]; omega
                have g3 : ((4 * c + (r + 3) % 4 : Nat) : Int) < 16 := by omega
                have k3 : ∀ w', H6 w 23 16 w.heap.size 23 16 (w.heap.size + 1) 51 256 (w.heap.size + 1 + 1) 23 16 (w.heap.size + 1 + 1 + 1) 23 16 g5 23 16 g6 s k tabB (fun _ => 0#8) (colT s) (firstB (outB s false) (colT s) (4 * c + r)) w' → w'.cell? ⟨g5, 4 * c + (r + 3) % 4, none⟩ = some (.int .u8 (colT s (4 * c + (r + 3) % 4)).toNat) := fun w' h => h.b5.byte (by omega)
                have hstep : ∀ i, i < 16 → upd (firstB (outB s false) (colT s) (4 * c + r)) (4 * c + r) (outB s false (4 * c + r)) i = firstB (outB s false) (colT s) (4 * c + (r + 1)) i := fun i _ => firstB_step (outB s false) (colT s) (4 * c + r) i
                have hp16 : 4 * c + r < 16 := by omega
                generalize colT s (4 * c + r) = x0 at k0 hM
                generalize colT s (4 * c + (r + 1) % 4) = x1 at k1 hM
                generalize (4 * c + (r + 1) % 4 : Nat) = q1 at f1 g1 k1
                generalize ((r + 1) % 4 : Nat) = m1 at e1 f1
                generalize (r + 1 : Nat) = n1 at d1 e1
                generalize colT s (4 * c + (r + 2) % 4) = x2 at k2 hM
                generalize (4 * c + (r + 2) % 4 : Nat) = q2 at f2 g2 k2
                generalize ((r + 2) % 4 : Nat) = m2 at e2 f2
                generalize (r + 2 : Nat) = n2 at d2 e2
                generalize colT s (4 * c + (r + 3) % 4) = x3 at k3 hM
                generalize (4 * c + (r + 3) % 4 : Nat) = q3 at f3 g3 k3
                generalize ((r + 3) % 4 : Nat) = m3 at e3 f3
                generalize (r + 3 : Nat) = n3 at d3 e3
                generalize outB s false (4 * c + r) = y at hM hstep
                obtain ⟨p, hp⟩ : ∃ p, p = 4 * c + r := ⟨_, rfl⟩
                rw [← hp] at a2 b1 k0 k1 k2 k3 hr hp16 hstep
                clear hp
                generalize 4 * c = c4 at a1 a2 f1 f2 f3 hstep ⊢
                have l0 := k0 _ hr
                have l1 := k1 _ hr
                go_wp2
                clear l0 l1 k0 k1 d1 e1 f1
                have R2 : ∀ w, Calls Try.prog 27 #[.int .u8 x0.toNat, .int .u8 2] w fun e w' => e = .returned (.int .u8 (mul8 x0 2#8).toNat) ∧ w = w' := fun w => refMul_any x0 2#8 w
                have R3 : ∀ w, Calls Try.prog 27 #[.int .u8 x1.toNat, .int .u8 3] w fun e w' => e = .returned (.int .u8 (mul8 x1 3#8).toNat) ∧ w = w' := fun w => refMul_any x1 3#8 w
                generalize mul8 x0 2#8 = u at R2 hM
                generalize mul8 x1 3#8 = v at R3 hM
                have X1 := bits_xor8 u v
                have X2 := bits_xor8 (u ^^^ v) x2
                have X3 := bits_xor8 (u ^^^ v ^^^ x2) x3
                simp only [BitVec.toNat_xor] at X1 X2 X3
                refine wp_region_begin (by kernel_rfl) ?_
                refine wpAny_steady (H6 w 23 16 w.heap.size 23 16 (w.heap.size + 1) 51 256 (w.heap.size + 1 + 1) 23 16 (w.heap.size + 1 + 1 + 1) 23 16 g5 23 16 g6 s k tabB (fun _ => 0#8) (colT s) (firstB (outB s false) (colT s) p)) [0, 1, 2, 3, 4, 5, 6, 7, 8, 9, 10, 11, 12, 13, 14, 15, 16, 17, 18, 19, 20, 21, 22, 23, 24, 25, 26, 27] (by kernel_rfl) (hr.drew) ?_
                repeat first
                  | (refine Chain.step (oi := ?_) (v := .int .u8 u.toNat) ?_ (by kernel_rfl) (by kernel_rfl) (by kernel_rfl) ?_ ?_
                     rotate_left 1
                     · simp only [List.getElem?_toArray, List.getElem?_cons_zero, List.getElem?_cons_succ]
                       with_reducible rfl
                     · (refine Or.inl ⟨?_, Gives.call (f := 27) (args := #[.int .u8 x0.toNat, .int .u8 2]) ?_ ?_⟩; rfl; (intro wz hz; go_simp); intro wz hz; exact (R2 wz).mono fun e wy h => ⟨h.1, h.2 ▸ hz⟩)
                     simp only [Act.put, List.setIfInBounds_toArray, List.set_cons_zero, List.set_cons_succ])
                  | (refine Chain.step (oi := ?_) (v := .int .u8 v.toNat) ?_ (by kernel_rfl) (by kernel_rfl) (by kernel_rfl) ?_ ?_
                     rotate_left 1
                     · simp only [List.getElem?_toArray, List.getElem?_cons_zero, List.getElem?_cons_succ]
                       with_reducible rfl
                     · (refine Or.inl ⟨?_, Gives.call (f := 27) (args := #[.int .u8 x1.toNat, .int .u8 3]) ?_ ?_⟩; rfl; (intro wz hz; go_simp); intro wz hz; exact (R3 wz).mono fun e wy h => ⟨h.1, h.2 ▸ hz⟩)
                     simp only [Act.put, List.setIfInBounds_toArray, List.set_cons_zero, List.set_cons_succ])
                  | (refine Chain.step (oi := ?_) (v := ?_) ?_ (by kernel_rfl) (by kernel_rfl) (by kernel_rfl) ?_ ?_
                     rotate_left 2
                     · simp only [List.getElem?_toArray, List.getElem?_cons_zero, List.getElem?_cons_succ]
                       with_reducible rfl
                     · (refine Or.inl ⟨?_, Gives.val ?_⟩; rfl; intro wz hz; have l2 := k2 wz hz; have l3 := k3 wz hz; go_simp; with_reducible rfl)
                     simp only [Act.put, List.setIfInBounds_toArray, List.set_cons_zero, List.set_cons_succ])
                refine Chain.done fun w9 hw9 => ?_
                have y1 := hw9.b6.byte (i := p) hp16
                have y2 := hw9.b6.frozen p
                have HN := (hw9.byte6 p y).as6 hstep
                rw [hM] at HN
                clear hM hstep
                refine wpAny_ready (rs := [28]) (by kernel_rfl) (by simp) ?_
                refine AllReady.cons (o := ?_) ?_ (fun K hK => ?_) AllReady.nil
                rotate_left 1
                · simp only [List.getElem?_toArray, List.getElem?_cons_zero, List.getElem?_cons_succ]
                  with_reducible rfl
                go_simp
                refine hK _ _ ?_
                clear hK K
                refine wpAny_done (by kernel_rfl) ?_ _
                go_wp2
                first
                  | exact ⟨⟨r + 1, by omega, by go_num, HN⟩, by simp [intOf]; omega⟩
                  | (refine ⟨?_, ?_⟩
                     · (repeat apply Exists.intro)
                       exact ⟨⟨r + 1, by omega, by go_num, HN⟩, rfl⟩
                     · simp [intOf]; omega)
              · obtain rfl : r = 4 := by omega
                rw [show 4 * c + 4 = 4 * (c + 1) by omega] at hr
                go_wp2
                first
                  | exact ⟨⟨c + 1, by omega, (fun h => by cases h), by go_num, hr⟩, by simp [intOf]; omega⟩
                  | (refine ⟨?_, ?_⟩
                     · (repeat apply Exists.intro)
                       exact ⟨⟨c + 1, by omega, (fun h => by cases h), by go_num, hr⟩, rfl⟩
                     · simp [intOf]; omega)
          · obtain rfl : c = 4 := by omega
            have HE : H6 w 23 16 w.heap.size 23 16 (w.heap.size + 1) 51 256 (w.heap.size + 1 + 1) 23 16 (w.heap.size + 1 + 1 + 1) 23 16 g5 23 16 g6 s k tabB (fun _ => 0#8) (colT s) (outB s false) wr := hr.as6 fun i hi => firstB_all (outB s false) (colT s) i hi
            clear hr hl0
            go_wp2
            have HT : H6 w 23 16 w.heap.size 23 16 (w.heap.size + 1) 51 256 (w.heap.size + 1 + 1) 23 16 (w.heap.size + 1 + 1 + 1) 23 16 g5 23 16 g6 s k tabB (fun _ => 0#8) (colT s) (overK (outB s false) k 0) wr := HE.as6 (overK_zero (outB s false) k)
            clear HE
            go_loopw [17] (fun x w' => ∃ i : Nat, i ≤ 16 ∧ x = .int .i64 i ∧ H6 w 23 16 w.heap.size 23 16 (w.heap.size + 1) 51 256 (w.heap.size + 1 + 1) 23 16 (w.heap.size + 1 + 1 + 1) 23 16 g5 23 16 g6 s k tabB (fun _ => 0#8) (colT s) (overK (outB s false) k i) w') (fun x _ => 16 - (intOf x).toNat)
            case atStart => exact ⟨0, by omega, rfl, HT⟩
            case round =>
              clear HT
              obtain ⟨i, hi, rfl, hr⟩ := hrel
              by_cases hlt : i < 16
              · have hd : decide ((i : Int) < 16) = true := decide_eq_true (by omega)
                have z3 : (i : Int) < 16 := by omega
                have hov := overK_at (outB s false) k (i := i)
                have hst := overK_step (outB s false) k i
                generalize hov0 : outB s false i = o at hov hst
                have x1 := bits_xor8 o (k i)
                simp only [BitVec.toNat_xor] at x1
                go_wp2
                refine wp_region_begin (by kernel_rfl) ?_
                refine wpAny_steady (H6 w 23 16 w.heap.size 23 16 (w.heap.size + 1) 51 256 (w.heap.size + 1 + 1) 23 16 (w.heap.size + 1 + 1 + 1) 23 16 g5 23 16 g6 s k tabB (fun _ => 0#8) (colT s) (overK (outB s false) k i)) [0, 1, 2, 3, 4, 5, 6, 7, 8] (by kernel_rfl) (hr.drew) ?_
                repeat first
                  | (refine Chain.step (oi := ?_) (v := ?_) ?_ (by kernel_rfl) (by kernel_rfl) (by kernel_rfl) ?_ ?_
                     rotate_left 2
                     · simp only [List.getElem?_toArray, List.getElem?_cons_zero, List.getElem?_cons_succ]
                       with_reducible rfl
                     · (refine Or.inl ⟨?_, Gives.val ?_⟩; rfl; intro wz hz; have q1 := hz.b6.byte (i := i) hlt; have q2 := hz.b2.byte (i := i) hlt; rw [hov] at q1; go_simp; with_reducible rfl)
                     simp only [Act.put, List.setIfInBounds_toArray, List.set_cons_zero, List.set_cons_succ])
                refine Chain.done fun w9 hw9 => ?_
                have y1 := hw9.b6.byte (i := i) hlt
                have y2 := hw9.b6.frozen i
                have HN := (hw9.byte6 i (o ^^^ k i)).as6 hst
                refine wpAny_ready (rs := [9]) (by kernel_rfl) (by simp) ?_
                refine AllReady.cons (o := ?_) ?_ (fun K hK => ?_) AllReady.nil
                rotate_left 1
                · simp only [List.getElem?_toArray, List.getElem?_cons_zero, List.getElem?_cons_succ]
                  with_reducible rfl
                go_simp
                refine hK _ _ ?_
                clear hK K
                refine wpAny_done (by kernel_rfl) ?_ _
                go_wp2
                first
                  | exact ⟨⟨i + 1, by omega, by go_num, HN⟩, by simp [intOf]; omega⟩
                  | (refine ⟨?_, ?_⟩
                     · (repeat apply Exists.intro)
                       exact ⟨⟨i + 1, by omega, by go_num, HN⟩, rfl⟩
                     · simp [intOf]; omega)
              · obtain rfl : i = 16 := by omega
                have HE : H6 w 23 16 w.heap.size 23 16 (w.heap.size + 1) 51 256 (w.heap.size + 1 + 1) 23 16 (w.heap.size + 1 + 1 + 1) 23 16 g5 23 16 g6 s k tabB (fun _ => 0#8) (colT s) (rndB s k false) wr := hr.as6 (overK_out s k false)
                clear hr
                go_wp2_with (first | (with_reducible refine load_blk 23 rfl rfl (.tmp 12) rfl g6 0 rfl _ HE.b6 (by decide) ?_) | (with_reducible refine store_blk 23 rfl rfl (.tmp 8) (.tmp 111) rfl (w.heap.size + 1 + 1 + 1) 0 _ _ rfl rfl HE.b4 (by decide) ?_))
                rw [part_zero]
                have HF := HE.put4 (rndB s k false)
                exact bodyPost_ret (result_blk rfl rfl _ _ (w.heap.size + 1 + 1 + 1) _ rfl HF.b4) rfl ⟨rfl, HF.bel⟩
        · obtain rfl : c = 0 := hl0 rfl
          have HE : H6 w 23 16 w.heap.size 23 16 (w.heap.size + 1) 51 256 (w.heap.size + 1 + 1) 23 16 (w.heap.size + 1 + 1 + 1) 23 16 g5 23 16 g6 s k tabB (fun _ => 0#8) (colT s) (outB s true) wr := hr.as6 fun i _ => (firstB_zero (outB s false) (colT s) i).symm
          clear hr hl0
          go_wp2
          have HT : H6 w 23 16 w.heap.size 23 16 (w.heap.size + 1) 51 256 (w.heap.size + 1 + 1) 23 16 (w.heap.size + 1 + 1 + 1) 23 16 g5 23 16 g6 s k tabB (fun _ => 0#8) (colT s) (overK (outB s true) k 0) wr := HE.as6 (overK_zero (outB s true) k)
          clear HE
          go_loopw [17] (fun x w' => ∃ i : Nat, i ≤ 16 ∧ x = .int .i64 i ∧ H6 w 23 16 w.heap.size 23 16 (w.heap.size + 1) 51 256 (w.heap.size + 1 + 1) 23 16 (w.heap.size + 1 + 1 + 1) 23 16 g5 23 16 g6 s k tabB (fun _ => 0#8) (colT s) (overK (outB s true) k i) w') (fun x _ => 16 - (intOf x).toNat)
          case atStart => exact ⟨0, by omega, rfl, HT⟩
          case round =>
            clear HT
            obtain ⟨i, hi, rfl, hr⟩ := hrel
            by_cases hlt : i < 16
            · have hd : decide ((i : Int) < 16) = true := decide_eq_true (by omega)
              have z3 : (i : Int) < 16 := by omega
              have hov := overK_at (outB s true) k (i := i)
              have hst := overK_step (outB s true) k i
              generalize hov0 : outB s true i = o at hov hst
              have x1 := bits_xor8 o (k i)
              simp only [BitVec.toNat_xor] at x1
              go_wp2
              refine wp_region_begin (by kernel_rfl) ?_
              refine wpAny_steady (H6 w 23 16 w.heap.size 23 16 (w.heap.size + 1) 51 256 (w.heap.size + 1 + 1) 23 16 (w.heap.size + 1 + 1 + 1) 23 16 g5 23 16 g6 s k tabB (fun _ => 0#8) (colT s) (overK (outB s true) k i)) [0, 1, 2, 3, 4, 5, 6, 7, 8] (by kernel_rfl) (hr.drew) ?_
              repeat first
                | (refine Chain.step (oi := ?_) (v := ?_) ?_ (by kernel_rfl) (by kernel_rfl) (by kernel_rfl) ?_ ?_
                   rotate_left 2
                   · simp only [List.getElem?_toArray, List.getElem?_cons_zero, List.getElem?_cons_succ]
                     with_reducible rfl
                   · (refine Or.inl ⟨?_, Gives.val ?_⟩; rfl; intro wz hz; have q1 := hz.b6.byte (i := i) hlt; have q2 := hz.b2.byte (i := i) hlt; rw [hov] at q1; go_simp; with_reducible rfl)
                   simp only [Act.put, List.setIfInBounds_toArray, List.set_cons_zero, List.set_cons_succ])
              refine Chain.done fun w9 hw9 => ?_
              have y1 := hw9.b6.byte (i := i) hlt
              have y2 := hw9.b6.frozen i
              have HN := (hw9.byte6 i (o ^^^ k i)).as6 hst
              refine wpAny_ready (rs := [9]) (by kernel_rfl) (by simp) ?_
              refine AllReady.cons (o := ?_) ?_ (fun K hK => ?_) AllReady.nil
              rotate_left 1
              · simp only [List.getElem?_toArray, List.getElem?_cons_zero, List.getElem?_cons_succ]
                with_reducible rfl
              go_simp
              refine hK _ _ ?_
              clear hK K
              refine wpAny_done (by kernel_rfl) ?_ _
              go_wp2
              first
                | exact ⟨⟨i + 1, by omega, by go_num, HN⟩, by simp [intOf]; omega⟩
                | (refine ⟨?_, ?_⟩
                   · (repeat apply Exists.intro)
                     exact ⟨⟨i + 1, by omega, by go_num, HN⟩, rfl⟩
                   · simp [intOf]; omega)
            · obtain rfl : i = 16 := by omega
              have HE : H6 w 23 16 w.heap.size 23 16 (w.heap.size + 1) 51 256 (w.heap.size + 1 + 1) 23 16 (w.heap.size + 1 + 1 + 1) 23 16 g5 23 16 g6 s k tabB (fun _ => 0#8) (colT s) (rndB s k true) wr := hr.as6 (overK_out s k true)
              clear hr
              go_wp2_with (first | (with_reducible refine load_blk 23 rfl rfl (.tmp 12) rfl g6 0 rfl _ HE.b6 (by decide) ?_) | (with_reducible refine store_blk 23 rfl rfl (.tmp 8) (.tmp 111) rfl (w.heap.size + 1 + 1 + 1) 0 _ _ rfl rfl HE.b4 (by decide) ?_))
              rw [part_zero]
              have HF := HE.put4 (rndB s k true)
              exact bodyPost_ret (result_blk rfl rfl _ _ (w.heap.size + 1 + 1 + 1) _ rfl HF.b4) rfl ⟨rfl, HF.bel⟩
end Go.Proofs.Ythjigmfooobfmab
