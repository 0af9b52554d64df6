/-
  WORDS FOR MEMORY: a block of bytes that is known whole; an array of bytes as a function of its place.
-/
import Derived.Below
import Derived.Laws.OwnMore
import Derived.Deep.Draws
import Derived.Laws.Rows
import Derived.WalkKit
namespace Go.Proofs.Ythjigmfooobfmab
open Go.RowKit

/-- Block g is just the cells cs of element type t, none frozen. -/
def Blk (w : World) (g : Nat) (t : TypeId) (cs : Array Value) : Prop := w.heap[g]? = some (.cells cs t (0, 0))

section
variable {w w' : World} {g : Nat} {t : TypeId} {cs : Array Value}
theorem Blk.lt (h : Blk w g t cs) : g < w.heap.size := by
  rcases Nat.lt_or_ge g w.heap.size with hlt | hge
  · exact hlt
  · unfold Blk at h; rw [Array.getElem?_eq_none hge] at h; cases h
theorem Blk.cell (h : Blk w g t cs) (i : Nat) : w.cell? ⟨g, i, none⟩ = cs[i]? := cell_of_row w g i cs t (0, 0) h
theorem Blk.frozen (h : Blk w g t cs) (i : Nat) : w.frozen? ⟨g, i, none⟩ = false := by
  unfold Blk at h
  simp [World.frozen?, h]
theorem Blk.new (w : World) (t : TypeId) (cs : Array Value) : Blk (w.alloc (.cells cs t)) w.heap.size t cs := heap_alloc_new w _
theorem Blk.drew (h : Blk w g t cs) : Blk w.drew g t cs := h
theorem Blk.drewN (h : Blk w g t cs) (n : Nat) : Blk (w.drewN n) g t cs := h
theorem Blk.alloc (h : Blk w g t cs) (o : Obj) : Blk (w.alloc o) g t cs := (Below.heap_alloc w o g h.lt).trans h
theorem Blk.set_ (h : Blk w g t cs) (i : Nat) (u : Value) : Blk (w.setCell ⟨g, i, none⟩ u) g t (cs.setIfInBounds i u) := by
  unfold Blk at h ⊢
  simp [World.setCell, Array.getElem?_modify, h]
theorem Blk.far (h : Blk w g t cs) {p : Addr} (hp : g ≠ p.block) (u : Value) : Blk (w.setCell p u) g t cs := (Below.heap_setCell w p u g hp).trans h
theorem Blk.below {B : Nat} (h : Blk w g t cs) (hb : Below B w w') (hg : g < B) : Blk w' g t cs := (hb.block g hg).trans h
end

/-- n bytes as cells. -/
def bytes (n : Nat) (f : Nat → BitVec 8) : Array Value := ((List.range n).map fun i => Value.int .u8 (f i).toNat).toArray
def upd (f : Nat → BitVec 8) (k : Nat) (v : BitVec 8) : Nat → BitVec 8 := fun i => if i = k then v else f i
theorem bytes_size (n : Nat) (f : Nat → BitVec 8) : (bytes n f).size = n := by simp [bytes]
theorem bytes_get (n : Nat) (f : Nat → BitVec 8) (i : Nat) (h : i < n) : (bytes n f)[i]? = some (.int .u8 (f i).toNat) := by
  simp [bytes, h]
theorem bytes_ext {n : Nat} {f g : Nat → BitVec 8} (h : ∀ i, i < n → f i = g i) : bytes n f = bytes n g := by
  unfold bytes
  congr 1
  apply List.map_congr_left
  intro i hi
  rw [h i (List.mem_range.1 hi)]
theorem bytes_set (n : Nat) (f : Nat → BitVec 8) (k : Nat) (v : BitVec 8) : (bytes n f).setIfInBounds k (.int .u8 v.toNat) = bytes n (upd f k v) := by
  apply Array.ext_getElem?
  intro i
  rw [Array.getElem?_setIfInBounds, bytes_size]
  by_cases hi : i < n
  · rw [bytes_get n _ i hi, bytes_get n _ i hi]
    unfold upd
    by_cases e : k = i
    · subst e; simp [hi]
    · have e' : ¬ i = k := fun h => e h.symm
      simp [e, e']
  · have h1 : (bytes n f)[i]? = none := Array.getElem?_eq_none (by rw [bytes_size]; omega)
    have h2 : (bytes n (upd f k v))[i]? = none := Array.getElem?_eq_none (by rw [bytes_size]; omega)
    rw [h1, h2]
    by_cases e : k = i
    · subst e; simp [hi]
    · simp [e]
end Go.Proofs.Ythjigmfooobfmab
