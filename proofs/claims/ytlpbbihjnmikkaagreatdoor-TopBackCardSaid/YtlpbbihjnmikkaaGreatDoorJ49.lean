/-
  Joined: PlyE
-/
import Derived.Test.YtlpbbihjnmikkaaGreatDoorJ40
import Derived.Test.YtlpbbihjnmikkaaGreatDoorJ41
import Derived.Test.YtlpbbihjnmikkaaGreatDoorJ42
import Derived.Test.YtlpbbihjnmikkaaGreatDoorJ43
import Derived.Test.YtlpbbihjnmikkaaGreatDoorJ44
import Derived.Test.YtlpbbihjnmikkaaGreatDoorJ45
import Derived.Test.YtlpbbihjnmikkaaGreatDoorJ46
import Derived.Test.YtlpbbihjnmikkaaGreatDoorJ47
import Derived.Test.YtlpbbihjnmikkaaGreatDoorJ48
namespace Go.Proofs.YtlpbbihjnmikkaaGreatDoor.Exe.Ply
noncomputable section
set_option maxRecDepth 1000000
def ps7 : List Piece := [p2, p3, p4, p5, p6, p7, p8, p9, p10, p11, p12, p13, p14, p15, p16, p17, p18, p19]
/-- What is known, and the pieces. -/
def known7 : Known := fun f => match pick [(4, relay [p0]), (5, relay [p1]), (7, relay ps7)] f with
  | some k => some k
  | none => known f
/-- The memory at the door: sha's table, the key's bytes, the seed, the text, what is beside; all else stays. -/
def heapS (t b : Nat) : Heap Word := Heap.lay ((List.range 32).foldr (fun j h => Heap.lay h (1 + j) (some (.data (.byte (.atom 3) j)))) (Heap.lay (Heap.lay (Heap.lay (Heap.lay .leaf 0 (some tableT)) 40 (some (.data (.atom 9)))) 41 (some (.data (.atom t)))) 42 (some (.data (.atom b))))) 43 (some (.data .still))
def secretS : Slot := .agg 33 ((List.range 32).map (fun j => .tok (1 + j)) ++ [.tok 40])
def still43 (h : Heap Word) : Bool := match h.at 43 with
  | some (.data .still) => true
  | _ => false
def playB (o : Out Word Slot) : Bool := match o with
  | .ok v h _ _ _ => eqS v (.one (.bool true)) && still43 h && table0 h
  | .bad _ => false
theorem play_ok : playB (runA Tryz.prog known7 1000 100 3 [secretS, .one (.tok 41), .one (.tok 42)] (heapS 0 1) 100 0 0) = true := by kernel_rfl
theorem long_ok : playB (runA Tryz.prog known7 1000 100 3 [secretS, .one (.tok 41), .one (.tok 42)] (heapS 5 1) 100 0 0) = true := by kernel_rfl
theorem long6_ok : playB (runA Tryz.prog known7 1000 100 3 [secretS, .one (.tok 41), .one (.tok 42)] (heapS 5 6) 100 0 0) = true := by kernel_rfl
theorem wide_ok : playB (runA Tryz.prog known7 1000 100 3 [secretS, .one (.tok 41), .one (.tok 42)] (heapS 0 6) 100 0 0) = true := by kernel_rfl
end
end Go.Proofs.YtlpbbihjnmikkaaGreatDoor.Exe.Ply
