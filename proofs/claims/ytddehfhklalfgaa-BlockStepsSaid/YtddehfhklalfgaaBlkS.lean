/-
  RULES FOR THE WALK's OWN SIMP: a whole block loaded, a whole block stored, as one operation each.
-/
import Derived.Test.YtddehfhklalfgaaBlkE
namespace Go.Proofs.Ytddehfhklalfgaa
open Go.RowKit Gf

def blockOf : Value → Nat
  | .pointer (some a) => a.block
  | _ => 0
def headPtr : Value → Bool
  | .pointer (some ⟨_, 0, none⟩) => true
  | _ => false
def cellsOf : Value → Array Value
  | .agg cs => cs
  | _ => #[]
/-- Sixteen cells of one place each. -/
def is16 : Value → Bool
  | .agg cs => cs.size == 16 && cs.all (·.oneCell')
  | _ => false
/-- Block g is a row of sixteen cells of type 23, none frozen. -/
def rowB (w : World) (g : Nat) : Bool :=
  match w.heap[g]? with
  | some (.cells cs 23 (0, 0)) => cs.size == 16
  | _ => false
def rowOf (w : World) (g : Nat) : Array Value :=
  match w.heap[g]? with
  | some (.cells cs _ _) => cs
  | _ => #[]
theorem rowB_blk {w : World} {g : Nat} (h : rowB w g = true) : Blk w g 23 (rowOf w g) ∧ (rowOf w g).size = 16 := by
  unfold rowB at h
  unfold Blk rowOf
  split at h
  · rename_i cs he
    rw [he]
    exact ⟨rfl, by simpa using h⟩
  · exact absurd h (by simp)
theorem Blk.rowB {w : World} {g : Nat} {f : Bf} (h : Blk w g 23 (bytes 16 f)) : rowB w g = true := by
  unfold Ytddehfhklalfgaa.rowB
  rw [show w.heap[g]? = _ from h]
  simp [bytes_size]
theorem Blk.rowOf {w : World} {g : Nat} {f : Bf} (h : Blk w g 23 (bytes 16 f)) : rowOf w g = bytes 16 f := by
  unfold Ytddehfhklalfgaa.rowOf
  rw [show w.heap[g]? = _ from h]

theorem load_rule (ρ : Operand → Value) (d : Option Tmp) (x : Operand) (ty : TypeId) (pos : String) (af : Array Edge) (gd : Option (Nat × Bool)) (w : World)
    (h1 : headPtr (ρ x) = true) (h2 : rowB w (blockOf (ρ x)) = true) :
    (execOp ρ { dst := d, op := .load 23 x, type := ty, pos := pos, after := af, guard := gd }).run Try.prog w = .ok (.value (.agg (rowOf w (blockOf (ρ x))))) w := by
  obtain ⟨hb, hs⟩ := rowB_blk h2
  have hp : ∃ g, ρ x = .pointer (some ⟨g, 0, none⟩) := by
    revert h1
    unfold headPtr
    split
    · rename_i g he; exact fun _ => ⟨g, he⟩
    · intro h; exact absurd h (by simp)
  obtain ⟨g, hg⟩ := hp
  rw [hg] at hb hs ⊢
  unfold execOp
  simp only [hg, Instr.loadAt, Instr.sureAddr, Sem.run_bind, Sem.run_pure, Result.andThen_ok]
  rw [run_loadVar_row w g 23 23 _ (0, 0) _ hb Try.underlying23 rfl (by rw [size23]; exact congrArg some hs.symm)]
  rfl
theorem store_rule (ρ : Operand → Value) (d : Option Tmp) (x y : Operand) (ty : TypeId) (pos : String) (af : Array Edge) (gd : Option (Nat × Bool)) (w : World)
    (h1 : headPtr (ρ x) = true) (h2 : rowB w (blockOf (ρ x)) = true) (h3 : is16 (ρ y) = true) :
    (execOp ρ { dst := d, op := .store 23 x y, type := ty, pos := pos, after := af, guard := gd }).run Try.prog w = .ok .skip (w.setRow (blockOf (ρ x)) (cellsOf (ρ y))) := by
  obtain ⟨hb, hs⟩ := rowB_blk h2
  have hp : ∃ g, ρ x = .pointer (some ⟨g, 0, none⟩) := by
    revert h1
    unfold headPtr
    split
    · rename_i g he; exact fun _ => ⟨g, he⟩
    · intro h; exact absurd h (by simp)
  have hv : ∃ cs, ρ y = .agg cs ∧ cs.size = 16 ∧ cs.all (·.oneCell') = true := by
    revert h3
    unfold is16
    split
    · rename_i cs he
      intro h
      simp only [Bool.and_eq_true, beq_iff_eq] at h
      exact ⟨cs, he, h.1, h.2⟩
    · intro h; exact absurd h (by simp)
  obtain ⟨g, hg⟩ := hp
  obtain ⟨cs, hc, h16, h1c⟩ := hv
  rw [hg] at hb hs ⊢
  unfold execOp
  simp only [hg, hc, Instr.storeAt, Instr.sureAddr, Sem.run_bind, Sem.run_pure, Result.andThen_ok]
  have hb' : w.heap[g]? = some (.cells (rowOf w g) 23 (0, 0)) := hb
  have hs' : (rowOf w g).size = 16 := hs
  rw [run_storeVar_row w g 23 23 _ cs hb' (by rw [size23, h16]) (by rw [hs', h16]) h1c]
  rfl
theorem headPtr_mk (g : Nat) : headPtr (.pointer (some ⟨g, 0, none⟩)) = true := rfl
theorem blockOf_mk (a : Addr) : blockOf (.pointer (some a)) = a.block := rfl
theorem cellsOf_mk (cs : Array Value) : cellsOf (.agg cs) = cs := rfl
theorem is16_bytes (f : Bf) : is16 (.agg (bytes 16 f)) = true := by
  have : (bytes 16 f).all (·.oneCell') = true := by
    rw [Array.all_eq_true_iff_forall_mem]; intro v hv; simp [bytes] at hv; obtain ⟨i, _, rfl⟩ := hv; rfl
  have h1 : ((bytes 16 f).size == 16) = true := by rw [bytes_size]; rfl
  exact Bool.and_eq_true_iff.2 ⟨h1, this⟩
theorem rowB_drew (w : World) (g : Nat) : rowB w.drew g = rowB w g := rfl
theorem rowOf_drew (w : World) (g : Nat) : rowOf w.drew g = rowOf w g := rfl
theorem rowB_drewN (w : World) (g n : Nat) : rowB (w.drewN n) g = rowB w g := rfl
theorem rowOf_drewN (w : World) (g n : Nat) : rowOf (w.drewN n) g = rowOf w g := rfl
end Go.Proofs.Ytddehfhklalfgaa
