/-
  THE WALKS of block.Xor and of its reference; laws for a whole block loaded, stored, handed back.
-/
import Derived.Test.YtddehfhklalfgaaProg
import Derived.Test.YtddehfhklalfgaaBlkF
import Derived.Test.YtddehfhklalfgaaMem
import Derived.WalkKit
import Derived.WalkSpells
import Derived.WalkLawsBesides
import Derived.Laws.BitsAllLaws
import Derived.Laws.CopyOwn
import Derived.Deep.QuietTactic
import Derived.BigQuiet
import Derived.Lib.Hide
import Derived.StillTailTactics
namespace Go.Proofs.Ytddehfhklalfgaa
open Go.RowKit Gf

theorem size23 : (Try.prog.info? 23).map (·.size) = some 16 := by kernel_rfl
theorem Blk.row_same {w : World} {g : Nat} {t : TypeId} {cs : Array Value} (h : Blk w g t cs) (ds : Array Value) : Blk (w.setRow g ds) g t ds := by
  unfold Blk at h ⊢
  exact setRow_heap w g _ ds t _ h
theorem Blk.row_other {w : World} {g : Nat} {t : TypeId} {cs : Array Value} (h : Blk w g t cs) {g' : Nat} (hne : g ≠ g') (ds : Array Value) : Blk (w.setRow g' ds) g t cs := by
  unfold Blk at h ⊢
  rw [setRow_other w g' g ds hne, h]

section
variable {ops : Array Oper} {rest : List Oper} {o : Oper} {a : Act} {w : World} {Q : Exit → Act → World → Prop}
theorem load_blk (hgd : o.guard = none) (x : Operand) (ho : o.op = .load 23 x) (g : Nat) (hx : a.eval x = .pointer (some ⟨g, 0, none⟩)) (f : Bf) (hb : Blk w g 23 (bytes 16 f))
    (h : wpList Try.prog ops Q rest (a.put o.dst (.agg (bytes 16 f))) w) : wpList Try.prog ops Q (o :: rest) a w :=
  wpList_load_row hgd 23 x ho g hx 23 _ (0, 0) _ hb Try.underlying23 rfl (by rw [size23, bytes_size]) h
theorem store_blk (hgd : o.guard = none) (x y : Operand) (ho : o.op = .store 23 x y) (g : Nat) (f f0 : Bf) (hx : a.eval x = .pointer (some ⟨g, 0, none⟩)) (hy : a.eval y = .agg (bytes 16 f))
    (hb : Blk w g 23 (bytes 16 f0)) (h : wpList Try.prog ops Q rest (a.put o.dst undef) (w.setRow g (bytes 16 f))) : wpList Try.prog ops Q (o :: rest) a w :=
  wpList_store_row hgd 23 x y ho g _ hx hy 23 _ hb (by rw [size23, bytes_size]) (by rw [bytes_size, bytes_size])
    (by rw [Array.all_eq_true_iff_forall_mem]; intro v hv; simp [bytes] at hv; obtain ⟨i, _, rfl⟩ := hv; rfl) h
end
theorem result_blk {fn : Func} {p : Tmp} (h : fn.results = #[.cell p 23]) (tmps : Array Value) (w : World) (g : Nat) (f : Bf) (hp : tmps.getD p undef = .pointer (some ⟨g, 0, none⟩)) (hb : Blk w g 23 (bytes 16 f)) :
    (results fn tmps).run Try.prog w = .ok (.agg (bytes 16 f)) w :=
  results_cell_row h tmps w g 23 _ (0, 0) _ hp hb Try.underlying23 rfl (by rw [size23, bytes_size])

def xorTo (f g : Bf) (k : Nat) : Bf := fun i => if i < k then f i ^^^ g i else f i
structure XorRel (f g : Bf) (w : World) (k : Nat) (w' : World) : Prop where
  a : Blk w' w.heap.size 23 (bytes 16 (xorTo f g k))
  b : Blk w' (w.heap.size + 1) 23 (bytes 16 g)
  c : Blk w' (w.heap.size + 1 + 1) 23 (bytes 16 fun _ => 0#8)
  bel : Below w.heap.size w w'

theorem bits_xor8 (x y : BitVec 8) : bits .xor .u8 (x.toNat : Int) (y.toNat : Int) = ((x ^^^ y).toNat : Int) := by
  rw [u8_xor_nat _ _ x.isLt y.isLt, BitVec.toNat_xor]
theorem XorRel.start (f g : Bf) (w : World) : XorRel f g w 0 (((w.alloc (.cells (bytes 16 f) 23)).alloc (.cells (bytes 16 g) 23)).alloc (.cells (bytes 16 fun _ => 0#8) 23)) := by
  have s1 : (w.alloc (.cells (bytes 16 f) 23)).heap.size = w.heap.size + 1 := by simp
  have s2 : ((w.alloc (.cells (bytes 16 f) 23)).alloc (.cells (bytes 16 g) 23)).heap.size = w.heap.size + 1 + 1 := by simp
  refine ⟨?_, ?_, ?_, ?_⟩
  · have e : bytes 16 (xorTo f g 0) = bytes 16 f := bytes_ext fun i _ => by simp [xorTo]
    rw [e]
    exact ((Blk.new w 23 _).alloc _).alloc _
  · have := (Blk.new (w.alloc (.cells (bytes 16 f) 23)) 23 (bytes 16 g)).alloc (.cells (bytes 16 fun _ => 0#8) 23)
    rwa [s1] at this
  · have := Blk.new ((w.alloc (.cells (bytes 16 f) 23)).alloc (.cells (bytes 16 g) 23)) 23 (bytes 16 fun _ => 0#8)
    rwa [s2] at this
  · exact (((Below.refl _ _).alloc (Nat.le_refl _) _).alloc (by simp) _).alloc (by simp; omega) _
theorem XorRel.step {f g : Bf} {w w1 : World} {k : Nat} (h : XorRel f g w k w1) : XorRel f g w (k + 1) (w1.setCell ⟨w.heap.size, k, none⟩ (.int .u8 (xorTo f g k k ^^^ g k).toNat)).drew := by
  refine ⟨?_, (h.b.far (by simp) _).drew, (h.c.far (by simp; omega) _).drew, (h.bel.setCell (by simp) _).drew⟩
  have := (h.a.set_ k (.int .u8 (xorTo f g k k ^^^ g k).toNat)).drew
  rw [bytes_set] at this
  refine (show bytes 16 (xorTo f g (k + 1)) = bytes 16 (upd (xorTo f g k) k (xorTo f g k k ^^^ g k)) from bytes_ext fun i _ => ?_) ▸ this
  unfold upd xorTo
  by_cases e : i = k
  · subst e; simp
  · by_cases e1 : i < k
    · simp [e, e1, show i < k + 1 by omega]
    · simp [e, e1, show ¬ i < k + 1 by omega]

set_option maxHeartbeats 400000 in
theorem xor_any (f g : Bf) (w : World) :
    Calls Try.prog 13 #[.agg (bytes 16 f), .agg (bytes 16 g)] w fun e w' => e = .returned (.agg (bytes 16 fun i => f i ^^^ g i)) ∧ Below w.heap.size w w' := by
  go_enter Try.func13, Try.ntmps13
  go_wp2
  go_loopw [6] (fun i w' => ∃ k : Nat, k ≤ 16 ∧ i = .int .i64 k ∧ XorRel f g w k w') (fun i _ => 16 - (intOf i).toNat)
  case atStart => exact ⟨0, by omega, rfl, XorRel.start f g w⟩
  case round =>
    obtain ⟨k, hk, rfl, hr⟩ := hrel
    by_cases hlt : k < 16
    · have hc1 : wr.cell? ⟨w.heap.size, k, none⟩ = some (.int .u8 (xorTo f g k k).toNat) := by rw [hr.a.cell, bytes_get _ _ _ hlt]
      have hc2 : wr.cell? ⟨w.heap.size + 1, k, none⟩ = some (.int .u8 (g k).toNat) := by rw [hr.b.cell, bytes_get _ _ _ hlt]
      have hf1 : wr.frozen? ⟨w.heap.size, k, none⟩ = false := hr.a.frozen k
      have hb := bits_xor8 (xorTo f g k k) (g k)
      go_wp2
      go_still_tail 8, (by kernel_rfl)
      go_wp2
      exact ⟨⟨k + 1, by omega, by go_num, hr.step⟩, by simp [intOf]; omega⟩
    · obtain rfl : k = 16 := by omega
      go_wp2_with (first | (with_reducible refine load_blk rfl (.tmp 2) rfl w.heap.size rfl _ hr.a ?_) | (with_reducible refine store_blk rfl (.tmp 4) (.tmp 18) rfl (w.heap.size + 1 + 1) _ _ rfl rfl hr.c ?_))
      have e : bytes 16 (xorTo f g 16) = bytes 16 fun i => f i ^^^ g i := bytes_ext fun i hi => by simp [xorTo, hi]
      rw [← e]
      exact bodyPost_ret (result_blk rfl _ _ (w.heap.size + 1 + 1) _ rfl (hr.c.row_same _)) rfl ⟨rfl, below_setRow hr.bel (by omega) _⟩

set_option maxHeartbeats 400000 in
theorem refXor_any (f g : Bf) (w : World) :
    Calls Try.prog 14 #[.agg (bytes 16 f), .agg (bytes 16 g)] w fun e w' => e = .returned (.agg (bytes 16 fun i => f i ^^^ g i)) ∧ Below w.heap.size w w' := by
  go_enter Try.func14, Try.ntmps14
  go_wp2
  go_loopw [5] (fun i w' => ∃ k : Nat, k ≤ 16 ∧ i = .int .i64 k ∧ XorRel f g w k w') (fun i _ => 16 - (intOf i).toNat)
  case atStart => exact ⟨0, by omega, rfl, XorRel.start f g w⟩
  case round =>
    obtain ⟨k, hk, rfl, hr⟩ := hrel
    by_cases hlt : k < 16
    · have hc1 : wr.cell? ⟨w.heap.size, k, none⟩ = some (.int .u8 (xorTo f g k k).toNat) := by rw [hr.a.cell, bytes_get _ _ _ hlt]
      have hc2 : wr.cell? ⟨w.heap.size + 1, k, none⟩ = some (.int .u8 (g k).toNat) := by rw [hr.b.cell, bytes_get _ _ _ hlt]
      have hf1 : wr.frozen? ⟨w.heap.size, k, none⟩ = false := hr.a.frozen k
      have hb := bits_xor8 (xorTo f g k k) (g k)
      go_wp2
      go_still_tail 9, (by kernel_rfl)
      go_wp2
      exact ⟨⟨k + 1, by omega, by go_num, hr.step⟩, by simp [intOf]; omega⟩
    · obtain rfl : k = 16 := by omega
      go_wp2_with (first | (with_reducible refine load_blk rfl (.tmp 2) rfl w.heap.size rfl _ hr.a ?_) | (with_reducible refine store_blk rfl (.tmp 4) (.tmp 19) rfl (w.heap.size + 1 + 1) _ _ rfl rfl hr.c ?_))
      have e : bytes 16 (xorTo f g 16) = bytes 16 fun i => f i ^^^ g i := bytes_ext fun i hi => by simp [xorTo, hi]
      rw [← e]
      exact bodyPost_ret (result_blk rfl _ _ (w.heap.size + 1 + 1) _ rfl (hr.c.row_same _)) rfl ⟨rfl, below_setRow hr.bel (by omega) _⟩
end Go.Proofs.Ytddehfhklalfgaa
