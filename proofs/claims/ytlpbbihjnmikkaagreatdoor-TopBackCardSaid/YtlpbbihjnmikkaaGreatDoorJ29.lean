/-
  Joined: PBlkS, PBlkH, PBlkM, PBlkR, PBlkT
-/
import Derived.Test.YtlpbbihjnmikkaaGreatDoorJ28
import Derived.Deep.RegionHeld3
import Derived.Deep.RegionWith
import Derived.Deep.MidRow
set_option maxRecDepth 100000
namespace Go.Proofs.YtlpbbihjnmikkaaGreatDoor.Blo
open Go.RowKit Gf

def blockOf : Value → Nat
  | .pointer (some a) => a.block
  | _ => 0
def headPtr : Value → Bool
  | .pointer (some ⟨_, 0, none⟩) => true
  | _ => false
def cellsOf : Value → Array Value
  | .agg cs => cs
  | _ => #[]
/-- Sixteen cells of one place each. -/
def is16 : Value → Bool
  | .agg cs => cs.size == 16 && cs.all (·.oneCell')
  | _ => false
/-- Block g is a row of sixteen cells of type 310, none frozen. -/
def rowB (w : World) (g : Nat) : Bool :=
  match w.heap[g]? with
  | some (.cells cs 310 (0, 0)) => cs.size == 16
  | _ => false
def rowOf (w : World) (g : Nat) : Array Value :=
  match w.heap[g]? with
  | some (.cells cs _ _) => cs
  | _ => #[]
theorem rowB_blk {w : World} {g : Nat} (h : rowB w g = true) : Blk w g 310 (rowOf w g) ∧ (rowOf w g).size = 16 := by
  unfold rowB at h
  unfold Blk rowOf
  split at h
  · rename_i cs he
    rw [he]
    exact ⟨rfl, by simpa using h⟩
  · exact absurd h (by simp)
theorem Blk.rowB {w : World} {g : Nat} {f : Bf} (h : Blk w g 310 (bytes 16 f)) : rowB w g = true := by
  unfold Blo.rowB
  rw [show w.heap[g]? = _ from h]
  simp [bytes_size]
theorem Blk.rowOf {w : World} {g : Nat} {f : Bf} (h : Blk w g 310 (bytes 16 f)) : rowOf w g = bytes 16 f := by
  unfold Blo.rowOf
  rw [show w.heap[g]? = _ from h]

theorem load_rule (ρ : Operand → Value) (d : Option Tmp) (x : Operand) (ty : TypeId) (pos : String) (af : Array Edge) (gd : Option (Nat × Bool)) (w : World)
    (h1 : headPtr (ρ x) = true) (h2 : rowB w (blockOf (ρ x)) = true) :
    (execOp ρ { dst := d, op := .load 310 x, type := ty, pos := pos, after := af, guard := gd }).run Tryz.prog w = .ok (.value (.agg (rowOf w (blockOf (ρ x))))) w := by
  obtain ⟨hb, hs⟩ := rowB_blk h2
  have hp : ∃ g, ρ x = .pointer (some ⟨g, 0, none⟩) := by
    revert h1
    unfold headPtr
    split
    · rename_i g he; exact fun _ => ⟨g, he⟩
    · intro h; exact absurd h (by simp)
  obtain ⟨g, hg⟩ := hp
  rw [hg] at hb hs ⊢
  unfold execOp
  simp only [hg, Instr.loadAt, Instr.sureAddr, Sem.run_bind, Sem.run_pure, Result.andThen_ok]
  rw [run_loadVar_row w g 310 310 _ (0, 0) _ hb Tryz.underlying310 rfl (by rw [size310]; exact congrArg some hs.symm)]
  rfl
theorem store_rule (ρ : Operand → Value) (d : Option Tmp) (x y : Operand) (ty : TypeId) (pos : String) (af : Array Edge) (gd : Option (Nat × Bool)) (w : World)
    (h1 : headPtr (ρ x) = true) (h2 : rowB w (blockOf (ρ x)) = true) (h3 : is16 (ρ y) = true) :
    (execOp ρ { dst := d, op := .store 310 x y, type := ty, pos := pos, after := af, guard := gd }).run Tryz.prog w = .ok .skip (w.setRow (blockOf (ρ x)) (cellsOf (ρ y))) := by
  obtain ⟨hb, hs⟩ := rowB_blk h2
  have hp : ∃ g, ρ x = .pointer (some ⟨g, 0, none⟩) := by
    revert h1
    unfold headPtr
    split
    · rename_i g he; exact fun _ => ⟨g, he⟩
    · intro h; exact absurd h (by simp)
  have hv : ∃ cs, ρ y = .agg cs ∧ cs.size = 16 ∧ cs.all (·.oneCell') = true := by
    revert h3
    unfold is16
    split
    · rename_i cs he
      intro h
      simp only [Bool.and_eq_true, beq_iff_eq] at h
      exact ⟨cs, he, h.1, h.2⟩
    · intro h; exact absurd h (by simp)
  obtain ⟨g, hg⟩ := hp
  obtain ⟨cs, hc, h16, h1c⟩ := hv
  rw [hg] at hb hs ⊢
  unfold execOp
  simp only [hg, hc, Instr.storeAt, Instr.sureAddr, Sem.run_bind, Sem.run_pure, Result.andThen_ok]
  have hb' : w.heap[g]? = some (.cells (rowOf w g) 310 (0, 0)) := hb
  have hs' : (rowOf w g).size = 16 := hs
  rw [run_storeVar_row w g 310 310 _ cs hb' (by rw [size310, h16]) (by rw [hs', h16]) h1c]
  rfl
theorem headPtr_mk (g : Nat) : headPtr (.pointer (some ⟨g, 0, none⟩)) = true := rfl
theorem blockOf_mk (a : Addr) : blockOf (.pointer (some a)) = a.block := rfl
theorem cellsOf_mk (cs : Array Value) : cellsOf (.agg cs) = cs := rfl
theorem is16_bytes (f : Bf) : is16 (.agg (bytes 16 f)) = true := by
  have : (bytes 16 f).all (·.oneCell') = true := by
    rw [Array.all_eq_true_iff_forall_mem]; intro v hv; simp [bytes] at hv; obtain ⟨i, _, rfl⟩ := hv; rfl
  have h1 : ((bytes 16 f).size == 16) = true := by rw [bytes_size]; rfl
  exact Bool.and_eq_true_iff.2 ⟨h1, this⟩
theorem rowB_drew (w : World) (g : Nat) : rowB w.drew g = rowB w g := rfl
theorem rowOf_drew (w : World) (g : Nat) : rowOf w.drew g = rowOf w g := rfl
theorem rowB_drewN (w : World) (g n : Nat) : rowB (w.drewN n) g = rowB w g := rfl
theorem rowOf_drewN (w : World) (g n : Nat) : rowOf (w.drewN n) g = rowOf w g := rfl
end Go.Proofs.YtlpbbihjnmikkaaGreatDoor.Blo

set_option maxRecDepth 100000
namespace Go.Proofs.YtlpbbihjnmikkaaGreatDoor.Blo
open Go.RowKit Gf

theorem wrap_u64 (n : Int) : IntKind.u64.wrap n = n % 18446744073709551616 := by simp [IntKind.wrap, IntKind.bits, IntKind.signed]
theorem valu64 {x y : Int} (h : x = y) : Value.int .u64 x = Value.int .u64 y := by rw [h]
theorem word_step (f : Bf) (o k : Nat) : bits .or .u64 (IntKind.u64.wrap (((wordTo f o k).toNat : Int) * (256 : Int))) ((f (o + k)).toNat : Int) = ((wordTo f o (k + 1)).toNat : Int) := by
  have h := (f (o + k)).isLt
  have e : IntKind.u64.wrap (((wordTo f o k).toNat : Int) * (256 : Int)) = ((wordTo f o k <<< 8).toNat : Int) := by
    rw [wrap_u64, BitVec.toNat_shiftLeft, Nat.shiftLeft_eq]
    omega
  have e2 : ((f (o + k)).toNat : Int) = (((f (o + k)).setWidth 64 : B64).toNat : Int) := by
    rw [BitVec.toNat_setWidth, Nat.mod_eq_of_lt (by omega)]
  rw [e, e2, u64_or_nat _ _ (wordTo f o k <<< 8).isLt ((f (o + k)).setWidth 64 : B64).isLt, ← BitVec.toNat_or]
  rfl
set_option maxHeartbeats 400000 in
theorem halves_any (f : Bf) (w : World) :
    Calls Tryz.prog 310 #[.agg (bytes 16 f)] w fun e w' => e = .returned (.tuple #[.int .u64 (wordTo f 0 8).toNat, .int .u64 (wordTo f 8 8).toNat]) ∧ Below w.heap.size w w' := by
  go_enter Tryz.func310, Tryz.ntmps310
  go_wp2
  go_loopw [2, 3, 5] (fun hi lo i w' => ∃ k : Nat, k ≤ 8 ∧ i = .int .i64 k ∧ hi = .int .u64 (wordTo f 0 k).toNat ∧ lo = .int .u64 (wordTo f 8 k).toNat ∧ Blk w' w.heap.size 310 (bytes 16 f) ∧ Below w.heap.size w w') (fun _ _ i _ => 8 - (intOf i).toNat)
  case atStart => exact ⟨0, by omega, rfl, rfl, rfl, Blk.new _ _ _, (Below.refl _ _).alloc (Nat.le_refl _) _⟩
  case round =>
    obtain ⟨k, hk, rfl, rfl, rfl, ha, hb⟩ := hrel
    by_cases hlt : k < 8
    · have hc1 : wr.cell? ⟨w.heap.size, k, none⟩ = some (.int .u8 (f k).toNat) := by rw [ha.cell, bytes_get _ _ _ (by omega)]
      have hc2 : wr.cell? ⟨w.heap.size, k + 8, none⟩ = some (.int .u8 (f (k + 8)).toNat) := by rw [ha.cell, bytes_get _ _ _ (by omega)]
      have h1 := (f k).isLt
      have h2 := (f (k + 8)).isLt
      have h3 := (wordTo f 0 k).isLt
      have h4 := (wordTo f 8 k).isLt
      have e1 := word_step f 0 k
      have e2 := word_step f 8 k
      rw [Nat.zero_add] at e1
      rw [Nat.add_comm 8 k] at e2
      have E1 := Lib.hid e1
      have E2 := Lib.hid e2
      clear e1 e2
      go_wp2
      go_quiet (fail)
      go_wp2
      exact ⟨⟨k + 1, by omega, by go_num, valu64 E1.out, valu64 E2.out, ha.drewN _, below_drewN hb _⟩, by simp [intOf]; omega⟩
    · obtain rfl : k = 8 := by omega
      go_wp2
      go_ret2
      exact ⟨rfl, hb⟩

theorem shrN (x : BitVec 8) (k : Nat) : (x.toNat : Int) / (2 : Int) ^ k = ((x >>> k).toNat : Int) := by
  rw [BitVec.toNat_ushiftRight, Nat.shiftRight_eq_div_pow]
  simp
theorem and_one8 (x : BitVec 8) : bits .and .u8 (x.toNat : Int) 1 = bif x.getLsbD 0 then 1 else 0 := by
  have e1 : (1 : Int) = ((1 : Nat) : Int) := rfl
  rw [e1, u8_and_nat _ _ x.isLt (by decide), nat_mask1, BitVec.getLsbD, Nat.testBit_zero]
  by_cases h : x.toNat % 2 = 1
  · simp [h]
  · have h0 : x.toNat % 2 = 0 := by omega
    simp [h0]
theorem bit_val (f : Bf) (i : Nat) (hi : i < 128) : bits .and .u8 (((f (i / 8)).toNat : Int) / (2 : Int) ^ (7 - i % 8)) 1 = bif (blk f).getMsbD i then 1 else 0 := by
  rw [shrN, and_one8, blk_bit f i hi, BitVec.getLsbD_ushiftRight, Nat.add_zero]
theorem ret8 {x y : Int} (h : x = y) : Ending.returned (.int .u8 x) = Ending.returned (.int .u8 y) := by rw [h]
theorem byte_hi (h l : B64) (k : Nat) (hk : k < 8) : (h.toNat : Int) / (2 : Int) ^ (56 - 8 * k) % (256 : Int) = ((byteB (h ++ l : B128) k).toNat : Int) := by
  have e : byteB (h ++ l : B128) k = (h >>> (56 - 8 * k)).setWidth 8 := by
    apply BitVec.eq_of_getLsbD_eq
    intro j hj
    unfold byteB
    rw [BitVec.getLsbD_setWidth, BitVec.getLsbD_setWidth, BitVec.getLsbD_ushiftRight, BitVec.getLsbD_ushiftRight, BitVec.getLsbD_append, if_neg (by omega)]
    congr 2
    omega
  rw [e, BitVec.toNat_setWidth, BitVec.toNat_ushiftRight, Nat.shiftRight_eq_div_pow]
  simp
theorem byte_lo (h l : B64) (k : Nat) (hk : k < 8) : (l.toNat : Int) / (2 : Int) ^ (56 - 8 * k) % (256 : Int) = ((byteB (h ++ l : B128) (k + 8)).toNat : Int) := by
  have e : byteB (h ++ l : B128) (k + 8) = (l >>> (56 - 8 * k)).setWidth 8 := by
    apply BitVec.eq_of_getLsbD_eq
    intro j hj
    unfold byteB
    rw [BitVec.getLsbD_setWidth, BitVec.getLsbD_setWidth, BitVec.getLsbD_ushiftRight, BitVec.getLsbD_ushiftRight, BitVec.getLsbD_append, if_pos (by omega)]
    congr 2
    omega
  rw [e, BitVec.toNat_setWidth, BitVec.toNat_ushiftRight, Nat.shiftRight_eq_div_pow]
  simp
def wholeTo (x : B128) (k : Nat) : Bf := fun i => if i % 8 < k then byteB x i else 0#8
structure WholeRel (x : B128) (w : World) (k : Nat) (w' : World) : Prop where
  a : Blk w' w.heap.size 310 (bytes 16 fun _ => 0#8)
  b : Blk w' (w.heap.size + 1) 310 (bytes 16 (wholeTo x k))
  bel : Below w.heap.size w w'
theorem WholeRel.start (x : B128) (w : World) : WholeRel x w 0 ((w.alloc (.cells (bytes 16 fun _ => 0#8) 310)).alloc (.cells (bytes 16 fun _ => 0#8) 310)) := by
  have s1 : (w.alloc (.cells (bytes 16 fun _ => 0#8) 310)).heap.size = w.heap.size + 1 := by simp
  refine ⟨(Blk.new w 310 _).alloc _, ?_, ((Below.refl _ _).alloc (Nat.le_refl _) _).alloc (by simp) _⟩
  have := Blk.new (w.alloc (.cells (bytes 16 fun _ => 0#8) 310)) 310 (bytes 16 fun _ => 0#8)
  rw [s1] at this
  exact (show bytes 16 (wholeTo x 0) = bytes 16 fun _ => 0#8 from bytes_ext fun i _ => by simp [wholeTo]) ▸ this
theorem WholeRel.step {x : B128} {w w1 : World} {k : Nat} (hk : k < 8) (h : WholeRel x w k w1) {a b : Int} (ha : a = ((byteB x k).toNat : Int)) (hb : b = ((byteB x (k + 8)).toNat : Int)) :
    WholeRel x w (k + 1) (((w1.setCell ⟨w.heap.size + 1, k, none⟩ (.int .u8 a)).setCell ⟨w.heap.size + 1, k + 8, none⟩ (.int .u8 b)).drew) := by
  subst ha hb
  refine ⟨((h.a.far (by simp) _).far (by simp) _).drew, ?_, ((h.bel.setCell (by simp) _).setCell (by simp) _).drew⟩
  have := ((h.b.set_ k (.int .u8 (byteB x k).toNat)).set_ (k + 8) (.int .u8 (byteB x (k + 8)).toNat)).drew
  rw [bytes_set, bytes_set] at this
  refine (show bytes 16 (wholeTo x (k + 1)) = bytes 16 (upd (upd (wholeTo x k) k (byteB x k)) (k + 8) (byteB x (k + 8))) from bytes_ext fun i hi => ?_) ▸ this
  unfold upd wholeTo
  by_cases e1 : i = k + 8
  · subst e1; simp [show k % 8 < k + 1 by omega]
  · by_cases e : i = k
    · subst e; simp [show i % 8 < i + 1 by omega]
    · have e3 : (i % 8 < k + 1) ↔ (i % 8 < k) := by omega
      simp [e, e1, e3]
set_option maxHeartbeats 400000 in
theorem whole_any (h l : B64) (w : World) :
    Calls Tryz.prog 311 #[.int .u64 h.toNat, .int .u64 l.toNat] w fun e w' => e = .returned (.agg (bytes 16 (byteB (h ++ l : B128)))) ∧ Below w.heap.size w w' := by
  go_enter Tryz.func311, Tryz.ntmps311
  go_wp2
  go_loopw [7] (fun i w' => ∃ k : Nat, k ≤ 8 ∧ i = .int .i64 k ∧ WholeRel (h ++ l : B128) w k w') (fun i _ => 8 - (intOf i).toNat)
  case atStart => exact ⟨0, by omega, rfl, WholeRel.start _ w⟩
  case round =>
    obtain ⟨k, hk, rfl, hr⟩ := hrel
    by_cases hlt : k < 8
    · have hf1 : wr.frozen? ⟨w.heap.size + 1, k, none⟩ = false := hr.b.frozen k
      have hf2 : wr.frozen? ⟨w.heap.size + 1, k + 8, none⟩ = false := hr.b.frozen (k + 8)
      have hc2 : wr.cell? ⟨w.heap.size + 1, k, none⟩ = some (.int .u8 (wholeTo (h ++ l : B128) k k).toNat) := by rw [hr.b.cell, bytes_get _ _ _ (by omega)]
      have hc3 : wr.cell? ⟨w.heap.size + 1, k + 8, none⟩ = some (.int .u8 (wholeTo (h ++ l : B128) k (k + 8)).toNat) := by rw [hr.b.cell, bytes_get _ _ _ (by omega)]
      have h1 := h.isLt
      have h2 := l.isLt
      have w1 : IntKind.i64.wrap ((k : Int) + 8) = (k : Int) + 8 := by rw [IntKind.wrap_i64]; omega
      have w2 : IntKind.i64.wrap (8 * (k : Int)) = 8 * (k : Int) := by rw [IntKind.wrap_i64]; omega
      have w3 : IntKind.i64.wrap (56 - 8 * (k : Int)) = 56 - 8 * (k : Int) := by rw [IntKind.wrap_i64]; omega
      go_wp2
      go_region
      go_wp2
      exact ⟨⟨k + 1, by omega, by go_num, hr.step hlt (byte_hi h l k hlt) (byte_lo h l k hlt)⟩, by simp [intOf]; omega⟩
    · obtain rfl : k = 8 := by omega
      go_wp2_with (first | (with_reducible refine load_blk rfl (.tmp 5) rfl (w.heap.size + 1) rfl _ hr.b ?_) | (with_reducible refine store_blk rfl (.tmp 4) (.tmp 28) rfl w.heap.size _ _ rfl rfl hr.a ?_))
      have e : bytes 16 (byteB (h ++ l : B128)) = bytes 16 (wholeTo (h ++ l : B128) 8) := bytes_ext fun i _ => by simp [wholeTo, show i % 8 < 8 by omega]
      rw [e]
      exact bodyPost_ret (result_blk rfl _ _ w.heap.size _ rfl (hr.a.row_same _)) rfl ⟨rfl, below_setRow hr.bel (by omega) _⟩

end Go.Proofs.YtlpbbihjnmikkaaGreatDoor.Blo

set_option maxRecDepth 100000
namespace Go.Proofs.YtlpbbihjnmikkaaGreatDoor.Blo
open Go.RowKit Gf

def hiW (x : B128) : B64 := x.extractLsb' 64 64
def loW (x : B128) : B64 := x.extractLsb' 0 64

abbrev zero16 : Array Value := #[.int .u8 0, .int .u8 0, .int .u8 0, .int .u8 0, .int .u8 0, .int .u8 0, .int .u8 0, .int .u8 0, .int .u8 0, .int .u8 0, .int .u8 0, .int .u8 0, .int .u8 0, .int .u8 0, .int .u8 0, .int .u8 0]
theorem zero16_eq : bytes 16 (fun _ => 0#8) = zero16 := rfl
/-- The three blocks that a function of two blocks lays first. -/
abbrev w3 (w : World) (f g : Bf) : World := ((w.alloc (.cells (bytes 16 f) 310)).alloc (.cells (bytes 16 g) 310)).alloc (.cells zero16 310)
structure Has3 (w : World) (f g : Bf) (w' : World) : Prop where
  a : Blk w' w.heap.size 310 (bytes 16 f)
  b : Blk w' (w.heap.size + 1) 310 (bytes 16 g)
  c : Blk w' (w.heap.size + 1 + 1) 310 (bytes 16 fun _ => 0#8)
  bel : Below w.heap.size w w'
  size : w.heap.size + 3 ≤ w'.heap.size
theorem Has3.start (f g : Bf) (w : World) : Has3 w f g (w3 w f g) := by
  unfold w3
  rw [← zero16_eq]
  have s1 : (w.alloc (.cells (bytes 16 f) 310)).heap.size = w.heap.size + 1 := by simp
  have s2 : ((w.alloc (.cells (bytes 16 f) 310)).alloc (.cells (bytes 16 g) 310)).heap.size = w.heap.size + 1 + 1 := by simp
  refine ⟨((Blk.new w 310 _).alloc _).alloc _, ?_, ?_, (((Below.refl _ _).alloc (Nat.le_refl _) _).alloc (by simp) _).alloc (by simp; omega) _, by simp⟩
  · have := (Blk.new (w.alloc (.cells (bytes 16 f) 310)) 310 (bytes 16 g)).alloc (.cells (bytes 16 fun _ => 0#8) 310)
    rwa [s1] at this
  · have := Blk.new ((w.alloc (.cells (bytes 16 f) 310)).alloc (.cells (bytes 16 g) 310)) 310 (bytes 16 fun _ => 0#8)
    rwa [s2] at this
theorem Has3.later {w w1 w2 : World} {f g : Bf} (h : Has3 w f g w1) (hb : Below w1.heap.size w1 w2) : Has3 w f g w2 :=
  ⟨h.a.below hb h.a.lt, h.b.below hb h.b.lt, h.c.below hb h.c.lt, h.bel.trans (hb.mono h.bel.size), Nat.le_trans h.size hb.size⟩

theorem hi_lo (x : B128) : (hiW x ++ loW x : B128) = x := by
  apply BitVec.eq_of_getLsbD_eq
  intro i hi
  unfold hiW loW
  rw [BitVec.getLsbD_append, BitVec.getLsbD_extractLsb', BitVec.getLsbD_extractLsb']
  by_cases h : i < 64
  · simp [h]
  · simp [h, show i - 64 < 64 by omega, show 64 + (i - 64) = i by omega]
theorem hi_app (h l : B64) : hiW (h ++ l : B128) = h := by
  apply BitVec.eq_of_getLsbD_eq
  intro i hi
  unfold hiW
  rw [BitVec.getLsbD_extractLsb', BitVec.getLsbD_append]
  simp [hi]
theorem lo_app (h l : B64) : loW (h ++ l : B128) = l := by
  apply BitVec.eq_of_getLsbD_eq
  intro i hi
  unfold loW
  rw [BitVec.getLsbD_extractLsb', BitVec.getLsbD_append]
  simp [hi]
theorem hi_blk (f : Bf) : hiW (blk f) = wordTo f 0 8 := hi_app _ _
theorem lo_blk (f : Bf) : loW (blk f) = wordTo f 8 8 := lo_app _ _

theorem bits_xor64 (x y : B64) : bits .xor .u64 (x.toNat : Int) (y.toNat : Int) = ((x ^^^ y).toNat : Int) := by
  rw [u64_xor_nat _ _ x.isLt y.isLt, BitVec.toNat_xor]
theorem bits_and64 (x y : B64) : bits .and .u64 (x.toNat : Int) (y.toNat : Int) = ((x &&& y).toNat : Int) := by
  rw [u64_and_nat _ _ x.isLt y.isLt, BitVec.toNat_and]
theorem bits_or64 (x y : B64) : bits .or .u64 (x.toNat : Int) (y.toNat : Int) = ((x ||| y).toNat : Int) := by
  rw [u64_or_nat _ _ x.isLt y.isLt, BitVec.toNat_or]
theorem neg64 (x : B64) : IntKind.u64.wrap (-(x.toNat : Int)) = ((-x).toNat : Int) := by
  have h := x.isLt
  rw [wrap_u64, BitVec.toNat_neg]
  omega
theorem half64 (x : B64) : (x.toNat : Int) / (2 : Int) = ((x >>> 1).toNat : Int) := by
  rw [BitVec.toNat_ushiftRight, Nat.shiftRight_eq_div_pow]
  omega
theorem shr64 (x : B64) (k : Nat) : (x.toNat : Int) / (2 : Int) ^ k = ((x >>> k).toNat : Int) := by
  rw [BitVec.toNat_ushiftRight, Nat.shiftRight_eq_div_pow]
  simp
theorem shl63 (x : B64) : IntKind.u64.wrap ((x.toNat : Int) * (9223372036854775808 : Int)) = ((x <<< 63).toNat : Int) := by
  rw [wrap_u64, BitVec.toNat_shiftLeft, Nat.shiftLeft_eq]
  omega
theorem one_mask (x : B64) : -(x &&& 1#64) = sel (x.getLsbD 0) (BitVec.allOnes 64) := by
  have e : x &&& 1#64 = sel (x.getLsbD 0) 1#64 := by
    apply BitVec.eq_of_getLsbD_eq
    intro i hi
    rw [BitVec.getLsbD_and, BitVec.getLsbD_one]
    cases h : x.getLsbD 0
    · by_cases h0 : i = 0
      · subst h0; rw [h]; rfl
      · simp [sel, h0]
    · by_cases h0 : i = 0
      · subst h0; rw [h]; rfl
      · simp [sel, h0]
  rw [e]
  cases x.getLsbD 0
  · show -(0#64) = 0#64
    decide
  · show -(1#64) = BitVec.allOnes 64
    decide
theorem and_sel (c : Bool) (x : B64) : x &&& sel c (BitVec.allOnes 64) = sel c x := by
  cases c
  · simp [sel]
  · show x &&& BitVec.allOnes 64 = x
    exact BitVec.and_allOnes
theorem mask_val (x : B64) : IntKind.u64.wrap (-bits .and .u64 (x.toNat : Int) 1) = ((sel (x.getLsbD 0) (BitVec.allOnes 64)).toNat : Int) := by
  have h := bits_and64 x 1#64
  rw [show ((1#64).toNat : Int) = 1 from rfl] at h
  rw [h, neg64, one_mask]
theorem hi_xor (x y : B128) : hiW (x ^^^ y) = hiW x ^^^ hiW y := by
  apply BitVec.eq_of_getLsbD_eq
  intro i hi
  simp [hiW, hi]
theorem lo_xor (x y : B128) : loW (x ^^^ y) = loW x ^^^ loW y := by
  apply BitVec.eq_of_getLsbD_eq
  intro i hi
  simp [loW, hi]
theorem hi_sel (c : Bool) (x : B128) : hiW (sel c x) = sel c (hiW x) := by
  cases c
  · show hiW 0#128 = 0#64
    decide
  · rfl
theorem lo_sel (c : Bool) (x : B128) : loW (sel c x) = sel c (loW x) := by
  cases c
  · show loW 0#128 = 0#64
    decide
  · rfl
theorem tx_hi (b : B128) : bits .xor .u64 ((((hiW b).toNat : Int)) / (2 : Int)) (bits .and .u64 16212958658533785600 (IntKind.u64.wrap (-bits .and .u64 ((loW b).toNat : Int) 1))) = ((hiW (tx b)).toNat : Int) := by
  have e : hiW (tx b) = (hiW b >>> 1) ^^^ sel ((loW b).getLsbD 0) 0xe100000000000000#64 := by
    conv => lhs; rw [← hi_lo b]
    rw [← tx_words, hi_app]
  rw [mask_val, half64, show (16212958658533785600 : Int) = ((0xe100000000000000#64).toNat : Int) from rfl, bits_and64, and_sel, bits_xor64, e]
theorem tx_lo (b : B128) : bits .or .u64 ((((loW b).toNat : Int)) / (2 : Int)) (IntKind.u64.wrap (((hiW b).toNat : Int) * (9223372036854775808 : Int))) = ((loW (tx b)).toNat : Int) := by
  have e : loW (tx b) = (loW b >>> 1) ||| (hiW b <<< 63) := by
    conv => lhs; rw [← hi_lo b]
    rw [← tx_words, lo_app]
  rw [half64, shl63, bits_or64, e]
theorem msb_hi (x : B128) (k : Nat) (hk : k < 64) : (hiW x >>> (63 - k % 64)).getLsbD 0 = x.getMsbD k := by
  unfold hiW
  rw [BitVec.getLsbD_ushiftRight, BitVec.getLsbD_extractLsb', BitVec.getMsbD_eq_getLsbD]
  have e1 : 64 + (63 - k % 64 + 0) = 128 - 1 - k := by omega
  rw [e1, decide_eq_true (show k < 128 by omega), decide_eq_true (show 63 - k % 64 + 0 < 64 by omega)]
theorem msb_lo (x : B128) (k : Nat) (hk : 64 ≤ k) (h2 : k < 128) : (loW x >>> (63 - k % 64)).getLsbD 0 = x.getMsbD k := by
  unfold loW
  rw [BitVec.getLsbD_ushiftRight, BitVec.getLsbD_extractLsb', BitVec.getMsbD_eq_getLsbD]
  have e1 : 0 + (63 - k % 64 + 0) = 128 - 1 - k := by omega
  rw [e1, decide_eq_true (show k < 128 by omega), decide_eq_true (show 63 - k % 64 + 0 < 64 by omega)]
theorem mul_hi (a b : B128) (u : B64) (k : Nat) (hu : (u >>> (63 - k % 64)).getLsbD 0 = a.getMsbD k) :
    bits .xor .u64 ((hiW (mulTo a b k)).toNat : Int) (bits .and .u64 ((hiW (pw tx k b)).toNat : Int) (IntKind.u64.wrap (-bits .and .u64 ((u.toNat : Int) / (2 : Int) ^ (63 - k % 64)) 1)))
      = ((hiW (mulTo a b (k + 1))).toNat : Int) := by
  rw [shr64, mask_val, hu, bits_and64, and_sel, bits_xor64]
  show _ = ((hiW (mulTo a b k ^^^ sel (a.getMsbD k) (pw tx k b))).toNat : Int)
  rw [hi_xor, hi_sel]
theorem mul_lo (a b : B128) (u : B64) (k : Nat) (hu : (u >>> (63 - k % 64)).getLsbD 0 = a.getMsbD k) :
    bits .xor .u64 ((loW (mulTo a b k)).toNat : Int) (bits .and .u64 ((loW (pw tx k b)).toNat : Int) (IntKind.u64.wrap (-bits .and .u64 ((u.toNat : Int) / (2 : Int) ^ (63 - k % 64)) 1)))
      = ((loW (mulTo a b (k + 1))).toNat : Int) := by
  rw [shr64, mask_val, hu, bits_and64, and_sel, bits_xor64]
  show _ = ((loW (mulTo a b k ^^^ sel (a.getMsbD k) (pw tx k b))).toNat : Int)
  rw [lo_xor, lo_sel]
theorem hi_zero : ((hiW 0#128).toNat : Int) = 0 := by decide
theorem lo_zero : ((loW 0#128).toNat : Int) = 0 := by decide
set_option maxRecDepth 100000 in
set_option maxHeartbeats 1000000 in
theorem mulC_any (f g : Bf) (w : World) :
    Calls Tryz.prog 293 #[.agg (bytes 16 f), .agg (bytes 16 g)] w fun e w' => e = .returned (.agg (bytes 16 (byteB (mulB (blk f) (blk g))))) ∧ Below w.heap.size w w' := by
  have H0 := Has3.start f g w
  go_enter Tryz.func293, Tryz.ntmps293
  go_wp2_with (with_reducible refine load_blk rfl (.tmp 2) rfl w.heap.size rfl _ H0.a ?_)
  refine (halves_any f _).mono ?_
  rintro e w1 ⟨rfl, hb1⟩
  have H1 := H0.later hb1
  clear H0 hb1
  go_wp2_with (with_reducible refine load_blk rfl (.tmp 3) rfl (w.heap.size + 1) rfl _ H1.b ?_)
  refine (halves_any g _).mono ?_
  rintro e w2 ⟨rfl, hb2⟩
  have H2 := H1.later hb2
  clear H1 hb2
  go_wp2_with fail
  go_loop [7, 8, 9, 10, 25] (fun bh bl zh zl i => ∃ k : Nat, k ≤ 128 ∧ i = .int .i64 k ∧ bh = .int .u64 (hiW (pw tx k (blk g))).toNat ∧ bl = .int .u64 (loW (pw tx k (blk g))).toNat ∧ zh = .int .u64 (hiW (mulTo (blk f) (blk g) k)).toNat ∧ zl = .int .u64 (loW (mulTo (blk f) (blk g) k)).toNat) (fun _ _ _ _ i => 128 - (intOf i).toNat)
  case atStart => exact ⟨0, by omega, rfl, by rw [← hi_blk]; rfl, by rw [← lo_blk]; rfl, valu64 hi_zero.symm, valu64 lo_zero.symm⟩
  case round =>
    obtain ⟨k, hk, rfl, rfl, rfl, rfl, rfl⟩ := hrel
    have h1 := (hiW (pw tx k (blk g))).isLt
    have h2 := (loW (pw tx k (blk g))).isLt
    have h3 := (wordTo f 0 8).isLt
    have h4 := (wordTo f 8 8).isLt
    by_cases hlt : k < 128
    · by_cases h64 : k < 64
      · have E1 := Lib.hid (mul_hi (blk f) (blk g) (wordTo f 0 8) k (by rw [← hi_blk]; exact msb_hi _ k h64))
        have E2 := Lib.hid (mul_lo (blk f) (blk g) (wordTo f 0 8) k (by rw [← hi_blk]; exact msb_hi _ k h64))
        go_wp2
        go_round
        case rel => exact ⟨k + 1, by omega, by go_num, valu64 (tx_hi _), valu64 (tx_lo _), valu64 E1.out, valu64 E2.out⟩
        case measure => simp [intOf]; omega
      · have E1 := Lib.hid (mul_hi (blk f) (blk g) (wordTo f 8 8) k (by rw [← lo_blk]; exact msb_lo _ k (by omega) hlt))
        have E2 := Lib.hid (mul_lo (blk f) (blk g) (wordTo f 8 8) k (by rw [← lo_blk]; exact msb_lo _ k (by omega) hlt))
        go_wp2
        go_round
        case rel => exact ⟨k + 1, by omega, by go_num, valu64 (tx_hi _), valu64 (tx_lo _), valu64 E1.out, valu64 E2.out⟩
        case measure => simp [intOf]; omega
    · obtain rfl : k = 128 := by omega
      go_wp2_with fail
      refine (whole_any _ _ _).mono ?_
      rintro e w3 ⟨rfl, hb3⟩
      have H3 := H2.later hb3
      clear H2 hb3
      go_wp2_with (with_reducible refine store_blk rfl (.tmp 4) (.tmp 65) rfl (w.heap.size + 1 + 1) _ _ rfl rfl H3.c ?_)
      refine bodyPost_ret (result_blk rfl _ _ (w.heap.size + 1 + 1) _ rfl (H3.c.row_same _)) rfl ⟨?_, below_setRow H3.bel (by omega) _⟩
      rw [hi_lo]
      rfl
end Go.Proofs.YtlpbbihjnmikkaaGreatDoor.Blo

set_option maxRecDepth 100000
namespace Go.Proofs.YtlpbbihjnmikkaaGreatDoor.Blo
open Go.RowKit Gf

theorem valu_i64 {x y : Int} (h : x = y) : Value.int .i64 x = Value.int .i64 y := by rw [h]
end Go.Proofs.YtlpbbihjnmikkaaGreatDoor.Blo

set_option maxRecDepth 100000
namespace Go.Proofs.YtlpbbihjnmikkaaGreatDoor.Blo
open Go.RowKit Gf

/-- The k-th sixteen of n bytes, noughts behind. -/
def chunk (bf : Bf) (n k : Nat) : Bf := fun i => if 16 * k + i < n then bf (16 * k + i) else 0#8
def hashTo (H : B128) (bf : Bf) (n : Nat) : Nat → B128
  | 0 => 0#128
  | k + 1 => mulB (hashTo H bf n k ^^^ blk (chunk bf n k)) H
def hashF (H : B128) (bf : Bf) (n : Nat) : B128 := hashTo H bf n ((n + 15) / 16)

/-- The slice's address and length read as n bytes, all of old blocks. -/
def RdB (w : World) (A : Option Addr) (n : Nat) (bf : Bf) : Prop :=
  0 < n → ∃ ad, A = some ad ∧ ad.block < w.heap.size ∧ ∀ j, j < n → w.cell? (ad.add j) = some (.int .u8 (bf j).toNat)

theorem add_add (a : Addr) (i j : Nat) : (a.add i).add j = a.add (i + j) := by
  unfold Addr.add
  by_cases hi : i = 0 <;> by_cases hj : j = 0 <;> simp [hi, hj, Nat.add_assoc]
theorem block_add (a : Addr) (n : Nat) : (a.add n).block = a.block := by unfold Addr.add; split <;> rfl
theorem RdB.cut {w : World} {A : Option Addr} {n : Nat} {bf : Bf} (h : RdB w A n bf) {k cap : Nat} (hc : n ≤ cap) :
    RdB w (if cap = k then A else A.map (·.add k)) (n - k) (fun j => bf (k + j)) := fun hn => by
  obtain ⟨ad, rfl, hb, hcell⟩ := h (by omega)
  rw [if_neg (by omega)]
  refine ⟨ad.add k, rfl, by rw [block_add]; exact hb, fun j hj => ?_⟩
  rw [add_add]
  exact hcell _ (by omega)
theorem RdB.below {w w' : World} {A : Option Addr} {n : Nat} {bf : Bf} (h : RdB w A n bf) (hb : Below w.heap.size w w') : RdB w' A n bf := fun hn => by
  obtain ⟨ad, rfl, hbl, hcell⟩ := h hn
  exact ⟨ad, rfl, Nat.lt_of_lt_of_le hbl hb.size, fun j hj => (hb.cell (by rw [block_add]; exact hbl)).trans (hcell j hj)⟩
theorem RdB.ext {w : World} {A : Option Addr} {n : Nat} {bf bg : Bf} (h : RdB w A n bf) (e : ∀ j, j < n → bf j = bg j) : RdB w A n bg := fun hn => by
  obtain ⟨ad, rfl, hbl, hcell⟩ := h hn
  exact ⟨ad, rfl, hbl, fun j hj => by rw [← e j hj]; exact hcell j hj⟩
theorem RdB.less {w : World} {A : Option Addr} {n m : Nat} {bf : Bf} (h : RdB w A n bf) (hm : m ≤ n) : RdB w A m bf := fun hn => by
  obtain ⟨ad, rfl, hbl, hcell⟩ := h (by omega)
  exact ⟨ad, rfl, hbl, fun j hj => hcell j (by omega)⟩

theorem chunk_ext {bf bg : Bf} {n : Nat} (e : ∀ j, j < n → bf j = bg j) (k : Nat) : chunk bf n k = chunk bg n k := by
  funext i
  unfold chunk
  by_cases h : 16 * k + i < n
  · rw [if_pos h, if_pos h, e _ h]
  · rw [if_neg h, if_neg h]
theorem hashTo_ext {bf bg : Bf} {n : Nat} (e : ∀ j, j < n → bf j = bg j) (H : B128) (k : Nat) : hashTo H bf n k = hashTo H bg n k := by
  induction k with
  | zero => rfl
  | succ k ih => show mulB (hashTo H bf n k ^^^ blk (chunk bf n k)) H = mulB (hashTo H bg n k ^^^ blk (chunk bg n k)) H; rw [ih, chunk_ext e]
theorem hashF_ext {bf bg : Bf} {n : Nat} (e : ∀ j, j < n → bf j = bg j) (H : B128) : hashF H bf n = hashF H bg n := hashTo_ext e H _

/-- Noughts behind the last bytes change nothing. -/
theorem chunk_pad (bf : Bf) (n m k : Nat) (hn : n ≤ m) (hz : ∀ j, n ≤ j → j < m → bf j = 0#8) : chunk bf m k = chunk bf n k := by
  funext i
  unfold chunk
  by_cases h : 16 * k + i < n
  · rw [if_pos h, if_pos (by omega)]
  · by_cases h2 : 16 * k + i < m
    · rw [if_pos h2, if_neg h, hz _ (by omega) h2]
    · rw [if_neg h2, if_neg h]
theorem hashF_pad (H : B128) (bf : Bf) (n m : Nat) (hn : n ≤ m) (hm : (m + 15) / 16 = (n + 15) / 16) (hz : ∀ j, n ≤ j → j < m → bf j = 0#8) : hashF H bf m = hashF H bf n := by
  unfold hashF
  rw [hm]
  generalize (n + 15) / 16 = K
  induction K with
  | zero => rfl
  | succ k ih => show mulB (hashTo H bf m k ^^^ blk (chunk bf m k)) H = mulB (hashTo H bf n k ^^^ blk (chunk bf n k)) H; rw [ih, chunk_pad bf n m k hn hz]
/-- A block more is a step more. -/
theorem hashF_step (H : B128) (bf last : Bf) (n : Nat) (hn : n % 16 = 0) (hl : ∀ i, i < 16 → bf (n + i) = last i) : hashF H bf (n + 16) = mulB (hashF H bf n ^^^ blk last) H := by
  unfold hashF
  rw [show (n + 16 + 15) / 16 = n / 16 + 1 by omega, show (n + 15) / 16 = n / 16 by omega]
  show mulB (hashTo H bf (n + 16) (n / 16) ^^^ blk (chunk bf (n + 16) (n / 16))) H = _
  have e1 : blk (chunk bf (n + 16) (n / 16)) = blk last := blk_ext fun i hi => by
    unfold chunk
    rw [if_pos (by omega), ← hl i hi]
    congr 1; omega
  have e2 : ∀ k, k ≤ n / 16 → hashTo H bf (n + 16) k = hashTo H bf n k := by
    intro k hk
    induction k with
    | zero => rfl
    | succ k ih =>
      show mulB (hashTo H bf (n + 16) k ^^^ blk (chunk bf (n + 16) k)) H = mulB (hashTo H bf n k ^^^ blk (chunk bf n k)) H
      have e3 : blk (chunk bf (n + 16) k) = blk (chunk bf n k) := blk_ext fun i hi => by
        unfold chunk
        rw [if_pos (by omega), if_pos (by omega)]
      rw [ih (by omega), e3]
  rw [e1, e2 _ (Nat.le_refl _)]
/-- The hash of bytes that are XOR others is the Xor of both hashes. -/
theorem hashTo_xor (H : B128) (bf cf : Bf) (n k : Nat) : hashTo H (fun i => bf i ^^^ cf i) n k = hashTo H bf n k ^^^ hashTo H cf n k := by
  induction k with
  | zero => simp [hashTo]
  | succ k ih =>
    show mulB (hashTo H (fun i => bf i ^^^ cf i) n k ^^^ blk (chunk (fun i => bf i ^^^ cf i) n k)) H = mulB (hashTo H bf n k ^^^ blk (chunk bf n k)) H ^^^ mulB (hashTo H cf n k ^^^ blk (chunk cf n k)) H
    have e : blk (chunk (fun i => bf i ^^^ cf i) n k) = blk (chunk bf n k) ^^^ blk (chunk cf n k) := by
      rw [← blk_xor]
      refine blk_ext fun i _ => ?_
      unfold chunk
      by_cases h : 16 * k + i < n
      · rw [if_pos h, if_pos h, if_pos h]
      · rw [if_neg h, if_neg h, if_neg h]; simp
    rw [ih, e, ← mulB_spread', xor4]
theorem hashF_xor (H : B128) (bf cf : Bf) (n : Nat) : hashF H (fun i => bf i ^^^ cf i) n = hashF H bf n ^^^ hashF H cf n := hashTo_xor H bf cf n _
end Go.Proofs.YtlpbbihjnmikkaaGreatDoor.Blo
