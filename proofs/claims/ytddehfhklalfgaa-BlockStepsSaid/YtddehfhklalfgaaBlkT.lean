/-
  PLAIN LAWS of the hash of bytes by blocks; and words for the bytes of a slice. No program in sight.
-/
import Derived.Test.YtddehfhklalfgaaBlkF
import Derived.Test.YtddehfhklalfgaaMem
namespace Go.Proofs.Ytddehfhklalfgaa
open Go.RowKit Gf

/-- The k-th sixteen of n bytes, noughts behind. -/
def chunk (bf : Bf) (n k : Nat) : Bf := fun i => if 16 * k + i < n then bf (16 * k + i) else 0#8
def hashTo (H : B128) (bf : Bf) (n : Nat) : Nat → B128
  | 0 => 0#128
  | k + 1 => mulB (hashTo H bf n k ^^^ blk (chunk bf n k)) H
def hashF (H : B128) (bf : Bf) (n : Nat) : B128 := hashTo H bf n ((n + 15) / 16)

/-- The slice's address and length read as n bytes, all of old blocks. -/
def RdB (w : World) (A : Option Addr) (n : Nat) (bf : Bf) : Prop :=
  0 < n → ∃ ad, A = some ad ∧ ad.block < w.heap.size ∧ ∀ j, j < n → w.cell? (ad.add j) = some (.int .u8 (bf j).toNat)

theorem add_add (a : Addr) (i j : Nat) : (a.add i).add j = a.add (i + j) := by
  unfold Addr.add
  by_cases hi : i = 0 <;> by_cases hj : j = 0 <;> simp [hi, hj, Nat.add_assoc]
theorem block_add (a : Addr) (n : Nat) : (a.add n).block = a.block := by unfold Addr.add; split <;> rfl
theorem RdB.cut {w : World} {A : Option Addr} {n : Nat} {bf : Bf} (h : RdB w A n bf) {k cap : Nat} (hc : n ≤ cap) :
    RdB w (if cap = k then A else A.map (·.add k)) (n - k) (fun j => bf (k + j)) := fun hn => by
  obtain ⟨ad, rfl, hb, hcell⟩ := h (by omega)
  rw [if_neg (by omega)]
  refine ⟨ad.add k, rfl, by rw [block_add]; exact hb, fun j hj => ?_⟩
  rw [add_add]
  exact hcell _ (by omega)
theorem RdB.below {w w' : World} {A : Option Addr} {n : Nat} {bf : Bf} (h : RdB w A n bf) (hb : Below w.heap.size w w') : RdB w' A n bf := fun hn => by
  obtain ⟨ad, rfl, hbl, hcell⟩ := h hn
  exact ⟨ad, rfl, Nat.lt_of_lt_of_le hbl hb.size, fun j hj => (hb.cell (by rw [block_add]; exact hbl)).trans (hcell j hj)⟩
theorem RdB.ext {w : World} {A : Option Addr} {n : Nat} {bf bg : Bf} (h : RdB w A n bf) (e : ∀ j, j < n → bf j = bg j) : RdB w A n bg := fun hn => by
  obtain ⟨ad, rfl, hbl, hcell⟩ := h hn
  exact ⟨ad, rfl, hbl, fun j hj => by rw [← e j hj]; exact hcell j hj⟩
theorem RdB.less {w : World} {A : Option Addr} {n m : Nat} {bf : Bf} (h : RdB w A n bf) (hm : m ≤ n) : RdB w A m bf := fun hn => by
  obtain ⟨ad, rfl, hbl, hcell⟩ := h (by omega)
  exact ⟨ad, rfl, hbl, fun j hj => hcell j (by omega)⟩

theorem chunk_ext {bf bg : Bf} {n : Nat} (e : ∀ j, j < n → bf j = bg j) (k : Nat) : chunk bf n k = chunk bg n k := by
  funext i
  unfold chunk
  by_cases h : 16 * k + i < n
  · rw [if_pos h, if_pos h, e _ h]
  · rw [if_neg h, if_neg h]
theorem hashTo_ext {bf bg : Bf} {n : Nat} (e : ∀ j, j < n → bf j = bg j) (H : B128) (k : Nat) : hashTo H bf n k = hashTo H bg n k := by
  induction k with
  | zero => rfl
  | succ k ih => show mulB (hashTo H bf n k ^^^ blk (chunk bf n k)) H = mulB (hashTo H bg n k ^^^ blk (chunk bg n k)) H; rw [ih, chunk_ext e]
theorem hashF_ext {bf bg : Bf} {n : Nat} (e : ∀ j, j < n → bf j = bg j) (H : B128) : hashF H bf n = hashF H bg n := hashTo_ext e H _

/-- Noughts behind the last bytes change nothing. -/
theorem chunk_pad (bf : Bf) (n m k : Nat) (hn : n ≤ m) (hz : ∀ j, n ≤ j → j < m → bf j = 0#8) : chunk bf m k = chunk bf n k := by
  funext i
  unfold chunk
  by_cases h : 16 * k + i < n
  · rw [if_pos h, if_pos (by omega)]
  · by_cases h2 : 16 * k + i < m
    · rw [if_pos h2, if_neg h, hz _ (by omega) h2]
    · rw [if_neg h2, if_neg h]
theorem hashF_pad (H : B128) (bf : Bf) (n m : Nat) (hn : n ≤ m) (hm : (m + 15) / 16 = (n + 15) / 16) (hz : ∀ j, n ≤ j → j < m → bf j = 0#8) : hashF H bf m = hashF H bf n := by
  unfold hashF
  rw [hm]
  generalize (n + 15) / 16 = K
  induction K with
  | zero => rfl
  | succ k ih => show mulB (hashTo H bf m k ^^^ blk (chunk bf m k)) H = mulB (hashTo H bf n k ^^^ blk (chunk bf n k)) H; rw [ih, chunk_pad bf n m k hn hz]
/-- A block more is a step more. -/
theorem hashF_step (H : B128) (bf last : Bf) (n : Nat) (hn : n % 16 = 0) (hl : ∀ i, i < 16 → bf (n + i) = last i) : hashF H bf (n + 16) = mulB (hashF H bf n ^^^ blk last) H := by
  unfold hashF
  rw [show (n + 16 + 15) / 16 = n / 16 + 1 by omega, show (n + 15) / 16 = n / 16 by omega]
  show mulB (hashTo H bf (n + 16) (n / 16) ^^^ blk (chunk bf (n + 16) (n / 16))) H = _
  have e1 : blk (chunk bf (n + 16) (n / 16)) = blk last := blk_ext fun i hi => by
    unfold chunk
    rw [if_pos (by omega), ← hl i hi]
    congr 1; omega
  have e2 : ∀ k, k ≤ n / 16 → hashTo H bf (n + 16) k = hashTo H bf n k := by
    intro k hk
    induction k with
    | zero => rfl
    | succ k ih =>
      show mulB (hashTo H bf (n + 16) k ^^^ blk (chunk bf (n + 16) k)) H = mulB (hashTo H bf n k ^^^ blk (chunk bf n k)) H
      have e3 : blk (chunk bf (n + 16) k) = blk (chunk bf n k) := blk_ext fun i hi => by
        unfold chunk
        rw [if_pos (by omega), if_pos (by omega)]
      rw [ih (by omega), e3]
  rw [e1, e2 _ (Nat.le_refl _)]
/-- The hash of bytes that are XOR others is the Xor of both hashes. -/
theorem hashTo_xor (H : B128) (bf cf : Bf) (n k : Nat) : hashTo H (fun i => bf i ^^^ cf i) n k = hashTo H bf n k ^^^ hashTo H cf n k := by
  induction k with
  | zero => simp [hashTo]
  | succ k ih =>
    show mulB (hashTo H (fun i => bf i ^^^ cf i) n k ^^^ blk (chunk (fun i => bf i ^^^ cf i) n k)) H = mulB (hashTo H bf n k ^^^ blk (chunk bf n k)) H ^^^ mulB (hashTo H cf n k ^^^ blk (chunk cf n k)) H
    have e : blk (chunk (fun i => bf i ^^^ cf i) n k) = blk (chunk bf n k) ^^^ blk (chunk cf n k) := by
      rw [← blk_xor]
      refine blk_ext fun i _ => ?_
      unfold chunk
      by_cases h : 16 * k + i < n
      · rw [if_pos h, if_pos h, if_pos h]
      · rw [if_neg h, if_neg h, if_neg h]; simp
    rw [ih, e, ← mulB_spread', xor4]
theorem hashF_xor (H : B128) (bf cf : Bf) (n : Nat) : hashF H (fun i => bf i ^^^ cf i) n = hashF H bf n ^^^ hashF H cf n := hashTo_xor H bf cf n _
end Go.Proofs.Ytddehfhklalfgaa
