/-
  PLAIN LAWS of the reference's product of blocks: a row of 256 coefficients, turned at single places; what stands from x^128 on, taken away; the row written as bytes. No program in sight.
-/
import Derived.Test.YtddehfhklalfgaaBlkF
import Derived.Test.YtddehfhklalfgaaMem
namespace Go.Proofs.Ytddehfhklalfgaa.Gf
open Go.Proofs.Ytddehfhklalfgaa

abbrev Coef := Nat → Bool
def bb (c : Bool) : BitVec 8 := bif c then 1#8 else 0#8
def turn (c : Coef) (n : Nat) (s : Bool) : Coef := fun x => (c x ^^ (s && decide (x = n)))
theorem val_turn_in (c : Coef) (n : Nat) (s : Bool) (m : Nat) (h : n < m) : val (turn c n s) m = val c m ^^^ sel s (pw tx n one128) := by
  unfold val
  have e : sumTo m (fun x => sel (turn c n s x) (pw tx x one128)) = sumTo m (fun x => sel (c x) (pw tx x one128)) ^^^ sumTo m (fun x => sel (s && decide (x = n)) (pw tx x one128)) := by
    rw [← sumTo_xor]
    exact sumTo_congr fun i _ => sel_bxor _ _ _
  rw [e]
  congr 1
  clear e
  induction m with
  | zero => omega
  | succ m ih =>
    show sumTo m (fun x => sel (s && decide (x = n)) (pw tx x one128)) ^^^ sel (s && decide (m = n)) (pw tx m one128) = _
    by_cases hm : m = n
    · subst hm
      have z : sumTo m (fun x => sel (s && decide (x = m)) (pw tx x one128)) = 0#128 := by
        rw [← sumTo_zero m]
        exact sumTo_congr fun i hi => by rw [decide_eq_false (by omega), Bool.and_false]; rfl
      rw [z, decide_eq_true rfl, Bool.and_true]
      simp
    · rw [ih (by omega), decide_eq_false hm, Bool.and_false]
      simp [sel]
theorem val_turn_out (c : Coef) (n : Nat) (s : Bool) (m : Nat) (h : m ≤ n) : val (turn c n s) m = val c m := by
  unfold val
  refine sumTo_congr fun i hi => ?_
  unfold turn
  rw [decide_eq_false (by omega), Bool.and_false, Bool.xor_false]

/-- The inner loop: b's coefficients, i places further. -/
def inner (c : Coef) (b : B128) (i : Nat) : Nat → Coef
  | 0 => c
  | k + 1 => turn (inner c b i k) (i + k) (b.getMsbD k)
theorem inner_val (c : Coef) (b : B128) (i k : Nat) (h : i + k ≤ 256) : val (inner c b i k) 256 = val c 256 ^^^ sumTo k (fun j => sel (b.getMsbD j) (pw tx (i + j) one128)) := by
  induction k with
  | zero => simp [inner, sumTo]
  | succ k ih =>
    show val (turn (inner c b i k) (i + k) (b.getMsbD k)) 256 = _
    rw [val_turn_in _ _ _ _ (by omega), ih (by omega), BitVec.xor_assoc]
    rfl
theorem inner_full (c : Coef) (b : B128) (i : Nat) (h : i ≤ 128) : val (inner c b i 128) 256 = val c 256 ^^^ pw tx i b := by
  rw [inner_val c b i 128 (by omega)]
  congr 1
  conv => rhs; rw [← basis128 b]
  rw [sumTo_lin _ (pw_lin tx_lin i)]
  exact sumTo_congr fun j _ => by rw [(pw_lin tx_lin i).sel, pw_add]
theorem inner_high (c : Coef) (b : B128) (i k n : Nat) (h : i + k ≤ n) : inner c b i k n = c n := by
  induction k with
  | zero => rfl
  | succ k ih =>
    show turn (inner c b i k) (i + k) (b.getMsbD k) n = _
    unfold turn
    rw [decide_eq_false (by omega), Bool.and_false, Bool.xor_false, ih (by omega)]
/-- The outer loop. -/
def cTo (a b : B128) : Nat → Coef
  | 0 => fun _ => false
  | i + 1 => bif a.getMsbD i then inner (cTo a b i) b i 128 else cTo a b i
theorem cTo_val (a b : B128) (i : Nat) (h : i ≤ 128) : val (cTo a b i) 256 = mulTo a b i := by
  induction i with
  | zero =>
    show val (fun _ => false) 256 = 0#128
    exact sumTo_zero 256
  | succ i ih =>
    show val (bif a.getMsbD i then inner (cTo a b i) b i 128 else cTo a b i) 256 = mulTo a b i ^^^ sel (a.getMsbD i) (pw tx i b)
    cases a.getMsbD i
    · rw [cond_false, ih (by omega)]; simp [sel]
    · rw [cond_true, inner_full _ _ _ (by omega), ih (by omega)]; rfl
theorem cTo_high (a b : B128) (i : Nat) (h : i ≤ 128) (n : Nat) (hn : 255 ≤ n) : cTo a b i n = false := by
  induction i with
  | zero => rfl
  | succ i ih =>
    show (bif a.getMsbD i then inner (cTo a b i) b i 128 else cTo a b i) n = false
    cases a.getMsbD i
    · exact ih (by omega)
    · rw [cond_true, inner_high _ _ _ _ _ (by omega)]; exact ih (by omega)

theorem sel_true (x : B128) : sel true x = x := rfl
/-- One step of taking away. -/
def rdStep (c : Coef) (i : Nat) : Coef := bif c i then turn (turn (turn (turn c (i - 128) true) (i - 127) true) (i - 126) true) (i - 121) true else c
theorem pw_high (i : Nat) (h : 128 ≤ i) : pw tx i one128 = pw tx (i - 128) one128 ^^^ pw tx (i - 127) one128 ^^^ pw tx (i - 126) one128 ^^^ pw tx (i - 121) one128 := by
  have hl := pw_lin tx_lin (i - 128)
  have e : pw tx i one128 = pw tx (i - 128) (pw tx 128 one128) := by rw [pw_add, Nat.sub_add_cancel h]
  rw [e, pw_128, hl, hl, hl, pw_add, pw_add, pw_add, show i - 128 + 1 = i - 127 by omega, show i - 128 + 2 = i - 126 by omega, show i - 128 + 7 = i - 121 by omega]
theorem rdStep_val (c : Coef) (i : Nat) (h : 128 ≤ i) : val (rdStep c i) i = val c (i + 1) := by
  show _ = val c i ^^^ sel (c i) (pw tx i one128)
  unfold rdStep
  cases c i
  · simp [sel]
  · rw [cond_true, val_turn_in _ _ _ _ (by omega), val_turn_in _ _ _ _ (by omega), val_turn_in _ _ _ _ (by omega), val_turn_in _ _ _ _ (by omega)]
    rw [sel_true, sel_true, sel_true, sel_true, sel_true, pw_high i h]
    simp only [BitVec.xor_assoc]
def rdTo (c : Coef) : Nat → Coef
  | 0 => c
  | k + 1 => rdStep (rdTo c k) (254 - k)
theorem rdTo_val (c : Coef) (k : Nat) (h : k ≤ 127) : val (rdTo c k) (255 - k) = val c 255 := by
  induction k with
  | zero => rfl
  | succ k ih =>
    show val (rdStep (rdTo c k) (254 - k)) (255 - (k + 1)) = _
    rw [show 255 - (k + 1) = 254 - k by omega, rdStep_val _ _ (by omega), show 254 - k + 1 = 255 - k by omega, ih (by omega)]

/-- The row written as bytes. -/
def outTo (c : Coef) : Nat → Bf
  | 0 => fun _ => 0#8
  | k + 1 => upd (outTo c k) (k / 8) (outTo c k (k / 8) ||| (bb (c k) <<< (7 - k % 8)))
theorem bb_shl (c : Bool) (s j : Nat) (hj : j < 8) : (bb c <<< s).getLsbD j = (c && decide (j = s)) := by
  rw [BitVec.getLsbD_shiftLeft]
  cases c
  · simp [bb]
  · show (decide (j < 8) && !decide (j < s) && (1#8).getLsbD (j - s)) = decide (j = s)
    rw [BitVec.getLsbD_one]
    by_cases h : j = s
    · subst h; simp [hj]
    · simp [h]; omega
theorem outTo_bit (c : Coef) (k : Nat) (i j : Nat) (hj : j < 8) : (outTo c k i).getLsbD (7 - j) = (decide (8 * i + j < k) && c (8 * i + j)) := by
  induction k with
  | zero => simp [outTo]
  | succ k ih =>
    show (upd (outTo c k) (k / 8) (outTo c k (k / 8) ||| (bb (c k) <<< (7 - k % 8))) i).getLsbD (7 - j) = _
    unfold upd
    by_cases hi : i = k / 8
    · rw [if_pos hi, ← hi, BitVec.getLsbD_or, ih, bb_shl _ _ _ (by omega)]
      by_cases hk : 8 * i + j = k
      · have e1 : 7 - j = 7 - k % 8 := by omega
        rw [hk, e1]; simp
      · have e1 : ¬ 7 - j = 7 - k % 8 := by omega
        have e2 : (8 * i + j < k + 1) ↔ (8 * i + j < k) := by omega
        rw [decide_eq_false e1, Bool.and_false, Bool.or_false]
        simp [e2]
    · have e2 : (8 * i + j < k + 1) ↔ (8 * i + j < k) := by omega
      rw [if_neg hi, ih]
      simp [e2]
theorem outTo_blk (c : Coef) : blk (outTo c 128) = val c 128 := by
  apply eq_of_msb
  intro j hj
  rw [blk_bit _ j hj, val_bits _ _ (Nat.le_refl _) j hj, outTo_bit c 128 (j / 8) (j % 8) (by omega)]
  have e : 8 * (j / 8) + j % 8 = j := by omega
  rw [e]
/-- The reference's product is the product. -/
theorem ref_full (a b : B128) : blk (outTo (rdTo (cTo a b 128) 127) 128) = mulB a b := by
  rw [outTo_blk]
  have h1 := rdTo_val (cTo a b 128) 127 (Nat.le_refl _)
  have h2 : val (cTo a b 128) 256 = val (cTo a b 128) 255 := by
    show val (cTo a b 128) 255 ^^^ sel (cTo a b 128 255) _ = _
    rw [cTo_high a b 128 (Nat.le_refl _) 255 (Nat.le_refl _)]
    simp [sel]
  rw [show 255 - 127 = 128 from rfl] at h1
  rw [h1, ← h2, cTo_val a b 128 (Nat.le_refl _)]
  rfl

end Go.Proofs.Ytddehfhklalfgaa.Gf
