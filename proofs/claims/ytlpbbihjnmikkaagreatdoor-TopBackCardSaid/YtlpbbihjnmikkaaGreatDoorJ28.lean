/-
  Joined: PGfB, PBlkF, PMemB, PBlkX
-/
import Derived.Below
import Derived.Laws.OwnMore
import Derived.Deep.Draws
import Derived.Laws.Rows
import Derived.WalkKit
import Derived.Test.YtlpbbihjnmikkaaGreatDoorProg
import Derived.WalkSpells
import Derived.WalkLawsBesides
import Derived.Laws.BitsAllLaws
import Derived.Laws.CopyOwn
import Derived.Deep.QuietTactic
import Derived.BigQuiet
import Derived.Lib.Hide
import Derived.StillTailTactics
set_option maxRecDepth 100000
namespace Go.Proofs.YtlpbbihjnmikkaaGreatDoor.Blo.Gf

def sumTo {n : Nat} : Nat → (Nat → BitVec n) → BitVec n
  | 0, _ => 0#n
  | k + 1, f => sumTo k f ^^^ f k
def pw {n : Nat} (T : BitVec n → BitVec n) : Nat → BitVec n → BitVec n
  | 0, b => b
  | k + 1, b => T (pw T k b)
def sel {n : Nat} (c : Bool) (b : BitVec n) : BitVec n := bif c then b else 0#n
def mulG {n : Nat} (T : BitVec n → BitVec n) (bit : BitVec n → Nat → Bool) (m : Nat) (a b : BitVec n) : BitVec n := sumTo m fun i => sel (bit a i) (pw T i b)

def Lin {n : Nat} (T : BitVec n → BitVec n) : Prop := ∀ x y, T (x ^^^ y) = T x ^^^ T y

variable {n : Nat}

theorem xor4 (a b c d : BitVec n) : (a ^^^ b) ^^^ (c ^^^ d) = (a ^^^ c) ^^^ (b ^^^ d) := by
  rw [BitVec.xor_assoc, BitVec.xor_assoc, ← BitVec.xor_assoc b c d, BitVec.xor_comm b c, BitVec.xor_assoc c b d]

theorem Lin.zero {T : BitVec n → BitVec n} (h : Lin T) : T 0#n = 0#n := by
  have := h 0#n 0#n
  simpa using this

theorem Lin.sel {T : BitVec n → BitVec n} (h : Lin T) (c : Bool) (x : BitVec n) : T (sel c x) = sel c (T x) := by
  cases c
  · exact h.zero
  · rfl

theorem pw_lin {T : BitVec n → BitVec n} (h : Lin T) (k : Nat) : Lin (pw T k) := by
  induction k with
  | zero => intro x y; rfl
  | succ k ih => intro x y; show T (pw T k (x ^^^ y)) = T (pw T k x) ^^^ T (pw T k y); rw [ih x y, h]

theorem pw_shift (T : BitVec n → BitVec n) (k : Nat) (b : BitVec n) : pw T k (T b) = T (pw T k b) := by
  induction k with
  | zero => rfl
  | succ k ih => show T (pw T k (T b)) = T (T (pw T k b)); rw [ih]

theorem pw_add (T : BitVec n → BitVec n) (i j : Nat) (b : BitVec n) : pw T i (pw T j b) = pw T (i + j) b := by
  induction i with
  | zero => rw [Nat.zero_add]; rfl
  | succ i ih => rw [Nat.succ_add]; show T (pw T i (pw T j b)) = T (pw T (i + j) b); rw [ih]

theorem sumTo_congr {k : Nat} {f g : Nat → BitVec n} (h : ∀ i, i < k → f i = g i) : sumTo k f = sumTo k g := by
  induction k with
  | zero => rfl
  | succ k ih => show sumTo k f ^^^ f k = sumTo k g ^^^ g k; rw [ih fun i hi => h i (Nat.lt_succ_of_lt hi), h k (Nat.lt_succ_self k)]

theorem sumTo_xor (k : Nat) (f g : Nat → BitVec n) : sumTo k (fun i => f i ^^^ g i) = sumTo k f ^^^ sumTo k g := by
  induction k with
  | zero => simp [sumTo]
  | succ k ih => show sumTo k (fun i => f i ^^^ g i) ^^^ (f k ^^^ g k) = (sumTo k f ^^^ f k) ^^^ (sumTo k g ^^^ g k); rw [ih, xor4]

theorem sumTo_zero (k : Nat) : sumTo k (fun _ => 0#n) = 0#n := by
  induction k with
  | zero => rfl
  | succ k ih => show sumTo k (fun _ => 0#n) ^^^ 0#n = 0#n; rw [ih]; simp

theorem sumTo_lin {m : Nat} (T : BitVec n → BitVec m) (h : ∀ x y, T (x ^^^ y) = T x ^^^ T y) (k : Nat) (f : Nat → BitVec n) : T (sumTo k f) = sumTo k (fun i => T (f i)) := by
  induction k with
  | zero =>
    have h0 := h 0#n 0#n
    simpa [sumTo] using h0
  | succ k ih => show T (sumTo k f ^^^ f k) = sumTo k (fun i => T (f i)) ^^^ T (f k); rw [h, ih]

theorem sumTo_comm (k m : Nat) (f : Nat → Nat → BitVec n) : sumTo k (fun i => sumTo m (fun j => f i j)) = sumTo m (fun j => sumTo k (fun i => f i j)) := by
  induction k with
  | zero => exact (sumTo_zero m).symm
  | succ k ih =>
    show sumTo k (fun i => sumTo m (fun j => f i j)) ^^^ sumTo m (fun j => f k j) = sumTo m (fun j => sumTo k (fun i => f i j) ^^^ f k j)
    rw [ih, sumTo_xor]

theorem sel_xor (c : Bool) (x y : BitVec n) : sel c (x ^^^ y) = sel c x ^^^ sel c y := by
  cases c
  · simp [sel]
  · rfl
theorem sel_bxor (c d : Bool) (x : BitVec n) : sel (c ^^ d) x = sel c x ^^^ sel d x := by
  cases c <;> cases d <;> simp [sel]
theorem sel_sel (c d : Bool) (x : BitVec n) : sel c (sel d x) = sel d (sel c x) := by
  cases c <;> cases d <;> rfl
theorem sel_sum (c : Bool) (k : Nat) (f : Nat → BitVec n) : sel c (sumTo k f) = sumTo k (fun i => sel c (f i)) :=
  sumTo_lin (sel c) (sel_xor c) k f

section
variable {T : BitVec n → BitVec n} {bit : BitVec n → Nat → Bool} {m : Nat} {one : BitVec n}

theorem mulG_add_right (hT : Lin T) (a b c : BitVec n) : mulG T bit m a (b ^^^ c) = mulG T bit m a b ^^^ mulG T bit m a c := by
  unfold mulG
  rw [← sumTo_xor]
  exact sumTo_congr fun i _ => by rw [pw_lin hT i b c, sel_xor]

theorem mulG_add_left (hb : ∀ x y i, bit (x ^^^ y) i = (bit x i ^^ bit y i)) (a b c : BitVec n) : mulG T bit m (a ^^^ b) c = mulG T bit m a c ^^^ mulG T bit m b c := by
  unfold mulG
  rw [← sumTo_xor]
  exact sumTo_congr fun i _ => by rw [hb, sel_bxor]

theorem mulG_T (hT : Lin T) (a b : BitVec n) : mulG T bit m a (T b) = T (mulG T bit m a b) := by
  unfold mulG
  rw [sumTo_lin T hT]
  exact sumTo_congr fun i _ => by rw [hT.sel, pw_shift]

theorem mulG_pw (hT : Lin T) (a b : BitVec n) (k : Nat) : mulG T bit m a (pw T k b) = pw T k (mulG T bit m a b) := by
  induction k with
  | zero => rfl
  | succ k ih => show mulG T bit m a (T (pw T k b)) = T (pw T k (mulG T bit m a b)); rw [mulG_T hT, ih]

theorem mulG_one (basis : ∀ b : BitVec n, sumTo m (fun i => sel (bit b i) (pw T i one)) = b) (a : BitVec n) : mulG T bit m a one = a := basis a

theorem mulG_comm (hT : Lin T) (basis : ∀ b : BitVec n, sumTo m (fun i => sel (bit b i) (pw T i one)) = b) (a b : BitVec n) : mulG T bit m a b = mulG T bit m b a := by
  have key : ∀ a b : BitVec n, mulG T bit m a b = sumTo m (fun i => sumTo m (fun j => sel (bit a i) (sel (bit b j) (pw T (i + j) one)))) := by
    intro a b
    unfold mulG
    apply sumTo_congr
    intro i _
    conv => lhs; rw [← basis b]
    rw [sumTo_lin _ (pw_lin hT i), sel_sum]
    exact sumTo_congr fun j _ => by rw [(pw_lin hT i).sel, pw_add]
  rw [key a b, key b a, sumTo_comm]
  exact sumTo_congr fun j _ => sumTo_congr fun i _ => by rw [sel_sel, Nat.add_comm]

theorem mulG_assoc (hT : Lin T) (basis : ∀ b : BitVec n, sumTo m (fun i => sel (bit b i) (pw T i one)) = b) (a b c : BitVec n) :
    mulG T bit m (mulG T bit m a b) c = mulG T bit m a (mulG T bit m b c) := by
  rw [mulG_comm hT basis (mulG T bit m a b) c]
  have e : ∀ x, mulG T bit m c (mulG T bit m x b) = mulG T bit m x (mulG T bit m c b) := by
    intro x
    show mulG T bit m c (sumTo m fun i => sel (bit x i) (pw T i b)) = sumTo m fun i => sel (bit x i) (pw T i (mulG T bit m c b))
    have hl : Lin (mulG T bit m c) := fun u v => mulG_add_right hT c u v
    rw [sumTo_lin _ hl]
    exact sumTo_congr fun i _ => by rw [hl.sel, mulG_pw hT]
  rw [e a, mulG_comm hT basis c b]

theorem mulG_zero (hT : Lin T) (a : BitVec n) : mulG T bit m a 0#n = 0#n :=
  Lin.zero (T := mulG T bit m a) (fun u v => mulG_add_right hT a u v)
end

end Go.Proofs.YtlpbbihjnmikkaaGreatDoor.Blo.Gf

set_option maxRecDepth 100000
namespace Go.Proofs.YtlpbbihjnmikkaaGreatDoor.Blo.Gf

abbrev B64 := BitVec 64
abbrev B128 := BitVec 128
/-- times x -/
def tx (b : B128) : B128 := (b >>> 1) ^^^ sel (b.getLsbD 0) (0xe1#128 <<< 120)
def one128 : B128 := 1#128 <<< 127
def mulB (a b : B128) : B128 := mulG tx BitVec.getMsbD 128 a b

theorem shr_xor (n k : Nat) (x y : BitVec n) : (x ^^^ y) >>> k = (x >>> k) ^^^ (y >>> k) := by
  apply BitVec.eq_of_getLsbD_eq
  intro i _
  simp
theorem tx_lin : Lin tx := by
  intro x y
  unfold tx
  rw [shr_xor, BitVec.getLsbD_xor, sel_bxor, xor4]
theorem getMsbD_add (x y : B128) (i : Nat) : (x ^^^ y).getMsbD i = (x.getMsbD i ^^ y.getMsbD i) := BitVec.getMsbD_xor

def pwOk (i : Nat) : Bool := pw tx i one128 == (1#128 <<< (127 - i))
theorem pw_table : (List.range 128).all pwOk = true := by decide +kernel
theorem pw_one (i : Nat) (h : i < 128) : pw tx i one128 = 1#128 <<< (127 - i) := eq_of_beq (show pwOk i = true from List.all_eq_true.1 pw_table i (List.mem_range.2 h))
theorem pw_128 : pw tx 128 one128 = one128 ^^^ pw tx 1 one128 ^^^ pw tx 2 one128 ^^^ pw tx 7 one128 := by decide +kernel

theorem getMsbD_bit (i j : Nat) (hi : i < 128) (hj : j < 128) : (1#128 <<< (127 - i)).getMsbD j = decide (i = j) := by
  rw [BitVec.getMsbD_eq_getLsbD, BitVec.getLsbD_shiftLeft, BitVec.getLsbD_one]
  have e : (i = j) ↔ (127 - i = 127 - j) := by omega
  by_cases h : i = j
  · subst h
    simp; omega
  · rw [decide_eq_false h]
    simp
    omega

/-- What a row of coefficients comes to. -/
def val (c : Nat → Bool) (m : Nat) : B128 := sumTo m fun n => sel (c n) (pw tx n one128)
theorem val_bits (c : Nat → Bool) (m : Nat) (hm : m ≤ 128) (j : Nat) (hj : j < 128) : (val c m).getMsbD j = (decide (j < m) && c j) := by
  induction m with
  | zero => simp [val, sumTo]
  | succ m ih =>
    show (val c m ^^^ sel (c m) (pw tx m one128)).getMsbD j = _
    rw [getMsbD_add, ih (by omega), pw_one m (by omega)]
    have e : (sel (c m) (1#128 <<< (127 - m))).getMsbD j = (c m && decide (m = j)) := by
      cases c m
      · simp [sel]
      · show (1#128 <<< (127 - m)).getMsbD j = _
        rw [getMsbD_bit m j (by omega) hj]; rfl
    rw [e]
    by_cases h1 : j < m
    · have h2 : ¬ m = j := by omega
      have h3 : j < m + 1 := by omega
      simp [h1, h2, h3]
    · by_cases h2 : m = j
      · subst h2; simp
      · have h3 : ¬ j < m + 1 := by omega
        simp [h1, h2, h3]
theorem eq_of_msb {x y : B128} (h : ∀ j, j < 128 → x.getMsbD j = y.getMsbD j) : x = y := by
  apply BitVec.eq_of_getMsbD_eq
  intro i hi
  exact h i hi
theorem basis128 (b : B128) : sumTo 128 (fun i => sel (b.getMsbD i) (pw tx i one128)) = b := by
  apply eq_of_msb
  intro j hj
  show (val (fun i => b.getMsbD i) 128).getMsbD j = _
  rw [val_bits _ _ (Nat.le_refl _) j hj, decide_eq_true hj]; rfl

theorem mulB_comm (a b : B128) : mulB a b = mulB b a := mulG_comm tx_lin basis128 a b
theorem mulB_assoc (a b c : B128) : mulB (mulB a b) c = mulB a (mulB b c) := mulG_assoc tx_lin basis128 a b c
theorem mulB_spread (a b c : B128) : mulB a (b ^^^ c) = mulB a b ^^^ mulB a c := mulG_add_right tx_lin a b c
theorem mulB_spread' (a b c : B128) : mulB (a ^^^ b) c = mulB a c ^^^ mulB b c := mulG_add_left getMsbD_add a b c
theorem mulB_one (a : B128) : mulB a one128 = a := mulG_one basis128 a
theorem mulB_zero (a : B128) : mulB a 0#128 = 0#128 := mulG_zero tx_lin a
theorem mulB_zero' (a : B128) : mulB 0#128 a = 0#128 := by rw [mulB_comm, mulB_zero]

/-! ### the code's product: two words -/
def mulTo (a b : B128) (k : Nat) : B128 := sumTo k fun i => sel (a.getMsbD i) (pw tx i b)
theorem append_xor (a b c d : B64) : ((a ^^^ c) ++ (b ^^^ d) : B128) = (a ++ b) ^^^ (c ++ d) := (BitVec.xor_append).symm
theorem tx_words (h l : B64) : ((((h >>> 1) ^^^ sel (l.getLsbD 0) 0xe100000000000000#64) ++ ((l >>> 1) ||| (h <<< 63))) : B128) = tx (h ++ l) := by
  unfold tx
  have e0 : ((h ++ l : B128)).getLsbD 0 = l.getLsbD 0 := by rw [BitVec.getLsbD_append]; simp
  rw [e0]
  have e1 : (((h >>> 1) ++ ((l >>> 1) ||| (h <<< 63))) : B128) = (h ++ l : B128) >>> 1 := by
    apply BitVec.eq_of_getLsbD_eq
    intro i hi
    have er : ((h ++ l : B128) >>> 1).getLsbD i = if 1 + i < 64 then l.getLsbD (1 + i) else h.getLsbD (1 + i - 64) := by
      rw [BitVec.getLsbD_ushiftRight, BitVec.getLsbD_append]
    rw [er, BitVec.getLsbD_append]
    by_cases h1 : i < 64
    · by_cases h2 : i = 63
      · subst h2; simp
      · have h3 : 1 + i < 64 := by omega
        have h4 : i < 63 := by omega
        simp [h1, h3, h4]
    · have h3 : ¬ 1 + i < 64 := by omega
      have h4 : 1 + (i - 64) = 1 + i - 64 := by omega
      simp [h1, h3, h4]
  rw [← e1]
  cases l.getLsbD 0
  · simp [sel]
  · show ((((h >>> 1) ^^^ 0xe100000000000000#64) ++ ((l >>> 1) ||| (h <<< 63))) : B128) = ((h >>> 1) ++ ((l >>> 1) ||| (h <<< 63))) ^^^ (0xe1#128 <<< 120)
    have e2 : (0xe1#128 <<< 120 : B128) = (0xe100000000000000#64 ++ 0#64 : B128) := by decide +kernel
    rw [e2, ← append_xor]
    simp

/-! ### bytes and blocks -/
abbrev Bf := Nat → BitVec 8
/-- The word of eight bytes from place o on, after k of them. -/
def wordTo (f : Bf) (o : Nat) : Nat → B64
  | 0 => 0#64
  | k + 1 => (wordTo f o k <<< 8) ||| (f (o + k)).setWidth 64
def blk (f : Bf) : B128 := (wordTo f 0 8 ++ wordTo f 8 8)
def byteB (x : B128) (i : Nat) : BitVec 8 := (x >>> (120 - 8 * i)).setWidth 8
theorem wordTo_bit (f : Bf) (o k : Nat) (hk : k ≤ 8) (j : Nat) (hj : j < 64) : (wordTo f o k).getLsbD j = (decide (j < 8 * k) && (f (o + (k - 1 - j / 8))).getLsbD (j % 8)) := by
  induction k generalizing j with
  | zero => simp [wordTo]
  | succ k ih =>
    show ((wordTo f o k <<< 8) ||| (f (o + k)).setWidth 64).getLsbD j = _
    rw [BitVec.getLsbD_or, BitVec.getLsbD_shiftLeft, BitVec.getLsbD_setWidth]
    by_cases h8 : j < 8
    · have e1 : j / 8 = 0 := by omega
      have e2 : j % 8 = j := by omega
      have e3 : j < 8 * (k + 1) := by omega
      simp [h8, e1, e2, e3, hj]
    · have hf : (f (o + k)).getLsbD j = false := BitVec.getLsbD_of_ge _ _ (by omega)
      rw [hf, ih (by omega) (j - 8) (by omega)]
      have e1 : (j - 8) % 8 = j % 8 := by omega
      have e2 : (j - 8) / 8 = j / 8 - 1 := by omega
      have e3 : k - 1 - (j / 8 - 1) = k - j / 8 := by omega
      have e4 : (j - 8 < 8 * k) ↔ (j < 8 * (k + 1)) := by omega
      simp [h8, hj, e1, e2, e3, e4]
theorem blk_bit (f : Bf) (i : Nat) (hi : i < 128) : (blk f).getMsbD i = (f (i / 8)).getLsbD (7 - i % 8) := by
  rw [BitVec.getMsbD_eq_getLsbD, decide_eq_true hi, Bool.true_and]
  unfold blk
  rw [BitVec.getLsbD_append]
  by_cases h : 128 - 1 - i < 64
  · rw [if_pos h, wordTo_bit f 8 8 (by omega) _ h]
    have e1 : 8 + (8 - 1 - (128 - 1 - i) / 8) = i / 8 := by omega
    have e2 : (128 - 1 - i) % 8 = 7 - i % 8 := by omega
    rw [e1, e2, decide_eq_true (by omega), Bool.true_and]
  · rw [if_neg h, wordTo_bit f 0 8 (by omega) _ (by omega)]
    have e1 : 0 + (8 - 1 - (128 - 1 - i - 64) / 8) = i / 8 := by omega
    have e2 : (128 - 1 - i - 64) % 8 = 7 - i % 8 := by omega
    rw [e1, e2, decide_eq_true (by omega), Bool.true_and]
theorem byteB_bit (x : B128) (i : Nat) (hi : i < 16) (j : Nat) (hj : j < 8) : (byteB x i).getLsbD j = x.getMsbD (8 * i + (7 - j)) := by
  unfold byteB
  rw [BitVec.getLsbD_setWidth, BitVec.getLsbD_ushiftRight, BitVec.getMsbD_eq_getLsbD]
  have e : 120 - 8 * i + j = 128 - 1 - (8 * i + (7 - j)) := by omega
  rw [e, decide_eq_true hj, decide_eq_true (show 8 * i + (7 - j) < 128 by omega)]
theorem blk_byteB (x : B128) : blk (byteB x) = x := by
  apply eq_of_msb
  intro j hj
  rw [blk_bit _ j hj, byteB_bit x _ (by omega) _ (by omega)]
  congr 1
  omega
theorem byteB_blk (f : Bf) (i : Nat) (hi : i < 16) : byteB (blk f) i = f i := by
  apply BitVec.eq_of_getLsbD_eq
  intro j hj
  rw [byteB_bit _ i hi j hj, blk_bit _ _ (by omega)]
  have e1 : (8 * i + (7 - j)) / 8 = i := by omega
  have e2 : 7 - (8 * i + (7 - j)) % 8 = j := by omega
  rw [e1, e2]
theorem blk_ext {f g : Bf} (h : ∀ i, i < 16 → f i = g i) : blk f = blk g := by
  apply eq_of_msb
  intro j hj
  rw [blk_bit _ j hj, blk_bit _ j hj, h _ (by omega)]
theorem blk_inj {f g : Bf} (h : blk f = blk g) (i : Nat) (hi : i < 16) : f i = g i := by rw [← byteB_blk f i hi, h, byteB_blk g i hi]
theorem blk_xor (f g : Bf) : blk (fun i => f i ^^^ g i) = blk f ^^^ blk g := by
  apply eq_of_msb
  intro j hj
  rw [getMsbD_add, blk_bit _ j hj, blk_bit _ j hj, blk_bit _ j hj, BitVec.getLsbD_xor]
theorem blk_zero : blk (fun _ => 0#8) = 0#128 := by decide +kernel

end Go.Proofs.YtlpbbihjnmikkaaGreatDoor.Blo.Gf

set_option maxRecDepth 100000
namespace Go.Proofs.YtlpbbihjnmikkaaGreatDoor.Blo
open Go.RowKit

/-- Block g is just the cells cs of element type t, none frozen. -/
def Blk (w : World) (g : Nat) (t : TypeId) (cs : Array Value) : Prop := w.heap[g]? = some (.cells cs t (0, 0))

section
variable {w w' : World} {g : Nat} {t : TypeId} {cs : Array Value}
theorem Blk.lt (h : Blk w g t cs) : g < w.heap.size := by
  rcases Nat.lt_or_ge g w.heap.size with hlt | hge
  · exact hlt
  · unfold Blk at h; rw [Array.getElem?_eq_none hge] at h; cases h
theorem Blk.cell (h : Blk w g t cs) (i : Nat) : w.cell? ⟨g, i, none⟩ = cs[i]? := cell_of_row w g i cs t (0, 0) h
theorem Blk.frozen (h : Blk w g t cs) (i : Nat) : w.frozen? ⟨g, i, none⟩ = false := by
  unfold Blk at h
  simp [World.frozen?, h]
theorem Blk.new (w : World) (t : TypeId) (cs : Array Value) : Blk (w.alloc (.cells cs t)) w.heap.size t cs := heap_alloc_new w _
theorem Blk.drew (h : Blk w g t cs) : Blk w.drew g t cs := h
theorem Blk.drewN (h : Blk w g t cs) (n : Nat) : Blk (w.drewN n) g t cs := h
theorem Blk.alloc (h : Blk w g t cs) (o : Obj) : Blk (w.alloc o) g t cs := (Below.heap_alloc w o g h.lt).trans h
theorem Blk.set_ (h : Blk w g t cs) (i : Nat) (u : Value) : Blk (w.setCell ⟨g, i, none⟩ u) g t (cs.setIfInBounds i u) := by
  unfold Blk at h ⊢
  simp [World.setCell, Array.getElem?_modify, h]
theorem Blk.far (h : Blk w g t cs) {p : Addr} (hp : g ≠ p.block) (u : Value) : Blk (w.setCell p u) g t cs := (Below.heap_setCell w p u g hp).trans h
theorem Blk.below {B : Nat} (h : Blk w g t cs) (hb : Below B w w') (hg : g < B) : Blk w' g t cs := (hb.block g hg).trans h
end

/-- n bytes as cells. -/
def bytes (n : Nat) (f : Nat → BitVec 8) : Array Value := ((List.range n).map fun i => Value.int .u8 (f i).toNat).toArray
def upd (f : Nat → BitVec 8) (k : Nat) (v : BitVec 8) : Nat → BitVec 8 := fun i => if i = k then v else f i
theorem bytes_size (n : Nat) (f : Nat → BitVec 8) : (bytes n f).size = n := by simp [bytes]
theorem bytes_get (n : Nat) (f : Nat → BitVec 8) (i : Nat) (h : i < n) : (bytes n f)[i]? = some (.int .u8 (f i).toNat) := by
  simp [bytes, h]
theorem bytes_ext {n : Nat} {f g : Nat → BitVec 8} (h : ∀ i, i < n → f i = g i) : bytes n f = bytes n g := by
  unfold bytes
  congr 1
  apply List.map_congr_left
  intro i hi
  rw [h i (List.mem_range.1 hi)]
theorem bytes_set (n : Nat) (f : Nat → BitVec 8) (k : Nat) (v : BitVec 8) : (bytes n f).setIfInBounds k (.int .u8 v.toNat) = bytes n (upd f k v) := by
  apply Array.ext_getElem?
  intro i
  rw [Array.getElem?_setIfInBounds, bytes_size]
  by_cases hi : i < n
  · rw [bytes_get n _ i hi, bytes_get n _ i hi]
    unfold upd
    by_cases e : k = i
    · subst e; simp [hi]
    · have e' : ¬ i = k := fun h => e h.symm
      simp [e, e']
  · have h1 : (bytes n f)[i]? = none := Array.getElem?_eq_none (by rw [bytes_size]; omega)
    have h2 : (bytes n (upd f k v))[i]? = none := Array.getElem?_eq_none (by rw [bytes_size]; omega)
    rw [h1, h2]
    by_cases e : k = i
    · subst e; simp [hi]
    · simp [e]
end Go.Proofs.YtlpbbihjnmikkaaGreatDoor.Blo

set_option maxRecDepth 100000
namespace Go.Proofs.YtlpbbihjnmikkaaGreatDoor.Blo
open Go.RowKit Gf

theorem size310 : (Tryz.prog.info? 310).map (·.size) = some 16 := by kernel_rfl
theorem Blk.row_same {w : World} {g : Nat} {t : TypeId} {cs : Array Value} (h : Blk w g t cs) (ds : Array Value) : Blk (w.setRow g ds) g t ds := by
  unfold Blk at h ⊢
  exact setRow_heap w g _ ds t _ h
theorem Blk.row_other {w : World} {g : Nat} {t : TypeId} {cs : Array Value} (h : Blk w g t cs) {g' : Nat} (hne : g ≠ g') (ds : Array Value) : Blk (w.setRow g' ds) g t cs := by
  unfold Blk at h ⊢
  rw [setRow_other w g' g ds hne, h]

section
variable {ops : Array Oper} {rest : List Oper} {o : Oper} {a : Act} {w : World} {Q : Exit → Act → World → Prop}
theorem load_blk (hgd : o.guard = none) (x : Operand) (ho : o.op = .load 310 x) (g : Nat) (hx : a.eval x = .pointer (some ⟨g, 0, none⟩)) (f : Bf) (hb : Blk w g 310 (bytes 16 f))
    (h : wpList Tryz.prog ops Q rest (a.put o.dst (.agg (bytes 16 f))) w) : wpList Tryz.prog ops Q (o :: rest) a w :=
  wpList_load_row hgd 310 x ho g hx 310 _ (0, 0) _ hb Tryz.underlying310 rfl (by rw [size310, bytes_size]) h
theorem store_blk (hgd : o.guard = none) (x y : Operand) (ho : o.op = .store 310 x y) (g : Nat) (f f0 : Bf) (hx : a.eval x = .pointer (some ⟨g, 0, none⟩)) (hy : a.eval y = .agg (bytes 16 f))
    (hb : Blk w g 310 (bytes 16 f0)) (h : wpList Tryz.prog ops Q rest (a.put o.dst undef) (w.setRow g (bytes 16 f))) : wpList Tryz.prog ops Q (o :: rest) a w :=
  wpList_store_row hgd 310 x y ho g _ hx hy 310 _ hb (by rw [size310, bytes_size]) (by rw [bytes_size, bytes_size])
    (by rw [Array.all_eq_true_iff_forall_mem]; intro v hv; simp [bytes] at hv; obtain ⟨i, _, rfl⟩ := hv; rfl) h
end
theorem result_blk {fn : Func} {p : Tmp} (h : fn.results = #[.cell p 310]) (tmps : Array Value) (w : World) (g : Nat) (f : Bf) (hp : tmps.getD p undef = .pointer (some ⟨g, 0, none⟩)) (hb : Blk w g 310 (bytes 16 f)) :
    (results fn tmps).run Tryz.prog w = .ok (.agg (bytes 16 f)) w :=
  results_cell_row h tmps w g 310 _ (0, 0) _ hp hb Tryz.underlying310 rfl (by rw [size310, bytes_size])

def xorTo (f g : Bf) (k : Nat) : Bf := fun i => if i < k then f i ^^^ g i else f i
structure XorRel (f g : Bf) (w : World) (k : Nat) (w' : World) : Prop where
  a : Blk w' w.heap.size 310 (bytes 16 (xorTo f g k))
  b : Blk w' (w.heap.size + 1) 310 (bytes 16 g)
  c : Blk w' (w.heap.size + 1 + 1) 310 (bytes 16 fun _ => 0#8)
  bel : Below w.heap.size w w'

theorem bits_xor8 (x y : BitVec 8) : bits .xor .u8 (x.toNat : Int) (y.toNat : Int) = ((x ^^^ y).toNat : Int) := by
  rw [u8_xor_nat _ _ x.isLt y.isLt, BitVec.toNat_xor]
theorem XorRel.start (f g : Bf) (w : World) : XorRel f g w 0 (((w.alloc (.cells (bytes 16 f) 310)).alloc (.cells (bytes 16 g) 310)).alloc (.cells (bytes 16 fun _ => 0#8) 310)) := by
  have s1 : (w.alloc (.cells (bytes 16 f) 310)).heap.size = w.heap.size + 1 := by simp
  have s2 : ((w.alloc (.cells (bytes 16 f) 310)).alloc (.cells (bytes 16 g) 310)).heap.size = w.heap.size + 1 + 1 := by simp
  refine ⟨?_, ?_, ?_, ?_⟩
  · have e : bytes 16 (xorTo f g 0) = bytes 16 f := bytes_ext fun i _ => by simp [xorTo]
    rw [e]
    exact ((Blk.new w 310 _).alloc _).alloc _
  · have := (Blk.new (w.alloc (.cells (bytes 16 f) 310)) 310 (bytes 16 g)).alloc (.cells (bytes 16 fun _ => 0#8) 310)
    rwa [s1] at this
  · have := Blk.new ((w.alloc (.cells (bytes 16 f) 310)).alloc (.cells (bytes 16 g) 310)) 310 (bytes 16 fun _ => 0#8)
    rwa [s2] at this
  · exact (((Below.refl _ _).alloc (Nat.le_refl _) _).alloc (by simp) _).alloc (by simp; omega) _
theorem XorRel.step {f g : Bf} {w w1 : World} {k : Nat} (h : XorRel f g w k w1) : XorRel f g w (k + 1) (w1.setCell ⟨w.heap.size, k, none⟩ (.int .u8 (xorTo f g k k ^^^ g k).toNat)).drew := by
  refine ⟨?_, (h.b.far (by simp) _).drew, (h.c.far (by simp; omega) _).drew, (h.bel.setCell (by simp) _).drew⟩
  have := (h.a.set_ k (.int .u8 (xorTo f g k k ^^^ g k).toNat)).drew
  rw [bytes_set] at this
  refine (show bytes 16 (xorTo f g (k + 1)) = bytes 16 (upd (xorTo f g k) k (xorTo f g k k ^^^ g k)) from bytes_ext fun i _ => ?_) ▸ this
  unfold upd xorTo
  by_cases e : i = k
  · subst e; simp
  · by_cases e1 : i < k
    · simp [e, e1, show i < k + 1 by omega]
    · simp [e, e1, show ¬ i < k + 1 by omega]

set_option maxHeartbeats 400000 in
theorem xor_any (f g : Bf) (w : World) :
    Calls Tryz.prog 252 #[.agg (bytes 16 f), .agg (bytes 16 g)] w fun e w' => e = .returned (.agg (bytes 16 fun i => f i ^^^ g i)) ∧ Below w.heap.size w w' := by
  go_enter Tryz.func252, Tryz.ntmps252
  go_wp2
  go_loopw [6] (fun i w' => ∃ k : Nat, k ≤ 16 ∧ i = .int .i64 k ∧ XorRel f g w k w') (fun i _ => 16 - (intOf i).toNat)
  case atStart => exact ⟨0, by omega, rfl, XorRel.start f g w⟩
  case round =>
    obtain ⟨k, hk, rfl, hr⟩ := hrel
    by_cases hlt : k < 16
    · have hc1 : wr.cell? ⟨w.heap.size, k, none⟩ = some (.int .u8 (xorTo f g k k).toNat) := by rw [hr.a.cell, bytes_get _ _ _ hlt]
      have hc2 : wr.cell? ⟨w.heap.size + 1, k, none⟩ = some (.int .u8 (g k).toNat) := by rw [hr.b.cell, bytes_get _ _ _ hlt]
      have hf1 : wr.frozen? ⟨w.heap.size, k, none⟩ = false := hr.a.frozen k
      have hb := bits_xor8 (xorTo f g k k) (g k)
      go_wp2
      go_still_tail 8, (by kernel_rfl)
      go_wp2
      exact ⟨⟨k + 1, by omega, by go_num, hr.step⟩, by simp [intOf]; omega⟩
    · obtain rfl : k = 16 := by omega
      go_wp2_with (first | (with_reducible refine load_blk rfl (.tmp 2) rfl w.heap.size rfl _ hr.a ?_) | (with_reducible refine store_blk rfl (.tmp 4) (.tmp 18) rfl (w.heap.size + 1 + 1) _ _ rfl rfl hr.c ?_))
      have e : bytes 16 (xorTo f g 16) = bytes 16 fun i => f i ^^^ g i := bytes_ext fun i hi => by simp [xorTo, hi]
      rw [← e]
      exact bodyPost_ret (result_blk rfl _ _ (w.heap.size + 1 + 1) _ rfl (hr.c.row_same _)) rfl ⟨rfl, below_setRow hr.bel (by omega) _⟩

end Go.Proofs.YtlpbbihjnmikkaaGreatDoor.Blo
