/-
  PLAIN LAWS of a product over bits: 'mulG T bit m a b' is the sum of the T-powers of b that a's bits name. If T is linear, and every element is the sum of the T-powers of 'one' that its bits name, then the product spreads over XOR on both sides, turns round, is put together either way, and 'one' is its one. No program in sight.
-/
namespace Go.Proofs.Ythjigmfooobfmab.Gf

def sumTo {n : Nat} : Nat → (Nat → BitVec n) → BitVec n
  | 0, _ => 0#n
  | k + 1, f => sumTo k f ^^^ f k
def pw {n : Nat} (T : BitVec n → BitVec n) : Nat → BitVec n → BitVec n
  | 0, b => b
  | k + 1, b => T (pw T k b)
def sel {n : Nat} (c : Bool) (b : BitVec n) : BitVec n := bif c then b else 0#n
def mulG {n : Nat} (T : BitVec n → BitVec n) (bit : BitVec n → Nat → Bool) (m : Nat) (a b : BitVec n) : BitVec n := sumTo m fun i => sel (bit a i) (pw T i b)

def Lin {n : Nat} (T : BitVec n → BitVec n) : Prop := ∀ x y, T (x ^^^ y) = T x ^^^ T y

variable {n : Nat}

theorem xor4 (a b c d : BitVec n) : (a ^^^ b) ^^^ (c ^^^ d) = (a ^^^ c) ^^^ (b ^^^ d) := by
  rw [BitVec.xor_assoc, BitVec.xor_assoc, ← BitVec.xor_assoc b c d, BitVec.xor_comm b c, BitVec.xor_assoc c b d]

theorem Lin.zero {T : BitVec n → BitVec n} (h : Lin T) : T 0#n = 0#n := by
  have := h 0#n 0#n
  simpa using this

theorem Lin.sel {T : BitVec n → BitVec n} (h : Lin T) (c : Bool) (x : BitVec n) : T (sel c x) = sel c (T x) := by
  cases c
  · exact h.zero
  · rfl

theorem pw_lin {T : BitVec n → BitVec n} (h : Lin T) (k : Nat) : Lin (pw T k) := by
  induction k with
  | zero => intro x y; rfl
  | succ k ih => intro x y; show T (pw T k (x ^^^ y)) = T (pw T k x) ^^^ T (pw T k y); rw [ih x y, h]

theorem pw_shift (T : BitVec n → BitVec n) (k : Nat) (b : BitVec n) : pw T k (T b) = T (pw T k b) := by
  induction k with
  | zero => rfl
  | succ k ih => show T (pw T k (T b)) = T (T (pw T k b)); rw [ih]

theorem pw_add (T : BitVec n → BitVec n) (i j : Nat) (b : BitVec n) : pw T i (pw T j b) = pw T (i + j) b := by
  induction i with
  | zero => rw [Nat.zero_add]; rfl
  | succ i ih => rw [Nat.succ_add]; show T (pw T i (pw T j b)) = T (pw T (i + j) b); rw [ih]

theorem sumTo_congr {k : Nat} {f g : Nat → BitVec n} (h : ∀ i, i < k → f i = g i) : sumTo k f = sumTo k g := by
  induction k with
  | zero => rfl
  | succ k ih => show sumTo k f ^^^ f k = sumTo k g ^^^ g k; rw [ih fun i hi => h i (Nat.lt_succ_of_lt hi), h k (Nat.lt_succ_self k)]

theorem sumTo_xor (k : Nat) (f g : Nat → BitVec n) : sumTo k (fun i => f i ^^^ g i) = sumTo k f ^^^ sumTo k g := by
  induction k with
  | zero => simp [sumTo]
  | succ k ih => show sumTo k (fun i => f i ^^^ g i) ^^^ (f k ^^^ g k) = (sumTo k f ^^^ f k) ^^^ (sumTo k g ^^^ g k); rw [ih, xor4]

theorem sumTo_zero (k : Nat) : sumTo k (fun _ => 0#n) = 0#n := by
  induction k with
  | zero => rfl
  | succ k ih => show sumTo k (fun _ => 0#n) ^^^ 0#n = 0#n; rw [ih]; simp

theorem sumTo_lin {m : Nat} (T : BitVec n → BitVec m) (h : ∀ x y, T (x ^^^ y) = T x ^^^ T y) (k : Nat) (f : Nat → BitVec n) : T (sumTo k f) = sumTo k (fun i => T (f i)) := by
  induction k with
  | zero =>
    have h0 := h 0#n 0#n
    simpa [sumTo] using h0
  | succ k ih => show T (sumTo k f ^^^ f k) = sumTo k (fun i => T (f i)) ^^^ T (f k); rw [h, ih]

theorem sumTo_comm (k m : Nat) (f : Nat → Nat → BitVec n) : sumTo k (fun i => sumTo m (fun j => f i j)) = sumTo m (fun j => sumTo k (fun i => f i j)) := by
  induction k with
  | zero => exact (sumTo_zero m).symm
  | succ k ih =>
    show sumTo k (fun i => sumTo m (fun j => f i j)) ^^^ sumTo m (fun j => f k j) = sumTo m (fun j => sumTo k (fun i => f i j) ^^^ f k j)
    rw [ih, sumTo_xor]

theorem sel_xor (c : Bool) (x y : BitVec n) : sel c (x ^^^ y) = sel c x ^^^ sel c y := by
  cases c
  · simp [sel]
  · rfl
theorem sel_bxor (c d : Bool) (x : BitVec n) : sel (c ^^ d) x = sel c x ^^^ sel d x := by
  cases c <;> cases d <;> simp [sel]
theorem sel_sel (c d : Bool) (x : BitVec n) : sel c (sel d x) = sel d (sel c x) := by
  cases c <;> cases d <;> rfl
theorem sel_sum (c : Bool) (k : Nat) (f : Nat → BitVec n) : sel c (sumTo k f) = sumTo k (fun i => sel c (f i)) :=
  sumTo_lin (sel c) (sel_xor c) k f

section
variable {T : BitVec n → BitVec n} {bit : BitVec n → Nat → Bool} {m : Nat} {one : BitVec n}

theorem mulG_add_right (hT : Lin T) (a b c : BitVec n) : mulG T bit m a (b ^^^ c) = mulG T bit m a b ^^^ mulG T bit m a c := by
  unfold mulG
  rw [← sumTo_xor]
  exact sumTo_congr fun i _ => by rw [pw_lin hT i b c, sel_xor]

theorem mulG_add_left (hb : ∀ x y i, bit (x ^^^ y) i = (bit x i ^^ bit y i)) (a b c : BitVec n) : mulG T bit m (a ^^^ b) c = mulG T bit m a c ^^^ mulG T bit m b c := by
  unfold mulG
  rw [← sumTo_xor]
  exact sumTo_congr fun i _ => by rw [hb, sel_bxor]

theorem mulG_T (hT : Lin T) (a b : BitVec n) : mulG T bit m a (T b) = T (mulG T bit m a b) := by
  unfold mulG
  rw [sumTo_lin T hT]
  exact sumTo_congr fun i _ => by rw [hT.sel, pw_shift]

theorem mulG_pw (hT : Lin T) (a b : BitVec n) (k : Nat) : mulG T bit m a (pw T k b) = pw T k (mulG T bit m a b) := by
  induction k with
  | zero => rfl
  | succ k ih => show mulG T bit m a (T (pw T k b)) = T (pw T k (mulG T bit m a b)); rw [mulG_T hT, ih]

theorem mulG_one (basis : ∀ b : BitVec n, sumTo m (fun i => sel (bit b i) (pw T i one)) = b) (a : BitVec n) : mulG T bit m a one = a := basis a

theorem mulG_comm (hT : Lin T) (basis : ∀ b : BitVec n, sumTo m (fun i => sel (bit b i) (pw T i one)) = b) (a b : BitVec n) : mulG T bit m a b = mulG T bit m b a := by
  have key : ∀ a b : BitVec n, mulG T bit m a b = sumTo m (fun i => sumTo m (fun j => sel (bit a i) (sel (bit b j) (pw T (i + j) one)))) := by
    intro a b
    unfold mulG
    apply sumTo_congr
    intro i _
    conv => lhs; rw [← basis b]
    rw [sumTo_lin _ (pw_lin hT i), sel_sum]
    exact sumTo_congr fun j _ => by rw [(pw_lin hT i).sel, pw_add]
  rw [key a b, key b a, sumTo_comm]
  exact sumTo_congr fun j _ => sumTo_congr fun i _ => by rw [sel_sel, Nat.add_comm]

theorem mulG_assoc (hT : Lin T) (basis : ∀ b : BitVec n, sumTo m (fun i => sel (bit b i) (pw T i one)) = b) (a b c : BitVec n) :
    mulG T bit m (mulG T bit m a b) c = mulG T bit m a (mulG T bit m b c) := by
  rw [mulG_comm hT basis (mulG T bit m a b) c]
  have e : ∀ x, mulG T bit m c (mulG T bit m x b) = mulG T bit m x (mulG T bit m c b) := by
    intro x
    show mulG T bit m c (sumTo m fun i => sel (bit x i) (pw T i b)) = sumTo m fun i => sel (bit x i) (pw T i (mulG T bit m c b))
    have hl : Lin (mulG T bit m c) := fun u v => mulG_add_right hT c u v
    rw [sumTo_lin _ hl]
    exact sumTo_congr fun i _ => by rw [hl.sel, mulG_pw hT]
  rw [e a, mulG_comm hT basis c b]

theorem mulG_zero (hT : Lin T) (a : BitVec n) : mulG T bit m a 0#n = 0#n :=
  Lin.zero (T := mulG T bit m a) (fun u v => mulG_add_right hT a u v)
end

end Go.Proofs.Ythjigmfooobfmab.Gf
