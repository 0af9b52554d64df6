/-
  Joined: ExeU, ExeV, ExeX
-/
import Derived.Test.YtlpbbihjnmikkaaGreatDoorJ07
import Derived.IntWalk
import Derived.Deep.Upon
namespace Go.Proofs.YtlpbbihjnmikkaaGreatDoor.Exe
set_option linter.unusedSimpArgs false

section
variable {P : Program} {L : Lore} {ν : Nu} {h : Heap D} {W : World} {env : Env}
theorem pureRun_run {α : Type} (P : Program) (W : World) (m : Sem α) (a : α) (hm : pureRun P m = some a) : m.run P W = .ok a W := by
  induction m with
  | pure b => cases hm; rfl
  | program k ih => exact ih P hm
  | mark x k ih => exact ih hm
  | _ => cases hm
theorem flatOf_sim (hok : Ok P L ν h W) {m : Sem Value} {o : Option Value} (ho : ∀ r, o = some r → m.run P W = .ok r W) : SimAt P L ν h W (flatOf o) (valS m) := by
  unfold flatOf
  split
  · rename_i r
    split
    · rename_i c hc
      exact SimAt.val1 (run_valS (ho r rfl)) hok (cellOf_rep ν hc)
    · exact SimAt.bad _ _
  · exact SimAt.bad _ _
theorem flatRun_sim (hok : Ok P L ν h W) {x : Env → Slot} {m : Value → Sem Value} {v : Value} (hx : RepS ν (x env) v) : SimAt P L ν h W (flatRun P x m env) (valS (m v)) := by
  unfold flatRun
  split
  · rename_i u hu
    rw [slotV_eq hu hx]
    exact flatOf_sim hok fun r hr => pureRun_run P W _ r hr
  · exact SimAt.bad _ _
def guarded (op : BinOp) (t : TypeId) (x y : Operand) (a b : Value) : Sem Value := do eqGuard op t x y a b; binOp op t a b
theorem run_guarded_int (op : BinOp) (t : TypeId) (x y : Operand) (k : IntKind) (a b : Int) {r : Value} (hr : (binOp op t (.int k a) (.int k b)).run P W = .ok r W) : (guarded op t x y (.int k a) (.int k b)).run P W = .ok r W := by
  unfold guarded eqGuard
  rw [Sem.run_bind]
  cases op <;> simp [Sem.run_bind, hr]
theorem small_sim (hok : Ok P L ν h W) {n : Nat} {slow : M D Nx} {q : Sem Next} (hs : SimAt P L ν h W slow q) (hq : n < 9223372036854775808 → q.run P W = .ok (.value (.int .i64 (.ofNat n))) W) : SimAt P L ν h W (small n slow) q := by
  unfold small
  rw [force_eq]
  cases hb : Nat.blt n 9223372036854775808 with
  | false => exact hs
  | true =>
    have hn : n < 9223372036854775808 := by simpa [Nat.blt_eq] using hb
    exact SimAt.val1 (hq hn) hok (.nat n hn)
theorem ints_sim {f : Nat → Nat → M D Nx → M D Nx} {slow : Do} {x y : Env → Slot} {v u : Value} {q : Sem Next} (hx : RepS ν (x env) v) (hy : RepS ν (y env) u) (hs : SimAt P L ν h W (slow env) q)
    (hf : ∀ m n, m < 9223372036854775808 → n < 9223372036854775808 → v = .int .i64 (.ofNat m) → u = .int .i64 (.ofNat n) → SimAt P L ν h W (f m n (slow env)) q) : SimAt P L ν h W (ints f slow x y env) q := by
  unfold ints
  generalize x env = sx at hx
  generalize y env = sy at hy
  cases hx with
  | one hc =>
    cases hc with
    | nat m hm =>
      cases hy with
      | one hd =>
        cases hd with
        | nat n hn => exact hf m n hm hn rfl rfl
        | _ => exact hs
      | _ => exact hs
    | _ => exact hs
  | _ => exact hs
/-- A thing that is there, and none. -/
inductive NilPair : TypeDesc → Value → Value → Prop where
  | p1 (e : TypeId) (a : Addr) : NilPair (.pointer e) (.pointer (some a)) (.pointer none)
  | p2 (e : TypeId) (a : Addr) : NilPair (.pointer e) (.pointer none) (.pointer (some a))
  | s1 (e : TypeId) (a : Addr) (n c n' c' : Nat) : NilPair (.slice e) (.slice (some a) n c) (.slice none n' c')
  | s2 (e : TypeId) (a : Addr) (n c n' c' : Nat) : NilPair (.slice e) (.slice none n' c') (.slice (some a) n c)
  | m1 (k e : TypeId) (r : Nat) : NilPair (.map k e) (.map (some r)) (.map none)
  | m2 (k e : TypeId) (r : Nat) : NilPair (.map k e) (.map none) (.map (some r))
theorem NilPair.equalIn {t : TypeId} {d : TypeDesc} {v u : Value} (hd : P.underlying t = some d) (hp : NilPair d v u) (n : Nat) : (Op.equalIn (n + 1) t v u).run P W = .ok false W := by
  cases hp <;> simp [Op.equalIn, run_underlying hd]
theorem NilPair.equal {t : TypeId} {d : TypeDesc} {v u : Value} (hd : P.underlying t = some d) (hp : NilPair d v u) : (Op.equal t v u).run P W = .ok false W := hp.equalIn hd 9999
theorem NilPair.guard {d : TypeDesc} {v u : Value} (hp : NilPair d v u) (op : BinOp) (t : TypeId) (x y : Operand) : (eqGuard op t x y v u).run P W = .ok () W := by
  cases hp <;> cases op <;> simp [eqGuard]
theorem NilPair.eql {d : TypeDesc} {v u : Value} (hp : NilPair d v u) (t : TypeId) : binOp .eql t v u = (do pure (.bool (← Op.equal t v u))) := by cases hp <;> rfl
theorem NilPair.neq {d : TypeDesc} {v u : Value} (hp : NilPair d v u) (t : TypeId) : binOp .neq t v u = (do pure (.bool (!(← Op.equal t v u)))) := by cases hp <;> rfl
theorem nilEq_pair {d : TypeDesc} {s r : Slot} {v u : Value} (hn : nilEq d s r = true) (hs : RepS ν s v) (hr : RepS ν r u) : NilPair d v u := by
  unfold nilEq at hn
  split at hn
  · cases hs with
    | one h1 => cases hr with
      | one h2 => cases h1; cases h2; cases d <;> simp at hn; exact .p1 _ _
  · cases hs with
    | one h1 => cases hr with
      | one h2 => cases h1; cases h2; cases d <;> simp at hn; exact .p2 _ _
  · cases hs with
    | one h1 => cases hr with
      | one h2 =>
        cases h2
        cases d <;> simp at hn
        cases h1
        · exact .s1 _ _ _ _ _ _
        · exact .s1 _ _ _ _ _ _
  · cases hs with
    | one h1 => cases hr with
      | one h2 =>
        cases h1
        cases d <;> simp at hn
        cases h2
        · exact .s2 _ _ _ _ _ _
        · exact .s2 _ _ _ _ _ _
  · cases hs with
    | one h1 => cases hr with
      | one h2 => cases h1; cases h2; cases d <;> simp at hn; exact .m1 _ _ _
  · cases hs with
    | one h1 => cases hr with
      | one h2 => cases h1; cases h2; cases d <;> simp at hn; exact .m2 _ _ _
  · cases hn
theorem eqNil_sim (hok : Ok P L ν h W) (t : TypeId) {s r : Slot} {v u : Value} (hs : RepS ν s v) (hr : RepS ν r u) {b : Bool} {op : BinOp} (hop : (op = .eql ∧ b = false) ∨ (op = .neq ∧ b = true)) (x y : Operand) :
    SimAt P L ν h W (eqNil P t s r b) (valS (guarded op t x y v u)) := by
  unfold eqNil
  split
  · exact SimAt.bad _ _
  · rename_i d hd
    refine SimAt.chk fun hn => SimAt.val1 (run_valS (v := .bool b) ?_) hok (.bool b)
    have hp := nilEq_pair hn hs hr
    unfold guarded
    rcases hop with ⟨rfl, rfl⟩ | ⟨rfl, rfl⟩
    · rw [Sem.run_bind, hp.guard, hp.eql]
      simp only [Result.andThen_ok, Sem.run_bind, hp.equal hd, Sem.run_pure]
    · rw [Sem.run_bind, hp.guard, hp.neq]
      simp only [Result.andThen_ok, Sem.run_bind, hp.equal hd, Sem.run_pure, Bool.not_false]
theorem slowK_sim (hok : Ok P L ν h W) (op : BinOp) (t : TypeId) (x y : Operand) {f g : Env → Slot} {v u : Value} (hf : RepS ν (f env) v) (hg : RepS ν (g env) u) : SimAt P L ν h W (slowK P op t x y f g env) (valS (guarded op t x y v u)) := by
  unfold slowK
  split
  · rename_i a b ha hb
    rw [slotV_eq ha hf, slotV_eq hb hg]
    exact flatOf_sim hok fun r hr => pureRun_run P W _ r hr
  · split
    · exact eqNil_sim hok t hf hg (.inl ⟨rfl, rfl⟩) x y
    · exact eqNil_sim hok t hf hg (.inr ⟨rfl, rfl⟩) x y
    · exact SimAt.bad _ _
theorem run_guarded_str (op : BinOp) (t : TypeId) (x y : Operand) (a b : ByteArray) {r : Value} (hr : (binOp op t (.string a) (.string b)).run P W = .ok r W) : (guarded op t x y (.string a) (.string b)).run P W = .ok r W := by
  unfold guarded eqGuard
  rw [Sem.run_bind]
  cases op <;> simp [Sem.run_bind, hr]
theorem tokCmp_sim (hok : Ok P L ν h W) (op : BinOp) (t : TypeId) (x y : Operand) {s r : Slot} {v u : Value} (hs : RepS ν s v) (hr : RepS ν r u) : SimAt P L ν h W (tokCmp op s r) (valS (guarded op t x y v u)) := by
  unfold tokCmp
  refine SimAt.asTok hs fun k o e hk => SimAt.rdD hok fun d v' o' e' hk' hc => ?_
  rw [hk] at hk'
  cases hk'
  cases isTok r with
  | false =>
    refine SimAt.asNat hr fun n hn eu => ?_
    cases hd : hCmp op d n with
    | none => exact SimAt.bad _ _
    | some b =>
      obtain ⟨m, ev, hb⟩ := L.cmp_ok hd hc
      subst eu
      subst ev
      exact SimAt.val1 (v := .bool b) (run_valS (run_guarded_int op t x y .i64 _ _ (hb P W t))) hok (.bool b)
  | true =>
    refine SimAt.asTok hr fun k' o' e' hk' => SimAt.rdD hok fun d' u' o'' e'' hk'' hc' => ?_
    rw [hk'] at hk''
    cases hk''
    split
    · rename_i b hb
      obtain ⟨a, c, rfl, rfl, hac⟩ := L.eq_ok hb hc hc'
      refine SimAt.val1 (v := .bool b) (run_valS (run_guarded_str .eql t x y a c ?_)) hok (.bool b)
      rw [← hac]
      rfl
    · rename_i b hb
      obtain ⟨a, c, rfl, rfl, hac⟩ := L.eq_ok hb hc hc'
      refine SimAt.val1 (v := .bool (!b)) (run_valS (run_guarded_str .neq t x y a c ?_)) hok (.bool (!b))
      rw [← hac]
      rfl
    · exact SimAt.bad _ _
theorem slowC_sim (hok : Ok P L ν h W) (op : BinOp) (t : TypeId) (x y : Operand) {f g : Env → Slot} {v u : Value} (hf : RepS ν (f env) v) (hg : RepS ν (g env) u) : SimAt P L ν h W (slowC P op t x y f g env) (valS (guarded op t x y v u)) := by
  unfold slowC
  cases isTok (f env) with
  | false => exact slowK_sim hok op t x y hf hg
  | true => exact tokCmp_sim hok op t x y hf hg
theorem binW_sim (hok : Ok P L ν h W) (op : BinOp) (t : TypeId) (x y : Operand) {f g : Env → Slot} {v u : Value} (hf : RepS ν (f env) v) (hg : RepS ν (g env) u) : SimAt P L ν h W ((binW P op t x y f g : WD).out env) (valS (guarded op t x y v u)) := by
  have hslow := fun op => slowC_sim hok op t x y hf hg
  have hnum : ∀ (op : BinOp) (a b : Int) (r : Value), (binOp op t (.int .i64 a) (.int .i64 b)).run P W = .ok r W → (valS (guarded op t x y (.int .i64 a) (.int .i64 b))).run P W = .ok (.value r) W := fun op a b r hr => run_valS (run_guarded_int op t x y .i64 a b hr)
  unfold binW
  split
  · refine ints_sim hf hg (hslow _) fun m n hm hn ev eu => small_sim hok (hslow _) fun hlt => ?_
    subst ev eu
    refine hnum _ _ _ _ ?_
    have hw := IntWalk.i64_in ((m : Int) + (n : Int)) (by have : m + n < 9223372036854775808 := hlt; omega)
    simp only [binOp, ne_eq, not_true_eq_false, if_false, Op.intArith, Int.ofNat_eq_natCast, hw]
    rfl
  · refine ints_sim hf hg (hslow _) fun m n hm hn ev eu => ?_
    unfold subF
    cases hb : Nat.ble n m with
    | false => exact hslow _
    | true =>
      have hle : n ≤ m := Nat.le_of_ble_eq_true hb
      refine small_sim hok (hslow _) fun hlt => ?_
      subst ev eu
      refine hnum _ _ _ _ ?_
      have hw := IntWalk.i64_in ((m : Int) - (n : Int)) (by omega)
      have e : (m : Int) - (n : Int) = Int.ofNat (Nat.sub m n) := by
        show (m : Int) - (n : Int) = ((m - n : Nat) : Int)
        omega
      simp only [binOp, ne_eq, not_true_eq_false, if_false, Op.intArith, Int.ofNat_eq_natCast, hw]
      rw [e]
      rfl
  · refine ints_sim hf hg (hslow _) fun m n hm hn ev eu => small_sim hok (hslow _) fun hlt => ?_
    subst ev eu
    refine hnum _ _ _ _ ?_
    have hlt' : ((m * n : Nat) : Int) < 9223372036854775808 := by have : m * n < 9223372036854775808 := hlt; omega
    rw [Int.natCast_mul] at hlt'
    have hpos : (0 : Int) ≤ (m : Int) * (n : Int) := by rw [← Int.natCast_mul]; omega
    have hw := IntWalk.i64_in ((m : Int) * (n : Int)) (by omega)
    simp only [binOp, ne_eq, not_true_eq_false, if_false, Op.intArith, Int.ofNat_eq_natCast, hw]
    rfl
  · refine ints_sim hf hg (hslow _) fun m n hm hn ev eu => SimAt.val1 (v := .bool (Nat.beq m n)) ?_ hok (.bool _)
    subst ev eu
    refine hnum _ _ _ _ ?_
    have e : ((Int.ofNat m == Int.ofNat n) : Bool) = Nat.beq m n := by
      by_cases hmn : m = n
      · subst hmn; simp
      · have : Nat.beq m n = false := by rw [Bool.eq_false_iff]; exact fun h => hmn (Nat.eq_of_beq_eq_true h)
        rw [this]
        simp
        omega
    simp only [binOp, ne_eq, not_true_eq_false, if_false, Op.intCmp, e]
    rfl
  · refine ints_sim hf hg (hslow _) fun m n hm hn ev eu => SimAt.val1 (v := .bool (Bool.rec true false (Nat.beq m n))) ?_ hok (.bool _)
    subst ev eu
    refine hnum _ _ _ _ ?_
    have e : ((Int.ofNat m != Int.ofNat n) : Bool) = Bool.rec true false (Nat.beq m n) := by
      by_cases hmn : m = n
      · subst hmn; simp
      · have : Nat.beq m n = false := by rw [Bool.eq_false_iff]; exact fun h => hmn (Nat.eq_of_beq_eq_true h)
        rw [this]
        simp
        omega
    simp only [binOp, ne_eq, not_true_eq_false, if_false, Op.intCmp, e]
    rfl
  all_goals try exact hslow _
  · refine ints_sim hf hg (hslow _) fun m n hm hn ev eu => SimAt.val1 (v := .bool (Nat.blt m n)) ?_ hok (.bool _)
    subst ev eu
    refine hnum _ _ _ _ ?_
    have e : (decide (Int.ofNat m < Int.ofNat n) : Bool) = Nat.blt m n := by
      have h2 : (Nat.blt m n = true) ↔ m < n := by simp [Nat.blt_eq]
      rw [Bool.eq_iff_iff, h2]
      simp
    simp only [binOp, ne_eq, not_true_eq_false, if_false, Op.intCmp, e]
    rfl
  · refine ints_sim hf hg (hslow _) fun m n hm hn ev eu => SimAt.val1 (v := .bool (Nat.ble m n)) ?_ hok (.bool _)
    subst ev eu
    refine hnum _ _ _ _ ?_
    have e : (decide (Int.ofNat m ≤ Int.ofNat n) : Bool) = Nat.ble m n := by
      have h2 : (Nat.ble m n = true) ↔ m ≤ n := by simp [Nat.ble_eq]
      rw [Bool.eq_iff_iff, h2]
      simp
    simp only [binOp, ne_eq, not_true_eq_false, if_false, Op.intCmp, e]
    rfl
  · refine ints_sim hf hg (hslow _) fun m n hm hn ev eu => SimAt.val1 (v := .bool (Nat.blt n m)) ?_ hok (.bool _)
    subst ev eu
    refine hnum _ _ _ _ ?_
    have e : (decide (Int.ofNat m > Int.ofNat n) : Bool) = Nat.blt n m := by
      have h2 : (Nat.blt n m = true) ↔ n < m := by simp [Nat.blt_eq]
      rw [Bool.eq_iff_iff, h2]
      simp
    simp only [binOp, ne_eq, not_true_eq_false, if_false, Op.intCmp, e]
    rfl
  · refine ints_sim hf hg (hslow _) fun m n hm hn ev eu => SimAt.val1 (v := .bool (Nat.ble n m)) ?_ hok (.bool _)
    subst ev eu
    refine hnum _ _ _ _ ?_
    have e : (decide (Int.ofNat m ≥ Int.ofNat n) : Bool) = Nat.ble n m := by
      have h2 : (Nat.ble n m = true) ↔ n ≤ m := by simp [Nat.ble_eq]
      rw [Bool.eq_iff_iff, h2]
      simp
    simp only [binOp, ne_eq, not_true_eq_false, if_false, Op.intCmp, e]
    rfl
theorem convT_sim (hok : Ok P L ν h W) {s d e : TypeId} (hd : P.underlying d = some .string) (hs : P.underlying s = some (.slice e)) (he : P.underlying e = some (.int .u8)) {x : Env → Slot} {v : Value} (hx : RepS ν (x env) v) : SimAt P L ν h W (convT P s d x env) (valS (convert s d v)) := by
  unfold convT
  cases isTok (x env) with
  | false => exact flatRun_sim (m := fun v => convert s d v) hok hx
  | true =>
    refine tokTo_sim hok hx fun w w' o e' hw hc => ?_
    obtain ⟨a, n, c, b, rfl, h1, h2⟩ := L.conv_ok hw hc
    refine ⟨.string b, run_valS ?_, rfl, h2⟩
    unfold convert
    simp only [Sem.run_bind, run_underlying hs, run_underlying hd, run_underlying he, Result.andThen_ok]
    exact h1 P
theorem convD_sim (hok : Ok P L ν h W) (s d : TypeId) {x : Env → Slot} {v : Value} (hx : RepS ν (x env) v) : SimAt P L ν h W ((convD P s d x : WD).out env) (valS (convert s d v)) := by
  have hslow := flatRun_sim (m := fun v => convert s d v) hok hx
  unfold convD
  split
  · rename_i hd
    split
    · rename_i k hs
      show SimAt P L ν h W (convI P s d x env) _
      unfold convI
      generalize hsx : x env = sx at hx
      cases hx with
      | one hc =>
        cases hc with
        | nat n hn =>
          refine SimAt.val1 (run_valS (v := .int .i64 (.ofNat n)) ?_) hok (.nat n hn)
          have hw := IntWalk.i64_in (n : Int) (by omega)
          simp [convert, run_underlying hs, run_underlying hd, Conv.intToInt, hw]
        | flat v hv => exact hslow
        | _ => exact SimAt.bad _ _
      | _ => exact SimAt.bad _ _
    · exact hslow
  · rename_i hd
    split
    · rename_i e hs
      split
      · rename_i he
        exact convT_sim hok hd hs he hx
      · exact hslow
    · exact hslow
  · exact hslow
end
end Go.Proofs.YtlpbbihjnmikkaaGreatDoor.Exe

namespace Go.Proofs.YtlpbbihjnmikkaaGreatDoor.Exe
set_option linter.unusedSimpArgs false

section
variable {P : Program} {L : Lore} {ν : Nu} {h : Heap D} {W : World} {ρ : Operand → Value} {env : Env}
/-- An operand that may be missing. -/
inductive OptRep (ν : Nu) (env : Env) : Option (Env → Slot) → Option Value → Prop where
  | none : OptRep ν env none none
  | some {f : Env → Slot} {v : Value} : RepS ν (f env) v → OptRep ν env (some f) (some v)
theorem optC_sim {x : Option Operand} {f : Option (Env → Slot) → WD} {q : Sem Next} (hx : ∀ y, x = some y → Says ν env ρ y) (hf : ∀ g, OptRep ν env g (x.map ρ) → (g = none ↔ x = none) → SimAt P L ν h W ((f g).out env) q) : SimAt P L ν h W ((optC x f).out env) q := by
  unfold optC
  cases x with
  | none => exact hf none .none (by simp)
  | some y => exact with1_sim (hx y rfl) fun g hg => hf (some g) (.some hg) (by simp)
theorem bound_sim {d : Nat} {x : Option (Env → Slot)} {f : Nat → M D Nx} {v : Option Value} {q : Sem Next} (hx : OptRep ν env x v) (h0 : v = none → SimAt P L ν h W (f d) q) (h1 : ∀ n, v = some (.int .i64 (.ofNat n)) → SimAt P L ν h W (f n) q) : SimAt P L ν h W (bound d env x f) q := by
  cases hx with
  | none => exact h0 rfl
  | some hs => exact SimAt.asNat hs fun m _ e => h1 m (by rw [e])
/-- A bound: missing, or a number that is not too great. -/
def BoundIs (v : Option Value) (d n : Nat) : Prop := (v = none ∧ n = d) ∨ v = some (.int .i64 (.ofNat n))
theorem bound_sim' {d : Nat} {x : Option (Env → Slot)} {f : Nat → M D Nx} {v : Option Value} {q : Sem Next} (hx : OptRep ν env x v) (hf : ∀ n, BoundIs v d n → SimAt P L ν h W (f n) q) : SimAt P L ν h W (bound d env x f) q :=
  bound_sim hx (fun e => hf d (.inl ⟨e, rfl⟩)) fun n e => hf n (.inr e)
theorem run_sliceBound (n y : Nat) (code : BoundsCode) (hn : n ≤ y) : (Instr.sliceBound (.int .i64 (n : Int)) y code).run P W = .ok n W := by
  have : (n : Int) ≤ (y : Int) := by omega
  simp [Instr.sliceBound, asIntOf, this]
theorem run_bounds (isSlice : Bool) (len cap : Nat) {low high max : Option Value} {l h m : Nat} (hm : BoundIs max cap m) (hmc : m ≤ cap) (hh : BoundIs high len h) (hmh : max = none ∨ high ≠ none) (hhm : high = none ∨ h ≤ m) (hl : BoundIs low 0 l) (hlh : l ≤ h) :
    (Instr.sliceBounds isSlice len cap low high max).run P W = .ok (l, h, m) W := by
  unfold Instr.sliceBounds
  rcases hm with ⟨rfl, rfl⟩ | rfl
  · rcases hh with ⟨rfl, rfl⟩ | rfl
    · rcases hl with ⟨rfl, rfl⟩ | rfl
      · simp
      · simp [run_sliceBound _ _ _ hlh]
    · have hhm' : h ≤ m := hhm.resolve_left (by simp)
      rcases hl with ⟨rfl, rfl⟩ | rfl
      · simp [run_sliceBound _ _ _ hhm']
      · simp [run_sliceBound _ _ _ hhm', run_sliceBound _ _ _ hlh]
  · rcases hh with ⟨rfl, rfl⟩ | rfl
    · simp at hmh
    · have hhm' : h ≤ m := hhm.resolve_left (by simp)
      rcases hl with ⟨rfl, rfl⟩ | rfl
      · simp [run_sliceBound _ _ _ hmc, run_sliceBound _ _ _ hhm']
      · simp [run_sliceBound _ _ _ hmc, run_sliceBound _ _ _ hhm', run_sliceBound _ _ _ hlh]
theorem cutX_sim (hok : Ok P L ν h W) {k off b room m l hi size : Nat} (hs : ν k = some (.blk b room)) {q : Sem Value} (hq : l ≤ hi → hi ≤ m → q.run P W = .ok (.slice (some (if m = l then ⟨b, off, none⟩ else (⟨b, off, none⟩ : Addr).add (l * size))) (hi - l) (m - l)) W) :
    SimAt P L ν h W (cutX k off m l hi size) (valS q) := by
  unfold cutX
  refine SimAt.chk fun hc => ?_
  simp only [Bool.and_eq_true] at hc
  have h1 : l ≤ hi := Nat.le_of_ble_eq_true hc.1
  have h2 : hi ≤ m := Nat.le_of_ble_eq_true hc.2
  have hq := hq h1 h2
  cases hb : Nat.beq m l with
  | false =>
    have hne : m ≠ l := fun e => by subst e; rw [Nat.beq_refl] at hb; cases hb
    rw [if_neg hne, Addr.add_eq] at hq
    exact SimAt.val1 (run_valS hq) hok (.row hs ⟨rfl, Nat.sub_le_sub_right h2 l⟩)
  | true =>
    have he : m = l := Nat.eq_of_beq_eq_true hb
    rw [if_pos he] at hq
    exact SimAt.val1 (run_valS hq) hok (.row hs ⟨rfl, Nat.sub_le_sub_right h2 l⟩)
theorem cutU_sim (hok : Ok P L ν h W) {k off n l hi size c' : Nat} {c : Cap} {v : Value} (hrow : (∃ b room, ν k = some (.blk b room) ∧ CapOk room off n c' c ∧ v = .slice (some ⟨b, off, none⟩) n c') ∨ (c = .lost ∧ n = 0 ∧ ∃ a, v = .slice (some a) 0 c')) (hne : ∀ x, c ≠ .exact x) {q : Sem Value}
    (hq : ∀ a, v = .slice (some a) n c' → l ≤ hi → hi ≤ c' → q.run P W = .ok (.slice (some (if c' = l then a else a.add (l * size))) (hi - l) (c' - l)) W) :
    SimAt P L ν h W (cutU k off n c l hi size) (valS q) := by
  unfold cutU
  refine SimAt.chk fun hc => ?_
  simp only [Bool.and_eq_true] at hc
  have h1 : l ≤ hi := Nat.le_of_ble_eq_true hc.1
  have h2 : hi ≤ n := Nat.le_of_ble_eq_true hc.2
  rcases hrow with ⟨b, room, hs, hcap, hv⟩ | ⟨rfl, rfl, a, hv⟩
  · have hnc : n ≤ c' := by
      cases c with
      | exact x => exact absurd rfl (hne x)
      | some => exact hcap
      | whole => rw [hcap.2.1]; exact hcap.2.2
      | lost => exact hcap.elim
    have hq := hq _ hv h1 (by omega)
    cases l with
    | zero =>
      refine SimAt.val1 (v := .slice (some ⟨b, off, none⟩) hi c') (run_valS ?_) hok (.row hs ?_)
      · rw [hq]
        simp [Addr.add_eq]
      · cases c with
        | exact x => exact absurd rfl (hne x)
        | some => exact Nat.le_trans h2 hcap
        | whole => exact ⟨hcap.1, hcap.2.1, Nat.le_trans h2 hcap.2.2⟩
        | lost => exact hcap.elim
    | succ l =>
      show SimAt P L ν h W (Bool.rec _ _ (Nat.blt (l + 1) n)) _
      cases hb : Nat.blt (l + 1) n with
      | true =>
        have hlt : l + 1 < n := by simpa [Nat.blt_eq] using hb
        rw [if_neg (by omega), Addr.add_eq] at hq
        exact SimAt.val1 (run_valS hq) hok (.row hs (by show hi - (l + 1) ≤ c' - (l + 1); omega))
      | false =>
        have hge : n ≤ l + 1 := by
          rcases Nat.lt_or_ge (l + 1) n with h | h
          · rw [show Nat.blt (l + 1) n = true by simpa [Nat.blt_eq] using h] at hb; cases hb
          · exact h
        have he : hi - (l + 1) = 0 := by omega
        rw [he] at hq
        exact SimAt.val1 (run_valS hq) hok (.lost _ _ _ _)
  · obtain rfl : hi = 0 := by omega
    obtain rfl : l = 0 := by omega
    have hq := hq a hv (Nat.le_refl _) (Nat.zero_le _)
    exact SimAt.val1 (run_valS hq) hok (.lost _ _ _ _)
theorem cutD_sim (hok : Ok P L ν h W) (t : TypeId) {x : Env → Slot} {v : Value} (hx : RepS ν (x env) v) (lo hi mx : Option Operand) (h1 : ∀ y, lo = some y → Says ν env ρ y) (h2 : ∀ y, hi = some y → Says ν env ρ y) (h3 : ∀ y, mx = some y → Says ν env ρ y) :
    SimAt P L ν h W ((cutD P t x lo hi mx : WD).out env) (valS (Instr.sliceAt t v (lo.map ρ) (hi.map ρ) (mx.map ρ))) := by
  have hmh : (hi = none ∧ ∃ y, mx = some y) ∨ (mx = none ∨ hi ≠ none) := by
    cases hi <;> cases mx <;> simp
  rcases hmh with ⟨rfl, y, rfl⟩ | hmh
  · exact badW_sim _ _
  have e : (cutD P t x lo hi mx : WD) = optC lo fun lo => optC hi fun hi => match P.underlying t with
      | some (.array n e) => match mx with
        | none => withO 124 (szOf P e) fun size => .mk (cutArrC n size x lo hi)
        | some _ => badW 125
      | some (.slice e) => optC mx fun mx => withO 126 (szOf P e) fun size => .mk (cutRowC size x lo hi mx)
      | _ => badW 127 := by
    unfold cutD
    cases hi <;> cases mx <;> first | rfl | simp at hmh
  rw [e]
  have hmh' : mx.map ρ = none ∨ hi.map ρ ≠ none := by
    rcases hmh with rfl | hn
    · exact .inl rfl
    · right
      cases hi with
      | none => exact absurd rfl hn
      | some y => simp
  refine optC_sim h1 fun glo hlo _ => optC_sim h2 fun ghi hhi _ => ?_
  split
  · rename_i n e hu
    cases mx with
    | some y => exact badW_sim _ _
    | none =>
      refine withO_sim fun size hsz => ?_
      obtain ⟨ti, hti, rfl⟩ := szOf_info hsz
      show SimAt P L ν h W (cutArrC n ti.size x glo ghi env) _
      unfold cutArrC
      refine SimAt.asPtr hx fun k off b room hs ev => bound_sim' hlo fun l hl => bound_sim' hhi fun hg hh => ?_
      subst ev
      refine cutX_sim hok hs fun q1 q2 => ?_
      have hb := run_bounds (P := P) (W := W) false n n (max := none) (.inl ⟨rfl, rfl⟩) (Nat.le_refl _) hh (.inl rfl) (.inr q2) hl q1
      simp [Instr.sliceAt, run_underlying hu, Instr.sureAddr, hb, sizeOf, typeInfo, hti]
  · rename_i e hu
    refine optC_sim h3 fun gmx hmx hmn => withO_sim fun size hsz => ?_
    obtain ⟨ti, hti, rfl⟩ := szOf_info hsz
    show SimAt P L ν h W (cutRowC ti.size x glo ghi gmx env) _
    unfold cutRowC
    have hrun : ∀ (a : Option Addr) (n c' l hg m : Nat), BoundIs (mx.map ρ) c' m → m ≤ c' → BoundIs (hi.map ρ) n hg → hg ≤ m → BoundIs (lo.map ρ) 0 l → l ≤ hg → (Instr.sliceAt t (.slice a n c') (lo.map ρ) (hi.map ρ) (mx.map ρ)).run P W = .ok (.slice (if m = l then a else a.map (·.add (l * ti.size))) (hg - l) (m - l)) W := fun a n c' l hg m b1 b2 b3 b4 b5 b6 => by
      have hb := run_bounds (P := P) (W := W) true n c' b1 b2 b3 hmh' (.inr b4) b5 b6
      simp [Instr.sliceAt, Instr.slice, run_underlying hu, hb, sizeOf, typeInfo, hti]
    refine SimAt.asRow hx (fun ev => ?_) (fun k off n c hrow => ?_)
    · subst ev
      refine bound_sim' hlo fun l hl => bound_sim' hhi fun hg hh => bound_sim' hmx fun m hm => SimAt.chk fun hc => ?_
      have hz : l + (hg + m) = 0 := Nat.eq_of_beq_eq_true hc
      obtain rfl : l = 0 := by omega
      obtain rfl : hg = 0 := by omega
      obtain rfl : m = 0 := by omega
      have := hrun none 0 0 0 0 0 hm (Nat.le_refl _) hh (Nat.le_refl _) hl (Nat.le_refl _)
      exact SimAt.val1 (v := .slice none 0 0) (run_valS (by simpa using this)) hok (RepC.flat (.slice none 0 0) rfl)
    · refine bound_sim' hlo fun l hl => bound_sim' hhi fun hg hh => ?_
      generalize hvm : mx.map ρ = vm at hmx
      cases hmx with
      | none =>
        obtain rfl : mx = none := hmn.1 rfl
        show SimAt P L ν h W (cutCap k off n l hg ti.size c) _
        unfold cutCap
        rcases hrow with ⟨b, room, c', hs, hcap, ev⟩ | ⟨hcl, hn0, a, c', ev⟩
        · subst ev
          have hcut : ∀ c'', c = c'' → (∀ x, c'' ≠ .exact x) → SimAt P L ν h W (cutU k off n c'' l hg ti.size) (valS (Instr.sliceAt t (.slice (some ⟨b, off, none⟩) n c') (lo.map ρ) (hi.map ρ) (Option.map ρ none))) := fun c'' e hne => by
            subst e
            refine cutU_sim hok (.inl ⟨b, room, hs, hcap, rfl⟩) hne fun a ha q1 q2 => ?_
            cases ha
            have := hrun (some ⟨b, off, none⟩) n c' l hg c' (.inl ⟨rfl, rfl⟩) (Nat.le_refl _) hh q2 hl q1
            refine Eq.trans this ?_
            split <;> rfl
          cases c with
          | exact cc =>
            obtain ⟨rfl, hncc⟩ := hcap
            refine cutX_sim hok hs fun q1 q2 => ?_
            have := hrun (some ⟨b, off, none⟩) n c' l hg c' (.inl ⟨rfl, rfl⟩) (Nat.le_refl _) hh q2 hl q1
            refine Eq.trans this ?_
            split <;> rfl
          | some => exact hcut _ rfl (by simp)
          | whole => exact hcut _ rfl (by simp)
          | lost => exact hcap.elim
        · subst hcl hn0 ev
          refine cutU_sim (c' := c') hok (.inr ⟨rfl, rfl, a, rfl⟩) (by simp) fun a' ha q1 q2 => ?_
          cases ha
          have := hrun (some a) 0 c' l hg c' (.inl ⟨rfl, rfl⟩) (Nat.le_refl _) hh q2 hl q1
          refine Eq.trans this ?_
          split <;> rfl
      | @some f u hf =>
        show SimAt P L ν h W (asNat 62 (f env) (cutMax k off n l hg ti.size c)) _
        refine SimAt.asNat hf fun m _ em => ?_
        have hbm : ∀ d, BoundIs (mx.map ρ) d m := fun d => .inr (by rw [hvm, em])
        rcases hrow with ⟨b, room, c', hs, hcap, ev⟩ | ⟨hcl, hn0, a, c', ev⟩
        · subst ev
          have hcut : ∀ num, n ≤ c' → SimAt P L ν h W (Exe.chk num (Nat.ble m n) (cutX k off m l hg ti.size)) (valS (Instr.sliceAt t (.slice (some ⟨b, off, none⟩) n c') (lo.map ρ) (hi.map ρ) (mx.map ρ))) := fun num hnc => by
            refine SimAt.chk fun hc => cutX_sim hok hs fun q1 q2 => ?_
            have hmn : m ≤ n := Nat.le_of_ble_eq_true hc
            have := hrun (some ⟨b, off, none⟩) n c' l hg m (hbm _) (by omega) hh q2 hl q1
            refine Eq.trans this ?_
            split <;> rfl
          rw [← hvm]
          cases c with
          | exact cc => exact hcut _ (by rw [hcap.1]; exact hcap.2)
          | some => exact hcut _ hcap
          | whole => exact hcut _ (by rw [hcap.2.1]; exact hcap.2.2)
          | lost => exact hcap.elim
        · subst hcl
          exact SimAt.bad _ _
  · exact badW_sim _ _
end
end Go.Proofs.YtlpbbihjnmikkaaGreatDoor.Exe

namespace Go.Proofs.YtlpbbihjnmikkaaGreatDoor.Exe
set_option linter.unusedSimpArgs false

section
variable {P : Program} {L : Lore} {ν : Nu} {h : Heap D} {W : World} {ρ : Operand → Value} {env : Env}
theorem nextcap_small {need old : Nat} (h1 : old < need) (h2 : need ≤ 4096) : Builtin.nextslicecap need old ≤ 16384 := by
  unfold Builtin.nextslicecap
  split
  · omega
  · split
    · omega
    · have hg : ∀ r c, c ≤ 5312 → Builtin.growBy need r c ≤ 5312 := by
        intro r
        induction r with
        | zero => intro c hc; simpa [Builtin.growBy] using hc
        | succ r ih =>
          intro c hc
          unfold Builtin.growBy
          split
          · exact hc
          · exact ih _ (by omega)
      have := hg 4 old (by omega)
      omega
/-- A row that was grown: its new block. -/
theorem grow_sim (hok : Ok P L ν h W) {t u ty e : TypeId} {i : TypeInfo} {z : Value} (ht : P.underlying t = some (.slice e)) (hi : P.info? e = some i) (hz : i.zero = some z) (hzs : z.cells.size = i.size) (hby : i.bytes ≤ 4096)
    {base : Option Addr} {n c' m : Nat} {cs : List Cell} {olds news : List Value} (hold : ∀ w : World, (∀ b : Nat, w.heap[b]? = W.heap[b]?) → (Builtin.firstCells i.size n (.slice base n c')).run P w = .ok olds.toArray w) (hol : olds.length = n * i.size)
    {x : Value} (hs : Src P i.size u x m news W) (hr : RepL ν cs (olds ++ news)) (hc : c' < n + m) : SimAt P L ν h W (grow e i.size cs (n + m)) (valS (Builtin.append_ #[t, u] ty #[.slice base n c', x])) := by
  unfold grow
  refine SimAt.chk fun hb => ?_
  have hn : n + m ≤ 4096 := Nat.le_of_ble_eq_true hb
  have hfit : Builtin.nextslicecap (n + m) c' * i.bytes ≤ 281474976710656 := by
    have h1 := Nat.mul_le_mul (nextcap_small hc hn) hby
    omega
  have hrun := run_append_grow_src (P := P) W t u ty e i z ht hi hz base n c' olds (hold W.drew fun _ => rfl) x m news hs hc (by omega) hfit
  have hge := grownCap_ge W (n + m) c' e
  generalize hG : grownCap W (n + m) c' e = G at hrun hge
  have hlen : (olds ++ news).length = (n + m) * i.size := by rw [List.length_append, hol, hs.newsLen, Nat.add_mul]
  refine SimAt.new1 (g := fun k => .row k 0 (n + m) .whole) fun k hk hk3 => ⟨.blk W.heap.size G, _, _, run_valS hrun, ?_, .row (Nu.set_same _ _ _) ⟨rfl, rfl, hge⟩⟩
  have hsize : ((olds ++ news).toArray ++ Builtin.zeroCells z.cells (G - (n + m))).size = G * i.size := by
    simp only [Array.size_append, List.size_toArray, hlen, Builtin.zeroCells, Array.size_map, Array.size_range, hzs]
    rw [← Nat.add_mul]
    congr 1
    omega
  refine hok.alloc hk hk3 (W1 := W.drew) (fun _ _ => rfl) rfl ⟨rfl, rfl⟩ _ (fun i hi => hi) (fun i hi => hi) ⟨_, heap_alloc_new W.drew _, ?_, ?_, fun _ => ⟨i, hi, hsize⟩⟩
  · have hm : Nat.mul (n + m) i.size = (olds ++ news).length := hlen.symm
    rw [hm]
    simp only [Array.toList_append, List.take_left']
    exact RepL.mono (Sub.set hk _) hr
  · rw [hsize]
    exact Nat.mul_le_mul_right _ hge
theorem sameRow_sim (hok : Ok P L ν h W) {t u ty e : TypeId} {i : TypeInfo} (ht : P.underlying t = some (.slice e)) (hi : P.info? e = some i) {s : Slot} {v x : Value} (hv : RepS ν s v) (hs : Src P i.size u x 0 [] W) :
    SimAt P L ν h W (sameRow s) (valS (Builtin.append_ #[t, u] ty #[v, x])) := by
  unfold sameRow
  refine SimAt.asRow hv (fun e => ?_) fun k off m c hrow => ?_
  · subst e
    exact SimAt.val (run_valS (run_append_nothing (P := P) W t u ty _ i ht hi none 0 0 (Nat.le_refl _) x hs)) hok hv
  · rcases hrow with ⟨b, room, c', hk, hc, e⟩ | ⟨_, _, a, c', e⟩
    · subst e
      have hle : m ≤ c' := by
        cases c with
        | exact cc => rw [hc.1]; exact hc.2
        | some => exact hc
        | whole => rw [hc.2.1]; exact hc.2.2
        | lost => exact hc.elim
      exact SimAt.val (run_valS (run_append_nothing (P := P) W t u ty _ i ht hi _ _ _ hle x hs)) hok hv
    · subst e
      exact SimAt.val (run_valS (run_append_nothing (P := P) W t u ty _ i ht hi _ _ _ (Nat.zero_le _) x hs)) hok hv
theorem firstCells_block {b off n size : Nat} {c : Array Value} {e : TypeId} (hb : W.heap[b]? = some (.cells c e (0, 0))) (hle : off + n * size ≤ c.size) (l cap : Nat) (w : World) (hw : ∀ b : Nat, w.heap[b]? = W.heap[b]?) : (Builtin.firstCells size n (.slice (some ⟨b, off, none⟩) l cap)).run P w = .ok ((c.toList.drop off).take (n * size)).toArray w := by
  refine run_firstCells_some w size n _ l cap _ (by simp; omega) fun j v hv => ?_
  rw [Addr.add_eq]
  exact range_of (W := w) (by rw [hw]; exact hb) j v hv
end
end Go.Proofs.YtlpbbihjnmikkaaGreatDoor.Exe
