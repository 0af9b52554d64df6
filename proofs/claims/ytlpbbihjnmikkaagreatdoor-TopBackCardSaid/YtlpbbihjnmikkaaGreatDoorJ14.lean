/-
  Joined: LawA, LawB, ExeK
-/
import Derived.Test.YtlpbbihjnmikkaaGreatDoorJ11
import Derived.Test.YtlpbbihjnmikkaaGreatDoorJ13
import Derived.Test.YtlpbbihjnmikkaaGreatDoorJ10
namespace Go.Proofs.YtlpbbihjnmikkaaGreatDoor.Exe
set_option linter.unusedSimpArgs false

/-- Colours: what is seen, and what is new, is nobody's. -/
noncomputable def seen (W : World) (s : Nat → Prop) : Col := fun i => open Classical in if s i ∨ W.heap.size ≤ i then 0 else 1
theorem seen_zero {W : World} {s : Nat → Prop} {i : Nat} : seen W s i = 0 ↔ s i ∨ W.heap.size ≤ i := by
  unfold seen
  split
  · rename_i h; exact ⟨fun _ => h, fun _ => rfl⟩
  · rename_i h; exact ⟨fun e => by simp at e, fun e => absurd e h⟩
theorem RowB.slb {W w : World} {v : Value} {s : Nat → Prop} {l : List Oct} (h : RowB v s l w) : SlB (seen W s) w v l := by
  rcases h with h | ⟨b, o, cap, hv, hc, h0, hb, hr⟩
  · exact .inl h
  · exact .inr ⟨b, o, cap, hv, hc, seen_zero.2 (.inl h0), hb, hr⟩
theorem rowB_of_slb {c : Col} {w : World} {v : Value} {l : List Oct} (h : SlB c w v l) : ∃ s, RowB v s l w ∧ (∀ i, s i → c i = 0) ∧ ∀ i, s i → i < w.heap.size := by
  rcases h with h | ⟨b, o, cap, hv, hc, h0, hb, hr⟩
  · exact ⟨fun _ => False, .inl h, fun _ h => h.elim, fun _ h => h.elim⟩
  · refine ⟨fun i => i = b, .inr ⟨b, o, cap, hv, hc, rfl, hb, hr⟩, fun i hi => by rw [hi]; exact h0, fun i hi => ?_⟩
    obtain ⟨_, _, _, h, _⟩ := hb
    rw [hi]
    exact heap_lt h
theorem free_seen {ν : Nu} {h : Heap D} {W : World} {s s' : Nat → Prop} (hs : Free ν h W s) (hc : ∀ i, s' i → seen W s i = 0) : Free ν h W s' := fun i hi => by
  rcases seen_zero.1 (hc i hi) with h | h
  · exact hs i h
  · exact .inl h
theorem clone_known (C : Ciph) : KnownOk Tryz.prog (lore C) 8 fClone := fun args h nx r w v h' nx' r' w' he ν W args' hok hf ha => by
  unfold fClone at he
  split at he
  · rename_i s
    obtain ⟨l⟩ := args'
    cases ha with
    | @cons _ u _ _ hs h2 =>
      cases h2
      obtain ⟨d, r1, w1, e1, hd⟩ := bytesOf_ok he hok hs
      obtain ⟨hlen, _, e2⟩ := upTo_ok (C := C) e1
      rcases hd with ⟨rfl, rfl⟩ | ⟨hr, se, hrow, hfree, hlt⟩
      · have e3 : M.ret (.one nilC) h nx r1 w1 = .ok v h' nx' r' w' := e2
        cases e3
        refine (clone_nil W).mono fun e w' ⟨he, hw⟩ => ?_
        subst he; subst hw
        exact ⟨_, ν, rfl, Ext.refl _ _, hok, .one (.flat _ rfl)⟩
      · have e3 : tokS d h nx r1 w1 = .ok v h' nx' r' w' := by
          cases d <;> first | exact e2 | cases hr
        refine token_ends hok e3 hf ?_
        refine (clone8_any (seen W se) u (byt C d) W hrow.slb (fun g hg => seen_zero.2 (.inr hg)) hlen).mono fun e w' ⟨u', he, hsl, hbel⟩ => ?_
        obtain ⟨s', h1, h2, h3⟩ := rowB_of_slb hsl
        refine ⟨u', s', he, hsl.one, ⟨fun i hi => hbel.block i hi, hbel.os, hbel.output⟩, ?_, free_seen hfree h2⟩
        show says C d u' _ s' w'
        rw [says_row C hr]
        exact ⟨nobody_no, h3, h1⟩
  · cases he
end Go.Proofs.YtlpbbihjnmikkaaGreatDoor.Exe

namespace Go.Proofs.YtlpbbihjnmikkaaGreatDoor.Exe
set_option linter.unusedSimpArgs false

theorem wpList_convert {ops : Array Oper} {rest : List Oper} {op : Oper} {a : Act} {w : World} {Q : Exit → Act → World → Prop} (hgd : op.guard = none) (s d : TypeId) (x : Operand) (ho : op.op = .convert s d x) {v : Value} (hrun : (convert s d (a.eval x)).run Tryz.prog w = .ok v w)
    (h : wpList Tryz.prog ops Q rest (a.put op.dst v) w) : wpList Tryz.prog ops Q (op :: rest) a w := by
  refine wpList_plain hgd fun K hK => ?_
  unfold Oper.wp execOp
  simp only [ho, Sem.run_bind, Sem.run_pure, Result.andThen_ok, hrun]
  exact hK _ _ h
theorem run_convert24 {v : Value} {s : Nat → Prop} {l : List Oct} {w : World} (h : RowB v s l w) : (convert 24 9 v).run Tryz.prog w = .ok (.string (strOf l)) w := by
  have hs := h.string Tryz.prog
  obtain ⟨a, c, rfl⟩ := h.slice
  rw [run_convert_bytes_string w 24 9 5 a _ c Tryz.underlying24 Tryz.underlying5 Tryz.underlying9]
  exact hs
theorem equal87 {v u : Value} {s s' : Nat → Prop} {l : List Oct} {w : World} (hv : RowB v s l w) (hu : RowB u s' l w) : Calls Tryz.prog 87 #[v, u] w fun e w' => e = .returned (.bool true) ∧ w' = w := by
  have h1 := run_convert24 hv
  have h2 := run_convert24 hu
  go_enter Tryz.func87, Tryz.ntmps87
  go_wp2_with (first | (with_reducible refine wpList_convert rfl 24 9 (.tmp 5) rfl h1 ?_) | (with_reducible refine wpList_convert rfl 24 9 (.tmp 7) rfl h2 ?_))
  go_ret
  simp
theorem rowB_of {C : Ciph} {ν : Nu} {h : Heap D} {W : World} {d : Word} {u : Value} (hd : (d = .none ∧ u = .slice none 0 0) ∨ (isRow d = true ∧ ∃ se, RowB u se (byt C d) W ∧ Free ν h W se ∧ ∀ i, se i → i < W.heap.size)) : ∃ s, RowB u s (byt C d) W := by
  rcases hd with ⟨rfl, rfl⟩ | ⟨_, s, hs, _⟩
  · exact ⟨fun _ => False, .inl ⟨rfl, rfl⟩⟩
  · exact ⟨s, hs⟩
theorem equal_known (C : Ciph) : KnownOk Tryz.prog (lore C) 87 fEqual := fun args h nx r w v h' nx' r' w' he ν W args' hok hf ha => by
  unfold fEqual at he
  split at he
  · rename_i a b
    obtain ⟨l⟩ := args'
    cases ha with
    | @cons _ u _ _ hs h2 =>
      cases h2 with
      | @cons _ u' _ _ hs' h3 =>
        cases h3
        obtain ⟨d, r1, w1, e1, hd⟩ := bytesOf_ok he hok hs
        obtain ⟨d', r2, w2, e2, hd'⟩ := bytesOf_ok e1 hok hs'
        obtain ⟨hb, e3⟩ := chk_ok e2
        cases e3
        rw [← eqW_eq _ _ hb] at hd'
        obtain ⟨s1, h1⟩ := rowB_of hd
        obtain ⟨s2, h2⟩ := rowB_of hd'
        refine (equal87 h1 h2).mono fun e w' ⟨he, hw⟩ => ?_
        subst he; subst hw
        exact ⟨_, ν, rfl, Ext.refl _ _, hok, .one (.bool true)⟩
  · cases he
theorem few6 {v : Value} {s : Nat → Prop} {l : List Oct} {w : World} (hv : RowB v s l w) : Calls Tryz.prog 6 #[v] w fun e w' => w' = w ∧ ∃ u, e = .returned u ∧ u.oneCell' = true ∧ RowB u s (l.take 100) w := by
  rcases hv with ⟨rfl, rfl⟩ | ⟨b, o, cap, rfl, hc, h0, hb, hr⟩
  · go_enter Tryz.func6, Tryz.ntmps6
    go_wp2
    go_ret
    exact ⟨rfl, _, rfl, rfl, .inl ⟨rfl, rfl⟩⟩
  · by_cases hl : (l.length : Int) > 100
    · go_enter Tryz.func6, Tryz.ntmps6
      go_wp2
      go_ret
      have hmin : min 100 l.length = 100 := by omega
      have hlen : (l.take 100).length = 100 := by rw [List.length_take, hmin]
      refine ⟨rfl, .slice (some ⟨b, o, none⟩) 100 cap, rfl, rfl, .inr ⟨b, o, cap, by rw [hlen], by omega, h0, hb, fun j hj => ?_⟩⟩
      rw [hr j (by omega)]
      simp
    · go_enter Tryz.func6, Tryz.ntmps6
      go_wp2
      go_ret
      refine ⟨rfl, .slice (some ⟨b, o, none⟩) l.length cap, rfl, rfl, ?_⟩
      rw [List.take_of_length_le (by omega)]
      exact .inr ⟨b, o, cap, rfl, hc, h0, hb, hr⟩
theorem few_known (C : Ciph) : KnownOk Tryz.prog (lore C) 6 fFew := fun args h nx r w v h' nx' r' w' he ν W args' hok hf ha => by
  unfold fFew at he
  split at he
  · rename_i s
    obtain ⟨l⟩ := args'
    cases ha with
    | @cons _ u _ _ hs h2 =>
      cases h2
      obtain ⟨d, r1, w1, e1, hd⟩ := bytesOf_ok he hok hs
      split at e1
      · rcases hd with ⟨hd, _⟩ | ⟨_, se, hrow, hfree, hlt⟩
        · cases hd
        · refine token_ends hok e1 hf ((few6 hrow).mono fun e w' ⟨hw, u', he, h1, h2⟩ => ?_)
          subst hw
          refine ⟨u', se, he, h1, ⟨fun _ _ => rfl, Calm.refl _⟩, ⟨nobody_no, hlt, ?_⟩, hfree⟩
          show RowB u' se (C.atom 2) _
          rw [C.few]
          exact h2
      · cases e1
  · cases he
end Go.Proofs.YtlpbbihjnmikkaaGreatDoor.Exe

namespace Go.Proofs.YtlpbbihjnmikkaaGreatDoor.Exe
set_option linter.unusedSimpArgs false

section
variable {P : Program} {env env' : Env}
def Same (env env' : Env) (x : Operand) : Prop := ∀ f, evC x = some f → f env = f env'
theorem with1_env {n : Nat} {x : Operand} {f : (Env → Slot) → WD} (hx : Same env env' x) (hf : ∀ g, g env = g env' → (f g).out env = (f g).out env') : (with1 n x f).out env = (with1 n x f).out env' := by
  unfold with1
  cases he : evC x with
  | none => rfl
  | some g => exact hf g (hx g he)
theorem withO_env {α : Type} {n : Nat} {o : Option α} {f : α → WD} (hf : ∀ v, (f v).out env = (f v).out env') : (withO n o f).out env = (withO n o f).out env' := by
  unfold withO
  cases o with
  | none => rfl
  | some v => exact hf v
theorem withO_env' {α : Type} {n : Nat} {o : Option α} {f : α → WD} (hf : ∀ v, o = some v → (f v).out env = (f v).out env') : (withO n o f).out env = (withO n o f).out env' := by
  unfold withO
  cases o with
  | none => rfl
  | some v => exact hf v rfl
theorem evs_env : ∀ {xs : List Operand} {fs : List (Env → Slot)}, evsC xs = some fs → (∀ x ∈ xs, Same env env' x) → all fs env = all fs env'
  | [], fs, hf, _ => by
    have : evsC ([] : List Operand) = some [] := rfl
    rw [this] at hf
    cases hf
    rfl
  | x :: xs, fs, hf, hx => by
    obtain ⟨g, gs, h1, h2, rfl⟩ := evs_cons hf
    show g env :: all gs env = g env' :: all gs env'
    rw [hx x List.mem_cons_self g h1, evs_env h2 fun y hy => hx y (List.mem_cons_of_mem _ hy)]
def SameO (env env' : Env) (g : Option (Env → Slot)) : Prop := ∀ f, g = some f → f env = f env'
theorem optC_env {x : Option Operand} {f : Option (Env → Slot) → WD} (hx : ∀ y, x = some y → Same env env' y) (hf : ∀ g, SameO env env' g → (f g).out env = (f g).out env') : (optC x f).out env = (optC x f).out env' := by
  unfold optC
  cases x with
  | none => exact hf none fun _ h => by cases h
  | some y => exact with1_env (hx y rfl) fun g hg => hf (some g) fun f h => by cases h; exact hg
theorem bound_env {α : Type} {d : Nat} {g : Option (Env → Slot)} (hg : SameO env env' g) (f : Nat → M D α) : bound d env g f = bound d env' g f := by
  cases g with
  | none => rfl
  | some x =>
    show asNat 52 (x env) f = asNat 52 (x env') f
    rw [hg x rfl]
theorem buildD_env (t : TypeId) (parts : List (Nat × Operand)) (hx : ∀ x ∈ parts.map (·.2), Same env env' x) : (buildD P t parts : WD).out env = (buildD P t parts : WD).out env' := by
  unfold buildD
  refine withO_env fun z => withO_env' fun xs hxs => ?_
  have h := evs_env hxs hx
  split
  · refine withO_env fun pl => withO_env fun ps => ?_
    show buildC _ z ps xs env = buildC _ z ps xs env'
    unfold buildC
    rw [h]
  · refine withO_env fun pl => withO_env fun ps => ?_
    show buildC _ z ps xs env = buildC _ z ps xs env'
    unfold buildC
    rw [h]
  · rfl
theorem rowD_env (t : TypeId) (n : Nat) (parts : List (Nat × Operand)) (hx : ∀ x ∈ parts.map (·.2), Same env env' x) : (rowD P t n parts : WD).out env = (rowD P t n parts : WD).out env' := by
  unfold rowD
  refine withO_env fun p => withO_env fun z => withO_env' fun xs hxs => withO_env fun ps => ?_
  cases Nat.ble n 4096 with
  | false => rfl
  | true =>
    show rowC _ _ _ _ ps xs env = rowC _ _ _ _ ps xs env'
    unfold rowC
    rw [evs_env hxs hx]
theorem slowC_env (op : BinOp) (t : TypeId) (x y : Operand) {f g : Env → Slot} (hf : f env = f env') (hg : g env = g env') : (slowC P op t x y f g : Do) env = slowC P op t x y f g env' := by
  have hk : slowK P op t x y f g env = slowK P op t x y f g env' := by
    unfold slowK
    rw [hf, hg]
  unfold slowC
  rw [hk, hf, hg]
theorem ints_env {k : Nat → Nat → M D Nx → M D Nx} {slow : Do} (hs : slow env = slow env') {f g : Env → Slot} (hf : f env = f env') (hg : g env = g env') : ints k slow f g env = ints k slow f g env' := by
  unfold ints
  rw [hf, hg, hs]
theorem binW_env (op : BinOp) (t : TypeId) (x y : Operand) {f g : Env → Slot} (hf : f env = f env') (hg : g env = g env') : (binW P op t x y f g : WD).out env = (binW P op t x y f g : WD).out env' := by
  have hs := fun op => slowC_env (P := P) op t x y hf hg
  unfold binW
  split <;> first | exact ints_env (hs _) hf hg | exact hs _
theorem flatRun_env {x : Env → Slot} {m : Value → Sem Value} (hx : x env = x env') : (flatRun P x m : Do) env = flatRun P x m env' := by
  unfold flatRun
  rw [hx]
theorem convD_env (s d : TypeId) {x : Env → Slot} (hx : x env = x env') : (convD P s d x : WD).out env = (convD P s d x : WD).out env' := by
  have h := flatRun_env (P := P) (m := fun v => convert s d v) hx
  unfold convD
  split
  · split
    · show convI P s d x env = convI P s d x env'
      unfold convI
      rw [hx, h]
    · exact h
  · split
    · split
      · show convT P s d x env = convT P s d x env'
        unfold convT
        rw [hx, h]
      · exact h
    · exact h
  · exact h
theorem cutD_env (t : TypeId) {x : Env → Slot} (hx : x env = x env') (lo hi mx : Option Operand) (h1 : ∀ y, lo = some y → Same env env' y) (h2 : ∀ y, hi = some y → Same env env' y) (h3 : ∀ y, mx = some y → Same env env' y) : (cutD P t x lo hi mx : WD).out env = (cutD P t x lo hi mx : WD).out env' := by
  unfold cutD
  split
  · rfl
  · refine optC_env h1 fun glo hlo => optC_env h2 fun ghi hhi => ?_
    split
    · split
      · refine withO_env fun size => ?_
        show cutArrC _ size x glo ghi env = cutArrC _ size x glo ghi env'
        unfold cutArrC
        rw [hx]
        congr 1
        funext k o
        rw [bound_env hlo]
        congr 1
        funext l
        rw [bound_env hhi]
      · rfl
    · refine optC_env h3 fun gmx hmx => withO_env fun size => ?_
      show cutRowC size x glo ghi gmx env = cutRowC size x glo ghi gmx env'
      unfold cutRowC
      rw [hx]
      congr 1
      · rw [bound_env hlo]
        congr 1
        funext l
        rw [bound_env hhi]
        congr 1
        funext hh
        rw [bound_env hmx]
      · funext k o n c
        rw [bound_env hlo]
        congr 1
        funext l
        rw [bound_env hhi]
        congr 1
        funext hh
        cases gmx with
        | none => rfl
        | some m =>
          show asNat 62 (m env) _ = asNat 62 (m env') _
          rw [hmx m rfl]
    · rfl
theorem extreme_env (f : Nat → Nat → Nat) {x : Env → Slot} {xs : List (Env → Slot)} (hx : all (x :: xs) env = all (x :: xs) env') : (extremeC f x xs : Do) env = extremeC f x xs env' := by
  have h1 : x env = x env' ∧ all xs env = all xs env' := by
    have h' : x env :: all xs env = x env' :: all xs env' := hx
    simpa using h'
  unfold extremeC
  rw [h1.1]
  congr 1
  funext n
  have : ∀ (xs : List (Env → Slot)), all xs env = all xs env' → ∀ n, (List.rec (motive := fun _ => Nat → M D Nx) (fun n => ret1 (.nat n)) (fun x _ ih n => asNat 85 (x env) fun m => force (f n m) ih) xs n : M D Nx) = List.rec (motive := fun _ => Nat → M D Nx) (fun n => ret1 (.nat n)) (fun x _ ih n => asNat 85 (x env') fun m => force (f n m) ih) xs n := by
    intro xs
    induction xs with
    | nil => intro _ n; rfl
    | cons y ys ih =>
      intro h n
      have h2 : y env = y env' ∧ all ys env = all ys env' := by
        have h' : y env :: all ys env = y env' :: all ys env' := h
        simpa using h'
      show asNat 85 (y env) _ = asNat 85 (y env') _
      rw [h2.1]
      congr 1
      funext m
      rw [force_eq, force_eq]
      exact ih h2.2 _
  exact this xs h1.2 n
theorem builtinD_env (b : Go.Builtin) (ts : List TypeId) {xs : List (Env → Slot)} (hx : all xs env = all xs env') : (builtinD P b ts xs : WD).out env = (builtinD P b ts xs : WD).out env' := by
  have two : ∀ {x y : Env → Slot}, all [x, y] env = all [x, y] env' → x env = x env' ∧ y env = y env' := fun h => by
    have h' : [_, _] = [_, _] := h
    simpa using h'
  have one : ∀ {x : Env → Slot}, all [x] env = all [x] env' → x env = x env' := fun h => by
    have h' : [_] = [_] := h
    simpa using h'
  unfold builtinD
  split
  · split
    · obtain ⟨h1, h2⟩ := two hx
      unfold appendD
      split
      · refine withO_env fun p => withO_env fun z => ?_
        split
        · show appendZ _ _ z _ _ env = appendZ _ _ z _ _ env'
          unfold appendZ
          rw [h1, h2]
        · show appendC _ _ _ _ env = appendC _ _ _ _ env'
          unfold appendC
          rw [h1, h2]
        · rfl
      · rfl
    · rfl
  · split
    · have h1 := one hx
      unfold lenD
      split
      · split
        · show lenC _ env = lenC _ env'
          unfold lenC
          rw [h1]
        · show lenS _ env = lenS _ env'
          unfold lenS
          rw [h1]
        · show lenM _ env = lenM _ env'
          unfold lenM
          rw [h1]
        · rfl
        · rfl
      · rfl
    · rfl
  · split
    · have h1 := one hx
      unfold capD
      split
      · split
        · show capC _ env = capC _ env'
          unfold capC
          rw [h1]
        · rfl
        · rfl
      · rfl
    · rfl
  · split
    · have h1 := one hx
      unfold clearD
      split
      · refine withO_env fun p => withO_env fun z => ?_
        show clearC _ z _ env = clearC _ z _ env'
        unfold clearC
        rw [h1]
      · rfl
    · rfl
  · split
    · obtain ⟨h1, h2⟩ := two hx
      unfold copyD
      split
      · refine withO_env fun p => ?_
        show copyC _ _ _ env = copyC _ _ _ env'
        unfold copyC
        rw [h1, h2]
      · rfl
    · rfl
  · split
    · exact extreme_env _ hx
    · rfl
  · split
    · exact extreme_env _ hx
    · rfl
  · rfl
theorem callD_env (c : Call) (hx : ∀ x ∈ c.operands, Same env env' x) : (callD P c : WD).out env = (callD P c : WD).out env' := by
  have hargs : ∀ {xs : List (Env → Slot)}, evsC c.args.toList = some xs → all xs env = all xs env' := fun hxs => evs_env hxs fun x hm => hx x (by simp [Call.operands]; right; simpa using hm)
  unfold callD
  split
  · exact withO_env' fun xs hxs => builtinD_env _ _ (hargs hxs)
  · refine withO_env' fun xs hxs => ?_
    cases bodied P _ with
    | false => rfl
    | true =>
      show callK _ xs env = callK _ xs env'
      unfold callK
      rw [hargs hxs]
  · rename_i f hf' hf
    refine with1_env (hx f (by simp [Call.operands, hf])) fun g hg => withO_env' fun xs hxs => ?_
    show callC P g xs env = callC P g xs env'
    unfold callC
    rw [hg, hargs hxs]
  · rfl
theorem opD_env (o : Op) (hx : ∀ x ∈ o.operands, Same env env' x) : (opD P o : WD).out env = (opD P o : WD).out env' := by
  cases o with
  | move x => exact with1_env (hx x (by simp [Op.operands])) fun g hg => by show moveC g env = moveC g env'; unfold moveC; rw [hg]
  | assign x => exact with1_env (hx x (by simp [Op.operands])) fun g hg => by show moveC g env = moveC g env'; unfold moveC; rw [hg]
  | pick c a b => exact with1_env (hx c (by simp [Op.operands])) fun g hg => with1_env (hx a (by simp [Op.operands])) fun g2 hg2 => with1_env (hx b (by simp [Op.operands])) fun g3 hg3 => by show pickC g g2 g3 env = pickC g g2 g3 env'; unfold pickC; rw [hg, hg2, hg3]
  | alloc t => exact withO_env fun z => rfl
  | box t x => exact with1_env (hx x (by simp [Op.operands])) fun g hg => by show boxC t g env = boxC t g env'; unfold boxC; rw [hg]
  | build t parts => exact buildD_env t _ fun x hm => hx x (by simpa [Op.operands] using hm)
  | buildSlice t n parts => exact rowD_env t n _ fun x hm => hx x (by simpa [Op.operands] using hm)
  | load t x => exact withO_env fun k => with1_env (hx x (by simp [Op.operands])) fun g hg => by show loadC k g env = loadC k g env'; unfold loadC; rw [hg]
  | store t x v => exact withO_env fun n => with1_env (hx x (by simp [Op.operands])) fun g hg => with1_env (hx v (by simp [Op.operands])) fun g2 hg2 => by show storeC n g g2 env = storeC n g g2 env'; unfold storeC; rw [hg, hg2]
  | nilCheck x => exact with1_env (hx x (by simp [Op.operands])) fun g hg => by show nilCheckC g env = nilCheckC g env'; unfold nilCheckC; rw [hg]
  | binOp op t x y yt => exact with1_env (hx x (by simp [Op.operands])) fun g hg => with1_env (hx y (by simp [Op.operands])) fun g2 hg2 => binW_env op t x y hg hg2
  | unOp op t x => exact with1_env (hx x (by simp [Op.operands])) fun g hg => flatRun_env hg
  | convert s d x => exact with1_env (hx x (by simp [Op.operands])) fun g hg => convD_env s d hg
  | sliceToArrayPointer t x =>
    refine with1_env (hx x (by simp [Op.operands])) fun g hg => ?_
    unfold arrD
    split
    · show arrC _ g env = arrC _ g env'; unfold arrC; rw [hg]
    · rfl
  | makeFunc fn fs cs =>
    cases fn with
    | func f =>
      refine withO_env' fun gs hgs => withO_env' fun ks hks => ?_
      show funcC f gs ks env = funcC f gs ks env'
      unfold funcC
      rw [evs_env hgs fun x hm => hx x (by simp [Op.operands]; left; simpa using hm), evs_env hks fun x hm => hx x (by simp [Op.operands]; right; simpa using hm)]
    | _ => rfl
  | makeMap t r => cases r <;> rfl
  | makeSlice t l c => exact withO_env fun p => withO_env fun z => with1_env (hx l (by simp [Op.operands])) fun g hg => with1_env (hx c (by simp [Op.operands])) fun g2 hg2 => by show makeSliceC _ _ z g g2 env = makeSliceC _ _ z g g2 env'; unfold makeSliceC; rw [hg, hg2]
  | slice t x lo hi mx => exact with1_env (hx x (by simp [Op.operands])) fun g hg => cutD_env t hg lo hi mx (fun y hy => hx y (by simp [Op.operands, hy])) (fun y hy => hx y (by simp [Op.operands, hy])) (fun y hy => hx y (by simp [Op.operands, hy]))
  | fieldAddr s x i =>
    refine with1_env (hx x (by simp [Op.operands])) fun g hg => ?_
    unfold fieldAtD
    split
    · split
      · split
        · show fieldAtC _ g env = fieldAtC _ g env'; unfold fieldAtC; rw [hg]
        · rfl
      · rfl
    · rfl
  | field s x i =>
    refine with1_env (hx x (by simp [Op.operands])) fun g hg => ?_
    unfold fieldD
    split
    · split
      · exact withO_env fun k => by show fieldC k _ g env = fieldC k _ g env'; unfold fieldC; rw [hg]
      · rfl
    · rfl
  | indexAddr t x i =>
    refine with1_env (hx x (by simp [Op.operands])) fun g hg => with1_env (hx i (by simp [Op.operands])) fun g2 hg2 => ?_
    unfold indexAtD
    split
    · exact withO_env fun k => by show indexArrC _ k g g2 env = indexArrC _ k g g2 env'; unfold indexArrC; rw [hg, hg2]
    · exact withO_env fun k => by show indexRowC k g g2 env = indexRowC k g g2 env'; unfold indexRowC; rw [hg, hg2]
    · rfl
  | index t x i =>
    refine with1_env (hx x (by simp [Op.operands])) fun g hg => with1_env (hx i (by simp [Op.operands])) fun g2 hg2 => ?_
    unfold indexD
    split
    · exact withO_env fun k => withO_env fun kd => by show indexC _ k kd g g2 env = indexC _ k kd g g2 env'; unfold indexC; rw [hg, hg2]
    · show indexS g g2 env = indexS g g2 env'; unfold indexS; rw [hg, hg2]
    · rfl
  | lookup t x i ok => exact withO_env fun z => with1_env (hx x (by simp [Op.operands])) fun g hg => with1_env (hx i (by simp [Op.operands])) fun g2 hg2 => by show lookupC ok z g g2 env = lookupC ok z g g2 env'; unfold lookupC; rw [hg, hg2]
  | mapUpdate t x i v => exact withO_env fun z => with1_env (hx x (by simp [Op.operands])) fun g hg => with1_env (hx i (by simp [Op.operands])) fun g2 hg2 => with1_env (hx v (by simp [Op.operands])) fun g3 hg3 => by show updateC g g2 g3 env = updateC g g2 g3 env'; unfold updateC; rw [hg, hg2, hg3]
  | extract x j => exact with1_env (hx x (by simp [Op.operands])) fun g hg => by show extractC j g env = extractC j g env'; unfold extractC; rw [hg]
  | call c => exact callD_env c hx
  | _ => rfl
end
end Go.Proofs.YtlpbbihjnmikkaaGreatDoor.Exe
