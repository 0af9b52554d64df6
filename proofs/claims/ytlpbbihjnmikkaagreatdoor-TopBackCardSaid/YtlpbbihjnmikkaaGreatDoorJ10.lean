/-
  Joined: ExeH, ExeI, ExeJ
-/
import Derived.Test.YtlpbbihjnmikkaaGreatDoorJ09
namespace Go.Proofs.YtlpbbihjnmikkaaGreatDoor.Exe
set_option linter.unusedSimpArgs false

section
variable {P : Program} {L : Lore} {ν : Nu} {h : Heap D} {W : World} {ρ : Operand → Value} {env : Env}
/-- A map's entries become others. -/
theorem SimAt.wrM {q : Sem Next} {k c c' r : Nat} {es es' : List (Nat × Slot × Nat)} {ms ms' : Array MapEntry} {x : Nx} {res : Next} (hok : Ok P L ν h W) (hk : h.at k = some (.map es c)) (hs : ν k = some (.obj r)) (hb : W.heap[r]? = some (.map ms c))
    (hq : q.run P W = .ok res { W with heap := W.heap.setIfInBounds r (.map ms' c') }) (hr : All2 (RepM ν) es' ms'.toList) (hx : NxOk ν x res) : SimAt P L ν h W (M.bind (Exe.wr k (some (.map es' c'))) fun _ => M.ret x) q := fun nx rd w y h' nx' r' w' he hfr => by
  obtain ⟨u, h1, n1, r1, w1, e1, e2⟩ := bind_ok he
  obtain ⟨_, rfl, rfl, rfl, rfl⟩ := wr_ok e1
  cases e2
  have hlt : r < W.heap.size := (Array.getElem?_eq_some_iff.1 hb).1
  refine ⟨res, _, ν, hq, Ext.refl _ _, hok.step (Sub.refl _) (at_lt hk) (fun j tj sj hj hjt hjs i hi => ?_) (fun t0 ht0 => ?_), hx⟩
  · have hne : r ≠ i := fun e => by
      subst e
      have := hok.apart k j _ tj _ sj (fun e => hj e.symm) hk hjt hs hjs r rfl
      exact hi.elim this.1 this.2
    simp [Array.getElem?_setIfInBounds_ne hne]
  · cases ht0
    refine ⟨.obj r, hs, ⟨ms', by simp [hlt], hr⟩, fun j tj sj hj hjt hjs i => ?_⟩
    exact ⟨fun hi => hok.apart k j _ tj _ sj (fun e => hj e.symm) hk hjt hs hjs i hi, fun hi => ⟨fun e => (hok.apart j k tj _ sj _ hj hjt hk hjs hs i hi).1 e, fun e => e⟩⟩
theorem All2.set {α β : Type} {R : α → β → Prop} {l : List α} {k : List β} (hl : All2 R l k) (n : Nat) {a : α} {b : β} (h : R a b) : All2 R (l.set n a) (k.set n b) := by
  induction hl generalizing n with
  | nil => exact .nil
  | cons h1 h2 ih =>
    cases n with
    | zero => exact .cons h h2
    | succ n => exact .cons h1 (ih n)
theorem updateC_sim (hok : Ok P L ν h W) {t : TypeId} {z : Slot} (hz : intMap P t = some z) {x i y : Env → Slot} {v u vy : Value} (hx : RepS ν (x env) v) (hi : RepS ν (i env) u) (hy : RepS ν (y env) vy) : SimAt P L ν h W (updateC x i y env) (unitS (Instr.mapUpdate t v u vy)) := by
  obtain ⟨k, e, ti, zv, hu, hk, hti, hzv, hsl⟩ := intMap_eq hz
  unfold updateC
  refine SimAt.asMap hx fun r r' hr ev => SimAt.asNat hi fun n hn en => SimAt.rdM hok fun es c r2 ms hkt hr2 hb hl => ?_
  subst ev en
  rw [hr] at hr2
  cases hr2
  have hg : (getObj r').run P W = .ok (.map ms c) W := by simp [getObj, Sem.run, hb]
  have hck := run_checkInt hk false 9999 (n : Int) W
  have hset : ∀ o, (setObj r' o).run P W = .ok () { W with heap := W.heap.setIfInBounds r' o } := fun o => by simp [setObj, Sem.run, hb]
  split
  · rename_i j s hf
    obtain ⟨v, g1, g2, _, b, g4⟩ := find_some 0 hl hf
    rw [Nat.sub_zero] at g4
    rw [g4]
    have hfk := run_findKey' hk g1 W
    obtain ⟨e0, he0⟩ : ∃ e0, ms[j]? = some e0 := by
      have hlen := hl.length
      have : j < es.length := (List.getElem?_eq_some_iff.1 g4).1
      exact ⟨ms[j]'(by simp at hlen; omega), Array.getElem?_eq_getElem (by simp at hlen; omega)⟩
    have hrel : RepM ν (n, s, b) e0 := hl.get g4 (by simpa using he0)
    have hkey : e0.key = .int .i64 (.ofNat n) := hrel.1
    have hstay : (Instr.keyThatStays e0.key (.int .i64 (n : Int))).run P W = .ok (.int .i64 (n : Int)) W := by
      rw [hkey]
      simp [Instr.keyThatStays, Instr.sameBits]
    refine SimAt.wrM (ms' := ms.modify j fun e => { e with key := .int .i64 (n : Int), val := vy }) (x := .val undefS) (res := .skip) hok hkt hr hb (run_unitS ?_) ?_ ⟨undef, undef_rep ν, .inr ⟨rfl, rfl⟩⟩
    · simp only [Int.ofNat_eq_natCast] at hfk ⊢
      have he0' : (ms[j]?).map (·.key) = some e0.key := by rw [he0]; rfl
      simp [Instr.mapUpdate, run_underlying hu, hg, hck, hfk, he0', hstay, hset]
    · have hml : (ms.modify j fun e => { e with key := .int .i64 (n : Int), val := vy }).toList = ms.toList.set j { e0 with key := .int .i64 (n : Int), val := vy } := by
        apply List.ext_getElem?
        intro m
        rw [Array.getElem?_toList, Array.getElem?_modify, List.getElem?_set]
        by_cases hjm : j = m
        · subst hjm
          rw [if_pos rfl, if_pos rfl, he0]
          have : j < ms.toList.length := by have := (Array.getElem?_eq_some_iff.1 he0).1; simpa using this
          rw [if_pos this]
          rfl
        · rw [if_neg hjm, if_neg hjm, Array.getElem?_toList]
      rw [hml]
      exact hl.set j ⟨rfl, hn, hy, hrel.2.2.2⟩
  · rename_i hf
    have g1 := find_none 0 hl hf
    have hfk := run_findKey' hk g1 W
    refine SimAt.wrM (ms' := ms.push { key := .int .i64 (n : Int), val := vy, born := c }) (x := .val undefS) (res := .skip) hok hkt hr hb (run_unitS ?_) ?_ ⟨undef, undef_rep ν, .inr ⟨rfl, rfl⟩⟩
    · simp only [Int.ofNat_eq_natCast] at hfk ⊢
      simp [Instr.mapUpdate, run_underlying hu, hg, hck, hfk, hset]
    · rw [Array.toList_push]
      exact hl.append (.cons ⟨rfl, hn, hy, rfl⟩ .nil)

/-- No function is the model's own name for the count of goroutines. -/
def Named (P : Program) : Prop := ∀ (f : FuncId) (fn : Func), P.funcs[f]? = some fn → (fn.name == "runtime.NumGoroutine") = false
theorem run_callFunc (hP : Named P) {f : FuncId} (hb : bodied P f = true) (args : Array Value) : (callFunc f args).run P W = .ok (.enter f args) W := by
  unfold bodied at hb
  cases hf : P.funcs[f]? with
  | none => rw [hf] at hb; cases hb
  | some fn =>
    rw [hf] at hb
    have hn := hP f fn hf
    have hn' : ¬ fn.name = "runtime.NumGoroutine" := by simpa using hn
    have hbn : ¬ fn.body = none := by intro e; simp [e] at hb
    unfold callFunc
    simp [program, Sem.run, hf, hn', hbn]
theorem callK_sim (hP : Named P) (hok : Ok P L ν h W) {f : FuncId} (hb : bodied P f = true) {xs : List (Env → Slot)} {us : Array Value} (hu : All2 (RepS ν) (all xs env) us.toList) {q : Sem Next} (hq : ∀ r, (callFunc f us).run P W = .ok r W → q.run P W = .ok r W) : SimAt P L ν h W (callK f xs env) q :=
  SimAt.ret (hq _ (run_callFunc hP hb us)) hok ⟨us, rfl, hu⟩
theorem funcOf_eq {v : Value} {f : FuncId} (h : funcOf v = some f) : v = .func (.func f) #[] #[] := by
  unfold funcOf at h
  split at h
  · cases h; rfl
  · cases h
theorem callC_sim (hP : Named P) (hok : Ok P L ν h W) {g : Env → Slot} {vf : Value} (hg : RepS ν (g env) vf) {xs : List (Env → Slot)} {us : Array Value} (hu : All2 (RepS ν) (all xs env) us.toList) {q : Sem Next}
    (hq : ∀ f first captured r, vf = .func (.func f) first captured → (callFunc f (first ++ us ++ captured)).run P W = .ok r W → q.run P W = .ok r W) : SimAt P L ν h W (callC P g xs env) q := by
  unfold callC
  generalize g env = sg at hg
  cases hg with
  | one hc =>
    cases hc with
    | flat v hv =>
      show SimAt P L ν h W (Option.rec (Exe.bad 95) (fun f => Exe.chk 221 (bodied P f) (M.ret (.enter f (all xs env)))) (funcOf vf)) q
      cases hf : funcOf vf with
      | none => exact SimAt.bad _ _
      | some f =>
        have e := funcOf_eq hf
        refine SimAt.chk fun hb => SimAt.ret (hq f #[] #[] _ e (by simpa using run_callFunc hP hb us)) hok ⟨us, rfl, hu⟩
    | @tok k _ o s hk hv =>
      refine SimAt.rdF hok fun f fs cs v' o' s' fs' cs' hk' e h1 h2 => SimAt.chk fun hb => ?_
      rw [hk] at hk'
      cases hk'
      refine SimAt.ret (hq f fs' cs' _ e (run_callFunc hP hb _)) hok ⟨_, rfl, ?_⟩
      rw [app_eq, app_eq]
      have := h1.append (hu.append h2)
      simpa [List.append_assoc] using this
    | _ => exact SimAt.bad _ _
  | _ => exact SimAt.bad _ _
end
end Go.Proofs.YtlpbbihjnmikkaaGreatDoor.Exe

namespace Go.Proofs.YtlpbbihjnmikkaaGreatDoor.Exe
set_option linter.unusedSimpArgs false

section
variable {P : Program} {L : Lore} {ν : Nu} {h : Heap D} {W : World} {ρ : Operand → Value} {env : Env}
theorem arr_of {α : Type} {a : Array α} {l : List α} (h : a.toList = l) : a = l.toArray := by rw [← h]
theorem two_of {x y : Env → Slot} {us : Array Value} (hu : All2 (RepS ν) (all [x, y] env) us.toList) : ∃ v u, us = #[v, u] ∧ RepS ν (x env) v ∧ RepS ν (y env) u := by
  have hu' : All2 (RepS ν) [x env, y env] us.toList := hu
  generalize hl : us.toList = l at hu'
  cases hu' with
  | cons h1 h2 =>
    cases h2 with
    | cons h3 h4 =>
      cases h4
      exact ⟨_, _, arr_of hl, h1, h3⟩
theorem one_of {x : Env → Slot} {us : Array Value} (hu : All2 (RepS ν) (all [x] env) us.toList) : ∃ v, us = #[v] ∧ RepS ν (x env) v := by
  have hu' : All2 (RepS ν) [x env] us.toList := hu
  generalize hl : us.toList = l at hu'
  cases hu' with
  | cons h1 h2 =>
    cases h2
    exact ⟨_, arr_of hl, h1⟩
theorem appendD_sim (hok : Ok P L ν h W) (ts : Array TypeId) (ty : TypeId) {s x : Env → Slot} {v u : Value} (hs : RepS ν (s env) v) (hx : RepS ν (x env) u) : SimAt P L ν h W ((appendD P ts.toList s x : WD).out env) (valS (Builtin.append_ ts ty #[v, u])) := by
  unfold appendD
  split
  · rename_i t w hts
    obtain rfl := arr_of hts
    refine withO_sim fun p hp => withO_sim fun z hz => ?_
    obtain ⟨i, hu, hi, hsz, h1, h4, hby⟩ := elemOfA_eq hp
    obtain ⟨i', zv, hi', hv, hc, hzl, hvl⟩ := zerosOf_eq hz
    rw [hi] at hi'
    cases hi'
    split
    · rename_i k hw
      rw [← hsz]
      exact appendZ_sim hok hu hw hi hv hc (by rw [hvl, hsz]) (by rw [hsz]; exact h1) hby hs hx
    · rename_i e' hw
      rw [← hsz]
      exact appendC_sim hok hu hw hi hv (by rw [hvl, hsz]) hby hs hx
    · exact badW_sim _ _
  · exact badW_sim _ _
theorem builtinD_sim (hok : Ok P L ν h W) (b : Go.Builtin) (ts : Array TypeId) (ty : TypeId) (consts : Array Bool) {xs : List (Env → Slot)} {us : Array Value} (hu : All2 (RepS ν) (all xs env) us.toList) : SimAt P L ν h W ((builtinD P b ts.toList xs : WD).out env) (builtin b ts ty consts us) := by
  unfold builtinD
  split
  · split
    · obtain ⟨v, u, rfl, h1, h2⟩ := two_of hu
      exact appendD_sim hok ts ty h1 h2
    · exact badW_sim _ _
  · split
    · obtain ⟨v, rfl, h1⟩ := one_of hu
      unfold lenD
      split
      · rename_i t hts
        obtain rfl := arr_of hts
        split
        · rename_i e ht; exact lenC_sim hok ht h1
        · rename_i ht; exact lenS_sim hok ht h1
        · rename_i a b ht; exact lenM_sim hok ht h1
        · rename_i n e ht
          refine num_sim (env := env) hok ?_
          simp [Builtin.len_, run_underlying ht]
          rfl
        · exact badW_sim _ _
      · exact badW_sim _ _
    · exact badW_sim _ _
  · split
    · obtain ⟨v, rfl, h1⟩ := one_of hu
      unfold capD
      split
      · rename_i t hts
        obtain rfl := arr_of hts
        split
        · rename_i e ht; exact capC_sim hok ht h1
        · rename_i n e ht
          refine num_sim (env := env) hok ?_
          simp [Builtin.cap_, run_underlying ht]
          rfl
        · exact badW_sim _ _
      · exact badW_sim _ _
    · exact badW_sim _ _
  · split
    · obtain ⟨v, rfl, h1⟩ := one_of hu
      unfold clearD
      split
      · rename_i t hts
        obtain rfl := arr_of hts
        refine withO_sim fun p hp => withO_sim fun z hz => ?_
        obtain ⟨i, hut, hi, hsz, _, _, _⟩ := elemOfA_eq hp
        obtain ⟨i', zv, hi', hv, hc, hzl, hvl⟩ := zerosOf_eq hz
        rw [hi] at hi'
        cases hi'
        rw [← hsz]
        exact clearC_sim hok hut hi hv hc (by rw [hzl, hsz]) (by rw [hvl, hsz]) h1
      · exact badW_sim _ _
    · exact badW_sim _ _
  · split
    · obtain ⟨v, u, rfl, h1, h2⟩ := two_of hu
      unfold copyD
      split
      · rename_i t w hts
        obtain rfl := arr_of hts
        refine withO_sim fun p hp => ?_
        obtain ⟨i, hut, hi, hsz, _, _, _⟩ := elemOfA_eq hp
        rw [← hsz]
        exact copyC_sim hok hut hi h1 h2
      · exact badW_sim _ _
    · exact badW_sim _ _
  · split
    · rename_i x xs
      have hu' : All2 (RepS ν) (x env :: all xs env) us.toList := hu
      generalize hl : us.toList = l at hu'
      cases hu' with
      | cons h1 h2 =>
        obtain rfl := arr_of hl
        exact extremeC_sim hok min2_eq min2F_lt h1 h2
    · exact badW_sim _ _
  · split
    · rename_i x xs
      have hu' : All2 (RepS ν) (x env :: all xs env) us.toList := hu
      generalize hl : us.toList = l at hu'
      cases hu' with
      | cons h1 h2 =>
        obtain rfl := arr_of hl
        exact extremeC_sim hok max2_eq max2F_lt h1 h2
    · exact badW_sim _ _
  · exact badW_sim _ _
theorem callD_sim (hP : Named P) (hok : Ok P L ν h W) (c : Call) (ty : TypeId) (hx : ∀ x ∈ c.operands, Says ν env ρ x) : SimAt P L ν h W ((callD P c : WD).out env) (do let d ← resolve ρ c ty; invoke d.target d.args) := by
  have hargs : ∀ {xs : List (Env → Slot)}, evsC c.args.toList = some xs → All2 (RepS ν) (all xs env) (c.args.map ρ).toList := fun hxs => by
    have := evs_rep hxs fun x hxm => hx x (by simp [Call.operands]; right; simpa using hxm)
    simpa using this
  unfold callD
  split
  · rename_i b hb
    refine withO_sim fun xs hxs => ?_
    have e : (do let d ← resolve ρ c ty; invoke d.target d.args : Sem Next) = builtin b c.argTypes ty (c.args.map fun | .const _ => true | _ => false) (c.args.map ρ) := by
      unfold resolve
      simp only [hb]
      rfl
    rw [e]
    exact builtinD_sim hok b _ _ _ (hargs hxs)
  · rename_i f hf
    refine withO_sim fun xs hxs => ?_
    cases hb : bodied P f with
    | false => exact badW_sim _ _
    | true =>
      refine callK_sim hP hok hb (hargs hxs) fun r hr => ?_
      have hv : ρ (.func f) = .func (.func f) #[] #[] := by
        have := hx (.func f) (by simp [Call.operands, hf]) _ rfl
        generalize ρ (.func f) = v at this
        cases this with
        | one hc => cases hc; rfl
      have e : (do let d ← resolve ρ c ty; invoke d.target d.args : Sem Next) = callFunc f ((#[] ++ c.args.map ρ) ++ #[]) := by
        unfold resolve
        simp only [hf, hv, Deferred.ofValue]
        rfl
      rw [e]
      simpa using hr
  · rename_i f hf' hf
    refine with1_sim (hx f (by simp [Call.operands, hf])) fun g hg => withO_sim fun xs hxs => ?_
    refine callC_sim hP hok hg (hargs hxs) fun fn first captured r e hr => ?_
    have e' : (do let d ← resolve ρ c ty; invoke d.target d.args : Sem Next) = callFunc fn ((first ++ c.args.map ρ) ++ captured) := by
      unfold resolve
      simp only [hf, e, Deferred.ofValue]
      rfl
    rw [e']
    exact hr
  · exact badW_sim _ _
theorem opD_sim (hP : Named P) (hok : Ok P L ν h W) (o : Oper) (hx : ∀ x ∈ o.op.operands, Says ν env ρ x) : SimAt P L ν h W ((opD P o.op : WD).out env) (execOp ρ o) := by
  obtain ⟨dst, op, type, pos, after, guard⟩ := o
  have hx : ∀ x ∈ op.operands, Says ν env ρ x := hx
  show SimAt P L ν h W ((opD P op : WD).out env) _
  cases op with
  | move x => exact with1_sim (hx x (by simp [Op.operands])) fun g hg => moveC_sim hok hg
  | assign x => exact with1_sim (hx x (by simp [Op.operands])) fun g hg => moveC_sim hok hg
  | pick c a b => exact with1_sim (hx c (by simp [Op.operands])) fun g hg => with1_sim (hx a (by simp [Op.operands])) fun g2 hg2 => with1_sim (hx b (by simp [Op.operands])) fun g3 hg3 => pickC_sim hok hg hg2 hg3
  | alloc t => exact withO_sim fun z hz => allocC_sim hok hz env
  | box t x => exact with1_sim (hx x (by simp [Op.operands])) fun g hg => boxC_sim hok hg
  | build t parts => exact buildD_sim hok t parts fun x hm => hx x (by simpa [Op.operands] using hm)
  | buildSlice t n parts => exact rowD_sim hok t n parts fun x hm => hx x (by simpa [Op.operands] using hm)
  | load t x => exact withO_sim fun k hk => with1_sim (hx x (by simp [Op.operands])) fun g hg => loadC_sim hok hk hg
  | store t x v => exact withO_sim fun n hn => with1_sim (hx x (by simp [Op.operands])) fun g hg => with1_sim (hx v (by simp [Op.operands])) fun g2 hg2 => storeC_sim hok hn hg hg2
  | nilCheck x =>
    refine with1_sim (hx x (by simp [Op.operands])) fun g hg => nilCheckC_sim hok hg fun a ha => ?_
    simp [execOp, ha]
  | binOp op t x y yt => exact with1_sim (hx x (by simp [Op.operands])) fun g hg => with1_sim (hx y (by simp [Op.operands])) fun g2 hg2 => binW_sim hok op t x y hg hg2
  | unOp op t x => exact with1_sim (hx x (by simp [Op.operands])) fun g hg => flatRun_sim (m := fun v => Op.unary op v) hok hg
  | convert s d x => exact with1_sim (hx x (by simp [Op.operands])) fun g hg => convD_sim hok s d hg
  | sliceToArrayPointer t x =>
    refine with1_sim (hx x (by simp [Op.operands])) fun g hg => ?_
    unfold arrD
    split
    · rename_i n e ht; exact arrC_sim hok ht hg
    · exact badW_sim _ _
  | makeFunc fn fs cs =>
    cases fn with
    | func f => exact withO_sim fun gs hgs => withO_sim fun ks hks => funcC_sim hok hgs hks (fun x hm => hx x (by simp [Op.operands]; left; simpa using hm)) (fun x hm => hx x (by simp [Op.operands]; right; simpa using hm))
    | _ => exact badW_sim _ _
  | makeMap t r =>
    cases r with
    | none => exact makeMapC_sim (env := env) hok t
    | some r => exact badW_sim _ _
  | makeSlice t l c => exact withO_sim fun p hp => withO_sim fun z hz => with1_sim (hx l (by simp [Op.operands])) fun g hg => with1_sim (hx c (by simp [Op.operands])) fun g2 hg2 => makeSliceC_sim hok hp hz hg hg2
  | slice t x lo hi mx => exact with1_sim (hx x (by simp [Op.operands])) fun g hg => cutD_sim hok t hg lo hi mx (fun y hy => hx y (by simp [Op.operands, hy])) (fun y hy => hx y (by simp [Op.operands, hy])) (fun y hy => hx y (by simp [Op.operands, hy]))
  | fieldAddr s x i => exact with1_sim (hx x (by simp [Op.operands])) fun g hg => fieldAtD_sim hok s i hg
  | field s x i => exact with1_sim (hx x (by simp [Op.operands])) fun g hg => fieldD_sim hok s i hg
  | indexAddr t x i => exact with1_sim (hx x (by simp [Op.operands])) fun g hg => with1_sim (hx i (by simp [Op.operands])) fun g2 hg2 => indexAtD_sim hok t hg hg2
  | index t x i => exact with1_sim (hx x (by simp [Op.operands])) fun g hg => with1_sim (hx i (by simp [Op.operands])) fun g2 hg2 => indexD_sim hok t hg hg2
  | lookup t x i ok => exact withO_sim fun z hz => with1_sim (hx x (by simp [Op.operands])) fun g hg => with1_sim (hx i (by simp [Op.operands])) fun g2 hg2 => lookupC_sim hok hz hg hg2
  | mapUpdate t x i v => exact withO_sim fun z hz => with1_sim (hx x (by simp [Op.operands])) fun g hg => with1_sim (hx i (by simp [Op.operands])) fun g2 hg2 => with1_sim (hx v (by simp [Op.operands])) fun g3 hg3 => updateC_sim hok hz hg hg2 hg3
  | extract x j => exact with1_sim (hx x (by simp [Op.operands])) fun g hg => extractC_sim hok j hg
  | call c => exact callD_sim hP hok c type hx
  | _ => exact badW_sim _ _
end
end Go.Proofs.YtlpbbihjnmikkaaGreatDoor.Exe

namespace Go.Proofs.YtlpbbihjnmikkaaGreatDoor.Exe
set_option linter.unusedSimpArgs false

section
variable {P : Program} {L : Lore} {ν ν' : Nu} {h : Heap D} {W : World} {env : Env}
/-- The slots say what the frame's are. -/
structure RepE (ν : Nu) (n : Nat) (env : Env) (tmps : Array Value) : Prop where
  size : tmps.size = n
  le : n ≤ 512
  has : ∀ t, t < n → RepS ν ((slotAt t).out env) (tmps.getD t undef)
  glob : ν 0 = some (.blk 0 1)
theorem RepE.mono {n : Nat} {tmps : Array Value} (h : RepE ν n env tmps) (hs : Sub ν ν') : RepE ν' n env tmps := ⟨h.size, h.le, fun t ht => (h.has t ht).mono hs, hs _ _ h.glob⟩
theorem slot_put {t d : Nat} (ht : t < 512) (hd : d < 512) (v : Slot) (env : Env) : (slotAt t).out ((slotPut d).out (some v) env) = if t = d then v else (slotAt t).out env := by
  unfold slotAt slotPut
  rw [get_put _ _ _ _ _ _ (by rw [path_length, path_length])]
  by_cases e : t = d
  · subst e; rw [if_pos rfl, if_pos rfl]
  · rw [if_neg e, if_neg fun hp => e (path_inj 3 t d (by omega) (by omega) hp)]
theorem RepE.put {n : Nat} {a : Act} (hr : RepE ν n env a.tmps) {o : Oper} (ho : dstIn n o.dst = true) {s : Slot} {v : Value} (hs : RepS ν s v) : RepE ν n ((dstD o).out s env) (a.put o.dst v).tmps := by
  unfold dstD
  cases hd : o.dst with
  | none => simp only [hd]; exact hr
  | some d =>
    rw [hd] at ho
    have hlt : d < n := by
      have : Nat.blt d n = true := ho
      simpa [Nat.blt_eq] using this
    have hd512 : d < 512 := Nat.lt_of_lt_of_le hlt hr.le
    show RepE ν n ((slotPut d).out (some s) env) (a.tmps.setIfInBounds d v)
    refine ⟨by simpa using hr.size, hr.le, fun t ht => ?_, hr.glob⟩
    rw [slot_put (Nat.lt_of_lt_of_le ht hr.le) hd512]
    by_cases e : t = d
    · subst e
      rw [if_pos rfl]
      have : t < a.tmps.size := by rw [hr.size]; exact ht
      simpa [this] using hs
    · rw [if_neg e]
      have := hr.has t ht
      rwa [show (a.tmps.setIfInBounds d v).getD t undef = a.tmps.getD t undef by
        simp [Array.getElem?_setIfInBounds_ne (Ne.symm e)]]
theorem RepE.says {n : Nat} {a : Act} (hr : RepE ν n env a.tmps) {x : Operand} (hx : opndIn n x = true) : Says ν env a.eval x := fun f hf => by
  cases x with
  | tmp t =>
    have hlt : t < n := by simpa [opndIn, Nat.blt_eq] using hx
    cases hf
    exact hr.has t hlt
  | const v =>
    unfold evC at hf
    simp only at hf
    split at hf
    · rename_i s hs
      cases hf
      exact slotOf_rep ν hs
    · cases hf
  | global g =>
    have hf : (Bool.rec none (some fun _ => .one (.ptr 0 0)) (Nat.beq g 0) : Option (Env → Slot)) = some f := hf
    cases hg : Nat.beq g 0 with
    | false => rw [hg] at hf; cases hf
    | true =>
      rw [hg] at hf
      cases hf
      rw [Nat.eq_of_beq_eq_true hg]
      exact .one (.ptr hr.glob)
  | func f =>
    cases hf
    exact .one (RepC.flat (.func (.func f) #[] #[]) rfl)
theorem opndsIn_mem {n : Nat} : ∀ {l : List Operand}, opndsIn n l = true → ∀ x ∈ l, opndIn n x = true
  | [], _, x, hx => by cases hx
  | y :: l, h, x, hx => by
    have e : opndsIn n (y :: l) = Bool.rec false (opndsIn n l) (opndIn n y) := rfl
    rw [e] at h
    cases hy : opndIn n y with
    | false => rw [hy] at h; cases h
    | true =>
      rw [hy] at h
      rcases List.mem_cons.1 hx with rfl | hx
      · exact hy
      · exact opndsIn_mem h x hx
theorem opersIn_mem {n : Nat} : ∀ {l : List Oper}, opersIn n l = true → ∀ x ∈ l, operIn n x = true
  | [], _, x, hx => by cases hx
  | y :: l, h, x, hx => by
    have e : opersIn n (y :: l) = Bool.rec false (opersIn n l) (operIn n y) := rfl
    rw [e] at h
    cases hy : operIn n y with
    | false => rw [hy] at h; cases h
    | true =>
      rw [hy] at h
      rcases List.mem_cons.1 hx with rfl | hx
      · exact hy
      · exact opersIn_mem h x hx
/-- What the reckoner says of a call holds of it. -/
def CallOk (P : Program) (L : Lore) (call : Callee) : Prop := ∀ f args h nx r w v h' nx' r' w', call f args h nx r w = .ok v h' nx' r' w' → ∀ ν W (args' : Array Value), Ok P L ν h W → Fresh ν nx nx' → All2 (RepS ν) args args'.toList →
  Calls P f args' W fun e W' => ∃ u ν', e = .returned u ∧ Ext ν ν' nx nx' ∧ Ok P L ν' h' W' ∧ RepS ν' v u
/-- An operation, wanted or not. -/
def stepWp (P : Program) (ops : Array Oper) (Q : Exit → Act → World → Prop) (o : Oper) (K : Act → World → Prop) (a : Act) (w : World) : Prop :=
  if Region.wanted o (yielded ops a.tmps) then o.wp P a w K Q ∨ (o.asks P a w ∧ LetsOut Q) else K (a.put o.dst undef) w
theorem wpOp_eq {ops : Array Oper} {Q : Exit → Act → World → Prop} {i : Nat} {o : Oper} (ho : ops[i]? = some o) (K : Act → World → Prop) (a : Act) (w : World) : Go.wpOp P ops Q i K a w = stepWp P ops Q o K a w := by
  unfold Go.wpOp stepWp
  simp only [ho]
theorem wpList_eq {ops : Array Oper} {Q : Exit → Act → World → Prop} (o : Oper) (rest : List Oper) (a : Act) (w : World) : wpList P ops Q (o :: rest) a w = stepWp P ops Q o (wpList P ops Q rest) a w := by
  conv => lhs; unfold wpList
  rfl
section
variable {call : Callee}
theorem main_sim (hloc : ∀ f args, Loc (call f args)) (hcall : CallOk P L call) (hP : Named P) {Q : Exit → Act → World → Prop} {o : Oper} {n : Nat} (hin : operIn n o = true) {nx r w : Nat} {v : Slot} {h' : Heap D} {nx' r' w' : Nat} (he : M.bind ((opD P o.op : WD).out env) (enterA call) h nx r w = .ok v h' nx' r' w')
    (hok : Ok P L ν h W) (hf : Fresh ν nx nx') {a : Act} (hr : RepE ν n env a.tmps) {K : Act → World → Prop} (hK : ∀ ν' W' u, Ext ν ν' nx nx' → Ok P L ν' h' W' → RepS ν' v u → K (a.put o.dst u) W') : o.wp P a W K Q := by
  simp only [operIn, Bool.and_eq_true] at hin
  obtain ⟨x, h1, n1, r1, w1, e1, e2⟩ := bind_ok he
  obtain ⟨_, _, _, _, m1⟩ := opD_loc P o.op env _ _ _ _ _ _ _ _ _ e1
  have hm1 := m1.mono
  have hm2 : n1 ≤ nx' := by
    obtain ⟨_, _, _, _, m2⟩ := enterA_loc hloc x _ _ _ _ _ _ _ _ _ e2
    exact m2.mono
  obtain ⟨res, W1, ν1, q1, q2, q3, q4⟩ := opD_sim hP hok o (fun y hy => hr.says (opndsIn_mem hin.2 y (by simpa using hy))) _ _ _ _ _ _ _ _ e1 (hf.left hm2)
  unfold Oper.wp
  rw [q1]
  cases x with
  | val s =>
    cases e2
    obtain ⟨u, hu, hres⟩ := q4
    rcases hres with rfl | ⟨rfl, rfl⟩
    · exact hK ν1 W1 u q2 q3 hu
    · exact hK ν1 W1 undef q2 q3 hu
  | enter f args =>
    obtain ⟨args', rfl, hargs⟩ := q4
    have hc := hcall f args _ _ _ _ _ _ _ _ _ e2 ν1 W1 args' q3 (hf.right hm1 q2) hargs
    show Calls P f args' W1 _
    refine Calls.mono hc fun e W2 hp => ?_
    obtain ⟨u, ν2, rfl, g1, g2, g3⟩ := hp
    exact hK ν2 W2 u (q2.trans hm1 hm2 g1) g2 g3
theorem step_sim (hloc : ∀ f args, Loc (call f args)) (hcall : CallOk P L call) (hP : Named P) {ops : Array Oper} {Q : Exit → Act → World → Prop} {o : Oper} {n : Nat} (hin : operIn n o = true) (hops : ∀ x ∈ ops.toList, operIn n x = true) {nx r w : Nat} {v : Slot} {h' : Heap D} {nx' r' w' : Nat} (he : (stepW P ops o).out call env h nx r w = .ok v h' nx' r' w')
    (hok : Ok P L ν h W) (hf : Fresh ν nx nx') {a : Act} (hr : RepE ν n env a.tmps) {K : Act → World → Prop} (hK : ∀ ν' W' u, Ext ν ν' nx nx' → Ok P L ν' h' W' → RepS ν' v u → K (a.put o.dst u) W') : stepWp P ops Q o K a W := by
  unfold stepW at he
  unfold stepWp
  cases hg : guardD ops o with
  | none => rw [hg] at he; cases he
  | some g =>
    rw [hg] at he
    cases g with
    | none =>
      have hgn : o.guard = none := by
        unfold guardD at hg
        split at hg
        · assumption
        · split at hg
          · split at hg <;> cases hg
          · cases hg
      have hw : Region.wanted o (yielded ops a.tmps) = true := by simp [Region.wanted, hgn]
      rw [if_pos hw]
      exact .inl (main_sim hloc hcall hP hin he hok hf hr hK)
    | some g =>
      obtain ⟨j, want, oj, d, hgd, hoj, hdst, rfl⟩ : ∃ j want oj d, o.guard = some (j, want) ∧ ops[j]? = some oj ∧ oj.dst = some d ∧ g = ((slotAt d).out, want) := by
        unfold guardD at hg
        split at hg
        · cases hg
        · rename_i j want hgd
          split at hg
          · rename_i oj hoj
            split at hg
            · rename_i d hd
              refine ⟨j, want, oj, d, hgd, hoj, hd, ?_⟩
              have : (some (some ((slotAt d).out, want)) : Option (Option ((Env → Slot) × Bool))) = some (some g) := hg
              simpa using this.symm
            · cases hg
          · cases hg
      have hdn : d < n := by
        have := hops oj (by have := Array.mem_of_getElem? hoj; simpa using this)
        simp only [operIn, Bool.and_eq_true, hdst] at this
        have h1 : Nat.blt d n = true := this.1
        simpa [Nat.blt_eq] using h1
      have hrd := hr.has d hdn
      have htm : a.tmps[d]? = some (a.tmps.getD d undef) := by
        have : d < a.tmps.size := by rw [hr.size]; exact hdn
        simp [this]
      have hy : yielded ops a.tmps j = match a.tmps.getD d undef with | .bool b => some b | _ => none := by
        unfold yielded
        simp only [hoj, Option.bind_some, hdst, htm]
        generalize a.tmps.getD d undef = x
        cases x <;> rfl
      have hwd : Region.wanted o (yielded ops a.tmps) = (yielded ops a.tmps j == some want) := by simp [Region.wanted, hgd]
      have he' : onlyIf want ((slotAt d).out env) (M.bind ((opD P o.op : WD).out env) (enterA call)) h nx r w = .ok v h' nx' r' w' := he
      rw [hwd, hy]
      generalize (slotAt d).out env = sl at he' hrd
      generalize a.tmps.getD d undef = vd at hrd
      have hskip : ∀ {x : Nat → Nat}, (M.ret undefS : M D Slot) h nx r w = .ok v h' nx' r' w' → K (a.put o.dst undef) W := fun {x} e => by
        cases e
        exact hK ν W undef (Ext.refl _ _) hok (undef_rep ν)
      cases hrd with
      | one hc =>
        cases hc with
        | bool b =>
          cases b <;> cases want
          · exact .inl (main_sim hloc hcall hP hin he' hok hf hr hK)
          · exact hskip (x := id) he'
          · exact hskip (x := id) he'
          · exact .inl (main_sim hloc hcall hP hin he' hok hf hr hK)
        | _ => cases he'
      | agg _ _ => cases he'
      | tup _ => exact hskip (x := id) he'
theorem list_sim (hloc : ∀ f args, Loc (call f args)) (hcall : CallOk P L call) (hP : Named P) {ops : Array Oper} {Q : Exit → Act → World → Prop} {n : Nat} (hops : ∀ x ∈ ops.toList, operIn n x = true) : ∀ (l : List Oper), (∀ x ∈ l, operIn n x = true) → ∀ {env : Env} {ν : Nu} {h : Heap D} {W : World} {nx r w : Nat} {env' : Env} {h' : Heap D} {nx' r' w' : Nat},
    (listW P ops l).out call env h nx r w = .ok env' h' nx' r' w' → Ok P L ν h W → Fresh ν nx nx' → ∀ {a : Act}, RepE ν n env a.tmps →
    (∀ ν' W' a', Ext ν ν' nx nx' → Ok P L ν' h' W' → RepE ν' n env' a'.tmps → a'.defers = a.defers → Q .normal a' W') → wpList P ops Q l a W
  | [], _, env, ν, h, W, nx, r, w, env', h', nx', r', w', he, hok, hf, a, hr, hQ => by
    cases he
    exact hQ ν W a (Ext.refl _ _) hok hr rfl
  | o :: l, hl, env, ν, h, W, nx, r, w, env', h', nx', r', w', he, hok, hf, a, hr, hQ => by
    rw [listW_cons] at he
    obtain ⟨v, h1, n1, r1, w1, e1, e2⟩ := bind_ok he
    have hm1 : nx ≤ n1 := by
      obtain ⟨_, _, _, _, m1⟩ := stepW_loc P ops o call hloc env _ _ _ _ _ _ _ _ _ e1
      exact m1.mono
    have hm2 : n1 ≤ nx' := by
      obtain ⟨_, _, _, _, m2⟩ := listW_loc P ops l call hloc _ _ _ _ _ _ _ _ _ _ e2
      exact m2.mono
    rw [wpList_eq]
    have ho := hl o List.mem_cons_self
    refine step_sim hloc hcall hP ho hops e1 hok (hf.left hm2) hr fun ν1 W1 u g1 g2 g3 => ?_
    have hod : dstIn n o.dst = true := by simp only [operIn, Bool.and_eq_true] at ho; exact ho.1
    refine list_sim hloc hcall hP hops l (fun x hx => hl x (List.mem_cons_of_mem _ hx)) e2 g2 (hf.right hm1 g1) ((hr.mono g1.sub).put hod g3) fun ν2 W2 a2 q1 q2 q3 q4 => hQ ν2 W2 a2 (g1.trans hm1 hm2 q1) q2 q3 ?_
    rw [q4]
    cases o.dst <;> rfl
end
end
end Go.Proofs.YtlpbbihjnmikkaaGreatDoor.Exe
