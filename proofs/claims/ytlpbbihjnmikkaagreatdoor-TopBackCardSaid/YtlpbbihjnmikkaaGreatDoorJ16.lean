/-
  Joined: ExeC, ExeE, Use
-/
import Derived.Test.YtlpbbihjnmikkaaGreatDoorJ15
import Derived.Test.YtlpbbihjnmikkaaGreatDoorJ14
import Derived.KernelRfl
namespace Go.Proofs.YtlpbbihjnmikkaaGreatDoor.Exe
set_option linter.unusedSimpArgs false

section
variable {P : Program} {L : Lore}
theorem least {p : Nat → Prop} (h : ∃ n, p n) : ∃ n, p n ∧ ∀ k, k < n → ¬ p k := by
  obtain ⟨n, hn⟩ := h
  induction n using Nat.strongRecOn with
  | _ n ih =>
    by_cases hk : ∃ k, k < n ∧ p k
    · obtain ⟨k, h1, h2⟩ := hk
      exact ih k h1 h2
    · exact ⟨n, hn, fun k h1 h2 => hk ⟨k, h1, h2⟩⟩
/-- A loop, by how many rounds it is away from its end. -/
theorem wp_loop_far {c : Code} {Q : Exit → Act → World → Prop} (R : Nat → Act → World → Prop) (hR : ∀ m a w, R m a w → ∃ m', m = m' + 1 ∧ c.wp P (Exit.then (fun a' w' => R m' a' w') Q) a w) {m : Nat} {a : Act} {w : World} (h : R m a w) : (Code.loop c).wp P Q a w := by
  classical
  let μ : Act → World → Nat := fun a w => if h : ∃ m, R m a w then Classical.choose (least h) else 0
  have hμ : ∀ a w (h : ∃ m, R m a w), R (μ a w) a w ∧ ∀ k, k < μ a w → ¬ R k a w := fun a w h => by
    have := Classical.choose_spec (least h)
    simp only [μ, dif_pos h]
    exact this
  refine wp_loop (fun a w => ∃ m, R m a w) μ ⟨m, h⟩ fun a w hI => ?_
  obtain ⟨h1, _⟩ := hμ a w hI
  obtain ⟨m', he, hw⟩ := hR _ a w h1
  refine Code.wp_mono (fun e a' w' q => ?_) hw
  cases e with
  | normal =>
    have hI' : ∃ m, R m a' w' := ⟨m', q⟩
    refine ⟨hI', ?_⟩
    obtain ⟨_, g2⟩ := hμ a' w' hI'
    rcases Nat.lt_or_ge m' (μ a' w') with hlt | hge
    · exact absurd q (g2 m' hlt)
    · omega
  | _ => exact q
def exitOf : Ex → Exit
  | .normal => .normal
  | .exit i => .exit i
  | .ret => .ret
/-- What a code's run says. -/
def CodeOk (P : Program) (L : Lore) (call : Callee) (n : Nat) (c : Code) (f : Run) : Prop :=
  ∀ env h nx r w x envF hF nxF rF wF, f call env h nx r w = .ok (x, envF) hF nxF rF wF → ∀ ν W a, Ok P L ν h W → Fresh ν nx nxF → RepE ν n env a.tmps → ∀ Q : Exit → Act → World → Prop,
    (∀ ν' W' a', Ext ν ν' nx nxF → Ok P L ν' hF W' → RepE ν' n envF a'.tmps → a'.defers = a.defers → Q (exitOf x) a' W') → c.wp P Q a W
section
variable {call : Callee}
theorem code_sim (hloc : ∀ f args, Loc (call f args)) (hcall : CallOk P L call) (hP : Named P) (hmix : P.follows .mixedOrders = true) {n : Nat} (hn : n ≤ 512) (rounds : Nat) (c : Code) (hw : within n c = true) : CodeOk P L call n c (codeW P rounds c).out := by
  induction c with
  | skip =>
    intro env h nx r w x envF hF nxF rF wF he ν W a hok hf hre Q hQ
    cases he
    exact wp_skip (hQ ν W a (Ext.refl _ _) hok hre rfl)
  | label l =>
    intro env h nx r w x envF hF nxF rF wF he ν W a hok hf hre Q hQ
    cases he
    exact wp_label (hQ ν W a (Ext.refl _ _) hok hre rfl)
  | exit i =>
    intro env h nx r w x envF hF nxF rF wF he ν W a hok hf hre Q hQ
    cases he
    exact wp_exit (hQ ν W a (Ext.refl _ _) hok hre rfl)
  | ret =>
    intro env h nx r w x envF hF nxF rF wF he ν W a hok hf hre Q hQ
    cases he
    exact wp_ret (hQ ν W a (Ext.refl _ _) hok hre rfl)
  | region id ops draw =>
    have hops : ∀ x ∈ ops.toList, operIn n x = true := opersIn_mem hw
    intro env h nx r w x envF hF nxF rF wF he ν W a hok hf hre Q hQ
    cases draw with
    | false =>
      have he' : M.bind ((listW P ops ops.toList).out call env) (fun env => M.ret (.normal, env)) h nx r w = .ok (x, envF) hF nxF rF wF := he
      obtain ⟨env', h1, n1, r1, w1, e1, e2⟩ := bind_ok he'
      cases e2
      exact wp_region_list (list_sim hloc hcall hP hops ops.toList hops e1 hok hf hre fun ν' W' a' g1 g2 g3 g4 => hQ ν' W' a' g1 g2 g3 g4)
    | true =>
      have e0 : (regionW P ops true).out = match Nat.ble ops.size 512 with
          | false => badR 195
          | true => drawR (drawW P ops (masks ops.toList []) ops.toList [] 0).out := by
        unfold regionW
        cases Nat.ble ops.size 512 <;> rfl
      have he' : (regionW P ops true).out call env h nx r w = .ok (x, envF) hF nxF rF wF := he
      rw [e0] at he'
      cases hb : Nat.ble ops.size 512 with
      | false => rw [hb] at he'; cases he'
      | true =>
        rw [hb] at he'
        have he2 : M.bind ((drawW P ops (masks ops.toList []) ops.toList [] 0).out call env .leaf) (fun env => M.ret (.normal, env)) h nx r w = .ok (x, envF) hF nxF rF wF := he'
        obtain ⟨env', h1, n1, r1, w1, e1, e2⟩ := bind_ok he2
        cases e2
        refine wp_region_any hmix ?_
        exact draw_sim hloc hcall hP hn hops (Nat.le_of_ble_eq_true hb) e1 (hok.world fun _ _ => rfl) hf hre fun ν' W' a' g1 g2 g3 g4 => hQ ν' W' a' g1 g2 g3 g4
  | seq c1 c2 ih1 ih2 =>
    have hw' : within n c1 = true ∧ within n c2 = true := by
      have : (within n c1 && within n c2) = true := hw
      simpa using this
    intro env h nx r w x envF hF nxF rF wF he ν W a hok hf hre Q hQ
    rw [codeW_seq] at he
    obtain ⟨⟨x1, env1⟩, h1, n1, r1, w1, e1, e2⟩ := bind_ok he
    have hm1 : nx ≤ n1 := by
      obtain ⟨_, _, _, _, m1⟩ := codeW_loc P rounds c1 call hloc _ _ _ _ _ _ _ _ _ _ e1
      exact m1.mono
    have hm2 : n1 ≤ nxF := by
      obtain ⟨_, _, _, _, m2⟩ := onNormal_loc hloc (codeW_loc P rounds c2) (x1, env1) _ _ _ _ _ _ _ _ _ e2
      exact m2.mono
    refine wp_seq (ih1 hw'.1 _ _ _ _ _ _ _ _ _ _ _ e1 ν W a hok (hf.left hm2) hre _ fun ν1 W1 a1 g1 g2 g3 g4 => ?_)
    cases x1 with
    | normal =>
      refine ih2 hw'.2 _ _ _ _ _ _ _ _ _ _ _ e2 ν1 W1 a1 g2 (hf.right hm1 g1) g3 Q fun ν2 W2 a2 q1 q2 q3 q4 => hQ ν2 W2 a2 (g1.trans hm1 hm2 q1) q2 q3 (q4.trans g4)
    | exit i => cases e2; exact hQ ν1 W1 a1 g1 g2 g3 g4
    | ret => cases e2; exact hQ ν1 W1 a1 g1 g2 g3 g4
  | cond co c1 c2 ih1 ih2 =>
    have hw' : opndIn n co = true ∧ within n c1 = true ∧ within n c2 = true := by
      have : (opndIn n co && (within n c1 && within n c2)) = true := hw
      simpa using this
    intro env h nx r w x envF hF nxF rF wF he ν W a hok hf hre Q hQ
    rw [codeW_cond] at he
    cases hev : evC co with
    | none => rw [hev] at he; cases he
    | some g =>
      rw [hev] at he
      have hv := hre.says hw'.1 g hev
      have he' : asBool 197 (g env) (fun b => Bool.rec ((codeW P rounds c2).out call env) ((codeW P rounds c1).out call env) b) h nx r w = .ok (x, envF) hF nxF rF wF := he
      generalize g env = sg at he' hv
      generalize hval : a.eval co = vc at hv
      cases hv with
      | one hc =>
        cases hc with
        | bool b =>
          refine wp_cond (t := b) hval ?_
          cases b with
          | false => exact ih2 hw'.2.2 _ _ _ _ _ _ _ _ _ _ _ he' ν W a hok hf hre Q hQ
          | true => exact ih1 hw'.2.1 _ _ _ _ _ _ _ _ _ _ _ he' ν W a hok hf hre Q hQ
        | _ => cases he'
      | _ => cases he'
  | block id c ih =>
    intro env h nx r w x envF hF nxF rF wF he ν W a hok hf hre Q hQ
    rw [codeW_block] at he
    obtain ⟨⟨x1, env1⟩, h1, n1, r1, w1, e1, e2⟩ := bind_ok he
    cases x1 with
    | normal =>
      cases e2
      exact wp_block (ih hw _ _ _ _ _ _ _ _ _ _ _ e1 ν W a hok hf hre _ fun ν1 W1 a1 g1 g2 g3 g4 => hQ ν1 W1 a1 g1 g2 g3 g4)
    | ret =>
      cases e2
      exact wp_block (ih hw _ _ _ _ _ _ _ _ _ _ _ e1 ν W a hok hf hre _ fun ν1 W1 a1 g1 g2 g3 g4 => hQ ν1 W1 a1 g1 g2 g3 g4)
    | exit i =>
      have e2' : (Bool.rec (M.ret (.exit i, env1)) (M.ret (.normal, env1)) (Nat.beq i id) : M D (Ex × Env)) h1 n1 r1 w1 = .ok (x, envF) hF nxF rF wF := e2
      cases hb : Nat.beq i id with
      | true =>
        rw [hb] at e2'
        cases e2'
        have hid : i = id := Nat.eq_of_beq_eq_true hb
        refine wp_block (ih hw _ _ _ _ _ _ _ _ _ _ _ e1 ν W a hok hf hre _ fun ν1 W1 a1 g1 g2 g3 g4 => ?_)
        show (if i = id then Q .normal a1 W1 else Q (.exit i) a1 W1)
        rw [if_pos hid]
        exact hQ ν1 W1 a1 g1 g2 g3 g4
      | false =>
        rw [hb] at e2'
        cases e2'
        have hid : i ≠ id := fun e => by subst e; rw [Nat.beq_refl] at hb; cases hb
        refine wp_block (ih hw _ _ _ _ _ _ _ _ _ _ _ e1 ν W a hok hf hre _ fun ν1 W1 a1 g1 g2 g3 g4 => ?_)
        show (if i = id then Q .normal a1 W1 else Q (.exit i) a1 W1)
        rw [if_neg hid]
        exact hQ ν1 W1 a1 g1 g2 g3 g4
  | loop c ih =>
    intro env h nx r w x envF hF nxF rF wF he ν W a hok hf hre Q hQ
    rw [codeW_loop] at he
    have hlocf : ∀ env, Loc ((codeW P rounds c).out call env) := codeW_loc P rounds c call hloc
    refine wp_loop_far (m := rounds) (fun m a' w' => ∃ env1 ν1 h1 n1 r1 w1, iterA ((codeW P rounds c).out call) m env1 h1 n1 r1 w1 = .ok (x, envF) hF nxF rF wF ∧ Ok P L ν1 h1 w' ∧ nx ≤ n1 ∧ Ext ν ν1 nx n1 ∧ RepE ν1 n env1 a'.tmps ∧ a'.defers = a.defers) (fun m a' w' hR => ?_) ⟨env, ν, h, nx, r, w, he, hok, Nat.le_refl _, Ext.refl _ _, hre, rfl⟩
    obtain ⟨env1, ν1, h1, n1, r1, w1, e1, g2, g3, g4, g5, g6⟩ := hR
    cases m with
    | zero => cases e1
    | succ m =>
      refine ⟨m, rfl, ?_⟩
      obtain ⟨⟨x2, env2⟩, h2, n2, r2, w2, q1, q2⟩ := bind_ok e1
      have hm1 : n1 ≤ n2 := by
        obtain ⟨_, _, _, _, mv⟩ := hlocf env1 _ _ _ _ _ _ _ _ _ q1
        exact mv.mono
      cases x2 with
      | normal =>
        have q2' : iterA ((codeW P rounds c).out call) m env2 h2 n2 r2 w2 = .ok (x, envF) hF nxF rF wF := q2
        have hm2 : n2 ≤ nxF := by
          obtain ⟨_, _, _, _, mv⟩ := iterA_loc hlocf m env2 _ _ _ _ _ _ _ _ _ q2'
          exact mv.mono
        refine ih hw _ _ _ _ _ _ _ _ _ _ _ q1 ν1 w' a' g2 ((hf.right g3 g4).left hm2) g5 _ fun ν2 W2 a2 s1 s2 s3 s4 => ?_
        exact ⟨env2, ν2, h2, n2, r2, w2, q2', s2, Nat.le_trans g3 hm1, g4.trans g3 hm1 s1, s3, s4.trans g6⟩
      | exit i =>
        cases q2
        exact ih hw _ _ _ _ _ _ _ _ _ _ _ q1 ν1 w' a' g2 (hf.right g3 g4) g5 _ fun ν2 W2 a2 s1 s2 s3 s4 => hQ ν2 W2 a2 (g4.trans g3 hm1 s1) s2 s3 (s4.trans g6)
      | ret =>
        cases q2
        exact ih hw _ _ _ _ _ _ _ _ _ _ _ q1 ν1 w' a' g2 (hf.right g3 g4) g5 _ fun ν2 W2 a2 s1 s2 s3 s4 => hQ ν2 W2 a2 (g4.trans g3 hm1 s1) s2 s3 (s4.trans g6)
  | _ => intro env h nx r w x envF hF nxF rF wF he; cases he
end
end
end Go.Proofs.YtlpbbihjnmikkaaGreatDoor.Exe

namespace Go.Proofs.YtlpbbihjnmikkaaGreatDoor.Exe
set_option linter.unusedSimpArgs false

section
variable {P : Program} {L : Lore} {ν : Nu} {h : Heap D} {W : World} {env : Env}
/-- A load leaves all as it is. -/
theorem loadK_ok (hok : Ok P L ν h W) {t : TypeId} {kd : Kind} (hk : kindOf P t = some kd) {k off b room : Nat} (hs : ν k = some (.blk b room)) {nx r w : Nat} {y : Nx} {h' : Heap D} {nx' r' w' : Nat} (he : loadK kd k off h nx r w = .ok y h' nx' r' w') :
    h' = h ∧ nx' = nx ∧ ∃ s v, y = .val s ∧ RepS ν s v ∧ (loadVar t ⟨b, off, none⟩).run P W = .ok v W := by
  unfold loadK Exe.rdC at he
  obtain ⟨th, h1, n1, r1, w1, e1, e2⟩ := bind_ok he
  obtain ⟨hkt, rfl, rfl, rfl, rfl⟩ := rd_ok e1
  cases th with
  | cells n cs e =>
    obtain ⟨s, hs', ht⟩ := hok.thing k _ hkt
    rw [hs] at hs'
    cases hs'
    obtain ⟨c, hb, hr, hn, _⟩ := ht
    cases kd with
    | one =>
      obtain ⟨d, hu, hd⟩ := kind_one hk
      have e2' : Exe.chk 7 (Nat.blt off n) (ret1 (item zeroC off cs)) h1 n1 _ w1 = .ok y h' nx' r' w' := e2
      cases hc : Nat.blt off n with
      | false => rw [hc] at e2'; cases e2'
      | true =>
        rw [hc] at e2'
        cases e2'
        obtain ⟨v, hv, hrv⟩ := part_one hr hn (off := off) (by simpa [Nat.blt_eq] using hc)
        exact ⟨rfl, rfl, _, v, rfl, .one hrv, run_loadVar_one hu hd hb hv⟩
    | many m =>
      obtain ⟨d, i, hu, hd, hi, hsz⟩ := kind_many hk
      have e2' : Exe.chk 8 (Nat.ble (Nat.add off m) n) (M.ret (.val (.agg m (cut off m n cs)))) h1 n1 _ w1 = .ok y h' nx' r' w' := e2
      cases hc : Nat.ble (Nat.add off m) n with
      | false => rw [hc] at e2'; cases e2'
      | true =>
        rw [hc] at e2'
        cases e2'
        have ho : off + m ≤ n := Nat.le_of_ble_eq_true hc
        obtain ⟨g1, g2⟩ := part_many hr hn ho
        refine ⟨rfl, rfl, _, _, rfl, RepS.agg (vs := ((c.toList.drop off).take m).toArray) (by simpa using g1) g2, ?_⟩
        exact run_loadVar_mid W b off t _ d (range_of hb) hu hd (by rw [hi]; simp [hsz]; omega)
  | map es c => cases e2
  | fn f fs cs => cases e2
  | data d => cases e2
def resultG (tmps : Array Value) (x : ResultVar) : Sem Value := match x with
  | .tmp t => pure (tmps.getD t undef)
  | .cell a t => do loadVar t (← asAddr (tmps.getD a undef))
theorem results_sim {n : Nat} (hok : Ok P L ν h W) {tmps : Array Value} (hre : RepE ν n env tmps) : ∀ (l : List ResultVar), resultsIn n l = true → ∀ {f : List Slot → M D Slot} {nx r w : Nat} {s : Slot} {h' : Heap D} {nx' r' w' : Nat}, (resultsW P l).out env f h nx r w = .ok s h' nx' r' w' →
    ∃ vs us r1 w1, All2 (RepS ν) vs us ∧ (l.mapM (resultG tmps)).run P W = .ok us W ∧ f vs h nx r1 w1 = .ok s h' nx' r' w'
  | [], _, f, nx, r, w, s, h', nx', r', w', he => ⟨[], [], r, w, .nil, rfl, he⟩
  | .tmp t :: l, hin, f, nx, r, w, s, h', nx', r', w', he => by
    have hin' : (Bool.rec false (resultsIn n l) (Nat.blt t n) : Bool) = true := hin
    cases ht : Nat.blt t n with
    | false => rw [ht] at hin'; cases hin'
    | true =>
      rw [ht] at hin'
      have htn : t < n := by simpa [Nat.blt_eq] using ht
      rw [resultsW_tmp] at he
      obtain ⟨vs, us, r1, w1, g1, g2, g3⟩ := results_sim hok hre l hin' he
      exact ⟨_, tmps.getD t undef :: us, r1, w1, .cons (hre.has t htn) g1, by simp [List.mapM_cons, resultG, g2], g3⟩
  | .cell a t :: l, hin, f, nx, r, w, s, h', nx', r', w', he => by
    have hin' : (Bool.rec false (resultsIn n l) (Nat.blt a n) : Bool) = true := hin
    cases ha : Nat.blt a n with
    | false => rw [ha] at hin'; cases hin'
    | true =>
      rw [ha] at hin'
      have han : a < n := by simpa [Nat.blt_eq] using ha
      rw [resultsW_cell] at he
      cases hk : kindOf P t with
      | none => rw [hk] at he; cases he
      | some kd =>
        rw [hk] at he
        obtain ⟨y, h1, n1, r1, w1, e1, e2⟩ := bind_ok he
        have hra := hre.has a han
        generalize (slotAt a).out env = sa at e1 hra
        generalize hva : tmps.getD a undef = va at hra
        cases hra with
        | one hc =>
          cases hc with
          | @ptr k off b room hs =>
            obtain ⟨eh, en, s1, v, ey, hrs, hrun⟩ := loadK_ok hok hk hs e1
            rw [eh, en, ey] at e2
            have e2' : (resultsW P l).out env (fun vs => f (s1 :: vs)) h nx r1 w1 = .ok s h' nx' r' w' := e2
            obtain ⟨vs, us, r2, w2, g1, g2, g3⟩ := results_sim hok hre l hin' e2'
            refine ⟨_, v :: us, r2, w2, .cons hrs g1, ?_, g3⟩
            have : (resultG tmps (.cell a t)).run P W = .ok v W := by
              unfold resultG
              simp only [hva]
              simp [asAddr, hrun]
            simp [List.mapM_cons, this, g2]
          | _ => cases e1
        | _ => cases e1
theorem parts_ok : ∀ (l : List Slot) {us : List Value}, All2 (RepS ν) l us → ∀ {f : List Part → M D Slot} {nx r w : Nat} {s : Slot} {h' : Heap D} {nx' r' w' : Nat}, partsOf l f h nx r w = .ok s h' nx' r' w' → ∃ ps, All2 (RepP ν) ps us ∧ f ps h nx r w = .ok s h' nx' r' w'
  | [], us, hu, f, nx, r, w, s, h', nx', r', w', he => by cases hu; exact ⟨[], .nil, he⟩
  | x :: l, us, hu, f, nx, r, w, s, h', nx', r', w', he => by
    cases hu with
    | cons h1 h2 =>
      cases h1 with
      | one hc =>
        obtain ⟨ps, g1, g2⟩ := parts_ok l h2 (f := fun l => f (.one _ :: l)) he
        exact ⟨_, .cons (.one hc) g1, g2⟩
      | agg hl hn =>
        obtain ⟨ps, g1, g2⟩ := parts_ok l h2 (f := fun l => f (.agg _ _ :: l)) he
        exact ⟨_, .cons (.agg hl hn) g1, g2⟩
      | tup _ => cases he
theorem oneOf_ok {vs : List Slot} {us : List Value} (hu : All2 (RepS ν) vs us) {nx r w : Nat} {s : Slot} {h' : Heap D} {nx' r' w' : Nat} (he : oneOf vs h nx r w = .ok s h' nx' r' w') :
    h' = h ∧ nx' = nx ∧ RepS ν s (if h : us.toArray.size = 1 then us.toArray[0] else .tuple us.toArray) := by
  cases hu with
  | nil =>
    cases he
    exact ⟨rfl, rfl, .tup .nil⟩
  | @cons a b l k h1 h2 =>
    cases h2 with
    | nil =>
      cases he
      exact ⟨rfl, rfl, h1⟩
    | @cons a' b' l k h3 h4 =>
      have he' : partsOf (a :: a' :: l) (fun l => M.ret (.tup l)) h nx r w = .ok s h' nx' r' w' := he
      obtain ⟨ps, g1, g2⟩ := parts_ok _ (.cons h1 (.cons h3 h4)) he'
      cases g2
      refine ⟨rfl, rfl, ?_⟩
      rw [dif_neg (by simp)]
      exact .tup (by simpa using g1)
theorem leave_ok {n : Nat} (hok : Ok P L ν h W) {fn : Func} {tmps : Array Value} (hre : RepE ν n env tmps) (hin : resultsIn n fn.results.toList = true) {nx r w : Nat} {s : Slot} {h' : Heap D} {nx' r' w' : Nat} (he : (resultsW P fn.results.toList).out env oneOf h nx r w = .ok s h' nx' r' w') :
    h' = h ∧ nx' = nx ∧ ∃ v, RepS ν s v ∧ (results fn tmps).run P W = .ok v W := by
  obtain ⟨vs, us, r1, w1, g1, g2, g3⟩ := results_sim hok hre _ hin he
  obtain ⟨q1, q2, q3⟩ := oneOf_ok g1 g3
  refine ⟨q1, q2, _, q3, ?_⟩
  unfold results
  have hm : (fn.results.mapM (resultG tmps) : Sem (Array Value)).run P W = .ok us.toArray W := by
    rw [Array.mapM_eq_mapM_toList]
    simp [g2]
  change ((fn.results.mapM (resultG tmps) : Sem (Array Value)) >>= fun vs => pure (if h : vs.size = 1 then vs[0] else .tuple vs)).run P W = _
  rw [Sem.run_bind, hm]
  rfl
/-- A frame's slots at its beginning. -/
theorem enter_slot : ∀ (args : List Slot) (i t : Nat), t < 512 → i + args.length ≤ 512 → (slotAt t).out (enter args i) = if i ≤ t then (args[t - i]?).getD undefS else undefS
  | [], i, t, ht, _ => by
    have : enter [] i = (.leaf : Env) := rfl
    rw [this]
    unfold slotAt
    rw [get_leaf]
    split <;> simp
  | v :: args, i, t, ht, hi => by
    have e : enter (v :: args) i = (slotPut i).out (some v) (enter args (i + 1)) := rfl
    have hi' : i + 1 + args.length ≤ 512 := by simp at hi; omega
    rw [e, slot_put ht (by omega), enter_slot args (i + 1) t ht hi']
    by_cases h1 : t = i
    · subst h1; simp
    · rw [if_neg h1]
      by_cases h2 : i ≤ t
      · rw [if_pos h2, if_pos (by omega), show t - i = (t - (i + 1)) + 1 by omega, List.getElem?_cons_succ]
      · rw [if_neg h2, if_neg (by omega)]
theorem enter_rep {args : List Slot} {args' : Array Value} (ha : All2 (RepS ν) args args'.toList) {n : Nat} (hn : n ≤ 512) (hl : args.length ≤ n) (hb : ν 0 = some (.blk 0 1)) : RepE ν n (enter args 0) (args' ++ Array.replicate (n - args'.size) undef) := by
  have hsz : args'.size = args.length := by have := ha.length; simp at this; omega
  refine ⟨by simp; omega, hn, fun t ht => ?_, hb⟩
  rw [enter_slot args 0 t (by omega) (by omega), if_pos (Nat.zero_le _), Nat.sub_zero]
  by_cases h : t < args.length
  · have h' : t < args'.size := by omega
    rw [List.getElem?_eq_getElem h, Option.getD_some]
    have e : (args' ++ Array.replicate (n - args'.size) undef).getD t undef = args'[t] := by
      simp [Array.getElem?_append_left h', h']
    rw [e]
    exact ha.get (List.getElem?_eq_getElem h) (by simp [h'])
  · rw [List.getElem?_eq_none (by omega), Option.getD_none]
    have e : (args' ++ Array.replicate (n - args'.size) undef).getD t undef = undef := by
      simp [Array.getElem?_append_right (by omega : args'.size ≤ t)]
      rw [Array.getElem?_replicate]
      split <;> rfl
    rw [e]
    exact undef_rep ν
/-- THE LAW OF THE RECKONER: what it says of a call holds of it, if what it is told of the known functions does. -/
theorem run_sim (hP : Named P) (hmix : P.follows .mixedOrders = true) {K : Known} (hKloc : ∀ f k args, K f = some k → Loc (k args))
    (hK : ∀ f k, K f = some k → CallOk P L (fun g args => if g = f then k args else Exe.bad 0)) (rounds : Nat) : ∀ n, CallOk P L (runA P K rounds n)
  | 0 => fun f args h nx r w v h' nx' r' w' he => by cases he
  | n + 1 => fun f args h nx r w v h' nx' r' w' he ν W args' hok hf ha => by
    have hloc := runA_loc P hKloc rounds n
    rw [runA_succ] at he
    cases hKf : K f with
    | some k =>
      rw [hKf] at he
      refine hK f k hKf f args h nx r w v h' nx' r' w' ?_ ν W args' hok hf ha
      simpa using he
    | none =>
      rw [hKf] at he
      have he0 : (bodyW P rounds (P.funcs[f]?)).out (runA P K rounds n) args h nx r w = .ok v h' nx' r' w' := he
      cases hfn : P.funcs[f]? with
      | none => rw [hfn] at he0; cases he0
      | some fn =>
        rw [hfn] at he0
        cases hb : fn.body with
        | none =>
          have e : bodyW P rounds (some fn) = .mk (badB 207) := by unfold bodyW; simp only [hb]
          rw [e] at he0
          cases he0
        | some body =>
          rw [bodyW_some P rounds fn body hb] at he0
          cases hchk : (Nat.ble fn.ntmps 512 && (within fn.ntmps body && resultsIn fn.ntmps fn.results.toList)) with
          | false => rw [hchk] at he0; cases he0
          | true =>
            rw [hchk] at he0
            simp only [Bool.and_eq_true] at hchk
            have hn : fn.ntmps ≤ 512 := Nat.le_of_ble_eq_true hchk.1
            have he1 : Exe.chk 209 (Nat.ble (len args) fn.ntmps) (M.bind ((codeW P rounds body).out (runA P K rounds n) (enter args 0)) (leaveA (resultsW P fn.results.toList).out)) h nx r w = .ok v h' nx' r' w' := he0
            cases hlen : Nat.ble (len args) fn.ntmps with
            | false => rw [hlen] at he1; cases he1
            | true =>
              rw [hlen] at he1
              have hll : args.length ≤ fn.ntmps := by rw [← len_eq]; exact Nat.le_of_ble_eq_true hlen
              obtain ⟨⟨x, envF⟩, h1, n1, r1, w1, e1, e2⟩ := bind_ok he1
              have ih := run_sim hP hmix hKloc hK rounds n
              have hm : n1 ≤ nx' := by
                obtain ⟨_, _, _, _, mv⟩ := leaveA_loc (resultsW_loc P fn.results.toList) (x, envF) _ _ _ _ _ _ _ _ _ e2
                exact mv.mono
              refine calls_of_wp hfn hb ?_
              refine code_sim hloc ih hP hmix hn rounds body hchk.2.1 _ _ _ _ _ _ _ _ _ _ _ e1 ν W _ hok (hf.left hm) (enter_rep ha hn hll hok.base) _ fun ν1 W1 a1 g1 g2 g3 g4 => ?_
              have fin : (resultsW P fn.results.toList).out envF oneOf h1 n1 r1 w1 = .ok v h' nx' r' w' → a1.defers = [] ∧ ∃ u, (results fn a1.tmps).run P W1 = .ok u W1 ∧ (∃ u' ν', (Ending.returned u) = .returned u' ∧ Ext ν ν' nx nx' ∧ Ok P L ν' h' W1 ∧ RepS ν' v u') := fun e3 => by
                obtain ⟨q1, q2, u, q3, q4⟩ := leave_ok g2 g3 hchk.2.2 e3
                subst q1 q2
                exact ⟨g4, u, q4, u, ν1, rfl, g1, g2, q3⟩
              cases x with
              | normal => exact fin e2
              | ret => exact fin e2
              | exit i => cases e2
end
end Go.Proofs.YtlpbbihjnmikkaaGreatDoor.Exe

namespace Go.Proofs.YtlpbbihjnmikkaaGreatDoor.Exe
set_option linter.unusedSimpArgs false

theorem names_all : Tryz.prog.funcs.toList.all (fun fn => !(fn.name == "runtime.NumGoroutine")) = true := by kernel_rfl
theorem named : Named Tryz.prog := fun f fn hf => by
  have h := List.all_eq_true.1 names_all fn (by
    obtain ⟨hlt, e⟩ := Array.getElem?_eq_some_iff.1 hf
    rw [← e]
    exact Array.mem_toList_iff.2 (Array.getElem_mem hlt))
  simpa using h
theorem mixed : Tryz.prog.follows .mixedOrders = true := by kernel_rfl
theorem at_leaf (k : Nat) : Heap.at (Tr.leaf : Heap D) k = none := by
  rw [at_eq]
  split
  · exact get_leaf none some _
  · rfl
/-- The lore of a frame: all that is seen is as it was. -/
def frame (W0 : World) : Lore where
  home := W0
  conc d _ o s w := d = .still ∧ nobody o ∧ ∀ b, s b → b < w.heap.size ∧ w.heap[b]? = W0.heap[b]?
  stable {d v o s w w'} hw h := ⟨h.1, h.2.1, fun b hb => ⟨lt_of_get (hw b (.inr hb)) (h.2.2 b hb).1, (hw b (.inr hb)).trans (h.2.2 b hb).2⟩⟩
  below h b hb := hb.elim (fun hb => (h.2.1 b hb).elim) fun hb => (h.2.2 b hb).1
  len_ok hd h := by rw [h.1] at hd; cases hd
  conv_ok hd h := by rw [h.1] at hd; cases hd
  cmp_ok hd h := by rw [h.1] at hd; cases hd
  eq_ok hd h := by rw [h.1] at hd; cases hd
/-- Old blocks stay. -/
structure Keeps (n : Nat) (w w' : World) : Prop where
  size : w.heap.size ≤ w'.heap.size
  block : ∀ i : Nat, i < n → w'.heap[i]? = w.heap[i]?
  calm : Calm w w'
theorem Keeps.stays {n : Nat} {w w' : World} (h : Keeps n w w') : Stays n w w' := ⟨h.2, h.3⟩
theorem Calm.k {n : Nat} {w w' u : World} (h : Calm w w') (k : Keeps n w' u) : Calm w u := h.trans k.3
def frameNu (W : World) (z : Bool) : Nu := fun k => if k = 0 then some (.blk 0 1) else if k = 1 then some (.val (.bool true) (fun _ => False) (fun i => i < W.heap.size ∧ (z = true → i ≠ 0))) else none
noncomputable def tableT : Thing D := .cells 64 (table.map fun n => .flat (.int .u32 (.ofNat n))) 424
/-- A memory that holds but a frame, and the table. -/
noncomputable def frameH (z : Bool) : Heap D := cond z (Heap.lay (Heap.lay (Tr.leaf : Heap D) 1 (some (.data .still))) 0 (some tableT)) (Heap.lay (Tr.leaf : Heap D) 1 (some (.data .still)))
theorem frameH_at {z : Bool} {k : Nat} {t : Thing D} (h : (frameH z).at k = some t) : (k = 1 ∧ t = .data .still) ∨ (z = true ∧ k = 0 ∧ t = tableT) := by
  unfold frameH at h
  cases z with
  | false =>
    rw [cond_false, at_lay (by decide), at_leaf] at h
    split at h
    · rename_i e
      cases h
      exact .inl ⟨e, rfl⟩
    · cases h
  | true =>
    rw [cond_true, at_lay (by decide), at_lay (by decide), at_leaf] at h
    split at h
    · rename_i e
      cases h
      exact .inr ⟨rfl, e, rfl⟩
    · split at h
      · rename_i e
        cases h
        exact .inl ⟨e, rfl⟩
      · cases h
theorem flats_of (ν : Nu) : ∀ (l : List Nat), RepL ν (l.map fun n => .flat (.int .u32 (.ofNat n))) (l.map fun n => .int .u32 (.ofNat n))
  | [] => .nil
  | _ :: l => .cons (.flat _ rfl) (flats_of ν l)
theorem info424 : (Tryz.prog.info? 424).map (·.size) = some 64 := by kernel_rfl
theorem table_len : table.length = 64 := by kernel_rfl
theorem Ok.frame (W : World) (z : Bool) (hz : z = true → Laid W) : Ok Tryz.prog (frame W) (frameNu W z) (frameH z) W where
  base := rfl
  calm := Calm.refl _
  thing k t hk := by
    rcases frameH_at hk with ⟨rfl, rfl⟩ | ⟨hz', rfl, rfl⟩
    · exact ⟨_, rfl, rfl, nobody_no, fun b hb => ⟨hb.1, rfl⟩⟩
    · refine ⟨_, rfl, tableV, hz hz', ?_, ?_, fun _ => ?_⟩
      · rw [List.take_of_length_le (by simp [tableV, table_len])]
        exact flats_of _ _
      · simp [tableV, table_len]
      · obtain ⟨i, hi, hs⟩ := Option.map_eq_some_iff.1 info424
        exact ⟨i, hi, by rw [hs]; simp [tableV, table_len]⟩
  apart k k' t t' s s' hne hk hk' hs hs' b hb := by
    rcases frameH_at hk with ⟨rfl, rfl⟩ | ⟨hz', rfl, rfl⟩
    · cases hs
      exact hb.elim
    · rcases frameH_at hk' with ⟨rfl, rfl⟩ | ⟨_, rfl, rfl⟩
      · cases hs
        cases hs'
        exact ⟨fun h => h, fun h => h.2 hz' hb⟩
      · exact absurd rfl hne
noncomputable def still1 (h : Heap D) : Bool := match h.at 1 with
  | some (.data .still) => true
  | _ => false
theorem still1_at {h : Heap D} (e : still1 h = true) : h.at 1 = some (.data .still) := by
  unfold still1 at e
  split at e
  · assumption
  · cases e
noncomputable def table0 (h : Heap D) : Bool := match h.at 0 with
  | some (.cells n cs e) => Nat.beq n 64 && Nat.beq e 424 && isTable cs table
  | _ => false
theorem table0_laid {L : Lore} {ν : Nu} {h : Heap D} {W : World} (hok : Ok Tryz.prog L ν h W) (e : table0 h = true) : Laid W := by
  refine (tabled_ok (f := (M.ret () : M D Unit)) (nx := 0) (r := 0) (w := 0) (x := ()) (h' := h) (nx' := 0) (r' := Nat.lor 0 (bit 0)) (w' := 0) info424 hok ?_).1
  unfold table0 at e
  split at e
  · rename_i n cs ty hk
    unfold tabled Exe.rdC M.bind Exe.rd
    rw [hk]
    simp only [force_eq]
    show chk 305 _ _ h 0 _ 0 = _
    rw [e]
    rfl
  · cases e
/-- A call that the reckoner reckons with no memory: what it answers; and the blocks that were there stay. -/
theorem reckoned {z : Bool} {f : FuncId} {args : List Slot} {args' : Array Value} {rounds depth : Nat} {v : Slot} {h' : Heap D} {nx' r' w' : Nat} (he : runA Tryz.prog (fun _ => none) rounds depth f args (frameH z) 2 0 0 = .ok v h' nx' r' w') (h0 : (still1 h' && (!z || table0 h')) = true) (W : World) (hz : z = true → Laid W) (ha : All2 (RepS (frameNu W z)) args args'.toList) :
    Calls Tryz.prog f args' W fun e W' => ∃ u ν', e = .returned u ∧ Keeps W.heap.size W W' ∧ Ok Tryz.prog (frame W) ν' h' W' ∧ RepS ν' v u :=
  (run_sim named mixed (fun _ _ _ h => by cases h) (fun _ _ h => by cases h) rounds depth f args (frameH z) 2 0 0 v h' nx' r' w' he (frameNu W z) W args' (Ok.frame W z hz) (fun k h1 _ => by unfold frameNu; rw [if_neg (by omega), if_neg (by omega)]) ha).mono fun e W' ⟨u, ν', h1, h4, h2, h3⟩ => by
    refine ⟨u, ν', h1, ?_, h2, h3⟩
    rw [Bool.and_eq_true] at h0
    obtain ⟨s, hs, ht⟩ := h2.thing 1 _ (still1_at h0.1)
    rw [h4.sub 1 _ rfl] at hs
    cases hs
    obtain ⟨_, _, hb⟩ := ht
    have h00 : z = true → W'.heap[0]? = W.heap[0]? := fun hz' => by
      rw [hz'] at h0
      exact (table0_laid h2 (by simpa using h0.2)).trans (hz hz').symm
    have hall : ∀ i : Nat, i < W.heap.size → W'.heap[i]? = W.heap[i]? := fun i hi => by
      cases hzz : z with
      | false => exact (hb i ⟨hi, fun h => by rw [hzz] at h; cases h⟩).2
      | true =>
        by_cases e : i = 0
        · rw [e]; exact h00 hzz
        · exact (hb i ⟨hi, fun _ => e⟩).2
    refine ⟨?_, hall, h2.calm⟩
    rcases Nat.lt_or_ge W'.heap.size W.heap.size with h | h
    · have e1 := hall _ h
      rw [Array.getElem?_eq_none (Nat.le_refl _), Array.getElem?_eq_getElem h] at e1
      cases e1
    · exact h
noncomputable def lenRun (n : Nat) : Out D Slot := runA Tryz.prog (fun _ => none) 10 20 243 [.one (.flat (.int .u64 (.ofNat n)))] (frameH false) 2 0 0
noncomputable def lenOk (n : Nat) (o : Out D Slot) : Bool := match o with
  | .ok (.one (.nat m)) h' _ _ _ => still1 h' && Nat.ble m 8 && (Nat.blt 0 m || Nat.beq n 0) && (Nat.beq m 0 || Nat.blt 0 n)
  | _ => false
theorem lens : (List.range 256).all (fun n => lenOk n (lenRun n)) = true := by kernel_rfl
/-- bits.Len of a small number. -/
theorem len243 (n : Nat) (hn : n < 256) (W : World) : Calls Tryz.prog 243 #[.int .u64 n] W fun e W' => Keeps W.heap.size W W' ∧ ∃ m : Nat, e = .returned (.int .i64 m) ∧ m ≤ 8 ∧ (0 < m ↔ 0 < n) := by
  have h := List.all_eq_true.1 lens n (List.mem_range.2 hn)
  unfold lenOk at h
  split at h
  · rename_i m h' nx' r' w' he
    simp only [Bool.and_eq_true, Bool.or_eq_true] at h
    obtain ⟨⟨⟨h0, h1⟩, h2⟩, h3⟩ := h
    refine (reckoned (z := false) he (by rw [h0]; rfl) W (fun h => by cases h) (.cons (.one (.flat _ rfl)) .nil)).mono fun e W' ⟨u, ν', e1, e2, _, e3⟩ => ⟨e2, m, ?_, Nat.le_of_ble_eq_true h1, ?_⟩
    · cases e3 with
      | one hc => cases hc; exact e1
    · simp [Nat.blt_eq] at h2 h3
      omega
  · cases h
end Go.Proofs.YtlpbbihjnmikkaaGreatDoor.Exe
