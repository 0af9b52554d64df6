/-
  Joined: ExeQ, ExeS, ExeT
-/
import Derived.Test.YtlpbbihjnmikkaaGreatDoorJ06
import Derived.Great.BuildSlice
import Derived.Laws.MakeOwn
namespace Go.Proofs.YtlpbbihjnmikkaaGreatDoor.Exe
set_option linter.unusedSimpArgs false

section
variable {P : Program} {L : Lore} {ν : Nu} {h : Heap D} {W : World}
theorem fill_zip (off : Nat) : ∀ (vs : List Value) (cs : Array Value) (j : Nat), off + j + vs.length ≤ cs.size → (vs.zipIdx j).foldl (fun cs (x : Value × Nat) => cs.setIfInBounds (off + x.2) x.1) cs = (cs.toList.take (off + j) ++ vs ++ cs.toList.drop (off + j + vs.length)).toArray
  | [], cs, j, _ => by simp
  | v :: vs, cs, j, hl => by
    simp only [List.zipIdx_cons, List.foldl_cons]
    rw [fill_zip off vs _ (j + 1) (by simp at hl ⊢; omega)]
    have e := list_seg_step cs.toList (off + j) v vs (by simp at hl ⊢; omega)
    simpa [Array.toList_setIfInBounds, Nat.add_assoc] using e
theorem fill_step {place : Nat → Option (Nat × Nat)} {i off size : Nat} (hp : place i = some (off, size)) {v : Value} (hv : v.cells.size = size) {cs : Array Value} (ho : off + size ≤ cs.size) (rest : List (Nat × Value)) :
    Instr.fill place cs ((i, v) :: rest) = Instr.fill place (cs.toList.take off ++ v.cells.toList ++ cs.toList.drop (off + size)).toArray rest := by
  conv => lhs; unfold Instr.fill
  simp only [hp]
  rw [if_neg (by simp [hv]; omega)]
  congr 1
  have := fill_zip off v.cells.toList cs 0 (by simp [hv]; omega)
  rw [Nat.add_zero] at this
  rw [← Array.foldl_toList, Array.toList_zipIdx]
  simpa [hv] using this
/-- Parts laid over noughts, beside the model's. -/
theorem fill_sim {place : Nat → Option (Nat × Nat)} {m : Nat} {q : Sem Next} : ∀ (parts : List (Nat × Operand)) (ps : List (Nat × Nat)) (ss : List Slot) (us : List Value) (cs : List Cell) (vs : Array Value) {f : List Cell → M D Nx},
    placesC place m parts = some ps → All2 (RepS ν) ss us → us.length = parts.length → RepL ν cs vs.toList → vs.size = m →
    (∀ cs' vs', RepL ν cs' vs'.toList → vs'.size = m → Instr.fill place vs ((parts.map (·.1)).zip us) = some vs' → SimAt P L ν h W (f cs') q) → SimAt P L ν h W (fill ps ss cs f) q
  | [], ps, ss, us, cs, vs, f, hp, hu, hul, hr, hm, hf => by
    cases hp
    exact hf cs vs hr hm rfl
  | (i, x) :: parts, ps, ss, us, cs, vs, f, hp, hu, hul, hr, hm, hf => by
    cases hu with
    | nil => simp at hul
    | @cons s u ss us h1 h2 =>
      unfold placesC at hp
      cases hpi : place i with
      | none => rw [hpi] at hp; cases hp
      | some p =>
        rw [hpi] at hp
        cases hpr : placesC place m parts with
        | none => rw [hpr] at hp; cases hp
        | some ps' =>
          rw [hpr] at hp
          cases hb : Nat.ble (p.1 + p.2) m with
          | false => simp only [hb] at hp; cases hp
          | true =>
            simp only [hb] at hp
            cases hp
            have hle : p.1 + p.2 ≤ m := Nat.le_of_ble_eq_true hb
            show SimAt P L ν h W (Exe.asCells 11 s fun n l => Exe.chk 12 (Nat.beq n p.2) (fill ps' ss (lay p.1 l cs) f)) q
            refine SimAt.asCells h1 fun n l hl hn => SimAt.chk fun hc => ?_
            have hn' : n = p.2 := Nat.eq_of_beq_eq_true hc
            have hlen : l.length = p.2 := hn.trans hn'
            have hvl : u.cells.size = p.2 := by have := hl.length; simp at this; omega
            have hcl : cs.length = vs.size := by have := hr.length; simpa using this
            refine fill_sim parts ps' ss us (lay p.1 l cs) (vs.toList.take p.1 ++ u.cells.toList ++ vs.toList.drop (p.1 + p.2)).toArray hpr h2 (by simpa using hul) ?_ (by simp; omega) fun cs' vs' g1 g2 g3 => hf cs' vs' g1 g2 ?_
            · rw [lay_eq _ _ _ (by omega), hlen]
              exact ((hr.take _).append hl).append (hr.drop _)
            · simp only [List.map_cons, List.zip_cons_cons]
              rw [fill_step (by rw [hpi]) hvl (by omega)]
              exact g3
theorem zero_info {t : TypeId} {z : List Cell} (hz : zeroOf P t = some z) : ∃ i v, P.info? t = some i ∧ i.zero = some v ∧ cellsOfV v.cells.toList = some z := by
  unfold zeroOf at hz
  cases hi : P.info? t with
  | none => rw [hi] at hz; cases hz
  | some i =>
    rw [hi] at hz
    simp only at hz
    cases hv : i.zero with
    | none => rw [hv] at hz; cases hz
    | some v =>
      rw [hv] at hz
      exact ⟨i, v, rfl, hv, hz⟩
theorem run_zero {t : TypeId} {i : TypeInfo} {v : Value} (hi : P.info? t = some i) (hv : i.zero = some v) (w : World) : (zeroValue t).run P w = .ok v w := by simp [zeroValue, typeInfo, hi, hv]
theorem allocC_sim (hok : Ok P L ν h W) {t : TypeId} {z : List Cell} (hz : zeroOf P t = some z) (env : Env) : SimAt P L ν h W (allocC t (len z) z env) (valS (Instr.alloc t true (.tuple #[]))) := by
  obtain ⟨i, v, hi, hv, hc⟩ := zero_info hz
  refine newVar_sim hok (cellsOfV_rep ν hc) (len_eq z).symm (run_valS ?_)
  simp [Instr.alloc, run_zero hi hv, newVar, newRow, newObj, Sem.run]
  rfl
theorem boxC_sim (hok : Ok P L ν h W) {t : TypeId} {x : Env → Slot} {env : Env} {v : Value} (hx : RepS ν (x env) v) : SimAt P L ν h W (boxC t x env) (valS (Instr.box t v)) := by
  unfold boxC
  refine SimAt.asCells hx fun m cs hr hn => newVar_sim hok hr hn (run_valS ?_)
  simp [Instr.box, newVar, newRow, newObj, Sem.run]
  rfl
theorem loadC_sim (hok : Ok P L ν h W) {t : TypeId} {kd : Kind} (hk : kindOf P t = some kd) {x : Env → Slot} {env : Env} {v : Value} (hx : RepS ν (x env) v) : SimAt P L ν h W (loadC kd x env) (valS (Instr.loadAt t v)) := by
  unfold loadC
  refine SimAt.asPtr hx fun k off b room hs e => ?_
  subst e
  exact loadK_sim hok hk hs
theorem szOf_info {t : TypeId} {n : Nat} (hn : szOf P t = some n) : ∃ i, P.info? t = some i ∧ i.size = n := by
  unfold szOf at hn
  cases hi : P.info? t with
  | none => rw [hi] at hn; cases hn
  | some i => rw [hi] at hn; cases hn; exact ⟨i, rfl, rfl⟩
theorem storeC_sim (hok : Ok P L ν h W) {t : TypeId} {n : Nat} (hn : szOf P t = some n) {x y : Env → Slot} {env : Env} {v u : Value} (hx : RepS ν (x env) v) (hy : RepS ν (y env) u) : SimAt P L ν h W (storeC n x y env) (unitS (Instr.storeAt t v u)) := by
  unfold storeC
  obtain ⟨i, hi, rfl⟩ := szOf_info hn
  refine SimAt.asPtr hx fun k off b room hs e => SimAt.asCells hy fun m cs hr hm => SimAt.chk fun hc => ?_
  subst e
  have hmi : m = i.size := Nat.eq_of_beq_eq_true hc
  have hsz : u.cells.size = i.size := by have := hr.length; simp at this; omega
  refine putK_sim hok hs hr (hm.trans hmi) fun c e hb ho => run_unitS ?_
  exact storeVar_run hi hb hsz hr.singles ho
end
end Go.Proofs.YtlpbbihjnmikkaaGreatDoor.Exe

namespace Go.Proofs.YtlpbbihjnmikkaaGreatDoor.Exe
set_option linter.unusedSimpArgs false

section
variable {P : Program} {L : Lore} {ν : Nu} {h : Heap D} {W : World} {ρ : Operand → Value} {env : Env}
/-- The slots say what the operands are. -/
def Says (ν : Nu) (env : Env) (ρ : Operand → Value) (x : Operand) : Prop := ∀ f, evC x = some f → RepS ν (f env) (ρ x)
theorem with1_sim {n : Nat} {x : Operand} {f : (Env → Slot) → WD} {q : Sem Next} (hx : Says ν env ρ x) (hf : ∀ g, RepS ν (g env) (ρ x) → SimAt P L ν h W ((f g).out env) q) : SimAt P L ν h W ((with1 n x f).out env) q := by
  unfold with1
  cases he : evC x with
  | none => exact SimAt.bad n q
  | some g => exact hf g (hx g he)
theorem withO_sim {α : Type} {n : Nat} {o : Option α} {f : α → WD} {q : Sem Next} (hf : ∀ v, o = some v → SimAt P L ν h W ((f v).out env) q) : SimAt P L ν h W ((withO n o f).out env) q := by
  unfold withO
  cases o with
  | none => exact SimAt.bad n q
  | some v => exact hf v rfl
theorem badW_sim (n : Nat) (q : Sem Next) : SimAt P L ν h W ((badW n : WD).out env) q := SimAt.bad n q
theorem evs_cons {x : Operand} {xs : List Operand} {fs : List (Env → Slot)} (hf : evsC (x :: xs) = some fs) : ∃ g gs, evC x = some g ∧ evsC xs = some gs ∧ fs = g :: gs := by
  have e : evsC (x :: xs) = Option.rec none (fun f => Option.rec none (fun fs => some (f :: fs)) (evsC xs)) (evC x) := rfl
  rw [e] at hf
  cases hx : evC x with
  | none => rw [hx] at hf; cases hf
  | some g =>
    rw [hx] at hf
    cases hxs : evsC xs with
    | none => rw [hxs] at hf; cases hf
    | some gs =>
      rw [hxs] at hf
      cases hf
      exact ⟨g, gs, rfl, rfl, rfl⟩
theorem evs_rep : ∀ {xs : List Operand} {fs : List (Env → Slot)}, evsC xs = some fs → (∀ x ∈ xs, Says ν env ρ x) → All2 (RepS ν) (all fs env) (xs.map ρ)
  | [], fs, hf, _ => by
    have : evsC ([] : List Operand) = some [] := rfl
    rw [this] at hf
    cases hf
    exact .nil
  | x :: xs, fs, hf, hx => by
    obtain ⟨g, gs, h1, h2, rfl⟩ := evs_cons hf
    exact .cons (hx x List.mem_cons_self g h1) (evs_rep h2 fun y hy => hx y (List.mem_cons_of_mem _ hy))
theorem zip_parts (parts : List (Nat × Operand)) : (parts.map (·.1)).zip ((parts.map (·.2)).map ρ) = parts.map fun (i, x) => (i, ρ x) := by
  induction parts with
  | nil => rfl
  | cons p l ih =>
    simp only [List.map_cons, List.zip_cons_cons, ih]
theorem cells_len {z : List Cell} {v : Value} (hc : cellsOfV v.cells.toList = some z) : v.cells.size = len z := by
  have := (cellsOfV_rep (fun _ => none) hc).length
  rw [len_eq, this]
  simp
theorem buildC_sim (hok : Ok P L ν h W) {z : List Cell} {v : Value} (hz : cellsOfV v.cells.toList = some z) {place : Nat → Option (Nat × Nat)} {parts : List (Nat × Operand)} {ps : List (Nat × Nat)} (hp : placesC place (len z) parts = some ps)
    {xs : List (Env → Slot)} (hxs : evsC (parts.map (·.2)) = some xs) (hx : ∀ x ∈ parts.map (·.2), Says ν env ρ x) {q : Sem Next} (hq : ∀ cells, Instr.fill place v.cells (parts.map fun (i, x) => (i, ρ x)) = some cells → q.run P W = .ok (.value (.agg cells)) W) :
    SimAt P L ν h W (buildC (len z) z ps xs env) q := by
  unfold buildC
  refine fill_sim parts ps (all xs env) ((parts.map (·.2)).map ρ) z v.cells hp (evs_rep hxs hx) (by simp) (cellsOfV_rep ν hz) (cells_len hz) fun cs' vs' g1 g2 g3 => ?_
  rw [zip_parts] at g3
  have hl := g1.length
  exact SimAt.val (hq vs' g3) hok (RepS.agg g1 (by rw [hl]; simpa using g2))
theorem buildD_sim (hok : Ok P L ν h W) (t : TypeId) (parts : Array (Nat × Operand)) (hx : ∀ x ∈ parts.toList.map (·.2), Says ν env ρ x) : SimAt P L ν h W ((buildD P t parts.toList : WD).out env) (valS (Instr.build t (parts.map fun (i, x) => (i, ρ x)))) := by
  unfold buildD
  refine withO_sim fun z hz => withO_sim fun xs hxs => ?_
  obtain ⟨i, v, hi, hv, hc⟩ := zero_info hz
  have htl : (parts.map fun (i, x) => (i, ρ x)).toList = parts.toList.map fun (i, x) => (i, ρ x) := by simp
  split
  · rename_i fields hu
    refine withO_sim fun pl hpl => withO_sim fun ps hp => ?_
    refine buildC_sim hok hc hp hxs hx fun cells hf => run_valS (run_build _ _ _ _ ?_)
    unfold Program.built
    rw [htl]
    simp only [hi, hu, hv]
    have hpl' : fields.toList.mapM (fun f => (P.info? f.type).map fun i => (f.offset, i.size)) = some pl := hpl
    rw [hpl']
    exact hf
  · rename_i n e hu
    refine withO_sim fun size hsz => withO_sim fun ps hp => ?_
    obtain ⟨ie, hie, rfl⟩ := szOf_info hsz
    refine buildC_sim hok hc hp hxs hx fun cells hf => run_valS (run_build _ _ _ _ ?_)
    unfold Program.built
    rw [htl]
    simp only [hi, hu, hv, hie]
    exact hf
  · exact badW_sim _ _
theorem elemOfA_eq {t : TypeId} {p : TypeId × Nat} (hp : elemOfA P t = some p) : ∃ i, P.underlying t = some (.slice p.1) ∧ P.info? p.1 = some i ∧ i.size = p.2 ∧ 1 ≤ p.2 ∧ p.2 ≤ 4096 ∧ i.bytes ≤ 4096 := by
  unfold elemOfA at hp
  split at hp
  · rename_i e hu
    split at hp
    · rename_i i hi
      cases hb : (Nat.ble 1 i.size && (Nat.ble i.size 4096 && Nat.ble i.bytes 4096)) with
      | false => simp only [hb] at hp; cases hp
      | true =>
        simp only [hb] at hp
        cases hp
        simp only [Bool.and_eq_true] at hb
        exact ⟨i, hu, hi, rfl, Nat.le_of_ble_eq_true hb.1, Nat.le_of_ble_eq_true hb.2.1, Nat.le_of_ble_eq_true hb.2.2⟩
    · cases hp
  · cases hp
theorem zerosOf_eq {t : TypeId} {n : Nat} {z : List Cell} (hz : zerosOf P t n = some z) : ∃ i v, P.info? t = some i ∧ i.zero = some v ∧ cellsOfV v.cells.toList = some z ∧ z.length = n ∧ v.cells.size = n := by
  unfold zerosOf at hz
  split at hz
  · rename_i z' hz'
    cases hb : Nat.beq (len z') n with
    | false => simp only [hb] at hz; cases hz
    | true =>
      simp only [hb] at hz
      cases hz
      obtain ⟨i, v, hi, hv, hc⟩ := zero_info hz'
      have e : len z = n := Nat.eq_of_beq_eq_true hb
      exact ⟨i, v, hi, hv, hc, by rw [← len_eq]; exact e, by rw [cells_len hc]; exact e⟩
  · cases hz
/-- The model's noughts of a row. -/
theorem noughts_rep (ν : Nu) {z : List Cell} {v : Value} (hc : cellsOfV v.cells.toList = some z) : ∀ n, RepL ν (noughts z n) ((Array.range (n * v.cells.size)).map (v.cells[· % v.cells.size]!)).toList
  | 0 => by
    simp
    exact .nil
  | n + 1 => by
    have ih := noughts_rep ν hc n
    have e : noughts z (n + 1) = z ++ noughts z n := app_eq _ _
    rw [e]
    have hv : ((Array.range ((n + 1) * v.cells.size)).map (v.cells[· % v.cells.size]!)).toList = v.cells.toList ++ ((Array.range (n * v.cells.size)).map (v.cells[· % v.cells.size]!)).toList := by
      apply List.ext_getElem
      · simp [Nat.succ_mul]; omega
      · intro j h1 h2
        simp only [Array.toList_map, Array.toList_range, List.getElem_map, List.getElem_range]
        by_cases hj : j < v.cells.size
        · rw [List.getElem_append_left (by simpa using hj), Nat.mod_eq_of_lt hj, getElem!_pos v.cells j hj]
          simp
        · have hpos : 0 < v.cells.size := by
            rcases Nat.eq_zero_or_pos v.cells.size with h0 | h0
            · simp [h0] at h1
            · exact h0
          rw [List.getElem_append_right (by simpa using hj)]
          simp only [Array.length_toList, List.getElem_map, List.getElem_range]
          have : j % v.cells.size = (j - v.cells.size) % v.cells.size := by rw [Nat.mod_eq_sub_mod (by omega)]
          rw [this]
    rw [hv]
    exact (cellsOfV_rep ν hc).append ih
theorem rowD_sim (hok : Ok P L ν h W) (t : TypeId) (n : Nat) (parts : Array (Nat × Operand)) (hx : ∀ x ∈ parts.toList.map (·.2), Says ν env ρ x) : SimAt P L ν h W ((rowD P t n parts.toList : WD).out env) (valS (Instr.buildSlice t n (parts.map fun (i, x) => (i, ρ x)))) := by
  unfold rowD
  refine withO_sim fun p hp => withO_sim fun z hz => withO_sim fun xs hxs => withO_sim fun ps hps => ?_
  cases hb : Nat.ble n 4096 with
  | false => exact badW_sim _ _
  | true =>
    obtain ⟨i, hu, hi, hsz, h1, h4, hby⟩ := elemOfA_eq hp
    obtain ⟨i', v, hi', hv, hc, hzl, hvl⟩ := zerosOf_eq hz
    rw [hi] at hi'
    cases hi'
    have hn : n ≤ 4096 := Nat.le_of_ble_eq_true hb
    show SimAt P L ν h W (rowC p.1 n (n * p.2) (noughts z n) ps xs env) _
    unfold rowC
    refine fill_sim parts.toList ps (all xs env) ((parts.toList.map (·.2)).map ρ) (noughts z n) ((Array.range (n * v.cells.size)).map (v.cells[· % v.cells.size]!)) hps (evs_rep hxs hx) (by simp) (noughts_rep ν hc n) (by simp [hvl]) fun cs' vs' g1 g2 g3 => ?_
    rw [zip_parts] at g3
    have htl : (parts.map fun (i, x) => (i, ρ x)).toList = parts.toList.map fun (i, x) => (i, ρ x) := by simp
    refine SimAt.new1 (g := fun k => .row k 0 n (.exact n)) fun k hk hk3 => ⟨.blk W.heap.size 0, .slice (some ⟨W.heap.size, 0, none⟩) n n, W.alloc (.cells vs' p.1), run_valS ?_, ?_, .row (Nu.set_same _ _ _) ⟨rfl, Nat.le_refl _⟩⟩
    · rw [← htl] at g3
      by_cases h0 : n = 0
      · subst h0
        have hpn : parts = #[] := by
          cases hpl : parts.toList with
          | nil => exact Array.toList_eq_nil_iff.1 hpl
          | cons a l =>
            exfalso
            rw [hpl] at hps
            obtain ⟨j, x⟩ := a
            unfold placesC at hps
            split at hps
            · rename_i q qs hq hqs
              have hq' : some (j * p.2, p.2) = some q := hq
              cases hq'
              rw [ble_false (by simp only; omega)] at hps
              cases hps
            · cases hps
        subst hpn
        have hvs : vs' = #[] := Array.eq_empty_of_size_eq_zero (by simpa using g2)
        subst hvs
        have hr0 : (0 : Nat) * i.size = 0 := Nat.zero_mul _
        simp only [Instr.buildSlice, Sem.run_bind, run_underlying hu, Result.andThen_ok, sizeOf, typeInfo, program, Sem.run, hi, hr0]
        simp [Instr.fill, newRow, newObj, Sem.run, Array.range_zero']
      · refine run_buildSlice W t p.1 n _ vs' i v hu hi hv ?_ ?_ ?_
        · rw [hsz]
          have : n * p.2 ≤ 4096 * 4096 := Nat.mul_le_mul hn h4
          omega
        · rw [hsz]
          intro h
          rcases Nat.mul_eq_zero.1 h with h | h <;> omega
        · rw [hsz]
          rw [hvl] at g3
          rw [hvl]
          exact g3
    · have hl := g1.length
      refine hok.alloc hk hk3 (fun _ _ => rfl) rfl ⟨rfl, rfl⟩ _ (fun i hi => hi) (fun i hi => hi) ⟨vs', heap_alloc_new W _, ?_, by omega, fun h => absurd rfl h⟩
      rw [List.take_of_length_le (by simp; omega)]
      exact RepL.mono (Sub.set hk _) g1
end
end Go.Proofs.YtlpbbihjnmikkaaGreatDoor.Exe

namespace Go.Proofs.YtlpbbihjnmikkaaGreatDoor.Exe
set_option linter.unusedSimpArgs false

section
variable {P : Program} {L : Lore} {ν : Nu} {h : Heap D} {W : World} {ρ : Operand → Value} {env : Env}
theorem moveC_sim (hok : Ok P L ν h W) {x : Env → Slot} {v : Value} (hx : RepS ν (x env) v) : SimAt P L ν h W (moveC x env) (pure (.value v)) := SimAt.val rfl hok hx
theorem pickC_sim (hok : Ok P L ν h W) {c a b : Env → Slot} {vc va vb : Value} (hc : RepS ν (c env) vc) (ha : RepS ν (a env) va) (hb : RepS ν (b env) vb) : SimAt P L ν h W (pickC c a b env) (do pure (.value (if ← Go.asBool vc then va else vb))) := by
  unfold pickC
  refine SimAt.asBool hc fun t e => ?_
  subst e
  cases t with
  | false => exact SimAt.val rfl hok hb
  | true => exact SimAt.val rfl hok ha
theorem Addr.add_eq (b o j : Nat) : (⟨b, o, none⟩ : Addr).add j = ⟨b, o + j, none⟩ := Go.Addr.add_mid b o j
theorem fieldAtD_sim (hok : Ok P L ν h W) (s : TypeId) (i : Nat) {x : Env → Slot} {v : Value} (hx : RepS ν (x env) v) : SimAt P L ν h W ((fieldAtD P s i x : WD).out env) (valS (Instr.fieldAt s v i)) := by
  unfold fieldAtD
  split
  · rename_i fields hu
    split
    · rename_i f hf
      split
      · rename_i n hn
        refine SimAt.asPtr hx fun k off b room hs e => ?_
        subst e
        refine SimAt.val1 (run_valS (v := .pointer (some ⟨b, off + f.offset, none⟩)) ?_) hok (.ptr hs)
        obtain ⟨ti, hti, hsz⟩ := szOf_info hn
        simp [Instr.fieldAt, run_underlying hu, hf, Instr.sureAddr, fieldPlace, sizeOf, typeInfo, hti, hsz, Addr.add_eq]
      · exact badW_sim _ _
    · exact badW_sim _ _
  · exact badW_sim _ _
theorem run_part_one {t : TypeId} {d : TypeDesc} (hu : P.underlying t = some d) (hr : d.isRow = false) {c : Array Value} {off : Nat} {v : Value} (hv : c[off]? = some v) : (part t c off).run P W = .ok v W := by
  unfold part
  rw [Sem.run_bind, run_isAgg hu, hr]
  simp [hv]
theorem run_part_many {t : TypeId} {d : TypeDesc} (hu : P.underlying t = some d) (hr : d.isRow = true) {i : TypeInfo} (hi : P.info? t = some i) (c : Array Value) (off : Nat) : (part t c off).run P W = .ok (.agg ((c.toList.drop off).take i.size).toArray) W := by
  unfold part
  rw [Sem.run_bind, run_isAgg hu, hr]
  simp [sizeOf, typeInfo, hi]
  apply Array.ext'
  simp [Array.toList_extract, List.drop_take]
theorem partK_sim (hok : Ok P L ν h W) {t : TypeId} {kd : Kind} (hk : kindOf P t = some kd) {cs : List Cell} {c : Array Value} {m off : Nat} (hr : RepL ν cs c.toList) (hm : cs.length = m) {q : Sem Next} (hq : ∀ v, (part t c off).run P W = .ok v W → q.run P W = .ok (.value v) W) {n1 n2 : Nat} :
    SimAt P L ν h W (Kind.rec (Exe.chk n1 (Nat.blt off m) (ret1 (item zeroC off cs))) (fun n => Exe.chk n2 (Nat.ble (Nat.add off n) m) (M.ret (.val (.agg n (cut off n m cs))))) kd) q := by
  have hcm : c.size = m := by have := hr.length; simp at this; omega
  have hr' : RepL ν cs (c.toList.take m) := by rw [List.take_of_length_le (by simp; omega)]; exact hr
  cases kd with
  | one =>
    obtain ⟨d, hu, hd⟩ := kind_one hk
    refine SimAt.chk fun hc => ?_
    obtain ⟨v, hv, hrv⟩ := part_one hr' (by omega) (off := off) (by simpa [Nat.blt_eq] using hc)
    exact SimAt.val1 (hq v (run_part_one hu hd hv)) hok hrv
  | many n =>
    obtain ⟨d, i, hu, hd, hi, hsz⟩ := kind_many hk
    refine SimAt.chk fun hc => ?_
    have ho : off + n ≤ m := Nat.le_of_ble_eq_true hc
    obtain ⟨h1, h2⟩ := part_many hr' (by omega) ho
    refine SimAt.val (hq _ (run_part_many hu hd hi c off)) hok (RepS.agg (by rw [hsz]; simpa using h1) h2)
theorem fieldD_sim (hok : Ok P L ν h W) (s : TypeId) (i : Nat) {x : Env → Slot} {v : Value} (hx : RepS ν (x env) v) : SimAt P L ν h W ((fieldD P s i x : WD).out env) (valS (Instr.field s v i)) := by
  unfold fieldD
  split
  · rename_i fields hu
    split
    · rename_i f hf
      refine withO_sim fun kd hk => SimAt.asAgg hx fun m cs vs e hr hm => ?_
      subst e
      refine partK_sim hok hk hr hm fun u hp => run_valS ?_
      simp [Instr.field, run_underlying hu, hf, Go.asAgg, hp]
    · exact badW_sim _ _
  · exact badW_sim _ _
theorem indexAtD_sim (hok : Ok P L ν h W) (t : TypeId) {x i : Env → Slot} {v u : Value} (hx : RepS ν (x env) v) (hi : RepS ν (i env) u) : SimAt P L ν h W ((indexAtD P t x i : WD).out env) (valS (Instr.indexAt t v u)) := by
  unfold indexAtD
  split
  · rename_i n e hu
    refine withO_sim fun size hsz => SimAt.asPtr hx fun k off b room hs ev => SimAt.asIx hi fun j kd ei => SimAt.chk fun hc => ?_
    subst ev ei
    obtain ⟨ti, hti, hs2⟩ := szOf_info hsz
    have hj : j < n := by simpa [Nat.blt_eq] using hc
    refine SimAt.val1 (run_valS (v := .pointer (some ⟨b, off + j * size, none⟩)) ?_) hok (.ptr hs)
    have hj' : (j : Int) < (n : Int) := by omega
    simp [Instr.indexAt, asIntOf, run_underlying hu, Instr.sureAddr, sizeOf, typeInfo, hti, hs2, Addr.add_eq, hj]
  · rename_i e hu
    refine withO_sim fun size hsz => SimAt.asRow hx (fun _ => SimAt.bad _ _) fun k off n c hrow => SimAt.asIx hi fun j kd ei => SimAt.chk fun hc => ?_
    subst ei
    obtain ⟨ti, hti, hs2⟩ := szOf_info hsz
    have hj : j < n := by simpa [Nat.blt_eq] using hc
    rcases hrow with ⟨b, room, c', hs, _, ev⟩ | ⟨_, h0, _⟩
    · subst ev
      refine SimAt.val1 (run_valS (v := .pointer (some ⟨b, off + j * size, none⟩)) ?_) hok (.ptr hs)
      have hj' : (j : Int) < (n : Int) := by omega
      simp [Instr.indexAt, asIntOf, run_underlying hu, Instr.sureAddr, sizeOf, typeInfo, hti, hs2, Addr.add_eq, hj]
    · omega
  · exact badW_sim _ _
theorem indexD_sim (hok : Ok P L ν h W) (t : TypeId) {x i : Env → Slot} {v u : Value} (hx : RepS ν (x env) v) (hi : RepS ν (i env) u) : SimAt P L ν h W ((indexD P t x i : WD).out env) (valS (Instr.index t v u)) := by
  unfold indexD
  split
  · rename_i n e hu
    refine withO_sim fun size hsz => withO_sim fun kd hk => SimAt.asAgg hx fun m cs vs ev hr hm => SimAt.asIx hi fun j kj ei => SimAt.chk fun hc => ?_
    subst ev ei
    obtain ⟨ti, hti, hs2⟩ := szOf_info hsz
    have hj : j < n := by simpa [Nat.blt_eq] using hc
    refine partK_sim hok hk hr hm (off := j * size) fun u hp => run_valS ?_
    simp [Instr.index, asIntOf, run_underlying hu, sizeOf, typeInfo, hti, hs2, hj, hp]
  · rename_i hu
    show SimAt P L ν h W (indexS x i env) _
    unfold indexS
    split
    · rename_i s hxs
      rw [hxs] at hx
      cases hx with
      | one hc =>
        cases hc
        refine SimAt.asIx hi fun j kj ei => ?_
        subst ei
        split
        · rename_i b hb
          refine SimAt.val1 (run_valS (v := .int .u8 b.toNat) ?_) hok ?_
          · simp [Instr.index, asIntOf, run_underlying hu, hb]
          · exact .flat _ (by simp [cellOf])
        · exact SimAt.bad _ _
    · exact SimAt.bad _ _
  · exact badW_sim _ _
theorem nilCheckC_sim (hok : Ok P L ν h W) {x : Env → Slot} {v : Value} (hx : RepS ν (x env) v) {q : Sem Next} (hq : ∀ a, v = .pointer (some a) → q.run P W = .ok (.value v) W) : SimAt P L ν h W (nilCheckC x env) q := by
  unfold nilCheckC
  refine SimAt.asPtr hx fun k off b room hs e => ?_
  subst e
  exact SimAt.val1 (hq _ rfl) hok (.ptr hs)
theorem extractC_sim (hok : Ok P L ν h W) (j : Nat) {x : Env → Slot} {v : Value} (hx : RepS ν (x env) v) : SimAt P L ν h W (extractC j x env) (valS (Instr.extract v j)) := by
  unfold extractC
  generalize x env = sl at hx
  cases hx with
  | one _ => exact SimAt.bad _ _
  | agg _ _ => exact SimAt.bad _ _
  | @tup l vs hl =>
    show SimAt P L ν h W (List.rec (Exe.bad 93) (fun p _ _ => M.ret (.val (slotP p))) (dropN j l)) _
    rw [dropN_eq]
    cases hd : l.drop j with
    | nil => exact SimAt.bad _ _
    | cons p l' =>
      have hd' := hl.drop j
      rw [hd] at hd'
      cases hv : vs.toList.drop j with
      | nil => rw [hv] at hd'; cases hd'
      | cons u us =>
        rw [hv] at hd'
        cases hd' with
        | cons h1 _ =>
          have hu : vs[j]? = some u := by
            have : (vs.toList.drop j)[0]? = some u := by rw [hv]; rfl
            rw [List.getElem?_drop] at this
            simpa using this
          refine SimAt.val (run_valS (v := u) ?_) hok ?_
          · simp [Instr.extract, hu]
          · cases h1 with
            | one hc => exact .one hc
            | agg hl hn => exact .agg hl hn
theorem funcC_sim (hok : Ok P L ν h W) {f : FuncId} {fs cs : Array Operand} {gs ks : List (Env → Slot)} (h1 : evsC fs.toList = some gs) (h2 : evsC cs.toList = some ks) (hf : ∀ x ∈ fs.toList, Says ν env ρ x) (hc : ∀ x ∈ cs.toList, Says ν env ρ x) :
    SimAt P L ν h W (funcC f gs ks env) (valS (Instr.makeFunc (.func f) (fs.map ρ) (cs.map ρ))) := by
  unfold funcC
  refine SimAt.new1 (g := fun k => .tok k) fun k hk hk3 => ⟨.val (.func (.func f) (fs.map ρ) (cs.map ρ)) (fun _ => False) (fun _ => False), _, W, run_valS rfl, ?_, .tok (Nu.set_same _ _ _) rfl⟩
  refine hok.step (Sub.set hk _) hk3 (fun _ _ _ _ _ _ _ _ => rfl) fun t0 ht0 => ?_
  cases ht0
  refine ⟨_, Nu.set_same _ _ _, ⟨_, _, rfl, ?_, ?_, fun _ h => h, fun _ h => h⟩, fun j tj sj _ _ _ i => ⟨fun h => h.elim, fun _ => ⟨fun h => h, fun h => h⟩⟩⟩
  · have := evs_rep h1 hf
    exact All2.mono (fun _ _ => RepS.mono (Sub.set hk _)) (by simpa using this)
  · have := evs_rep h2 hc
    exact All2.mono (fun _ _ => RepS.mono (Sub.set hk _)) (by simpa using this)
theorem makeMapC_sim (hok : Ok P L ν h W) (t : TypeId) : SimAt P L ν h W (makeMapC env) (valS (Instr.makeMap t none)) := by
  unfold makeMapC
  refine SimAt.new1 (g := fun k => .map k) fun k hk hk3 => ⟨.obj W.heap.size, .map (some W.heap.size), W.alloc (.map #[] 0), run_valS ?_, ?_, .map (Nu.set_same _ _ _)⟩
  · simp [Instr.makeMap, newObj, Sem.run]
  · exact hok.alloc hk hk3 (fun _ _ => rfl) rfl ⟨rfl, rfl⟩ _ (fun i hi => hi) (fun i hi => hi) ⟨#[], heap_alloc_new W _, .nil⟩
theorem makeSliceC_sim (hok : Ok P L ν h W) {t : TypeId} {p : TypeId × Nat} (hp : elemOfA P t = some p) {z : List Cell} (hz : zerosOf P p.1 p.2 = some z) {l c : Env → Slot} {vl vc : Value} (hl : RepS ν (l env) vl) (hc : RepS ν (c env) vc) :
    SimAt P L ν h W (makeSliceC p.1 p.2 z l c env) (valS (Instr.makeSlice t vl vc)) := by
  obtain ⟨i, hu, hi, hsz, h1, h4, hby⟩ := elemOfA_eq hp
  obtain ⟨i', v, hi', hv, hcv, hzl, hvl⟩ := zerosOf_eq hz
  rw [hi] at hi'
  cases hi'
  unfold makeSliceC
  refine SimAt.asNat hl fun a ha ea => SimAt.asNat hc fun b hb eb => SimAt.chk fun hcb => ?_
  subst ea eb
  simp only [Bool.and_eq_true] at hcb
  have hab : a ≤ b := Nat.le_of_ble_eq_true hcb.1
  have hb4 : b ≤ 4096 := Nat.le_of_ble_eq_true hcb.2
  have hmul : i.bytes * b ≤ 4096 * 4096 := Nat.mul_le_mul hby hb4
  have hr := noughts_rep ν hcv b
  refine SimAt.new1 (g := fun k => .row k 0 a (.exact b)) fun k hk hk3 => ⟨.blk W.heap.size 0, .slice (some ⟨W.heap.size, 0, none⟩) a b, W.alloc (.cells (madeCells v.cells (b * i.size)) p.1), run_valS ?_, ?_, .row (Nu.set_same _ _ _) ⟨rfl, hab⟩⟩
  · have := run_make (P := P) W t p.1 i v hu hi hv .i64 .i64 (a : Int) (b : Int) (by omega) (by omega) (by
      have : ((i.bytes * b : Nat) : Int) ≤ 281474976710656 := by omega
      rwa [Int.natCast_mul] at this) (by omega)
    simpa using this
  · have hsize : (madeCells v.cells (b * i.size)).size = b * p.2 := by rw [size_madeCells, hsz]
    refine hok.alloc hk hk3 (fun _ _ => rfl) rfl ⟨rfl, rfl⟩ _ (fun i hi => hi) (fun i hi => hi) ⟨_, heap_alloc_new W _, ?_, by rw [hsize]; exact Nat.le_refl _, fun h => absurd rfl h⟩
    rw [List.take_of_length_le (by rw [Array.length_toList, hsize]; exact Nat.le_refl _)]
    have e : madeCells v.cells (b * i.size) = (Array.range (b * v.cells.size)).map (v.cells[· % v.cells.size]!) := by rw [hsz, hvl.symm]; rfl
    rw [e]
    exact RepL.mono (Sub.set hk _) hr
end
end Go.Proofs.YtlpbbihjnmikkaaGreatDoor.Exe
