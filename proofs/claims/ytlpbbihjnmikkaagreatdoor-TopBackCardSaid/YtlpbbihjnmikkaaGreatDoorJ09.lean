/-
  Joined: ExeY, ExeZ, ExeF, ExeG
-/
import Derived.Test.YtlpbbihjnmikkaaGreatDoorJ08
namespace Go.Proofs.YtlpbbihjnmikkaaGreatDoor.Exe
set_option linter.unusedSimpArgs false

section
variable {P : Program} {L : Lore} {ν : Nu} {h : Heap D} {W : World} {ρ : Operand → Value} {env : Env}
theorem newsRow_sim (hok : Ok P L ν h W) {u e' : TypeId} (hk : P.underlying u = some (.slice e')) {size : Nat} {x : Slot} {v : Value} (hx : RepS ν x v) {f : List Cell → Nat → M D Nx} {q : Sem Next}
    (hf : ∀ cs m news, RepL ν cs news → Src P size u v m news W → SimAt P L ν h W (f cs m) q) : SimAt P L ν h W (newsRow size x f) q := by
  unfold newsRow
  refine SimAt.asRow hx (fun e => ?_) fun k off m c hrow => ?_
  · subst e
    exact hf [] 0 [] .nil (Src.ofNil W hk 0)
  · cases m with
    | zero =>
      obtain ⟨a, c', e⟩ : ∃ a c', v = .slice (some a) 0 c' := by
        rcases hrow with ⟨b, room, c', _, _, e⟩ | ⟨_, _, a, c', e⟩
        · exact ⟨_, _, e⟩
        · exact ⟨_, _, e⟩
      subst e
      exact hf [] 0 [] .nil (Src.ofSlice W hk a 0 c' [] (by simp) (fun j u hj => by simp at hj) (fun u hu => by cases hu))
    | succ m =>
      rcases hrow with ⟨b, room, c', hs, _, e⟩ | ⟨_, h0, _⟩
      · subst e
        refine SimAt.rdC hok fun n cs e b' room' c hk' hs' hb hr hn _ => SimAt.chk fun hc => ?_
        rw [hs] at hs'
        cases hs'
        have ho : off + (m + 1) * size ≤ n := Nat.le_of_ble_eq_true hc
        obtain ⟨h1, h2⟩ := part_many hr hn ho
        refine hf _ _ _ h1 (Src.ofSlice W hk ⟨b, off, none⟩ (m + 1) c' _ (by simp; omega) (fun j u hj => ?_) h1.singles)
        rw [Addr.add_eq]
        exact range_of hb j u hj
      · cases h0
theorem SimAt.drop {k : Nat} {m : M D Nx} {q : Sem Next} (hm : SimAt P L ν (h.lay k none) W m q) : SimAt P L ν h W (M.bind (Exe.wr k none) fun _ => m) q := fun nx r w x h' nx' r' w' he hf => by
  obtain ⟨u, h1, n1, r1, w1, e1, e2⟩ := bind_ok he
  obtain ⟨_, rfl, rfl, rfl, rfl⟩ := wr_ok e1
  exact hm _ _ _ _ _ _ _ _ e2 hf
theorem Ok.drop {W' : World} (hok : Ok P L ν h W) {k : Nat} {t : Thing D} (hk : h.at k = some t) {b room : Nat} (hs : ν k = some (.blk b room)) (hW : ∀ i : Nat, i ≠ b → W'.heap[i]? = W.heap[i]?) (hc : Calm W W' := by exact ⟨rfl, rfl⟩) : Ok P L ν (h.lay k none) W' := by
  refine hok.step (Sub.refl _) (at_lt hk) (fun j tj sj hj hjt hjs i hi => hW i fun e => ?_) (fun t0 ht0 => by cases ht0) hc
  subst e
  have := hok.apart k j _ tj _ sj (fun e => hj e.symm) hk hjt hs hjs i rfl
  exact hi.elim this.1 this.2
theorem run_append_in {t u ty e : TypeId} {i : TypeInfo} (ht : P.underlying t = some (.slice e)) (hi : P.info? e = some i) {b off n cap m : Nat} {c : Array Value} {e' : TypeId} (hb : W.heap[b]? = some (.cells c e' (0, 0))) {x : Value} {news : List Value} (hs : Src P i.size u x m news W)
    (hroom : n + m ≤ cap) (ho : off + n * i.size + news.length ≤ c.size) :
    (Builtin.append_ #[t, u] ty #[.slice (some ⟨b, off, none⟩) n cap, x]).run P W = .ok (.slice (some ⟨b, off, none⟩) (n + m) cap) (W.setRow b (c.toList.take (off + n * i.size) ++ news ++ c.toList.drop (off + n * i.size + news.length)).toArray) := by
  have hst := run_storeCells_at (P := P) b (off + n * i.size) e' news 0 c W hb (by omega) hs.one
  rw [Nat.add_zero] at hst
  rcases hs.kind with ⟨e'', hk⟩ | hk <;> simp [Builtin.append_, run_underlying ht, run_underlying hk, sizeOf, typeInfo, hi, hs.len, hroom, hs.cells, Addr.add_eq, hst]
section
variable {t u ty e : TypeId} {i : TypeInfo} {z : Value} {m : Nat} {cs : List Cell} {news : List Value} {x : Value} {k off n b room c' : Nat}
theorem growOut_sim (hok : Ok P L ν h W) (ht : P.underlying t = some (.slice e)) (hi : P.info? e = some i) (hz : i.zero = some z) (hzs : z.cells.size = i.size) (hby : i.bytes ≤ 4096) (hs : Src P i.size u x (m + 1) news W) (hr : RepL ν cs news)
    (hsk : ν k = some (.blk b room)) : SimAt P L ν h W (growOut e i.size cs (m + 1) k off n c') (valS (Builtin.append_ #[t, u] ty #[.slice (some ⟨b, off, none⟩) n c', x])) := by
  unfold growOut
  refine SimAt.rdC hok fun q ds e' b' room' c hk' hs' hb hrd hq hroom => ?_
  rw [hsk] at hs'
  cases hs'
  cases hble : Nat.ble (Nat.add n (m + 1)) c' with
  | false =>
    have hlt : c' < n + (m + 1) := by
      rcases Nat.lt_or_ge c' (n + (m + 1)) with h | h
      · exact h
      · have h' : Nat.ble (Nat.add n (m + 1)) c' = true := Nat.ble_eq_true_of_le h
        rw [h'] at hble; cases hble
    refine SimAt.chk fun hc => ?_
    have ho : off + n * i.size ≤ q := Nat.le_of_ble_eq_true hc
    obtain ⟨h1, h2⟩ := part_many hrd hq ho
    refine grow_sim hok ht hi hz hzs hby (fun w hw => firstCells_block hb (by omega) n c' w hw) (by simp; omega) hs ?_ hlt
    rw [app_eq]
    exact h1.append hr
  | true =>
    have hle : n + (m + 1) ≤ c' := Nat.le_of_ble_eq_true hble
    refine SimAt.chk fun hc => ?_
    have ho : off + n * i.size + (m + 1) * i.size ≤ q := Nat.le_of_ble_eq_true hc
    have hnl : news.length = (m + 1) * i.size := hs.newsLen
    have hcl : cs.length = (m + 1) * i.size := by rw [hr.length, hnl]
    have hrun := run_append_in (P := P) (ty := ty) (off := off) ht hi hb hs hle (by omega)
    have hdl : ds.length = q := by rw [hrd.length]; simp; omega
    obtain ⟨A, hA⟩ : ∃ A, A = off + n * i.size := ⟨_, rfl⟩
    have e1 : lay (Nat.add off (Nat.mul n i.size)) cs ds = ds.take A ++ cs ++ ds.drop (A + cs.length) := by
      subst hA
      exact lay_eq _ _ _ (by show off + n * i.size + cs.length ≤ _; omega)
    have e2 : (c.toList.take A ++ news ++ c.toList.drop (A + news.length)).toArray.toList.take q = (c.toList.take q).take A ++ news ++ (c.toList.take q).drop (A + news.length) := by
      simp only [List.append_assoc]
      rw [List.take_append, List.take_append, List.length_take, Array.length_toList, Nat.min_eq_left (by omega), List.take_take, List.take_take, Nat.min_eq_right (by omega), Nat.min_eq_left (by omega)]
      rw [List.take_of_length_le (l := news) (by omega), List.drop_take, show q - A - news.length = q - (A + news.length) by omega]
    have e3 : (c.toList.take A ++ news ++ c.toList.drop (A + news.length)).toArray.size = c.size := by simp; omega
    rw [← hA] at hrun
    generalize (c.toList.take A ++ news ++ c.toList.drop (A + news.length)).toArray = R at hrun e2 e3
    refine SimAt.wr (x := .val (.one (.row k off (n + (m + 1)) (.exact c')))) hok hk' hsk hb hroom (run_valS hrun) e3 hq ?_ ⟨_, .one (.row hsk ⟨rfl, hle⟩), .inl rfl⟩
    rw [e1, e2, hcl, hnl]
    exact ((hrd.take _).append hr).append (hrd.drop _)
theorem growIn_sim (hok : Ok P L ν h W) (ht : P.underlying t = some (.slice e)) (hi : P.info? e = some i) (hz : i.zero = some z) (hzs : z.cells.size = i.size) (hby : i.bytes ≤ 4096) (hs : Src P i.size u x (m + 1) news W) (hr : RepL ν cs news)
    (hsk : ν k = some (.blk b c')) (hnr : n ≤ c') : SimAt P L ν h W (growIn e i.size cs (m + 1) k n) (valS (Builtin.append_ #[t, u] ty #[.slice (some ⟨b, 0, none⟩) n c', x])) := by
  unfold growIn
  refine SimAt.rdC hok fun q ds e' b' room' c hk hs' hb hrd hq hroom => SimAt.chk fun hc => SimAt.drop ?_
  rw [hsk] at hs'
  cases hs'
  simp only [Bool.and_eq_true] at hc
  have he : e' = e := Nat.eq_of_beq_eq_true hc.1
  subst he
  have ho : 0 + n * i.size ≤ q := by rw [Nat.zero_add]; exact Nat.le_of_ble_eq_true hc.2
  obtain ⟨h1, h2⟩ := part_many hrd hq ho
  have hk3 := at_lt hk
  by_cases hle : n + (m + 1) ≤ c'
  · have hnl : news.length = (m + 1) * i.size := hs.newsLen
    obtain ⟨i', hi', hsz⟩ := hroom (by omega)
    rw [hi] at hi'
    cases hi'
    have hmul : (n + (m + 1)) * i.size ≤ c' * i.size := Nat.mul_le_mul_right _ hle
    have hmul2 : (n + (m + 1)) * i.size = n * i.size + news.length := by rw [Nat.add_mul, hnl]
    have hrun := run_append_in (P := P) (ty := ty) (off := 0) ht hi hb hs hle (by omega)
    have e2 : (c.toList.take (0 + n * i.size) ++ news ++ c.toList.drop (0 + n * i.size + news.length)).toArray.toList.take (Nat.mul (n + (m + 1)) i.size) = (c.toList.drop 0).take (n * i.size) ++ news := by
      have : Nat.mul (n + (m + 1)) i.size = n * i.size + news.length := hmul2
      rw [this]
      simp only [Nat.zero_add, List.drop_zero]
      rw [List.take_left' (by simp; omega)]
    have e3 : (c.toList.take (0 + n * i.size) ++ news ++ c.toList.drop (0 + n * i.size + news.length)).toArray.size = c.size := by simp; omega
    generalize (c.toList.take (0 + n * i.size) ++ news ++ c.toList.drop (0 + n * i.size + news.length)).toArray = R at hrun e2 e3
    unfold grow
    refine SimAt.chk fun hc4 => SimAt.new1 (g := fun k => .row k 0 (n + (m + 1)) .whole) fun k' hk' hk3' => ⟨.blk b c', _, _, run_valS hrun, ?_, .row (Nu.set_same _ _ _) ⟨rfl, rfl, hle⟩⟩
    have hok1 := hok.drop (W' := W.setRow b R) hk hsk fun j hj => setRow_other _ _ _ _ hj
    refine hok1.step (Sub.set hk' _) hk3' (fun _ _ _ _ _ _ _ _ => rfl) fun t0 ht0 => ?_
    cases ht0
    refine ⟨.blk b c', Nu.set_same _ _ _, ⟨R, setRow_heap W b c R e' (0, 0) hb, ?_, ?_, fun _ => ⟨i, hi, e3.trans hsz⟩⟩, fun j tj sj hj hjt hjs j' => ?_⟩
    · have e2' : R.toList.take (Nat.mul (Nat.add n (m + 1)) i.size) = (c.toList.drop 0).take (n * i.size) ++ news := e2
      rw [e2', app_eq]
      exact RepL.mono (Sub.set hk' _) (h1.append hr)
    · rw [e3]
      show (n + (m + 1)) * i.size ≤ _
      omega
    · have hne : j ≠ k := fun e => by
        subst e
        rw [at_lay hk3, if_pos rfl] at hjt
        cases hjt
      rw [at_lay hk3, if_neg hne] at hjt
      have ha := hok.apart k j _ tj _ sj (fun e => hne e.symm) hk hjt hsk hjs
      have ha' := hok.apart j k tj _ sj _ hne hjt hk hjs hsk
      exact ⟨fun hi => ha j' hi, fun hi => ⟨fun e => (ha' j' hi).1 e, fun e => e⟩⟩
  · have hok1 := hok.drop (W' := W) hk hsk fun _ _ => rfl
    refine grow_sim hok1 (olds := (c.toList.drop 0).take (n * i.size)) ht hi hz hzs hby (fun w hw => firstCells_block hb (by omega) n c' w hw) (by simp; omega) hs ?_ (by omega)
    rw [app_eq]
    exact h1.append hr
end
theorem appendRow_sim (hok : Ok P L ν h W) {t u ty e : TypeId} {i : TypeInfo} {z : Value} (ht : P.underlying t = some (.slice e)) (hi : P.info? e = some i) (hz : i.zero = some z) (hzs : z.cells.size = i.size) (hby : i.bytes ≤ 4096)
    {m : Nat} {cs : List Cell} {news : List Value} {x v : Value} (hs : Src P i.size u x (m + 1) news W) (hr : RepL ν cs news) {k off n : Nat} {c : Cap}
    (hrow : (∃ b room c', ν k = some (.blk b room) ∧ CapOk room off n c' c ∧ v = .slice (some ⟨b, off, none⟩) n c') ∨ (c = .lost ∧ n = 0 ∧ ∃ a c', v = .slice (some a) 0 c')) :
    SimAt P L ν h W (appendRow e i.size cs (m + 1) k off n c) (valS (Builtin.append_ #[t, u] ty #[v, x])) := by
  cases c with
  | lost => exact SimAt.bad _ _
  | some => exact SimAt.bad _ _
  | exact cc =>
    rcases hrow with ⟨b, room, c', hsk, hcap, ev⟩ | ⟨hcl, _⟩
    · subst ev
      obtain ⟨rfl, _⟩ := hcap
      exact growOut_sim hok ht hi hz hzs hby hs hr hsk
    · cases hcl
  | whole =>
    refine SimAt.chk fun hoff => ?_
    obtain rfl : off = 0 := Nat.eq_of_beq_eq_true hoff
    rcases hrow with ⟨b, room, c', hsk, hcap, ev⟩ | ⟨hcl, _⟩
    · subst ev
      obtain ⟨_, rfl, hnr⟩ := hcap
      exact growIn_sim hok ht hi hz hzs hby hs hr hsk hnr
    · cases hcl
theorem appendC_sim (hok : Ok P L ν h W) {t u ty e e' : TypeId} {i : TypeInfo} {z : Value} (ht : P.underlying t = some (.slice e)) (hu : P.underlying u = some (.slice e')) (hi : P.info? e = some i) (hz : i.zero = some z) (hzs : z.cells.size = i.size) (hby : i.bytes ≤ 4096)
    {s x : Env → Slot} {v vx : Value} (hs : RepS ν (s env) v) (hx : RepS ν (x env) vx) : SimAt P L ν h W (appendC e i.size s x env) (valS (Builtin.append_ #[t, u] ty #[v, vx])) := by
  unfold appendC
  refine newsRow_sim hok hu hx fun cs m news hr hsrc => ?_
  unfold appendK
  cases m with
  | zero =>
    have hn0 : news = [] := List.length_eq_zero_iff.1 (by rw [hsrc.newsLen, Nat.zero_mul])
    subst hn0
    exact sameRow_sim hok ht hi hs hsrc
  | succ m =>
    refine SimAt.asRow hs (fun e => ?_) fun k off n c hrow => appendRow_sim hok ht hi hz hzs hby hsrc hr hrow
    subst e
    have := grow_sim (ty := ty) (base := none) (n := 0) (c' := 0) (olds := []) hok ht hi hz hzs hby (fun w _ => run_firstCells_none w _ 0 0 0) (by simp) hsrc hr (by omega)
    rw [Nat.zero_add] at this
    exact this
end
end Go.Proofs.YtlpbbihjnmikkaaGreatDoor.Exe

namespace Go.Proofs.YtlpbbihjnmikkaaGreatDoor.Exe
set_option linter.unusedSimpArgs false

section
variable {P : Program} {L : Lore} {ν : Nu} {h : Heap D} {W : World} {ρ : Operand → Value} {env : Env}
theorem run_append_zeros {t u ty e : TypeId} {k : IntKind} {i : TypeInfo} {z : Value} (ht : P.underlying t = some (.slice e)) (hu : P.underlying u = some (.int k)) (hi : P.info? e = some i) (hz : i.zero = some z) (hby : i.bytes ≤ 4096) (hsz : 1 ≤ i.size) {n : Nat} (h1 : 1 ≤ n) (h4 : n ≤ 4096) :
    (Builtin.append_ #[t, u] ty #[.slice none 0 0, .int .i64 (n : Int)]).run P W = .ok (.slice (some ⟨W.heap.size, 0, none⟩) n (grownCap W n 0 e)) (W.drew.alloc (.cells (Builtin.zeroCells z.cells n ++ Builtin.zeroCells z.cells (grownCap W n 0 e - n)) e)) := by
  have hw := IntWalk.i64_in (n : Int) (by omega)
  have n1 : ¬ ((n : Int) < 0) := by omega
  have hmul : n * i.bytes ≤ 4096 * 4096 := Nat.mul_le_mul h4 hby
  have n2 : ¬ (281474976710656 < (n : Int) * (i.bytes : Int)) := by
    rw [← Int.natCast_mul]
    omega
  have n3 : ¬ (n ≤ 0) := by omega
  have n4 : ¬ ((9223372036854775807 : Int) < (n : Int)) := by omega
  have hcap : Builtin.nextslicecap n 0 ≤ 16384 := nextcap_small (by omega) h4
  have hmul2 := Nat.mul_le_mul hcap hby
  have n5 : ¬ (281474976710656 < Builtin.nextslicecap n 0 * i.bytes) := by omega
  have n6 : ¬ (n * i.size = 0) := by
    intro h
    rcases Nat.mul_eq_zero.1 h with h | h <;> omega
  have n7 : ¬ (n = 0 ∨ i.size = 0) := by omega
  simp [Builtin.append_, run_underlying ht, run_underlying hu, asInt, asIntOf, hw, n1, typeInfo, hi, n2, n3, n4, n5, sizeOf, Question.forced, run_firstCells_none, n6, n7, zeroValue, hz, newRow, grownCap]
  omega
theorem appendZ_sim (hok : Ok P L ν h W) {t u ty e : TypeId} {k : IntKind} {i : TypeInfo} {v : Value} {z : List Cell} (ht : P.underlying t = some (.slice e)) (hu : P.underlying u = some (.int k)) (hi : P.info? e = some i) (hz : i.zero = some v) (hc : cellsOfV v.cells.toList = some z) (hzs : v.cells.size = i.size) (h1s : 1 ≤ i.size) (hby : i.bytes ≤ 4096)
    {s x : Env → Slot} {vs vx : Value} (hs : RepS ν (s env) vs) (hx : RepS ν (x env) vx) : SimAt P L ν h W (appendZ e i.size z s x env) (valS (Builtin.append_ #[t, u] ty #[vs, vx])) := by
  unfold appendZ
  refine SimAt.asNat hx fun n hn63 ev => SimAt.chk fun hcn => SimAt.asRow hs (fun es => ?_) fun _ _ _ _ _ => SimAt.bad _ _
  subst ev es
  simp only [Bool.and_eq_true] at hcn
  have h1 : 1 ≤ n := Nat.le_of_ble_eq_true hcn.1
  have h4 : n ≤ 4096 := Nat.le_of_ble_eq_true hcn.2
  have hrun := run_append_zeros (P := P) (W := W) (ty := ty) ht hu hi hz hby h1s h1 h4
  have hge := grownCap_ge W n 0 e
  generalize grownCap W n 0 e = G at hrun hge
  unfold grow
  refine SimAt.chk fun _ => SimAt.new1 (g := fun k => .row k 0 n .whole) fun k hk hk3 => ⟨.blk W.heap.size G, _, _, run_valS hrun, ?_, .row (Nu.set_same _ _ _) ⟨rfl, rfl, hge⟩⟩
  have hzc : ∀ m, (Builtin.zeroCells v.cells m).size = m * i.size := fun m => by simp [Builtin.zeroCells, hzs]
  have hsize : (Builtin.zeroCells v.cells n ++ Builtin.zeroCells v.cells (G - n)).size = G * i.size := by
    rw [Array.size_append, hzc, hzc, ← Nat.add_mul]
    congr 1
    omega
  refine hok.alloc hk hk3 (W1 := W.drew) (fun _ _ => rfl) rfl ⟨rfl, rfl⟩ _ (fun i hi => hi) (fun i hi => hi) ⟨_, heap_alloc_new W.drew _, ?_, ?_, fun _ => ⟨i, hi, hsize⟩⟩
  · have hm : Nat.mul n i.size = (Builtin.zeroCells v.cells n).toList.length := by rw [Array.length_toList, hzc]; rfl
    rw [hm, Array.toList_append, List.take_left' rfl]
    exact RepL.mono (Sub.set hk _) (noughts_rep ν hc n)
  · rw [hsize]
    exact Nat.mul_le_mul_right _ hge
theorem run_arrayAt' {t e : TypeId} {n m c' : Nat} {a : Addr} (ht : P.underlying t = some (.array n e)) (hn : n ≤ m) : (Instr.arrayAt t (.slice (some a) m c')).run P W = .ok (.pointer (some a)) W := by
  simp [Instr.arrayAt, run_underlying ht, Nat.not_lt.2 hn]
theorem tell_sim (hok : Ok P L ν h W) {n : Nat} {m : Sem Value} (hm : m.run P W = .ok (.int .i64 (.ofNat n)) W) : SimAt P L ν h W (tell n) (valS m) :=
  SimAt.chk fun hb => SimAt.val1 (run_valS hm) hok (.nat n (by simpa [Nat.blt_eq] using hb))
theorem row_slice {v : Value} {k off n : Nat} {c : Cap} (hrow : (∃ b room c', ν k = some (.blk b room) ∧ CapOk room off n c' c ∧ v = .slice (some ⟨b, off, none⟩) n c') ∨ (c = .lost ∧ n = 0 ∧ ∃ a c', v = .slice (some a) 0 c')) : ∃ a c', v = .slice (some a) n c' := by
  rcases hrow with ⟨b, room, c', _, _, e⟩ | ⟨_, h0, a, c', e⟩
  · exact ⟨_, _, e⟩
  · exact ⟨a, c', by rw [h0]; exact e⟩
theorem lenC_sim (hok : Ok P L ν h W) {t ty e : TypeId} (ht : P.underlying t = some (.slice e)) {x : Env → Slot} {v : Value} (hx : RepS ν (x env) v) : SimAt P L ν h W (lenC x env) (valS (Builtin.len_ #[t] ty #[v])) := by
  unfold lenC
  cases isTok (x env) with
  | false =>
    show SimAt P L ν h W (lenK (x env)) _
    unfold lenK
    refine SimAt.asRow hx (fun e => ?_) fun k off n c hrow => ?_
    · subst e
      exact SimAt.val1 (v := .int .i64 (.ofNat 0)) (run_valS (by simp [Builtin.len_, run_underlying ht]; rfl)) hok (.nat 0 (by decide))
    · obtain ⟨a, c', rfl⟩ := row_slice hrow
      exact tell_sim hok (by simp [Builtin.len_, run_underlying ht]; rfl)
  | true =>
    refine tokTo_sim hok hx fun d d' o e' hd hc => ?_
    obtain ⟨a, n, c, rfl, h1⟩ := L.len_ok hd hc
    exact ⟨_, run_valS (by simp [Builtin.len_, run_underlying ht]; rfl), rfl, h1⟩
theorem lenS_sim (hok : Ok P L ν h W) {t ty : TypeId} (ht : P.underlying t = some .string) {x : Env → Slot} {v : Value} (hx : RepS ν (x env) v) : SimAt P L ν h W (lenS x env) (valS (Builtin.len_ #[t] ty #[v])) := by
  unfold lenS
  split
  · rename_i s hs
    rw [hs] at hx
    cases hx with
    | one hc =>
      cases hc
      exact tell_sim hok (by simp [Builtin.len_, run_underlying ht]; rfl)
  · exact SimAt.bad _ _
theorem lenM_sim (hok : Ok P L ν h W) {t ty a b : TypeId} (ht : P.underlying t = some (.map a b)) {x : Env → Slot} {v : Value} (hx : RepS ν (x env) v) : SimAt P L ν h W (lenM x env) (valS (Builtin.len_ #[t] ty #[v])) := by
  unfold lenM
  refine SimAt.asMap hx fun k r hk e => SimAt.rdM hok fun es c r' ms hkt hk' hb hl => ?_
  rw [hk] at hk'
  cases hk'
  subst e
  refine tell_sim hok ?_
  have hsz : ms.size = len es := by rw [len_eq, hl.length]; simp
  have hg : (getObj r).run P W = .ok (.map ms c) W := by simp [getObj, Sem.run, hb]
  simp [Builtin.len_, run_underlying ht, hg, hsz]
  rfl
theorem capC_sim (hok : Ok P L ν h W) {t ty e : TypeId} (ht : P.underlying t = some (.slice e)) {x : Env → Slot} {v : Value} (hx : RepS ν (x env) v) : SimAt P L ν h W (capC x env) (valS (Builtin.cap_ #[t] ty #[v])) := by
  unfold capC
  refine SimAt.asRow hx (fun e => ?_) fun k off n c hrow => ?_
  · subst e
    exact SimAt.val1 (v := .int .i64 (.ofNat 0)) (run_valS (by simp [Builtin.cap_, run_underlying ht]; rfl)) hok (.nat 0 (by decide))
  · cases c with
    | exact c =>
      rcases hrow with ⟨b, room, c', _, hcap, e⟩ | ⟨h0, _⟩
      · subst e
        obtain ⟨rfl, _⟩ := hcap
        exact tell_sim hok (by simp [Builtin.cap_, run_underlying ht]; rfl)
      · cases h0
    | _ => exact SimAt.bad _ _
theorem num_sim (hok : Ok P L ν h W) {n : Nat} {m : Sem Value} (hm : m.run P W = .ok (.int .i64 (.ofNat n)) W) : SimAt P L ν h W (numC n env) (valS m) := tell_sim hok hm
theorem clearC_sim (hok : Ok P L ν h W) {t ty e : TypeId} {i : TypeInfo} {v : Value} {z : List Cell} (ht : P.underlying t = some (.slice e)) (hi : P.info? e = some i) (hz : i.zero = some v) (hc : cellsOfV v.cells.toList = some z) (hzl : z.length = i.size) (hzs : v.cells.size = i.size)
    {x : Env → Slot} {vx : Value} (hx : RepS ν (x env) vx) : SimAt P L ν h W (clearC i.size z x env) (valS (Builtin.clear_ #[t] ty #[vx])) := by
  unfold clearC
  refine SimAt.asRow hx (fun e => ?_) fun k off n c hrow => ?_
  · subst e
    exact SimAt.ret (run_valS (v := .tuple #[]) (by simp [Builtin.clear_, run_underlying ht])) hok ⟨_, undef_rep ν, .inl rfl⟩
  · cases n with
    | zero =>
      obtain ⟨a, c', rfl⟩ := row_slice hrow
      exact SimAt.ret (run_valS (v := .tuple #[]) (by simp [Builtin.clear_, run_underlying ht])) hok ⟨_, undef_rep ν, .inl rfl⟩
    | succ n =>
      rcases hrow with ⟨b, room, c', hs, hcap, e⟩ | ⟨_, h0, _⟩
      · subst e
        show SimAt P L ν h W (putK k off (Nat.mul (n + 1) i.size) (noughts z (n + 1))) _
        have hzc : (Builtin.zeroCells v.cells (n + 1)).toList.length = (n + 1) * i.size := by simp [Builtin.zeroCells, hzs]
        have hq : ∀ (c : Array Value) (e' : TypeId), W.heap[b]? = some (.cells c e' (0, 0)) → off + (n + 1) * i.size ≤ c.size → (valS (Builtin.clear_ #[t] ty #[.slice (some ⟨b, off, none⟩) (n + 1) c'])).run P W = .ok (.value undef) (W.setRow b (c.toList.take off ++ (Builtin.zeroCells v.cells (n + 1)).toList ++ c.toList.drop (off + (n + 1) * i.size)).toArray) := fun c e' hb ho => by
          refine run_valS ?_
          have hst := run_storeCells_at (P := P) b off e' (Builtin.zeroCells v.cells (n + 1)).toList 0 c W hb (by omega) (noughts_rep (fun _ => none) hc (n + 1)).singles
          rw [Nat.add_zero, hzc] at hst
          simp [Builtin.clear_, run_underlying ht, run_zero hi hz, hst]
          rfl
        have hnl : (noughts z (n + 1)).length = (n + 1) * i.size := by rw [noughts_length, hzl]
        have hnr : RepL ν (noughts z (n + 1)) (Builtin.zeroCells v.cells (n + 1)).toList := noughts_rep ν hc (n + 1)
        exact putV_sim (x := .val undefS) (res := .value undef) hok ⟨undef, undef_rep ν, .inl rfl⟩ hs hnr hnl hq
      · cases h0
theorem arrC_sim (hok : Ok P L ν h W) {t e : TypeId} {n : Nat} (ht : P.underlying t = some (.array (n + 1) e)) {x : Env → Slot} {v : Value} (hx : RepS ν (x env) v) : SimAt P L ν h W (arrC (n + 1) x env) (valS (Instr.arrayAt t v)) := by
  unfold arrC
  refine SimAt.asRow hx (fun e => SimAt.bad _ _) fun k off m c hrow => SimAt.chk fun hc => ?_
  have hle : n + 1 ≤ m := Nat.le_of_ble_eq_true hc
  rcases hrow with ⟨b, room, c', hs, _, e⟩ | ⟨_, h0, _⟩
  · subst e
    exact SimAt.val1 (run_valS (run_arrayAt' ht hle)) hok (.ptr hs)
  · omega
end
end Go.Proofs.YtlpbbihjnmikkaaGreatDoor.Exe

namespace Go.Proofs.YtlpbbihjnmikkaaGreatDoor.Exe
set_option linter.unusedSimpArgs false

section
variable {P : Program} {L : Lore} {ν : Nu} {h : Heap D} {W : World} {ρ : Operand → Value} {env : Env}
theorem copyC_sim (hok : Ok P L ν h W) {t u ty e : TypeId} {i : TypeInfo} (ht : P.underlying t = some (.slice e)) (hi : P.info? e = some i) {d s : Env → Slot} {vd vs : Value} (hd : RepS ν (d env) vd) (hs : RepS ν (s env) vs) :
    SimAt P L ν h W (copyC i.size d s env) (valS (Builtin.copy_ #[t, u] ty #[vd, vs])) := by
  unfold copyC
  have hzero : ∀ a n c a' m c', Nat.min m n = 0 → vd = .slice a n c → vs = .slice a' m c' → SimAt P L ν h W (ret1 (.nat 0)) (valS (Builtin.copy_ #[t, u] ty #[vd, vs])) := fun a n c a' m c' h0 e1 e2 => by
    subst e1 e2
    refine SimAt.val1 (v := .int .i64 (.ofNat 0)) (run_valS ?_) hok (.nat 0 (by decide))
    cases a <;> cases a' <;> simp [Builtin.copy_, run_underlying ht, Builtin.lenOf, h0, sizeOf, typeInfo, hi, Builtin.firstCells, loadCells, loadCellsFrom, storeCells, goInt]
  refine SimAt.asRow hd (fun e1 => SimAt.asRow hs (fun e2 => hzero none 0 0 none 0 0 rfl e1 e2) fun k' off' m c' hrow' => ?_) fun k off n c hrow => ?_
  · obtain ⟨a', c'', e2⟩ := row_slice hrow'
    exact hzero none 0 0 (some a') m c'' (Nat.min_zero m) e1 e2
  · obtain ⟨a, c2, e1⟩ := row_slice hrow
    refine SimAt.asRow hs (fun e2 => hzero (some a) n c2 none 0 0 (Nat.zero_min n) e1 e2) fun k' off' m c' hrow' => ?_
    obtain ⟨a', c2', e2⟩ := row_slice hrow'
    cases hj : Nat.min m n with
    | zero => exact hzero _ _ _ _ _ _ hj e1 e2
    | succ j =>
      have hmn : j + 1 ≤ n := by have : Nat.min m n ≤ n := Nat.min_le_right m n; omega
      have hmm : j + 1 ≤ m := by have : Nat.min m n ≤ m := Nat.min_le_left m n; omega
      show SimAt P L ν h W (copyRow i.size (j + 1) k off k' off') _
      rcases hrow with ⟨b, room, c3, hsk, _, ed⟩ | ⟨_, h0, _⟩
      · rcases hrow' with ⟨b', room', c3', hsk', _, es⟩ | ⟨_, h0, _⟩
        · subst ed es
          unfold copyRow
          refine SimAt.rdC hok fun q cs e' b2 room2 cc hk2 hs2 hb hr hq _ => SimAt.chk fun hc => ?_
          rw [hsk'] at hs2
          cases hs2
          simp only [Bool.and_eq_true] at hc
          have ho : off' + (j + 1) * i.size ≤ q := Nat.le_of_ble_eq_true hc.1
          have hj63 : j + 1 < 9223372036854775808 := by simpa [Nat.blt_eq] using hc.2
          obtain ⟨g1, g2⟩ := part_many hr hq ho
          have hfc := firstCells_block (P := P) (size := i.size) (n := j + 1) (off := off') hb (by omega) m c3' W fun _ => rfl
          have hlen : ((cc.toList.drop off').take ((j + 1) * i.size)).length = (j + 1) * i.size := by simp; omega
          refine putV_sim (x := .val (.one (.nat (j + 1)))) hok (res := .value (.int .i64 (.ofNat (j + 1)))) ⟨_, .one (.nat (j + 1) hj63), .inl rfl⟩ hsk g1 g2 fun dd e2 hbd ho2 => run_valS ?_
          have hst := run_storeCells_at (P := P) b off e2 ((cc.toList.drop off').take ((j + 1) * i.size)) 0 dd W hbd (by rw [hlen]; exact ho2) g1.singles
          rw [Nat.add_zero, hlen] at hst
          have hj' : Nat.min m n = j + 1 := hj
          simp [Builtin.copy_, run_underlying ht, Builtin.lenOf, hj', sizeOf, typeInfo, hi, hfc, hst, goInt]
        · omega
      · omega
end
end Go.Proofs.YtlpbbihjnmikkaaGreatDoor.Exe

namespace Go.Proofs.YtlpbbihjnmikkaaGreatDoor.Exe
set_option linter.unusedSimpArgs false

section
variable {P : Program} {L : Lore} {ν : Nu} {h : Heap D} {W : World} {ρ : Operand → Value} {env : Env}
theorem extreme_fold (hok : Ok P L ν h W) {f : Nat → Nat → Nat} {g : Value → Value → Sem Value} (hg : ∀ m n, g (.int .i64 (.ofNat m)) (.int .i64 (.ofNat n)) = pure (.int .i64 (.ofNat (f m n)))) (hlt : ∀ m n, m < 9223372036854775808 → n < 9223372036854775808 → f m n < 9223372036854775808) :
    ∀ (xs : List (Env → Slot)) (us : List Value) (n : Nat), All2 (RepS ν) (all xs env) us → n < 9223372036854775808 →
      SimAt P L ν h W (List.rec (motive := fun _ => Nat → M D Nx) (fun n => ret1 (.nat n)) (fun x _ ih n => asNat 85 (x env) fun m => force (f n m) ih) xs n) (valS (us.foldlM g (.int .i64 (.ofNat n))))
  | [], us, n, hu, hn => by
    cases hu
    exact SimAt.val1 (v := .int .i64 (.ofNat n)) (run_valS (by simp)) hok (.nat n hn)
  | x :: xs, us, n, hu, hn => by
    have hu' : All2 (RepS ν) (x env :: all xs env) us := hu
    cases hu' with
    | @cons _ u _ us h1 h2 =>
      show SimAt P L ν h W (asNat 85 (x env) fun m => force (f n m) _) _
      refine SimAt.asNat h1 fun m hm e => ?_
      subst e
      rw [force_eq, List.foldlM_cons, hg]
      exact extreme_fold hok hg hlt xs us (f n m) h2 (hlt n m hn hm)
theorem extremeC_sim (hok : Ok P L ν h W) {f : Nat → Nat → Nat} {g : Value → Value → Sem Value} (hg : ∀ m n, g (.int .i64 (.ofNat m)) (.int .i64 (.ofNat n)) = pure (.int .i64 (.ofNat (f m n)))) (hlt : ∀ m n, m < 9223372036854775808 → n < 9223372036854775808 → f m n < 9223372036854775808)
    {x : Env → Slot} {xs : List (Env → Slot)} {v : Value} {us : List Value} (hx : RepS ν (x env) v) (hu : All2 (RepS ν) (all xs env) us) : SimAt P L ν h W (extremeC f x xs env) (valS (us.foldlM g v)) := by
  unfold extremeC
  refine SimAt.asNat hx fun n hn e => ?_
  subst e
  exact extreme_fold hok hg hlt xs us n hu hn
theorem min2_eq (m n : Nat) : Builtin.min2 (.int .i64 (.ofNat m)) (.int .i64 (.ofNat n)) = pure (.int .i64 (.ofNat (min2F m n))) := by
  unfold Builtin.min2 min2F
  cases hb : Nat.blt n m with
  | true =>
    have : n < m := by simpa [Nat.blt_eq] using hb
    simp [this]
  | false =>
    have : ¬ n < m := fun h => by rw [show Nat.blt n m = true by simpa [Nat.blt_eq] using h] at hb; cases hb
    simp [this]
theorem max2_eq (m n : Nat) : Builtin.max2 (.int .i64 (.ofNat m)) (.int .i64 (.ofNat n)) = pure (.int .i64 (.ofNat (max2F m n))) := by
  unfold Builtin.max2 max2F
  cases hb : Nat.blt m n with
  | true =>
    have : m < n := by simpa [Nat.blt_eq] using hb
    simp [this]
  | false =>
    have : ¬ m < n := fun h => by rw [show Nat.blt m n = true by simpa [Nat.blt_eq] using h] at hb; cases hb
    simp [this]
theorem min2F_lt (m n : Nat) (hm : m < 9223372036854775808) (hn : n < 9223372036854775808) : min2F m n < 9223372036854775808 := by
  unfold min2F
  cases Nat.blt n m <;> assumption
theorem max2F_lt (m n : Nat) (hm : m < 9223372036854775808) (hn : n < 9223372036854775808) : max2F m n < 9223372036854775808 := by
  unfold max2F
  cases Nat.blt m n <;> assumption

theorem intMap_eq {t : TypeId} {z : Slot} (hz : intMap P t = some z) : ∃ k e i v, P.underlying t = some (.map k e) ∧ P.underlying k = some (.int .i64) ∧ P.info? e = some i ∧ i.zero = some v ∧ slotOf v = some z := by
  unfold intMap at hz
  split at hz
  · rename_i k e hu
    split at hz
    · rename_i hk
      split at hz
      · rename_i i hi
        split at hz
        · rename_i v hv
          exact ⟨k, e, i, v, hu, hk, hi, hv, hz⟩
        · cases hz
      · cases hz
    · cases hz
  · cases hz
theorem find_none {n : Nat} : ∀ {es : List (Nat × Slot × Nat)} {ms : List MapEntry} (i : Nat), All2 (RepM ν) es ms → findA n es i = none → Instr.findNow (.int .i64) (.int .i64 (.ofNat n)) ms i = some none
  | [], ms, i, h, _ => by cases h; rfl
  | (m, s, b) :: es, ms, i, h, hf => by
    cases h with
    | @cons _ e _ ms h1 h2 =>
      unfold findA at hf
      cases hb : Nat.beq n m with
      | true => rw [hb] at hf; cases hf
      | false =>
        rw [hb] at hf
        have hne : n ≠ m := fun e => by subst e; rw [Nat.beq_refl] at hb; cases hb
        have hk : e.key = .int .i64 (.ofNat m) := h1.1
        have hs : Instr.sameNow (.int .i64) (.int .i64 (.ofNat n)) (.int .i64 (.ofNat m)) = some false := by
          simp [Instr.sameNow]
          omega
        unfold Instr.findNow
        rw [hk, hs]
        exact find_none (i + 1) h2 hf
theorem find_some {n j : Nat} {s : Slot} : ∀ {es : List (Nat × Slot × Nat)} {ms : List MapEntry} (i : Nat), All2 (RepM ν) es ms → findA n es i = some (j, s) → ∃ v, Instr.findNow (.int .i64) (.int .i64 (.ofNat n)) ms i = some (some (j, v)) ∧ RepS ν s v ∧ i ≤ j ∧ ∃ b, es[j - i]? = some (n, s, b)
  | [], ms, i, h, hf => by cases hf
  | (m, s', b) :: es, ms, i, h, hf => by
    cases h with
    | @cons _ e _ ms h1 h2 =>
      unfold findA at hf
      cases hb : Nat.beq n m with
      | true =>
        rw [hb] at hf
        cases hf
        have hnm : n = m := Nat.eq_of_beq_eq_true hb
        subst hnm
        have hk : e.key = .int .i64 (.ofNat n) := h1.1
        refine ⟨e.val, ?_, h1.2.2.1, Nat.le_refl _, b, by simp⟩
        have hs : Instr.sameNow (.int .i64) (.int .i64 (.ofNat n)) (.int .i64 (.ofNat n)) = some true := by simp [Instr.sameNow]
        unfold Instr.findNow
        rw [hk, hs]
      | false =>
        rw [hb] at hf
        have hne : n ≠ m := fun e => by subst e; rw [Nat.beq_refl] at hb; cases hb
        have hk : e.key = .int .i64 (.ofNat m) := h1.1
        have hs : Instr.sameNow (.int .i64) (.int .i64 (.ofNat n)) (.int .i64 (.ofNat m)) = some false := by
          simp [Instr.sameNow]
          omega
        obtain ⟨v, g1, g2, g3, b', g4⟩ := find_some (i + 1) h2 hf
        refine ⟨v, ?_, g2, by omega, b', ?_⟩
        · unfold Instr.findNow
          rw [hk, hs]
          exact g1
        · rw [show j - i = (j - (i + 1)) + 1 by omega, List.getElem?_cons_succ]
          exact g4
theorem run_checkInt {k : TypeId} {kd : IntKind} (hk : P.underlying k = some (.int kd)) (b : Bool) (n : Nat) (x : Int) (w : World) : (Instr.checkKey b (n + 1) k (.int kd x)).run P w = .ok () w := by
  simp [Instr.checkKey, run_underlying hk]
theorem run_findKey' {k : TypeId} (hk : P.underlying k = some (.int .i64)) {x : Value} {ms : List MapEntry} {r : Option (Nat × Value)} (hf : Instr.findNow (.int .i64) x ms 0 = some r) (w : World) : (Instr.findKey k x ms).run P w = .ok r w := by
  unfold Instr.findKey
  rw [Sem.run_bind, run_underlying hk]
  simp [hf]
theorem found_sim (hok : Ok P L ν h W) {ok b : Bool} {s : Slot} {v : Value} (hs : RepS ν s v) {m : Sem Value} (hm : m.run P W = .ok (if ok then .tuple #[v, .bool b] else v) W) : SimAt P L ν h W (found ok s b) (valS m) := by
  unfold found
  cases ok with
  | false => exact SimAt.val (run_valS (by simpa using hm)) hok hs
  | true =>
    have hm' : m.run P W = .ok (.tuple #[v, .bool b]) W := by simpa using hm
    show SimAt P L ν h W (partOf s _) _
    unfold partOf
    cases hs with
    | one hc => exact SimAt.val (run_valS hm') hok (.tup (.cons (.one hc) (.cons (.one (.bool b)) .nil)))
    | agg hl hn => exact SimAt.val (run_valS hm') hok (.tup (.cons (.agg hl hn) (.cons (.one (.bool b)) .nil)))
    | tup _ => exact SimAt.bad _ _
theorem lookupC_sim (hok : Ok P L ν h W) {t : TypeId} {z : Slot} (hz : intMap P t = some z) {ok : Bool} {x i : Env → Slot} {v u : Value} (hx : RepS ν (x env) v) (hi : RepS ν (i env) u) : SimAt P L ν h W (lookupC ok z x i env) (valS (Instr.lookup t v u ok)) := by
  obtain ⟨k, e, ti, zv, hu, hk, hti, hzv, hsl⟩ := intMap_eq hz
  unfold lookupC
  refine SimAt.asMap hx fun r r' hr ev => SimAt.asNat hi fun n hn en => SimAt.rdM hok fun es c r2 ms hkt hr2 hb hl => ?_
  subst ev en
  rw [hr] at hr2
  cases hr2
  have hg : (getObj r').run P W = .ok (.map ms c) W := by simp [getObj, Sem.run, hb]
  have hck := run_checkInt hk ms.isEmpty 9999 (n : Int) W
  split
  · rename_i j s hf
    obtain ⟨v, g1, g2, _⟩ := find_some 0 hl hf
    refine found_sim hok g2 ?_
    have hfk := run_findKey' hk g1 W
    simp only [Int.ofNat_eq_natCast] at hfk ⊢
    cases ok <;> simp [Instr.lookup, run_underlying hu, hg, hck, hfk]
  · rename_i hf
    have g1 := find_none 0 hl hf
    refine found_sim hok (slotOf_rep ν hsl) ?_
    have hfk := run_findKey' hk g1 W
    simp only [Int.ofNat_eq_natCast] at hfk ⊢
    cases ok <;> simp [Instr.lookup, run_underlying hu, hg, hck, hfk, run_zero hti hzv]
end
end Go.Proofs.YtlpbbihjnmikkaaGreatDoor.Exe
