/-
  Joined: GcmK, KeyB
-/
import Derived.Test.YtlpbbihjnmikkaaGreatDoorJ35
import Derived.Test.YtlpbbihjnmikkaaGreatDoorJ33
namespace Go.Proofs.YtlpbbihjnmikkaaGreatDoor.Exe
set_option linter.unusedSimpArgs false
set_option linter.unusedVariables false
set_option maxRecDepth 100000
open Go.RowKit

/-- An append onto a row that has no room. -/
theorem run_join {w : World} {A : Option Addr} {c : Nat} {l k : List Oct} {u : Value} (hu : Exe.Src (.slice A l.length c) l w) (hk : Exe.Src u k w) (h0 : 0 < k.length) (hl : l.length ≤ 8192) (hkl : k.length ≤ 8192) (ty : TypeId) :
    ∃ v' w', (Builtin.append_ #[24, 24] ty #[.slice A l.length l.length, u]).run Tryz.prog w = .ok v' w' ∧ Owns w' w.heap.size v' (l ++ k) ∧ Keeps w.heap.size w w' := by
  rcases hu with ⟨e, rfl⟩ | ⟨b, o, cap, e, hcap, hlt, hr⟩
  · cases e
    obtain ⟨v', w', h1, h2, h3, h4⟩ := run_append_src (World.ownsRow_nil w w.heap.size 5 1) (by decide) (Nat.le_refl _) hk hkl ty
    exact ⟨v', w', h1, owns_of h2 (by simp) (by simp [octs]), h3, h4.block, h4.calm⟩
  · cases e
    rcases hk with ⟨_, rfl⟩ | ⟨b2, o2, cap2, rfl, hcap2, hlt2, hr2⟩
    · simp at h0
    · obtain ⟨i, hi, hz, hsz, hby⟩ := info5
      have hcells : ∀ (l : List Oct) (b o : Nat), (∀ j (h : j < l.length), w.cell? ⟨b, o + j, none⟩ = some (.int .u8 (l[j]'h).toNat)) → ∀ j v, (octs l)[j]? = some v → w.cell? ((⟨b, o, none⟩ : Addr).add j) = some v := fun l b o hr j v hv => by
        have hj : j < l.length := by
          rcases Nat.lt_or_ge j l.length with h | h
          · exact h
          · rw [List.getElem?_eq_none (by simpa [octs] using h)] at hv; cases hv
        rw [Addr.add_mid, hr j hj]
        simpa [octs, hj] using hv
      have hg := run_append_grow (P := Tryz.prog) w 24 ty 5 i _ Tryz.underlying24 hi hz ⟨b, o, none⟩ l.length l.length (octs l) (by simp [octs, hsz]) (hcells l b o hr) ⟨b2, o2, none⟩ k.length cap2 (octs k) (by simp [octs, hsz]) (hcells k b2 o2 hr2) (by omega) (by omega) (growslice_fits (need := l.length + k.length) (old := l.length) (bytes := i.bytes) (by omega) (by rw [hby]; omega))
      refine ⟨_, _, hg, ?_, ⟨by simp, fun j hj => heap_alloc_old (w := w.drew) _ (by show j < w.heap.size; omega), rfl, rfl⟩⟩
      have hge := grownCap_ge w (l.length + k.length) l.length 5
      have hcm := grownCap_le_maxLen w (l.length + k.length) l.length 5 (by unfold maxLen; omega)
      have hz1 : (Value.int .u8 0).cells.size = 1 := rfl
      have hlen : (octs (l ++ k)).length = (l ++ k).length * 1 := by simp [octs]
      refine ⟨hlen, .inr ⟨w.heap.size, _, _, by rw [List.length_append], Nat.le_refl _, heap_alloc_new w.drew _, by rw [List.length_append]; exact hge, hcm, ?_, ?_⟩⟩
      · simp only [Array.size_append, List.size_toArray, size_zeroCells, hz1, octs, List.length_map]
        omega
      · simp only [Array.toList_append]
        rw [← octs_append]
        exact List.take_left' (by simp [octs])
theorem step_join {ops : Array Oper} {o : Oper} {a : Act} {w : World} {Q : Exit → Act → World → Prop} {K : Act → World → Prop} {E : Prop} (hgd : o.guard = none) (s x : Operand) (ho : o.op = .call { callee := .builtin .append, args := #[s, x], argTypes := #[24, 24] })
    {A : Option Addr} {c n : Nat} {l k : List Oct} {u : Value} (hs : a.eval s = .slice A n n) (hx : a.eval x = u) (hn : n = l.length) (hu : Exe.Src (.slice A l.length c) l w) (hk : Exe.Src u k w) (h0 : 0 < k.length) (hl : l.length ≤ 8192) (hkl : k.length ≤ 8192)
    (h : ∀ v' w', Owns w' w.heap.size v' (l ++ k) → Keeps w.heap.size w w' → K (a.put o.dst v') w') : if Region.wanted o (yielded ops a.tmps) = true then Oper.wp Tryz.prog o a w K Q else E := by
  have hw : Region.wanted o (yielded ops a.tmps) = true := by simp [Region.wanted, hgd]
  rw [if_pos hw]
  subst hn
  obtain ⟨v', w', hrun, h2, h3⟩ := run_join hu hk h0 hl hkl o.type
  unfold Oper.wp execOp
  simp only [ho, resolve, invoke, builtin, Sem.run_bind, Sem.run_pure, Result.andThen_ok, List.map_toArray, List.map_cons, List.map_nil, hs, hx]
  rw [hrun]
  exact h v' w' h2 h3
/-- The world of gcm.Seal: the arguments' blocks. -/
structure S0 (w w' : World) (kk nn : List Oct) : Prop where
  s : Keeps w.heap.size w w'
  a : Cells w' w.heap.size (octs kk).toArray 23
  b : Cells w' (w.heap.size + 1) (octs nn).toArray 240
theorem S0.start (w : World) (kk nn : List Oct) : S0 w ((w.alloc (.cells (octs kk).toArray 23)).alloc (.cells (octs nn).toArray 240)) kk nn := by
  have s1 : (w.alloc (.cells (octs kk).toArray 23)).heap.size = w.heap.size + 1 := by simp
  have kA := Keeps.alloc w (.cells (octs kk).toArray 23)
  have kB := Keeps.alloc (w.alloc (.cells (octs kk).toArray 23)) (.cells (octs nn).toArray 240)
  refine ⟨kA.trans kB kA.1, Cells.keeps (heap_new w (octs kk).toArray 23) kB, ?_⟩
  have := heap_new (w.alloc (.cells (octs kk).toArray 23)) (octs nn).toArray 240
  rw [s1] at this
  exact this
theorem S0.later {w w1 w2 : World} {kk nn : List Oct} (h : S0 w w1 kk nn) (q : Keeps w1.heap.size w1 w2) : S0 w w2 kk nn :=
  ⟨h.s.trans q h.s.1, h.a.keeps q, h.b.keeps q⟩
theorem src_of_owns {w : World} {base : Nat} {v : Value} {l : List Oct} (h : Owns w base v l) : Exe.Src v l w := h.rowB.src
set_option maxHeartbeats 4000000 in
theorem seal122 (C : Ciph) {w : World} {u v : Value} {kk nn b t : List Oct} (hT : Laid w) (hk : kk.length = 32) (hn : nn.length = 12) (hu : Exe.Src u b w) (hv : Exe.Src v t w) (hlb : b.length ≤ 1024) (hlt : t.length ≤ 1024) :
    Calls Tryz.prog 122 #[.agg (octs kk).toArray, .agg (octs nn).toArray, u, v] w fun e w' => ∃ v', e = .returned v' ∧ Owns w' w.heap.size v' (sealG kk nn b t) ∧ Keeps w.heap.size w w' := by
  have h0 := S0.start w kk nn
  have hv0 := hv.later h0.s.1 h0.s.2
  have hT0 := hT.keeps h0.s.2
  have hlt4 : t.length ≤ 4096 := by omega
  have hX : (xorG (expO kk) nn t).length ≤ 1024 := by rw [xorG_len]; exact hlt
  have hG := tagG_len (expO kk) nn b (xorG (expO kk) nn t)
  go_enter Tryz.func122, Tryz.ntmps122
  go_wp2_with (first
    | (with_reducible refine wpList_loadA 23 rfl Tryz.underlying23 rfl (.tmp 4) rfl rfl h1.a (info23 hk) ?_)
    | (with_reducible refine wpList_loadA 240 rfl Tryz.underlying240 rfl (.tmp 5) rfl rfl h1.b (info240 hn) ?_)
    | (with_reducible refine wpList_loadA 23 rfl Tryz.underlying23 rfl (.tmp 4) rfl rfl h0.a (info23 hk) ?_)
    | (with_reducible refine wpList_loadA 240 rfl Tryz.underlying240 rfl (.tmp 5) rfl rfl h0.b (info240 hn) ?_)
    | (go_at_call 196; (with_reducible refine (xor196 C hT0 hk hn hv0 hlt4).mono ?_); rintro e w1 ⟨v1, rfl, o1, k1⟩; have h1 := h0.later k1; have hT1 := hT.keeps h1.s.2; have hu1 := hu.later h1.s.1 h1.s.2)
    | (go_at_call 197; (with_reducible refine (tag197 C hT1 hk hn hu1 (src_of_owns o1) hlb hX).mono ?_); rintro e w2 ⟨rfl, k2⟩; have h2 := h1.later k2; have o2 := o1.keeps k2; have hz2 : Cells (w2.alloc (.cells z16 310)) w2.heap.size z16 310 := heap_new w2 z16 310)
    | (with_reducible refine wpList_storeA 310 rfl (.tmp 10) (.tmp 19) rfl rfl rfl hz2 (info310 hG) (z16o hG) (octs_all _) ?_; intro w3 hc3 hz3 hb3; have k3 := Keeps.allocStore _ hz3 hb3; have h3 := h2.later k3; have o3 := o2.keeps k3; clear hz2 hz3 hb3 k3 o2 h2 k2; generalize w2.heap.size = gt at hc3 ⊢))
  have s3 := src_of_owns o3
  have hb3 := o3.2
  have l3 := h3.s.1
  obtain ⟨T, hTe⟩ : ∃ T, T = tagG (expO kk) nn b (xorG (expO kk) nn t) := ⟨_, rfl⟩
  rw [← hTe] at hc3 hG
  obtain ⟨X, hXe⟩ : ∃ X, X = xorG (expO kk) nn t := ⟨_, rfl⟩
  rw [← hXe] at o3 s3 hb3 hX
  replace hXe := Lib.hid hXe
  replace hTe := Lib.hid hTe
  clear o1 k1 h1 hT1 hu1 hv0 hT0 h0 o3
  rcases hb3 with ⟨rfl, h00⟩ | ⟨g, cap, cur, rfl, _, _, hcap, _⟩
  · have hX0 : X.length = 0 := h00
    have s3 : Exe.Src (.slice none X.length 0) X w3 := by rw [hX0]; exact s3
    try simp only [Act.put]
    refine wp_region_begin (by kernel_rfl) ?_
    have h3 := h3.later (w2 := w3.drew) ⟨Nat.le_refl _, fun _ _ => rfl, rfl, rfl⟩
    have hc3 := hc3.keeps (w' := w3.drew) ⟨Nat.le_refl _, fun _ _ => rfl, rfl, rfl⟩
    have s3 := s3.later (w' := w3.drew) (Nat.le_refl _) (fun _ _ => rfl)
    generalize w3.drew = wd at h3 hc3 s3 ⊢
    refine wpAny_take (i := 0) (oi := ?_) (v := ?_) ?_ (by kernel_rfl) (by kernel_rfl) (by kernel_rfl) ?_ ?_ ?_
    rotate_left 2
    · simp only [List.getElem?_toArray, List.getElem?_cons_zero, List.getElem?_cons_succ]
      with_reducible rfl
    · exact fun _ _ _ q => q
    · (refine Or.inl ⟨?_, ?_⟩; rfl; intro w; go_simp; with_reducible rfl)
    simp only [Act.put, List.setIfInBounds_toArray, List.set_cons_zero, List.set_cons_succ]
    refine wpAny_take (i := 1) (oi := ?_) (v := ?_) ?_ (by kernel_rfl) (by kernel_rfl) (by kernel_rfl) ?_ ?_ ?_
    rotate_left 2
    · simp only [List.getElem?_toArray, List.getElem?_cons_zero, List.getElem?_cons_succ]
      with_reducible rfl
    · exact fun _ _ _ q => q
    · (refine Or.inl ⟨?_, ?_⟩; rfl; intro w; go_simp; with_reducible rfl)
    simp only [Act.put, List.setIfInBounds_toArray, List.set_cons_zero, List.set_cons_succ]
    refine wpAny_take (i := 2) (oi := ?_) (v := ?_) ?_ (by kernel_rfl) (by kernel_rfl) (by kernel_rfl) ?_ ?_ ?_
    rotate_left 2
    · simp only [List.getElem?_toArray, List.getElem?_cons_zero, List.getElem?_cons_succ]
      with_reducible rfl
    · exact fun _ _ _ q => q
    · (refine Or.inl ⟨?_, ?_⟩; rfl; intro w; go_simp; with_reducible rfl)
    simp only [Act.put, List.setIfInBounds_toArray, List.set_cons_zero, List.set_cons_succ]
    refine wpAny_take (i := 3) (oi := ?_) (v := ?_) ?_ (by kernel_rfl) (by kernel_rfl) (by kernel_rfl) ?_ ?_ ?_
    rotate_left 2
    · simp only [List.getElem?_toArray, List.getElem?_cons_zero, List.getElem?_cons_succ]
      with_reducible rfl
    · exact fun _ _ _ q => q
    · (refine Or.inl ⟨?_, ?_⟩; rfl; intro w; go_simp; with_reducible rfl)
    simp only [Act.put, List.setIfInBounds_toArray, List.set_cons_zero, List.set_cons_succ]
    refine wpAny_take (i := 4) (oi := ?_) (v := ?_) ?_ (by kernel_rfl) (by kernel_rfl) (by kernel_rfl) ?_ ?_ ?_
    rotate_left 2
    · simp only [List.getElem?_toArray, List.getElem?_cons_zero, List.getElem?_cons_succ]
      with_reducible rfl
    · exact fun _ _ _ q => q
    · (refine Or.inl ⟨?_, ?_⟩; rfl; intro w; go_simp; with_reducible rfl)
    simp only [Act.put, List.setIfInBounds_toArray, List.set_cons_zero, List.set_cons_succ]
    refine wpAny_take (i := 5) (oi := ?_) (v := ?_) ?_ (by kernel_rfl) (by kernel_rfl) (by kernel_rfl) ?_ ?_ ?_
    rotate_left 2
    · simp only [List.getElem?_toArray, List.getElem?_cons_zero, List.getElem?_cons_succ]
      with_reducible rfl
    · exact fun _ _ _ q => q
    · (refine Or.inl ⟨?_, ?_⟩; rfl; intro w; go_simp; with_reducible rfl)
    simp only [Act.put, List.setIfInBounds_toArray, List.set_cons_zero, List.set_cons_succ]
    refine wpAny_take (i := 6) (oi := ?_) (v := ?_) ?_ (by kernel_rfl) (by kernel_rfl) (by kernel_rfl) ?_ ?_ ?_
    rotate_left 2
    · simp only [List.getElem?_toArray, List.getElem?_cons_zero, List.getElem?_cons_succ]
      with_reducible rfl
    · exact fun _ _ _ q => q
    · (refine Or.inl ⟨?_, ?_⟩; rfl; intro w; go_simp; with_reducible rfl)
    simp only [Act.put, List.setIfInBounds_toArray, List.set_cons_zero, List.set_cons_succ]
    refine wpAny_ready (rs := [7]) (by kernel_rfl) (by simp) ?_
    refine AllReady.cons (o := ?_) ?_ (fun K hK => ?_) AllReady.nil
    rotate_left 1
    · simp only [List.getElem?_toArray, List.getElem?_cons_zero, List.getElem?_cons_succ]
      with_reducible rfl
    refine step_join rfl (.tmp 25) (.tmp 26) rfl rfl rfl hX0.symm s3 (cells_src hc3 hG) (by omega) (by omega) (by omega) ?_
    intro v5 w5 o5 k5
    refine hK _ _ ?_
    clear hK K
    refine wpAny_ready (rs := [8]) (by kernel_rfl) (by simp) ?_
    refine AllReady.cons (o := ?_) ?_ (fun K hK => ?_) AllReady.nil
    rotate_left 1
    · simp only [List.getElem?_toArray, List.getElem?_cons_zero, List.getElem?_cons_succ]
      with_reducible rfl
    go_simp
    refine hK _ _ ?_
    clear hK K
    refine wpAny_done (by kernel_rfl) ?_ _
    go_wp2_with fail
    go_ret
    refine ⟨v5, rfl, ?_, h3.s.trans k5 h3.s.1⟩
    have o5 := owns_base h3.s.1 o5
    rw [hTe.out, hXe.out] at o5
    exact o5
  · have hci : (X.length : Int) ≤ (cap : Int) := by omega
    try simp only [Act.put]
    refine wp_region_begin (by kernel_rfl) ?_
    have h3 := h3.later (w2 := w3.drew) ⟨Nat.le_refl _, fun _ _ => rfl, rfl, rfl⟩
    have hc3 := hc3.keeps (w' := w3.drew) ⟨Nat.le_refl _, fun _ _ => rfl, rfl, rfl⟩
    have s3 := s3.later (w' := w3.drew) (Nat.le_refl _) (fun _ _ => rfl)
    generalize w3.drew = wd at h3 hc3 s3 ⊢
    refine wpAny_take (i := 0) (oi := ?_) (v := ?_) ?_ (by kernel_rfl) (by kernel_rfl) (by kernel_rfl) ?_ ?_ ?_
    rotate_left 2
    · simp only [List.getElem?_toArray, List.getElem?_cons_zero, List.getElem?_cons_succ]
      with_reducible rfl
    · exact fun _ _ _ q => q
    · (refine Or.inl ⟨?_, ?_⟩; rfl; intro w; go_simp; with_reducible rfl)
    simp only [Act.put, List.setIfInBounds_toArray, List.set_cons_zero, List.set_cons_succ]
    refine wpAny_take (i := 1) (oi := ?_) (v := ?_) ?_ (by kernel_rfl) (by kernel_rfl) (by kernel_rfl) ?_ ?_ ?_
    rotate_left 2
    · simp only [List.getElem?_toArray, List.getElem?_cons_zero, List.getElem?_cons_succ]
      with_reducible rfl
    · exact fun _ _ _ q => q
    · (refine Or.inl ⟨?_, ?_⟩; rfl; intro w; go_simp; with_reducible rfl)
    simp only [Act.put, List.setIfInBounds_toArray, List.set_cons_zero, List.set_cons_succ]
    refine wpAny_take (i := 2) (oi := ?_) (v := ?_) ?_ (by kernel_rfl) (by kernel_rfl) (by kernel_rfl) ?_ ?_ ?_
    rotate_left 2
    · simp only [List.getElem?_toArray, List.getElem?_cons_zero, List.getElem?_cons_succ]
      with_reducible rfl
    · exact fun _ _ _ q => q
    · (refine Or.inl ⟨?_, ?_⟩; rfl; intro w; go_simp; with_reducible rfl)
    simp only [Act.put, List.setIfInBounds_toArray, List.set_cons_zero, List.set_cons_succ]
    refine wpAny_take (i := 3) (oi := ?_) (v := ?_) ?_ (by kernel_rfl) (by kernel_rfl) (by kernel_rfl) ?_ ?_ ?_
    rotate_left 2
    · simp only [List.getElem?_toArray, List.getElem?_cons_zero, List.getElem?_cons_succ]
      with_reducible rfl
    · exact fun _ _ _ q => q
    · (refine Or.inl ⟨?_, ?_⟩; rfl; intro w; go_simp; with_reducible rfl)
    simp only [Act.put, List.setIfInBounds_toArray, List.set_cons_zero, List.set_cons_succ]
    refine wpAny_take (i := 4) (oi := ?_) (v := ?_) ?_ (by kernel_rfl) (by kernel_rfl) (by kernel_rfl) ?_ ?_ ?_
    rotate_left 2
    · simp only [List.getElem?_toArray, List.getElem?_cons_zero, List.getElem?_cons_succ]
      with_reducible rfl
    · exact fun _ _ _ q => q
    · (refine Or.inl ⟨?_, ?_⟩; rfl; intro w; go_simp; with_reducible rfl)
    simp only [Act.put, List.setIfInBounds_toArray, List.set_cons_zero, List.set_cons_succ]
    refine wpAny_take (i := 5) (oi := ?_) (v := ?_) ?_ (by kernel_rfl) (by kernel_rfl) (by kernel_rfl) ?_ ?_ ?_
    rotate_left 2
    · simp only [List.getElem?_toArray, List.getElem?_cons_zero, List.getElem?_cons_succ]
      with_reducible rfl
    · exact fun _ _ _ q => q
    · (refine Or.inl ⟨?_, ?_⟩; rfl; intro w; go_simp; with_reducible rfl)
    simp only [Act.put, List.setIfInBounds_toArray, List.set_cons_zero, List.set_cons_succ]
    refine wpAny_take (i := 6) (oi := ?_) (v := ?_) ?_ (by kernel_rfl) (by kernel_rfl) (by kernel_rfl) ?_ ?_ ?_
    rotate_left 2
    · simp only [List.getElem?_toArray, List.getElem?_cons_zero, List.getElem?_cons_succ]
      with_reducible rfl
    · exact fun _ _ _ q => q
    · (refine Or.inl ⟨?_, ?_⟩; rfl; intro w; go_simp; with_reducible rfl)
    simp only [Act.put, List.setIfInBounds_toArray, List.set_cons_zero, List.set_cons_succ]
    refine wpAny_ready (rs := [7]) (by kernel_rfl) (by simp) ?_
    refine AllReady.cons (o := ?_) ?_ (fun K hK => ?_) AllReady.nil
    rotate_left 1
    · simp only [List.getElem?_toArray, List.getElem?_cons_zero, List.getElem?_cons_succ]
      with_reducible rfl
    refine step_join rfl (.tmp 25) (.tmp 26) rfl rfl rfl rfl s3 (cells_src hc3 hG) (by omega) (by omega) (by omega) ?_
    intro v5 w5 o5 k5
    refine hK _ _ ?_
    clear hK K
    refine wpAny_ready (rs := [8]) (by kernel_rfl) (by simp) ?_
    refine AllReady.cons (o := ?_) ?_ (fun K hK => ?_) AllReady.nil
    rotate_left 1
    · simp only [List.getElem?_toArray, List.getElem?_cons_zero, List.getElem?_cons_succ]
      with_reducible rfl
    go_simp
    refine hK _ _ ?_
    clear hK K
    refine wpAny_done (by kernel_rfl) ?_ _
    go_wp2_with fail
    go_ret
    refine ⟨v5, rfl, ?_, h3.s.trans k5 h3.s.1⟩
    have o5 := owns_base h3.s.1 o5
    rw [hTe.out, hXe.out] at o5
    exact o5
end Go.Proofs.YtlpbbihjnmikkaaGreatDoor.Exe

namespace Go.Proofs.YtlpbbihjnmikkaaGreatDoor.Exe
set_option linter.unusedSimpArgs false
set_option linter.unusedVariables false
set_option maxRecDepth 100000
open Go.RowKit

/-- A constant row is marked. -/
theorem step_mark {ops : Array Oper} {o : Oper} {a : Act} {w : World} {Q : Exit → Act → World → Prop} {K : Act → World → Prop} {E : Prop} (hgd : o.guard = none) (x : Operand) (ho : o.op = .convert 24 24 x)
    {g n c : Nat} {C : Array Value} (hx : a.eval x = .slice (some ⟨g, 0, none⟩) n c) (hg : Cells w g C 5)
    (h : ∀ w', w'.heap[g]? = some (.cells C 5 (C.size, C.size + 1)) → w'.heap.size = w.heap.size → (Else g w w') → K (a.put o.dst (.slice (some ⟨g, 0, none⟩) n c)) w') : if Region.wanted o (yielded ops a.tmps) = true then Oper.wp Tryz.prog o a w K Q else E := by
  have hw : Region.wanted o (yielded ops a.tmps) = true := by simp [Region.wanted, hgd]
  rw [if_pos hw]
  obtain ⟨f1, f2, f3⟩ := freeze_heap (k := C.size) hg
  unfold Oper.wp execOp
  simp only [ho, hx, Sem.run_bind, convert_mark hg, Result.andThen_ok, Sem.run_pure]
  exact h _ f1 f2 ⟨f3, by unfold World.freeze; rw [if_neg (by decide)]; exact ⟨rfl, rfl⟩⟩
def nameB : List Oct := [115#8, 116#8, 114#8, 111#8, 110#8, 103#8, 114#8, 111#8, 111#8, 109#8, 32#8]
/-- The world ahead of the region; behind the makers. -/
structure Ka (w w' : World) (kk : List Oct) : Prop where
  s : Keeps w.heap.size w w'
  a : Cells w' w.heap.size (octs kk).toArray 23
  r : Cells w' (w.heap.size + 1) z32 23
structure Kb (w w' : World) (kk : List Oct) (g1 g2 : Nat) (y : Oct) : Prop where
  t : Ka w w' kk
  n : Exe.Src (.slice (some ⟨g1, 0, none⟩) 11 11) nameB w'
  d : Exe.Src (.slice (some ⟨g2, 0, none⟩) 1 1) [y] w'
theorem Ka.start (w : World) (kk : List Oct) : Ka w ((w.alloc (.cells (octs kk).toArray 23)).alloc (.cells z32 23)) kk := by
  have s1 : (w.alloc (.cells (octs kk).toArray 23)).heap.size = w.heap.size + 1 := by simp
  have kA := Keeps.alloc w (.cells (octs kk).toArray 23)
  have kB := Keeps.alloc (w.alloc (.cells (octs kk).toArray 23)) (.cells z32 23)
  refine ⟨kA.trans kB kA.1, Cells.keeps (heap_new w (octs kk).toArray 23) kB, ?_⟩
  have := heap_new (w.alloc (.cells (octs kk).toArray 23)) z32 23
  rw [s1] at this
  exact this
theorem Ka.later {w w1 w2 : World} {kk : List Oct} (h : Ka w w1 kk) (q : Keeps w1.heap.size w1 w2) : Ka w w2 kk := ⟨h.s.trans q h.s.1, h.a.keeps q, h.r.keeps q⟩
theorem Kb.later {w w1 w2 : World} {kk : List Oct} {g1 g2 : Nat} {y : Oct} (h : Kb w w1 kk g1 g2 y) (q : Keeps w1.heap.size w1 w2) : Kb w w2 kk g1 g2 y := ⟨h.t.later q, h.n.later q.1 q.2, h.d.later q.1 q.2⟩
theorem Ka.mark {w w1 w2 : World} {kk : List Oct} {g : Nat} (h : Ka w w1 kk) (hg : w.heap.size + 2 ≤ g) (hz : w2.heap.size = w1.heap.size) (hb : Else g w1 w2) : Ka w w2 kk :=
  ⟨⟨by rw [hz]; exact h.s.1, fun i hi => (hb i (by omega)).trans (h.s.2 i hi), h.s.3.trans hb.calm⟩, (hb _ (by omega)).trans h.a, (hb _ (by omega)).trans h.r⟩
abbrev nameC : Array Value := #[.int .u8 115, .int .u8 116, .int .u8 114, .int .u8 111, .int .u8 110, .int .u8 103, .int .u8 114, .int .u8 111, .int .u8 111, .int .u8 109, .int .u8 32]
theorem nameC_octs : nameC = (octs nameB).toArray := rfl
theorem name_src {w : World} {g : Nat} {fr : Nat × Nat} (h : w.heap[g]? = some (.cells nameC 5 fr)) : Exe.Src (.slice (some ⟨g, 0, none⟩) 11 11) nameB w := by
  refine .inr ⟨g, 0, 11, rfl, Nat.le_refl _, heap_lt h, fun j hj => ?_⟩
  rw [Nat.zero_add, cell_of_row w g j nameC 5 fr h, nameC_octs]
  simp [octs, hj]
theorem one_src {w : World} {g : Nat} {n : Int} {y : Oct} (h : Cells w g #[.int .u8 n] 5) (hy : n = y.toNat) : Exe.Src (.slice (some ⟨g, 0, none⟩) 1 1) [y] w := by
  subst hy
  exact cells_src (l := [y]) h rfl
theorem info23z (l : List Oct) (h : l.length = 32) : z32.size = (octs l).toArray.size := same_size rfl h
theorem info23k (l : List Oct) (h : l.length = 32) : (Tryz.prog.info? 23).map (·.size) = some (octs l).toArray.size := by
  rw [show (octs l).toArray.size = 32 by simp [octs, h]]
  kernel_rfl
theorem src_range {A : Option Addr} {n c : Nat} {l : List Oct} {w : World} (h : Exe.Src (.slice A n c) l w) (h0 : 0 < l.length) : ∃ b o, A = some ⟨b, o, none⟩ ∧ w.rangeAt b o (octs l) := by
  rcases h with ⟨_, rfl⟩ | ⟨b, o, cap, e, hcap, hlt, hr⟩
  · simp at h0
  · cases e
    refine ⟨b, o, rfl, fun j v hv => ?_⟩
    have hj : j < l.length := by
      rcases Nat.lt_or_ge j l.length with h | h
      · exact h
      · rw [List.getElem?_eq_none (by simpa [octs] using h)] at hv; cases hv
    rw [hr j hj]
    simpa [octs, hj] using hv
theorem results_both {fn : Func} {k u : Tmp} {ty : TypeId} (h : fn.results = #[.cell k ty, .tmp u]) (tmps : Array Value) {g : Nat} {t : TypeId} {cs : Array Value} (w : World) {dd : TypeDesc} (hu : Tryz.prog.underlying ty = some dd) (hr : dd.isRow = true) (hi : (Tryz.prog.info? ty).map (·.size) = some cs.size) (hb : Cells w g cs t) (hk : tmps.getD k undef = .pointer (some ⟨g, 0, none⟩)) :
    (results fn tmps).run Tryz.prog w = .ok (.tuple #[.agg cs, tmps.getD u undef]) w := by
  have hl : (loadVar ty ⟨g, 0, none⟩).run Tryz.prog w = .ok (.agg cs) w := by
    have := run_loadVar_mid (P := Tryz.prog) w g 0 ty cs.toList dd (fun j v hv => by rw [Nat.zero_add, hb.cell]; simpa using hv) hu hr (by rw [hi]; simp)
    simpa using this
  rw [Array.getD_eq_getD_getElem?] at hk
  simp [results, h, hk, hl, asAddr]
theorem arr23 (a : Addr) (c : Nat) (w : World) : (Instr.arrayAt 23 (.slice (some a) 32 c)).run Tryz.prog w = .ok (.pointer (some a)) w := run_arrayAt' Tryz.underlying23 (Nat.le_refl _)
theorem wpList_loadK {ops : Array Oper} {rest : List Oper} {o : Oper} {a : Act} {w : World} {Q : Exit → Act → World → Prop} (ty : TypeId) {dd : TypeDesc} (hd : dd.isRow = true) (hu : Tryz.prog.underlying ty = some dd) (hgd : o.guard = none) (x : Operand) (ho : o.op = .load ty x) {g off : Nat} {cs : List Value}
    (hx : a.eval x = .pointer (some ⟨g, off, none⟩)) (hg : w.rangeAt g off cs) (hi : (Tryz.prog.info? ty).map (·.size) = some cs.length) (h : wpList Tryz.prog ops Q rest (a.put o.dst (.agg cs.toArray)) w) : wpList Tryz.prog ops Q (o :: rest) a w := by
  refine wpList_plain hgd fun K hK => ?_
  unfold Oper.wp execOp
  simp only [ho, hx, Instr.loadAt, Instr.sureAddr, Sem.run_bind, Sem.run_pure, Result.andThen_ok]
  rw [run_loadVar_mid w g off ty cs dd hg hu hd hi]
  exact hK _ _ h
set_option maxHeartbeats 4000000 in
theorem key121 {w : World} {kk : List Oct} {d : Nat} (hT : Laid w) (hk : kk.length = 32) (hd : d < 4) : Calls Tryz.prog 121 #[.agg (octs kk).toArray, .int .i64 d] w fun e w' => e = .returned (.tuple #[.agg (octs (macF kk (nameB ++ [BitVec.ofNat 8 d] ++ [1]))).toArray, .int .i64 0]) ∧ Keeps w.heap.size w w' := by
  have h0 := Ka.start w kk
  have hd1 : ¬ ((d : Int) < 0) := by omega
  have hd2 : ¬ ((d : Int) ≥ 256) := by omega
  have hwr : IntKind.u8.wrap (d : Int) = (d : Int) := by rw [IntKind.wrap_u8]; omega
  go_enter Tryz.func121, Tryz.ntmps121
  go_wp2_with fail
  try simp only [Act.put, List.setIfInBounds_toArray, List.set_cons_zero, List.set_cons_succ]
  refine wp_region_begin (by kernel_rfl) ?_
  have h0 := h0.later (w2 := ((w.alloc (.cells (octs kk).toArray 23)).alloc (.cells z32 23)).drew) ⟨Nat.le_refl _, fun _ _ => rfl, rfl, rfl⟩
  generalize ((w.alloc (.cells (octs kk).toArray 23)).alloc (.cells z32 23)).drew = wd at h0 ⊢
  refine wpAny_take (i := 0) (oi := ?_) (v := ?_) ?_ (by kernel_rfl) (by kernel_rfl) (by kernel_rfl) ?_ ?_ ?_
  rotate_left 2
  · simp only [List.getElem?_toArray, List.getElem?_cons_zero, List.getElem?_cons_succ]
    with_reducible rfl
  · exact fun _ _ _ q => q
  · (refine Or.inl ⟨?_, ?_⟩; rfl; intro w; go_simp; with_reducible rfl)
  simp only [Act.put, List.setIfInBounds_toArray, List.set_cons_zero, List.set_cons_succ]
  refine wpAny_take (i := 3) (oi := ?_) (v := ?_) ?_ (by kernel_rfl) (by kernel_rfl) (by kernel_rfl) ?_ ?_ ?_
  rotate_left 2
  · simp only [List.getElem?_toArray, List.getElem?_cons_zero, List.getElem?_cons_succ]
    with_reducible rfl
  · exact fun _ _ _ q => q
  · (refine Or.inl ⟨?_, ?_⟩; rfl; intro w; go_simp; with_reducible rfl)
  simp only [Act.put, List.setIfInBounds_toArray, List.set_cons_zero, List.set_cons_succ]
  refine wpAny_take (i := 4) (oi := ?_) (v := ?_) ?_ (by kernel_rfl) (by kernel_rfl) (by kernel_rfl) ?_ ?_ ?_
  rotate_left 2
  · simp only [List.getElem?_toArray, List.getElem?_cons_zero, List.getElem?_cons_succ]
    with_reducible rfl
  · exact fun _ _ _ q => q
  · (refine Or.inl ⟨?_, ?_⟩; rfl; intro w; go_simp; with_reducible rfl)
  simp only [Act.put, List.setIfInBounds_toArray, List.set_cons_zero, List.set_cons_succ]
  have hy := Lib.hid (show (d : Int) = ((BitVec.ofNat 8 d).toNat : Int) by rw [BitVec.toNat_ofNat]; omega)
  have hT0 : Laid wd := hT.keeps h0.s.2
  have hgd : w.heap.size + 2 ≤ wd.heap.size := by have := heap_lt h0.r; omega
  refine wpAny_ready (rs := [1, 5]) (by kernel_rfl) (by simp) ?_
  refine AllReady.cons (o := ?o1) ?e1 (fun K hK => ?c1) (AllReady.cons (o := ?o2) ?e2 (fun K hK => ?c2) AllReady.nil)
  case e1 =>
    simp only [List.getElem?_toArray, List.getElem?_cons_zero, List.getElem?_cons_succ]
    with_reducible rfl
  case e2 =>
    simp only [List.getElem?_toArray, List.getElem?_cons_zero, List.getElem?_cons_succ]
    with_reducible rfl
  case c1 =>
    go_simp
    refine hK _ _ ?_
    clear hK K
    have h1 := h0.later (Keeps.alloc wd (.cells nameC 5))
    have n1 : Cells (wd.alloc (.cells nameC 5)) wd.heap.size nameC 5 := heap_new wd nameC 5
    have z1 := le_alloc (Nat.le_refl wd.heap.size) (.cells nameC 5)
    have hT1 := hT0.keeps (Keeps.alloc wd (.cells nameC 5)).2
    generalize wd.alloc (.cells nameC 5) = w1 at h1 n1 z1 hT1 ⊢
    generalize wd.heap.size = g1 at n1 hgd z1 ⊢
    refine wpAny_ready (rs := [2, 5]) (by kernel_rfl) (by simp) ?_
    refine AllReady.cons (o := ?o3) ?e3 (fun K hK => ?c3) (AllReady.cons (o := ?o4) ?e4 (fun K hK => ?c4) AllReady.nil)
    case e3 =>
      simp only [List.getElem?_toArray, List.getElem?_cons_zero, List.getElem?_cons_succ]
      with_reducible rfl
    case e4 =>
      simp only [List.getElem?_toArray, List.getElem?_cons_zero, List.getElem?_cons_succ]
      with_reducible rfl
    case c3 =>
      refine step_mark rfl (.tmp 17) rfl rfl n1 ?_
      intro w2 f2 z2 b2
      have h2 := h1.mark hgd z2 b2
      have n2 := name_src f2
      have hT2 : Laid w2 := (b2 0 (by omega)).trans hT1
      clear z2 b2 f2
      refine hK _ _ ?_
      clear hK K
      refine wpAny_ready (rs := [5]) (by kernel_rfl) (by simp) ?_
      refine AllReady.cons (o := ?_) ?_ (fun K hK => ?_) AllReady.nil
      rotate_left 1
      · simp only [List.getElem?_toArray, List.getElem?_cons_zero, List.getElem?_cons_succ]
        with_reducible rfl
      go_simp
      refine hK _ _ ?_
      clear hK K
      have kA := Keeps.alloc w2 (.cells #[.int .u8 (d : Int)] 5)
      have hz : Kb w (w2.alloc (.cells #[.int .u8 (d : Int)] 5)) kk g1 w2.heap.size (BitVec.ofNat 8 d) := ⟨h2.later kA, n2.later kA.1 kA.2, one_src (heap_new w2 #[.int .u8 (d : Int)] 5) hy.out⟩
      have hTz := hT2.keeps kA.2
      generalize w2.alloc (.cells #[.int .u8 (d : Int)] 5) = wz at hz hTz ⊢
      generalize w2.heap.size = g2 at hz ⊢
      refine wpAny_ready (rs := [6]) (by kernel_rfl) (by simp) ?_
      refine AllReady.cons (o := ?_) ?_ (fun K hK => ?_) AllReady.nil
      rotate_left 1
      · simp only [List.getElem?_toArray, List.getElem?_cons_zero, List.getElem?_cons_succ]
        with_reducible rfl
      refine step_join rfl (.tmp 18) (.tmp 21) rfl rfl rfl (l := nameB) rfl hz.n hz.d (by simp) (by decide) (by simp) ?_
      intro v5 w5 o5 k5
      refine hK _ _ ?_
      clear hK K
      have h5 := hz.t.later k5
      have hT5 := hTz.keeps k5.2
      have s5 := o5.rowB.src
      have e5 : (nameB ++ [BitVec.ofNat 8 d]).length = 12 := rfl
      have l5 : (nameB ++ [BitVec.ofNat 8 d]).length ≤ 256 := by rw [e5]; decide
      have u5 : Exe.Src (.slice (some ⟨w.heap.size, 0, none⟩) 32 32) kk w5 := by rw [← hk]; exact src_of_cells h5.a rfl kk.length (Nat.le_refl _)
      clear o5 e5
      generalize hLe : nameB ++ [BitVec.ofNat 8 d] = L at s5 l5 ⊢
      replace hLe := Lib.hid hLe
      refine wpAny_ready (rs := [7]) (by kernel_rfl) (by simp) ?_
      refine AllReady.cons (o := ?_) ?_ (fun K hK => ?_) AllReady.nil
      rotate_left 1
      · simp only [List.getElem?_toArray, List.getElem?_cons_zero, List.getElem?_cons_succ]
        with_reducible rfl
      go_simp
      go_at_call 195
      refine (expand195 hT5 u5 hk s5 l5).mono ?_
      rintro e w6 ⟨v6, rfl, o6, k6⟩
      have h6 := h5.later k6
      have s6 := o6.rowB.src
      obtain ⟨A6, c6, rfl⟩ := o6.slice
      have l6 : (macF kk (L ++ [1])).length = 32 := macF_len _ _
      revert s6
      rw [l6]
      intro s6
      generalize hTe : macF kk (L ++ [1]) = T at l6 s6 ⊢
      replace hTe := Lib.hid hTe
      obtain ⟨b6, off6, rfl, hr6⟩ := src_range s6 (by rw [l6]; decide)
      refine hK _ _ ?_
      clear hK K
      refine wpAny_take (i := 8) (oi := ?_) (v := ?_) ?_ (by kernel_rfl) (by kernel_rfl) (by kernel_rfl) ?_ ?_ ?_
      rotate_left 2
      · simp only [List.getElem?_toArray, List.getElem?_cons_zero, List.getElem?_cons_succ]
        with_reducible rfl
      · exact fun _ _ _ q => q
      · (refine Or.inl ⟨?_, ?_⟩; rfl; intro w; go_simp; with_reducible rfl)
      simp only [Act.put, List.setIfInBounds_toArray, List.set_cons_zero, List.set_cons_succ]
      refine wpAny_take (i := 9) (oi := ?_) (v := ?_) ?_ (by kernel_rfl) (by kernel_rfl) (by kernel_rfl) ?_ ?_ ?_
      rotate_left 2
      · simp only [List.getElem?_toArray, List.getElem?_cons_zero, List.getElem?_cons_succ]
        with_reducible rfl
      · exact fun _ _ _ q => q
      · (refine Or.inl ⟨?_, ?_⟩; rfl; intro w; go_simp; with_reducible rfl)
      simp only [Act.put, List.setIfInBounds_toArray, List.set_cons_zero, List.set_cons_succ]
      refine wpAny_take (i := 10) (oi := ?_) (v := ?_) ?_ (by kernel_rfl) (by kernel_rfl) (by kernel_rfl) ?_ ?_ ?_
      rotate_left 2
      · simp only [List.getElem?_toArray, List.getElem?_cons_zero, List.getElem?_cons_succ]
        with_reducible rfl
      · exact fun _ _ _ q => q
      · (refine Or.inl ⟨?_, ?_⟩; rfl; intro w; go_simp; with_reducible rfl)
      simp only [Act.put, List.setIfInBounds_toArray, List.set_cons_zero, List.set_cons_succ]
      refine wpAny_take (i := 11) (oi := ?_) (v := ?_) ?_ (by kernel_rfl) (by kernel_rfl) (by kernel_rfl) ?_ ?_ ?_
      rotate_left 2
      · simp only [List.getElem?_toArray, List.getElem?_cons_zero, List.getElem?_cons_succ]
        with_reducible rfl
      · exact fun _ _ _ q => q
      · (refine Or.inl ⟨?_, ?_⟩; rfl; intro w; go_simp; with_reducible rfl)
      simp only [Act.put, List.setIfInBounds_toArray, List.set_cons_zero, List.set_cons_succ]
      refine wpAny_take (i := 12) (oi := ?_) (v := ?_) ?_ (by kernel_rfl) (by kernel_rfl) (by kernel_rfl) ?_ ?_ ?_
      rotate_left 2
      · simp only [List.getElem?_toArray, List.getElem?_cons_zero, List.getElem?_cons_succ]
        with_reducible rfl
      · exact fun _ _ _ q => q
      · (refine Or.inl ⟨?_, ?_⟩; rfl; intro w; go_simp; with_reducible rfl)
      simp only [Act.put, List.setIfInBounds_toArray, List.set_cons_zero, List.set_cons_succ]
      refine wpAny_done (by kernel_rfl) ?_ _
      have hi6 : (Tryz.prog.info? 23).map (·.size) = some (octs T).length := by rw [octs_len, l6]; kernel_rfl
      have harr : ∀ w0, (Instr.arrayAt 23 (.slice (some ⟨b6, off6, none⟩) 32 c6)).run Tryz.prog w0 = .ok (.pointer (some ⟨b6, off6, none⟩)) w0 := fun w0 => arr23 _ _ _
      go_wp2_with (first
        | (with_reducible refine wpList_loadK 23 rfl Tryz.underlying23 rfl (.tmp 27) rfl rfl hr6 hi6 ?_)
        | (with_reducible refine wpList_storeA 23 rfl (.tmp 4) (.tmp 28) rfl rfl rfl h6.r (info23k T l6) (info23z T l6) (octs_all T) ?_; intro w7 hc7 hz7 hb7))
      have hTe := hTe.out
      have hLe := hLe.out
      subst hLe
      refine bodyPost_ret (results_both rfl _ _ Tryz.underlying23 rfl (info23k T l6) hc7 rfl) rfl ⟨by rw [hTe]; rfl, ⟨by rw [hz7]; exact h6.s.1, fun i hi => (hb7 i (by omega)).trans (h6.s.2 i hi), h6.s.3.trans hb7.calm⟩⟩
    case c4 =>
      go_simp
      refine hK _ _ ?_
      clear hK K
      have kA := Keeps.alloc w1 (.cells #[.int .u8 (d : Int)] 5)
      have h2 := h1.later kA
      have n2 := n1.keeps kA
      have d2 : Cells (w1.alloc (.cells #[.int .u8 (d : Int)] 5)) w1.heap.size #[.int .u8 (d : Int)] 5 := heap_new w1 #[.int .u8 (d : Int)] 5
      have hT2 := hT1.keeps kA.2
      have hne : w1.heap.size ≠ g1 := by have := heap_lt n1; omega
      generalize w1.alloc (.cells #[.int .u8 (d : Int)] 5) = w2 at h2 n2 d2 hT2 ⊢
      generalize w1.heap.size = g2 at d2 hne ⊢
      refine wpAny_ready (rs := [2]) (by kernel_rfl) (by simp) ?_
      refine AllReady.cons (o := ?_) ?_ (fun K hK => ?_) AllReady.nil
      rotate_left 1
      · simp only [List.getElem?_toArray, List.getElem?_cons_zero, List.getElem?_cons_succ]
        with_reducible rfl
      refine step_mark rfl (.tmp 17) rfl rfl n2 ?_
      intro wz f3 z3 b3
      have hz : Kb w wz kk g1 g2 (BitVec.ofNat 8 d) := ⟨h2.mark hgd z3 b3, name_src f3, one_src ((b3 g2 hne).trans d2) hy.out⟩
      have hTz : Laid wz := (b3 0 (by omega)).trans hT2
      refine hK _ _ ?_
      clear hK K
      refine wpAny_ready (rs := [6]) (by kernel_rfl) (by simp) ?_
      refine AllReady.cons (o := ?_) ?_ (fun K hK => ?_) AllReady.nil
      rotate_left 1
      · simp only [List.getElem?_toArray, List.getElem?_cons_zero, List.getElem?_cons_succ]
        with_reducible rfl
      refine step_join rfl (.tmp 18) (.tmp 21) rfl rfl rfl (l := nameB) rfl hz.n hz.d (by simp) (by decide) (by simp) ?_
      intro v5 w5 o5 k5
      refine hK _ _ ?_
      clear hK K
      have h5 := hz.t.later k5
      have hT5 := hTz.keeps k5.2
      have s5 := o5.rowB.src
      have e5 : (nameB ++ [BitVec.ofNat 8 d]).length = 12 := rfl
      have l5 : (nameB ++ [BitVec.ofNat 8 d]).length ≤ 256 := by rw [e5]; decide
      have u5 : Exe.Src (.slice (some ⟨w.heap.size, 0, none⟩) 32 32) kk w5 := by rw [← hk]; exact src_of_cells h5.a rfl kk.length (Nat.le_refl _)
      clear o5 e5
      generalize hLe : nameB ++ [BitVec.ofNat 8 d] = L at s5 l5 ⊢
      replace hLe := Lib.hid hLe
      refine wpAny_ready (rs := [7]) (by kernel_rfl) (by simp) ?_
      refine AllReady.cons (o := ?_) ?_ (fun K hK => ?_) AllReady.nil
      rotate_left 1
      · simp only [List.getElem?_toArray, List.getElem?_cons_zero, List.getElem?_cons_succ]
        with_reducible rfl
      go_simp
      go_at_call 195
      refine (expand195 hT5 u5 hk s5 l5).mono ?_
      rintro e w6 ⟨v6, rfl, o6, k6⟩
      have h6 := h5.later k6
      have s6 := o6.rowB.src
      obtain ⟨A6, c6, rfl⟩ := o6.slice
      have l6 : (macF kk (L ++ [1])).length = 32 := macF_len _ _
      revert s6
      rw [l6]
      intro s6
      generalize hTe : macF kk (L ++ [1]) = T at l6 s6 ⊢
      replace hTe := Lib.hid hTe
      obtain ⟨b6, off6, rfl, hr6⟩ := src_range s6 (by rw [l6]; decide)
      refine hK _ _ ?_
      clear hK K
      refine wpAny_take (i := 8) (oi := ?_) (v := ?_) ?_ (by kernel_rfl) (by kernel_rfl) (by kernel_rfl) ?_ ?_ ?_
      rotate_left 2
      · simp only [List.getElem?_toArray, List.getElem?_cons_zero, List.getElem?_cons_succ]
        with_reducible rfl
      · exact fun _ _ _ q => q
      · (refine Or.inl ⟨?_, ?_⟩; rfl; intro w; go_simp; with_reducible rfl)
      simp only [Act.put, List.setIfInBounds_toArray, List.set_cons_zero, List.set_cons_succ]
      refine wpAny_take (i := 9) (oi := ?_) (v := ?_) ?_ (by kernel_rfl) (by kernel_rfl) (by kernel_rfl) ?_ ?_ ?_
      rotate_left 2
      · simp only [List.getElem?_toArray, List.getElem?_cons_zero, List.getElem?_cons_succ]
        with_reducible rfl
      · exact fun _ _ _ q => q
      · (refine Or.inl ⟨?_, ?_⟩; rfl; intro w; go_simp; with_reducible rfl)
      simp only [Act.put, List.setIfInBounds_toArray, List.set_cons_zero, List.set_cons_succ]
      refine wpAny_take (i := 10) (oi := ?_) (v := ?_) ?_ (by kernel_rfl) (by kernel_rfl) (by kernel_rfl) ?_ ?_ ?_
      rotate_left 2
      · simp only [List.getElem?_toArray, List.getElem?_cons_zero, List.getElem?_cons_succ]
        with_reducible rfl
      · exact fun _ _ _ q => q
      · (refine Or.inl ⟨?_, ?_⟩; rfl; intro w; go_simp; with_reducible rfl)
      simp only [Act.put, List.setIfInBounds_toArray, List.set_cons_zero, List.set_cons_succ]
      refine wpAny_take (i := 11) (oi := ?_) (v := ?_) ?_ (by kernel_rfl) (by kernel_rfl) (by kernel_rfl) ?_ ?_ ?_
      rotate_left 2
      · simp only [List.getElem?_toArray, List.getElem?_cons_zero, List.getElem?_cons_succ]
        with_reducible rfl
      · exact fun _ _ _ q => q
      · (refine Or.inl ⟨?_, ?_⟩; rfl; intro w; go_simp; with_reducible rfl)
      simp only [Act.put, List.setIfInBounds_toArray, List.set_cons_zero, List.set_cons_succ]
      refine wpAny_take (i := 12) (oi := ?_) (v := ?_) ?_ (by kernel_rfl) (by kernel_rfl) (by kernel_rfl) ?_ ?_ ?_
      rotate_left 2
      · simp only [List.getElem?_toArray, List.getElem?_cons_zero, List.getElem?_cons_succ]
        with_reducible rfl
      · exact fun _ _ _ q => q
      · (refine Or.inl ⟨?_, ?_⟩; rfl; intro w; go_simp; with_reducible rfl)
      simp only [Act.put, List.setIfInBounds_toArray, List.set_cons_zero, List.set_cons_succ]
      refine wpAny_done (by kernel_rfl) ?_ _
      have hi6 : (Tryz.prog.info? 23).map (·.size) = some (octs T).length := by rw [octs_len, l6]; kernel_rfl
      have harr : ∀ w0, (Instr.arrayAt 23 (.slice (some ⟨b6, off6, none⟩) 32 c6)).run Tryz.prog w0 = .ok (.pointer (some ⟨b6, off6, none⟩)) w0 := fun w0 => arr23 _ _ _
      go_wp2_with (first
        | (with_reducible refine wpList_loadK 23 rfl Tryz.underlying23 rfl (.tmp 27) rfl rfl hr6 hi6 ?_)
        | (with_reducible refine wpList_storeA 23 rfl (.tmp 4) (.tmp 28) rfl rfl rfl h6.r (info23k T l6) (info23z T l6) (octs_all T) ?_; intro w7 hc7 hz7 hb7))
      have hTe := hTe.out
      have hLe := hLe.out
      subst hLe
      refine bodyPost_ret (results_both rfl _ _ Tryz.underlying23 rfl (info23k T l6) hc7 rfl) rfl ⟨by rw [hTe]; rfl, ⟨by rw [hz7]; exact h6.s.1, fun i hi => (hb7 i (by omega)).trans (h6.s.2 i hi), h6.s.3.trans hb7.calm⟩⟩
  case c2 =>
    go_simp
    refine hK _ _ ?_
    clear hK K
    have kA := Keeps.alloc wd (.cells #[.int .u8 (d : Int)] 5)
    have h1 := h0.later kA
    have d1 : Cells (wd.alloc (.cells #[.int .u8 (d : Int)] 5)) wd.heap.size #[.int .u8 (d : Int)] 5 := heap_new wd #[.int .u8 (d : Int)] 5
    have z1 := le_alloc (Nat.le_refl wd.heap.size) (.cells #[.int .u8 (d : Int)] 5)
    have hT1 := hT0.keeps kA.2
    generalize wd.alloc (.cells #[.int .u8 (d : Int)] 5) = w1 at h1 d1 z1 hT1 ⊢
    generalize wd.heap.size = g2 at d1 hgd z1 ⊢
    refine wpAny_ready (rs := [1]) (by kernel_rfl) (by simp) ?_
    refine AllReady.cons (o := ?_) ?_ (fun K hK => ?_) AllReady.nil
    rotate_left 1
    · simp only [List.getElem?_toArray, List.getElem?_cons_zero, List.getElem?_cons_succ]
      with_reducible rfl
    go_simp
    refine hK _ _ ?_
    clear hK K
    have kB := Keeps.alloc w1 (.cells nameC 5)
    have h2 := h1.later kB
    have d2 := d1.keeps kB
    have n2 : Cells (w1.alloc (.cells nameC 5)) w1.heap.size nameC 5 := heap_new w1 nameC 5
    have hT2 := hT1.keeps kB.2
    have hne : g2 ≠ w1.heap.size := by have := heap_lt d1; omega
    have hg1 : w.heap.size + 2 ≤ w1.heap.size := by have := heap_lt d1; omega
    generalize w1.alloc (.cells nameC 5) = w2 at h2 n2 d2 hT2 ⊢
    generalize w1.heap.size = g1 at n2 hne hg1 ⊢
    refine wpAny_ready (rs := [2]) (by kernel_rfl) (by simp) ?_
    refine AllReady.cons (o := ?_) ?_ (fun K hK => ?_) AllReady.nil
    rotate_left 1
    · simp only [List.getElem?_toArray, List.getElem?_cons_zero, List.getElem?_cons_succ]
      with_reducible rfl
    refine step_mark rfl (.tmp 17) rfl rfl n2 ?_
    intro wz f3 z3 b3
    have hz : Kb w wz kk g1 g2 (BitVec.ofNat 8 d) := ⟨h2.mark hg1 z3 b3, name_src f3, one_src ((b3 g2 hne).trans d2) hy.out⟩
    have hTz : Laid wz := (b3 0 (by omega)).trans hT2
    refine hK _ _ ?_
    clear hK K
    refine wpAny_ready (rs := [6]) (by kernel_rfl) (by simp) ?_
    refine AllReady.cons (o := ?_) ?_ (fun K hK => ?_) AllReady.nil
    rotate_left 1
    · simp only [List.getElem?_toArray, List.getElem?_cons_zero, List.getElem?_cons_succ]
      with_reducible rfl
    refine step_join rfl (.tmp 18) (.tmp 21) rfl rfl rfl (l := nameB) rfl hz.n hz.d (by simp) (by decide) (by simp) ?_
    intro v5 w5 o5 k5
    refine hK _ _ ?_
    clear hK K
    have h5 := hz.t.later k5
    have hT5 := hTz.keeps k5.2
    have s5 := o5.rowB.src
    have e5 : (nameB ++ [BitVec.ofNat 8 d]).length = 12 := rfl
    have l5 : (nameB ++ [BitVec.ofNat 8 d]).length ≤ 256 := by rw [e5]; decide
    have u5 : Exe.Src (.slice (some ⟨w.heap.size, 0, none⟩) 32 32) kk w5 := by rw [← hk]; exact src_of_cells h5.a rfl kk.length (Nat.le_refl _)
    clear o5 e5
    generalize hLe : nameB ++ [BitVec.ofNat 8 d] = L at s5 l5 ⊢
    replace hLe := Lib.hid hLe
    refine wpAny_ready (rs := [7]) (by kernel_rfl) (by simp) ?_
    refine AllReady.cons (o := ?_) ?_ (fun K hK => ?_) AllReady.nil
    rotate_left 1
    · simp only [List.getElem?_toArray, List.getElem?_cons_zero, List.getElem?_cons_succ]
      with_reducible rfl
    go_simp
    go_at_call 195
    refine (expand195 hT5 u5 hk s5 l5).mono ?_
    rintro e w6 ⟨v6, rfl, o6, k6⟩
    have h6 := h5.later k6
    have s6 := o6.rowB.src
    obtain ⟨A6, c6, rfl⟩ := o6.slice
    have l6 : (macF kk (L ++ [1])).length = 32 := macF_len _ _
    revert s6
    rw [l6]
    intro s6
    generalize hTe : macF kk (L ++ [1]) = T at l6 s6 ⊢
    replace hTe := Lib.hid hTe
    obtain ⟨b6, off6, rfl, hr6⟩ := src_range s6 (by rw [l6]; decide)
    refine hK _ _ ?_
    clear hK K
    refine wpAny_take (i := 8) (oi := ?_) (v := ?_) ?_ (by kernel_rfl) (by kernel_rfl) (by kernel_rfl) ?_ ?_ ?_
    rotate_left 2
    · simp only [List.getElem?_toArray, List.getElem?_cons_zero, List.getElem?_cons_succ]
      with_reducible rfl
    · exact fun _ _ _ q => q
    · (refine Or.inl ⟨?_, ?_⟩; rfl; intro w; go_simp; with_reducible rfl)
    simp only [Act.put, List.setIfInBounds_toArray, List.set_cons_zero, List.set_cons_succ]
    refine wpAny_take (i := 9) (oi := ?_) (v := ?_) ?_ (by kernel_rfl) (by kernel_rfl) (by kernel_rfl) ?_ ?_ ?_
    rotate_left 2
    · simp only [List.getElem?_toArray, List.getElem?_cons_zero, List.getElem?_cons_succ]
      with_reducible rfl
    · exact fun _ _ _ q => q
    · (refine Or.inl ⟨?_, ?_⟩; rfl; intro w; go_simp; with_reducible rfl)
    simp only [Act.put, List.setIfInBounds_toArray, List.set_cons_zero, List.set_cons_succ]
    refine wpAny_take (i := 10) (oi := ?_) (v := ?_) ?_ (by kernel_rfl) (by kernel_rfl) (by kernel_rfl) ?_ ?_ ?_
    rotate_left 2
    · simp only [List.getElem?_toArray, List.getElem?_cons_zero, List.getElem?_cons_succ]
      with_reducible rfl
    · exact fun _ _ _ q => q
    · (refine Or.inl ⟨?_, ?_⟩; rfl; intro w; go_simp; with_reducible rfl)
    simp only [Act.put, List.setIfInBounds_toArray, List.set_cons_zero, List.set_cons_succ]
    refine wpAny_take (i := 11) (oi := ?_) (v := ?_) ?_ (by kernel_rfl) (by kernel_rfl) (by kernel_rfl) ?_ ?_ ?_
    rotate_left 2
    · simp only [List.getElem?_toArray, List.getElem?_cons_zero, List.getElem?_cons_succ]
      with_reducible rfl
    · exact fun _ _ _ q => q
    · (refine Or.inl ⟨?_, ?_⟩; rfl; intro w; go_simp; with_reducible rfl)
    simp only [Act.put, List.setIfInBounds_toArray, List.set_cons_zero, List.set_cons_succ]
    refine wpAny_take (i := 12) (oi := ?_) (v := ?_) ?_ (by kernel_rfl) (by kernel_rfl) (by kernel_rfl) ?_ ?_ ?_
    rotate_left 2
    · simp only [List.getElem?_toArray, List.getElem?_cons_zero, List.getElem?_cons_succ]
      with_reducible rfl
    · exact fun _ _ _ q => q
    · (refine Or.inl ⟨?_, ?_⟩; rfl; intro w; go_simp; with_reducible rfl)
    simp only [Act.put, List.setIfInBounds_toArray, List.set_cons_zero, List.set_cons_succ]
    refine wpAny_done (by kernel_rfl) ?_ _
    have hi6 : (Tryz.prog.info? 23).map (·.size) = some (octs T).length := by rw [octs_len, l6]; kernel_rfl
    have harr : ∀ w0, (Instr.arrayAt 23 (.slice (some ⟨b6, off6, none⟩) 32 c6)).run Tryz.prog w0 = .ok (.pointer (some ⟨b6, off6, none⟩)) w0 := fun w0 => arr23 _ _ _
    go_wp2_with (first
      | (with_reducible refine wpList_loadK 23 rfl Tryz.underlying23 rfl (.tmp 27) rfl rfl hr6 hi6 ?_)
      | (with_reducible refine wpList_storeA 23 rfl (.tmp 4) (.tmp 28) rfl rfl rfl h6.r (info23k T l6) (info23z T l6) (octs_all T) ?_; intro w7 hc7 hz7 hb7))
    have hTe := hTe.out
    have hLe := hLe.out
    subst hLe
    refine bodyPost_ret (results_both rfl _ _ Tryz.underlying23 rfl (info23k T l6) hc7 rfl) rfl ⟨by rw [hTe]; rfl, ⟨by rw [hz7]; exact h6.s.1, fun i hi => (hb7 i (by omega)).trans (h6.s.2 i hi), h6.s.3.trans hb7.calm⟩⟩
/-- What the reckoner is told of vault.Key is so. -/
theorem key_known (C : Ciph) (hC : ∀ k d, C.vkey k d = macF k (nameB ++ [BitVec.ofNat 8 d] ++ [1])) : KnownOk Tryz.prog (lore C) 121 fKey := fun args h nx r w v h' nx' r' w' he ν W args' hok hf ha => by
  unfold fKey at he
  split at he
  · rename_i key d
    obtain ⟨l⟩ := args'
    cases ha with
    | cons ha1 ha => cases ha with
      | cons ha2 ha =>
        cases ha
        obtain ⟨hT, r0, w0, e0⟩ := tabled_ok info424 hok he
        obtain ⟨kw, r1, w1, e1, rfl, hk⟩ := keyOf_ok hok e0 ha1
        obtain ⟨hd, e2⟩ := chk_ok e1
        have hd : d < 4 := Nat.le_of_ble_eq_true hd
        obtain ⟨L, h1, n1, r2, w2, e3, e4⟩ := bind_ok e2
        cases e4
        cases ha2 with
        | one ha2 => cases ha2 with
          | nat _ hd63 =>
            refine (key121 hT hk hd).mono fun e W' ⟨g1, g2⟩ => ?_
            obtain ⟨ν', k1, k2, k3⟩ := bytes32_ok (C := C) e3 (C.vkey_len _ _) (hok.world g2.2 g2.3) hf
            rw [show byt C (.vkey kw d) = macF (byt C kw) (nameB ++ [BitVec.ofNat 8 d] ++ [1]) from hC _ _] at k3
            exact ⟨_, ν', g1, k1, k2, .tup (.cons (.agg k3 (by rw [k3.length, octs_len, macF_len])) (.cons (.one (.nat 0 (by decide))) .nil))⟩
  · cases he
end Go.Proofs.YtlpbbihjnmikkaaGreatDoor.Exe
