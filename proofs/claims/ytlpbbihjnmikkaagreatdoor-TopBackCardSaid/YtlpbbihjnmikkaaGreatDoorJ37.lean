/-
  Joined: JouE, JouF, GcmL
-/
import Derived.Test.YtlpbbihjnmikkaaGreatDoorJ33
import Derived.Test.YtlpbbihjnmikkaaGreatDoorJ36
namespace Go.Proofs.YtlpbbihjnmikkaaGreatDoor.Exe
set_option linter.unusedSimpArgs false
set_option linter.unusedVariables false
set_option maxRecDepth 100000
open Go.RowKit

abbrev z155 : Array Value := #[.int .i64 0, .int .i64 0, .int .i64 0, .int .i64 0, .int .i64 0, .slice none 0 0]
theorem fold67 (w : World) : Calls Tryz.prog 67 #[.slice none 0 0] w fun e w' => e = .returned (.tuple #[.agg z155, .int .i64 0]) ∧ Keeps w.heap.size w w' := by
  go_enter Tryz.func67, Tryz.ntmps67
  go_wp2_with (first
    | (refine wp_loop_turns 2 ?_; unfold turns))
  have n1 : Cells ((w.alloc (.cells z155 155)).alloc (.cells z155 155)) w.heap.size z155 155 := Cells.keeps (heap_new w z155 155) (Keeps.alloc (w.alloc (.cells z155 155)) (.cells z155 155))
  have k := (Keeps.alloc w (.cells z155 155)).trans (Keeps.alloc (w.alloc (.cells z155 155)) (.cells z155 155)) (Keeps.alloc w (.cells z155 155)).1
  have hi : (Tryz.prog.info? 155).map (·.size) = some z155.size := by kernel_rfl
  exact bodyPost_ret (results_both rfl _ _ Tryz.underlying155 rfl hi n1 rfl) rfl ⟨rfl, k⟩
/-- Open's closure, deferred of a frame that returns no error. -/
theorem opened_idle (p q : Addr) (w : World) (hp : w.cell? p = some (.int .i64 0)) :
    CallsD Tryz.prog 59 #[.pointer (some p), .pointer (some q)] .returning w fun e u' w' => u' = .returning ∧ (e = .returned (.tuple #[]) ∧ w = w') := by
  refine callsD_of_wp (R := fun e w' => e = .returned (.tuple #[]) ∧ w = w') Tryz.func59 rfl ?_
  simp only [Tryz.ntmps59]
  go_wp2
  exact bodyPost_end (results_none rfl _ _ _) rfl ⟨rfl, rfl⟩
abbrev z94 : Array Value := #[.int .i64 0, .int .i64 0, .int .i64 0, .int .i64 0, .slice none 0 0, .slice none 0 0, .slice none 0 0, .int .i64 0]
/-- The world of Open. -/
structure Op2 (w w1 : World) (g : Nat) : Prop where
  a : Cells w1 w.heap.size #[.pointer (some ⟨g, 0, none⟩)] 52
  c : Cells w1 (w.heap.size + 1 + 1) z94 94
  d : Cells w1 (w.heap.size + 1 + 1 + 1) #[.int .i64 0] 29
  z : w.heap.size + 4 ≤ w1.heap.size
  k : Keeps w.heap.size w w1
abbrev opW (w : World) (g : Nat) (key : Array Value) : World := (((w.alloc (.cells #[.pointer (some ⟨g, 0, none⟩)] 52)).alloc (.cells key 23)).alloc (.cells z94 94)).alloc (.cells #[.int .i64 0] 29)
theorem Op2.start (w : World) (g : Nat) (key : Array Value) : Op2 w (opW w g key) g := by
  have kA := Keeps.alloc w (.cells #[.pointer (some ⟨g, 0, none⟩)] 52)
  have kB := Keeps.alloc (w.alloc (.cells #[.pointer (some ⟨g, 0, none⟩)] 52)) (.cells key 23)
  have kC := Keeps.alloc ((w.alloc (.cells #[.pointer (some ⟨g, 0, none⟩)] 52)).alloc (.cells key 23)) (.cells z94 94)
  have kD := Keeps.alloc (((w.alloc (.cells #[.pointer (some ⟨g, 0, none⟩)] 52)).alloc (.cells key 23)).alloc (.cells z94 94)) (.cells #[.int .i64 0] 29)
  have s2 : ((w.alloc (.cells #[.pointer (some ⟨g, 0, none⟩)] 52)).alloc (.cells key 23)).heap.size = w.heap.size + 1 + 1 := by simp
  have s3 : (((w.alloc (.cells #[.pointer (some ⟨g, 0, none⟩)] 52)).alloc (.cells key 23)).alloc (.cells z94 94)).heap.size = w.heap.size + 1 + 1 + 1 := by simp
  have nA : Cells (w.alloc (.cells #[.pointer (some ⟨g, 0, none⟩)] 52)) w.heap.size #[.pointer (some ⟨g, 0, none⟩)] 52 := heap_new w _ 52
  have nC : Cells (((w.alloc (.cells #[.pointer (some ⟨g, 0, none⟩)] 52)).alloc (.cells key 23)).alloc (.cells z94 94)) (w.heap.size + 1 + 1) z94 94 := by rw [← s2]; exact heap_new _ _ 94
  have nD : Cells (opW w g key) (w.heap.size + 1 + 1 + 1) #[.int .i64 0] 29 := by rw [← s3]; exact heap_new _ _ 29
  have k := ((kA.trans kB kA.1).trans kC (kA.trans kB kA.1).1).trans kD ((kA.trans kB kA.1).trans kC (kA.trans kB kA.1).1).1
  exact ⟨((nA.keeps kB).keeps kC).keeps kD, nC.keeps kD, nD, by simp, k⟩
theorem Op2.keeps {w w1 w2 : World} {g : Nat} (h : Op2 w w1 g) (q : Keeps w1.heap.size w1 w2) : Op2 w w2 g :=
  ⟨h.a.keeps q, h.c.keeps q, h.d.keeps q, Nat.le_trans h.z q.1, h.k.trans q h.k.1⟩
theorem results_open {w : World} {tmps : Array Value} {p q : Nat} (h1 : tmps.getD 4 undef = .pointer (some ⟨p, 0, none⟩)) (h2 : tmps.getD 5 undef = .pointer (some ⟨q, 0, none⟩)) (hp : Cells w p z94 94) (hq : Cells w q #[.int .i64 0] 29) :
    (results Tryz.f28 tmps).run Tryz.prog w = .ok (.tuple #[.agg z94, .int .i64 0]) w := by
  have u29 : Tryz.prog.underlying 29 = some (.int .i64) := by kernel_rfl
  have hi94 : (Tryz.prog.info? 94).map (·.size) = some z94.toList.length := by kernel_rfl
  have hl : (loadVar 94 ⟨p, 0, none⟩).run Tryz.prog w = .ok (.agg z94) w := by
    have := run_loadVar_mid (P := Tryz.prog) w p 0 94 z94.toList _ (fun j v hv => by rw [Nat.zero_add, hp.cell]; simpa using hv) Tryz.underlying94 rfl hi94
    simpa using this
  have hc : w.cell? ⟨q, 0, none⟩ = some (.int .i64 0) := hq.cell 0
  have hl3 : (loadVar 29 ⟨q, 0, none⟩).run Tryz.prog w = .ok (.int .i64 0) w := by simp [loadVar, run_underlying u29, hc]
  rw [Array.getD_eq_getD_getElem?] at h1 h2
  simp [results, Tryz.results28, h1, h2, asAddr, hl, hl3]
set_option maxHeartbeats 1000000 in
theorem open28 {w : World} {g : Nat} {sure ku : Value} {st : Int} {ext : List Value} (hg : Cells w g (dskC nilV sure nilV st ext) 70) : Calls Tryz.prog 28 #[.pointer (some ⟨g, 0, none⟩), ku] w fun e w' => e = .returned (.tuple #[.agg z94, .int .i64 0]) ∧ Keeps w.heap.size w w' := by
  have hmf : ∀ (fn : Fn) (first cap : Array Value) (w : World), (Instr.makeFunc fn first cap).run Tryz.prog w = .ok (.func fn first cap) w := fun _ _ _ _ => rfl
  have hS := Op2.start w g ku.cells
  have hg1 := hg.keeps hS.k
  have q6 : (opW w g ku.cells).cell? ⟨w.heap.size, 0, none⟩ = some (.pointer (some ⟨g, 0, none⟩)) := hS.a.cell 0
  have hi155 : (Tryz.prog.info? 155).map (·.size) = some z155.size := by kernel_rfl
  have h155 : z155.all (·.oneCell') = true := by kernel_rfl
  have hi94 : (Tryz.prog.info? 94).map (·.size) = some z94.size := by kernel_rfl
  have h94 : z94.all (·.oneCell') = true := by kernel_rfl
  replace hg1 := Lib.hid hg1
  replace q6 := Lib.hid q6
  go_enter_defers Tryz.func28, Tryz.ntmps28
  go_wp2_with (first
    | (go_at_call 61; refine (file61 hg1.out q6.out).mono ?_; rintro e w1 ⟨rfl, rfl⟩)
    | (go_at_call 64; refine (scan64 _).mono ?_; rintro e w1 ⟨rfl, k1⟩; have hS1 := hS.keeps k1; clear hS)
    | (go_at_call 67; refine (fold67 _).mono ?_; rintro e w2 ⟨rfl, k2⟩; have hS2 := hS1.keeps k2; have n2 : Cells (w2.alloc (.cells z155 155)) w2.heap.size z155 155 := heap_new w2 z155 155)
    | (refine wpList_storeA 155 rfl (.tmp 10) (.tmp 34) rfl (g := w2.heap.size) rfl rfl n2 hi155 rfl h155 ?_; intro w3 hc3 hz3 hb3; have hS3 := hS2.keeps (Keeps.allocStore _ hz3 hb3); have q9 : w3.cell? ⟨w.heap.size + 1 + 1 + 1, 0, none⟩ = some (.int .i64 0) := hS3.d.cell 0; have f9 := hS3.d.frozen 0; have hzz := hS2.z; have c3 : Cells (w3.setCell ⟨w.heap.size + 1 + 1 + 1, 0, none⟩ (.int .i64 0)) w2.heap.size z155 155 := (Below.heap_setCell w3 ⟨w.heap.size + 1 + 1 + 1, 0, none⟩ _ w2.heap.size (by show w2.heap.size ≠ w.heap.size + 1 + 1 + 1; omega)).trans hc3; have c94 : Cells (w3.setCell ⟨w.heap.size + 1 + 1 + 1, 0, none⟩ (.int .i64 0)) (w.heap.size + 1 + 1) z94 94 := (Below.heap_setCell w3 ⟨w.heap.size + 1 + 1 + 1, 0, none⟩ _ (w.heap.size + 1 + 1) (by show w.heap.size + 1 + 1 ≠ w.heap.size + 1 + 1 + 1; omega)).trans hS3.c; have d3 : Cells (w3.setCell ⟨w.heap.size + 1 + 1 + 1, 0, none⟩ (.int .i64 0)) (w.heap.size + 1 + 1 + 1) #[.int .i64 0] 29 := hS3.d.set 0 _; have e0 := c3.cell 0; have e1 := c3.cell 1; have e2 := c3.cell 2; have e3 := c3.cell 3; have e5 := c3.cell 5; simp only [List.getElem?_toArray, List.getElem?_cons_zero, List.getElem?_cons_succ] at e0 e1 e2 e3 e5)
    | (refine wpList_storeA 94 rfl (.tmp 4) (.tmp 42) rfl (g := w.heap.size + 1 + 1) rfl rfl c94 hi94 rfl h94 ?_; intro w4 hc4 hz4 hb4; have c4 : Cells w4 w2.heap.size z155 155 := (hb4.block _ (by omega)).trans c3; have d4 : Cells w4 (w.heap.size + 1 + 1 + 1) #[.int .i64 0] 29 := (hb4.block _ (by omega)).trans d3; have g2 := c4.cell 2; simp only [List.getElem?_toArray, List.getElem?_cons_zero, List.getElem?_cons_succ] at g2)
    | (refine wpList_loadA 94 rfl Tryz.underlying94 rfl (.tmp 4) rfl rfl hc4 hi94 ?_)
    | (refine wpList_storeA 94 rfl (.tmp 4) (.tmp 46) rfl (g := w.heap.size + 1 + 1) rfl rfl hc4 hi94 rfl h94 ?_; intro w5 hc5 hz5 hb5; have d5 : Cells w5 (w.heap.size + 1 + 1 + 1) #[.int .i64 0] 29 := (hb5.block _ (by omega)).trans d4; have g5 := d5.cell 0; have f5 := d5.frozen 0; simp only [List.getElem?_toArray, List.getElem?_cons_zero, List.getElem?_cons_succ] at g5)
    | (go_at_call 63; refine (must63 _).mono ?_; rintro e w0 ⟨rfl, rfl⟩))
  have h0 : Cells (w5.setCell ⟨w.heap.size + 1 + 1 + 1, 0, none⟩ (.int .i64 0)) (w.heap.size + 1 + 1) z94 94 := (Below.heap_setCell w5 ⟨w.heap.size + 1 + 1 + 1, 0, none⟩ _ (w.heap.size + 1 + 1) (by show w.heap.size + 1 + 1 ≠ w.heap.size + 1 + 1 + 1; omega)).trans hc5
  have h1 : Cells (w5.setCell ⟨w.heap.size + 1 + 1 + 1, 0, none⟩ (.int .i64 0)) (w.heap.size + 1 + 1 + 1) #[.int .i64 0] 29 := d5.set 0 _
  have hk : Keeps w.heap.size w (w5.setCell ⟨w.heap.size + 1 + 1 + 1, 0, none⟩ (.int .i64 0)) := by
    refine ⟨?_, fun i hi => ?_, ?_⟩
    · have := hS3.k.1
      simp only [World.size_setCell] at *
      omega
    · exact (Below.heap_setCell w5 ⟨w.heap.size + 1 + 1 + 1, 0, none⟩ _ i (by show i ≠ w.heap.size + 1 + 1 + 1; omega)).trans ((hb5.block i (by omega)).trans ((hb4.block i (by omega)).trans ((Below.heap_setCell w3 ⟨w.heap.size + 1 + 1 + 1, 0, none⟩ _ i (by show i ≠ w.heap.size + 1 + 1 + 1; omega)).trans (hS3.k.2 i hi))))
    · exact (((hS3.k.3.trans (show Calm w3 (w3.setCell ⟨w.heap.size + 1 + 1 + 1, 0, none⟩ (.int .i64 0)) from ⟨rfl, rfl⟩)).trans hb4.calm).trans hb5.calm).trans ⟨rfl, rfl⟩
  have hq : (w5.setCell ⟨w.heap.size + 1 + 1 + 1, 0, none⟩ (.int .i64 0)).cell? ⟨w.heap.size + 1 + 1 + 1, 0, none⟩ = some (.int .i64 0) := h1.cell 0
  refine leaves_cons (f := 60) (args := #[.pointer (some ⟨w.heap.size + 1 + 1 + 1, 0, none⟩)]) (by simp) (by simp [go_sem]) ?_
  refine (caught_idle ⟨w.heap.size + 1 + 1 + 1, 0, none⟩ _).mono ?_
  rintro e u' w'' ⟨rfl, rfl, rfl⟩
  refine leaves_cons (f := 59) (args := #[.pointer (some ⟨w.heap.size + 1 + 1 + 1, 0, none⟩), .pointer (some ⟨w.heap.size + 1 + 1, 0, none⟩)]) (by simp [settle]) (by simp [go_sem]) ?_
  refine (opened_idle ⟨w.heap.size + 1 + 1 + 1, 0, none⟩ ⟨w.heap.size + 1 + 1, 0, none⟩ _ hq).mono ?_
  rintro e u' w'' ⟨rfl, rfl, rfl⟩
  exact ⟨_, results_open rfl rfl h0 h1, rfl, hk⟩
end Go.Proofs.YtlpbbihjnmikkaaGreatDoor.Exe

namespace Go.Proofs.YtlpbbihjnmikkaaGreatDoor.Exe
set_option linter.unusedSimpArgs false
set_option linter.unusedVariables false
set_option maxRecDepth 100000
open Go.RowKit

theorem open_known (C : Ciph) : KnownOk Tryz.prog (lore C) 28 fOpen := fun args h nx r w v h' nx' r' w' he ν W args' hok hf ha => by
  unfold fOpen at he
  split at he
  · rename_i d s2
    obtain ⟨l⟩ := args'
    cases ha with | cons ha1 ha => cases ha with | cons ha2 ha =>
      cases ha
      obtain ⟨k, ac, n, st, r2, w2, g, room, now, sure, ext, cs, e2, rfl, hk, hν, hg, hroom, hac, s, l0, hrow, hln, hsg, hsl⟩ := withDisk_ok he hok ha1
      split at e2
      · rename_i fv
        cases e2
        obtain rfl := flat_eq hac
        have hnow : now = nilV := by
          rcases hrow with ⟨e, _⟩ | ⟨b, o, c, e, _⟩
          · exact e
          · subst e
            cases hac with | flat _ h => cases h
        subst hnow
        refine (open28 hg).mono fun e W' ⟨g1, g2⟩ => ⟨_, ν, g1, Ext.refl _ _, hok.world g2.2 g2.3, ?_⟩
        exact .tup (.cons (.agg (.cons (.nat 0 (by decide)) (.cons (.nat 0 (by decide)) (.cons (.nat 0 (by decide)) (.cons (.nat 0 (by decide)) (.cons (.flat _ rfl) (.cons (.flat _ rfl) (.cons (.flat _ rfl) (.cons (.nat 0 (by decide)) .nil)))))))) rfl) (.cons (.one (.nat 0 (by decide))) .nil))
      · cases e2
  · cases he
end Go.Proofs.YtlpbbihjnmikkaaGreatDoor.Exe

namespace Go.Proofs.YtlpbbihjnmikkaaGreatDoor.Exe
set_option linter.unusedSimpArgs false
set_option linter.unusedVariables false
set_option maxRecDepth 100000
open Go.RowKit

/-- The world of gcm.Open, where the tag's block may stand. -/
structure O1 (w : World) (kk nn : List Oct) (og : Option Value) (w' : World) : Prop where
  t : S0 w w' kk nn
  g : ∀ u, og = some u → ∃ gt, u = .pointer (some ⟨gt, 0, none⟩) ∧ Cells w' gt z16 310 ∧ w.heap.size + 2 ≤ gt
theorem O1.later {w w1 w2 : World} {kk nn : List Oct} {og : Option Value} (h : O1 w kk nn og w1) (q : Keeps w1.heap.size w1 w2) : O1 w kk nn og w2 :=
  ⟨h.t.later q, fun u e => by
    obtain ⟨gt, h1, h2, h3⟩ := h.g u e
    exact ⟨gt, h1, h2.keeps q, h3⟩⟩
/-- The tag is laid. -/
structure O2 (w w' : World) (kk nn : List Oct) (gt : Nat) (T : List Oct) : Prop where
  t : S0 w w' kk nn
  g : Cells w' gt (octs T).toArray 310
theorem O2.later {w w1 w2 : World} {kk nn : List Oct} {gt : Nat} {T : List Oct} (h : O2 w w1 kk nn gt T) (q : Keeps w1.heap.size w1 w2) : O2 w w2 kk nn gt T := ⟨h.t.later q, h.g.keeps q⟩
theorem O2.made {w w1 w2 : World} {kk nn : List Oct} {gt : Nat} {T : List Oct} (h : S0 w w1 kk nn) (hg : w.heap.size + 2 ≤ gt) (hc : Cells w2 gt (octs T).toArray 310) (hz : w2.heap.size = w1.heap.size) (hb : Else gt w1 w2) : O2 w w2 kk nn gt T :=
  ⟨⟨⟨by rw [hz]; exact h.s.1, fun i hi => (hb i (by omega)).trans (h.s.2 i hi), h.s.3.trans hb.calm⟩, (hb _ (by omega)).trans h.a, (hb _ (by omega)).trans h.b⟩, hc⟩
theorem O1.made {w w1 : World} {kk nn : List Oct} (h : O1 w kk nn none w1) : O1 w kk nn (some (.pointer (some ⟨w1.heap.size, 0, none⟩))) (w1.alloc (.cells z16 310)) :=
  ⟨h.t.later (Keeps.alloc w1 _), fun u e => by
    cases e
    exact ⟨_, rfl, heap_new w1 z16 310, by have := h.t.b.lt; omega⟩⟩
theorem xor_same (x : Oct) : bits .xor .u8 (x.toNat : Int) (x.toNat : Int) = 0 := by
  rw [Aes.bits_xor8, BitVec.xor_self]
  rfl
theorem or_none : bits .or .u8 0 0 = 0 := by decide
theorem left_src {w : World} {A : Option Addr} {c m : Nat} {l r : List Oct} (h : Exe.Src (.slice A (m + 16) c) (l ++ r) w) (hl : l.length = m) (hr : r.length = 16) : ∃ b o, A = some ⟨b, o, none⟩ ∧ m + 16 ≤ c ∧ Exe.Src (.slice (some ⟨b, o, none⟩) m c) l w ∧ (∀ w' : World, Keeps w.heap.size w w' → ∀ i, i < 16 → w'.cell? ⟨b, o + (m + i), none⟩ = some (.int .u8 ((fn r i).toNat : Int))) := by
  have hlen : (l ++ r).length = m + 16 := by rw [List.length_append, hl, hr]
  rcases h with ⟨e, _⟩ | ⟨b, o, cap, e, hc, hb, hq⟩
  · simp at e
  · simp only [Value.slice.injEq] at e
    obtain ⟨rfl, _, rfl⟩ := e
    refine ⟨b, o, rfl, by omega, .inr ⟨b, o, c, by rw [hl], by omega, hb, fun j hj => ?_⟩, fun w' k i hi => ?_⟩
    · rw [hq j (by omega)]
      simp [List.getElem_append_left hj]
    · have e1 := hq (m + i) (by omega)
      rw [cell_same (k.2 b hb), e1, List.getElem_append_right (by omega)]
      simp [fn, hl, show i < r.length by omega]
set_option maxHeartbeats 4000000 in
theorem open259s (C : Ciph) {w : World} {u : Value} {kk nn b X T t : List Oct} {A : Option Addr} {c m : Nat} (hT : Laid w) (hk : kk.length = 32) (hn : nn.length = 12) (hu : Exe.Src u b w) (hv : Exe.Src (.slice A (m + 16) c) (X ++ T) w) (hlb : b.length ≤ 1024) (hm : m ≤ 1024) (hX : X.length = m) (hTl : T.length = 16) (hTe : tagG (expO kk) nn b X = T) (hXe : xorG (expO kk) nn X = t) :
    Calls Tryz.prog 259 #[.agg (octs kk).toArray, .agg (octs nn).toArray, u, .slice A (m + 16) c] w fun e w' => ∃ v', e = .returned (.tuple #[v', .int .i64 0]) ∧ Owns w' w.heap.size v' t ∧ Keeps w.heap.size w w' := by
  have h0 := S0.start w kk nn
  have hX1 : X.length ≤ 1024 := by omega
  have hX4 : X.length ≤ 4096 := by omega
  obtain ⟨bb, oo, rfl, hcap, hvx, hcell⟩ := left_src hv hX hTl
  have hc0 : ¬ c = 0 := by omega
  have hmc : (m : Int) ≤ (c : Int) := by omega
  have hm0 : ¬ ((m : Int) < 0) := by omega
  have hsub : (((m + 16 : Nat) : Int)) - 16 = (m : Int) := by omega
  go_enter Tryz.func259, Tryz.ntmps259
  go_wp2_with fail
  try simp only [Act.put]
  refine wp_region_begin (by kernel_rfl) ?_
  have h1 : O1 w kk nn none (((w.alloc (.cells (octs kk).toArray 23)).alloc (.cells (octs nn).toArray 240)).drew) := ⟨h0.later (w2 := ((w.alloc (.cells (octs kk).toArray 23)).alloc (.cells (octs nn).toArray 240)).drew) ⟨Nat.le_refl _, fun _ _ => rfl, rfl, rfl⟩, fun u e => by cases e⟩
  generalize ((w.alloc (.cells (octs kk).toArray 23)).alloc (.cells (octs nn).toArray 240)).drew = wd at h1 ⊢
  clear h0
  refine wpAny_take (i := 2) (oi := ?_) (v := ?_) ?_ (by kernel_rfl) (by kernel_rfl) (by kernel_rfl) ?_ ?_ ?_
  rotate_left 2
  · simp only [List.getElem?_toArray, List.getElem?_cons_zero, List.getElem?_cons_succ]
    with_reducible rfl
  · exact fun _ _ _ q => q
  · (refine Or.inl ⟨?_, ?_⟩; rfl; intro w; go_simp; with_reducible rfl)
  simp only [Act.put, List.setIfInBounds_toArray, List.set_cons_zero, List.set_cons_succ]
  refine wpAny_take (i := 3) (oi := ?_) (v := ?_) ?_ (by kernel_rfl) (by kernel_rfl) (by kernel_rfl) ?_ ?_ ?_
  rotate_left 2
  · simp only [List.getElem?_toArray, List.getElem?_cons_zero, List.getElem?_cons_succ]
    with_reducible rfl
  · exact fun _ _ _ q => q
  · (refine Or.inl ⟨?_, ?_⟩; rfl; intro w; go_simp; with_reducible rfl)
  simp only [Act.put, List.setIfInBounds_toArray, List.set_cons_zero, List.set_cons_succ]
  refine wpAny_take (i := 4) (oi := ?_) (v := ?_) ?_ (by kernel_rfl) (by kernel_rfl) (by kernel_rfl) ?_ ?_ ?_
  rotate_left 2
  · simp only [List.getElem?_toArray, List.getElem?_cons_zero, List.getElem?_cons_succ]
    with_reducible rfl
  · exact fun _ _ _ q => q
  · (refine Or.inl ⟨?_, ?_⟩; rfl; intro w; go_simp; with_reducible rfl)
  simp only [Act.put, List.setIfInBounds_toArray, List.set_cons_zero, List.set_cons_succ]
  refine wpAny_take (i := 5) (oi := ?_) (v := ?_) ?_ (by kernel_rfl) (by kernel_rfl) (by kernel_rfl) ?_ ?_ ?_
  rotate_left 2
  · simp only [List.getElem?_toArray, List.getElem?_cons_zero, List.getElem?_cons_succ]
    with_reducible rfl
  · exact fun _ _ _ q => q
  · (refine Or.inl ⟨?_, ?_⟩; rfl; intro w; go_simp; with_reducible rfl)
  simp only [Act.put, List.setIfInBounds_toArray, List.set_cons_zero, List.set_cons_succ]
  refine wpAny_mix (oz := ?_) (O1 w kk nn) [0, 1, 6] 7 ?_ (by kernel_rfl) ?_ (by kernel_rfl) (by kernel_rfl) (by kernel_rfl) (by decide) rfl h1 ?_
  rotate_left 1
  · simp only [List.getElem?_toArray, List.getElem?_cons_zero, List.getElem?_cons_succ]
    with_reducible rfl
  · rfl
  repeat first
    | (refine ChainM.step (oi := ?_) (v := ?_) ?_ (by kernel_rfl) (by kernel_rfl) (by kernel_rfl) ?_ ?_
       rotate_left 2
       · simp only [List.getElem?_toArray, List.getElem?_cons_zero, List.getElem?_cons_succ]
         with_reducible rfl
       · (intro og; refine Or.inl ⟨?_, Gives.val ?_⟩; rfl; intro wz hz; refine load_valA rfl Tryz.underlying23 (info23 hk) hz.t.a ?_; rfl)
       simp only [Act.put, List.setIfInBounds_toArray, List.set_cons_zero, List.set_cons_succ])
    | (refine ChainM.step (oi := ?_) (v := ?_) ?_ (by kernel_rfl) (by kernel_rfl) (by kernel_rfl) ?_ ?_
       rotate_left 2
       · simp only [List.getElem?_toArray, List.getElem?_cons_zero, List.getElem?_cons_succ]
         with_reducible rfl
       · (intro og; refine Or.inl ⟨?_, Gives.val ?_⟩; rfl; intro wz hz; refine load_valA rfl Tryz.underlying240 (info240 hn) hz.t.b ?_; rfl)
       simp only [Act.put, List.setIfInBounds_toArray, List.set_cons_zero, List.set_cons_succ])
    | (refine ChainM.step (oi := ?_) (v := .agg (octs (tagG (expO kk) nn b X)).toArray) ?_ (by kernel_rfl) (by kernel_rfl) (by kernel_rfl) ?_ ?_
       rotate_left 1
       · simp only [List.getElem?_toArray, List.getElem?_cons_zero, List.getElem?_cons_succ]
         with_reducible rfl
       · (intro og; refine Or.inl ⟨?_, Gives.call (f := 197) (args := #[.agg (octs kk).toArray, .agg (octs nn).toArray, u, .slice (some ⟨bb, oo, none⟩) m c]) ?_ ?_⟩; rfl; (intro wz hz; go_simp); intro wz hz; exact (tag197 C (hT.keeps hz.t.s.2) hk hn (hu.later hz.t.s.1 hz.t.s.2) (hvx.later hz.t.s.1 hz.t.s.2) hlb hX1).mono fun e wy h => ⟨h.1, O1.later hz h.2⟩)
       simp only [Act.put, List.setIfInBounds_toArray, List.set_cons_zero, List.set_cons_succ])
  refine ChainM.done (by kernel_rfl) ?_ fun u9 w9 hw9 => ?_
  · exact MakesAt.val fun wz hz => ⟨_, wz.alloc (.cells z16 310), by go_simp, O1.made hz⟩
  obtain ⟨gt, rfl, hg9, hgl⟩ := hw9.g _ rfl
  have hG := tagG_len (expO kk) nn b X
  refine wpAny_ready (rs := [8]) (by kernel_rfl) (by simp) ?_
  refine AllReady.cons (o := ?_) ?_ (fun K hK => ?_) AllReady.nil
  rotate_left 1
  · simp only [List.getElem?_toArray, List.getElem?_cons_zero, List.getElem?_cons_succ]
    with_reducible rfl
  refine step_storeB 310 rfl (.tmp 11) (.tmp 25) rfl rfl rfl hg9 (info310 hG) (z16o hG) (octs_all _) ?_
  intro w10 hc10 hz10 hb10
  have h2 := O2.made hw9.t hgl hc10 hz10 hb10
  rw [hTe] at h2
  refine hK _ _ ?_
  clear hK K hc10 hz10 hb10 hw9 hg9 hgl h1
  refine wpAny_done (by kernel_rfl) ?_ _
  go_wp2_with fail
  go_loopw [12, 26] (fun d x w' => ∃ i : Nat, i ≤ 16 ∧ x = .int .i64 i ∧ d = .int .u8 0 ∧ O2 w w' kk nn gt T) (fun _ x _ => 16 - (intOfV x).toNat)
  case atStart => exact ⟨0, by omega, rfl, rfl, h2⟩
  case round =>
    clear h2
    obtain ⟨i, hi, rfl, rfl, h2⟩ := hrel
    by_cases hi16 : i < 16
    · have c1 := cell16 h2.g (j := i) (by rw [hTl]; exact hi16)
      have c2 := hcell wr h2.t.s i hi16
      have xs := xor_same (fn T i)
      have os := or_none
      have hid : (i : Int) < 16 := by omega
      have htn : ((m : Int) + (i : Int)).toNat = m + i := by omega
      have hge : (0 : Int) ≤ (m : Int) + (i : Int) := by omega
      go_wp2_with fail
      have c1 : wr.drew.cell? ⟨gt, i, none⟩ = _ := c1
      have c2 : wr.drew.cell? ⟨bb, oo + (m + i), none⟩ = _ := c2
      have h2 := h2.later (w2 := wr.drew) ⟨Nat.le_refl _, fun _ _ => rfl, rfl, rfl⟩
      go_region
      all_goals go_wp2_with fail
      all_goals exact ⟨⟨i + 1, by omega, by go_num, rfl, h2⟩, by simp only [intOfV]; omega⟩
    · obtain rfl : i = 16 := by omega
      go_wp2_with fail
      try simp only [Act.put]
      refine wp_region_begin (by kernel_rfl) ?_
      have h2 := h2.later (w2 := wr.drew) ⟨Nat.le_refl _, fun _ _ => rfl, rfl, rfl⟩
      generalize wr.drew = we at h2 ⊢
      refine wpAny_take (i := 2) (oi := ?_) (v := ?_) ?_ (by kernel_rfl) (by kernel_rfl) (by kernel_rfl) ?_ ?_ ?_
      rotate_left 2
      · simp only [List.getElem?_toArray, List.getElem?_cons_zero, List.getElem?_cons_succ]
        with_reducible rfl
      · exact fun _ _ _ q => q
      · (refine Or.inl ⟨?_, ?_⟩; rfl; intro w; go_simp; with_reducible rfl)
      simp only [Act.put, List.setIfInBounds_toArray, List.set_cons_zero, List.set_cons_succ]
      refine wpAny_take (i := 3) (oi := ?_) (v := ?_) ?_ (by kernel_rfl) (by kernel_rfl) (by kernel_rfl) ?_ ?_ ?_
      rotate_left 2
      · simp only [List.getElem?_toArray, List.getElem?_cons_zero, List.getElem?_cons_succ]
        with_reducible rfl
      · exact fun _ _ _ q => q
      · (refine Or.inl ⟨?_, ?_⟩; rfl; intro w; go_simp; with_reducible rfl)
      simp only [Act.put, List.setIfInBounds_toArray, List.set_cons_zero, List.set_cons_succ]
      refine wpAny_take (i := 4) (oi := ?_) (v := ?_) ?_ (by kernel_rfl) (by kernel_rfl) (by kernel_rfl) ?_ ?_ ?_
      rotate_left 2
      · simp only [List.getElem?_toArray, List.getElem?_cons_zero, List.getElem?_cons_succ]
        with_reducible rfl
      · exact fun _ _ _ q => q
      · (refine Or.inl ⟨?_, ?_⟩; rfl; intro w; go_simp; with_reducible rfl)
      simp only [Act.put, List.setIfInBounds_toArray, List.set_cons_zero, List.set_cons_succ]
      refine wpAny_steady (fun w0 => O2 w w0 kk nn gt T) [0, 1] (by kernel_rfl) h2 ?_
      repeat first
        | (refine Chain.step (oi := ?_) (v := ?_) ?_ (by kernel_rfl) (by kernel_rfl) (by kernel_rfl) ?_ ?_
           rotate_left 2
           · simp only [List.getElem?_toArray, List.getElem?_cons_zero, List.getElem?_cons_succ]
             with_reducible rfl
           · (refine Or.inl ⟨?_, Gives.val ?_⟩; rfl; intro wz hz; refine load_valA rfl Tryz.underlying23 (info23 hk) hz.t.a ?_; rfl)
           simp only [Act.put, List.setIfInBounds_toArray, List.set_cons_zero, List.set_cons_succ])
        | (refine Chain.step (oi := ?_) (v := ?_) ?_ (by kernel_rfl) (by kernel_rfl) (by kernel_rfl) ?_ ?_
           rotate_left 2
           · simp only [List.getElem?_toArray, List.getElem?_cons_zero, List.getElem?_cons_succ]
             with_reducible rfl
           · (refine Or.inl ⟨?_, Gives.val ?_⟩; rfl; intro wz hz; refine load_valA rfl Tryz.underlying240 (info240 hn) hz.t.b ?_; rfl)
           simp only [Act.put, List.setIfInBounds_toArray, List.set_cons_zero, List.set_cons_succ])
      refine Chain.done fun w9 hw9 => ?_
      refine wpAny_ready (rs := [5]) (by kernel_rfl) (by simp) ?_
      refine AllReady.cons (o := ?_) ?_ (fun K hK => ?_) AllReady.nil
      rotate_left 1
      · simp only [List.getElem?_toArray, List.getElem?_cons_zero, List.getElem?_cons_succ]
        with_reducible rfl
      go_simp
      go_at_call 196
      refine (xor196 C (hT.keeps hw9.t.s.2) hk hn (hvx.later hw9.t.s.1 hw9.t.s.2) hX4).mono ?_
      rintro e w11 ⟨v11, rfl, o11, k11⟩
      refine hK _ _ ?_
      clear hK K
      refine wpAny_ready (rs := [6]) (by kernel_rfl) (by simp) ?_
      refine AllReady.cons (o := ?_) ?_ (fun K hK => ?_) AllReady.nil
      rotate_left 1
      · simp only [List.getElem?_toArray, List.getElem?_cons_zero, List.getElem?_cons_succ]
        with_reducible rfl
      go_simp
      refine hK _ _ ?_
      clear hK K
      refine wpAny_ready (rs := [7]) (by kernel_rfl) (by simp) ?_
      refine AllReady.cons (o := ?_) ?_ (fun K hK => ?_) AllReady.nil
      rotate_left 1
      · simp only [List.getElem?_toArray, List.getElem?_cons_zero, List.getElem?_cons_succ]
        with_reducible rfl
      go_simp
      refine hK _ _ ?_
      clear hK K
      refine wpAny_done (by kernel_rfl) ?_ _
      go_wp2_with fail
      have o11 := owns_base hw9.t.s.1 o11
      rw [hXe] at o11
      go_ret2
      exact ⟨v11, rfl, o11, hw9.t.s.trans k11 hw9.t.s.1⟩
theorem open259 (C : Ciph) {w : World} {u v : Value} {kk nn b t : List Oct} (hT : Laid w) (hk : kk.length = 32) (hn : nn.length = 12) (hu : Exe.Src u b w) (hv : Exe.Src v (sealG kk nn b t) w) (hlb : b.length ≤ 1024) (hlt : t.length ≤ 1024) :
    Calls Tryz.prog 259 #[.agg (octs kk).toArray, .agg (octs nn).toArray, u, v] w fun e w' => ∃ v', e = .returned (.tuple #[v', .int .i64 0]) ∧ Owns w' w.heap.size v' t ∧ Keeps w.heap.size w w' := by
  obtain ⟨A, c, rfl⟩ := hv.slice
  rw [sealG_len] at hv ⊢
  exact open259s C hT hk hn hu hv hlb hlt (xorG_len _ _ _) (tagG_len _ _ _ _) rfl (xorG_twice _ _ _)
end Go.Proofs.YtlpbbihjnmikkaaGreatDoor.Exe
