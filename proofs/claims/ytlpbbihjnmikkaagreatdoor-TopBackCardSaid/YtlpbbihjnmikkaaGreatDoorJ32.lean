/-
  Joined: DskD, DskE, DskF
-/
import Derived.Test.YtlpbbihjnmikkaaGreatDoorJ31
import Derived.Defers
import Derived.Recover
namespace Go.Proofs.YtlpbbihjnmikkaaGreatDoor.Exe
set_option linter.unusedSimpArgs false
set_option linter.unusedVariables false
set_option maxRecDepth 100000
open Go.RowKit

/-- The world of records: the turn in its box, the row that grows. -/
structure Rs (w w1 : World) (cs : Array Value) (L : List Oct) : Prop where
  x : Cells w1 w.heap.size cs 123
  v : ∃ v, Cells w1 (w.heap.size + 1) #[v] 24 ∧ Owns w1 (w.heap.size + 2) v L
  k : Keeps w.heap.size w w1
  z : w.heap.size + 2 ≤ w1.heap.size
theorem Rs.start (w : World) (cs : Array Value) : Rs w ((w.alloc (.cells cs 123)).alloc (.cells #[.slice none 0 0] 24)) cs [] := by
  have kA := Keeps.alloc w (.cells cs 123)
  have kB := Keeps.alloc (w.alloc (.cells cs 123)) (.cells #[.slice none 0 0] 24)
  have s1 : (w.alloc (.cells cs 123)).heap.size = w.heap.size + 1 := by simp
  have n2 := heap_new (w.alloc (.cells cs 123)) #[.slice none 0 0] 24
  rw [s1] at n2
  exact ⟨Cells.keeps (heap_new w cs 123) kB, ⟨_, n2, rfl, .inl ⟨rfl, rfl⟩⟩, kA.trans kB kA.1, by simp⟩
theorem Rs.later {w w1 w2 : World} {cs : Array Value} {L : List Oct} (h : Rs w w1 cs L) (k : Keeps w1.heap.size w1 w2) : Rs w w2 cs L := by
  obtain ⟨v, h1, h2⟩ := h.v
  exact ⟨h.x.keeps k, ⟨v, h1.keeps k, h2.keeps k⟩, h.k.trans k h.k.1, Nat.le_trans h.z k.1⟩
theorem Rs.put {w w1 w2 : World} {cs : Array Value} {L L' : List Oct} (h : Rs w w1 cs L) (k : Rc w1 w2 (w.heap.size + 1) (w.heap.size + 2) L') : Rs w w2 cs L' := by
  refine ⟨(k.b.2 _ (by omega) (by omega)).trans h.x, k.v, ⟨Nat.le_trans h.k.1 k.b.1, fun i hi => (k.b.2 i (by omega) (by omega)).trans (h.k.2 i hi), h.k.3.trans k.b.3⟩, Nat.le_trans h.z k.b.1⟩
/-- How long the row is. -/
def Few (nw : Bool) (i : Nat) (L : List Oct) : Prop := L.length ≤ 1000 * (i + 1) ∧ (nw = true ∨ 0 < i → 0 < L.length) ∧ (nw = false → i = 0 → L = [])
theorem Few.more {nw : Bool} {i : Nat} {L k : List Oct} (h : Few nw i L) (hk : 0 < k.length ∧ k.length ≤ 1000) : Few nw (i + 1) (L ++ k) := by
  refine ⟨?_, fun _ => ?_, fun _ h => absurd h (by omega)⟩
  · have := h.1; rw [List.length_append]; omega
  · rw [List.length_append]; omega
/-- The entries of a turn, each of few bytes. -/
def EntsAt (w : World) (A : Option Addr) (m : Nat) : Prop := ∀ i, i < m → ∃ b o t k u, A = some ⟨b, o, none⟩ ∧ w.rangeAt b (o + i * 4) [.int .i64 (t : Nat), .int .i64 (k : Nat), u, .slice none 0 0] ∧ (0 < t ∧ t ≤ 3 ∧ k ≤ 2) ∧ b < w.heap.size ∧ (u = .slice none 0 0 ∨ ∃ s l, RowB u s l w ∧ l.length ≤ 240 ∧ ∀ j, s j → j < w.heap.size)
abbrev turnC (a b c : Nat) (nw : Bool) (x f1 f2 es y : Value) : Array Value := #[.int .i64 a, .int .i64 b, .bool nw, .int .i64 0, x, f1, f2, .int .i64 c, es, y]
theorem range_hard {w : World} {g a b c : Nat} {nw : Bool} {x f1 f2 es y : Value} (h : Cells w g (turnC a b c nw x f1 f2 es y) 123) : w.rangeAt g 0 [.int .i64 a, .int .i64 b] := fun j v hv => by
  rw [Nat.zero_add, h.cell]
  rcases j with _ | _ | j
  · exact hv
  · exact hv
  · simp at hv
abbrev z135 : Array Value := #[.int .i64 0, .int .i64 0, .slice none 0 0, .slice none 0 0]
theorem info135 : (Tryz.prog.info? 135).map (·.size) = some 4 := by kernel_rfl
theorem ent_all {t k : Int} {u : Value} (hu1 : u.oneCell' = true) : (#[.int .i64 t, .int .i64 k, u, .slice none 0 0] : Array Value).all (·.oneCell') = true := by
  rw [← Array.all_toList]
  simp only [List.all_cons, List.all_nil, hu1, Bool.and_true, Bool.true_and]
  rfl
theorem results_one {fn : Func} {k : Tmp} (h : fn.results = #[.cell k 24]) (tmps : Array Value) {g : Nat} {v : Value} (w : World) (hb : w.cell? ⟨g, 0, none⟩ = some v) (hk : tmps.getD k undef = .pointer (some ⟨g, 0, none⟩)) :
    (results fn tmps).run Tryz.prog w = .ok v w := by
  rw [Array.getD_eq_getD_getElem?] at hk
  simp [results, h, hk, asAddr, loadVar, run_underlying Tryz.underlying24, hb]
theorem ent_put (C : Ciph) {w w3 : World} (hT : Laid w3) (h3 : Keeps w.heap.size w w3) {i c t k : Nat} {u : Value} (h0 : 0 < t) (ht : t ≤ 3) (hk : k ≤ 2) (hu : u = .slice none 0 0 ∨ ∃ s l, RowB u s l w ∧ l.length ≤ 240 ∧ ∀ j, s j → j < w.heap.size) (hi : c + i ≤ 40) :
    ∀ W, Keeps w3.heap.size w3 W → Calls Tryz.prog 201 #[.agg #[.int .i64 2, .int .i64 ((c : Int) + (i : Int)), .int .i64 0, .int .i64 0, .int .i64 0, .int .i64 0, .int .i64 t, .int .i64 k, u, .slice none 0 0]] W fun e W' => PutEnds W e W' := fun W kW => by
  have h4 := h3.trans kW h3.1
  rcases hu with rfl | ⟨s, l, h1, h2, h5⟩
  · have := putEntry (C := C) (hT.keeps kW.2) (i := c + i) (l := []) hi h0 ht hk (.inl rfl)
    rw [Int.natCast_add] at this
    exact this
  · have := putEntry (C := C) (hT.keeps kW.2) (i := c + i) (l := l) hi h0 ht hk (.inr ⟨s, h1.stable fun j hj => h4.2 j (h5 j hj), h2⟩)
    rw [Int.natCast_add] at this
    exact this
theorem range_keeps {w w' : World} {b o : Nat} {cs : List Value} (h : w.rangeAt b o cs) (hb : b < w.heap.size) (k : Keeps w.heap.size w w') : w'.rangeAt b o cs := fun j v hv => (cell_same (k.2 b hb)).trans (h j v hv)
set_option maxHeartbeats 1000000 in
theorem records155t (C : Ciph) {w : World} (hT : Laid w) {a b c m cap : Nat} {x f1 f2 y : Value} {A : Option Addr} (ha : a ≤ 3) (hb : b ≤ 3) (hc : 0 < m → c + m ≤ 40) (hE : EntsAt w A m) (hcap : m ≤ cap) :
    Calls Tryz.prog 155 #[.int .i64 0, .agg (turnC a b c true x f1 f2 (.slice A m cap) y)] w fun e w' => ∃ v L, e = .returned v ∧ Owns w' w.heap.size v L ∧ Few true m L ∧ Keeps w.heap.size w w' := by
  have h0 := Rs.start w (turnC a b c true x f1 f2 (.slice A m cap) y)
  have hT0 := hT.keeps h0.k.2
  have q2 := h0.x.cell 2
  have q3 := h0.x.cell 3
  simp only [List.getElem?_toArray, List.getElem?_cons_zero, List.getElem?_cons_succ] at q2 q3
  replace hE := Lib.hid hE
  have s1 : (w.alloc (.cells (turnC a b c true x f1 f2 (.slice A m cap) y) 123)).heap.size = w.heap.size + 1 := by simp
  have c0 : Cells ((w.alloc (.cells (turnC a b c true x f1 f2 (.slice A m cap) y) 123)).alloc (.cells #[.slice none 0 0] 24)) (w.heap.size + 1) #[.slice none 0 0] 24 := by
    have n2 := heap_new (w.alloc (.cells (turnC a b c true x f1 f2 (.slice A m cap) y) 123)) #[.slice none 0 0] 24
    rwa [s1] at n2
  clear s1
  have o0 : Owns ((w.alloc (.cells (turnC a b c true x f1 f2 (.slice A m cap) y) 123)).alloc (.cells #[.slice none 0 0] 24)) (w.heap.size + 2) (.slice none 0 0) [] := ⟨rfl, .inl ⟨rfl, rfl⟩⟩
  have hP0 := fun W (kW : Keeps ((w.alloc (.cells (turnC a b c true x f1 f2 (.slice A m cap) y) 123)).alloc (.cells #[.slice none 0 0] 24)).heap.size ((w.alloc (.cells (turnC a b c true x f1 f2 (.slice A m cap) y) 123)).alloc (.cells #[.slice none 0 0] 24)) W) => putHard (C := C) (hT0.keeps kW.2) ha hb
  have hz0 := h0.z
  replace o0 := Lib.hid o0
  go_enter Tryz.func155, Tryz.ntmps155
  go_wp2_with (first
    | (go_at_call 221; refine (put221h hP0 c0 o0.out (by decide) (by omega) hz0).mono ?_; rintro e w1 ⟨k, rfl, hk, hr⟩; have h1 : Rs w w1 (turnC a b c true x f1 f2 (.slice A m cap) y) k := h0.put hr; have q3' := h1.x.cell 3; have q8' := h1.x.cell 8; simp only [List.getElem?_toArray, List.getElem?_cons_zero, List.getElem?_cons_succ] at q3' q8'; have hF1 : Few true 0 k := ⟨by omega, fun _ => hk.1, fun h => by cases h⟩; clear hr hP0 c0 o0 hz0))
  have hPrev := h1
  go_loopw [33] (fun ix w' => ∃ (i : Nat) (L : List Oct), i ≤ m ∧ ix = .int .i64 i ∧ Rs w w' (turnC a b c true x f1 f2 (.slice A m cap) y) L ∧ Few true i L) (fun ix _ => m - (intOfV ix).toNat)
  case atStart => exact ⟨0, k, Nat.zero_le _, rfl, h1, hF1⟩
  case round =>
    clear hPrev
    obtain ⟨i, L, hi, rfl, hR, hF⟩ := hrel
    by_cases hlt : i < m
    · have hd : (i : Int) < (m : Int) := by omega
      have hE1 := hE.out i hlt
      obtain ⟨be, oe, t, kk, u, hA, hr, ⟨ht0, ht3, hk2⟩, hbe, hu⟩ := hE1
      subst hA
      have hr1 := range_keeps hr hbe hR.k
      have p0 := hr1 0 _ rfl
      have p1 := hr1 1 _ rfl
      have p2 := hr1 2 _ rfl
      have p3 := hr1 3 _ rfl
      rw [Nat.add_zero] at p0
      clear hr hr1
      have q7 := hR.x.cell 7
      simp only [List.getElem?_toArray, List.getElem?_cons_zero, List.getElem?_cons_succ] at q7

      have hz0 : Cells (wr.alloc (.cells z135 135)) wr.heap.size z135 135 := heap_new wr z135 135
      have hu1 : u.oneCell' = true := by
        rcases hu with rfl | ⟨_, _, hu, _⟩
        · rfl
        · obtain ⟨_, _, rfl⟩ := hu.slice
          rfl
      obtain ⟨Ad, nd, cd, rfl⟩ : ∃ A n c, u = .slice A n c := by
        rcases hu with rfl | ⟨_, _, hu, _⟩
        · exact ⟨_, _, _, rfl⟩
        · obtain ⟨_, _, e⟩ := hu.slice
          exact ⟨_, _, _, e⟩
      replace hu := Lib.hid hu
      have hi135 : (Tryz.prog.info? 135).map (·.size) = some (#[.int .i64 t, .int .i64 kk, .slice Ad nd cd, .slice none 0 0] : Array Value).size := info135
      have hs135 : z135.size = (#[.int .i64 t, .int .i64 kk, .slice Ad nd cd, .slice none 0 0] : Array Value).size := rfl
      have hall : (#[.int .i64 t, .int .i64 kk, .slice Ad nd cd, .slice none 0 0] : Array Value).all (·.oneCell') = true := ent_all hu1
      have hw : IntKind.i64.wrap ((c : Int) + (i : Int)) = (c : Int) + (i : Int) := IntWalk.i64_in _ (by omega)
      have hL : L.length ≤ 60000 := by have := hF.1; omega
      go_wp2_with (first
        | (with_reducible refine wpList_storeA 135 rfl (.tmp 7) (.tmp 37) rfl rfl rfl hz0 hi135 hs135 hall ?_; intro w3 hc3 hz3 hb3; have hR3 : Rs w w3 _ L := hR.later (Keeps.allocStore _ hz3 hb3); have q7 := hR3.x.cell 7; simp only [List.getElem?_toArray, List.getElem?_cons_zero, List.getElem?_cons_succ] at q7; have hP3 := ent_put C (hT.keeps hR3.k.2) hR3.k ht0 ht3 hk2 hu.out (i := i) (c := c) (by omega); obtain ⟨v3, c3, o3⟩ := hR3.v; have hz3' := hR3.z; clear hz3 hb3 hz0; replace o3 := Lib.hid o3)
        | (with_reducible refine wpList_loadA 135 rfl Tryz.underlying135 rfl (.tmp 7) rfl rfl hc3 hi135 ?_)
        | (go_at_call 221; refine (put221e hP3 c3 o3.out hL (by omega) hz3').mono ?_; rintro e w4 ⟨k4, rfl, hk4, hr4⟩; have hR4 : Rs w w4 _ (L ++ k4) := hR3.put hr4; clear hr4 hP3 c3 o3 hc3))
      refine ⟨⟨i + 1, L ++ k4, by omega, by go_num, hR4, hF.more hk4⟩, ?_⟩
      simp only [intOfV]
      omega
    · obtain rfl : i = m := by omega
      have hd : ¬ ((i : Int) < (i : Int)) := by omega
      obtain ⟨v3, c3, o3⟩ := hR.v
      have q0 := c3.cell 0
      have f0 := c3.frozen 0
      have hz := hR.z
      have hk := hR.k
      obtain ⟨A3, cap3, rfl⟩ := o3.slice
      replace o3 := Lib.hid o3
      simp only [List.getElem?_toArray, List.getElem?_cons_zero, List.getElem?_cons_succ] at q0
      go_wp2_with fail
      have c4 := c3.set 0 (.slice A3 L.length cap3)
      have c5 : (wr.setCell ⟨w.heap.size + 1, 0, none⟩ (.slice A3 L.length cap3)).cell? ⟨w.heap.size + 1, 0, none⟩ = some (.slice A3 L.length cap3) := c4.cell 0
      refine bodyPost_ret (results_one rfl _ _ c5 rfl) rfl ⟨_, rfl, L, owns_base (by omega) (owns_set o3.out (by omega)), hF, ⟨by simpa using hk.1, fun j hj => (Below.heap_setCell wr ⟨w.heap.size + 1, 0, none⟩ _ j (by show j ≠ w.heap.size + 1; omega)).trans (hk.2 j hj), hk.3.trans ⟨rfl, rfl⟩⟩⟩
set_option maxHeartbeats 1000000 in
theorem records155f (C : Ciph) {w : World} (hT : Laid w) {a b c m cap : Nat} {x f1 f2 y : Value} {A : Option Addr} (ha : a ≤ 3) (hb : b ≤ 3) (hc : 0 < m → c + m ≤ 40) (hE : EntsAt w A m) (hcap : m ≤ cap) :
    Calls Tryz.prog 155 #[.int .i64 0, .agg (turnC a b c false x f1 f2 (.slice A m cap) y)] w fun e w' => ∃ v L, e = .returned v ∧ Owns w' w.heap.size v L ∧ Few false m L ∧ Keeps w.heap.size w w' := by
  have h0 := Rs.start w (turnC a b c false x f1 f2 (.slice A m cap) y)
  have hT0 := hT.keeps h0.k.2
  have q2 := h0.x.cell 2
  have q3 := h0.x.cell 3
  simp only [List.getElem?_toArray, List.getElem?_cons_zero, List.getElem?_cons_succ] at q2 q3
  replace hE := Lib.hid hE
  go_enter Tryz.func155, Tryz.ntmps155
  go_wp2_with fail
  have hPrev := h0
  go_loopw [33] (fun ix w' => ∃ (i : Nat) (L : List Oct), i ≤ m ∧ ix = .int .i64 i ∧ Rs w w' (turnC a b c false x f1 f2 (.slice A m cap) y) L ∧ Few false i L) (fun ix _ => m - (intOfV ix).toNat)
  case atStart => exact ⟨0, [], Nat.zero_le _, rfl, h0, ⟨by simp, fun h => by simp at h, fun _ _ => rfl⟩⟩
  case round =>
    clear hPrev
    obtain ⟨i, L, hi, rfl, hR, hF⟩ := hrel
    by_cases hlt : i < m
    · have hd : (i : Int) < (m : Int) := by omega
      have hE1 := hE.out i hlt
      obtain ⟨be, oe, t, kk, u, hA, hr, ⟨ht0, ht3, hk2⟩, hbe, hu⟩ := hE1
      subst hA
      have hr1 := range_keeps hr hbe hR.k
      have p0 := hr1 0 _ rfl
      have p1 := hr1 1 _ rfl
      have p2 := hr1 2 _ rfl
      have p3 := hr1 3 _ rfl
      rw [Nat.add_zero] at p0
      clear hr hr1
      have q7 := hR.x.cell 7
      simp only [List.getElem?_toArray, List.getElem?_cons_zero, List.getElem?_cons_succ] at q7

      have hz0 : Cells (wr.alloc (.cells z135 135)) wr.heap.size z135 135 := heap_new wr z135 135
      have hu1 : u.oneCell' = true := by
        rcases hu with rfl | ⟨_, _, hu, _⟩
        · rfl
        · obtain ⟨_, _, rfl⟩ := hu.slice
          rfl
      obtain ⟨Ad, nd, cd, rfl⟩ : ∃ A n c, u = .slice A n c := by
        rcases hu with rfl | ⟨_, _, hu, _⟩
        · exact ⟨_, _, _, rfl⟩
        · obtain ⟨_, _, e⟩ := hu.slice
          exact ⟨_, _, _, e⟩
      replace hu := Lib.hid hu
      have hi135 : (Tryz.prog.info? 135).map (·.size) = some (#[.int .i64 t, .int .i64 kk, .slice Ad nd cd, .slice none 0 0] : Array Value).size := info135
      have hs135 : z135.size = (#[.int .i64 t, .int .i64 kk, .slice Ad nd cd, .slice none 0 0] : Array Value).size := rfl
      have hall : (#[.int .i64 t, .int .i64 kk, .slice Ad nd cd, .slice none 0 0] : Array Value).all (·.oneCell') = true := ent_all hu1
      have hw : IntKind.i64.wrap ((c : Int) + (i : Int)) = (c : Int) + (i : Int) := IntWalk.i64_in _ (by omega)
      have hL : L.length ≤ 60000 := by have := hF.1; omega
      go_wp2_with (first
        | (with_reducible refine wpList_storeA 135 rfl (.tmp 7) (.tmp 37) rfl rfl rfl hz0 hi135 hs135 hall ?_; intro w3 hc3 hz3 hb3; have hR3 : Rs w w3 _ L := hR.later (Keeps.allocStore _ hz3 hb3); have q7 := hR3.x.cell 7; simp only [List.getElem?_toArray, List.getElem?_cons_zero, List.getElem?_cons_succ] at q7; have hP3 := ent_put C (hT.keeps hR3.k.2) hR3.k ht0 ht3 hk2 hu.out (i := i) (c := c) (by omega); obtain ⟨v3, c3, o3⟩ := hR3.v; have hz3' := hR3.z; clear hz3 hb3 hz0; replace o3 := Lib.hid o3)
        | (with_reducible refine wpList_loadA 135 rfl Tryz.underlying135 rfl (.tmp 7) rfl rfl hc3 hi135 ?_)
        | (go_at_call 221; refine (put221e hP3 c3 o3.out hL (by omega) hz3').mono ?_; rintro e w4 ⟨k4, rfl, hk4, hr4⟩; have hR4 : Rs w w4 _ (L ++ k4) := hR3.put hr4; clear hr4 hP3 c3 o3 hc3))
      refine ⟨⟨i + 1, L ++ k4, by omega, by go_num, hR4, hF.more hk4⟩, ?_⟩
      simp only [intOfV]
      omega
    · obtain rfl : i = m := by omega
      have hd : ¬ ((i : Int) < (i : Int)) := by omega
      obtain ⟨v3, c3, o3⟩ := hR.v
      have q0 := c3.cell 0
      have f0 := c3.frozen 0
      have hz := hR.z
      have hk := hR.k
      obtain ⟨A3, cap3, rfl⟩ := o3.slice
      replace o3 := Lib.hid o3
      simp only [List.getElem?_toArray, List.getElem?_cons_zero, List.getElem?_cons_succ] at q0
      go_wp2_with fail
      have c4 := c3.set 0 (.slice A3 L.length cap3)
      have c5 : (wr.setCell ⟨w.heap.size + 1, 0, none⟩ (.slice A3 L.length cap3)).cell? ⟨w.heap.size + 1, 0, none⟩ = some (.slice A3 L.length cap3) := c4.cell 0
      refine bodyPost_ret (results_one rfl _ _ c5 rfl) rfl ⟨_, rfl, L, owns_base (by omega) (owns_set o3.out (by omega)), hF, ⟨by simpa using hk.1, fun j hj => (Below.heap_setCell wr ⟨w.heap.size + 1, 0, none⟩ _ j (by show j ≠ w.heap.size + 1; omega)).trans (hk.2 j hj), hk.3.trans ⟨rfl, rfl⟩⟩⟩
theorem records155 (C : Ciph) {w : World} (hT : Laid w) {a b c m cap : Nat} {nw : Bool} {x f1 f2 y : Value} {A : Option Addr} (ha : a ≤ 3) (hb : b ≤ 3) (hc : 0 < m → c + m ≤ 40) (hE : EntsAt w A m) (hcap : m ≤ cap) :
    Calls Tryz.prog 155 #[.int .i64 0, .agg (turnC a b c nw x f1 f2 (.slice A m cap) y)] w fun e w' => ∃ v L, e = .returned v ∧ Owns w' w.heap.size v L ∧ Few nw m L ∧ Keeps w.heap.size w w' := by
  cases nw
  · exact records155f C hT ha hb hc hE hcap
  · exact records155t C hT ha hb hc hE hcap
end Go.Proofs.YtlpbbihjnmikkaaGreatDoor.Exe

namespace Go.Proofs.YtlpbbihjnmikkaaGreatDoor.Exe
set_option linter.unusedSimpArgs false
set_option linter.unusedVariables false
set_option maxRecDepth 100000
open Go.RowKit

/-- caught, deferred of a frame that returns: nothing. -/
theorem caught_idle (p : Addr) (w : World) :
    CallsD Tryz.prog 60 #[.pointer (some p)] .returning w fun e u' w' => e = .returned (.tuple #[]) ∧ u' = .returning ∧ w' = w := by
  refine callsD_of_wpS Tryz.func60 rfl fun c₀ cs hu => ?_
  apply wpS_seq
  apply wpS_region
  simp [wpOpsS, go_sem, recoverD, hu, Tryz.ntmps60, Exit.thenS]
  refine wpS_of_wp ?_
  go_wp2
  cases c₀
  simp_all [bodyPostS, results, Tryz.results60]
/-- Save's closure, deferred of a frame that returns no error. -/
theorem saved_idle (p q : Addr) (w : World) (hp : w.cell? p = some (.int .i64 0)) :
    CallsD Tryz.prog 154 #[.pointer (some p), .pointer (some q)] .returning w fun e u' w' => u' = .returning ∧ (e = .returned (.tuple #[]) ∧ w = w') := by
  refine callsD_of_wp (R := fun e w' => e = .returned (.tuple #[]) ∧ w = w') Tryz.func154 rfl ?_
  simp only [Tryz.ntmps154]
  go_wp2
  exact bodyPost_end (results_none rfl _ _ _) rfl ⟨rfl, rfl⟩
theorem Few.pos {nw : Bool} {m : Nat} {L : List Oct} (h : Few nw m L) (h0 : 0 < L.length) : nw = true ∨ 0 < m := by
  cases nw with
  | true => exact .inl rfl
  | false =>
    rcases Nat.eq_zero_or_pos m with e | e
    · have := h.2.2 rfl e
      rw [this] at h0
      cases h0
    · exact .inr e
/-- The world of Save. -/
structure Sv (w w1 : World) (g : Nat) (key turn : Array Value) : Prop where
  a : Cells w1 w.heap.size key 23
  b : Cells w1 (w.heap.size + 1) turn 123
  c : Cells w1 (w.heap.size + 1 + 1) #[.int .i64 0] 3
  d : Cells w1 (w.heap.size + 1 + 1 + 1) #[.int .i64 0] 29
  z : w.heap.size + 4 ≤ w1.heap.size
  k : But g w.heap.size w w1
abbrev svW (w : World) (key turn : Array Value) : World := (((w.alloc (.cells key 23)).alloc (.cells turn 123)).alloc (.cells #[.int .i64 0] 3)).alloc (.cells #[.int .i64 0] 29)
theorem Sv.start (w : World) (g : Nat) (key turn : Array Value) : Sv w (svW w key turn) g key turn := by
  have kA := Keeps.alloc w (.cells key 23)
  have kB := Keeps.alloc (w.alloc (.cells key 23)) (.cells turn 123)
  have kC := Keeps.alloc ((w.alloc (.cells key 23)).alloc (.cells turn 123)) (.cells #[.int .i64 0] 3)
  have kD := Keeps.alloc (((w.alloc (.cells key 23)).alloc (.cells turn 123)).alloc (.cells #[.int .i64 0] 3)) (.cells #[.int .i64 0] 29)
  have s1 : (w.alloc (.cells key 23)).heap.size = w.heap.size + 1 := by simp
  have s2 : ((w.alloc (.cells key 23)).alloc (.cells turn 123)).heap.size = w.heap.size + 1 + 1 := by simp
  have s3 : (((w.alloc (.cells key 23)).alloc (.cells turn 123)).alloc (.cells #[.int .i64 0] 3)).heap.size = w.heap.size + 1 + 1 + 1 := by simp
  have nA : Cells (w.alloc (.cells key 23)) w.heap.size key 23 := heap_new w key 23
  have nB : Cells ((w.alloc (.cells key 23)).alloc (.cells turn 123)) (w.heap.size + 1) turn 123 := by rw [← s1]; exact heap_new _ turn 123
  have nC : Cells (((w.alloc (.cells key 23)).alloc (.cells turn 123)).alloc (.cells #[.int .i64 0] 3)) (w.heap.size + 1 + 1) #[.int .i64 0] 3 := by rw [← s2]; exact heap_new _ _ 3
  have nD : Cells (svW w key turn) (w.heap.size + 1 + 1 + 1) #[.int .i64 0] 29 := by rw [← s3]; exact heap_new _ _ 29
  have k := ((kA.trans kB kA.1).trans kC (kA.trans kB kA.1).1).trans kD ((kA.trans kB kA.1).trans kC (kA.trans kB kA.1).1).1
  exact ⟨((nA.keeps kB).keeps kC).keeps kD, (nB.keeps kC).keeps kD, nC.keeps kD, nD, by simp, ⟨k.1, fun i hi _ => k.2 i hi, k.3⟩⟩
theorem Sv.later {w w1 w2 : World} {g : Nat} {key turn : Array Value} (h : Sv w w1 g key turn) (hg : g < w.heap.size) (q : But g w1.heap.size w1 w2) : Sv w w2 g key turn := by
  have hz := h.z
  exact ⟨(q.2 _ (by omega) (by omega)).trans h.a, (q.2 _ (by omega) (by omega)).trans h.b, (q.2 _ (by omega) (by omega)).trans h.c, (q.2 _ (by omega) (by omega)).trans h.d, Nat.le_trans hz q.1, h.k.trans q (by omega)⟩
theorem Sv.keeps {w w1 w2 : World} {g : Nat} {key turn : Array Value} (h : Sv w w1 g key turn) (q : Keeps w1.heap.size w1 w2) : Sv w w2 g key turn := by
  have hz := h.z
  exact ⟨h.a.keeps q, h.b.keeps q, h.c.keeps q, h.d.keeps q, Nat.le_trans hz q.1, h.k.keeps q (by omega)⟩
theorem svW_keeps (w : World) (key turn : Array Value) : Keeps w.heap.size w (svW w key turn) := by
  have kA := Keeps.alloc w (.cells key 23)
  have kB := Keeps.alloc (w.alloc (.cells key 23)) (.cells turn 123)
  have kC := Keeps.alloc ((w.alloc (.cells key 23)).alloc (.cells turn 123)) (.cells #[.int .i64 0] 3)
  have kD := Keeps.alloc (((w.alloc (.cells key 23)).alloc (.cells turn 123)).alloc (.cells #[.int .i64 0] 3)) (.cells #[.int .i64 0] 29)
  exact ((kA.trans kB kA.1).trans kC (kA.trans kB kA.1).1).trans kD ((kA.trans kB kA.1).trans kC (kA.trans kB kA.1).1).1
theorem EntsAt.keeps {w w1 : World} {A : Option Addr} {m : Nat} (h : EntsAt w A m) (k : Keeps w.heap.size w w1) : EntsAt w1 A m := fun i hi => by
  obtain ⟨b, o, t, kk, u, h1, h2, h3, h4, h5⟩ := h i hi
  refine ⟨b, o, t, kk, u, h1, range_keeps h2 h4 k, h3, Nat.lt_of_lt_of_le h4 k.1, h5.imp id fun ⟨s, l, g1, g2, g3⟩ => ⟨s, l, g1.stable fun j hj => k.2 j (g3 j hj), g2, fun j hj => Nat.lt_of_lt_of_le (g3 j hj) k.1⟩⟩
theorem results_save {w : World} {tmps : Array Value} {p q : Nat} (h1 : tmps.getD 8 undef = .pointer (some ⟨p, 0, none⟩)) (h2 : tmps.getD 9 undef = .pointer (some ⟨q, 0, none⟩)) (hp : w.cell? ⟨p, 0, none⟩ = some (.int .i64 0)) (hq : w.cell? ⟨q, 0, none⟩ = some (.int .i64 0)) :
    (results Tryz.f94 tmps).run Tryz.prog w = .ok (.tuple #[.int .i64 0, .int .i64 0]) w := by
  have u3 : Tryz.prog.underlying 3 = some (.int .i64) := by kernel_rfl
  have u29 : Tryz.prog.underlying 29 = some (.int .i64) := by kernel_rfl
  rw [Array.getD_eq_getD_getElem?] at h1 h2
  simp [results, Tryz.results94, h1, h2, asAddr, loadVar, run_underlying u3, run_underlying u29, hp, hq]
theorem save_leaves {R : Ending → World → Prop} {tmps : Array Value} {w9 : World} {p q : Nat} (h8 : tmps.getD 8 undef = .pointer (some ⟨p, 0, none⟩)) (h9 : tmps.getD 9 undef = .pointer (some ⟨q, 0, none⟩)) (hp : w9.cell? ⟨p, 0, none⟩ = some (.int .i64 0)) (hq : w9.cell? ⟨q, 0, none⟩ = some (.int .i64 0)) (hR : R (.returned (.tuple #[.int .i64 0, .int .i64 0])) w9) :
    Leaves Tryz.prog Tryz.f94 tmps R [{ target := .fn (.func 60) #[], args := #[.pointer (some ⟨q, 0, none⟩)] }, { target := .fn (.func 154) #[.pointer (some ⟨q, 0, none⟩), .pointer (some ⟨p, 0, none⟩)], args := #[] }] .returning w9 := by
  refine leaves_cons (f := 60) (args := #[.pointer (some ⟨q, 0, none⟩)]) (by simp) (by simp [go_sem]) ?_
  refine (caught_idle ⟨q, 0, none⟩ _).mono ?_
  rintro e u' w'' ⟨rfl, rfl, rfl⟩
  refine leaves_cons (f := 154) (args := #[.pointer (some ⟨q, 0, none⟩), .pointer (some ⟨p, 0, none⟩)]) (by simp [settle]) (by simp [go_sem]) ?_
  refine (saved_idle ⟨q, 0, none⟩ ⟨p, 0, none⟩ _ hq).mono ?_
  rintro e u' w'' ⟨rfl, rfl, rfl⟩
  exact ⟨_, results_save h8 h9 hp hq, hR⟩
abbrev svE (w w3 : World) : World := (w3.setCell ⟨w.heap.size + 1 + 1, 0, none⟩ (.int .i64 0)).setCell ⟨w.heap.size + 1 + 1 + 1, 0, none⟩ (.int .i64 0)
theorem svE_old {w w3 : World} (i : Nat) (h1 : i ≠ w.heap.size + 1 + 1) (h2 : i ≠ w.heap.size + 1 + 1 + 1) : (svE w w3).heap[i]? = w3.heap[i]? :=
  (Below.heap_setCell _ ⟨w.heap.size + 1 + 1 + 1, 0, none⟩ _ i h2).trans (Below.heap_setCell w3 ⟨w.heap.size + 1 + 1, 0, none⟩ _ i h1)
theorem Sv.stored {w w3 : World} {g : Nat} {key turn : Array Value} (h : Sv w w3 g key turn) : (svE w w3).cell? ⟨w.heap.size + 1 + 1, 0, none⟩ = some (.int .i64 0) ∧ (svE w w3).cell? ⟨w.heap.size + 1 + 1 + 1, 0, none⟩ = some (.int .i64 0) := by
  have h1 : Cells (w3.setCell ⟨w.heap.size + 1 + 1, 0, none⟩ (.int .i64 0)) (w.heap.size + 1 + 1) #[.int .i64 0] 3 := h.c.set 0 _
  have h2 : Cells (w3.setCell ⟨w.heap.size + 1 + 1, 0, none⟩ (.int .i64 0)) (w.heap.size + 1 + 1 + 1) #[.int .i64 0] 29 := (Below.heap_setCell w3 ⟨w.heap.size + 1 + 1, 0, none⟩ _ _ (by show w.heap.size + 1 + 1 + 1 ≠ w.heap.size + 1 + 1; omega)).trans h.d
  have h3 : Cells (svE w w3) (w.heap.size + 1 + 1 + 1) #[.int .i64 0] 29 := h2.set 0 _
  have h4 : Cells (svE w w3) (w.heap.size + 1 + 1) #[.int .i64 0] 3 := (Below.heap_setCell _ ⟨w.heap.size + 1 + 1 + 1, 0, none⟩ _ _ (by show w.heap.size + 1 + 1 ≠ w.heap.size + 1 + 1 + 1; omega)).trans h1
  exact ⟨h4.cell 0, h3.cell 0⟩
theorem svE_but {w w3 : World} {g : Nat} (k : But g w.heap.size w w3) : But g w.heap.size w (svE w w3) :=
  ⟨by simpa using k.1, fun i hi hg => (svE_old i (by omega) (by omega)).trans (k.2 i hi hg), k.3.trans ⟨rfl, rfl⟩⟩
set_option maxHeartbeats 1000000 in
theorem save94 (C : Ciph) {w : World} (hT : Laid w) {g : Nat} {st : Int} {ext : List Value} {now sure : Value} {s : Nat → Prop} {l : List Oct} {ku : Value} {a b c m cap : Nat} {nw : Bool} {x f1 f2 y : Value} {A : Option Addr} (hg : Cells w g (dskC now sure nilV st ext) 70) (hst : 0 ≤ st) (hn : RowB now s l w) (hns : ¬ s g) (hnl : ∀ i, s i → i < w.heap.size)
    (ha : a ≤ 3) (hb : b ≤ 3) (hc : 0 < m → c + m ≤ 40) (hbd : nw = true ∨ 0 < m → st < 1000000 ∧ l.length ≤ 1000000) (hE : EntsAt w A m) (hcap : m ≤ cap) :
    Calls Tryz.prog 94 #[.pointer (some ⟨g, 0, none⟩), ku, .int .i64 0, .agg (turnC a b c nw x f1 f2 (.slice A m cap) y)] w fun e w' => e = .returned (.tuple #[.int .i64 0, .int .i64 0]) ∧
      ((nw = false ∧ m = 0 → Keeps w.heap.size w w') ∧ (nw = true ∨ 0 < m → ∃ now' L, 0 < L.length ∧ L.length ≤ 1000 * (m + 1) ∧ Cells w' g (dskC now' now' nilV (st + 2) ext) 70 ∧ Owns w' w.heap.size now' (l ++ L) ∧ But g w.heap.size w w')) := by
  have hmf : ∀ (fn : Fn) (first cap : Array Value) (w : World), (Instr.makeFunc fn first cap).run Tryz.prog w = .ok (.func fn first cap) w := fun _ _ _ _ => rfl
  have hS := Sv.start w g ku.cells (turnC a b c nw x f1 f2 (.slice A m cap) y)
  have kS := svW_keeps w ku.cells (turnC a b c nw x f1 f2 (.slice A m cap) y)
  have hT0 := hT.keeps kS.2
  have hE0 := hE.keeps kS
  have hgw := hg.lt
  replace hE0 := Lib.hid hE0
  have hm40 : m ≤ 40 := by
    rcases Nat.eq_zero_or_pos m with e | e
    · omega
    · have := hc e; omega
  replace hm40 := Lib.hid hm40
  replace hbd := Lib.hid hbd
  replace hc := Lib.hid hc
  clear hE
  go_enter_defers Tryz.func94, Tryz.ntmps94
  go_wp2_with (first
    | (go_at_call 155; refine (records155 C hT0 ha hb hc.out hE0.out hcap).mono ?_; rintro e w1 ⟨v, L, rfl, o1, hF, k1⟩; obtain ⟨Av, cv, rfl⟩ := o1.slice; have hS1 := hS.keeps k1; have kq := kS.trans k1 kS.1; have hz1 := k1.1; have q8 := hS1.c.cell 0; have q9 := hS1.d.cell 0; have q3 := hS1.b.cell 3; have f8 := hS1.c.frozen 0; have f9 := hS1.d.frozen 0; simp only [List.getElem?_toArray, List.getElem?_cons_zero, List.getElem?_cons_succ] at q8 q9 q3; have hF1 := Lib.hid hF.1; have hg1 := hg.keeps kq; have hn1 := hn.stable fun j hj => kq.2 j (hnl j hj); have hu1 := o1.rowB; clear hS o1)
    | (go_at_call 156; have h0 : 0 < L.length := (by omega); obtain ⟨hst2, hl⟩ := hbd.out (hF.pos h0); have hlk : l.length + L.length ≤ 1048576 := (by have := hF1.out; have := hm40.out; omega); refine (append156 hg1 hst (by omega) hn1 hns (fun j hj => Nat.lt_of_lt_of_le (hnl j hj) kq.1) hu1 (fun h => absurd h.1 (Nat.not_le.2 (Nat.lt_of_lt_of_le hgw kS.1))) (fun _ h => h.2) hlk h0).mono ?_; rintro e w2 ⟨now', since', rfl, g2, o2, b2⟩; have hS2 := hS1.later hgw b2; replace o2 := Lib.hid o2; replace h0 := Lib.hid h0)
    | (go_at_call 63; refine (must63 _).mono ?_; rintro e w0 ⟨rfl, rfl⟩)
    | (go_at_call 66; refine (sync66 g2 (by omega) (by omega) o2.out (Nat.lt_of_lt_of_le hgw kq.1)).mono ?_; rintro e w3 ⟨rfl, g3, o3, b3⟩; have hS3 := hS2.later hgw b3; have q8 := hS3.c.cell 0; have q9 := hS3.d.cell 0; have f8 := hS3.c.frozen 0; have f9 := hS3.d.frozen 0; simp only [List.getElem?_toArray, List.getElem?_cons_zero, List.getElem?_cons_succ] at q8 q9; replace o3 := Lib.hid o3))
  · have hgb : g < w1.heap.size := Nat.lt_of_lt_of_le hgw kq.1
    have hz := hS1.z
    refine save_leaves (w9 := svE w w3) rfl rfl hS3.stored.1 hS3.stored.2 ⟨rfl, fun h => ?_, fun _ => ⟨now', L, h0.out, hF.1, (svE_old g (by omega) (by omega)).trans ?_, owns_base kq.1 (owns_set (owns_set o3.out (by omega)) (by omega)), svE_but hS3.k⟩⟩
    · have := hF.2.2 h.1 h.2
      have := h0.out
      simp_all
    · have e2 : st + 1 + 1 = st + 2 := by omega
      rw [e2] at g3
      exact g3
  · refine save_leaves (w9 := svE w w1) rfl rfl hS1.stored.1 hS1.stored.2 ⟨rfl, fun h => ⟨by simpa using kq.1, fun i hi => (svE_old i (by omega) (by omega)).trans (kq.2 i hi), kq.3.trans ⟨rfl, rfl⟩⟩, fun h => ?_⟩
    have := hF.2.1 h
    omega
end Go.Proofs.YtlpbbihjnmikkaaGreatDoor.Exe

namespace Go.Proofs.YtlpbbihjnmikkaaGreatDoor.Exe
set_option linter.unusedSimpArgs false
set_option linter.unusedVariables false
set_option maxRecDepth 100000
open Go.RowKit

theorem flat_eq {ν : Nu} {v u : Value} (h : RepC ν (.flat v) u) : u = v := by cases h; rfl
theorem bool_eq {ν : Nu} {b : Bool} {u : Value} (h : RepC ν (.bool b) u) : u = .bool b := by cases h; rfl
theorem nat_eq {ν : Nu} {n : Nat} {u : Value} (h : RepC ν (.nat n) u) : u = .int .i64 n ∧ n < 9223372036854775808 := by cases h; exact ⟨rfl, by assumption⟩
theorem isDisk_ok {ν : Nu} {cs : List Cell} {l : List Value} {a : Cell} {st : Nat} (hd : isDisk cs = some (a, st)) (hr : RepL ν cs l) : ∃ now sure, RepC ν a now ∧ l = [now, sure, nilV, nilV, nilV, nilV, nilV, nilV, nilV, nilV, nilV, nilV, .bool false, .bool false, .int .i64 0, .int .i64 st] ∧ st < 9223372036854775808 := by
  unfold isDisk at hd
  split at hd
  · split at hd
    · rename_i hb
      cases hd
      simp only [Bool.and_eq_true] at hb
      obtain ⟨⟨⟨⟨⟨⟨⟨⟨⟨b2, b3⟩, b4⟩, b5⟩, b6⟩, b7⟩, b8⟩, b9⟩, b10⟩, b11⟩ := hb
      obtain rfl := isNilRow_eq b2
      obtain rfl := isNilRow_eq b3
      obtain rfl := isNilRow_eq b4
      obtain rfl := isNilRow_eq b5
      obtain rfl := isNilRow_eq b6
      obtain rfl := isNilRow_eq b7
      obtain rfl := isNilRow_eq b8
      obtain rfl := isNilRow_eq b9
      obtain rfl := isNilRow_eq b10
      obtain rfl := isNilRow_eq b11
      cases hr with | cons h0 hr => cases hr with | cons h1 hr => cases hr with | cons h2 hr => cases hr with | cons h3 hr => cases hr with | cons h4 hr => cases hr with | cons h5 hr => cases hr with | cons h6 hr => cases hr with | cons h7 hr => cases hr with | cons h8 hr => cases hr with | cons h9 hr => cases hr with | cons h10 hr => cases hr with | cons h11 hr => cases hr with | cons h12 hr => cases hr with | cons h13 hr => cases hr with | cons h14 hr => cases hr with | cons h15 hr =>
        cases hr
        obtain rfl := flat_eq h2
        obtain rfl := flat_eq h3
        obtain rfl := flat_eq h4
        obtain rfl := flat_eq h5
        obtain rfl := flat_eq h6
        obtain rfl := flat_eq h7
        obtain rfl := flat_eq h8
        obtain rfl := flat_eq h9
        obtain rfl := flat_eq h10
        obtain rfl := flat_eq h11
        obtain rfl := bool_eq h12
        obtain rfl := bool_eq h13
        obtain ⟨rfl, _⟩ := nat_eq h14
        obtain ⟨rfl, h⟩ := nat_eq h15
        exact ⟨_, _, h0, rfl, h⟩
    · cases hd
  · cases hd
section
variable {P : Program} {C : Ciph} {ν : Nu} {h : Heap D} {W : World}
/-- A disk: its block, its first file's row. -/
theorem withDisk_ok {α : Type} {sl : Slot} {u : Value} {f : Nat → Cell → Nat → Nat → M D α} {nx r w : Nat} {x : α} {h' : Heap D} {nx' r' w' : Nat} (he : withDisk sl f h nx r w = .ok x h' nx' r' w') (hok : Ok P (lore C) ν h W) (hs : RepS ν sl u) :
    ∃ k a n st r1 w1 g room now sure ext cs, f k a n st h nx r1 w1 = .ok x h' nx' r' w' ∧ u = .pointer (some ⟨g, 0, none⟩) ∧ h.at k = some (.cells 16 cs 70) ∧ ν k = some (.blk g room) ∧ Cells W g (dskC now sure nilV (st : Int) ext) 70 ∧
      (room ≠ 0 → ∃ i, P.info? 70 = some i ∧ (dskC now sure nilV (st : Int) ext).size = room * i.size) ∧ RepC ν a now ∧ ∃ s l, RowB now s l W ∧ l.length ≤ n ∧ ¬ s g ∧ ∀ i, s i → i < W.heap.size := by
  unfold withDisk at he
  split at he
  · rename_i k
    unfold Exe.rdC at he
    obtain ⟨t, h1, n1, r1, w1, e1, e2⟩ := bind_ok he
    obtain ⟨hk, rfl, rfl, rfl, rfl⟩ := rd_ok e1
    cases t with
    | cells q cs e =>
      obtain ⟨hq, e3⟩ := chk_ok e2
      simp only [Bool.and_eq_true] at hq
      have q1 := Nat.eq_of_beq_eq_true hq.1
      have q2 := Nat.eq_of_beq_eq_true hq.2
      subst q1 q2
      cases hd : isDisk cs with
      | none => rw [hd] at e3; cases e3
      | some p =>
        obtain ⟨a, st⟩ := p
        rw [hd] at e3
        have e3 : diskRow a (fun n => f k a n st) _ _ _ _ = .ok x h' nx' r' w' := e3
        cases hs with
        | one hs =>
          cases hs with
          | @ptr _ _ g room hν =>
            obtain ⟨s, hs, ht⟩ := hok.thing k _ hk
            rw [hν] at hs
            cases hs
            obtain ⟨c, g1, g2, g3, g4⟩ := ht
            obtain ⟨now, sure, ha, hl, hst⟩ := isDisk_ok hd g2
            have hc : c = dskC now sure nilV (st : Int) (c.toList.drop 16) := by
              rw [← Array.toList_inj]
              rw [← List.take_append_drop 16 c.toList, hl]
              simp
            rw [hc] at g1 g4
            have key : ∃ n r2 w2, f k a n st h1 n1 r2 w2 = .ok x h' nx' r' w' ∧ ∃ s l, RowB now s l W ∧ l.length ≤ n ∧ ¬ s g ∧ ∀ i, s i → i < W.heap.size := by
              unfold diskRow at e3
              split at e3
              · obtain ⟨hb, e4⟩ := chk_ok e3
                obtain rfl := isNilRow_eq hb
                obtain rfl := flat_eq ha
                exact ⟨0, _, _, e4, fun _ => False, [], .inl ⟨rfl, rfl⟩, Nat.le_refl _, fun h => h, fun _ h => h.elim⟩
              · rename_i k' _
                unfold Exe.rdD at e3
                obtain ⟨t, h2, n2, r2, w2, e5, e6⟩ := bind_ok e3
                obtain ⟨hk', rfl, rfl, rfl, rfl⟩ := rd_ok e5
                cases t with
                | data d =>
                  cases ha with
                  | @tok _ v o s hν' hone =>
                    obtain ⟨s', hs', ht'⟩ := hok.thing k' _ hk'
                    rw [hν'] at hs'
                    cases hs'
                    cases d with
                    | disk n =>
                      obtain ⟨t1, t2, l, t3, t4⟩ := ht'
                      have hne : k ≠ k' := fun e => by rw [e, hk'] at hk; cases hk
                      exact ⟨n, _, _, e6, s, l, t4, t3, (hok.apart k k' _ _ _ _ hne hk hk' hν hν' g rfl).2, t2⟩
                    | _ => cases e6
                | cells _ _ _ => cases e6
                | map _ _ => cases e6
                | fn _ _ _ => cases e6
              · cases e3
            obtain ⟨n, r2, w2, e4, hrow⟩ := key
            exact ⟨k, a, n, st, r2, w2, g, room, now, sure, _, cs, e4, rfl, hk, hν, g1, g4, ha, hrow⟩
    | map _ _ => cases e2
    | fn _ _ _ => cases e2
    | data _ => cases e2
  · cases he
end
end Go.Proofs.YtlpbbihjnmikkaaGreatDoor.Exe
