/-
  Joined: GcmH, GcmI, GcmJ
-/
import Derived.Test.YtlpbbihjnmikkaaGreatDoorJ34
namespace Go.Proofs.YtlpbbihjnmikkaaGreatDoor.Exe
set_option linter.unusedSimpArgs false
set_option linter.unusedVariables false
set_option maxRecDepth 100000
open Go.RowKit

set_option maxHeartbeats 4000000 in
theorem xor196z (C : Ciph) {w : World} {u : Value} {k n l : List Oct} (hT : Laid w) (hk : k.length = 32) (hn : n.length = 12) (hu : Src u l w) (hl : l.length ≤ 4096) (hl0 : l = []) :
    Calls Tryz.prog 196 #[.agg (octs k).toArray, .agg (octs n).toArray, .int .u32 2, u] w fun e w' => ∃ v, e = .returned v ∧ Owns w' w.heap.size v (xorG (expO k) n l) ∧ Keeps w.heap.size w w' := by
  replace hl0 := Lib.hid hl0
  obtain ⟨A, c, rfl⟩ := hu.slice
  have hA := heap_new w (octs k).toArray 23
  have kB := Keeps.alloc (w.alloc (.cells (octs k).toArray 23)) (.cells (octs n).toArray 240)
  have hA2 : Cells ((w.alloc (.cells (octs k).toArray 23)).alloc (.cells (octs n).toArray 240)) w.heap.size (octs k).toArray 23 := Cells.keeps hA kB
  clear hA kB
  have hK240 := expO_len k
  have hC16 := ctrTo_len hn 0
  go_enter Tryz.func196, Tryz.ntmps196
  go_wp2_with (first
    | (with_reducible refine wpList_loadA 23 rfl Tryz.underlying23 rfl (.tmp 4) rfl rfl hA2 (info23 hk) ?_)
    | (go_at_call 247; (with_reducible refine (expand247 hk _).mono ?_); rintro e w1 ⟨rfl, k3⟩; have hz1 : Cells (w1.alloc (.cells Tryz.zeroCells348 348)) w1.heap.size Tryz.zeroCells348 348 := heap_new w1 Tryz.zeroCells348 348)
    | (with_reducible refine wpList_storeA 348 rfl (.tmp 9) (.tmp 17) rfl rfl rfl hz1 (info348o hK240) (z348o hK240) (octs_all _) ?_; intro w2 hc2 hz2 hb2; have hX2 := Xa.made (n := n) k3 hc2 hz2 hb2; clear hz1 hc2 hz2 hb2 k3; generalize w1.heap.size = ga at hX2 ⊢; have hs2 := hu.later hX2.s.1 hX2.s.2)
    | (go_at_call 8; (with_reducible refine (clone8_src hs2 hl).mono ?_); rintro e w3 ⟨v3, rfl, o3, k3⟩; have hX3 := hX2.later k3; have hT3 := hT.keeps hX3.s.2; obtain ⟨A3, c3, rfl⟩ := o3.slice)
    | (with_reducible refine wpList_loadA 240 rfl Tryz.underlying240 rfl (.tmp 5) rfl rfl hX3.b (info240 hn) ?_)
    | (go_at_call 248; (with_reducible refine (counter2 C hT3 hn).mono ?_); rintro e w4 ⟨rfl, k4⟩; have hX4 := hX3.later k4; have o4 := o3.keeps k4; have hz4 : Cells (w4.alloc (.cells z16 310)) w4.heap.size z16 310 := heap_new w4 z16 310)
    | (with_reducible refine wpList_storeA 310 rfl (.tmp 11) (.tmp 22) rfl rfl rfl hz4 (info310 hC16) (z16o hC16) (octs_all _) ?_; intro w5 hc5 hz5 hb5; have k5 := Keeps.allocStore _ hz5 hb5; have hX5 := hX4.later k5; have o5 := o4.keeps k5; have hl2 := hX2.s.1; clear hz4 hc5 hz5 hb5 hX2 hX3 hX4 o3 o4 k3 k4 k5 hT3 hs2 hA2))
  have hl0 := hl0.out
  subst hl0
  refine wp_loop_turns 1 ?_
  unfold turns
  go_wp2_with fail
  go_ret
  exact ⟨_, rfl, owns_base hl2 o5, hX5.s⟩
theorem xor196 (C : Ciph) {w : World} {u : Value} {k n l : List Oct} (hT : Laid w) (hk : k.length = 32) (hn : n.length = 12) (hu : Src u l w) (hl : l.length ≤ 4096) :
    Calls Tryz.prog 196 #[.agg (octs k).toArray, .agg (octs n).toArray, .int .u32 2, u] w fun e w' => ∃ v, e = .returned v ∧ Owns w' w.heap.size v (xorG (expO k) n l) ∧ Keeps w.heap.size w w' := by
  by_cases h : l = []
  · exact xor196z C hT hk hn hu hl h
  · exact xor196n C hT hk hn hu hl (List.length_pos_iff.2 h)
end Go.Proofs.YtlpbbihjnmikkaaGreatDoor.Exe

namespace Go.Proofs.YtlpbbihjnmikkaaGreatDoor.Exe
set_option linter.unusedSimpArgs false
set_option linter.unusedVariables false
set_option maxRecDepth 100000
open Go.RowKit

/-- One byte laid behind a row, where a block beside it stays. -/
theorem wpList_byteL {ops : Array Oper} {rest : List Oper} {op : Oper} {a : Act} {w : World} {Q : Exit → Act → World → Prop} (hgd : op.guard = none) (s x : Operand) (ho : op.op = .call { callee := .builtin .append, args := #[s, x], argTypes := #[24, 24] })
    {base gl : Nat} {v : Value} {l : List Oct} (y : Oct) {n : Int} (hy : n = y.toNat) (hown : Owns w base v l) (hn : l.length ≤ 8192) (hbase : base ≤ w.heap.size) (hg : v.ownBlock ≠ some gl) (hgl : gl < w.heap.size) (hs : a.eval s = v) (hx : a.eval x = .slice (some ⟨w.heap.size, 0, none⟩) 1 1)
    (h : ∀ v' w', Owns w' base v' (l ++ [y]) → Keeps base w w' → v'.ownBlock ≠ some gl → w'.heap[gl]? = w.heap[gl]? → wpList Tryz.prog ops Q rest (a.put op.dst v') w') : wpList Tryz.prog ops Q (op :: rest) a (w.alloc (.cells #[.int .u8 n] 5)) := by
  subst hy
  have hl1 : (w.alloc (.cells #[.int .u8 (y.toNat : Int)] 5)).heap.size = w.heap.size + 1 := by simp
  refine wpList_plain hgd fun K hK => ?_
  obtain ⟨i, hi, hz, hsz, hby⟩ := info5
  obtain ⟨v', w', hrun, h2, h3, _, h5⟩ := run_append_own_at (P := Tryz.prog) (w := w.alloc (.cells #[.int .u8 (y.toNat : Int)] 5)) base 24 op.type 5 i _ 1 1 Tryz.underlying24 hi hz hsz hby rfl (by decide) v l.length (octs l) (owns_alloc hown _) ⟨w.heap.size, 0, none⟩ 1 1 [.int .u8 (y.toNat : Int)] rfl
    (fun j u hj => by
      have : j = 0 := by
        rcases j with _ | j
        · rfl
        · simp at hj
      subst this
      cases hj
      exact cell_alloc 5 _)
    (fun u hu => by
      have := List.mem_singleton.1 hu
      subst this
      rfl) (by simp only [maxLen]; omega) (by omega) (le_alloc hbase _)
  unfold Oper.wp execOp
  simp only [ho, resolve, invoke, builtin, Sem.run_bind, Sem.run_pure, Result.andThen_ok, List.map_toArray, List.map_cons, List.map_nil, hs, hx]
  rw [hrun]
  have hb : ∀ k : Nat, k < w.heap.size → some k ≠ v.ownBlock → w'.heap[k]? = w.heap[k]? := fun k hk hne => (h3.block k (by omega) hne).trans (heap_alloc_old _ hk)
  refine hK _ _ (h v' w' (owns_of h2 (by simp) (by simp [octs])) ⟨by have := h3.size; omega, fun k hk => hb k (by omega) fun e => ?_, Calm.trans (Calm.alloc (Calm.refl w) _) ⟨h3.os, h3.output⟩⟩ ?_ (hb gl hgl (Ne.symm hg)))
  · rcases hown.2 with ⟨rfl, _⟩ | ⟨g, cap, cur, rfl, hbg, _⟩
    · cases e
    · have e : k = g := by simpa [Value.ownBlock] using e
      omega
  · rcases h5 with e | e
    · rw [e]; exact hg
    · rw [e, hl1]
      intro e
      cases e
      omega
/-- The world of gcm.Tag: the arguments' blocks, the answer's, the key's blocks. -/
structure Ta (w w' : World) (ga : Nat) (kk nn K : List Oct) : Prop where
  s : Keeps w.heap.size w w'
  a : Cells w' w.heap.size (octs kk).toArray 23
  b : Cells w' (w.heap.size + 1) (octs nn).toArray 240
  r : Cells w' (w.heap.size + 2) z16 310
  c : Cells w' ga (octs K).toArray 348
  l : w.heap.size + 3 ≤ ga
theorem Ta.keepsB {w w1 w2 : World} {ga B : Nat} {kk nn K : List Oct} (h : Ta w w1 ga kk nn K) (hB : ga < B) (q : Keeps B w1 w2) : Ta w w2 ga kk nn K :=
  ⟨h.s.trans q (by have := h.l; omega), (q.2 _ (by have := h.l; omega)).trans h.a, (q.2 _ (by have := h.l; omega)).trans h.b, (q.2 _ (by have := h.l; omega)).trans h.r, (q.2 _ hB).trans h.c, h.l⟩
theorem Ta.later {w w1 w2 : World} {ga : Nat} {kk nn K : List Oct} (h : Ta w w1 ga kk nn K) (q : Keeps w1.heap.size w1 w2) : Ta w w2 ga kk nn K := h.keepsB h.c.lt q
/-- The world ahead of the key's blocks. -/
structure T0 (w w' : World) (kk nn : List Oct) : Prop where
  s : Keeps w.heap.size w w'
  a : Cells w' w.heap.size (octs kk).toArray 23
  b : Cells w' (w.heap.size + 1) (octs nn).toArray 240
  r : Cells w' (w.heap.size + 2) z16 310
theorem T0.start (w : World) (kk nn : List Oct) : T0 w (((w.alloc (.cells (octs kk).toArray 23)).alloc (.cells (octs nn).toArray 240)).alloc (.cells z16 310)) kk nn := by
  have s1 : (w.alloc (.cells (octs kk).toArray 23)).heap.size = w.heap.size + 1 := by simp
  have s2 : ((w.alloc (.cells (octs kk).toArray 23)).alloc (.cells (octs nn).toArray 240)).heap.size = w.heap.size + 2 := by simp
  have kA := Keeps.alloc w (.cells (octs kk).toArray 23)
  have kB := Keeps.alloc (w.alloc (.cells (octs kk).toArray 23)) (.cells (octs nn).toArray 240)
  have kC := Keeps.alloc ((w.alloc (.cells (octs kk).toArray 23)).alloc (.cells (octs nn).toArray 240)) (.cells z16 310)
  refine ⟨(kA.trans kB kA.1).trans kC (by omega), Cells.keeps (Cells.keeps (heap_new w (octs kk).toArray 23) kB) kC, ?_, ?_⟩
  · have := heap_new (w.alloc (.cells (octs kk).toArray 23)) (octs nn).toArray 240
    rw [s1] at this
    exact Cells.keeps this kC
  · have := heap_new ((w.alloc (.cells (octs kk).toArray 23)).alloc (.cells (octs nn).toArray 240)) z16 310
    rw [s2] at this
    exact this
theorem T0.size (w : World) (kk nn : List Oct) : (((w.alloc (.cells (octs kk).toArray 23)).alloc (.cells (octs nn).toArray 240)).alloc (.cells z16 310)).heap.size = w.heap.size + 3 := by simp
theorem T0.later {w w1 w2 : World} {kk nn : List Oct} (h : T0 w w1 kk nn) (q : Keeps w1.heap.size w1 w2) : T0 w w2 kk nn :=
  ⟨h.s.trans q h.s.1, h.a.keeps q, h.b.keeps q, h.r.keeps q⟩
theorem T0.made {w w1 w2 : World} {kk nn K : List Oct} {Z : Array Value} (h : T0 w w1 kk nn) (hl : w.heap.size + 3 ≤ w1.heap.size) (hc : Cells w2 w1.heap.size (octs K).toArray 348) (hz : w2.heap.size = (w1.alloc (.cells Z 348)).heap.size) (hb : Else w1.heap.size (w1.alloc (.cells Z 348)) w2) : Ta w w2 w1.heap.size kk nn K := by
  have h2 := h.later (Keeps.allocStore _ hz hb)
  exact ⟨h2.s, h2.a, h2.b, h2.r, hc, hl⟩
/-- The lengths' row stands beside. -/
structure Tl (w w' : World) (ga B gl : Nat) (kk nn K : List Oct) (x y : Int) (v : Value) (M : List Oct) : Prop where
  t : Ta w w' ga kk nn K
  o : Owns w' B v M
  g : Cells w' gl #[.int .i64 x, .int .i64 y] 3
  ne : v.ownBlock ≠ some gl
  la : ga < B
  lb : B ≤ gl
theorem Tl.app {w w1 w2 : World} {ga B gl : Nat} {kk nn K : List Oct} {x y : Int} {v v' : Value} {M M' : List Oct} (h : Tl w w1 ga B gl kk nn K x y v M) (o : Owns w2 B v' M') (q : Keeps B w1 w2) (n : v'.ownBlock ≠ some gl) (e : w2.heap[gl]? = w1.heap[gl]?) : Tl w w2 ga B gl kk nn K x y v' M' :=
  ⟨h.t.keepsB h.la q, o, e.trans h.g, n, h.la, h.lb⟩
theorem Tl.made {w w1 : World} {ga B : Nat} {kk nn K : List Oct} {x y : Int} {v : Value} {M : List Oct} (h : Ta w w1 ga kk nn K) (o : Owns w1 B v M) (la : ga < B) (hB : B ≤ w1.heap.size) : Tl w (w1.alloc (.cells #[.int .i64 x, .int .i64 y] 3)) ga B w1.heap.size kk nn K x y v M := by
  refine ⟨h.later (Keeps.alloc w1 _), o.keeps (Keeps.alloc w1 _), heap_new w1 _ 3, fun e => ?_, la, hB⟩
  rcases o.2 with ⟨rfl, _⟩ | ⟨g, cap, cur, rfl, _, hg, _⟩
  · cases e
  · cases e
    exact absurd (heap_lt hg) (Nat.lt_irrefl _)
theorem Tl.bs {w w1 : World} {ga B gl : Nat} {kk nn K : List Oct} {x y : Int} {v : Value} {M : List Oct} (h : Tl w w1 ga B gl kk nn K x y v M) : B ≤ w1.heap.size := Nat.le_of_lt (Nat.lt_of_le_of_lt h.lb h.g.lt)
theorem Tl.lenS {w w' : World} {ga B gl : Nat} {kk nn K : List Oct} {x y : Int} {v : Value} {M : List Oct} {z : Oct} {k : Nat} (_ : Tl w w' ga B gl kk nn K x y v (M ++ [z])) (hm : M.length ≤ k) : (M ++ [z]).length ≤ k + 1 := by rw [List.length_append]; simp; omega
end Go.Proofs.YtlpbbihjnmikkaaGreatDoor.Exe

namespace Go.Proofs.YtlpbbihjnmikkaaGreatDoor.Exe
set_option linter.unusedSimpArgs false
set_option linter.unusedVariables false
set_option maxRecDepth 100000
open Go.RowKit

theorem encrypt250z (C : Ciph) {W : World} (hT : Laid W) {K : List Oct} {g : Nat} (hg : Cells W g (octs K).toArray 348) (hK : K.length = 240) :
    Calls Tryz.prog 250 #[.pointer (some ⟨g, 0, none⟩), .agg z16] W fun e W' => e = .returned (.agg (octs (encF K zero16)).toArray) ∧ Keeps W.heap.size W W' := encrypt250 C hT hg hK (b := zero16) rfl
/-- What the end's steps look at. -/
structure Te (w w' : World) (ga B : Nat) (kk nn K : List Oct) (v : Value) (M : List Oct) : Prop where
  t : Ta w w' ga kk nn K
  o : Owns w' B v M
theorem Te.later {w w1 w2 : World} {ga B : Nat} {kk nn K : List Oct} {v : Value} {M : List Oct} (h : Te w w1 ga B kk nn K v M) (q : Keeps w1.heap.size w1 w2) : Te w w2 ga B kk nn K v M := ⟨h.t.later q, h.o.keeps q⟩
theorem dataT_eq {M b s : List Oct} (h : M = pad16 (pad16 b ++ s)) : M ++ [BitVec.ofInt 8 (8 * (b.length : Int) / 72057594037927936)] ++ [BitVec.ofInt 8 (8 * (b.length : Int) / 281474976710656)] ++ [BitVec.ofInt 8 (8 * (b.length : Int) / 1099511627776)] ++ [BitVec.ofInt 8 (8 * (b.length : Int) / 4294967296)] ++ [BitVec.ofInt 8 (8 * (b.length : Int) / 16777216)] ++ [BitVec.ofInt 8 (8 * (b.length : Int) / 65536)] ++ [BitVec.ofInt 8 (8 * (b.length : Int) / 256)] ++ [BitVec.ofInt 8 (8 * (b.length : Int) % 256)] ++ [BitVec.ofInt 8 (8 * (s.length : Int) / 72057594037927936)] ++ [BitVec.ofInt 8 (8 * (s.length : Int) / 281474976710656)] ++ [BitVec.ofInt 8 (8 * (s.length : Int) / 1099511627776)] ++ [BitVec.ofInt 8 (8 * (s.length : Int) / 4294967296)] ++ [BitVec.ofInt 8 (8 * (s.length : Int) / 16777216)] ++ [BitVec.ofInt 8 (8 * (s.length : Int) / 65536)] ++ [BitVec.ofInt 8 (8 * (s.length : Int) / 256)] ++ [BitVec.ofInt 8 (8 * (s.length : Int) % 256)] = dataT b s := by
  subst h
  simp [dataT, lenB]
theorem dataT_len (b s : List Oct) : (dataT b s).length ≤ b.length + s.length + 46 := by
  have h1 := pad16_len b
  have h2 := pad16_len (pad16 b ++ s)
  rw [List.length_append] at h2
  simp [dataT, lenB]
  omega
set_option maxHeartbeats 4000000 in
theorem tag197 (C : Ciph) {w : World} {u v : Value} {kk nn b s : List Oct} (hT : Laid w) (hk : kk.length = 32) (hn : nn.length = 12) (hu : Src u b w) (hv : Src v s w) (hlb : b.length ≤ 1024) (hls : s.length ≤ 1024) :
    Calls Tryz.prog 197 #[.agg (octs kk).toArray, .agg (octs nn).toArray, u, v] w fun e w' => e = .returned (.agg (octs (tagG (expO kk) nn b s)).toArray) ∧ Keeps w.heap.size w w' := by
  obtain ⟨A, c, rfl⟩ := hu.slice
  obtain ⟨A2, c2, rfl⟩ := hv.slice
  have h0 := T0.start w kk nn
  have hs0 := T0.size w kk nn
  have hK240 := expO_len kk
  have hlb4 : b.length ≤ 4096 := by omega
  have hlb8 : b.length ≤ 8192 := by omega
  have hls8 : s.length ≤ 8192 := by omega
  have hp1 := pad16_len b
  have hp8 : (pad16 b).length ≤ 8192 := by omega
  have hp9 : (pad16 b ++ s).length ≤ 8192 := by rw [List.length_append]; omega
  go_enter Tryz.func197, Tryz.ntmps197
  go_wp2_with (first
    | (with_reducible refine wpList_loadA 23 rfl Tryz.underlying23 rfl (.tmp 4) rfl rfl h0.a (info23 hk) ?_)
    | (go_at_call 247; (with_reducible refine (expand247 hk _).mono ?_); rintro e w1 ⟨rfl, k1⟩; have h1 := h0.later k1; have hl1 := k1.1; rw [hs0] at hl1; have hz1 : Cells (w1.alloc (.cells Tryz.zeroCells348 348)) w1.heap.size Tryz.zeroCells348 348 := heap_new w1 Tryz.zeroCells348 348)
    | (with_reducible refine wpList_storeA 348 rfl (.tmp 9) (.tmp 15) rfl rfl rfl hz1 (info348o hK240) (z348o hK240) (octs_all _) ?_; intro w2 hc2 hz2 hb2; have h2 := T0.made h1 hl1 hc2 hz2 hb2; clear hz1 hc2 hz2 hb2 k1 h1 hl1; generalize w1.heap.size = ga at h2 ⊢; have hs2 := hu.later h2.s.1 h2.s.2; have la := h2.c.lt)
    | (go_at_call 8; (with_reducible refine (clone8_src hs2 hlb4).mono ?_); rintro e w3 ⟨v3, rfl, o3, k3⟩; have h3 := h2.later k3; have l3 := k3.1; clear hs2)
    | (go_at_call 251; (with_reducible refine (pad251 o5 hp9 l5).mono ?_); rintro e w6 ⟨v6, rfl, o6, k6⟩; have h6 := h5.keepsB la k6; have l6 := Nat.le_trans l5 k6.1; clear o5 k6)
    | (go_at_call 251; (with_reducible refine (pad251 o3 hlb8 l3).mono ?_); rintro e w4 ⟨v4, rfl, o4, k4⟩; have h4 := h3.keepsB la k4; have l4 := Nat.le_trans l3 k4.1; have hs4 := hv.later h4.s.1 h4.s.2; clear o3 k4)
    | (with_reducible refine wpList_behind (u := .slice A2 s.length c2) rfl (.tmp 19) (.tmp 20) rfl o4 hp8 l4 rfl rfl hs4 hls8 ?_; intro v5 w5 o5 k5; have h5 := h4.keepsB la k5; have l5 := Nat.le_trans l4 k5.1; clear o4 k5 hs4))
  have hS := Tl.made (x := (b.length : Int)) (y := (s.length : Int)) h6 o6 la l6
  generalize w6.alloc (.cells #[.int .i64 (b.length : Int), .int .i64 (s.length : Int)] 3) = w7 at hS ⊢
  generalize w6.heap.size = gl at hS ⊢
  generalize w2.heap.size = B at hS la
  clear h2 h3 h4 h5 h6 o6 l3 l4 l5 l6 k3
  obtain ⟨M0, hM0⟩ : ∃ M, M = pad16 (pad16 b ++ s) := ⟨_, rfl⟩
  rw [← hM0] at hS
  have hm : M0.length ≤ 2100 := by
    have := pad16_len (pad16 b ++ s)
    rw [hM0]
    rw [List.length_append] at this
    omega
  replace hM0 := Lib.hid hM0
  have q0 : _ = _ := hS.g.cell 0
  have q1 : _ = _ := hS.g.cell 1
  simp only [List.getElem?_toArray, List.getElem?_cons_zero, List.getElem?_cons_succ] at q0 q1
  refine wp_loop_turns 3 ?_
  unfold turns
  go_wp2_with fail
  clear q0 q1
  refine wp_loop_turns 9 ?_
  unfold turns
  go_wp2_with (first
    | (with_reducible refine wpList_byteL rfl (.tmp 36) (.tmp 44) rfl _ (oct_of (by omega) (by omega)) hS.o (Nat.le_trans hm (by decide)) hS.bs hS.ne hS.g.lt rfl rfl ?_; intro v8 w8 o8 k8 n8 e8; have hS := hS.app o8 k8 n8 e8; have hm := hS.lenS hm; clear o8 k8 n8 e8))
  unfold turns
  go_wp2_with (first
    | (with_reducible refine wpList_byteL rfl (.tmp 36) (.tmp 44) rfl _ (oct_of (by omega) (by omega)) hS.o (Nat.le_trans hm (by decide)) hS.bs hS.ne hS.g.lt rfl rfl ?_; intro v8 w8 o8 k8 n8 e8; have hS := hS.app o8 k8 n8 e8; have hm := hS.lenS hm; clear o8 k8 n8 e8))
  unfold turns
  go_wp2_with (first
    | (with_reducible refine wpList_byteL rfl (.tmp 36) (.tmp 44) rfl _ (oct_of (by omega) (by omega)) hS.o (Nat.le_trans hm (by decide)) hS.bs hS.ne hS.g.lt rfl rfl ?_; intro v8 w8 o8 k8 n8 e8; have hS := hS.app o8 k8 n8 e8; have hm := hS.lenS hm; clear o8 k8 n8 e8))
  unfold turns
  go_wp2_with (first
    | (with_reducible refine wpList_byteL rfl (.tmp 36) (.tmp 44) rfl _ (oct_of (by omega) (by omega)) hS.o (Nat.le_trans hm (by decide)) hS.bs hS.ne hS.g.lt rfl rfl ?_; intro v8 w8 o8 k8 n8 e8; have hS := hS.app o8 k8 n8 e8; have hm := hS.lenS hm; clear o8 k8 n8 e8))
  unfold turns
  go_wp2_with (first
    | (with_reducible refine wpList_byteL rfl (.tmp 36) (.tmp 44) rfl _ (oct_of (by omega) (by omega)) hS.o (Nat.le_trans hm (by decide)) hS.bs hS.ne hS.g.lt rfl rfl ?_; intro v8 w8 o8 k8 n8 e8; have hS := hS.app o8 k8 n8 e8; have hm := hS.lenS hm; clear o8 k8 n8 e8))
  unfold turns
  go_wp2_with (first
    | (with_reducible refine wpList_byteL rfl (.tmp 36) (.tmp 44) rfl _ (oct_of (by omega) (by omega)) hS.o (Nat.le_trans hm (by decide)) hS.bs hS.ne hS.g.lt rfl rfl ?_; intro v8 w8 o8 k8 n8 e8; have hS := hS.app o8 k8 n8 e8; have hm := hS.lenS hm; clear o8 k8 n8 e8))
  unfold turns
  go_wp2_with (first
    | (with_reducible refine wpList_byteL rfl (.tmp 36) (.tmp 44) rfl _ (oct_of (by omega) (by omega)) hS.o (Nat.le_trans hm (by decide)) hS.bs hS.ne hS.g.lt rfl rfl ?_; intro v8 w8 o8 k8 n8 e8; have hS := hS.app o8 k8 n8 e8; have hm := hS.lenS hm; clear o8 k8 n8 e8))
  unfold turns
  go_wp2_with (first
    | (with_reducible refine wpList_byteL rfl (.tmp 36) (.tmp 44) rfl _ (oct_of (by omega) (by omega)) hS.o (Nat.le_trans hm (by decide)) hS.bs hS.ne hS.g.lt rfl rfl ?_; intro v8 w8 o8 k8 n8 e8; have hS := hS.app o8 k8 n8 e8; have hm := hS.lenS hm; clear o8 k8 n8 e8))
  unfold turns
  go_wp2_with fail
  have q0 : _ = _ := hS.g.cell 0
  have q1 : _ = _ := hS.g.cell 1
  simp only [List.getElem?_toArray, List.getElem?_cons_zero, List.getElem?_cons_succ] at q0 q1
  unfold turns
  go_wp2_with fail
  clear q0 q1
  refine wp_loop_turns 9 ?_
  unfold turns
  go_wp2_with (first
    | (with_reducible refine wpList_byteL rfl (.tmp 36) (.tmp 44) rfl _ (oct_of (by omega) (by omega)) hS.o (Nat.le_trans hm (by decide)) hS.bs hS.ne hS.g.lt rfl rfl ?_; intro v8 w8 o8 k8 n8 e8; have hS := hS.app o8 k8 n8 e8; have hm := hS.lenS hm; clear o8 k8 n8 e8))
  unfold turns
  go_wp2_with (first
    | (with_reducible refine wpList_byteL rfl (.tmp 36) (.tmp 44) rfl _ (oct_of (by omega) (by omega)) hS.o (Nat.le_trans hm (by decide)) hS.bs hS.ne hS.g.lt rfl rfl ?_; intro v8 w8 o8 k8 n8 e8; have hS := hS.app o8 k8 n8 e8; have hm := hS.lenS hm; clear o8 k8 n8 e8))
  unfold turns
  go_wp2_with (first
    | (with_reducible refine wpList_byteL rfl (.tmp 36) (.tmp 44) rfl _ (oct_of (by omega) (by omega)) hS.o (Nat.le_trans hm (by decide)) hS.bs hS.ne hS.g.lt rfl rfl ?_; intro v8 w8 o8 k8 n8 e8; have hS := hS.app o8 k8 n8 e8; have hm := hS.lenS hm; clear o8 k8 n8 e8))
  unfold turns
  go_wp2_with (first
    | (with_reducible refine wpList_byteL rfl (.tmp 36) (.tmp 44) rfl _ (oct_of (by omega) (by omega)) hS.o (Nat.le_trans hm (by decide)) hS.bs hS.ne hS.g.lt rfl rfl ?_; intro v8 w8 o8 k8 n8 e8; have hS := hS.app o8 k8 n8 e8; have hm := hS.lenS hm; clear o8 k8 n8 e8))
  unfold turns
  go_wp2_with (first
    | (with_reducible refine wpList_byteL rfl (.tmp 36) (.tmp 44) rfl _ (oct_of (by omega) (by omega)) hS.o (Nat.le_trans hm (by decide)) hS.bs hS.ne hS.g.lt rfl rfl ?_; intro v8 w8 o8 k8 n8 e8; have hS := hS.app o8 k8 n8 e8; have hm := hS.lenS hm; clear o8 k8 n8 e8))
  unfold turns
  go_wp2_with (first
    | (with_reducible refine wpList_byteL rfl (.tmp 36) (.tmp 44) rfl _ (oct_of (by omega) (by omega)) hS.o (Nat.le_trans hm (by decide)) hS.bs hS.ne hS.g.lt rfl rfl ?_; intro v8 w8 o8 k8 n8 e8; have hS := hS.app o8 k8 n8 e8; have hm := hS.lenS hm; clear o8 k8 n8 e8))
  unfold turns
  go_wp2_with (first
    | (with_reducible refine wpList_byteL rfl (.tmp 36) (.tmp 44) rfl _ (oct_of (by omega) (by omega)) hS.o (Nat.le_trans hm (by decide)) hS.bs hS.ne hS.g.lt rfl rfl ?_; intro v8 w8 o8 k8 n8 e8; have hS := hS.app o8 k8 n8 e8; have hm := hS.lenS hm; clear o8 k8 n8 e8))
  unfold turns
  go_wp2_with (first
    | (with_reducible refine wpList_byteL rfl (.tmp 36) (.tmp 44) rfl _ (oct_of (by omega) (by omega)) hS.o (Nat.le_trans hm (by decide)) hS.bs hS.ne hS.g.lt rfl rfl ?_; intro v8 w8 o8 k8 n8 e8; have hS := hS.app o8 k8 n8 e8; have hm := hS.lenS hm; clear o8 k8 n8 e8))
  unfold turns
  go_wp2_with fail
  unfold turns
  go_wp2_with fail
  rw [dataT_eq hM0.out] at hS
  have hE : Te w w8 ga B kk nn (expO kk) v8 (dataT b s) := ⟨hS.t, hS.o⟩
  have hD : (dataT b s).length ≤ 4096 := by have := dataT_len b s; omega
  clear hS hm hM0
  try simp only [Act.put]
  refine wp_region_begin (by kernel_rfl) ?_
  have hE := hE.later (w2 := w8.drew) ⟨Nat.le_refl _, fun _ _ => rfl, rfl, rfl⟩
  generalize w8.drew = wd at hE ⊢
  refine wpAny_take (i := 0) (oi := ?_) (v := ?_) ?_ (by kernel_rfl) (by kernel_rfl) (by kernel_rfl) ?_ ?_ ?_
  rotate_left 2
  · simp only [List.getElem?_toArray, List.getElem?_cons_zero, List.getElem?_cons_succ]
    with_reducible rfl
  · exact fun _ _ _ q => q
  · (refine Or.inl ⟨?_, ?_⟩; rfl; intro w; go_simp; with_reducible rfl)
  simp only [Act.put, List.setIfInBounds_toArray, List.set_cons_zero, List.set_cons_succ]
  refine wpAny_take (i := 2) (oi := ?_) (v := ?_) ?_ (by kernel_rfl) (by kernel_rfl) (by kernel_rfl) ?_ ?_ ?_
  rotate_left 2
  · simp only [List.getElem?_toArray, List.getElem?_cons_zero, List.getElem?_cons_succ]
    with_reducible rfl
  · exact fun _ _ _ q => q
  · (refine Or.inl ⟨?_, ?_⟩; rfl; intro w; go_simp; with_reducible rfl)
  simp only [Act.put, List.setIfInBounds_toArray, List.set_cons_zero, List.set_cons_succ]
  refine wpAny_steady (fun w0 => Te w w0 ga B kk nn (expO kk) v8 (dataT b s)) [1, 3, 4, 5, 6, 7] (by kernel_rfl) hE ?_
  repeat first
        | (refine Chain.step (oi := ?_) (v := .agg (octs (encF (expO kk) zero16)).toArray) ?_ (by kernel_rfl) (by kernel_rfl) (by kernel_rfl) ?_ ?_
           rotate_left 1
           · simp only [List.getElem?_toArray, List.getElem?_cons_zero, List.getElem?_cons_succ]
             with_reducible rfl
           · (refine Or.inl ⟨?_, Gives.call (f := 250) (args := #[.pointer (some ⟨ga, 0, none⟩), .agg z16]) ?_ ?_⟩; rfl; (intro wz hz; go_simp); intro wz hz; exact (encrypt250z C (hT.keeps hz.t.s.2) hz.t.c hK240).mono fun e wy h => ⟨h.1, Te.later hz h.2⟩)
           simp only [Act.put, List.setIfInBounds_toArray, List.set_cons_zero, List.set_cons_succ])
        | (refine Chain.step (oi := ?_) (v := .agg (octs (hashO (encF (expO kk) zero16) (dataT b s))).toArray) ?_ (by kernel_rfl) (by kernel_rfl) (by kernel_rfl) ?_ ?_
           rotate_left 1
           · simp only [List.getElem?_toArray, List.getElem?_cons_zero, List.getElem?_cons_succ]
             with_reducible rfl
           · (refine Or.inl ⟨?_, Gives.call (f := 253) (args := #[.agg (octs (encF (expO kk) zero16)).toArray, v8]) ?_ ?_⟩; rfl; (intro wz hz; go_simp); intro wz hz; exact (hash253 (encF_len _ _) hz.o.rowB.src hD).mono fun e wy h => ⟨h.1, Te.later hz h.2⟩)
           simp only [Act.put, List.setIfInBounds_toArray, List.set_cons_zero, List.set_cons_succ])
        | (refine Chain.step (oi := ?_) (v := ?_) ?_ (by kernel_rfl) (by kernel_rfl) (by kernel_rfl) ?_ ?_
           rotate_left 2
           · simp only [List.getElem?_toArray, List.getElem?_cons_zero, List.getElem?_cons_succ]
             with_reducible rfl
           · (refine Or.inl ⟨?_, Gives.val ?_⟩; rfl; intro wz hz; refine load_valA rfl Tryz.underlying240 (info240 hn) hz.t.b ?_; rfl)
           simp only [Act.put, List.setIfInBounds_toArray, List.set_cons_zero, List.set_cons_succ])
        | (refine Chain.step (oi := ?_) (v := .agg (octs (ctrF nn 1)).toArray) ?_ (by kernel_rfl) (by kernel_rfl) (by kernel_rfl) ?_ ?_
           rotate_left 1
           · simp only [List.getElem?_toArray, List.getElem?_cons_zero, List.getElem?_cons_succ]
             with_reducible rfl
           · (refine Or.inl ⟨?_, Gives.call (f := 248) (args := #[.agg (octs (nn)).toArray, .int .u32 1]) ?_ ?_⟩; rfl; (intro wz hz; go_simp); intro wz hz; exact (counter1 C (hT.keeps hz.t.s.2) hn).mono fun e wy h => ⟨h.1, Te.later hz h.2⟩)
           simp only [Act.put, List.setIfInBounds_toArray, List.set_cons_zero, List.set_cons_succ])
        | (refine Chain.step (oi := ?_) (v := .agg (octs (encF (expO kk) (ctrF nn 1))).toArray) ?_ (by kernel_rfl) (by kernel_rfl) (by kernel_rfl) ?_ ?_
           rotate_left 1
           · simp only [List.getElem?_toArray, List.getElem?_cons_zero, List.getElem?_cons_succ]
             with_reducible rfl
           · (refine Or.inl ⟨?_, Gives.call (f := 250) (args := #[.pointer (some ⟨ga, 0, none⟩), .agg (octs (ctrF nn 1)).toArray]) ?_ ?_⟩; rfl; (intro wz hz; go_simp); intro wz hz; exact (encrypt250 C (hT.keeps hz.t.s.2) hz.t.c hK240 (ctrF_len hn 1)).mono fun e wy h => ⟨h.1, Te.later hz h.2⟩)
           simp only [Act.put, List.setIfInBounds_toArray, List.set_cons_zero, List.set_cons_succ])
        | (refine Chain.step (oi := ?_) (v := .agg (octs (tagG (expO kk) nn b s)).toArray) ?_ (by kernel_rfl) (by kernel_rfl) (by kernel_rfl) ?_ ?_
           rotate_left 1
           · simp only [List.getElem?_toArray, List.getElem?_cons_zero, List.getElem?_cons_succ]
             with_reducible rfl
           · (refine Or.inl ⟨?_, Gives.call (f := 252) (args := #[.agg (octs (hashO (encF (expO kk) zero16) (dataT b s))).toArray, .agg (octs (encF (expO kk) (ctrF nn 1))).toArray]) ?_ ?_⟩; rfl; (intro wz hz; go_simp); intro wz hz; exact (xor252 (o16_len _) (encF_len _ _) wz).mono fun e wy h => ⟨h.1, Te.later hz h.2⟩)
           simp only [Act.put, List.setIfInBounds_toArray, List.set_cons_zero, List.set_cons_succ])
  refine Chain.done fun w9 hw9 => ?_
  refine wpAny_ready (rs := [8]) (by kernel_rfl) (by simp) ?_
  refine AllReady.cons (o := ?_) ?_ (fun K hK => ?_) AllReady.nil
  rotate_left 1
  · simp only [List.getElem?_toArray, List.getElem?_cons_zero, List.getElem?_cons_succ]
    with_reducible rfl
  have hG := tagG_len (expO kk) nn b s
  refine step_storeB 310 rfl (.tmp 8) (.tmp 55) rfl rfl rfl hw9.t.r (info310 hG) (z16o hG) (octs_all _) ?_
  intro w10 hc10 hz10 hb10
  refine hK _ _ ?_
  clear hK K
  refine wpAny_done (by kernel_rfl) ?_ _
  go_wp2_with fail
  refine bodyPost_ret (results_cell_row rfl _ _ (w.heap.size + 2) _ _ (0, 0) _ rfl hc10 Tryz.underlying310 rfl (info310 hG)) rfl ⟨rfl, ⟨by rw [hz10]; exact hw9.t.s.1, fun i hi => (hb10 i (by omega)).trans (hw9.t.s.2 i hi), hw9.t.s.3.trans hb10.calm⟩⟩
end Go.Proofs.YtlpbbihjnmikkaaGreatDoor.Exe
