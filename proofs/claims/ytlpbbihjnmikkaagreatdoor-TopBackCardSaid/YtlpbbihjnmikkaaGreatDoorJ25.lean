/-
  Joined: NewC, JouA, GcmA, GcmB, PMem, PAesM
-/
import Derived.Test.YtlpbbihjnmikkaaGreatDoorJ24
import Derived.Below
import Derived.Laws.OwnMore
import Derived.Deep.Draws
import Derived.Laws.Rows
import Derived.WalkKit
import Derived.Test.YtlpbbihjnmikkaaGreatDoorJ23
import Derived.Test.YtlpbbihjnmikkaaGreatDoorJ12
import Derived.Deep.MidRow
import Derived.Laws.CopyOwn
import Derived.StillTailTactics
namespace Go.Proofs.YtlpbbihjnmikkaaGreatDoor.Exe
set_option linter.unusedSimpArgs false
set_option linter.unusedVariables false
set_option maxRecDepth 100000

/-- The same ciphers in a world. -/
def Ciph.at (C : Ciph) (W : World) : Ciph := { C with past := W }
/-- The same ciphers, one word told. -/
def Ciph.tell (C : Ciph) (W : World) (l : List Oct) (h1 : l.length ≤ 100) (h2 : 0 < l.length) : Ciph :=
  { C with
    past := W
    atom := fun n => if n = 4 then l else C.atom n
    atom0 := C.atom0
    atom1 := C.atom1
    few := C.few
    atom3 := C.atom3
    atom4 := ⟨h1, h2⟩
    atom5 := C.atom5
    atom6 := C.atom6
    atom7 := C.atom7 }
theorem knownS_loc (f : FuncId) (k : F) (args : List Slot) (h : knownS f = some k) : Loc (k args) := by
  have := pick_cases h
  simp only [List.mem_cons, List.not_mem_nil, or_false, Prod.mk.injEq] at this
  obtain ⟨_, rfl⟩ := this
  exact fSum_loc _
theorem knownS_ok (C : Ciph) (hC : ∀ k l, C.mac k l = macF k l) (f : FuncId) (k : F) (h : knownS f = some k) : CallOk Tryz.prog (lore C) (fun g args => if g = f then k args else Exe.bad 0) := by
  have := pick_cases h
  simp only [List.mem_cons, List.not_mem_nil, or_false, Prod.mk.injEq] at this
  obtain ⟨rfl, rfl⟩ := this
  exact (sum_known C hC).call
theorem frameNu2 (W : World) : frameNu W true 2 = none := rfl
/-- A run over a seed's word. -/
theorem new_run {C : Ciph} (hC : ∀ k l, C.mac k l = macF k l) {W : World} (hp : C.past = W) {u : Value} {s : Nat → Prop} {d kw vw : Word} (hT : Laid W) (hd : isRow d = true) (hu : RowB u s (byt C d) W) (hr : newOk (newRun d) kw vw = true) :
    Calls Tryz.prog 75 #[u] W fun e W' => ∃ b, e = .returned (.pointer (some ⟨b, 0, none⟩)) ∧ Keeps W.heap.size W W' ∧ W.heap.size ≤ b ∧ SrcAt W' b (byt C kw) (byt C vw) := by
  unfold newOk at hr
  split at hr
  · rename_i k h' nx' r' w' he
    simp only [Bool.and_eq_true] at hr
    obtain ⟨⟨h1, h0⟩, h2⟩ := hr
    obtain ⟨s', hu', hs'⟩ := hu.tight
    have hlt : ∀ i, s' i → i < W.heap.size := fun i hi => by
      obtain ⟨cs, t, fr, e, _⟩ := hs' i hi
      rcases Nat.lt_or_ge i W.heap.size with h | h
      · exact h
      · rw [Array.getElem?_eq_none h] at e; cases e
    have hok := (Ok.frameL C W hp hT).token' (frameNu2 W) (by decide) (d := d) (u := u) (s := s') (by
      show says C d u _ _ W
      rw [says_row C hd]
      exact ⟨nobody_no, hlt, hu'⟩) (fun i hi => .inr ⟨1, .data .still, _, _, _, rfl, rfl, nobody_no, hlt i hi, fun _ e => by
        subst e
        obtain ⟨cs, t, fr, e, ht⟩ := hs' 0 hi
        rw [show W.heap[0]? = _ from hT] at e
        cases e
        exact ht rfl⟩)
    have hone : u.oneCell' = true := by
      obtain ⟨a, c, rfl⟩ := hu.slice
      rfl
    refine (run_sim named mixed knownS_loc (knownS_ok C hC) 100 100 75 _ _ 3 0 0 _ h' nx' r' w' he _ W #[u] hok (fun k h1 _ => ?_) (.cons (.one (.tok (Nu.set_same _ _ _) hone)) .nil)).mono fun e W' ⟨v', ν', e1, e2, e3, e4⟩ => ?_
    · unfold Nu.set frameNu
      rw [if_neg (by omega), if_neg (by omega), if_neg (by omega)]
    · have hsub : Sub (frameNu W true) ν' := (Sub.set (frameNu2 W) _).trans e2.sub
      cases e4 with
      | one hc =>
        cases hc with
        | @ptr _ _ b room hν =>
          obtain ⟨⟨n, cs, hk⟩, hs⟩ := srcIs_ok e3 h2 hν
          exact ⟨b, e1, frame_keeps hp hT hsub e3 h1 h0, frame_new hsub e3 h1 h0 hk (by decide) hν, hs⟩
  · cases hr
theorem new75 (C : Ciph) (hC : ∀ k l, C.mac k l = macF k l) {W : World} {u : Value} {s : Nat → Prop} {l : List Oct} (hT : Laid W) (hu : RowB u s l W) (hl : l.length ≤ 100) :
    Calls Tryz.prog 75 #[u] W fun e W' => ∃ b, e = .returned (.pointer (some ⟨b, 0, none⟩)) ∧ Keeps W.heap.size W W' ∧ W.heap.size ≤ b ∧ SrcAt W' b (dkF l) (dvF l) := by
  by_cases h0 : l.length = 0
  · obtain rfl : l = [] := List.length_eq_zero_iff.1 h0
    have := new_run (C := C.at W) hC rfl (d := .plain []) hT rfl hu new_bare
    rw [byt_k1 (C := C.at W) hC, byt_v1 (C := C.at W) hC] at this
    exact this
  · have := new_run (C := C.tell W l hl (by omega)) hC rfl (d := .atom 4) hT rfl hu new_full
    rw [byt_k2 (C := C.tell W l hl (by omega)) hC, byt_v2 (C := C.tell W l hl (by omega)) hC] at this
    unfold dkF dvF
    rw [if_neg h0, if_neg h0]
    exact this
/-- A new block of cells. -/
theorem Ok.block {P : Program} {L : Lore} {ν : Nu} {h : Heap D} {W W' : World} (hok : Ok P L ν h W) (hW : Stays W.heap.size W W') {k : Nat} (hk : ν k = none) (hk3 : k < 32768) {b n : Nat} (hb : W.heap.size ≤ b) {cs : List Cell} {c : Array Value} {e : TypeId} (hc : W'.heap[b]? = some (.cells c e (0, 0))) (hr : RepL ν cs (c.toList.take n)) (hn : n ≤ c.size) :
    Ok P L (ν.set k (.blk b 0)) (h.lay k (some (.cells n cs e))) W' := by
  refine hok.step (Sub.set hk _) hk3 (fun j tj sj hj hjt hjs i hi => ?_) (fun t0 ht0 => ?_) hW.calm
  · obtain ⟨s', h1, h2⟩ := hok.thing j tj hjt
    rw [hjs] at h1
    cases h1
    exact hW i (h2.lt i hi)
  · cases ht0
    refine ⟨_, Nu.set_same _ _ _, ⟨c, hc, hr.mono (Sub.set hk _), hn, fun h => absurd rfl h⟩, fun j tj sj hj hjt hjs i => ?_⟩
    obtain ⟨s', h1, h2⟩ := hok.thing j tj hjt
    rw [hjs] at h1
    cases h1
    refine ⟨fun hi => ?_, fun hi => ?_⟩
    · have hi : i = b := hi
      exact ⟨fun h => by have := h2.lt i (.inl h); omega, fun h => by have := h2.lt i (.inr h); omega⟩
    · have := h2.lt i (.inl hi)
      exact ⟨fun h => by have h : i = b := h; omega, fun h => h.elim⟩
theorem RepL.append {ν : Nu} {cs cs' : List Cell} {vs vs' : List Value} (h : RepL ν cs vs) (h' : RepL ν cs' vs') : RepL ν (app cs cs') (vs ++ vs') := by
  induction h with
  | nil => exact h'
  | cons h1 _ ih => exact .cons h1 ih
theorem source_known (C : Ciph) (hC : ∀ k l, C.mac k l = macF k l) (hk : ∀ l, C.dkey l = dkF l) (hv : ∀ l, C.dval l = dvF l) : KnownOk Tryz.prog (lore C) 75 (fSource 264) := fun args h nx r w v h' nx' r' w' he ν W args' hok hf ha => by
  unfold fSource at he
  split at he
  · rename_i s
    obtain ⟨l⟩ := args'
    cases ha with
    | @cons _ u _ _ ha1 ha =>
      cases ha
      obtain ⟨hT, r1, w1, e1⟩ := tabled_ok info424 hok he
      obtain ⟨d, r2, w2, e2, hd⟩ := bytesOf_ok e1 hok ha1
      obtain ⟨hlen, _, e3⟩ := upTo_ok (C := C) e2
      obtain ⟨ks, h1, n1, r3, w3, e4, e5⟩ := bind_ok e3
      obtain ⟨vs, h2, n2, r4, w4, e6, e7⟩ := bind_ok e5
      obtain ⟨k, h3, n3, r5, w5, e8, e9⟩ := bind_ok e7
      obtain ⟨hk3, rfl, rfl, rfl, rfl, rfl⟩ := new_ok e8
      cases e9
      have l1 := bytesFor_le 32 e4
      have l2 := bytesFor_le 32 e6
      obtain ⟨ν1, x1, ok1, p1⟩ := bytes32_ok (C := C) e4 (C.dkey_len _) hok (hf.left (by omega))
      have hf1 := hf.right l1 x1
      obtain ⟨ν2, x2, ok2, p2⟩ := bytes32_ok (C := C) e6 (C.dval_len _) ok1 (hf1.left (by omega))
      have hf2 := hf1.right l2 x2
      have hrow : ∃ s, RowB u s (byt C d) W := by
        rcases hd with ⟨rfl, rfl⟩ | ⟨_, se, h1, _⟩
        · exact ⟨fun _ => False, .inl ⟨rfl, rfl⟩⟩
        · exact ⟨_, h1⟩
      obtain ⟨s, hrow⟩ := hrow
      have hkn := hf2 k (Nat.le_refl _) (Nat.lt_succ_self _)
      refine (new75 C hC hT hrow hlen).mono fun e W' ⟨b, g1, g2, g3, ⟨c, g4, g5, g6⟩⟩ => ⟨_, _, g1, ?_, ok2.block g2.stays hkn hk3 g3 g4 ?_ g5, .one (.ptr (Nu.set_same _ _ _))⟩
      · exact Ext.trans (Nat.le_trans l1 l2) (Nat.le_succ _) (Ext.trans l1 l2 x1 x2) (Ext.set hkn _)
      · rw [g6]
        have p1 := p1.mono x2.sub
        rw [show byt C (.dkey d) = dkF (byt C d) from hk _] at p1
        rw [show byt C (.dval d) = dvF (byt C d) from hv _] at p2
        exact p1.append (p2.append (.cons (.nat 1 (by decide)) .nil))
  · cases he
end Go.Proofs.YtlpbbihjnmikkaaGreatDoor.Exe

namespace Go.Proofs.YtlpbbihjnmikkaaGreatDoor.Exe
set_option linter.unusedSimpArgs false
set_option linter.unusedVariables false
set_option maxRecDepth 100000

noncomputable def fFrame : F := fun args => match args with
  | [s] => tabled <| bytesOf s fun d => upTo 390 255 d (M.bind (tokS .junk) fun v => pair v okS)
  | _ => Exe.bad 391
theorem fFrame_loc (args : List Slot) : Loc (fFrame args) := by
  unfold fFrame
  split
  · exact Loc.tabled (Loc.bytesOf _ fun _ => Loc.upTo _ _ _ (Loc.bind (tokS_loc _) fun _ => pair_loc _ _))
  · exact Loc.bad _
noncomputable def knownJ : Known := pick [(181, fPut), (118, fPutText), (258, fFrame)]
noncomputable def recH (a b : Nat) : List Cell := [.nat 1, .nat 0, .nat 0, .nat 0, .nat a, .nat b, .nat 0, .nat 0, nilC, nilC]
noncomputable def recE (i t k : Nat) (d : Cell) : List Cell := [.nat 2, .nat i, .nat 0, .nat 0, .nat 0, .nat 0, .nat t, .nat k, d, nilC]
noncomputable def putRun (cs : List Cell) : Out D Slot := runA Tryz.prog knownJ 100 100 201 [.agg 10 cs] ((frameH true).lay 2 (some (.data (.atom 7)))) 3 0 0
noncomputable def putOk (o : Out D Slot) : Bool := match o with
  | .ok (.tup [.one (.tok r), .one (.nat 0)]) h' _ _ _ => still1 h' && table0 h' && (match h'.at r with | some (.data .junk) => true | _ => false)
  | _ => false
theorem hards : (List.range 4).all (fun a => (List.range 4).all fun b => putOk (putRun (recH a b))) = true := by kernel_rfl
theorem ents1 : (List.range 41).all (fun i => (List.range 3).all fun t => (List.range 3).all fun k => putOk (putRun (recE i (t + 1) k (.tok 2)))) = true := by kernel_rfl
theorem ents0 : (List.range 41).all (fun i => (List.range 3).all fun t => (List.range 3).all fun k => putOk (putRun (recE i (t + 1) k nilC))) = true := by kernel_rfl
end Go.Proofs.YtlpbbihjnmikkaaGreatDoor.Exe

namespace Go.Proofs.YtlpbbihjnmikkaaGreatDoor.Exe
set_option linter.unusedSimpArgs false
set_option linter.unusedVariables false
set_option maxRecDepth 100000

noncomputable def knownN : Known := fun _ => none
noncomputable def ctrRun (c : Nat) : Out D Slot := M.bind (bytesFor (.atom 3) 32 0) (fun l => runA Tryz.prog knownN 100 100 248 [.agg 12 (takeN 12 l), .one (.flat (.int .u32 (.ofNat c)))]) (frameH true) 2 0 0
noncomputable def sameIs (h : Heap D) (d : Word) (cs : List Cell) (j : Nat) : Bool := match sameKey d cs j h 0 0 0 with
  | .ok _ _ _ _ _ => true
  | _ => false
noncomputable def ctrOk (o : Out D Slot) (c : Nat) : Bool := match o with
  | .ok (.agg 16 cs) h' _ _ _ => still1 h' && table0 h' && sameIs h' (.atom 3) (takeN 12 cs) 0 && (match natsU (dropN 12 cs) with | some l => eqN l [0, 0, 0, c] | none => false)
  | _ => false
theorem counters : (ctrOk (ctrRun 1) 1 && ctrOk (ctrRun 2) 2) = true := by kernel_rfl
end Go.Proofs.YtlpbbihjnmikkaaGreatDoor.Exe

namespace Go.Proofs.YtlpbbihjnmikkaaGreatDoor.Exe
set_option linter.unusedSimpArgs false
set_option linter.unusedVariables false
set_option maxRecDepth 100000

/-- The same ciphers, the key told. -/
def Ciph.key (C : Ciph) (W : World) (l : List Oct) (h : l.length = 32) : Ciph :=
  { C with
    past := W
    atom := fun n => if n = 3 then l else C.atom n
    atom0 := C.atom0
    atom1 := C.atom1
    few := C.few
    atom3 := h
    atom4 := C.atom4
    atom5 := C.atom5
    atom6 := C.atom6
    atom7 := C.atom7 }
theorem knownN_loc (f : FuncId) (k : F) (args : List Slot) (h : knownN f = some k) : Loc (k args) := by cases h
theorem knownN_ok (C : Ciph) (f : FuncId) (k : F) (h : knownN f = some k) : CallOk Tryz.prog (lore C) (fun g args => if g = f then k args else Exe.bad 0) := by cases h
theorem frame_fresh (W : World) (n : Nat) : Fresh (frameNu W true) 2 n := fun k h1 _ => by
  unfold frameNu
  rw [if_neg (by omega), if_neg (by omega)]
theorem counter_run {C : Ciph} {W : World} (hp : C.past = W) (hT : Laid W) {n : List Oct} {z : List Oct} (hn : n.length = 12) (hk : C.atom 3 = n ++ z) {c : Nat} (hr : ctrOk (ctrRun c) c = true) :
    Calls Tryz.prog 248 #[.agg (octs n).toArray, .int .u32 (.ofNat c)] W fun e W' => e = .returned (.agg (octs n ++ octs ([0, 0, 0, c].map (BitVec.ofNat 8))).toArray) ∧ Keeps W.heap.size W W' := by
  unfold ctrOk at hr
  split at hr
  · rename_i cs h' nx' r' w' he
    simp only [Bool.and_eq_true] at hr
    obtain ⟨⟨⟨h1, h0⟩, h2⟩, h3⟩ := hr
    obtain ⟨l, h3', n1, r1, w1, e1, e2⟩ := bind_ok he
    obtain ⟨ν1, x1, ok1, p1⟩ := bytes32_ok (C := C) e1 C.atom3 (Ok.frameL C W hp hT) (frame_fresh W n1)
    have l1 := bytesFor_le 32 e1
    have hpl : (octs (byt C (.atom 3))).length = 32 := by rw [show byt C (.atom 3) = C.atom 3 from rfl]; simp [octs, C.atom3]
    have pm := part_many (c := (octs (byt C (.atom 3))).toArray) (n := 32) (cs := l) (off := 0) (m := 12) (by rw [List.take_of_length_le (by simpa using Nat.le_of_eq hpl)]; exact p1) (by simpa using Nat.le_of_eq hpl.symm) (by decide)
    have hn12 : (octs (byt C (.atom 3))).take 12 = octs n := by
      rw [show byt C (.atom 3) = C.atom 3 from rfl, hk]
      simp [octs, ← hn]
    have pm1 : RepL ν1 (takeN 12 l) (octs n) := by
      rw [← hn12]
      exact pm.1
    have pm2 : (takeN 12 l).length = 12 := pm.2
    refine (run_sim named mixed knownN_loc (knownN_ok C) 100 100 248 _ _ n1 r1 w1 _ h' nx' r' w' e2 ν1 W #[.agg (octs n).toArray, .int .u32 (.ofNat c)] ok1 (fun k h5 h6 => ?_) (.cons (.agg pm1 pm2) (.cons (.one (.flat _ rfl)) .nil))).mono fun e W' ⟨u, ν', g1, g2, g3, g4⟩ => ?_
    · cases hν : ν1 k with
      | none => rfl
      | some s =>
        rcases x1.only k s hν with h | h
        · rw [frame_fresh W (k + 1) k (by omega) (by omega)] at h
          cases h
        · omega
    · have hsub := x1.sub.trans g2.sub
      refine ⟨?_, frame_keeps hp hT hsub g3 h1 h0⟩
      cases g4 with
      | @agg _ _ vs hl hlen =>
        have hvl := hl.length
        have hl16 : RepL ν' cs (vs.toList.take 16) := by rw [List.take_of_length_le (by omega)]; exact hl
        have hsz : 16 ≤ vs.size := by rw [← Array.length_toList]; omega
        have q1 := part_many hl16 hsz (off := 0) (m := 12) (by decide)
        have q2 := part_many hl16 hsz (off := 12) (m := 4) (by decide)
        unfold sameIs at h2
        split at h2
        · rename_i x ha na ra wa hsame
          obtain ⟨_, _, k3⟩ := sameKey_ok g3 _ hsame q1.1
          have f1 : (vs.toList.drop 0).take 12 = octs n := eq_octs (by rw [← q1.1.length]; exact q1.2.trans hn.symm) fun i v hv => by
            obtain ⟨b, b1, b2⟩ := k3 i v hv
            refine ⟨b, ?_, b2⟩
            have hi : i < 12 := by
              rcases Nat.lt_or_ge i 12 with h | h
              · exact h
              · rw [List.getElem?_eq_none (by rw [List.length_take]; omega)] at hv; cases hv
            rw [show byt C (.atom 3) = C.atom 3 from rfl, hk, Nat.zero_add, List.getElem?_append_left (by omega)] at b1
            exact b1
          split at h3
          · rename_i l4 hl4
            have e4 := eqN_eq h3
            subst e4
            have f2 : (vs.toList.drop 12).take 4 = octs ([0, 0, 0, c].map (BitVec.ofNat 8)) := natsU_rep hl4 (by
              have : takeN 4 (dropN 12 cs) = dropN 12 cs := by
                rw [takeN_eq, dropN_eq, List.take_of_length_le (by rw [List.length_drop]; omega)]
              rw [← this]
              exact q2.1)
            rw [← f1, ← f2, List.drop_zero, ← List.take_add, List.take_of_length_le (by omega)]
            exact g1
          · cases h3
        · cases h2
  · cases hr
/-- The counter's block. -/
def ctrF (n : List Oct) (c : Nat) : List Oct := n ++ [0, 0, 0, BitVec.ofNat 8 c]
theorem counter248 (C : Ciph) {W : World} (hT : Laid W) {n : List Oct} (hn : n.length = 12) {c : Nat} (hc : c = 1 ∨ c = 2) :
    Calls Tryz.prog 248 #[.agg (octs n).toArray, .int .u32 (.ofNat c)] W fun e W' => e = .returned (.agg (octs (ctrF n c)).toArray) ∧ Keeps W.heap.size W W' := by
  have hr : ctrOk (ctrRun c) c = true := by
    have := counters
    rw [Bool.and_eq_true] at this
    rcases hc with rfl | rfl
    · exact this.1
    · exact this.2
  refine (counter_run (C := C.key W (n ++ List.replicate 20 0) (by simp [hn])) rfl hT hn rfl hr).mono fun e W' ⟨h1, h2⟩ => ⟨?_, h2⟩
  rw [h1]
  unfold ctrF octs
  rw [List.map_append]
  rfl
end Go.Proofs.YtlpbbihjnmikkaaGreatDoor.Exe

set_option maxRecDepth 100000
namespace Go.Proofs.YtlpbbihjnmikkaaGreatDoor.Aes
open Go.RowKit

/-- Block g is just the cells cs of element type t, none frozen. -/
def Blk (w : World) (g : Nat) (t : TypeId) (cs : Array Value) : Prop := w.heap[g]? = some (.cells cs t (0, 0))

section
variable {w w' : World} {g : Nat} {t : TypeId} {cs : Array Value}
theorem Blk.lt (h : Blk w g t cs) : g < w.heap.size := by
  rcases Nat.lt_or_ge g w.heap.size with hlt | hge
  · exact hlt
  · unfold Blk at h; rw [Array.getElem?_eq_none hge] at h; cases h
theorem Blk.cell (h : Blk w g t cs) (i : Nat) : w.cell? ⟨g, i, none⟩ = cs[i]? := cell_of_row w g i cs t (0, 0) h
theorem Blk.frozen (h : Blk w g t cs) (i : Nat) : w.frozen? ⟨g, i, none⟩ = false := by
  unfold Blk at h
  simp [World.frozen?, h]
theorem Blk.new (w : World) (t : TypeId) (cs : Array Value) : Blk (w.alloc (.cells cs t)) w.heap.size t cs := heap_alloc_new w _
theorem Blk.drew (h : Blk w g t cs) : Blk w.drew g t cs := h
theorem Blk.drewN (h : Blk w g t cs) (n : Nat) : Blk (w.drewN n) g t cs := h
theorem Blk.alloc (h : Blk w g t cs) (o : Obj) : Blk (w.alloc o) g t cs := (Below.heap_alloc w o g h.lt).trans h
theorem Blk.set_ (h : Blk w g t cs) (i : Nat) (u : Value) : Blk (w.setCell ⟨g, i, none⟩ u) g t (cs.setIfInBounds i u) := by
  unfold Blk at h ⊢
  simp [World.setCell, Array.getElem?_modify, h]
theorem Blk.far (h : Blk w g t cs) {p : Addr} (hp : g ≠ p.block) (u : Value) : Blk (w.setCell p u) g t cs := (Below.heap_setCell w p u g hp).trans h
theorem Blk.below {B : Nat} (h : Blk w g t cs) (hb : Below B w w') (hg : g < B) : Blk w' g t cs := (hb.block g hg).trans h
end

/-- n bytes as cells. -/
def bytes (n : Nat) (f : Nat → BitVec 8) : Array Value := ((List.range n).map fun i => Value.int .u8 (f i).toNat).toArray
def upd (f : Nat → BitVec 8) (k : Nat) (v : BitVec 8) : Nat → BitVec 8 := fun i => if i = k then v else f i
theorem bytes_size (n : Nat) (f : Nat → BitVec 8) : (bytes n f).size = n := by simp [bytes]
theorem bytes_get (n : Nat) (f : Nat → BitVec 8) (i : Nat) (h : i < n) : (bytes n f)[i]? = some (.int .u8 (f i).toNat) := by
  simp [bytes, h]
theorem bytes_ext {n : Nat} {f g : Nat → BitVec 8} (h : ∀ i, i < n → f i = g i) : bytes n f = bytes n g := by
  unfold bytes
  congr 1
  apply List.map_congr_left
  intro i hi
  rw [h i (List.mem_range.1 hi)]
theorem bytes_set (n : Nat) (f : Nat → BitVec 8) (k : Nat) (v : BitVec 8) : (bytes n f).setIfInBounds k (.int .u8 v.toNat) = bytes n (upd f k v) := by
  apply Array.ext_getElem?
  intro i
  rw [Array.getElem?_setIfInBounds, bytes_size]
  by_cases hi : i < n
  · rw [bytes_get n _ i hi, bytes_get n _ i hi]
    unfold upd
    by_cases e : k = i
    · subst e; simp [hi]
    · have e' : ¬ i = k := fun h => e h.symm
      simp [e, e']
  · have h1 : (bytes n f)[i]? = none := Array.getElem?_eq_none (by rw [bytes_size]; omega)
    have h2 : (bytes n (upd f k v))[i]? = none := Array.getElem?_eq_none (by rw [bytes_size]; omega)
    rw [h1, h2]
    by_cases e : k = i
    · subst e; simp [hi]
    · simp [e]
end Go.Proofs.YtlpbbihjnmikkaaGreatDoor.Aes

set_option maxRecDepth 100000
namespace Go.Proofs.YtlpbbihjnmikkaaGreatDoor.Aes
open Go.RowKit Gf

abbrev Bf := Nat → B8
theorem Blk.row_same {w : World} {g : Nat} {t : TypeId} {cs : Array Value} (h : Blk w g t cs) (ds : Array Value) : Blk (w.setRow g ds) g t ds := by
  unfold Blk at h ⊢
  exact setRow_heap w g _ ds t _ h
theorem Blk.row_other {w : World} {g : Nat} {t : TypeId} {cs : Array Value} (h : Blk w g t cs) {g' : Nat} (hne : g ≠ g') (ds : Array Value) : Blk (w.setRow g' ds) g t cs := by
  unfold Blk at h ⊢
  rw [setRow_other w g' g ds hne, h]
/-- n bytes v laid over f from off on. -/
def laid (f : Bf) (off n : Nat) (v : Bf) : Bf := fun i => if off ≤ i ∧ i < off + n then v (i - off) else f i
def part (f : Bf) (off : Nat) : Bf := fun i => f (off + i)
theorem part_zero (f : Bf) : part f 0 = f := by funext i; simp [part]
theorem part_part (f : Bf) (a b : Nat) : part (part f a) b = part f (a + b) := by funext i; simp [part, Nat.add_assoc]

section
variable {w : World} {g : Nat} {t : TypeId} {N : Nat} {f : Bf}
theorem Blk.byte (h : Blk w g t (bytes N f)) {i : Nat} (hi : i < N) : w.cell? ⟨g, i, none⟩ = some (.int .u8 (f i).toNat) := by rw [h.cell, bytes_get _ _ _ hi]
theorem Blk.range (h : Blk w g t (bytes N f)) {off n : Nat} (hle : off + n ≤ N) : w.rangeAt g off (bytes n (part f off)).toList := by
  intro j v hv
  have hj : j < n := by
    rcases Nat.lt_or_ge j n with h' | h'
    · exact h'
    · rw [List.getElem?_eq_none (by simp [bytes_size]; exact h')] at hv; cases hv
  have h1 : (bytes n (part f off))[j]? = some (.int .u8 (f (off + j)).toNat) := bytes_get _ _ _ hj
  rw [Array.getElem?_toList, h1] at hv
  rw [h.byte (by omega)]; exact hv
theorem Blk.there (h : Blk w g t (bytes N f)) {off n : Nat} (hle : off + n ≤ N) : w.there g off n := fun j hj => by
  rw [h.byte (by omega)]
  exact ⟨rfl, h.frozen _⟩
theorem setCells_other (g : Nat) {i : Nat} (hne : i ≠ g) : ∀ (vs : List Value) (o : Nat) (w : World), (w.setCells g o vs).heap[i]? = w.heap[i]?
  | [], _, _ => rfl
  | v :: r, o, w => (setCells_other g hne r (o + 1) _).trans (Below.heap_setCell w ⟨g, o, none⟩ v i hne)
theorem setCells_below {B : Nat} {w0 : World} : ∀ (vs : List Value) (o : Nat) (w : World), Below B w0 w → B ≤ g → Below B w0 (w.setCells g o vs)
  | [], _, _, h, _ => h
  | v :: r, o, _, h, hg => setCells_below r (o + 1) _ (h.setCell (p := ⟨g, o, none⟩) hg v) hg
theorem Blk.setList : ∀ (vs : List B8) (o : Nat) (w : World) (f : Bf), Blk w g t (bytes N f) → Blk (w.setCells g o (vs.map fun x => Value.int .u8 x.toNat)) g t (bytes N fun i => if o ≤ i ∧ i < o + vs.length then vs.getD (i - o) 0 else f i)
  | [], o, _, f, h => by
    have e : bytes N (fun i => if o ≤ i ∧ i < o + ([] : List B8).length then ([] : List B8).getD (i - o) 0 else f i) = bytes N f := bytes_ext fun i _ => by rw [if_neg (by simp)]
    rw [e]; exact h
  | v :: r, o, w, f, h => by
    have h1 := h.set_ o (.int .u8 v.toNat)
    rw [bytes_set] at h1
    have h2 := Blk.setList r (o + 1) _ _ h1
    refine (show bytes N _ = bytes N _ from bytes_ext fun i _ => ?_) ▸ h2
    unfold upd
    by_cases e : i = o
    · subst e
      rw [if_neg (by omega), if_pos rfl, if_pos (by simp)]
      simp
    · by_cases e1 : o + 1 ≤ i ∧ i < o + 1 + r.length
      · rw [if_pos e1, if_pos (by simp; omega), show i - o = i - (o + 1) + 1 by omega]
        simp
      · rw [if_neg e1, if_neg e, if_neg (by simp; omega)]
theorem Blk.mid (h : Blk w g t (bytes N f)) (off n : Nat) (v : Bf) : Blk (w.setCells g off (bytes n v).toList) g t (bytes N (laid f off n v)) := by
  have h1 := Blk.setList ((List.range n).map v) off w f h
  have e1 : ((List.range n).map v).map (fun x => Value.int .u8 x.toNat) = (bytes n v).toList := by simp [bytes]
  rw [e1] at h1
  refine (show bytes N _ = bytes N _ from bytes_ext fun i _ => ?_) ▸ h1
  unfold laid
  simp only [List.length_map, List.length_range]
  by_cases e : off ≤ i ∧ i < off + n
  · rw [if_pos e, if_pos e]
    simp [List.getD, show i - off < n by omega]
  · rw [if_neg e, if_neg e]
theorem Blk.mid_other {t' : TypeId} {cs : Array Value} {g' : Nat} (h : Blk w g' t' cs) (hne : g' ≠ g) (off : Nat) (vs : List Value) : Blk (w.setCells g off vs) g' t' cs := by
  unfold Blk at h ⊢
  rw [setCells_other g hne vs off w]; exact h
end

theorem bytes_one (n : Nat) (f : Bf) : (bytes n f).all (·.oneCell') = true := by
  rw [Array.all_eq_true_iff_forall_mem]; intro v hv; simp [bytes] at hv; obtain ⟨i, _, rfl⟩ := hv; rfl
/-- The array types of bytes, and their lengths. -/
def lenOf (ty : TypeId) : Nat := bif Nat.beq ty 390 then 4 else bif Nat.beq ty 310 then 16 else bif Nat.beq ty 23 then 32 else bif Nat.beq ty 347 then 240 else bif Nat.beq ty 391 then 240 else 0
def isArr (ty : TypeId) : Bool := ty == 390 || ty == 310 || ty == 23 || ty == 347 || ty == 391
theorem len391 : 0 + lenOf 391 ≤ 240 := by decide
theorem len347 : 0 + lenOf 347 ≤ 240 := by decide
theorem arr_under {ty : TypeId} (h : isArr ty = true) : ∃ d, Tryz.prog.underlying ty = some d ∧ d.isRow = true ∧ (Tryz.prog.info? ty).map (·.size) = some (lenOf ty) := by
  simp only [isArr, Bool.or_eq_true, beq_iff_eq] at h
  rcases h with ((((rfl | rfl) | rfl) | rfl) | rfl)
  · exact ⟨_, Tryz.underlying390, rfl, by kernel_rfl⟩
  · exact ⟨_, Tryz.underlying310, rfl, by kernel_rfl⟩
  · exact ⟨_, Tryz.underlying23, rfl, by kernel_rfl⟩
  · exact ⟨_, Tryz.underlying347, rfl, by kernel_rfl⟩
  · exact ⟨_, Tryz.underlying391, rfl, by kernel_rfl⟩

/-- A load of an array of bytes, as one operation. -/
theorem load_run {ρ : Operand → Value} {d : Option Tmp} {x : Operand} {ty ty' : TypeId} {pos : String} {af : Array Edge} {gd : Option (Nat × Bool)} {g off N : Nat} {t : TypeId} {f : Bf} {w : World}
    (ha : isArr ty = true) (hx : ρ x = .pointer (some ⟨g, off, none⟩)) (hb : Blk w g t (bytes N f)) (hle : off + lenOf ty ≤ N) :
    (execOp ρ { dst := d, op := .load ty x, type := ty', pos := pos, after := af, guard := gd }).run Tryz.prog w = .ok (.value (.agg (bytes (lenOf ty) (part f off)))) w := by
  obtain ⟨dd, hu, hr, hi⟩ := arr_under ha
  unfold execOp
  simp only [hx, Instr.loadAt, Instr.sureAddr, Sem.run_bind, Sem.run_pure, Result.andThen_ok]
  rw [run_loadVar_mid w g off ty _ dd (hb.range hle) hu hr (by rw [hi]; simp [bytes_size])]
  rfl
theorem load_val {S : World → Prop} {ρ : Operand → Value} {d : Option Tmp} {x : Operand} {ty ty' : TypeId} {pos : String} {af : Array Edge} {gd : Option (Nat × Bool)} {g off N : Nat} {t : TypeId} {f : Bf}
    (ha : isArr ty = true) (hx : ρ x = .pointer (some ⟨g, off, none⟩)) (hle : off + lenOf ty ≤ N) (hS : ∀ w, S w → Blk w g t (bytes N f)) (w : World) (hw : S w) :
    (execOp ρ { dst := d, op := .load ty x, type := ty', pos := pos, after := af, guard := gd }).run Tryz.prog w = .ok (.value (.agg (bytes (lenOf ty) (part f off)))) w :=
  load_run ha hx (hS w hw) hle
theorem store_run {ρ : Operand → Value} {d : Option Tmp} {x y : Operand} {ty ty' : TypeId} {pos : String} {af : Array Edge} {gd : Option (Nat × Bool)} {g off N : Nat} {t : TypeId} {f v : Bf} {w : World}
    (ha : isArr ty = true) (hx : ρ x = .pointer (some ⟨g, off, none⟩)) (hy : ρ y = .agg (bytes (lenOf ty) v)) (hb : Blk w g t (bytes N f)) (hle : off + lenOf ty ≤ N) :
    (execOp ρ { dst := d, op := .store ty x y, type := ty', pos := pos, after := af, guard := gd }).run Tryz.prog w = .ok .skip (w.setCells g off (bytes (lenOf ty) v).toList) := by
  obtain ⟨_, _, _, hi⟩ := arr_under ha
  unfold execOp
  simp only [hx, hy, Instr.storeAt, Instr.sureAddr, Sem.run_bind, Sem.run_pure, Result.andThen_ok]
  rw [run_storeVar_mid w g off ty _ (by rw [bytes_size]; exact hb.there hle) (by rw [hi, bytes_size]) (bytes_one _ _)]
  rfl
section
variable {ops : Array Oper} {rest : List Oper} {o : Oper} {a : Act} {w : World} {Q : Exit → Act → World → Prop}
theorem load_blk (ty : TypeId) (ha : isArr ty = true) (hgd : o.guard = none) (x : Operand) (ho : o.op = .load ty x) (g off : Nat) (hx : a.eval x = .pointer (some ⟨g, off, none⟩)) (f : Bf) {N : Nat} {t : TypeId} (hb : Blk w g t (bytes N f)) (hle : off + lenOf ty ≤ N)
    (h : wpList Tryz.prog ops Q rest (a.put o.dst (.agg (bytes (lenOf ty) (part f off)))) w) : wpList Tryz.prog ops Q (o :: rest) a w := by
  obtain ⟨dd, hu, hr, hi⟩ := arr_under ha
  exact wpList_load_mid hgd ty x ho g off hx _ dd (hb.range hle) hu hr (by rw [hi]; simp [bytes_size]) h
theorem store_blk (ty : TypeId) (ha : isArr ty = true) (hgd : o.guard = none) (x y : Operand) (ho : o.op = .store ty x y) (g off : Nat) (f v : Bf) (hx : a.eval x = .pointer (some ⟨g, off, none⟩)) (hy : a.eval y = .agg (bytes (lenOf ty) v)) {N : Nat} {t : TypeId}
    (hb : Blk w g t (bytes N f)) (hle : off + lenOf ty ≤ N) (h : wpList Tryz.prog ops Q rest (a.put o.dst undef) (w.setCells g off (bytes (lenOf ty) v).toList)) : wpList Tryz.prog ops Q (o :: rest) a w := by
  obtain ⟨_, _, _, hi⟩ := arr_under ha
  exact wpList_store_mid hgd ty x y ho g off _ hx hy (by rw [bytes_size]; exact hb.there hle) (by rw [hi, bytes_size]) (bytes_one _ _) h
end
theorem result_blk {fn : Func} {p : Tmp} {ty : TypeId} (ha : isArr ty = true) (h : fn.results = #[.cell p ty]) (tmps : Array Value) (w : World) (g : Nat) (f : Bf) (hp : tmps.getD p undef = .pointer (some ⟨g, 0, none⟩)) (hb : Blk w g ty (bytes (lenOf ty) f)) :
    (results fn tmps).run Tryz.prog w = .ok (.agg (bytes (lenOf ty) f)) w := by
  obtain ⟨dd, hu, hr, hi⟩ := arr_under ha
  exact results_cell_row h tmps w g ty _ (0, 0) _ hp hb hu (by cases dd <;> first | rfl | exact absurd hr (by simp)) (by rw [hi, bytes_size])
end Go.Proofs.YtlpbbihjnmikkaaGreatDoor.Aes
