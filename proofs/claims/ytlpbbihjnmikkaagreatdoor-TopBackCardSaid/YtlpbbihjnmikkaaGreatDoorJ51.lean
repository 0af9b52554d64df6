/-
  Joined: TopB, TopC, TopD
-/
import Derived.Test.YtlpbbihjnmikkaaGreatDoorJ50
import Derived.Test.YtlpbbihjnmikkaaGreatDoorRows
import Derived.WalkKit
import Derived.ProofKit
import Derived.OpenShut
import Derived.ShutString
import Derived.ChangeOld
import Derived.Below
import Derived.Carry
import Derived.SizedLaws
import Derived.LaidMore
import Derived.MakeChecks
import Derived.Stop.Joined
namespace Go.Proofs.YtlpbbihjnmikkaaGreatDoor.Exe
open Ply
set_option linter.unusedSimpArgs false
set_option linter.unusedVariables false
set_option maxRecDepth 100000

theorem known7_cases {f : FuncId} {k : F} (h : known7 f = some k) : (f = 4 ∧ k = relay [p0]) ∨ (f = 5 ∧ k = relay [p1]) ∨ (f = 7 ∧ k = relay ps7) ∨ known f = some k := by
  unfold known7 at h
  split at h
  · rename_i k' hk
    cases h
    have := pick_cases hk
    simp only [List.mem_cons, List.not_mem_nil, or_false, Prod.mk.injEq] at this
    rcases this with h | h | h
    · exact .inl h
    · exact .inr (.inl h)
    · exact .inr (.inr (.inl h))
  · exact .inr (.inr (.inr h))
theorem ps7_ok : ∀ p, p ∈ ps7 → pieceOk p (runA Tryz.prog known 1000 99 7 p.args (build p.pre) p.nx0 0 0) = true := by
  intro p hp
  simp only [ps7, List.mem_cons, List.not_mem_nil, or_false] at hp
  rcases hp with rfl | rfl | rfl | rfl | rfl | rfl | rfl | rfl | rfl | rfl | rfl | rfl | rfl | rfl | rfl | rfl | rfl | rfl
  · exact p2_ok
  · exact p3_ok
  · exact p4_ok
  · exact p5_ok
  · exact p6_ok
  · exact p7_ok
  · exact p8_ok
  · exact p9_ok
  · exact p10_ok
  · exact p11_ok
  · exact p12_ok
  · exact p13_ok
  · exact p14_ok
  · exact p15_ok
  · exact p16_ok
  · exact p17_ok
  · exact p18_ok
  · exact p19_ok
theorem known7_ok {C : Ciph} (hC : Real C) (f : FuncId) (k : F) (h : known7 f = some k) : CallOk Tryz.prog (lore C) (fun g args => if g = f then k args else Exe.bad 0) := by
  have hK := fun f k h => (known_ok hC f k h).call
  have hl : ∀ f k args, known f = some k → Loc (k args) := fun f k args h => known_loc f k args h
  rcases known7_cases h with ⟨rfl, rfl⟩ | ⟨rfl, rfl⟩ | ⟨rfl, rfl⟩ | h
  · exact (piece_known (L := lore C) (n := 99) (rounds := 1000) (f := 4) named mixed hl hK (ps := [p0]) (fun p hp => by rw [List.mem_singleton.1 hp]; exact p0_ok)).call
  · exact (piece_known (L := lore C) (n := 99) (rounds := 1000) (f := 5) named mixed hl hK (ps := [p1]) (fun p hp => by rw [List.mem_singleton.1 hp]; exact p1_ok)).call
  · exact (piece_known (L := lore C) (n := 99) (rounds := 1000) (f := 7) named mixed hl hK (ps := ps7) ps7_ok).call
  · exact hK f k h
theorem known7_loc (f : FuncId) (k : F) (args : List Slot) (h : known7 f = some k) : Loc (k args) := by
  rcases known7_cases h with ⟨_, rfl⟩ | ⟨_, rfl⟩ | ⟨_, rfl⟩ | h
  · exact relay_loc _ _
  · exact relay_loc _ _
  · exact relay_loc _ _
  · exact known_loc f k args h
end Go.Proofs.YtlpbbihjnmikkaaGreatDoor.Exe

namespace Go.Proofs.YtlpbbihjnmikkaaGreatDoor.Exe
open Ply
set_option linter.unusedSimpArgs false
set_option linter.unusedVariables false
set_option maxRecDepth 100000

theorem foldr_at {g : Nat → Thing Word} {h0 : Heap Word} : ∀ (l : List Nat), (∀ j ∈ l, j < 1000) → ∀ {k : Nat} {x : Thing Word}, (l.foldr (fun j h => Heap.lay h (1 + j) (some (g j))) h0).at k = some x → (∃ j ∈ l, k = 1 + j ∧ x = g j) ∨ h0.at k = some x
  | [], _, k, x, h => .inr h
  | j :: l, hl, k, x, h => by
    rw [List.foldr_cons, at_lay (by have := hl j (by simp); omega)] at h
    split at h
    · rename_i e
      cases h
      exact .inl ⟨j, by simp, e, rfl⟩
    · rcases foldr_at l (fun i hi => hl i (by simp [hi])) h with ⟨i, hi, e⟩ | e
      · exact .inl ⟨i, by simp [hi], e⟩
      · exact .inr e
theorem heapS_at {t b k : Nat} {x : Thing Word} (h : (heapS t b).at k = some x) : (k = 43 ∧ x = .data .still) ∨ (∃ j, j < 32 ∧ k = 1 + j ∧ x = .data (.byte (.atom 3) j)) ∨ (k = 42 ∧ x = .data (.atom b)) ∨ (k = 41 ∧ x = .data (.atom t)) ∨ (k = 40 ∧ x = .data (.atom 9)) ∨ (k = 0 ∧ x = tableT) := by
  unfold heapS at h
  rw [at_lay (by decide)] at h
  split at h
  · rename_i e
    cases h
    exact .inl ⟨e, rfl⟩
  · rcases foldr_at (g := fun j => .data (.byte (.atom 3) j)) (List.range 32) (fun j hj => by have := List.mem_range.1 hj; omega) h with ⟨j, hj, e⟩ | h
    · exact .inr (.inl ⟨j, List.mem_range.1 hj, e⟩)
    · rw [at_lay (by decide), at_lay (by decide), at_lay (by decide), at_lay (by decide), at_leaf] at h
      split at h
      · rename_i e
        cases h
        exact .inr (.inr (.inl ⟨e, rfl⟩))
      · split at h
        · rename_i e
          cases h
          exact .inr (.inr (.inr (.inl ⟨e, rfl⟩)))
        · split at h
          · rename_i e
            cases h
            exact .inr (.inr (.inr (.inr (.inl ⟨e, rfl⟩))))
          · split at h
            · rename_i e
              cases h
              exact .inr (.inr (.inr (.inr (.inr ⟨e, rfl⟩))))
            · cases h
/-- The program's ciphers over the bytes at the door. -/
noncomputable def doorC (W : World) (key seed text beside : List Oct) (hk : key.length = 32) (ht : text.length ≤ 9223372036854775807) (hb : beside.length ≤ 9223372036854775807) : Ciph where
  atom n := if n = 0 then (if text.length ≤ 64 then text else []) else if n = 1 then (if beside.length ≤ 32 then beside else []) else if n = 2 then seed.take 100 else if n = 3 then key else if n = 4 then [0] else
    if n = 5 then (if text.length ≤ 64 then List.replicate 65 0 else text) else if n = 6 then (if beside.length ≤ 32 then List.replicate 33 0 else beside) else if n = 9 then seed else []
  mac := macF
  vkey k d := macF k (nameB ++ [BitVec.ofNat 8 d] ++ [1])
  dkey := dkF
  dval := dvF
  sealed k n b t := sealG k (oct8 n) b t
  past := W
  atom0 := by
    show (if text.length ≤ 64 then text else []).length ≤ 64
    split
    · assumption
    · exact Nat.zero_le _
  atom1 := by
    show (if beside.length ≤ 32 then beside else []).length ≤ 32
    split
    · assumption
    · exact Nat.zero_le _
  few := rfl
  atom3 := hk
  atom4 := by
    show ([0] : List Oct).length ≤ 100 ∧ 0 < ([0] : List Oct).length
    decide
  atom5 := by
    show (if text.length ≤ 64 then List.replicate 65 0 else text).length ≤ 9223372036854775807 ∧ 64 < (if text.length ≤ 64 then List.replicate 65 0 else text).length
    split
    · rw [List.length_replicate]; decide
    · exact ⟨ht, by omega⟩
  atom6 := by
    show (if beside.length ≤ 32 then List.replicate 33 0 else beside).length ≤ 9223372036854775807 ∧ 32 < (if beside.length ≤ 32 then List.replicate 33 0 else beside).length
    split
    · rw [List.length_replicate]; decide
    · exact ⟨hb, by omega⟩
  atom7 := Nat.zero_le _
  mac_len := macF_len
  vkey_len _ _ := macF_len _ _
  dkey_len := dkF_len
  dval_len := dvF_len
  sealed_len _ _ _ _ := sealG_len _ _ _ _
  op _ _ _ := List.replicate 16 0
  op_len _ _ _ := List.length_replicate
/-- Where the things at the door are. -/
noncomputable def doorNu (W : World) (key : List Oct) (u9 ut ub : Value) (s9 st sb : Nat → Prop) : Nu := fun k =>
  if k = 0 then some (.blk 0 1) else if k = 43 then some (.val (.bool true) (fun _ => False) (fun i => i < W.heap.size ∧ i ≠ 0)) else if k = 42 then some (.val ub (fun _ => False) sb) else
  if k = 41 then some (.val ut (fun _ => False) st) else if k = 40 then some (.val u9 (fun _ => False) s9) else if k ≤ 32 then some (.val (.int .u8 (key.getD (k - 1) 0).toNat) (fun _ => False) (fun _ => False)) else none
theorem doorNu_val {W : World} {key : List Oct} {u9 ut ub : Value} {s9 st sb : Nat → Prop} (h9 : ¬ s9 0) (ht : ¬ st 0) (hb : ¬ sb 0) {k : Nat} {s : Site} (hk : k ≠ 0) (h : doorNu W key u9 ut ub s9 st sb k = some s) : ∃ v p, s = .val v (fun _ => False) p ∧ ¬ p 0 := by
  unfold doorNu at h
  rw [if_neg hk] at h
  split at h
  · cases h; exact ⟨_, _, rfl, fun h => h.2 rfl⟩
  · split at h
    · cases h; exact ⟨_, _, rfl, hb⟩
    · split at h
      · cases h; exact ⟨_, _, rfl, ht⟩
      · split at h
        · cases h; exact ⟨_, _, rfl, h9⟩
        · split at h
          · cases h; exact ⟨_, _, rfl, fun h => h⟩
          · cases h
theorem tight_zero {u : Value} {s : Nat → Prop} {l : List Oct} {W : World} (hT : Laid W) (h : RowB u s l W) : ∃ s', RowB u s' l W ∧ (∀ i, s' i → i < W.heap.size) ∧ ¬ s' 0 := by
  obtain ⟨s', h1, h2⟩ := h.tight
  refine ⟨s', h1, fun i hi => ?_, fun hi => ?_⟩
  · obtain ⟨cs, t, fr, e, _⟩ := h2 i hi
    exact heap_lt e
  · obtain ⟨cs, t, fr, e, ht⟩ := h2 0 hi
    rw [show W.heap[0]? = _ from hT] at e
    cases e
    exact ht rfl
theorem Ok.door {C : Ciph} {W : World} (hp : C.past = W) (hT : Laid W) {key : List Oct} (hk : key = C.atom 3) {t b : Nat} (ht : isRow (.atom t) = true) (hb : isRow (.atom b) = true) {u9 ut ub : Value} {s9 st sb : Nat → Prop}
    (h9 : RowB u9 s9 (C.atom 9) W) (l9 : ∀ i, s9 i → i < W.heap.size) (z9 : ¬ s9 0) (h8 : RowB ut st (C.atom t) W) (l8 : ∀ i, st i → i < W.heap.size) (z8 : ¬ st 0) (h7 : RowB ub sb (C.atom b) W) (l7 : ∀ i, sb i → i < W.heap.size) (z7 : ¬ sb 0) :
    Ok Tryz.prog (lore C) (doorNu W key u9 ut ub s9 st sb) (heapS t b) W where
  base := rfl
  calm := by rw [show (lore C).home = W from hp]; exact Calm.refl _
  thing k x hx := by
    rcases heapS_at hx with ⟨rfl, rfl⟩ | ⟨j, hj, rfl, rfl⟩ | ⟨rfl, rfl⟩ | ⟨rfl, rfl⟩ | ⟨rfl, rfl⟩ | ⟨rfl, rfl⟩
    · exact ⟨_, rfl, nobody_no, fun b hb => ⟨hb.1, by rw [hp]⟩⟩
    · refine ⟨.val (.int .u8 (key.getD j 0).toNat) (fun _ => False) (fun _ => False), ?_, nobody_no, nobody_no, key.getD j 0, ?_, rfl⟩
      · unfold doorNu
        rw [if_neg (by omega), if_neg (by omega), if_neg (by omega), if_neg (by omega), if_neg (by omega), if_pos (by omega), Nat.add_sub_cancel_left]
      · show (C.atom 3)[j]? = _
        have := C.atom3
        rw [hk, List.getElem?_eq_getElem (by omega)]
        congr 1
        rw [List.getD, List.getElem?_eq_getElem (by omega)]
        rfl
    · exact ⟨_, rfl, nobody_no, l7, h7⟩
    · exact ⟨_, rfl, nobody_no, l8, h8⟩
    · exact ⟨_, rfl, nobody_no, l9, h9⟩
    · refine ⟨_, rfl, tableV, hT, ?_, ?_, fun _ => ?_⟩
      · rw [List.take_of_length_le (by simp [tableV, table_len])]
        exact flats_of _ _
      · simp [tableV, table_len]
      · obtain ⟨i, hi, hs⟩ := Option.map_eq_some_iff.1 info424
        exact ⟨i, hi, by rw [hs]; simp [tableV, table_len]⟩
  apart k k' x x' s s' hne hx hx' hs hs' b hb := by
    by_cases h0 : k = 0
    · subst h0
      cases hs
      cases hb
      obtain ⟨v, p, rfl, hp⟩ := doorNu_val z9 z8 z7 (fun e => hne e.symm) hs'
      exact ⟨fun h => h, hp⟩
    · obtain ⟨v, p, rfl, hp⟩ := doorNu_val z9 z8 z7 h0 hs
      exact hb.elim
theorem still43_at {h : Heap Word} (e : still43 h = true) : h.at 43 = some (.data .still) := by
  unfold still43 at e
  split at e
  · assumption
  · cases e
theorem door_runs {C : Ciph} (hC : Real C) {W : World} (hp : C.past = W) (hT : Laid W) {t b : Nat} (ht : isRow (.atom t) = true) (hb : isRow (.atom b) = true) {u9 ut ub : Value} {s9 st sb : Nat → Prop}
    (h9 : RowB u9 s9 (C.atom 9) W) (h8 : RowB ut st (C.atom t) W) (h7 : RowB ub sb (C.atom b) W) (hr : playB (runA Tryz.prog known7 1000 100 3 [secretS, .one (.tok 41), .one (.tok 42)] (heapS t b) 100 0 0) = true) :
    Calls Tryz.prog 3 #[.agg (octs (C.atom 3) ++ [u9]).toArray, ut, ub] W fun e W' => e = .returned (.bool true) ∧ Keeps W.heap.size W W' := by
  unfold playB at hr
  split at hr
  · rename_i v h' nx' r' w' he
    simp only [Bool.and_eq_true] at hr
    obtain ⟨⟨hv, h1⟩, h0⟩ := hr
    obtain ⟨s9', h9', l9, z9⟩ := tight_zero hT h9
    obtain ⟨st', h8', l8, z8⟩ := tight_zero hT h8
    obtain ⟨sb', h7', l7, z7⟩ := tight_zero hT h7
    have one9 : u9.oneCell' = true := by obtain ⟨a, c, rfl⟩ := h9.slice; rfl
    have one8 : ut.oneCell' = true := by obtain ⟨a, c, rfl⟩ := h8.slice; rfl
    have one7 : ub.oneCell' = true := by obtain ⟨a, c, rfl⟩ := h7.slice; rfl
    have hok := Ok.door hp hT (key := C.atom 3) rfl ht hb h9' l9 z9 h8' l8 z8 h7' l7 z7
    have hsec : RepS (doorNu W (C.atom 3) u9 ut ub s9' st' sb') secretS (.agg (octs (C.atom 3) ++ [u9]).toArray) := by
      refine .agg ?_ rfl
      refine All2.append ?_ (.cons (.tok rfl one9) .nil)
      have hlen := C.atom3
      have hl : octs (C.atom 3) = (List.range 32).map fun j => Value.int .u8 ((C.atom 3).getD j 0).toNat := by
        apply List.ext_getElem?
        intro i
        by_cases hi : i < 32
        · rw [List.getElem?_eq_getElem (by rw [octs_len]; omega), List.getElem?_eq_getElem (by simpa using hi)]
          simp [octs, hlen, hi]
        · rw [List.getElem?_eq_none (by rw [octs_len]; omega), List.getElem?_eq_none (by simpa using hi)]
      rw [hl]
      have key : ∀ l : List Nat, (∀ j ∈ l, j < 32) → RepL (doorNu W (C.atom 3) u9 ut ub s9' st' sb') (l.map fun j => .tok (1 + j)) (l.map fun j => Value.int .u8 ((C.atom 3).getD j 0).toNat) := by
        intro l
        induction l with
        | nil => exact fun _ => .nil
        | cons j l ih =>
          intro hl
          refine .cons (.tok (o := fun _ => False) (s := fun _ => False) ?_ rfl) (ih fun i hi => hl i (by simp [hi]))
          have := hl j (by simp)
          unfold doorNu
          rw [if_neg (by omega), if_neg (by omega), if_neg (by omega), if_neg (by omega), if_neg (by omega), if_pos (by omega), Nat.add_sub_cancel_left]
      exact key _ fun j hj => List.mem_range.1 hj
    refine (run_sim named mixed known7_loc (known7_ok hC) 1000 100 3 _ _ 100 0 0 v h' nx' r' w' he _ W #[.agg (octs (C.atom 3) ++ [u9]).toArray, ut, ub] hok (fun k hk _ => ?_) (.cons hsec (.cons (.one (.tok rfl one8)) (.cons (.one (.tok rfl one7)) .nil)))).mono fun e W' ⟨v', ν', e1, e2, e3, e4⟩ => ?_
    · unfold doorNu
      rw [if_neg (by omega), if_neg (by omega), if_neg (by omega), if_neg (by omega), if_neg (by omega), if_neg (by omega)]
    · have hv' : v = .one (.bool true) := eqS_eq hv
      subst hv'
      refine ⟨?_, ?_⟩
      · cases e4 with
        | one hc =>
          cases hc
          exact e1
      · obtain ⟨s, hs, hc⟩ := e3.thing 43 _ (still43_at h1)
        rw [e2.sub 43 _ rfl] at hs
        cases hs
        obtain ⟨_, hx⟩ := hc
        have hall : ∀ i : Nat, i < W.heap.size → W'.heap[i]? = W.heap[i]? := fun i hi => by
          by_cases e : i = 0
          · rw [e]; exact (table0_laid e3 h0).trans (show W.heap[0]? = _ from hT).symm
          · have := (hx i ⟨hi, e⟩).2
            rw [hp] at this
            exact this
        refine ⟨?_, hall, by have := e3.calm; rw [show (lore C).home = W from hp] at this; exact this⟩
        rcases Nat.lt_or_ge W'.heap.size W.heap.size with h | h
        · have e1 := hall _ h
          rw [Array.getElem?_eq_none (Nat.le_refl _), Array.getElem?_eq_getElem h] at e1
          cases e1
        · exact h
  · cases hr
/-- THE WALK: whatever the key, the seed, the text and what is beside, the law answers true. -/
theorem top_back {W : World} (hT : Laid W) {key seed text beside : List Oct} (hk : key.length = 32) (ht : text.length ≤ 9223372036854775807) (hb : beside.length ≤ 9223372036854775807) {u9 ut ub : Value} {s9 st sb : Nat → Prop}
    (h9 : RowB u9 s9 seed W) (h8 : RowB ut st text W) (h7 : RowB ub sb beside W) :
    Calls Tryz.prog 3 #[.agg (octs key ++ [u9]).toArray, ut, ub] W fun e W' => e = .returned (.bool true) ∧ Keeps W.heap.size W W' := by
  have hC : Real (doorC W key seed text beside hk ht hb) := ⟨fun _ _ => rfl, fun _ => rfl, fun _ => rfl, fun _ _ => rfl, fun _ _ _ _ => rfl⟩
  have a0 : text.length ≤ 64 → (doorC W key seed text beside hk ht hb).atom 0 = text := fun h => if_pos h
  have a5 : ¬ text.length ≤ 64 → (doorC W key seed text beside hk ht hb).atom 5 = text := fun h => if_neg h
  have a1 : beside.length ≤ 32 → (doorC W key seed text beside hk ht hb).atom 1 = beside := fun h => if_pos h
  have a6 : ¬ beside.length ≤ 32 → (doorC W key seed text beside hk ht hb).atom 6 = beside := fun h => if_neg h
  by_cases c1 : text.length ≤ 64
  · by_cases c2 : beside.length ≤ 32
    · exact door_runs hC rfl hT rfl rfl h9 (by rw [a0 c1]; exact h8) (by rw [a1 c2]; exact h7) play_ok
    · exact door_runs hC rfl hT rfl rfl h9 (by rw [a0 c1]; exact h8) (by rw [a6 c2]; exact h7) wide_ok
  · by_cases c2 : beside.length ≤ 32
    · exact door_runs hC rfl hT rfl rfl h9 (by rw [a5 c1]; exact h8) (by rw [a1 c2]; exact h7) long_ok
    · exact door_runs hC rfl hT rfl rfl h9 (by rw [a5 c1]; exact h8) (by rw [a6 c2]; exact h7) long6_ok
end Go.Proofs.YtlpbbihjnmikkaaGreatDoor.Exe

namespace Go.Proofs.YtlpbbihjnmikkaaGreatDoor.Exe
open Go.ChangeShapes Go.WideShapes Go.ChangeAt Go.RowKit
set_option linter.unusedSimpArgs false
set_option linter.unusedVariables false
set_option maxRecDepth 100000

/-- What the row lists. -/
abbrev laidL : List (String × DataW Unit) := [("strongroom/sha.add", Rows.laid_strongroom_sha_add)]
theorem rowAt_no {f : TypeId → Bool} (h1 : f 424 = false) (h2 : f 308 = false) (d count off n : Nat) : rowAt Tryz.prog f (d + 2) 424 count off n = false := by
  unfold rowAt
  simp only [h1, Tryz.underlying424, Bool.and_false, Bool.false_or]
  split
  · rfl
  · unfold rowAt
    simp only [h2, Tryz.underlying308, Bool.and_false, Bool.false_or, ite_self]
theorem fits424 : sameLayout Tryz.prog Tryz.prog.depth 424 5 = false := by kernel_rfl
theorem fits308 : sameLayout Tryz.prog Tryz.prog.depth 308 5 = false := by kernel_rfl
/-- No row of bytes lies in the table's block. -/
theorem lies_no (count off n : Nat) : liesAt Tryz.prog Tryz.prog.depth 424 count off 5 n = false := by
  obtain ⟨d, hd⟩ : ∃ d, Tryz.prog.depth = d + 2 := ⟨1102, by kernel_rfl⟩
  have h := rowAt_no (f := fun u => sameLayout Tryz.prog Tryz.prog.depth u 5) fits424 fits308 d count off n
  rw [← hd] at h
  have key : ∀ k, liesAt Tryz.prog (k + 1) 424 count off 5 n = false := fun k => by
    unfold liesAt
    rw [h, Tryz.underlying5]
    rfl
  have := key (d + 1)
  rw [show d + 1 + 1 = Tryz.prog.depth from hd.symm] at this
  exact this
theorem has_block {w : World} {r : Reach} {base n : Nat} {a : Addr} (h : w.has Tryz.prog r base a 5 n) : a.spot = none ∧ ∃ cs t fr, w.heap[a.block]? = some (.cells cs t fr) ∧ t ≠ 424 := by
  obtain ⟨_, hs, row, cells, hsh, hl⟩ := h
  unfold World.shape? at hsh
  split at hsh
  · rename_i c e fr hb
    cases hsh
    refine ⟨hs, _, _, _, hb, fun e => ?_⟩
    subst e
    rw [lies_no] at hl
    cases hl
  · cases hsh
theorem byte_of (a : Int) (h : (Lit.int .u8 a).wf = true) : ∃ x : Oct, a = (x.toNat : Int) := by
  have hx : 0 ≤ a ∧ a ≤ 255 := by simpa [Lit.wf, IntKind.min, IntKind.max, IntKind.signed, IntKind.bits] using h
  refine ⟨BitVec.ofNat 8 a.toNat, ?_⟩
  rw [BitVec.toNat_ofNat]
  omega
section
variable {H : Type} {enc : TypeId × Value → H} {W : World} {base : Nat} {sp : Nat → Bool} {held : Bool}
/-- A row of bytes that an argument has. -/
theorem open_bytes {r : Reach} {b0 fuel : Nat} {v : Value} {x : DataW H × List MemPlace} (hval : Cell.okWide Tryz.prog W r b0 24 v) (hf : DataW.trod enc Tryz.prog W base sp held fuel 24 [v] = some x) :
    ∃ (s : Nat → Prop) (l : List Oct), RowB v s l W ∧ l.length ≤ 9223372036854775807 := by
  rcases open_ints Tryz.underlying24 Tryz.underlying5 (by kernel_rfl) hf with ⟨h1, _⟩ | ⟨ad, len, cap, zs, h1, _, hlc, hm, hz, hx, hcell, hwf⟩
  · obtain rfl : v = .slice none 0 0 := by simpa using h1
    exact ⟨fun _ => False, [], .inl ⟨rfl, rfl⟩, by simp⟩
  · obtain rfl : v = .slice (some ad) len cap := by simpa using h1
    simp only [Cell.okWide, Cell.ok, Tryz.underlying24] at hval
    obtain ⟨_, _, hh⟩ := hval
    obtain ⟨hs, hb⟩ := has_block hh
    obtain ⟨b, o, spot⟩ := ad
    cases hs
    have hzl : len ≤ zs.length := by rw [hz]; split <;> omega
    have hl : ((zs.take len).map fun z => BitVec.ofNat 8 z.toNat).length = len := by simp; omega
    refine ⟨fun i => i = b, (zs.take len).map fun z => BitVec.ofNat 8 z.toNat, .inr ⟨b, o, cap, by rw [hl], by rw [hl]; exact hlc, rfl, hb, fun j hj => ?_⟩, ?_⟩
    · rw [hl] at hj
      rw [← add_any b o j, hcell j (by omega)]
      have hj' : j < zs.length := by omega
      obtain ⟨y, hy⟩ := byte_of _ (hwf _ (List.getElem_mem hj'))
      have e3 : zs.getD j 0 = (y.toNat : Int) := by rw [← hy]; simp [List.getD, hj']
      rw [e3]
      simp [hy]
    · rw [hl]
      simp only [maxLen] at hm
      omega
theorem open_rowV {r : Reach} {b0 : Nat} {v : Value} {d : DataW H} {ps : List MemPlace} (hval : Value.okWide Tryz.prog W r b0 24 v) (hd : DataW.Trod enc Tryz.prog W base sp held 24 v d ps) :
    ∃ (s : Nat → Prop) (l : List Oct), RowB v s l W ∧ l.length ≤ 9223372036854775807 := by
  obtain ⟨a, len, cap, rfl⟩ := okWide_slice Tryz.underlying24 hval
  obtain ⟨fuel, hf⟩ := hd
  simp only [Value.okWide, Tryz.underlying24] at hval
  exact open_bytes hval hf
/-- The secret that an argument has: thirty-two bytes and a row. -/
theorem open_secret {r : Reach} {b0 : Nat} {v : Value} {d : DataW H} {ps : List MemPlace} (hval : Value.okWide Tryz.prog W r b0 26 v) (hd : DataW.Trod enc Tryz.prog W base sp held 26 v d ps) :
    ∃ (key : List Oct) (u : Value) (s : Nat → Prop) (l : List Oct), v = .agg (octs key ++ [u]).toArray ∧ key.length = 32 ∧ RowB u s l W := by
  simp only [Value.okWide, Tryz.underlying26] at hval
  obtain ⟨cs, rfl, hsz, ts, hts, _, hok⟩ := hval
  have hc26 : Tryz.prog.cellsOf 26 = 33 := by kernel_rfl
  have hc23 : Tryz.prog.cellsOf 23 = 32 := by kernel_rfl
  have hc24 : Tryz.prog.cellsOf 24 = 1 := by kernel_rfl
  have hc5 : Tryz.prog.cellsOf 5 = 1 := by kernel_rfl
  rw [hc26] at hsz
  have hts' : Tryz.prog.cellTypes Tryz.prog.depth 26 = some (List.replicate 32 5 ++ [24]) := by kernel_rfl
  obtain rfl : ts = List.replicate 32 5 ++ [24] := Option.some.inj (hts.symm.trans hts')
  obtain ⟨fuel, hf⟩ := hd
  obtain ⟨xs, m, rfl, hx, hl, hxl, hel⟩ := DataW.trod_struct Tryz.underlying26 hf
  have e1 : (Value.cells (.agg cs)).toList = cs.toList := rfl
  rw [e1] at hel
  have h0 : DataW.trod enc Tryz.prog W base sp held m 23 ((cs.toList.drop 0).take (Tryz.prog.cellsOf 23)) = xs[0]? := hel 0 _ rfl
  have h1 : DataW.trod enc Tryz.prog W base sp held m 24 ((cs.toList.drop 32).take (Tryz.prog.cellsOf 24)) = xs[1]? := hel 1 _ rfl
  rw [hc23] at h0
  rw [hc24] at h1
  have hx2 : xs.length = 2 := hxl
  obtain ⟨x0, hx0⟩ : ∃ y, xs[0]? = some y := ⟨xs[0]'(by omega), List.getElem?_eq_getElem (by omega)⟩
  obtain ⟨x1, hx1⟩ : ∃ y, xs[1]? = some y := ⟨xs[1]'(by omega), List.getElem?_eq_getElem (by omega)⟩
  rw [hx0] at h0
  rw [hx1] at h1
  obtain ⟨c32, hc32⟩ : ∃ c, cs[32]? = some c := ⟨cs[32]'(by omega), Array.getElem?_eq_getElem (by omega)⟩
  have hlast : (cs.toList.drop 32).take 1 = [c32] := by
    apply List.ext_getElem?
    intro i
    rcases i with _ | i
    · rw [List.getElem?_take_of_lt (by omega), List.getElem?_drop]
      simpa using hc32
    · rw [List.getElem?_eq_none (by simp; omega), List.getElem?_eq_none (by simp)]
  rw [hlast] at h1
  obtain ⟨u0, hu0, hcell⟩ := hok 32 c32 hc32
  obtain rfl : u0 = 24 := by simpa using hu0.symm
  obtain ⟨s, l, hrow, _⟩ := open_bytes hcell h1
  obtain ⟨ys, m', rfl, hy, hyl, hyx, hyel⟩ := DataW.trod_array Tryz.underlying23 h0
  have key : ∀ i, i < 32 → ∃ x : Oct, cs[i]? = some (.int .u8 x.toNat) := by
    intro i hi
    have h2 := hyel i hi
    obtain ⟨y, hy⟩ : ∃ y, ys[i]? = some y := ⟨ys[i]'(by omega), List.getElem?_eq_getElem (by omega)⟩
    rw [hy, hc5] at h2
    obtain ⟨a, ha, rfl, hw⟩ := DataW.trod_int Tryz.underlying5 h2
    obtain ⟨x, rfl⟩ := byte_of a hw
    refine ⟨x, ?_⟩
    have h3 := congrArg (fun l => l[0]?) ha
    simp only [Nat.mul_one, List.drop_zero] at h3
    rw [List.getElem?_take_of_lt (by omega), List.getElem?_drop, List.getElem?_take_of_lt (by omega)] at h3
    simpa using h3
  refine ⟨(List.range 32).map fun i => if h : i < 32 then (key i h).choose else 0#8, c32, s, l, ?_, by simp, hrow⟩
  congr 1
  apply Array.ext_getElem?
  intro i
  rcases Nat.lt_trichotomy i 32 with hi | rfl | hi
  · rw [(key i hi).choose_spec]
    simp [octs, hi, List.getElem?_append]
  · rw [hc32]
    simp [octs, List.getElem?_append]
  · rw [Array.getElem?_eq_none (by omega), Array.getElem?_eq_none (by simp [octs]; omega)]
end
/-- WHAT THE CONDITION GIVES: the table's block. -/
theorem of_laid {W : World} (hs : W.ShapedOpen Tryz.prog) (h : laidMetH Tryz.prog laidL W) : Laid W := by
  rw [MakeChecks.laidMetH_plain _ _ _ (by kernel_rfl)] at h
  obtain ⟨ps, ⟨g0, t0, cs0, f0, p0, q0, hg0, ht0, hv0, hd0, _, _⟩, _, _⟩ := h
  obtain rfl := Option.some.inj ((show Tryz.prog.globalNamed "strongroom/sha.add" = some 0 by kernel_rfl).symm.trans hg0)
  obtain rfl := Option.some.inj ((show (Tryz.prog.globals[0]?).map (·.type) = some 424 by kernel_rfl).symm.trans ht0)
  have hrow : (((begin Tryz.prog (fun _ _ => 0) default).world.heap[0]?).bind Obj.row?).map (·.2) = some 424 := by kernel_rfl
  obtain ⟨⟨zero, t⟩, hz, ht⟩ := Option.map_eq_some_iff.1 hrow
  cases ht
  obtain ⟨cs, hcs, hsz, _⟩ := hs.1 0 zero 424 (by rw [show Tryz.prog.globals.size = 1 by kernel_rfl]; decide) hz
  have hcs0 : cs0 = cs := by
    unfold World.var? at hv0
    rw [show Tryz.prog.globalNamed "strongroom/sha.add" = some 0 by kernel_rfl] at hv0
    simp only [Option.bind_some] at hv0
    rw [hcs] at hv0
    simpa using hv0.symm
  subst hcs0
  have hc308 : Tryz.prog.cellsOf 308 = 1 := by kernel_rfl
  obtain ⟨xs, m, rfl, hx, hl, hxl, hel⟩ := DataW.trod_array Tryz.underlying424 hd0
  have hdat : (Rows.laid_strongroom_sha_add : DataW Unit) = .agg (table.map fun n => .lit (.int .u32 (.ofNat n))) := by kernel_rfl
  simp only [Prod.mk.injEq] at hx
  rw [hdat] at hx
  have hmap : table.map (fun n => (.lit (.int .u32 (.ofNat n)) : DataW Unit)) = xs.map (·.1) := by simpa using hx.1
  show W.heap[0]? = some (.cells tableV 424 (0, 0))
  rw [hcs]
  congr 2
  apply Array.ext_getElem?
  intro i
  have hlen : cs0.size = 64 := by
    have hc424 : Tryz.prog.cellsOf 424 = 64 := by kernel_rfl
    rw [hc424] at hl
    simpa using hl
  by_cases hi : i < 64
  · have h2 := hel i hi
    obtain ⟨y, hy⟩ : ∃ y, xs[i]? = some y := ⟨xs[i]'(by omega), List.getElem?_eq_getElem (by omega)⟩
    rw [hy, hc308] at h2
    obtain ⟨a, ha, rfl, hw⟩ := DataW.trod_int Tryz.underlying308 h2
    have h3 := congrArg (fun l => l[i]?) hmap
    simp only [List.getElem?_map, hy, Option.map_some] at h3
    have htl : i < table.length := by rw [table_len]; exact hi
    rw [List.getElem?_eq_getElem htl] at h3
    have h4 : (Int.ofNat table[i]) = a := by simpa using h3
    have h5 := congrArg (fun l => l[0]?) ha
    simp only [Nat.mul_one] at h5
    rw [List.getElem?_take_of_lt (by omega), List.getElem?_drop] at h5
    have h6 : cs0[i]? = some (.int .u32 a) := by simpa using h5
    rw [h6, ← h4]
    simp [tableV, htl]
  · rw [Array.getElem?_eq_none (by omega), Array.getElem?_eq_none (by simp [tableV, table_len]; omega)]
end Go.Proofs.YtlpbbihjnmikkaaGreatDoor.Exe
