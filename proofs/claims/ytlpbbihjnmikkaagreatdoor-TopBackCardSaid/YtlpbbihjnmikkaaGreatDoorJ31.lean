/-
  Joined: JouB, DskC
-/
import Derived.Test.YtlpbbihjnmikkaaGreatDoorJ25
import Derived.Test.YtlpbbihjnmikkaaGreatDoorJ30
import Derived.Test.YtlpbbihjnmikkaaGreatDoorJ21
namespace Go.Proofs.YtlpbbihjnmikkaaGreatDoor.Exe
set_option linter.unusedSimpArgs false
set_option linter.unusedVariables false
set_option maxRecDepth 100000
open Go.RowKit

theorem cells_take {w : World} {g : Nat} {t : TypeId} {L : List Oct} (h : Cells w g (octs L).toArray t) (hL : L.length = 32) : Src (.slice (some ⟨g, 0, none⟩) 4 32) (L.take 4) w := by
  have hl : (L.take 4).length = 4 := by simp [hL]
  refine .inr ⟨g, 0, 32, by rw [hl], by omega, h.lt, fun j hj => ?_⟩
  rw [Nat.zero_add, h.cell]
  have : j < L.length := by omega
  simp [octs, this]
theorem nil_row (w : World) : RowB (.slice none 0 0) (fun _ => False) [] w := .inl ⟨rfl, rfl⟩
set_option maxHeartbeats 1000000 in
theorem frame258 {w : World} {u : Value} {l : List Oct} (hT : Laid w) (hu : Src u l w) (hl : l.length ≤ 255) : Calls Tryz.prog 258 #[u] w fun e w' => ∃ v L, e = .returned (.tuple #[v, .int .i64 0]) ∧ (0 < L.length ∧ L.length ≤ 1000) ∧ Owns w' w.heap.size v L ∧ Keeps w.heap.size w w' := by
  have hl1 : l.length < 256 := by omega
  have hl2 : l.length ≤ 2048 := by omega
  have hS := shaF_len l
  have h4 : ((shaF l).take 4).length ≤ 8192 := by simp; omega
  have hP : (([] : List Oct) ++ (num l.length ++ l)).length ≤ 8192 := by have := num_le l.length; simp; omega
  go_enter Tryz.func258, Tryz.ntmps258
  go_wp2_with (first
    | (go_at_call 118; (with_reducible refine (putText118' (nil_row w) (fun _ h => h.elim) (by decide) hu hl1).mono ?_); rintro e w1 ⟨v1, rfl, o1, k1⟩)
    | (go_at_call 289; (with_reducible refine (hash289 (hT.keeps k1.2) (hu.later k1.1 k1.2) hl2).mono ?_); rintro e w2 ⟨rfl, k2⟩; have o2 := o1.keeps k2; have q2 := k1.trans k2 k1.1; have hz2 : Cells (w2.alloc (.cells z32 195)) w2.heap.size z32 195 := heap_new w2 z32 195)
    | (with_reducible refine wpList_storeA 195 rfl (.tmp 6) (.tmp 16) rfl rfl rfl hz2 (info195s _) (z32s _) (shaF_one _) ?_; intro w3 hc3 hz3 hb3; have k3 := Keeps.allocStore _ hz3 hb3; have o3 := o2.keeps k3; have q3 := q2.trans k3 q2.1; have s3 := cells_take hc3 hS; clear hz2 hz3 hb3 o1 o2 k1 k2 k3 q2; generalize w2.heap.size = g at s3 ⊢)
    | (with_reducible refine wpList_behind (u := .slice (some ⟨g, 0, none⟩) 4 32) rfl (.tmp 17) (.tmp 18) rfl o3 hP q3.1 rfl rfl s3 h4 ?_; intro v4 w4 o4 k4))
  go_ret2
  refine ⟨v4, _, rfl, ?_, o4, ⟨Nat.le_trans q3.1 k4.1, fun i hi => (k4.2 i hi).trans (q3.2 i hi), q3.3.trans k4.3⟩⟩
  have := num_le l.length
  simp
  omega
theorem frame_known (C : Ciph) : KnownOk Tryz.prog (lore C) 258 fFrame := fun args h nx r w v h' nx' r' w' he ν W args' hok hf ha => by
  unfold fFrame at he
  split at he
  · rename_i s
    obtain ⟨l⟩ := args'
    cases ha with
    | cons ha1 ha =>
      cases ha
      obtain ⟨hT, r0, w0, e0⟩ := tabled_ok info424 hok he
      obtain ⟨d, r1, w1, e1, hd⟩ := bytesOf_src e0 hok ha1
      obtain ⟨hlen, _, e2⟩ := upTo_ok (C := C) e1
      refine pair_ends hok e2 hf ((frame258 hT hd hlen).mono fun e W' ⟨u, L, g1, g2, g3, g4⟩ => ⟨u, fun j => W.heap.size ≤ j ∧ j < W'.heap.size, g1, ?_, g4.stays, ⟨nobody_no, fun _ h => h.2, L, g2, g3.rowB⟩, fun j hj => .inl hj.1⟩)
      obtain ⟨a, c, rfl⟩ := g3.slice
      rfl
  · cases he
theorem knownJ_loc (f : FuncId) (k : F) (args : List Slot) (h : knownJ f = some k) : Loc (k args) := by
  have := pick_cases h
  simp only [List.mem_cons, List.not_mem_nil, or_false, Prod.mk.injEq] at this
  rcases this with ⟨_, rfl⟩ | ⟨_, rfl⟩ | ⟨_, rfl⟩
  · exact fPut_loc _
  · exact fPutText_loc _
  · exact fFrame_loc _
theorem knownJ_ok (C : Ciph) (f : FuncId) (k : F) (h : knownJ f = some k) : CallOk Tryz.prog (lore C) (fun g args => if g = f then k args else Exe.bad 0) := by
  have := pick_cases h
  simp only [List.mem_cons, List.not_mem_nil, or_false, Prod.mk.injEq] at this
  rcases this with ⟨rfl, rfl⟩ | ⟨rfl, rfl⟩ | ⟨rfl, rfl⟩
  · exact (put_known C).call
  · exact (putText_known C).call
  · exact (frame_known C).call
/-- The same ciphers, an entry's bytes told. -/
def Ciph.data (C : Ciph) (W : World) (l : List Oct) (h : l.length ≤ 240) : Ciph :=
  { C with
    past := W
    atom := fun n => if n = 7 then l else C.atom n
    atom0 := C.atom0
    atom1 := C.atom1
    few := C.few
    atom3 := C.atom3
    atom4 := C.atom4
    atom5 := C.atom5
    atom6 := C.atom6
    atom7 := h }
/-- What Put answers. -/
def PutEnds (W : World) (e : Ending) (W' : World) : Prop := ∃ u L, e = .returned (.tuple #[u, .int .i64 0]) ∧ (0 < L.length ∧ L.length ≤ 1000) ∧ Src u L W' ∧ u.oneCell' = true ∧ Keeps W.heap.size W W'
theorem put_run {C : Ciph} {W : World} (hp : C.past = W) {u : Value} {s : Nat → Prop} (hT : Laid W) (hu : RowB u s (C.atom 7) W) {cs : List Cell} {vs : List Value} (hr : putOk (putRun cs) = true) (hcs : RepL ((frameNu W true).set 2 (.val u (fun _ => False) (fun i => s i ∧ ∃ cs t fr, W.heap[i]? = some (.cells cs t fr) ∧ t ≠ 424))) cs vs) (hlen : cs.length = 10) :
    Calls Tryz.prog 201 #[.agg vs.toArray] W fun e W' => PutEnds W e W' := by
  unfold putOk at hr
  split at hr
  · rename_i r h' nx' r' w' he
    simp only [Bool.and_eq_true] at hr
    obtain ⟨⟨h1, h0⟩, h2⟩ := hr
    have hu' : RowB u (fun i => s i ∧ ∃ cs t fr, W.heap[i]? = some (.cells cs t fr) ∧ t ≠ 424) (C.atom 7) W := by
      rcases hu with h | ⟨b, o, cap, hv, hc, h0, hb, hq⟩
      · exact .inl h
      · exact .inr ⟨b, o, cap, hv, hc, ⟨h0, hb⟩, hb, hq⟩
    have hlt : ∀ i, (s i ∧ ∃ cs t fr, W.heap[i]? = some (.cells cs t fr) ∧ t ≠ 424) → i < W.heap.size := fun i ⟨_, cs, t, fr, e, _⟩ => heap_lt e
    have hok := (Ok.frameL C W hp hT).token' (frameNu2 W) (by decide) (d := .atom 7) (u := u) (s := fun i => s i ∧ ∃ cs t fr, W.heap[i]? = some (.cells cs t fr) ∧ t ≠ 424) (by
      show says C (.atom 7) u _ _ W
      rw [says_row C rfl]
      exact ⟨nobody_no, hlt, hu'⟩) (fun i hi => .inr ⟨1, .data .still, _, _, _, rfl, rfl, nobody_no, hlt i hi, fun _ e => by
        subst e
        obtain ⟨_, cs, t, fr, e, ht⟩ := hi
        rw [show W.heap[0]? = _ from hT] at e
        cases e
        exact ht rfl⟩)
    refine (run_sim named mixed knownJ_loc (knownJ_ok C) 100 100 201 _ _ 3 0 0 _ h' nx' r' w' he _ W #[.agg vs.toArray] hok (fun k h1 _ => ?_) (.cons (.agg (vs := vs.toArray) hcs hlen) .nil)).mono fun e W' ⟨v', ν', e1, e2, e3, e4⟩ => ?_
    · unfold Nu.set frameNu
      rw [if_neg (by omega), if_neg (by omega), if_neg (by omega)]
    · have hsub : Sub (frameNu W true) ν' := (Sub.set (frameNu2 W) _).trans e2.sub
      have hk := frame_keeps hp hT hsub e3 h1 h0
      cases e4 with
      | @tup _ us hps =>
        obtain ⟨us⟩ := us
        cases hps with
        | cons hp1 hps => cases hps with
          | cons hp2 hps =>
            cases hps
            cases hp1 with
            | one hc1 => cases hp2 with
              | one hc2 =>
                cases hc2
                cases hc1 with
                | tok hν hone =>
                  split at h2
                  · rename_i hat
                    obtain ⟨s3, hs3, ht3⟩ := e3.thing r _ hat
                    rw [hν] at hs3
                    cases hs3
                    obtain ⟨_, _, L, hL, hrow⟩ := ht3
                    exact ⟨_, L, e1, hL, hrow.src, hone, hk⟩
                  · cases h2
  · cases hr
theorem putHard {C : Ciph} {W : World} (hT : Laid W) {a b : Nat} (ha : a ≤ 3) (hb : b ≤ 3) : Calls Tryz.prog 201 #[.agg #[.int .i64 1, .int .i64 0, .int .i64 0, .int .i64 0, .int .i64 a, .int .i64 b, .int .i64 0, .int .i64 0, .slice none 0 0, .slice none 0 0]] W fun e W' => PutEnds W e W' := by
  have hr := List.all_eq_true.1 (List.all_eq_true.1 hards a (List.mem_range.2 (by omega))) b (List.mem_range.2 (by omega))
  refine put_run (C := C.data W [] (by decide)) rfl (u := .slice none 0 0) (s := fun _ => False) hT (.inl ⟨rfl, rfl⟩) hr ?_ rfl
  exact .cons (.nat 1 (by decide)) (.cons (.nat 0 (by decide)) (.cons (.nat 0 (by decide)) (.cons (.nat 0 (by decide)) (.cons (.nat a (by omega)) (.cons (.nat b (by omega)) (.cons (.nat 0 (by decide)) (.cons (.nat 0 (by decide)) (.cons (.flat _ rfl) (.cons (.flat _ rfl) .nil)))))))))
theorem putEntry {C : Ciph} {W : World} (hT : Laid W) {i t k : Nat} {u : Value} {l : List Oct} (hi : i ≤ 40) (h0 : 0 < t) (ht : t ≤ 3) (hk : k ≤ 2) (hu : u = .slice none 0 0 ∨ ∃ s, RowB u s l W ∧ l.length ≤ 240) : Calls Tryz.prog 201 #[.agg #[.int .i64 2, .int .i64 i, .int .i64 0, .int .i64 0, .int .i64 0, .int .i64 0, .int .i64 t, .int .i64 k, u, .slice none 0 0]] W fun e W' => PutEnds W e W' := by
  obtain ⟨t, rfl⟩ : ∃ t', t = t' + 1 := ⟨t - 1, by omega⟩
  rcases hu with rfl | ⟨s, hu, hl⟩
  · have hr := List.all_eq_true.1 (List.all_eq_true.1 (List.all_eq_true.1 ents0 i (List.mem_range.2 (by omega))) t (List.mem_range.2 (by omega))) k (List.mem_range.2 (by omega))
    refine put_run (C := C.data W [] (by decide)) rfl (u := .slice none 0 0) (s := fun _ => False) hT (.inl ⟨rfl, rfl⟩) hr ?_ rfl
    exact .cons (.nat 2 (by decide)) (.cons (.nat i (by omega)) (.cons (.nat 0 (by decide)) (.cons (.nat 0 (by decide)) (.cons (.nat 0 (by decide)) (.cons (.nat 0 (by decide)) (.cons (.nat (t + 1) (by omega)) (.cons (.nat k (by omega)) (.cons (.flat _ rfl) (.cons (.flat _ rfl) .nil)))))))))
  · have hr := List.all_eq_true.1 (List.all_eq_true.1 (List.all_eq_true.1 ents1 i (List.mem_range.2 (by omega))) t (List.mem_range.2 (by omega))) k (List.mem_range.2 (by omega))
    refine put_run (C := C.data W l hl) rfl (u := u) (s := s) hT hu hr ?_ rfl
    have hone : u.oneCell' = true := by
      obtain ⟨a, c, rfl⟩ := hu.slice
      rfl
    exact .cons (.nat 2 (by decide)) (.cons (.nat i (by omega)) (.cons (.nat 0 (by decide)) (.cons (.nat 0 (by decide)) (.cons (.nat 0 (by decide)) (.cons (.nat 0 (by decide)) (.cons (.nat (t + 1) (by omega)) (.cons (.nat k (by omega)) (.cons (.tok (Nu.set_same _ _ _) hone) (.cons (.flat _ rfl) .nil)))))))))
end Go.Proofs.YtlpbbihjnmikkaaGreatDoor.Exe

namespace Go.Proofs.YtlpbbihjnmikkaaGreatDoor.Exe
set_option linter.unusedSimpArgs false
set_option linter.unusedVariables false
set_option maxRecDepth 100000
open Go.RowKit

theorem must63 (w : World) : Calls Tryz.prog 63 #[.int .i64 0] w fun e w' => e = .returned (.tuple #[]) ∧ w = w' := by
  go_enter Tryz.func63, Tryz.ntmps63
  go_wp2
  exact bodyPost_end (results_none rfl _ _ _) rfl ⟨rfl, rfl⟩
theorem wpList_loadM {ops : Array Oper} {rest : List Oper} {o : Oper} {a : Act} {w : World} {Q : Exit → Act → World → Prop} (ty : TypeId) {dd : TypeDesc} (hd : dd.isRow = true) (hu : Tryz.prog.underlying ty = some dd) (hgd : o.guard = none) (x : Operand) (ho : o.op = .load ty x) {g off : Nat} {cs : List Value}
    (hx : a.eval x = .pointer (some ⟨g, off, none⟩)) (hg : w.rangeAt g off cs) (hi : (Tryz.prog.info? ty).map (·.size) = some cs.length) (h : wpList Tryz.prog ops Q rest (a.put o.dst (.agg cs.toArray)) w) : wpList Tryz.prog ops Q (o :: rest) a w := by
  refine wpList_plain hgd fun K hK => ?_
  unfold Oper.wp execOp
  simp only [ho, hx, Instr.loadAt, Instr.sureAddr, Sem.run_bind, Sem.run_pure, Result.andThen_ok]
  rw [run_loadVar_mid w g off ty cs dd hg hu hd hi]
  exact hK _ _ h
/-- The row of records, in its cell. -/
structure Rc (w w' : World) (gb base : Nat) (L : List Oct) : Prop where
  v : ∃ v, Cells w' gb #[v] 24 ∧ Owns w' base v L
  b : But gb base w w'
set_option maxHeartbeats 1000000 in
theorem put221h {w : World} {gb base : Nat} {v : Value} {L : List Oct} {a b : Int} (hP : ∀ W, Keeps w.heap.size w W → Calls Tryz.prog 201 #[.agg #[.int .i64 1, .int .i64 0, .int .i64 0, .int .i64 0, .int .i64 a, .int .i64 b, .int .i64 0, .int .i64 0, .slice none 0 0, .slice none 0 0]] W fun e W' => PutEnds W e W') (hv : Cells w gb #[v] 24) (ho : Owns w base v L) (hL : L.length ≤ 60000) (hgb : gb < base) (hbase : base ≤ w.heap.size) :
    Calls Tryz.prog 221 #[.agg #[.int .i64 1, .int .i64 0, .int .i64 0, .int .i64 0, .int .i64 a, .int .i64 b, .int .i64 0, .int .i64 0, .slice none 0 0, .slice none 0 0], .pointer (some ⟨gb, 0, none⟩)] w fun e w' => ∃ k, e = .returned (.tuple #[]) ∧ (0 < k.length ∧ k.length ≤ 1000) ∧ Rc w w' gb base (L ++ k) := by
  obtain ⟨A, c, rfl⟩ := ho.slice
  have kx := Keeps.alloc w (.cells #[.int .i64 1, .int .i64 0, .int .i64 0, .int .i64 0, .int .i64 a, .int .i64 b, .int .i64 0, .int .i64 0, .slice none 0 0, .slice none 0 0] 250)
  have hP1 := hP _ kx
  have hL2 : L.length ≤ 65536 := by omega
  go_enter Tryz.func221, Tryz.ntmps221
  go_wp2_with (first
    | (go_at_call 201; (with_reducible refine hP1.mono ?_); rintro e w1 ⟨y, k, rfl, hk, sy, hy1, k1⟩; obtain ⟨Ay, cy, rfl⟩ := sy.slice; have kq := kx.trans k1 kx.1; have v1 := hv.keeps kq; have o1 : w1.ownsRow base 5 1 (.slice A L.length c) L.length (L.map fun x => .int .u8 x.toNat) := ho.keeps kq; have q1 := v1.cell 0; simp only [List.getElem?_toArray, List.getElem?_cons_zero] at q1; have hk8 : k.length ≤ 8192 := (by omega))
    | (go_at_call 63; (with_reducible refine (must63 w1).mono ?_); rintro e w0 ⟨rfl, rfl⟩)
    | (at_builtin; refine wpList_append_src (u := .slice Ay k.length cy) rfl (.tmp 12) (.tmp 13) rfl o1 hL2 (Nat.le_trans hbase kq.1) rfl rfl sy hk8 ?_; intro v2 w2 o2 z2 b2; have e2 := owns_of (l := L ++ k) o2 (by simp) (by simp [octs]); clear o2; obtain ⟨A2, c2, rfl⟩ := e2.slice; rw [List.length_append] at e2; have v2c : Cells w2 gb #[.slice A L.length c] 24 := (b2 gb hgb).trans v1; have q2 := v2c.cell 0; have f2 := v2c.frozen 0; simp only [List.getElem?_toArray, List.getElem?_cons_zero] at q2))

  exact bodyPost_end (results_none rfl _ _ _) rfl ⟨k, rfl, hk, ⟨_, v2c.set 0 _, owns_set e2 hgb⟩, But.set ⟨Nat.le_trans kq.1 z2, fun i hi hg => (b2 i hi).trans (kq.2 i (by omega)), by (repeat with_reducible first | exact .refl _ | assumption | refine .alloc ?_ _ | refine .drew ?_ | refine .b ?_ (by assumption) | refine .k ?_ (by assumption) | refine .e ?_ (by assumption) | refine .s ?_ (by assumption) | refine .trans ?_ (by assumption))⟩ 0 _⟩
set_option maxHeartbeats 1000000 in
theorem put221e {w : World} {gb base : Nat} {v : Value} {L : List Oct} {i t kk : Int} {Ad : Option Addr} {nd cd : Nat} (hP : ∀ W, Keeps w.heap.size w W → Calls Tryz.prog 201 #[.agg #[.int .i64 2, .int .i64 i, .int .i64 0, .int .i64 0, .int .i64 0, .int .i64 0, .int .i64 t, .int .i64 kk, .slice Ad nd cd, .slice none 0 0]] W fun e W' => PutEnds W e W') (hv : Cells w gb #[v] 24) (ho : Owns w base v L) (hL : L.length ≤ 60000) (hgb : gb < base) (hbase : base ≤ w.heap.size) :
    Calls Tryz.prog 221 #[.agg #[.int .i64 2, .int .i64 i, .int .i64 0, .int .i64 0, .int .i64 0, .int .i64 0, .int .i64 t, .int .i64 kk, .slice Ad nd cd, .slice none 0 0], .pointer (some ⟨gb, 0, none⟩)] w fun e w' => ∃ k, e = .returned (.tuple #[]) ∧ (0 < k.length ∧ k.length ≤ 1000) ∧ Rc w w' gb base (L ++ k) := by
  obtain ⟨A, c, rfl⟩ := ho.slice
  have kx := Keeps.alloc w (.cells #[.int .i64 2, .int .i64 i, .int .i64 0, .int .i64 0, .int .i64 0, .int .i64 0, .int .i64 t, .int .i64 kk, .slice Ad nd cd, .slice none 0 0] 250)
  have hP1 := hP _ kx
  have hL2 : L.length ≤ 65536 := by omega
  go_enter Tryz.func221, Tryz.ntmps221
  go_wp2_with (first
    | (go_at_call 201; (with_reducible refine hP1.mono ?_); rintro e w1 ⟨y, k, rfl, hk, sy, hy1, k1⟩; obtain ⟨Ay, cy, rfl⟩ := sy.slice; have kq := kx.trans k1 kx.1; have v1 := hv.keeps kq; have o1 : w1.ownsRow base 5 1 (.slice A L.length c) L.length (L.map fun x => .int .u8 x.toNat) := ho.keeps kq; have q1 := v1.cell 0; simp only [List.getElem?_toArray, List.getElem?_cons_zero] at q1; have hk8 : k.length ≤ 8192 := (by omega))
    | (go_at_call 63; (with_reducible refine (must63 w1).mono ?_); rintro e w0 ⟨rfl, rfl⟩)
    | (at_builtin; refine wpList_append_src (u := .slice Ay k.length cy) rfl (.tmp 12) (.tmp 13) rfl o1 hL2 (Nat.le_trans hbase kq.1) rfl rfl sy hk8 ?_; intro v2 w2 o2 z2 b2; have e2 := owns_of (l := L ++ k) o2 (by simp) (by simp [octs]); clear o2; obtain ⟨A2, c2, rfl⟩ := e2.slice; rw [List.length_append] at e2; have v2c : Cells w2 gb #[.slice A L.length c] 24 := (b2 gb hgb).trans v1; have q2 := v2c.cell 0; have f2 := v2c.frozen 0; simp only [List.getElem?_toArray, List.getElem?_cons_zero] at q2))

  exact bodyPost_end (results_none rfl _ _ _) rfl ⟨k, rfl, hk, ⟨_, v2c.set 0 _, owns_set e2 hgb⟩, But.set ⟨Nat.le_trans kq.1 z2, fun i hi hg => (b2 i hi).trans (kq.2 i (by omega)), by (repeat with_reducible first | exact .refl _ | assumption | refine .alloc ?_ _ | refine .drew ?_ | refine .b ?_ (by assumption) | refine .k ?_ (by assumption) | refine .e ?_ (by assumption) | refine .s ?_ (by assumption) | refine .trans ?_ (by assumption))⟩ 0 _⟩
end Go.Proofs.YtlpbbihjnmikkaaGreatDoor.Exe
