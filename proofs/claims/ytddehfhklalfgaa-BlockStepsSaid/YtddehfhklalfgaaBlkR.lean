/-
  THE WALK of the reference's product of two blocks.
-/
import Derived.Test.YtddehfhklalfgaaBlkM
import Derived.Test.YtddehfhklalfgaaBlkC
import Derived.Deep.RegionHeld3
import Derived.Deep.RegionWith
import Derived.Deep.MidRow
namespace Go.Proofs.Ytddehfhklalfgaa
open Go.RowKit Gf

def zero256 : Bf := fun _ => 0#8
theorem size40 : (Try.prog.info? 40).map (·.size) = some 256 := by kernel_rfl
theorem zero40 (w : World) : Sem.run Try.prog (zeroValue 40) w = .ok (.agg (bytes 256 zero256)) w := by kernel_rfl
theorem built40 : (Try.prog.built 40 []).getD #[] = bytes 256 zero256 := by kernel_rfl
theorem built40_some : (Try.prog.built 40 []).isSome = true := by kernel_rfl
section
variable {ops : Array Oper} {rest : List Oper} {o : Oper} {a : Act} {w : World} {Q : Exit → Act → World → Prop}
theorem build40 (hgd : o.guard = none) (ho : o.op = .build 40 #[]) (h : wpList Try.prog ops Q rest (a.put o.dst (.agg (bytes 256 zero256))) w) : wpList Try.prog ops Q (o :: rest) a w := by
  refine wpList_build hgd 40 #[] ho (by simpa using built40_some) ?_
  simpa [built40] using h
theorem store_any (T n : Nat) (sz : (Try.prog.info? T).map (·.size) = some n) (hgd : o.guard = none) (x y : Operand) (ho : o.op = .store T x y) (g : Nat) (f f0 : Bf) (hx : a.eval x = .pointer (some ⟨g, 0, none⟩)) (hy : a.eval y = .agg (bytes n f))
    (hb : Blk w g T (bytes n f0)) (h : wpList Try.prog ops Q rest (a.put o.dst undef) (w.setRow g (bytes n f))) : wpList Try.prog ops Q (o :: rest) a w :=
  wpList_store_row hgd T x y ho g _ hx hy T _ hb (by rw [sz, bytes_size]) (by rw [bytes_size, bytes_size])
    (by rw [Array.all_eq_true_iff_forall_mem]; intro v hv; simp [bytes] at hv; obtain ⟨i, _, rfl⟩ := hv; rfl) h
end

structure RefRel (f g : Bf) (w : World) (c : Coef) (w' : World) : Prop where
  h : Has3 w f g w'
  t : Blk w' (w.heap.size + 1 + 1 + 1) 40 (bytes 256 fun n => bb (c n))
theorem RefRel.start (f g : Bf) (w : World) : RefRel f g w (fun _ => false) ((w3 w f g).alloc (.cells (bytes 256 zero256) 40)) := by
  have s3 : (w3 w f g).heap.size = w.heap.size + 1 + 1 + 1 := by simp
  refine ⟨(Has3.start f g w).later ((Below.refl _ _).alloc (Nat.le_refl _) _), ?_⟩
  have := Blk.new (w3 w f g) 40 (bytes 256 zero256)
  rw [s3] at this
  exact this
theorem RefRel.start' (f g : Bf) (w : World) : RefRel f g w (fun _ => false) (((w3 w f g).alloc (.cells (bytes 256 zero256) 40)).setRow (w.heap.size + 1 + 1 + 1) (bytes 256 zero256)) := by
  have h := RefRel.start f g w
  have e : ((w3 w f g).alloc (.cells (bytes 256 zero256) 40)).setRow (w.heap.size + 1 + 1 + 1) (bytes 256 zero256) = (w3 w f g).alloc (.cells (bytes 256 zero256) 40) := setRow_self _ _ _ 40 (0, 0) h.t
  rw [e]
  exact h

theorem RefRel.later {f g : Bf} {w w1 w2 : World} {c : Coef} (h : RefRel f g w c w1) (hb : Below w1.heap.size w1 w2) : RefRel f g w c w2 :=
  ⟨h.h.later hb, h.t.below hb h.t.lt⟩
theorem RefRel.drew {f g : Bf} {w w1 : World} {c : Coef} (h : RefRel f g w c w1) : RefRel f g w c w1.drew := h.later (Below.refl _ _).drew
theorem RefRel.set_ {f g : Bf} {w w1 : World} {c : Coef} (h : RefRel f g w c w1) (n : Nat) (s : Bool) {v : Int} (hv : v = ((bb (turn c n s n)).toNat : Int)) :
    RefRel f g w (turn c n s) (w1.setCell ⟨w.heap.size + 1 + 1 + 1, n, none⟩ (.int .u8 v)) := by
  subst hv
  refine ⟨⟨h.h.a.far (by simp; omega) _, h.h.b.far (by simp) _, h.h.c.far (by simp) _, h.h.bel.setCell (by simp; omega) _, by simpa using h.h.size⟩, ?_⟩
  have := h.t.set_ n (.int .u8 (bb (turn c n s n)).toNat)
  rw [bytes_set] at this
  refine (show bytes 256 (fun x => bb (turn c n s x)) = bytes 256 (upd (fun x => bb (c x)) n (bb (turn c n s n))) from bytes_ext fun x _ => ?_) ▸ this
  unfold upd
  by_cases e : x = n
  · subst e; simp
  · rw [if_neg e]
    unfold turn
    rw [decide_eq_false e, Bool.and_false, Bool.xor_false]
def HeldS (f g : Bf) (w : World) (c : Coef) (n : Nat) (w' : World) : Prop :=
  w'.cell? ⟨w.heap.size + 1 + 1 + 1, n, none⟩ = some (.int .u8 (bb (c n)).toNat) ∧ w'.frozen? ⟨w.heap.size + 1 + 1 + 1, n, none⟩ = false ∧ w'.rangeAt (w.heap.size + 1) 0 (bytes 16 g).toList ∧ RefRel f g w c w'
theorem RefRel.held {f g : Bf} {w w1 : World} {c : Coef} (h : RefRel f g w c w1) {n : Nat} (hn : n < 256) : HeldS f g w c n w1 :=
  ⟨by rw [h.t.cell, bytes_get _ _ _ hn], h.t.frozen n, fun j v hv => by rw [Nat.zero_add, h.h.b.cell]; simpa using hv, h⟩

theorem RefRel.step {f g : Bf} {w w1 : World} {c : Coef} {n : Nat} {s : Bool} (h : RefRel f g w c w1) :
    RefRel f g w (turn c n s) (w1.setCell ⟨w.heap.size + 1 + 1 + 1, n, none⟩ (.int .u8 (bits .xor .u8 ((bb (c n)).toNat : Int) (bif s then 1 else 0)))) := by
  refine h.set_ n s ?_
  have e : (bif s then (1 : Int) else 0) = ((bb s).toNat : Int) := by cases s <;> rfl
  rw [e, bits_xor8]
  unfold turn
  cases c n <;> cases s <;> simp [bb]
theorem build23_zero : (Try.prog.built 23 []).getD #[] = bytes 16 zero256 := by kernel_rfl
theorem valu_i64 {x y : Int} (h : x = y) : Value.int .i64 x = Value.int .i64 y := by rw [h]
theorem RefRel.flip {f g : Bf} {w w1 : World} {c : Coef} {n : Nat} (h : RefRel f g w c w1) (x : Bool) (hx : c n = x) :
    RefRel f g w (turn c n true) (w1.setCell ⟨w.heap.size + 1 + 1 + 1, n, none⟩ (.int .u8 (bits .xor .u8 ((bb x).toNat : Int) 1))) := by
  subst hx
  exact h.step (s := true)
theorem turn_off (c : Coef) (n m : Nat) (s : Bool) (h : m ≠ n) : turn c n s m = c m := by
  unfold turn
  rw [decide_eq_false h, Bool.and_false, Bool.xor_false]
def rdAt (c : Coef) (m : Nat) : Coef := rdTo c (127 - m)
theorem rdAt_step (c : Coef) (n : Nat) (h : n ≤ 126) : rdAt c n = rdStep (rdAt c (n + 1)) (n + 128) := by
  unfold rdAt
  rw [show 127 - n = (127 - (n + 1)) + 1 by omega]
  show rdStep (rdTo c (127 - (n + 1))) (254 - (127 - (n + 1))) = _
  rw [show 254 - (127 - (n + 1)) = n + 128 by omega]
theorem bb_is (c : Bool) : (((bb c).toNat : Int) == 1) = c := by cases c <;> rfl
theorem bit_yes (f : Bf) (i : Nat) (hi : i < 128) (h : (blk f).getMsbD i = true) (w : World) :
    Calls Try.prog 21 #[.agg (bytes 16 f), .int .i64 i] w fun e w' => e = .returned (.int .u8 1) ∧ Below w.heap.size w w' := by
  have := bit_any f i hi w; rwa [h] at this
theorem bit_no (f : Bf) (i : Nat) (hi : i < 128) (h : (blk f).getMsbD i = false) (w : World) :
    Calls Try.prog 21 #[.agg (bytes 16 f), .int .i64 i] w fun e w' => e = .returned (.int .u8 0) ∧ Below w.heap.size w w' := by
  have := bit_any f i hi w; rwa [h] at this

structure OutRel (f g : Bf) (w : World) (c : Coef) (B k : Nat) (w' : World) : Prop where
  r : RefRel f g w c w'
  o : Blk w' B 23 (bytes 16 (outTo c k))
  lo : w.heap.size + 1 + 1 + 1 < B
theorem shl8 (x : BitVec 8) (k : Nat) : IntKind.u8.wrap ((x.toNat : Int) * (2 : Int) ^ k) = ((x <<< k).toNat : Int) := by
  rw [IntKind.wrap_u8, BitVec.toNat_shiftLeft, Nat.shiftLeft_eq]
  simp
theorem bits_or8 (x y : BitVec 8) : bits .or .u8 (x.toNat : Int) (y.toNat : Int) = ((x ||| y).toNat : Int) := by
  rw [u8_or_nat _ _ x.isLt y.isLt, BitVec.toNat_or]
theorem OutRel.step {f g : Bf} {w w1 : World} {c : Coef} {B k : Nat} (h : OutRel f g w c B k w1) :
    OutRel f g w c B (k + 1) ((w1.setCell ⟨B, k / 8, none⟩ (.int .u8 (bits .or .u8 ((outTo c k (k / 8)).toNat : Int) (IntKind.u8.wrap (((bb (c k)).toNat : Int) * (2 : Int) ^ (7 - k % 8)))))).drew) := by
  have hlo := h.lo
  have hR : RefRel f g w c (w1.setCell ⟨B, k / 8, none⟩ (.int .u8 (bits .or .u8 ((outTo c k (k / 8)).toNat : Int) (IntKind.u8.wrap (((bb (c k)).toNat : Int) * (2 : Int) ^ (7 - k % 8)))))) :=
    ⟨⟨h.r.h.a.far (by simp; omega) _, h.r.h.b.far (by simp; omega) _, h.r.h.c.far (by simp; omega) _, h.r.h.bel.setCell (by simp; omega) _, by simpa using h.r.h.size⟩, h.r.t.far (by simp; omega) _⟩
  refine ⟨hR.drew, ?_, h.lo⟩
  rw [shl8, bits_or8]
  have := (h.o.set_ (k / 8) (.int .u8 (outTo c k (k / 8) ||| (bb (c k) <<< (7 - k % 8))).toNat)).drew
  rw [bytes_set] at this
  exact this
set_option maxRecDepth 100000 in
set_option maxHeartbeats 1000000 in
theorem refMul_core (f g : Bf) (w : World) :
    Calls Try.prog 12 #[.agg (bytes 16 f), .agg (bytes 16 g)] w fun e w' => e = .returned (.agg (bytes 16 (outTo (rdAt (cTo (blk f) (blk g) 128) 0) 128))) ∧ Below w.heap.size w w' := by
  have H0 := RefRel.start f g w
  have hz := zero40
  go_enter Try.func12, Try.ntmps12
  go_wp2_with (first | (with_reducible refine build40 rfl rfl ?_) | (with_reducible refine store_any 40 256 size40 rfl (.tmp 5) (.tmp 11) rfl (w.heap.size + 1 + 1 + 1) _ _ rfl rfl H0.t ?_))
  clear hz H0
  go_loopw [6] (fun i w' => ∃ k : Nat, k ≤ 128 ∧ i = .int .i64 k ∧ RefRel f g w (cTo (blk f) (blk g) k) w') (fun i _ => 128 - (intOf i).toNat)
  case atStart => exact ⟨0, by omega, rfl, RefRel.start' f g w⟩
  case round =>
    obtain ⟨i, hi, rfl, hr⟩ := hrel
    obtain ⟨wo, rfl⟩ : ∃ wo : World, wo = wr := ⟨_, rfl⟩
    by_cases hlt : i < 128
    · cases hbit : (blk f).getMsbD i
      · have hc : cTo (blk f) (blk g) (i + 1) = cTo (blk f) (blk g) i := by
          show (bif (blk f).getMsbD i then _ else _) = _
          rw [hbit]; rfl
        go_wp2_with (with_reducible refine load_blk rfl (.tmp 2) rfl w.heap.size rfl _ hr.h.a ?_)
        refine (bit_no f i hlt hbit _).mono ?_
        rintro e w1 ⟨rfl, hb1⟩
        have H1 := hr.later hb1
        rw [← hc] at H1
        clear hr hb1 hbit hc
        go_wp2
        exact ⟨⟨i + 1, by omega, by go_num, H1⟩, by simp [intOf]; omega⟩
      · have hc : cTo (blk f) (blk g) (i + 1) = inner (cTo (blk f) (blk g) i) (blk g) i 128 := by
          show (bif (blk f).getMsbD i then _ else _) = _
          rw [hbit]; rfl
        go_wp2_with (with_reducible refine load_blk rfl (.tmp 2) rfl w.heap.size rfl _ hr.h.a ?_)
        refine (bit_yes f i hlt hbit _).mono ?_
        rintro e w1 ⟨rfl, hb1⟩
        have H1 := hr.later hb1
        have HC := Lib.hid hc
        clear hr hb1 hbit hc
        go_wp2
        go_loopw [7] (fun j w' => ∃ k : Nat, k ≤ 128 ∧ j = .int .i64 k ∧ RefRel f g w (inner (cTo (blk f) (blk g) i) (blk g) i k) w') (fun j _ => 128 - (intOf j).toNat)
        case atStart => exact ⟨0, by omega, rfl, H1⟩
        case round =>
          obtain ⟨k, hk, rfl, hr⟩ := hrel
          by_cases hlk : k < 128
          · have e1 : IntKind.i64.wrap ((i : Int) + (k : Int)) = (i : Int) + (k : Int) := by rw [IntKind.wrap_i64]; omega
            have e2 : (0 : Int) ≤ (i : Int) + (k : Int) := by omega
            have e3 : (i : Int) + (k : Int) < 256 := by omega
            have e4 : ((i : Int) + (k : Int)).toNat = i + k := by omega
            have hu := Try.underlying23
            have hsz : (Try.prog.info? 23).map (·.size) = some (bytes 16 g).toList.length := by rw [size23]; simp [bytes_size]
            have hh := hr.held (n := i + k) (by omega)
            go_wp2
            have hc31 : wr.cell? ⟨w.heap.size + 1 + 1 + 1, i + k, none⟩ = some (.int .u8 (bb (inner (cTo (blk f) (blk g) i) (blk g) i k (i + k))).toNat) := hh.1
            have hf : wr.frozen? ⟨w.heap.size + 1 + 1 + 1, i + k, none⟩ = false := hh.2.1
            have hg0 : wr.cell? ⟨w.heap.size + 1, 0, none⟩ = some (.int .u8 (g 0).toNat) := by rw [hr.h.b.cell]; rfl
            have hg1 : wr.cell? ⟨w.heap.size + 1, 1, none⟩ = some (.int .u8 (g 1).toNat) := by rw [hr.h.b.cell]; rfl
            have hg2 : wr.cell? ⟨w.heap.size + 1, 2, none⟩ = some (.int .u8 (g 2).toNat) := by rw [hr.h.b.cell]; rfl
            have hg3 : wr.cell? ⟨w.heap.size + 1, 3, none⟩ = some (.int .u8 (g 3).toNat) := by rw [hr.h.b.cell]; rfl
            have hg4 : wr.cell? ⟨w.heap.size + 1, 4, none⟩ = some (.int .u8 (g 4).toNat) := by rw [hr.h.b.cell]; rfl
            have hg5 : wr.cell? ⟨w.heap.size + 1, 5, none⟩ = some (.int .u8 (g 5).toNat) := by rw [hr.h.b.cell]; rfl
            have hg6 : wr.cell? ⟨w.heap.size + 1, 6, none⟩ = some (.int .u8 (g 6).toNat) := by rw [hr.h.b.cell]; rfl
            have hg7 : wr.cell? ⟨w.heap.size + 1, 7, none⟩ = some (.int .u8 (g 7).toNat) := by rw [hr.h.b.cell]; rfl
            have hg8 : wr.cell? ⟨w.heap.size + 1, 8, none⟩ = some (.int .u8 (g 8).toNat) := by rw [hr.h.b.cell]; rfl
            have hg9 : wr.cell? ⟨w.heap.size + 1, 9, none⟩ = some (.int .u8 (g 9).toNat) := by rw [hr.h.b.cell]; rfl
            have hg10 : wr.cell? ⟨w.heap.size + 1, 10, none⟩ = some (.int .u8 (g 10).toNat) := by rw [hr.h.b.cell]; rfl
            have hg11 : wr.cell? ⟨w.heap.size + 1, 11, none⟩ = some (.int .u8 (g 11).toNat) := by rw [hr.h.b.cell]; rfl
            have hg12 : wr.cell? ⟨w.heap.size + 1, 12, none⟩ = some (.int .u8 (g 12).toNat) := by rw [hr.h.b.cell]; rfl
            have hg13 : wr.cell? ⟨w.heap.size + 1, 13, none⟩ = some (.int .u8 (g 13).toNat) := by rw [hr.h.b.cell]; rfl
            have hg14 : wr.cell? ⟨w.heap.size + 1, 14, none⟩ = some (.int .u8 (g 14).toNat) := by rw [hr.h.b.cell]; rfl
            have hg15 : wr.cell? ⟨w.heap.size + 1, 15, none⟩ = some (.int .u8 (g 15).toNat) := by rw [hr.h.b.cell]; rfl
            have HR := Lib.hid hr.drew
            clear hr hh hsz hu H1
            go_region_with (first | (go_at_call 21; refine (bit_any g k hlk _).mono ?_; rintro e w2 ⟨rfl, hb2⟩; have hr2 := HR.out.later hb2; have hd31 := (hr2.held (n := i + k) (by omega)).1; have hdf := (hr2.held (n := i + k) (by omega)).2.1; have HR2 := Lib.hid hr2; clear hr2 hb2))
            all_goals
              go_wp2
              exact ⟨⟨k + 1, by omega, by go_num, HR2.out.step⟩, by simp [intOf]; omega⟩
          · obtain rfl : k = 128 := by omega
            have hr2 := hr
            rw [← HC.out] at hr2
            clear H1 hr
            go_wp2
            exact ⟨⟨i + 1, by omega, by go_num, hr2⟩, by simp [intOf]; omega⟩
    · obtain rfl : i = 128 := by omega
      go_wp2
      go_loopw [8] (fun i w' => ∃ m : Nat, m ≤ 127 ∧ i = .int .i64 ((m : Int) + 127) ∧ RefRel f g w (rdAt (cTo (blk f) (blk g) 128) m) w') (fun i _ => (intOf i).toNat)
      case atStart => exact ⟨127, by omega, rfl, hr⟩
      case round =>
        obtain ⟨m, hm, rfl, hr⟩ := hrel
        by_cases hlt : 1 ≤ m
        · obtain ⟨n, rfl⟩ : ∃ n, m = n + 1 := ⟨m - 1, by omega⟩
          rw [show (((n + 1 : Nat) : Int) + 127) = (n : Int) + 128 by omega]
          have hst := rdAt_step (cTo (blk f) (blk g) 128) n (by omega)
          have hc0 := (hr.held (n := n + 128) (by omega)).1
          cases hb : rdAt (cTo (blk f) (blk g) 128) (n + 1) (n + 128)
          · have hr2 := hr
            rw [show rdAt (cTo (blk f) (blk g) 128) (n + 1) = rdAt (cTo (blk f) (blk g) 128) n by rw [hst]; unfold rdStep; rw [hb]; rfl] at hr2
            rw [hb] at hc0
            have HR2 := Lib.hid hr2
            have hc0 : wr.cell? ⟨w.heap.size + 1 + 1 + 1, n + 128, none⟩ = some (.int .u8 0) := hc0
            clear hr2 hst hb hr
            go_wp2
            exact ⟨⟨n, by omega, valu_i64 (by omega), HR2.out⟩, by simp [intOf]; omega⟩
          · have hr2 := (((hr.flip (n := n) _ rfl).flip (n := n + 1) (rdAt (cTo (blk f) (blk g) 128) (n + 1) (n + 1)) (by rw [turn_off _ _ _ _ (by omega)])).flip (n := n + 2) (rdAt (cTo (blk f) (blk g) 128) (n + 1) (n + 2)) (by rw [turn_off _ _ _ _ (by omega), turn_off _ _ _ _ (by omega)])).flip (n := n + 7) (rdAt (cTo (blk f) (blk g) 128) (n + 1) (n + 7)) (by rw [turn_off _ _ _ _ (by omega), turn_off _ _ _ _ (by omega), turn_off _ _ _ _ (by omega)])
            have he : turn (turn (turn (turn (rdAt (cTo (blk f) (blk g) 128) (n + 1)) n true) (n + 1) true) (n + 2) true) (n + 7) true = rdAt (cTo (blk f) (blk g) 128) n := by
              rw [hst]; unfold rdStep; rw [hb, cond_true, show n + 128 - 128 = n by omega, show n + 128 - 127 = n + 1 by omega, show n + 128 - 126 = n + 2 by omega, show n + 128 - 121 = n + 7 by omega]
            rw [he] at hr2
            rw [hb] at hc0
            have hc0 : wr.cell? ⟨w.heap.size + 1 + 1 + 1, n + 128, none⟩ = some (.int .u8 1) := hc0
            have hd0 := (hr.held (n := n) (by omega)).1
            have hd1 := (hr.held (n := n + 1) (by omega)).1
            have hd2 := (hr.held (n := n + 2) (by omega)).1
            have hd7 := (hr.held (n := n + 7) (by omega)).1
            have hf0 := (hr.held (n := n) (by omega)).2.1
            have hf1 := (hr.held (n := n + 1) (by omega)).2.1
            have hf2 := (hr.held (n := n + 2) (by omega)).2.1
            have hf7 := (hr.held (n := n + 7) (by omega)).2.1
            generalize rdAt (cTo (blk f) (blk g) 128) (n + 1) = C at *
            have HR2 := Lib.hid hr2
            clear hr2 hst hb hr he
            go_wp2
            exact ⟨⟨n, by omega, valu_i64 (by omega), HR2.out⟩, by simp [intOf]; omega⟩
        · obtain rfl : m = 0 := by omega
          obtain ⟨wq, rfl⟩ : ∃ wq : World, wq = wr := ⟨_, rfl⟩
          go_wp2
          go_loopw [10] (fun i w' => ∃ k : Nat, k ≤ 128 ∧ i = .int .i64 k ∧ OutRel f g w (rdAt (cTo (blk f) (blk g) 128) 0) wq.heap.size k w') (fun i _ => 128 - (intOf i).toNat)
          case atStart => exact ⟨0, by omega, rfl, hr.later ((Below.refl _ _).alloc (Nat.le_refl _) _), Blk.new wq 23 _, by have := hr.t.lt; omega⟩
          case round =>
            obtain ⟨k, hk, rfl, ho⟩ := hrel
            by_cases hlt : k < 128
            · have hc2 : wr.cell? ⟨wq.heap.size, k / 8, none⟩ = some (.int .u8 (outTo (rdAt (cTo (blk f) (blk g) 128) 0) k (k / 8)).toNat) := by rw [ho.o.cell, bytes_get _ _ _ (by omega)]
              have hf := ho.o.frozen (k / 8)
              have hc3 := (ho.r.held (n := k) (by omega)).1
              have w1 : IntKind.i64.wrap (7 - (k : Int) % 8) = 7 - (k : Int) % 8 := by rw [IntKind.wrap_i64]; omega
              have w7 : (k : Int).tdiv 8 = (k : Int) / 8 := Int.tdiv_eq_ediv_of_nonneg (by omega)
              have w8 : (k : Int).tmod 8 = (k : Int) % 8 := Int.tmod_eq_emod_of_nonneg (by omega)
              have w9 : IntKind.i64.wrap ((k : Int) / 8) = (k : Int) / 8 := by rw [IntKind.wrap_i64]; omega
              have w10 : IntKind.i64.wrap ((k : Int) % 8) = (k : Int) % 8 := by rw [IntKind.wrap_i64]; omega
              have w2 : (7 - (k : Int) % 8).toNat = 7 - k % 8 := by omega
              have w3 : ((k : Int) / 8).toNat = k / 8 := by omega
              have w4 : (0 : Int) ≤ 7 - (k : Int) % 8 := by omega
              have w5 : (0 : Int) ≤ (k : Int) / 8 := by omega
              have w6 : (k : Int) / 8 < 16 := by omega
              have w11 : (k : Int) < 256 := by omega
              go_wp2
              go_still_tail 15, (by kernel_rfl)
              go_wp2
              refine ⟨?_, by simp [intOf]; omega⟩
              repeat apply Exists.intro
              exact ⟨⟨k + 1, by omega, by go_num, ho.step⟩, rfl⟩
            · obtain rfl : k = 128 := by omega
              go_wp2_with (first | (with_reducible refine load_blk rfl (.tmp 9) rfl wq.heap.size rfl _ ho.o ?_) | (with_reducible refine store_blk rfl (.tmp 4) (.tmp 97) rfl (w.heap.size + 1 + 1) _ _ rfl rfl ho.r.h.c ?_))
              exact bodyPost_ret (result_blk rfl _ _ (w.heap.size + 1 + 1) _ rfl (ho.r.h.c.row_same _)) rfl ⟨rfl, below_setRow ho.r.h.bel (by omega) _⟩
theorem refMul_any (f g : Bf) (w : World) :
    Calls Try.prog 12 #[.agg (bytes 16 f), .agg (bytes 16 g)] w fun e w' => e = .returned (.agg (bytes 16 (byteB (mulB (blk f) (blk g))))) ∧ Below w.heap.size w w' := by
  have hC : bytes 16 (byteB (mulB (blk f) (blk g))) = bytes 16 (outTo (rdAt (cTo (blk f) (blk g) 128) 0) 128) := by
    rw [← ref_full]
    exact bytes_ext fun i hi => byteB_blk _ i hi
  rw [hC]
  exact refMul_core f g w
end Go.Proofs.Ytddehfhklalfgaa
