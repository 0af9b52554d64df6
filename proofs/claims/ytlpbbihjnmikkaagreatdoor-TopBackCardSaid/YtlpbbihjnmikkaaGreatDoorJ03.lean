/-
  Joined: ExeM
-/
import Derived.Test.YtlpbbihjnmikkaaGreatDoorJ02
namespace Go.Proofs.YtlpbbihjnmikkaaGreatDoor.Exe
set_option linter.unusedSimpArgs false

section
variable {α : Type}
theorem Loc.cellsOf {f : Nat → List Cell → TypeId → M D α} (hf : ∀ n cs e, Loc (f n cs e)) (t : Thing D) : Loc (cellsOf f t) := by cases t <;> first | exact hf _ _ _ | exact Loc.bad _
theorem Loc.rdC (k : Nat) {f : Nat → List Cell → TypeId → M D α} (hf : ∀ n cs e, Loc (f n cs e)) : Loc (rdC k f) := Loc.bind (Loc.rd k) (Loc.cellsOf hf)
theorem Loc.mapOf {f : List (Nat × Slot × Nat) → Nat → M D α} (hf : ∀ es c, Loc (f es c)) (t : Thing D) : Loc (mapOf f t) := by cases t <;> first | exact hf _ _ | exact Loc.bad _
theorem Loc.rdM (k : Nat) {f : List (Nat × Slot × Nat) → Nat → M D α} (hf : ∀ es c, Loc (f es c)) : Loc (rdM k f) := Loc.bind (Loc.rd k) (Loc.mapOf hf)
theorem Loc.fnOf {f : FuncId → List Slot → List Slot → M D α} (hf : ∀ g fs cs, Loc (f g fs cs)) (t : Thing D) : Loc (fnOf f t) := by cases t <;> first | exact hf _ _ _ | exact Loc.bad _
theorem Loc.rdF (k : Nat) {f : FuncId → List Slot → List Slot → M D α} (hf : ∀ g fs cs, Loc (f g fs cs)) : Loc (rdF k f) := Loc.bind (Loc.rd k) (Loc.fnOf hf)
theorem Loc.dataOf {f : D → M D α} (hf : ∀ d, Loc (f d)) (t : Thing D) : Loc (dataOf f t) := by cases t <;> first | exact hf _ | exact Loc.bad _
theorem Loc.rdD (k : Nat) {f : D → M D α} (hf : ∀ d, Loc (f d)) : Loc (rdD k f) := Loc.bind (Loc.rd k) (Loc.dataOf hf)
theorem Loc.ret1 (c : Cell) : Loc (ret1 c : M D Nx) := Loc.ret _
theorem Loc.boolRec {x y : M D α} (hx : Loc x) (hy : Loc y) (b : Bool) : Loc (Bool.rec x y b : M D α) := by cases b; exact hx; exact hy
theorem Loc.natRec {x : M D α} {y : Nat → M D α → M D α} (hx : Loc x) (hy : ∀ n i, Loc (y n i)) (n : Nat) : Loc (Nat.rec x y n : M D α) := by cases n; exact hx; exact hy _ _
theorem Loc.optRec {β : Type} {x : M D α} {y : β → M D α} (hx : Loc x) (hy : ∀ v, Loc (y v)) (o : Option β) : Loc (Option.rec x y o : M D α) := by cases o; exact hx; exact hy _
theorem Loc.kindRec {x : M D α} {y : Nat → M D α} (hx : Loc x) (hy : ∀ v, Loc (y v)) (o : Kind) : Loc (Kind.rec x y o : M D α) := by cases o; exact hx; exact hy _
theorem Loc.capRec {x : Nat → M D α} {y z u : M D α} (hx : ∀ c, Loc (x c)) (hy : Loc y) (hz : Loc z) (hu : Loc u) (o : Cap) : Loc (Cap.rec x y z u o : M D α) := by cases o; exact hx _; exact hy; exact hz; exact hu
theorem Loc.nxRec {x : Slot → M D α} {y : FuncId → List Slot → M D α} (hx : ∀ v, Loc (x v)) (hy : ∀ f l, Loc (y f l)) (o : Nx) : Loc (Nx.rec x y o : M D α) := by cases o; exact hx _; exact hy _ _
theorem Loc.slotRec {x : Cell → M D α} {y : Nat → List Cell → M D α} {z : List Part → M D α} (hx : ∀ c, Loc (x c)) (hy : ∀ n l, Loc (y n l)) (hz : ∀ l, Loc (z l)) (o : Slot) : Loc (Slot.rec x y z o : M D α) := by cases o; exact hx _; exact hy _ _; exact hz _
theorem Loc.cellRec {a : Nat → M D α} {b : Bool → M D α} {c : Value → M D α} {d : Nat → Nat → M D α} {e : Nat → Nat → Nat → Cap → M D α} {f g : Nat → M D α} (ha : ∀ x, Loc (a x)) (hb : ∀ x, Loc (b x)) (hc : ∀ x, Loc (c x)) (hd : ∀ x y, Loc (d x y)) (he : ∀ x y z u, Loc (e x y z u)) (hf : ∀ x, Loc (f x)) (hg : ∀ x, Loc (g x)) (o : Cell) : Loc (Cell.rec a b c d e f g o : M D α) := by
  cases o
  · exact ha _
  · exact hb _
  · exact hc _
  · exact hd _ _
  · exact he _ _ _ _
  · exact hf _
  · exact hg _
theorem Loc.force {f : Nat → M D α} (hf : ∀ n, Loc (f n)) (n : Nat) : Loc (force n f) := by rw [force_eq]; exact hf n
theorem Loc.asPtr (n : Nat) (s : Slot) {f : Nat → Nat → M D α} (hf : ∀ a b, Loc (f a b)) : Loc (asPtr n s f) := Loc.slotRec (fun c => Loc.cellRec (fun _ => Loc.bad n) (fun _ => Loc.bad n) (fun _ => Loc.bad n) hf (fun _ _ _ _ => Loc.bad n) (fun _ => Loc.bad n) (fun _ => Loc.bad n) c) (fun _ _ => Loc.bad n) (fun _ => Loc.bad n) s
theorem Loc.asNat (n : Nat) (s : Slot) {f : Nat → M D α} (hf : ∀ a, Loc (f a)) : Loc (asNat n s f) := Loc.slotRec (fun c => Loc.cellRec hf (fun _ => Loc.bad n) (fun _ => Loc.bad n) (fun _ _ => Loc.bad n) (fun _ _ _ _ => Loc.bad n) (fun _ => Loc.bad n) (fun _ => Loc.bad n) c) (fun _ _ => Loc.bad n) (fun _ => Loc.bad n) s
theorem Loc.asTok (n : Nat) (s : Slot) {f : Nat → M D α} (hf : ∀ a, Loc (f a)) : Loc (asTok n s f) := Loc.slotRec (fun c => Loc.cellRec (fun _ => Loc.bad n) (fun _ => Loc.bad n) (fun _ => Loc.bad n) (fun _ _ => Loc.bad n) (fun _ _ _ _ => Loc.bad n) (fun _ => Loc.bad n) hf c) (fun _ _ => Loc.bad n) (fun _ => Loc.bad n) s
theorem Loc.asIx (n : Nat) (s : Slot) {f : Nat → M D α} (hf : ∀ a, Loc (f a)) : Loc (asIx n s f) := Loc.slotRec (fun c => Loc.cellRec hf (fun _ => Loc.bad n) (fun _ => Loc.optRec (Loc.bad n) hf _) (fun _ _ => Loc.bad n) (fun _ _ _ _ => Loc.bad n) (fun _ => Loc.bad n) (fun _ => Loc.bad n) c) (fun _ _ => Loc.bad n) (fun _ => Loc.bad n) s
theorem Loc.asBool (n : Nat) (s : Slot) {f : Bool → M D α} (hf : ∀ a, Loc (f a)) : Loc (asBool n s f) := Loc.slotRec (fun c => Loc.cellRec (fun _ => Loc.bad n) hf (fun _ => Loc.bad n) (fun _ _ => Loc.bad n) (fun _ _ _ _ => Loc.bad n) (fun _ => Loc.bad n) (fun _ => Loc.bad n) c) (fun _ _ => Loc.bad n) (fun _ => Loc.bad n) s
theorem Loc.asMap (n : Nat) (s : Slot) {f : Nat → M D α} (hf : ∀ a, Loc (f a)) : Loc (asMap n s f) := Loc.slotRec (fun c => Loc.cellRec (fun _ => Loc.bad n) (fun _ => Loc.bad n) (fun _ => Loc.bad n) (fun _ _ => Loc.bad n) (fun _ _ _ _ => Loc.bad n) hf (fun _ => Loc.bad n) c) (fun _ _ => Loc.bad n) (fun _ => Loc.bad n) s
theorem Loc.asAgg (n : Nat) (s : Slot) {f : Nat → List Cell → M D α} (hf : ∀ a b, Loc (f a b)) : Loc (asAgg n s f) := Loc.slotRec (fun _ => Loc.bad n) hf (fun _ => Loc.bad n) s
theorem Loc.asCells (n : Nat) (s : Slot) {f : Nat → List Cell → M D α} (hf : ∀ a b, Loc (f a b)) : Loc (asCells n s f) := Loc.slotRec (fun _ => hf _ _) hf (fun _ => Loc.bad n) s
theorem Loc.asRow (n : Nat) (s : Slot) {z : M D α} (hz : Loc z) {f : Nat → Nat → Nat → Cap → M D α} (hf : ∀ a b c d, Loc (f a b c d)) : Loc (asRow n s z f) := Loc.slotRec (fun c => Loc.cellRec (fun _ => Loc.bad n) (fun _ => Loc.bad n) (fun _ => Loc.chk n _ hz) (fun _ _ => Loc.bad n) hf (fun _ => Loc.bad n) (fun _ => Loc.bad n) c) (fun _ _ => Loc.bad n) (fun _ => Loc.bad n) s
theorem Loc.bound (d : Nat) (env : Env) (x : Option (Env → Slot)) {f : Nat → M D α} (hf : ∀ a, Loc (f a)) : Loc (bound d env x f) := Loc.optRec (hf d) (fun _ => Loc.asNat _ _ hf) x
theorem Loc.fill : ∀ (ps : List (Nat × Nat)) (vs : List Slot) (cs : List Cell) {f : List Cell → M D α}, (∀ a, Loc (f a)) → Loc (fill ps vs cs f)
  | [], _, _, _, hf => hf _
  | _ :: _, [], _, _, _ => Loc.bad _
  | p :: ps, v :: vs, cs, f, hf => by
    show Loc (Exe.asCells 11 v fun n l => Exe.chk 12 (Nat.beq n p.2) (Exe.fill ps vs (lay p.1 l cs) f))
    exact Loc.asCells 11 v fun n l => Loc.chk _ _ (Loc.fill ps vs _ hf)
theorem loadK_loc (k : Kind) (b off : Nat) : Loc (loadK k b off : M D _) := by
  unfold loadK
  repeat' (with_reducible first | exact Loc.ret _ | exact Loc.ret1 _ | refine Loc.chk _ _ ?_ | refine Loc.rdC _ fun _ _ _ => ?_ | refine Loc.kindRec ?_ (fun _ => ?_) _ | split)
theorem putV_loc (x : Nx) (b off n : Nat) (vs : List Cell) : Loc (putV x b off n vs : M D _) := by
  unfold putV
  repeat' (with_reducible first | exact Loc.ret _ | exact Loc.wr _ _ | refine Loc.chk _ _ ?_ | refine Loc.bind ?_ fun _ => ?_ | refine Loc.rdC _ fun _ _ _ => ?_ | split)
theorem putK_loc (b off n : Nat) (vs : List Cell) : Loc (putK b off n vs : M D _) := by
  unfold putK
  repeat' (with_reducible first | exact putV_loc _ _ _ _ _ | split)
theorem newVar_loc (t : TypeId) (n : Nat) (cs : List Cell) : Loc (newVar t n cs : M D _) := by
  unfold newVar
  repeat' (with_reducible first | exact Loc.ret1 _ | exact Loc.new _ | refine Loc.bind ?_ fun _ => ?_ | split)
theorem moveC_loc (x : Env → Slot) (env : Env) : Loc (moveC x env : M D _) := by
  unfold moveC
  repeat' (with_reducible first | exact Loc.ret _ | split)
theorem pickC_loc (c a b : Env → Slot) (env : Env) : Loc (pickC c a b env : M D _) := by
  unfold pickC
  repeat' (with_reducible first | exact Loc.ret _ | refine Loc.asBool _ _ fun _ => ?_ | refine Loc.boolRec ?_ ?_ _ | split)
theorem allocC_loc (t : TypeId) (n : Nat) (z : List Cell) (env : Env) : Loc (allocC t n z env : M D _) := by
  unfold allocC
  repeat' (with_reducible first | exact newVar_loc _ _ _ | split)
theorem boxC_loc (t : TypeId) (x : Env → Slot) (env : Env) : Loc (boxC t x env : M D _) := by
  unfold boxC
  repeat' (with_reducible first | exact newVar_loc _ _ _ | refine Loc.asCells _ _ fun _ _ => ?_ | split)
theorem buildC_loc (n : Nat) (z : List Cell) (ps : List (Nat × Nat)) (xs : List (Env → Slot)) (env : Env) : Loc (buildC n z ps xs env : M D _) := by
  unfold buildC
  repeat' (with_reducible first | exact Loc.ret _ | refine Loc.fill _ _ _ fun _ => ?_ | split)
theorem rowC_loc (e : TypeId) (n m : Nat) (z : List Cell) (ps : List (Nat × Nat)) (xs : List (Env → Slot)) (env : Env) : Loc (rowC e n m z ps xs env : M D _) := by
  unfold rowC
  repeat' (with_reducible first | exact Loc.ret1 _ | exact Loc.new _ | refine Loc.bind ?_ fun _ => ?_ | refine Loc.fill _ _ _ fun _ => ?_ | split)
theorem loadC_loc (k : Kind) (x : Env → Slot) (env : Env) : Loc (loadC k x env : M D _) := by
  unfold loadC
  repeat' (with_reducible first | exact loadK_loc _ _ _ | refine Loc.asPtr _ _ fun _ _ => ?_ | split)
theorem storeC_loc (n : Nat) (x v : Env → Slot) (env : Env) : Loc (storeC n x v env : M D _) := by
  unfold storeC
  repeat' (with_reducible first | exact putK_loc _ _ _ _ | refine Loc.chk _ _ ?_ | refine Loc.asPtr _ _ fun _ _ => ?_ | refine Loc.asCells _ _ fun _ _ => ?_ | split)
theorem nilCheckC_loc (x : Env → Slot) (env : Env) : Loc (nilCheckC x env : M D _) := by
  unfold nilCheckC
  repeat' (with_reducible first | exact Loc.ret1 _ | refine Loc.asPtr _ _ fun _ _ => ?_ | split)
theorem ints_loc {f : Nat → Nat → M D Nx → M D Nx} (hf : ∀ m n s, Loc s → Loc (f m n s)) {slow : Do} (hs : ∀ env, Loc (slow env)) (x y : Env → Slot) (env : Env) : Loc (ints f slow x y env) := by
  unfold ints
  cases x env with
  | one c =>
    cases c with
    | nat m =>
      cases y env with
      | one d => cases d <;> first | exact hf _ _ _ (hs _) | exact hs _
      | _ => exact hs _
    | _ => exact hs _
  | _ => exact hs _
theorem small_loc (n : Nat) {slow : M D Nx} (hs : Loc slow) : Loc (small n slow) := Loc.force (fun _ => Loc.boolRec hs (Loc.ret1 _) _) _
theorem addF_loc (m n : Nat) (slow : M D Nx) (hs : Loc slow) : Loc (addF m n slow) := small_loc _ hs
theorem subF_loc (m n : Nat) (slow : M D Nx) (hs : Loc slow) : Loc (subF m n slow) := Loc.boolRec hs (small_loc _ hs) _
theorem mulF_loc (m n : Nat) (slow : M D Nx) (hs : Loc slow) : Loc (mulF m n slow) := small_loc _ hs
theorem flatOf_loc (o : Option Value) : Loc (flatOf o : M D _) := by
  unfold flatOf
  repeat' (with_reducible first | exact Loc.ret1 _ | exact Loc.bad _ | split)
theorem eqNil_loc (P : Program) (t : TypeId) (x y : Slot) (b : Bool) : Loc (eqNil P t x y b : M D _) := by
  unfold eqNil
  repeat' (with_reducible first | exact Loc.ret1 _ | exact Loc.bad _ | refine Loc.chk _ _ ?_ | split)
theorem newTok_loc (d : D) : Loc (newTok d : M D _) := by
  unfold newTok
  repeat' (with_reducible first | exact Loc.ret1 _ | exact Loc.new _ | refine Loc.bind ?_ fun _ => ?_ | split)
theorem tokTo_loc (n : Nat) (g : D → Option D) (s : Slot) : Loc (tokTo n g s : M D _) := by
  unfold tokTo
  repeat' (with_reducible first | exact Loc.bad _ | exact newTok_loc _ | refine Loc.rdD _ fun _ => ?_ | refine Loc.asTok _ _ fun _ => ?_ | refine Loc.optRec ?_ (fun _ => ?_) _ | split)
theorem tokCmp_loc (op : BinOp) (x y : Slot) : Loc (tokCmp op x y : M D _) := by
  unfold tokCmp
  repeat' (with_reducible first | exact Loc.ret1 _ | exact Loc.bad _ | refine Loc.asNat _ _ fun _ => ?_ | refine Loc.rdD _ fun _ => ?_ | refine Loc.asTok _ _ fun _ => ?_ | refine Loc.boolRec ?_ ?_ _ | refine Loc.optRec ?_ (fun _ => ?_) _ | split)
theorem slowK_loc (P : Program) (op : BinOp) (t : TypeId) (x y : Operand) (f g : Env → Slot) (env : Env) : Loc (slowK P op t x y f g env : M D _) := by
  unfold slowK
  repeat' (with_reducible first | exact Loc.bad _ | exact flatOf_loc _ | exact eqNil_loc _ _ _ _ _ | split)
theorem slowC_loc (P : Program) (op : BinOp) (t : TypeId) (x y : Operand) (f g : Env → Slot) (env : Env) : Loc (slowC P op t x y f g env : M D _) := by
  unfold slowC
  repeat' (with_reducible first | exact tokCmp_loc _ _ _ | exact slowK_loc _ _ _ _ _ _ _ _ | refine Loc.boolRec ?_ ?_ _ | split)
theorem binW_loc (P : Program) (op : BinOp) (t : TypeId) (x y : Operand) (f g : Env → Slot) (env : Env) : Loc ((binW P op t x y f g : WD).out env) := by
  have hs := fun op => slowC_loc P op t x y f g
  unfold binW
  split <;> first
    | exact ints_loc addF_loc (hs _) _ _ _
    | exact ints_loc subF_loc (hs _) _ _ _
    | exact ints_loc mulF_loc (hs _) _ _ _
    | exact ints_loc (fun _ _ _ _ => Loc.ret _) (hs _) _ _ _
    | exact hs _ env
theorem flatRun_loc (P : Program) (x : Env → Slot) (m : Value → Sem Value) (env : Env) : Loc (flatRun P x m env : M D _) := by
  unfold flatRun
  repeat' (with_reducible first | exact Loc.bad _ | exact flatOf_loc _ | split)
theorem funcC_loc (f : FuncId) (fs cs : List (Env → Slot)) (env : Env) : Loc (funcC f fs cs env : M D _) := by
  unfold funcC
  repeat' (with_reducible first | exact Loc.ret1 _ | exact Loc.new _ | refine Loc.bind ?_ fun _ => ?_ | split)
theorem makeMapC_loc (env : Env) : Loc (makeMapC env : M D _) := by
  unfold makeMapC
  repeat' (with_reducible first | exact Loc.ret1 _ | exact Loc.new _ | refine Loc.bind ?_ fun _ => ?_ | split)
theorem makeSliceC_loc (e : TypeId) (size : Nat) (z : List Cell) (l c : Env → Slot) (env : Env) : Loc (makeSliceC e size z l c env : M D _) := by
  unfold makeSliceC
  repeat' (with_reducible first | exact Loc.ret1 _ | exact Loc.new _ | refine Loc.chk _ _ ?_ | refine Loc.bind ?_ fun _ => ?_ | refine Loc.asNat _ _ fun _ => ?_ | split)
theorem fieldAtC_loc (off : Nat) (x : Env → Slot) (env : Env) : Loc (fieldAtC off x env : M D _) := by
  unfold fieldAtC
  repeat' (with_reducible first | exact Loc.ret1 _ | refine Loc.asPtr _ _ fun _ _ => ?_ | split)
theorem fieldC_loc (k : Kind) (off : Nat) (x : Env → Slot) (env : Env) : Loc (fieldC k off x env : M D _) := by
  unfold fieldC
  repeat' (with_reducible first | exact Loc.ret _ | exact Loc.ret1 _ | refine Loc.chk _ _ ?_ | refine Loc.asAgg _ _ fun _ _ => ?_ | refine Loc.kindRec ?_ (fun _ => ?_) _ | split)
theorem indexArrC_loc (n size : Nat) (x i : Env → Slot) (env : Env) : Loc (indexArrC n size x i env : M D _) := by
  unfold indexArrC
  repeat' (with_reducible first | exact Loc.ret1 _ | refine Loc.chk _ _ ?_ | refine Loc.asPtr _ _ fun _ _ => ?_ | refine Loc.asIx _ _ fun _ => ?_ | split)
theorem indexRowC_loc (size : Nat) (x i : Env → Slot) (env : Env) : Loc (indexRowC size x i env : M D _) := by
  unfold indexRowC
  repeat' (with_reducible first | exact Loc.ret1 _ | exact Loc.bad _ | refine Loc.chk _ _ ?_ | refine Loc.asIx _ _ fun _ => ?_ | refine Loc.asRow _ _ ?_ fun _ _ _ _ => ?_ | split)
theorem indexC_loc (n size : Nat) (kd : Kind) (x i : Env → Slot) (env : Env) : Loc (indexC n size kd x i env : M D _) := by
  unfold indexC
  repeat' (with_reducible first | exact Loc.ret _ | exact Loc.ret1 _ | refine Loc.chk _ _ ?_ | refine Loc.asIx _ _ fun _ => ?_ | refine Loc.asAgg _ _ fun _ _ => ?_ | refine Loc.kindRec ?_ (fun _ => ?_) _ | split)
theorem indexS_loc (x i : Env → Slot) (env : Env) : Loc (indexS x i env : M D _) := by
  unfold indexS
  repeat' (with_reducible first | exact Loc.ret1 _ | exact Loc.bad _ | refine Loc.asIx _ _ fun _ => ?_ | split)
theorem cutU_loc (k off n : Nat) (c : Cap) (l h size : Nat) : Loc (cutU k off n c l h size : M D _) := by
  unfold cutU
  repeat' (with_reducible first | exact Loc.ret1 _ | refine Loc.chk _ _ ?_ | refine Loc.boolRec ?_ ?_ _ | refine Loc.natRec ?_ (fun _ _ => ?_) _ | split)
theorem cutX_loc (k off m l h size : Nat) : Loc (cutX k off m l h size : M D _) := by
  unfold cutX
  repeat' (with_reducible first | exact Loc.ret1 _ | refine Loc.chk _ _ ?_ | refine Loc.boolRec ?_ ?_ _ | split)
theorem cutArrC_loc (n size : Nat) (x : Env → Slot) (lo hi : Option (Env → Slot)) (env : Env) : Loc (cutArrC n size x lo hi env : M D _) := by
  unfold cutArrC
  repeat' (with_reducible first | exact cutX_loc _ _ _ _ _ _ | refine Loc.asPtr _ _ fun _ _ => ?_ | refine Loc.bound _ _ _ fun _ => ?_ | split)
theorem cutMax_loc (k o n l h size : Nat) (c : Cap) (m : Nat) : Loc (cutMax k o n l h size c m : M D _) := by
  unfold cutMax
  repeat' (with_reducible first | exact Loc.bad _ | exact cutX_loc _ _ _ _ _ _ | refine Loc.chk _ _ ?_ | refine Loc.capRec (fun _ => ?_) ?_ ?_ ?_ _ | split)
theorem cutCap_loc (k o n l h size : Nat) (c : Cap) : Loc (cutCap k o n l h size c : M D _) := by
  unfold cutCap
  repeat' (with_reducible first | exact cutU_loc _ _ _ _ _ _ _ | exact cutX_loc _ _ _ _ _ _ | refine Loc.capRec (fun _ => ?_) ?_ ?_ ?_ _ | split)
theorem cutRowC_loc (size : Nat) (x : Env → Slot) (lo hi mx : Option (Env → Slot)) (env : Env) : Loc (cutRowC size x lo hi mx env : M D _) := by
  unfold cutRowC
  repeat' (with_reducible first | exact Loc.ret1 _ | exact cutMax_loc _ _ _ _ _ _ _ _ | exact cutCap_loc _ _ _ _ _ _ _ | refine Loc.chk _ _ ?_ | refine Loc.asNat _ _ fun _ => ?_ | refine Loc.asRow _ _ ?_ fun _ _ _ _ => ?_ | refine Loc.bound _ _ _ fun _ => ?_ | refine Loc.optRec ?_ (fun _ => ?_) _ | split)
theorem newsRow_loc (size : Nat) (x : Slot) {f : List Cell → Nat → M D Nx} (hf : ∀ l n, Loc (f l n)) : Loc (newsRow size x f) := by
  unfold newsRow
  exact Loc.asRow _ _ (hf _ _) fun _ _ _ _ => Loc.natRec (hf _ _) (fun _ _ => Loc.rdC _ fun _ _ _ => Loc.chk _ _ (hf _ _)) _
theorem grow_loc (e : TypeId) (size : Nat) (cs : List Cell) (n : Nat) : Loc (grow e size cs n : M D _) := by
  unfold grow
  repeat' (with_reducible first | exact Loc.ret1 _ | exact Loc.new _ | refine Loc.chk _ _ ?_ | refine Loc.bind ?_ fun _ => ?_ | split)
theorem growIn_loc (e : TypeId) (size : Nat) (news : List Cell) (m k n : Nat) : Loc (growIn e size news m k n : M D _) := by
  unfold growIn
  repeat' (with_reducible first | exact Loc.wr _ _ | exact grow_loc _ _ _ _ | refine Loc.chk _ _ ?_ | refine Loc.bind ?_ fun _ => ?_ | refine Loc.rdC _ fun _ _ _ => ?_ | split)
theorem growOut_loc (e : TypeId) (size : Nat) (news : List Cell) (m k off n c : Nat) : Loc (growOut e size news m k off n c : M D _) := by
  unfold growOut
  repeat' (with_reducible first | exact Loc.ret1 _ | exact Loc.wr _ _ | exact grow_loc _ _ _ _ | refine Loc.chk _ _ ?_ | refine Loc.bind ?_ fun _ => ?_ | refine Loc.rdC _ fun _ _ _ => ?_ | refine Loc.boolRec ?_ ?_ _ | split)
theorem appendRow_loc (e : TypeId) (size : Nat) (news : List Cell) (m k off n : Nat) (c : Cap) : Loc (appendRow e size news m k off n c : M D _) := by
  unfold appendRow
  repeat' (with_reducible first | exact Loc.bad _ | exact growIn_loc _ _ _ _ _ _ | exact growOut_loc _ _ _ _ _ _ _ _ | refine Loc.chk _ _ ?_ | refine Loc.capRec (fun _ => ?_) ?_ ?_ ?_ _ | split)
theorem sameRow_loc (s : Slot) : Loc (sameRow s : M D _) := by
  unfold sameRow
  repeat' (with_reducible first | exact Loc.ret _ | refine Loc.asRow _ _ ?_ fun _ _ _ _ => ?_ | split)
theorem appendK_loc (e : TypeId) (size : Nat) (s : Slot) (news : List Cell) (m : Nat) : Loc (appendK e size s news m : M D _) := by
  unfold appendK
  repeat' (with_reducible first | exact grow_loc _ _ _ _ | exact appendRow_loc _ _ _ _ _ _ _ _ | exact sameRow_loc _ | refine Loc.asRow _ _ ?_ fun _ _ _ _ => ?_ | refine Loc.natRec ?_ (fun _ _ => ?_) _ | split)
theorem appendC_loc (e : TypeId) (size : Nat) (s x : Env → Slot) (env : Env) : Loc (appendC e size s x env : M D _) := newsRow_loc _ _ fun _ _ => appendK_loc _ _ _ _ _
theorem appendZ_loc (e : TypeId) (size : Nat) (z : List Cell) (s x : Env → Slot) (env : Env) : Loc (appendZ e size z s x env : M D _) := Loc.asNat _ _ fun _ => Loc.chk _ _ (Loc.asRow _ _ (grow_loc _ _ _ _) fun _ _ _ _ => Loc.bad _)
theorem tell_loc (n : Nat) : Loc (tell n : M D _) := by
  unfold tell
  repeat' (with_reducible first | exact Loc.ret1 _ | refine Loc.chk _ _ ?_ | split)
theorem copyRow_loc (size j k off k' off' : Nat) : Loc (copyRow size j k off k' off' : M D _) := by
  unfold copyRow
  repeat' (with_reducible first | exact putV_loc _ _ _ _ _ | refine Loc.chk _ _ ?_ | refine Loc.rdC _ fun _ _ _ => ?_ | split)
theorem copyC_loc (size : Nat) (d s : Env → Slot) (env : Env) : Loc (copyC size d s env : M D _) := by
  unfold copyC
  repeat' (with_reducible first | exact Loc.ret1 _ | exact copyRow_loc _ _ _ _ _ _ | refine Loc.asRow _ _ ?_ fun _ _ _ _ => ?_ | refine Loc.natRec ?_ (fun _ _ => ?_) _ | split)
theorem lenK_loc (x : Slot) : Loc (lenK x : M D _) := by
  unfold lenK
  repeat' (with_reducible first | exact Loc.ret1 _ | exact tell_loc _ | refine Loc.asRow _ _ ?_ fun _ _ _ _ => ?_ | split)
theorem lenC_loc (x : Env → Slot) (env : Env) : Loc (lenC x env : M D _) := by
  unfold lenC
  repeat' (with_reducible first | exact tokTo_loc _ _ _ | exact lenK_loc _ | refine Loc.boolRec ?_ ?_ _ | split)
theorem clearC_loc (size : Nat) (z : List Cell) (x : Env → Slot) (env : Env) : Loc (clearC size z x env : M D _) := by
  unfold clearC
  repeat' (with_reducible first | exact Loc.ret _ | exact putK_loc _ _ _ _ | refine Loc.asRow _ _ ?_ fun _ _ _ _ => ?_ | refine Loc.natRec ?_ (fun _ _ => ?_) _ | split)
theorem arrC_loc (n : Nat) (x : Env → Slot) (env : Env) : Loc (arrC n x env : M D _) := by
  unfold arrC
  repeat' (with_reducible first | exact Loc.ret1 _ | exact Loc.bad _ | refine Loc.chk _ _ ?_ | refine Loc.asRow _ _ ?_ fun _ _ _ _ => ?_ | split)
theorem lenM_loc (x : Env → Slot) (env : Env) : Loc (lenM x env : M D _) := by
  unfold lenM
  repeat' (with_reducible first | exact tell_loc _ | refine Loc.rdM _ fun _ _ => ?_ | refine Loc.asMap _ _ fun _ => ?_ | split)
theorem lenS_loc (x : Env → Slot) (env : Env) : Loc (lenS x env : M D _) := by
  unfold lenS
  repeat' (with_reducible first | exact Loc.bad _ | exact tell_loc _ | split)
theorem capC_loc (x : Env → Slot) (env : Env) : Loc (capC x env : M D _) := by
  unfold capC
  repeat' (with_reducible first | exact Loc.ret1 _ | exact Loc.bad _ | exact tell_loc _ | refine Loc.asRow _ _ ?_ fun _ _ _ _ => ?_ | refine Loc.capRec (fun _ => ?_) ?_ ?_ ?_ _ | split)
theorem numC_loc (n : Nat) (env : Env) : Loc (numC n env : M D _) := by
  unfold numC
  repeat' (with_reducible first | exact tell_loc _ | split)
theorem extremeC_loc (f : Nat → Nat → Nat) (x : Env → Slot) (xs : List (Env → Slot)) (env : Env) : Loc (extremeC f x xs env : M D _) := by
  unfold extremeC
  refine Loc.asNat _ _ fun n => ?_
  induction xs generalizing n with
  | nil => exact Loc.ret1 _
  | cons y ys ih => exact Loc.asNat _ _ fun m => Loc.force (fun n => ih n) _
theorem partOf_loc (s : Slot) {f : Part → M D Nx} (hf : ∀ p, Loc (f p)) : Loc (partOf s f) := Loc.slotRec (fun _ => hf _) (fun _ _ => hf _) (fun _ => Loc.bad _) s
theorem found_loc (ok : Bool) (v : Slot) (b : Bool) : Loc (found ok v b : M D _) := Loc.boolRec (Loc.ret _) (partOf_loc _ fun _ => Loc.ret _) _
theorem lookupC_loc (ok : Bool) (z : Slot) (x i : Env → Slot) (env : Env) : Loc (lookupC ok z x i env : M D _) := by
  unfold lookupC
  repeat' (with_reducible first | exact found_loc _ _ _ | refine Loc.rdM _ fun _ _ => ?_ | refine Loc.asNat _ _ fun _ => ?_ | refine Loc.asMap _ _ fun _ => ?_ | split)
theorem updateC_loc (x i v : Env → Slot) (env : Env) : Loc (updateC x i v env : M D _) := by
  unfold updateC
  repeat' (with_reducible first | exact Loc.ret _ | exact Loc.bad _ | exact Loc.wr _ _ | refine Loc.bind ?_ fun _ => ?_ | refine Loc.rdM _ fun _ _ => ?_ | refine Loc.asNat _ _ fun _ => ?_ | refine Loc.asMap _ _ fun _ => ?_ | split)
theorem extractC_loc (j : Nat) (x : Env → Slot) (env : Env) : Loc (extractC j x env : M D _) := by
  unfold extractC
  refine Loc.slotRec (fun _ => Loc.bad _) (fun _ _ => Loc.bad _) (fun l => ?_) _
  cases dropN j l
  · exact Loc.bad _
  · exact Loc.ret _
theorem callK_loc (f : FuncId) (xs : List (Env → Slot)) (env : Env) : Loc (callK f xs env : M D _) := by
  unfold callK
  repeat' (with_reducible first | exact Loc.ret _ | split)
theorem callC_loc (P : Program) (f : Env → Slot) (xs : List (Env → Slot)) (env : Env) : Loc (callC P f xs env : M D _) := by
  unfold callC
  repeat' (with_reducible first | exact Loc.ret _ | exact Loc.bad _ | refine Loc.chk _ _ ?_ | refine Loc.rdF _ fun _ _ _ => ?_ | refine Loc.optRec ?_ (fun _ => ?_) _ | refine Loc.slotRec (fun _ => ?_) (fun _ _ => ?_) (fun _ => ?_) _ | refine Loc.cellRec (fun _ => ?_) (fun _ => ?_) (fun _ => ?_) (fun _ _ => ?_) (fun _ _ _ _ => ?_) (fun _ => ?_) (fun _ => ?_) _ | split)
theorem convI_loc (P : Program) (s d : TypeId) (x : Env → Slot) (env : Env) : Loc (convI P s d x env : M D _) := by
  unfold convI
  repeat' (with_reducible first | exact Loc.ret1 _ | exact Loc.bad _ | exact flatRun_loc _ _ _ _ | refine Loc.slotRec (fun _ => ?_) (fun _ _ => ?_) (fun _ => ?_) _ | refine Loc.cellRec (fun _ => ?_) (fun _ => ?_) (fun _ => ?_) (fun _ _ => ?_) (fun _ _ _ _ => ?_) (fun _ => ?_) (fun _ => ?_) _ | split)
theorem convT_loc (P : Program) (s d : TypeId) (x : Env → Slot) (env : Env) : Loc (convT P s d x env : M D _) := by
  unfold convT
  repeat' (with_reducible first | exact tokTo_loc _ _ _ | exact flatRun_loc _ _ _ _ | refine Loc.boolRec ?_ ?_ _ | split)
theorem allocW_loc (t : TypeId) (n : Nat) (z : List Cell) (env : Env) : Loc ((W.mk (allocC t n z) : WD).out env) := allocC_loc t n z env
theorem makeMapW_loc (env : Env) : Loc ((W.mk makeMapC : WD).out env) := makeMapC_loc env
theorem out_optRec {β γ : Type} {n : W γ} {f : β → W γ} (o : Option β) : (Option.rec n f o : W γ).out = Option.rec n.out (fun b => (f b).out) o := by cases o <;> rfl
theorem with1_loc (n : Nat) (x : Operand) {f : (Env → Slot) → WD} (hf : ∀ g env, Loc ((f g).out env)) (env : Env) : Loc ((with1 n x f).out env) := by
  unfold with1
  cases evC x
  · exact Loc.bad _
  · exact hf _ _
theorem withO_loc {β : Type} (n : Nat) (o : Option β) {f : β → WD} (hf : ∀ g env, Loc ((f g).out env)) (env : Env) : Loc ((withO n o f).out env) := by
  unfold withO
  cases o
  · exact Loc.bad _
  · exact hf _ _
theorem optC_loc (x : Option Operand) {f : Option (Env → Slot) → WD} (hf : ∀ g env, Loc ((f g).out env)) (env : Env) : Loc ((optC x f).out env) := by
  unfold optC
  split
  · exact hf _ _
  · exact with1_loc _ _ (fun g env => hf _ _) _
theorem badW_loc (n : Nat) (env : Env) : Loc ((badW n : WD).out env) := Loc.bad _
theorem buildD_loc (P : Program) (t : TypeId) (parts : List (Nat × Operand)) (env : Env) : Loc ((buildD P t parts : WD).out env) := by
  unfold buildD
  repeat' (first | with_reducible exact badW_loc _ _ | with_reducible refine withO_loc _ _ (fun _ _ => ?_) _ | exact buildC_loc _ _ _ _ _ | split)
theorem rowD_loc (P : Program) (t : TypeId) (n : Nat) (parts : List (Nat × Operand)) (env : Env) : Loc ((rowD P t n parts : WD).out env) := by
  unfold rowD
  refine withO_loc _ _ (fun p _ => withO_loc _ _ (fun _ _ => withO_loc _ _ (fun _ _ => withO_loc _ _ (fun _ _ => ?_) _) _) _) _
  cases Nat.ble n 4096
  · exact Loc.bad _
  · exact rowC_loc _ _ _ _ _ _ _
theorem fieldAtD_loc (P : Program) (q : TypeId) (i : Nat) (x : Env → Slot) (env : Env) : Loc ((fieldAtD P q i x : WD).out env) := by
  unfold fieldAtD
  repeat' (first | with_reducible exact badW_loc _ _ | exact fieldAtC_loc _ _ _ | split)
theorem fieldD_loc (P : Program) (q : TypeId) (i : Nat) (x : Env → Slot) (env : Env) : Loc ((fieldD P q i x : WD).out env) := by
  unfold fieldD
  repeat' (first | with_reducible exact badW_loc _ _ | with_reducible refine withO_loc _ _ (fun _ _ => ?_) _ | exact fieldC_loc _ _ _ _ | split)
theorem indexAtD_loc (P : Program) (t : TypeId) (x i : Env → Slot) (env : Env) : Loc ((indexAtD P t x i : WD).out env) := by
  unfold indexAtD
  repeat' (first | with_reducible exact badW_loc _ _ | with_reducible refine withO_loc _ _ (fun _ _ => ?_) _ | exact indexArrC_loc _ _ _ _ _ | exact indexRowC_loc _ _ _ _ | split)
theorem indexD_loc (P : Program) (t : TypeId) (x i : Env → Slot) (env : Env) : Loc ((indexD P t x i : WD).out env) := by
  unfold indexD
  repeat' (first | with_reducible exact badW_loc _ _ | with_reducible refine withO_loc _ _ (fun _ _ => ?_) _ | exact indexC_loc _ _ _ _ _ _ | exact indexS_loc _ _ _ | split)
theorem cutD_loc (P : Program) (t : TypeId) (x : Env → Slot) (lo hi mx : Option Operand) (env : Env) : Loc ((cutD P t x lo hi mx : WD).out env) := by
  unfold cutD
  repeat' (first | with_reducible exact badW_loc _ _ | with_reducible refine withO_loc _ _ (fun _ _ => ?_) _ | with_reducible refine optC_loc _ (fun _ _ => ?_) _ | exact cutArrC_loc _ _ _ _ _ _ | exact cutRowC_loc _ _ _ _ _ _ | split)
theorem appendD_loc (P : Program) (ts : List TypeId) (q x : Env → Slot) (env : Env) : Loc ((appendD P ts q x : WD).out env) := by
  unfold appendD
  repeat' (first | with_reducible exact badW_loc _ _ | with_reducible refine withO_loc _ _ (fun _ _ => ?_) _ | exact appendC_loc _ _ _ _ _ | exact appendZ_loc _ _ _ _ _ _ | split)
theorem lenD_loc (P : Program) (ts : List TypeId) (x : Env → Slot) (env : Env) : Loc ((lenD P ts x : WD).out env) := by
  unfold lenD
  repeat' (first | with_reducible exact badW_loc _ _ | exact lenC_loc _ _ | exact lenM_loc _ _ | exact lenS_loc _ _ | exact numC_loc _ env | split)
theorem capD_loc (P : Program) (ts : List TypeId) (x : Env → Slot) (env : Env) : Loc ((capD P ts x : WD).out env) := by
  unfold capD
  repeat' (first | with_reducible exact badW_loc _ _ | exact capC_loc _ _ | exact numC_loc _ env | split)
theorem copyD_loc (P : Program) (ts : List TypeId) (d q : Env → Slot) (env : Env) : Loc ((copyD P ts d q : WD).out env) := by
  unfold copyD
  repeat' (first | with_reducible exact badW_loc _ _ | with_reducible refine withO_loc _ _ (fun _ _ => ?_) _ | exact copyC_loc _ _ _ _ | split)
theorem clearD_loc (P : Program) (ts : List TypeId) (x : Env → Slot) (env : Env) : Loc ((clearD P ts x : WD).out env) := by
  unfold clearD
  repeat' (first | with_reducible exact badW_loc _ _ | with_reducible refine withO_loc _ _ (fun _ _ => ?_) _ | exact clearC_loc _ _ _ _ | split)
theorem arrD_loc (P : Program) (t : TypeId) (x : Env → Slot) (env : Env) : Loc ((arrD P t x : WD).out env) := by
  unfold arrD
  repeat' (first | with_reducible exact badW_loc _ _ | exact arrC_loc _ _ _ | split)
theorem builtinD_loc (P : Program) (b : Builtin) (ts : List TypeId) (xs : List (Env → Slot)) (env : Env) : Loc ((builtinD P b ts xs : WD).out env) := by
  unfold builtinD
  repeat' (first | with_reducible exact badW_loc _ _ | with_reducible exact appendD_loc _ _ _ _ _ | with_reducible exact lenD_loc _ _ _ _ | with_reducible exact capD_loc _ _ _ _ | with_reducible exact copyD_loc _ _ _ _ _ | with_reducible exact clearD_loc _ _ _ _ | exact extremeC_loc _ _ _ _ | split)
theorem callD_loc (P : Program) (c : Call) (env : Env) : Loc ((callD P c : WD).out env) := by
  unfold callD
  split
  · exact withO_loc _ _ (fun _ _ => builtinD_loc _ _ _ _ _) _
  · refine withO_loc _ _ (fun xs env => ?_) _
    cases bodied P _
    · exact Loc.bad _
    · exact callK_loc _ _ _
  · refine with1_loc _ _ (fun g env => ?_) _
    refine withO_loc _ _ (fun xs env => ?_) _
    exact callC_loc _ _ _ _
  · exact badW_loc _ _
theorem convD_loc (P : Program) (a d : TypeId) (x : Env → Slot) (env : Env) : Loc ((convD P a d x : WD).out env) := by
  unfold convD
  repeat' (first | exact flatRun_loc _ _ _ _ | exact convI_loc _ _ _ _ _ | exact convT_loc _ _ _ _ _ | split)
theorem opD_loc (P : Program) (o : Op) (env : Env) : Loc ((opD P o : WD).out env) := by
  cases o <;> unfold opD <;> try dsimp only
  all_goals repeat' (first | with_reducible exact badW_loc _ _ | with_reducible exact allocW_loc _ _ _ _ | with_reducible exact makeMapW_loc _ | with_reducible exact binW_loc _ _ _ _ _ _ _ _ | with_reducible exact buildD_loc _ _ _ _ | with_reducible exact rowD_loc _ _ _ _ _ | with_reducible exact fieldAtD_loc _ _ _ _ _ | with_reducible exact fieldD_loc _ _ _ _ _ | with_reducible exact indexAtD_loc _ _ _ _ _ | with_reducible exact indexD_loc _ _ _ _ _ | with_reducible exact cutD_loc _ _ _ _ _ _ _ | with_reducible exact arrD_loc _ _ _ _ | with_reducible exact callD_loc _ _ _ | with_reducible exact convD_loc _ _ _ _ _ | with_reducible refine with1_loc _ _ (fun _ _ => ?_) _ | with_reducible refine withO_loc _ _ (fun _ _ => ?_) _ | exact moveC_loc _ _ | exact pickC_loc _ _ _ _ | exact boxC_loc _ _ _ | exact loadC_loc _ _ _ | exact storeC_loc _ _ _ _ | exact nilCheckC_loc _ _ | exact flatRun_loc _ _ _ _ | exact funcC_loc _ _ _ _ | exact makeSliceC_loc _ _ _ _ _ _ | exact lookupC_loc _ _ _ _ _ | exact updateC_loc _ _ _ _ | exact extractC_loc _ _ _ | split)
section
variable (P : Program)
/-- The callee looks only at the names it tells of. -/
def LocS (s : Step) : Prop := ∀ call : Callee, (∀ f args, Loc (call f args)) → ∀ env, Loc (s call env)
theorem enterA_loc {call : Callee} (hc : ∀ f args, Loc (call f args)) (n : Nx) : Loc (enterA call n) := Loc.nxRec (fun _ => Loc.ret _) hc n
theorem onlyIf_loc (want : Bool) (v : Slot) {m : M D Slot} (hm : Loc m) : Loc (onlyIf want v m) :=
  Loc.slotRec (fun c => Loc.cellRec (fun _ => Loc.bad _) (fun _ => Loc.boolRec (Loc.boolRec hm (Loc.ret _) _) (Loc.boolRec (Loc.ret _) hm _) _) (fun _ => Loc.bad _) (fun _ _ => Loc.bad _) (fun _ _ _ _ => Loc.bad _) (fun _ => Loc.bad _) (fun _ => Loc.bad _) c) (fun _ _ => Loc.bad _) (fun _ => Loc.ret _) v
theorem stepW_loc (ops : Array Oper) (o : Oper) : LocS (stepW P ops o).out := fun call hc env => by
  unfold stepW
  cases guardD ops o with
  | none => exact Loc.bad _
  | some g =>
    show Loc ((Option.rec (.mk (plainS (opD P o.op : WD).out)) (fun g => .mk (guardS g.2 g.1 (opD P o.op : WD).out)) g : W (Step)).out call env)
    cases g with
    | none => exact Loc.bind (opD_loc P o.op env) (enterA_loc hc)
    | some g => exact onlyIf_loc _ _ (Loc.bind (opD_loc P o.op env) (enterA_loc hc))
def LocL (s : Steps) : Prop := ∀ call : Callee, (∀ f args, Loc (call f args)) → ∀ env, Loc (s call env)
theorem consL_loc {s : Step} (hs : LocS s) (p : Slot → Env → Env) {k : Steps} (hk : LocL k) : LocL (consL s p k) := fun call hc env => Loc.bind (hs call hc env) fun _ => hk call hc _
theorem listW_cons (ops : Array Oper) (o : Oper) (l : List Oper) : (listW P ops (o :: l) : W (Steps)).out = consL (stepW P ops o).out (dstD o).out (listW P ops l).out := by
  have e : (listW P ops (o :: l) : W (Steps)) = W.rec (fun k => W.rec (fun s => W.rec (fun p => .mk (consL s p k)) (dstD o)) (stepW P ops o)) (listW P ops l) := rfl
  rw [e]
  rfl
theorem listW_loc (ops : Array Oper) : ∀ l : List Oper, LocL (listW P ops l).out
  | [] => fun _ _ _ => Loc.ret _
  | o :: l => by rw [listW_cons]; exact consL_loc (stepW_loc P ops o) _ (listW_loc ops l)
def LocD (s : Draws) : Prop := ∀ call : Callee, (∀ f args, Loc (call f args)) → ∀ env fps, Loc (s call env fps)
theorem consR_loc {s : Step} (hs : LocS s) (p : Slot → Env → Env) (a : Away) (q : Option (Nat × Nat) → Fps → Fps) {k : Draws} (hk : LocD k) : LocD (consR s p a q k) := fun call hc env _ => Loc.alone (hs call hc env) fun _ _ _ => Loc.chk _ _ (hk call hc _ _)
theorem drawW_nil (ops : Array Oper) (ms : List Nat) (done : List Oper) (i : Nat) : (drawW P ops ms [] done i : W (Draws)).out = endR := rfl
theorem drawW_cons (ops : Array Oper) (ms : List Nat) (o : Oper) (l done : List Oper) (i : Nat) : (drawW P ops ms (o :: l) done i : W (Draws)).out = match looseOk ops o ms done i with
    | none => fun _ _ _ => bad 192
    | some ls => consR (stepW P ops o).out (dstD o).out (awayW ls).out (Tr.put (path 3 i)).out (drawW P ops ms l (done ++ [o]) (i + 1)).out := by
  have e : (drawW P ops ms (o :: l) done i : W (Draws)) = Option.rec (.mk fun _ _ _ => bad 192) (fun ls => W.rec (fun k => W.rec (fun s => W.rec (fun p => W.rec (fun a => W.rec (fun q => .mk (consR s p a q k)) (Tr.put (path 3 i))) (awayW ls)) (dstD o)) (stepW P ops o)) (drawW P ops ms l (done ++ [o]) (i + 1))) (looseOk ops o ms done i) := rfl
  rw [e]
  cases looseOk ops o ms done i with
  | none => rfl
  | some ls => rfl
theorem drawW_loc (ops : Array Oper) (ms : List Nat) : ∀ (l done : List Oper) (i : Nat), LocD (drawW P ops ms l done i).out
  | [], _, _ => fun _ _ _ _ => Loc.ret _
  | o :: l, done, i => by
    rw [drawW_cons]
    split
    · exact fun _ _ _ _ => Loc.bad _
    · exact consR_loc (stepW_loc P ops o) _ _ _ (drawW_loc ops ms l _ _)
def LocR (s : Run) : Prop := ∀ call : Callee, (∀ f args, Loc (call f args)) → ∀ env, Loc (s call env)
theorem onNormal_loc {call : Callee} (hc : ∀ f args, Loc (call f args)) {f : Run} (hf : LocR f) (x : Ex × Env) : Loc (onNormal call f x) := by
  obtain ⟨e, env⟩ := x
  cases e
  · exact hf call hc env
  · exact Loc.ret _
  · exact Loc.ret _
theorem iterA_loc {f : Env → M D (Ex × Env)} (hf : ∀ env, Loc (f env)) : ∀ (n : Nat) (env : Env), Loc (iterA f n env)
  | 0, _ => Loc.bad _
  | n + 1, env => by
    refine Loc.bind (hf env) fun x => ?_
    obtain ⟨e, env⟩ := x
    cases e
    · exact iterA_loc hf n env
    · exact Loc.ret _
    · exact Loc.ret _
theorem regionW_loc (ops : Array Oper) (draw : Bool) : LocR (regionW P ops draw).out := by
  cases draw with
  | false =>
    have e : (regionW P ops false).out = listR (listW P ops ops.toList).out := rfl
    rw [e]
    exact fun call hc env => Loc.bind (listW_loc P ops _ call hc env) fun _ => Loc.ret _
  | true =>
    unfold regionW
    cases Nat.ble ops.size 512 with
    | false => exact fun _ _ _ => Loc.bad _
    | true =>
      show LocR (drawR (drawW P ops (masks ops.toList []) ops.toList [] 0).out)
      exact fun call hc env => Loc.bind (drawW_loc P ops _ _ _ _ call hc env _) fun _ => Loc.ret _
theorem codeW_seq (rounds : Nat) (a b : Code) : (codeW P rounds (.seq a b)).out = seqR (codeW P rounds a).out (codeW P rounds b).out := rfl
theorem codeW_cond (rounds : Nat) (c : Operand) (a b : Code) : (codeW P rounds (.cond c a b)).out = match evC c with
    | none => badR 196
    | some c => condR c (codeW P rounds a).out (codeW P rounds b).out := by
  show (Option.rec _ _ (evC c) : W (Run)).out = _
  cases evC c with
  | none => rfl
  | some c => rfl
theorem codeW_block (rounds id : Nat) (c : Code) : (codeW P rounds (.block id c)).out = blockR id (codeW P rounds c).out := rfl
theorem codeW_loop (rounds : Nat) (c : Code) : (codeW P rounds (.loop c)).out = loopR rounds (codeW P rounds c).out := rfl
theorem codeW_loc (rounds : Nat) (c : Code) : LocR (codeW P rounds c).out := by
  induction c with
  | skip => exact fun _ _ _ => Loc.ret _
  | region id ops draw => exact regionW_loc P ops draw
  | seq a b iha ihb =>
    rw [codeW_seq]
    exact fun call hc env => Loc.bind (iha call hc env) (onNormal_loc hc ihb)
  | cond c a b iha ihb =>
    rw [codeW_cond]
    split
    · exact fun _ _ _ => Loc.bad _
    · exact fun call hc env => Loc.asBool _ _ fun _ => Loc.boolRec (ihb call hc env) (iha call hc env) _
  | block id c ih =>
    rw [codeW_block]
    intro call hc env
    refine Loc.bind (ih call hc env) fun x => ?_
    obtain ⟨e, env⟩ := x
    cases e
    · exact Loc.ret _
    · exact Loc.boolRec (Loc.ret _) (Loc.ret _) _
    · exact Loc.ret _
  | loop c ih =>
    rw [codeW_loop]
    exact fun call hc env => iterA_loc (ih call hc) rounds env
  | exit i => exact fun _ _ _ => Loc.ret _
  | label l => exact fun _ _ _ => Loc.ret _
  | ret => exact fun _ _ _ => Loc.ret _
  | _ => exact fun _ _ _ => Loc.bad _
theorem partsOf_loc {β : Type} : ∀ (l : List Slot) {f : List Part → M D β}, (∀ l, Loc (f l)) → Loc (partsOf l f)
  | [], _, hf => hf _
  | s :: l, f, hf => by
    cases s
    · exact partsOf_loc l fun _ => hf _
    · exact partsOf_loc l fun _ => hf _
    · exact Loc.bad _
def LocZ (r : Res) : Prop := ∀ env (f : List Slot → M D Slot), (∀ l, Loc (f l)) → Loc (r env f)
theorem resultsW_tmp (t : Tmp) (l : List ResultVar) : (resultsW P (.tmp t :: l)).out = tmpZ (slotAt t).out (resultsW P l).out := by
  rfl
theorem resultsW_cell (a : Tmp) (t : TypeId) (l : List ResultVar) : (resultsW P (.cell a t :: l)).out = match kindOf P t with
    | none => fun _ _ => bad 203
    | some kd => cellZ (slotAt a).out kd (resultsW P l).out := by
  show (Option.rec (W.mk fun _ _ => bad 203) (fun kd => W.mk (cellZ (slotAt a).out kd (resultsW P l).out)) (kindOf P t) : W (Res)).out = _
  cases kindOf P t with
  | none => rfl
  | some kd => rfl
theorem resultsW_loc : ∀ l : List ResultVar, LocZ (resultsW P l).out
  | [] => fun _ _ hf => hf _
  | .tmp t :: l => by rw [resultsW_tmp]; exact fun env f hf => resultsW_loc l env _ fun _ => hf _
  | .cell a t :: l => by
    rw [resultsW_cell]
    split
    · exact fun _ _ _ => Loc.bad _
    · exact fun env f hf => Loc.bind (Loc.asPtr _ _ fun _ _ => loadK_loc _ _ _) fun y => Loc.nxRec (fun _ => resultsW_loc l env _ fun _ => hf _) (fun _ _ => Loc.bad _) y
theorem oneOf_loc (vs : List Slot) : Loc (oneOf vs : M D Slot) := by
  cases vs with
  | nil => exact partsOf_loc [] (f := fun l => M.ret (Slot.tup l)) fun l => Loc.ret (Slot.tup l)
  | cons v t =>
    cases t with
    | nil => exact Loc.ret _
    | cons u t => exact partsOf_loc (v :: u :: t) (f := fun l => M.ret (Slot.tup l)) fun l => Loc.ret (Slot.tup l)
theorem leaveA_loc {r : Res} (hr : LocZ r) (x : Ex × Env) : Loc (leaveA r x) := by
  obtain ⟨e, env⟩ := x
  cases e
  · exact hr _ _ oneOf_loc
  · exact Loc.bad _
  · exact hr _ _ oneOf_loc
theorem bodyW_some (rounds : Nat) (fn : Func) (body : Code) (hb : fn.body = some body) : (bodyW P rounds (some fn)).out = match Nat.ble fn.ntmps 512 && (within fn.ntmps body && resultsIn fn.ntmps fn.results.toList) with
    | false => badB 208
    | true => bodyB fn.ntmps (codeW P rounds body).out (resultsW P fn.results.toList).out := by
  have e : bodyW P rounds (some fn) = Bool.rec (.mk (badB 208)) (W.rec (fun f => W.rec (fun r => .mk (bodyB fn.ntmps f r)) (resultsW P fn.results.toList)) (codeW P rounds body)) (Nat.ble fn.ntmps 512 && (within fn.ntmps body && resultsIn fn.ntmps fn.results.toList)) := by
    unfold bodyW
    simp only [hb]
  rw [e]
  cases (Nat.ble fn.ntmps 512 && (within fn.ntmps body && resultsIn fn.ntmps fn.results.toList)) with
  | false => rfl
  | true => rfl
theorem bodyW_loc (rounds : Nat) (fn : Option Func) : ∀ call : Callee, (∀ f args, Loc (call f args)) → ∀ args, Loc ((bodyW P rounds fn).out call args) := by
  cases fn with
  | none => exact fun _ _ _ => Loc.bad _
  | some fn =>
    cases hb : fn.body with
    | none =>
      have e : bodyW P rounds (some fn) = .mk (badB 207) := by unfold bodyW; simp only [hb]
      rw [e]
      exact fun _ _ _ => Loc.bad _
    | some body =>
      rw [bodyW_some P rounds fn body hb]
      split
      · exact fun _ _ _ => Loc.bad _
      · exact fun call hc args => Loc.chk _ _ (Loc.bind (codeW_loc P rounds body call hc _) (leaveA_loc (resultsW_loc P _)))
theorem runA_succ (K : Known) (rounds n : Nat) (f : FuncId) (args : List Slot) : runA P K rounds (n + 1) f args = match K f with
    | none => (bodyW P rounds (P.funcs[f]?)).out (runA P K rounds n) args
    | some k => k args := by
  show (Option.rec _ _ (K f) : M D Slot) = _
  cases K f with
  | none => exact W.rec_out _ _
  | some k => rfl
theorem runA_loc {K : Known} (hK : ∀ f k args, K f = some k → Loc (k args)) (rounds : Nat) : ∀ (n : Nat) (f : FuncId) (args : List Slot), Loc (runA P K rounds n f args)
  | 0, _, _ => Loc.bad _
  | n + 1, f, args => by
    rw [runA_succ]
    split
    · exact bodyW_loc P rounds _ _ (runA_loc hK rounds n) args
    · exact hK _ _ _ (by assumption)
end
end
end Go.Proofs.YtlpbbihjnmikkaaGreatDoor.Exe
