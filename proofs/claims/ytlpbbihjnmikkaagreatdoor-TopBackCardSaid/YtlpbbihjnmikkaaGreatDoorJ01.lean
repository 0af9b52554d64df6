/-
  Joined: Exe
-/
import Derived.Orders
import Derived.WalkKit
namespace Go.Proofs.YtlpbbihjnmikkaaGreatDoor.Exe
noncomputable section

/-- A wrap: what stands in it is reckoned once. -/
inductive W (α : Type) where
  | mk (out : α)
/-- A tree by digits. -/
inductive Tr (α : Type) where
  | leaf
  | tip (a : α)
  | node (a b c d e f g h : Tr α)
inductive Dg where
  | d0
  | d1
  | d2
  | d3
  | d4
  | d5
  | d6
  | d7
  deriving DecidableEq
section
variable {α β : Type}
def Tr.tipD (z : β) (f : α → β) (t : Tr α) : β := Tr.rec z f (fun _ _ _ _ _ _ _ _ _ _ _ _ _ _ _ _ => z) t
def Tr.get0 (z : β) (f : Tr α → β) (t : Tr α) : β := Tr.rec z (fun _ => z) (fun a _ _ _ _ _ _ _ _ _ _ _ _ _ _ _ => f a) t
def Tr.get1 (z : β) (f : Tr α → β) (t : Tr α) : β := Tr.rec z (fun _ => z) (fun _ a _ _ _ _ _ _ _ _ _ _ _ _ _ _ => f a) t
def Tr.get2 (z : β) (f : Tr α → β) (t : Tr α) : β := Tr.rec z (fun _ => z) (fun _ _ a _ _ _ _ _ _ _ _ _ _ _ _ _ => f a) t
def Tr.get3 (z : β) (f : Tr α → β) (t : Tr α) : β := Tr.rec z (fun _ => z) (fun _ _ _ a _ _ _ _ _ _ _ _ _ _ _ _ => f a) t
def Tr.get4 (z : β) (f : Tr α → β) (t : Tr α) : β := Tr.rec z (fun _ => z) (fun _ _ _ _ a _ _ _ _ _ _ _ _ _ _ _ => f a) t
def Tr.get5 (z : β) (f : Tr α → β) (t : Tr α) : β := Tr.rec z (fun _ => z) (fun _ _ _ _ _ a _ _ _ _ _ _ _ _ _ _ => f a) t
def Tr.get6 (z : β) (f : Tr α → β) (t : Tr α) : β := Tr.rec z (fun _ => z) (fun _ _ _ _ _ _ a _ _ _ _ _ _ _ _ _ => f a) t
def Tr.get7 (z : β) (f : Tr α → β) (t : Tr α) : β := Tr.rec z (fun _ => z) (fun _ _ _ _ _ _ _ a _ _ _ _ _ _ _ _ => f a) t
/-- What stands at a place of the tree. -/
def Tr.get (z : β) (f : α → β) (p : List Dg) : W (Tr α → β) := List.rec (.mk (Tr.tipD z f)) (fun g _ ih => W.rec (fun k => Dg.rec (.mk (Tr.get0 z k)) (.mk (Tr.get1 z k)) (.mk (Tr.get2 z k)) (.mk (Tr.get3 z k)) (.mk (Tr.get4 z k)) (.mk (Tr.get5 z k)) (.mk (Tr.get6 z k)) (.mk (Tr.get7 z k)) g) ih) p
def Tr.tipP (a : Option α) (_ : Tr α) : Tr α := Option.rec .leaf (fun a => .tip a) a
def Tr.put0 (k : Option α → Tr α → Tr α) (a : Option α) (t : Tr α) : Tr α := Tr.rec (.node (k a .leaf) .leaf .leaf .leaf .leaf .leaf .leaf .leaf) (fun _ => .node (k a .leaf) .leaf .leaf .leaf .leaf .leaf .leaf .leaf) (fun x0 x1 x2 x3 x4 x5 x6 x7 _ _ _ _ _ _ _ _ => .node (k a x0) x1 x2 x3 x4 x5 x6 x7) t
def Tr.put1 (k : Option α → Tr α → Tr α) (a : Option α) (t : Tr α) : Tr α := Tr.rec (.node .leaf (k a .leaf) .leaf .leaf .leaf .leaf .leaf .leaf) (fun _ => .node .leaf (k a .leaf) .leaf .leaf .leaf .leaf .leaf .leaf) (fun x0 x1 x2 x3 x4 x5 x6 x7 _ _ _ _ _ _ _ _ => .node x0 (k a x1) x2 x3 x4 x5 x6 x7) t
def Tr.put2 (k : Option α → Tr α → Tr α) (a : Option α) (t : Tr α) : Tr α := Tr.rec (.node .leaf .leaf (k a .leaf) .leaf .leaf .leaf .leaf .leaf) (fun _ => .node .leaf .leaf (k a .leaf) .leaf .leaf .leaf .leaf .leaf) (fun x0 x1 x2 x3 x4 x5 x6 x7 _ _ _ _ _ _ _ _ => .node x0 x1 (k a x2) x3 x4 x5 x6 x7) t
def Tr.put3 (k : Option α → Tr α → Tr α) (a : Option α) (t : Tr α) : Tr α := Tr.rec (.node .leaf .leaf .leaf (k a .leaf) .leaf .leaf .leaf .leaf) (fun _ => .node .leaf .leaf .leaf (k a .leaf) .leaf .leaf .leaf .leaf) (fun x0 x1 x2 x3 x4 x5 x6 x7 _ _ _ _ _ _ _ _ => .node x0 x1 x2 (k a x3) x4 x5 x6 x7) t
def Tr.put4 (k : Option α → Tr α → Tr α) (a : Option α) (t : Tr α) : Tr α := Tr.rec (.node .leaf .leaf .leaf .leaf (k a .leaf) .leaf .leaf .leaf) (fun _ => .node .leaf .leaf .leaf .leaf (k a .leaf) .leaf .leaf .leaf) (fun x0 x1 x2 x3 x4 x5 x6 x7 _ _ _ _ _ _ _ _ => .node x0 x1 x2 x3 (k a x4) x5 x6 x7) t
def Tr.put5 (k : Option α → Tr α → Tr α) (a : Option α) (t : Tr α) : Tr α := Tr.rec (.node .leaf .leaf .leaf .leaf .leaf (k a .leaf) .leaf .leaf) (fun _ => .node .leaf .leaf .leaf .leaf .leaf (k a .leaf) .leaf .leaf) (fun x0 x1 x2 x3 x4 x5 x6 x7 _ _ _ _ _ _ _ _ => .node x0 x1 x2 x3 x4 (k a x5) x6 x7) t
def Tr.put6 (k : Option α → Tr α → Tr α) (a : Option α) (t : Tr α) : Tr α := Tr.rec (.node .leaf .leaf .leaf .leaf .leaf .leaf (k a .leaf) .leaf) (fun _ => .node .leaf .leaf .leaf .leaf .leaf .leaf (k a .leaf) .leaf) (fun x0 x1 x2 x3 x4 x5 x6 x7 _ _ _ _ _ _ _ _ => .node x0 x1 x2 x3 x4 x5 (k a x6) x7) t
def Tr.put7 (k : Option α → Tr α → Tr α) (a : Option α) (t : Tr α) : Tr α := Tr.rec (.node .leaf .leaf .leaf .leaf .leaf .leaf .leaf (k a .leaf)) (fun _ => .node .leaf .leaf .leaf .leaf .leaf .leaf .leaf (k a .leaf)) (fun x0 x1 x2 x3 x4 x5 x6 x7 _ _ _ _ _ _ _ _ => .node x0 x1 x2 x3 x4 x5 x6 (k a x7)) t
def Tr.put (p : List Dg) : W (Option α → Tr α → Tr α) := List.rec (.mk Tr.tipP) (fun g _ ih => W.rec (fun k => Dg.rec (.mk (Tr.put0 k)) (.mk (Tr.put1 k)) (.mk (Tr.put2 k)) (.mk (Tr.put3 k)) (.mk (Tr.put4 k)) (.mk (Tr.put5 k)) (.mk (Tr.put6 k)) (.mk (Tr.put7 k)) g) ih) p
end
def digit (n : Nat) : Dg := Nat.rec .d0 (fun i _ => Nat.rec .d1 (fun i _ => Nat.rec .d2 (fun i _ => Nat.rec .d3 (fun i _ => Nat.rec .d4 (fun i _ => Nat.rec .d5 (fun i _ => Nat.rec .d6 (fun _ _ => .d7) i) i) i) i) i) i) (Nat.mod n 8)
def path (f : Nat) (n : Nat) : List Dg := Nat.rec (motive := fun _ => Nat → List Dg) (fun _ => []) (fun _ ih n => digit n :: ih (Nat.div n 8)) f n

/-- What is known of a row's cap: all; that it is no less than the length; that the row is a whole block, which was grown; nothing, nor where it lies (it is empty). -/
inductive Cap where
  | exact (c : Nat)
  | some
  | whole
  | lost
/-- A cell's value: a number of 64 bits that is not below nought; something that names no block; an address, by a block's name; a row; a map; something that has a name of its own. -/
inductive Cell where
  | nat (n : Nat)
  | bool (b : Bool)
  | flat (v : Value)
  | ptr (k off : Nat)
  | row (k off n : Nat) (c : Cap)
  | map (k : Nat)
  | tok (k : Nat)
inductive Part where
  | one (c : Cell)
  | agg (n : Nat) (cs : List Cell)
/-- What a slot holds. -/
inductive Slot where
  | one (c : Cell)
  | agg (n : Nat) (cs : List Cell)
  | tup (l : List Part)
/-- What a name stands for: a block whose first cells are these; a map; a function and what it has with it; something of which only a word is known. -/
inductive Thing (D : Type) where
  | cells (n : Nat) (cs : List Cell) (elem : TypeId)
  | map (es : List (Nat × Slot × Nat)) (clock : Nat)
  | fn (f : FuncId) (fs cs : List Slot)
  | data (d : D)
abbrev Heap (D : Type) := Tr (Thing D)
def Heap.at {D : Type} (h : Heap D) (k : Nat) : Option (Thing D) := Bool.rec (W.rec (fun f => f h) (Tr.get none some (path 5 k))) none (Nat.ble 32768 k)
def Heap.lay {D : Type} (h : Heap D) (k : Nat) (t : Option (Thing D)) : Heap D := W.rec (fun f => f t h) (Tr.put (path 5 k))
/-- What a step comes to: bad, or a value, the memory, the next name, the names that were read and those that were written (as bits). -/
inductive Out (D α : Type) where
  | bad (n : Nat)
  | ok (a : α) (h : Heap D) (nx rd wr : Nat)
def M (D α : Type) := Heap D → Nat → Nat → Nat → Out D α
def force {β : Type} (n : Nat) (k : Nat → β) : β := Nat.rec (k 0) (fun m _ => k (Nat.succ m)) n
theorem force_eq {β : Type} (n : Nat) (k : Nat → β) : force n k = k n := by cases n <;> rfl

/-- Words for bytes (and for what is made of them). atom: 0 the text, 1 the bytes beside, 2 the seed's first hundred, 3 the master key, 4 a seed that is not empty, 5 a text that is too long, 6 bytes beside that are too many, 7 an entry's data, 9 the seed. disk: some bytes, so many at most. junk: some bytes, a thousand at most. num and txt: a number, or bytes with their length ahead, ahead of the rest. byte: one of a key's bytes. still: what was there. op: sixteen bytes that are made of others. -/
inductive Word where
  | none
  | atom (n : Nat)
  | plain (l : List Nat)
  | num (n : Nat) (rest : Word)
  | txt (t rest : Word)
  | cat (a b : Word)
  | sealed (key : Word) (nonce : List Nat) (beside text : Word)
  | blob (i v : Nat) (nonce : List Nat) (s : Word)
  | vkey (key : Word) (d : Nat)
  | mac (key msg : Word)
  | dkey (seed : Word)
  | dval (seed : Word)
  | byte (key : Word) (j : Nat)
  | length (b : Word)
  | str (b : Word)
  | junk
  | still
  | disk (n : Nat)
  | op (n : Nat) (a b : Word)
def eqN (l k : List Nat) : Bool := match l, k with
  | [], [] => true
  | a :: l, b :: k => Nat.beq a b && eqN l k
  | _, _ => false
def eqW (a b : Word) : Bool := match a, b with
  | .none, .none => true
  | .atom m, .atom n => Nat.beq m n
  | .plain l, .plain k => eqN l k
  | .num n r, .num n' r' => Nat.beq n n' && eqW r r'
  | .txt t r, .txt t' r' => eqW t t' && eqW r r'
  | .cat t r, .cat t' r' => eqW t t' && eqW r r'
  | .sealed k n b t, .sealed k' n' b' t' => eqW k k' && eqN n n' && eqW b b' && eqW t t'
  | .blob i v n s, .blob i' v' n' s' => Nat.beq i i' && Nat.beq v v' && eqN n n' && eqW s s'
  | .vkey k d, .vkey k' d' => Nat.beq d d' && eqW k k'
  | .mac k m, .mac k' m' => eqW k k' && eqW m m'
  | .dkey s, .dkey s' => eqW s s'
  | .dval s, .dval s' => eqW s s'
  | .byte k j, .byte k' j' => Nat.beq j j' && eqW k k'
  | .length a, .length b => eqW a b
  | .str a, .str b => eqW a b
  | .op n a b, .op n' a' b' => Nat.beq n n' && eqW a a' && eqW b b'
  | _, _ => false
/-- How many bytes there are at most. -/
def most : Word → Option Nat
  | .none => some 0
  | .atom 0 => some 64
  | .atom 1 => some 32
  | .atom 2 => some 100
  | .plain l => some l.length
  | .num _ r => match most r with | some m => some (m + 2) | none => none
  | .txt t r => match most t, most r with | some m, some n => some (m + n + 2) | _, _ => none
  | .cat a b => match most a, most b with | some m, some n => some (m + n) | _, _ => none
  | .sealed _ _ _ t => match most t with | some m => some (m + 16) | none => none
  | .blob _ _ _ s => match most s with | some m => some (m + 30) | none => none
  | .mac _ _ => some 32
  | .vkey _ _ => some 32
  | .dkey _ => some 32
  | .dval _ => some 32
  | .atom 3 => some 32
  | .atom 4 => some 100
  | .atom 5 => some 9223372036854775807
  | .atom 6 => some 9223372036854775807
  | .atom 7 => some 240
  | .op .. => some 16
  | _ => none
/-- What is reckoned of words: a row's length; a number held against one; bytes as a string; two strings held against one another. -/
def hLen (d : Word) : Option Word := match most d with | some _ => some (.length d) | none => none
def hCmp (op : BinOp) (d : Word) (n : Nat) : Option Bool := match d with
  | .length d => match most d, op with
    | some m, .gtr => match Nat.ble m n with
      | true => some false
      | false => match d with
        | .atom 4 => match Nat.beq n 0 with | true => some true | false => none
        | .atom 5 => match Nat.ble n 64 with | true => some true | false => none
        | .atom 6 => match Nat.ble n 32 with | true => some true | false => none
        | _ => none
    | some m, .leq => match Nat.ble m n with | true => some true | false => none
    | some _, .geq => match Nat.beq n 0 with | true => some true | false => none
    | _, _ => none
  | _ => none
def hConv (d : Word) : Option Word := match most d with | some _ => some (.str d) | none => none
def hEq (d e : Word) : Option Bool := match d, e with
  | .str d, .str e => match eqW d e with | true => some true | false => none
  | _, _ => none
/-- What is known of a thing of which only a word is known. -/
abbrev D := Word
section
def M.ret {α : Type} (a : α) : M D α := fun h nx r w => .ok a h nx r w
def M.bind {α β : Type} (m : M D α) (f : α → M D β) : M D β := fun h nx r w => Out.rec (fun n => .bad n) f (m h nx r w)
def bad {α : Type} (n : Nat) : M D α := fun _ _ _ _ => .bad n
def opt {α : Type} (n : Nat) (o : Option α) : M D α := Option.rec (bad n) M.ret o
def chk {α : Type} (n : Nat) (b : Bool) (m : M D α) : M D α := Bool.rec (bad n) m b
def bit (k : Nat) : Nat := Nat.pow 2 k
def rd (k : Nat) : M D (Thing D) := fun h nx r w => Option.rec (.bad 1) (fun t => force (Nat.lor r (bit k)) fun r => .ok t h nx r w) (h.at k)
def wr (k : Nat) (t : Option (Thing D)) : M D Unit := fun h nx r w => Option.rec (.bad 2) (fun _ => force (Nat.lor w (bit k)) fun w => .ok () (h.lay k t) nx r w) (h.at k)
def new (t : Thing D) : M D Nat := fun h nx r w => Bool.rec (force (Nat.succ nx) fun nx' => force (Nat.lor w (bit nx)) fun w => .ok nx (h.lay nx (some t)) nx' r w) (.bad 3) (Nat.ble 32768 nx)
/-- The cells of a block. -/
def cellsOf {α : Type} (f : Nat → List Cell → TypeId → M D α) (t : Thing D) : M D α := Thing.rec f (fun _ _ => bad 4) (fun _ _ _ => bad 4) (fun _ => bad 4) t
def rdC {α : Type} (k : Nat) (f : Nat → List Cell → TypeId → M D α) : M D α := M.bind (rd k) (cellsOf f)
def mapOf {α : Type} (f : List (Nat × Slot × Nat) → Nat → M D α) (t : Thing D) : M D α := Thing.rec (fun _ _ _ => bad 5) f (fun _ _ _ => bad 5) (fun _ => bad 5) t
def rdM {α : Type} (k : Nat) (f : List (Nat × Slot × Nat) → Nat → M D α) : M D α := M.bind (rd k) (mapOf f)
def fnOf {α : Type} (f : FuncId → List Slot → List Slot → M D α) (t : Thing D) : M D α := Thing.rec (fun _ _ _ => bad 6) (fun _ _ => bad 6) f (fun _ => bad 6) t
def dataOf {α : Type} (f : D → M D α) (t : Thing D) : M D α := Thing.rec (fun _ _ _ => bad 230) (fun _ _ => bad 230) (fun _ _ _ => bad 230) f t
def rdD {α : Type} (k : Nat) (f : D → M D α) : M D α := M.bind (rd k) (dataOf f)
def rdF {α : Type} (k : Nat) (f : FuncId → List Slot → List Slot → M D α) : M D α := M.bind (rd k) (fnOf f)

/-- A value that names no block, as a cell. -/
def cellOf : Value → Option Cell
  | .bool b => some (.bool b)
  | .int k n => some (match k, n with
    | .i64, .ofNat m => Bool.rec (.flat (.int .i64 (.ofNat m))) (.nat m) (Nat.blt m 9223372036854775808)
    | k, n => .flat (.int k n))
  | .string s => some (.flat (.string s))
  | .pointer none => some (.flat (.pointer none))
  | .slice none 0 0 => some (.flat (.slice none 0 0))
  | .map none => some (.flat (.map none))
  | .nilFunc => some (.flat .nilFunc)
  | .nilIface => some (.flat .nilIface)
  | .func (.func f) ⟨[]⟩ ⟨[]⟩ => some (.flat (.func (.func f) #[] #[]))
  | _ => none
def cellsOfV : List Value → Option (List Cell)
  | [] => some []
  | v :: vs => match cellOf v with
    | none => none
    | some c => match cellsOfV vs with
      | none => none
      | some cs => some (c :: cs)
def len {α : Type} (l : List α) : Nat := List.rec 0 (fun _ _ ih => Nat.succ ih) l
def slotOf : Value → Option Slot
  | .agg cs => match cellsOfV cs.toList with
    | some l => some (.agg cs.size l)
    | none => none
  | .tuple ⟨[]⟩ => some (.tup [])
  | v => match cellOf v with
    | some c => some (.one c)
    | none => none
/-- A cell that names no block, as a value. -/
def valOf (c : Cell) : Option Value := Cell.rec (fun n => some (.int .i64 (.ofNat n))) (fun b => some (.bool b)) (fun v => some v) (fun _ _ => none) (fun _ _ _ _ => none) (fun _ => none) (fun _ => none) c
def valsOf (l : List Cell) : Option (List Value) := List.rec (some []) (fun c _ ih => Option.rec none (fun v => Option.rec none (fun vs => some (v :: vs)) ih) (valOf c)) l
def slotV (s : Slot) : Option Value := Slot.rec valOf (fun _ cs => Option.rec none (fun vs => some (.agg ⟨vs⟩)) (valsOf cs)) (fun _ => none) s
def undefS : Slot := .tup []

abbrev Env := Tr Slot
def slotAt (t : Nat) : W (Env → Slot) := Tr.get undefS (fun v => v) (path 3 t)
def slotPut (t : Nat) : W (Option Slot → Env → Env) := Tr.put (path 3 t)
/-- What an operand is, of the slots; none: it is not reckoned. -/
def evC : Operand → Option (Env → Slot)
  | .tmp t => W.rec (fun f => some f) (slotAt t)
  | .const v => match slotOf v with
    | some s => some fun _ => s
    | none => none
  | .global g => Bool.rec none (some fun _ => .one (.ptr 0 0)) (Nat.beq g 0)
  | .func f => some fun _ => .one (.flat (.func (.func f) #[] #[]))
def evsC (l : List Operand) : Option (List (Env → Slot)) := List.rec (some []) (fun x _ ih => Option.rec none (fun f => Option.rec none (fun fs => some (f :: fs)) ih) (evC x)) l
def all (fs : List (Env → Slot)) (env : Env) : List Slot := List.rec [] (fun f _ ih => f env :: ih) fs
/-- Where an operation's value goes. -/
def noPut (_ : Slot) (env : Env) : Env := env
def thePut (f : Option Slot → Env → Env) (v : Slot) (env : Env) : Env := f (some v) env
def dstD (o : Oper) : W (Slot → Env → Env) := match o.dst with | some d => W.rec (fun f => .mk (thePut f)) (slotPut d) | none => .mk noPut

inductive Nx where
  | val (v : Slot)
  | enter (f : FuncId) (args : List Slot)
def ret1 (c : Cell) : M D Nx := M.ret (.val (.one c))

def pureRun {α : Type} (P : Program) : Sem α → Option α
  | .pure a => some a
  | .program k => pureRun P (k P)
  | .mark _ k => pureRun P k
  | _ => none

section
variable (P : Program)
def szOf (t : TypeId) : Option Nat := match P.info? t with | some i => some i.size | none => none
def aggB (t : TypeId) : Option Bool := match P.underlying t with
  | some (.struct _) | some (.array _ _) => some true
  | some _ => some false
  | none => none
def zeroOf (t : TypeId) : Option (List Cell) := match P.info? t with
  | some i => match i.zero with
    | some z => cellsOfV z.cells.toList
    | none => none
  | none => none
/-- The size of what is taken whole; or what is one cell. -/
inductive Kind where
  | one
  | many (n : Nat)
def kindOf (t : TypeId) : Option Kind := match aggB P t with
  | some true => match szOf P t with | some n => some (.many n) | none => none
  | some false => some .one
  | none => none
end
section
variable {α : Type}
def dropN (n : Nat) (l : List α) : List α := Nat.rec (motive := fun _ => List α → List α) (fun l => l) (fun _ ih l => List.rec [] (fun _ t _ => ih t) l) n l
def takeN (n : Nat) (l : List α) : List α := Nat.rec (motive := fun _ => List α → List α) (fun _ => []) (fun _ ih l => List.rec [] (fun a t _ => a :: ih t) l) n l
def app (l k : List α) : List α := List.rec k (fun a _ ih => a :: ih) l
/-- What stands at a place, of a list that is long enough. -/
def item (z : α) (n : Nat) (l : List α) : α := List.rec z (fun a _ _ => a) (dropN n l)
def over (vs : List α) (cs : List α) : List α := List.rec (motive := fun _ => List α → List α) (fun cs => cs) (fun v _ ih cs => List.rec [] (fun _ t _ => v :: ih t) cs) vs cs
/-- Things laid over others, from a place on. -/
def lay (off : Nat) (vs : List α) (cs : List α) : List α := Nat.rec (motive := fun _ => List α → List α) (fun cs => over vs cs) (fun _ ih cs => List.rec [] (fun a t _ => a :: ih t) cs) off cs
end
def zeroC : Cell := .nat 0
/-- n cells of those of a block of m cells. -/
def cut (off n m : Nat) (cs : List Cell) : List Cell := Bool.rec (takeN n (dropN off cs)) cs (Nat.beq n m)
def layIn (off n m : Nat) (vs cs : List Cell) : List Cell := Bool.rec (lay off vs cs) vs (Nat.beq n m)
def loadK (k : Kind) (b off : Nat) : M D Nx := rdC b fun m cs _ => Kind.rec (chk 7 (Nat.blt off m) (ret1 (item zeroC off cs))) (fun n => chk 8 (Nat.ble (Nat.add off n) m) (M.ret (.val (.agg n (cut off n m cs))))) k
def putV (x : Nx) (b off n : Nat) (vs : List Cell) : M D Nx := rdC b fun m cs e => chk 9 (Nat.ble (Nat.add off n) m) (M.bind (wr b (some (.cells m (layIn off n m vs cs) e))) fun _ => M.ret x)
def putK (b off n : Nat) (vs : List Cell) : M D Nx := putV (.val undefS) b off n vs
/-- What a slot holds, taken apart. -/
def asPtr {α : Type} (n : Nat) (s : Slot) (f : Nat → Nat → M D α) : M D α := Slot.rec (fun c => Cell.rec (fun _ => bad n) (fun _ => bad n) (fun _ => bad n) f (fun _ _ _ _ => bad n) (fun _ => bad n) (fun _ => bad n) c) (fun _ _ => bad n) (fun _ => bad n) s
def asNat {α : Type} (n : Nat) (s : Slot) (f : Nat → M D α) : M D α := Slot.rec (fun c => Cell.rec f (fun _ => bad n) (fun _ => bad n) (fun _ _ => bad n) (fun _ _ _ _ => bad n) (fun _ => bad n) (fun _ => bad n) c) (fun _ _ => bad n) (fun _ => bad n) s
def natV (v : Value) : Option Nat := match v with | .int _ (.ofNat n) => some n | _ => none
/-- An index, of whatever kind. -/
def asIx {α : Type} (n : Nat) (s : Slot) (f : Nat → M D α) : M D α := Slot.rec (fun c => Cell.rec f (fun _ => bad n) (fun v => Option.rec (bad n) f (natV v)) (fun _ _ => bad n) (fun _ _ _ _ => bad n) (fun _ => bad n) (fun _ => bad n) c) (fun _ _ => bad n) (fun _ => bad n) s
def asBool {α : Type} (n : Nat) (s : Slot) (f : Bool → M D α) : M D α := Slot.rec (fun c => Cell.rec (fun _ => bad n) f (fun _ => bad n) (fun _ _ => bad n) (fun _ _ _ _ => bad n) (fun _ => bad n) (fun _ => bad n) c) (fun _ _ => bad n) (fun _ => bad n) s
def asAgg {α : Type} (n : Nat) (s : Slot) (f : Nat → List Cell → M D α) : M D α := Slot.rec (fun _ => bad n) f (fun _ => bad n) s
/-- A slot's cells: how many, and which. -/
def asCells {α : Type} (n : Nat) (s : Slot) (f : Nat → List Cell → M D α) : M D α := Slot.rec (fun c => f 1 [c]) f (fun _ => bad n) s
def isNilRow (v : Value) : Bool := match v with | .slice none 0 0 => true | _ => false
/-- A row, or none. -/
def asRow {α : Type} (n : Nat) (s : Slot) (nil : M D α) (f : Nat → Nat → Nat → Cap → M D α) : M D α := Slot.rec (fun c => Cell.rec (fun _ => bad n) (fun _ => bad n) (fun v => chk n (isNilRow v) nil) (fun _ _ => bad n) f (fun _ => bad n) (fun _ => bad n) c) (fun _ _ => bad n) (fun _ => bad n) s
def asMap {α : Type} (n : Nat) (s : Slot) (f : Nat → M D α) : M D α := Slot.rec (fun c => Cell.rec (fun _ => bad n) (fun _ => bad n) (fun _ => bad n) (fun _ _ => bad n) (fun _ _ _ _ => bad n) f (fun _ => bad n) c) (fun _ _ => bad n) (fun _ => bad n) s
def newVar (t : TypeId) (n : Nat) (cs : List Cell) : M D Nx := M.bind (new (.cells n cs t)) fun k => ret1 (.ptr k 0)
/-- A slot that holds a token. -/
def asTok {α : Type} (n : Nat) (s : Slot) (f : Nat → M D α) : M D α := Slot.rec (fun c => Cell.rec (fun _ => bad n) (fun _ => bad n) (fun _ => bad n) (fun _ _ => bad n) (fun _ _ _ _ => bad n) (fun _ => bad n) f c) (fun _ _ => bad n) (fun _ => bad n) s
def isTok (s : Slot) : Bool := Slot.rec (fun c => Cell.rec (fun _ => false) (fun _ => false) (fun _ => false) (fun _ _ => false) (fun _ _ _ _ => false) (fun _ => false) (fun _ => true) c) (fun _ _ => false) (fun _ => false) s
/-- A new word for what another one is of. -/
def newTok (d : D) : M D Nx := M.bind (new (.data d)) fun k => ret1 (.tok k)
def tokTo (n : Nat) (g : D → Option D) (s : Slot) : M D Nx := asTok n s fun k => rdD k fun d => Option.rec (bad n) newTok (g d)
/-- Parts laid over noughts. -/
def fill {α : Type} (ps : List (Nat × Nat)) (vs : List Slot) (cs : List Cell) (f : List Cell → M D α) : M D α := List.rec (motive := fun _ => List Slot → List Cell → M D α) (fun _ cs => f cs)
  (fun p _ ih vs cs => List.rec (bad 10) (fun v vt _ => asCells 11 v fun n l => chk 12 (Nat.beq n p.2) (ih vt (lay p.1 l cs))) vs) ps vs cs
def noughts (z : List Cell) (n : Nat) : List Cell := Nat.rec [] (fun _ ih => app z ih) n

/-- A word of the code: what it does to the slots. -/
abbrev Do := Env → M D Nx
def badC (n : Nat) : Do := fun _ => bad n
/-- A word, wrapped. -/
abbrev WD := W Do
def badW (n : Nat) : WD := .mk (badC n)
def with1 (n : Nat) (x : Operand) (f : (Env → Slot) → WD) : WD := Option.rec (badW n) f (evC x)
def withO {α : Type} (n : Nat) (o : Option α) (f : α → WD) : WD := Option.rec (badW n) f o
def moveC (x : Env → Slot) : Do := fun env => M.ret (.val (x env))
def pickC (c a b : Env → Slot) : Do := fun env => asBool 20 (c env) fun t => Bool.rec (M.ret (.val (b env))) (M.ret (.val (a env))) t
def allocC (t : TypeId) (n : Nat) (z : List Cell) : Do := fun _ => newVar t n z
def boxC (t : TypeId) (x : Env → Slot) : Do := fun env => asCells 21 (x env) (newVar t)
def buildC (n : Nat) (z : List Cell) (ps : List (Nat × Nat)) (xs : List (Env → Slot)) : Do := fun env => fill ps (all xs env) z fun cs => M.ret (.val (.agg n cs))
def rowC (e : TypeId) (n m : Nat) (z : List Cell) (ps : List (Nat × Nat)) (xs : List (Env → Slot)) : Do := fun env => fill ps (all xs env) z fun cs => M.bind (new (.cells m cs e)) fun k => ret1 (.row k 0 n (.exact n))
def loadC (k : Kind) (x : Env → Slot) : Do := fun env => asPtr 22 (x env) (loadK k)
def storeC (n : Nat) (x v : Env → Slot) : Do := fun env => asPtr 23 (x env) fun b off => asCells 24 (v env) fun m vs => chk 25 (Nat.beq m n) (putK b off n vs)
def nilCheckC (x : Env → Slot) : Do := fun env => asPtr 26 (x env) fun k off => ret1 (.ptr k off)
/-- Two numbers: reckoned fast. -/
def ints (f : Nat → Nat → M D Nx → M D Nx) (slow : Do) (x y : Env → Slot) : Do := fun env => Slot.rec
  (fun c => Cell.rec
    (fun m => Slot.rec (fun d => Cell.rec (fun n => f m n (slow env)) (fun _ => slow env) (fun _ => slow env) (fun _ _ => slow env) (fun _ _ _ _ => slow env) (fun _ => slow env) (fun _ => slow env) d) (fun _ _ => slow env) (fun _ => slow env) (y env))
    (fun _ => slow env) (fun _ => slow env) (fun _ _ => slow env) (fun _ _ _ _ => slow env) (fun _ => slow env) (fun _ => slow env) c)
  (fun _ _ => slow env) (fun _ => slow env) (x env)
def small (n : Nat) (slow : M D Nx) : M D Nx := force n fun n => Bool.rec slow (ret1 (.nat n)) (Nat.blt n 9223372036854775808)
def addF (m n : Nat) (slow : M D Nx) : M D Nx := small (Nat.add m n) slow
def subF (m n : Nat) (slow : M D Nx) : M D Nx := Bool.rec slow (small (Nat.sub m n) slow) (Nat.ble n m)
def mulF (m n : Nat) (slow : M D Nx) : M D Nx := small (Nat.mul m n) slow
def eqlF (m n : Nat) (_ : M D Nx) : M D Nx := ret1 (.bool (Nat.beq m n))
def neqF (m n : Nat) (_ : M D Nx) : M D Nx := ret1 (.bool (Bool.rec true false (Nat.beq m n)))
def lssF (m n : Nat) (_ : M D Nx) : M D Nx := ret1 (.bool (Nat.blt m n))
def leqF (m n : Nat) (_ : M D Nx) : M D Nx := ret1 (.bool (Nat.ble m n))
def gtrF (m n : Nat) (_ : M D Nx) : M D Nx := ret1 (.bool (Nat.blt n m))
def geqF (m n : Nat) (_ : M D Nx) : M D Nx := ret1 (.bool (Nat.ble n m))
/-- What comes of a thing held against none. -/
def nilEq (d : TypeDesc) : Slot → Slot → Bool
  | .one (.ptr _ _), .one (.flat (.pointer none)) | .one (.flat (.pointer none)), .one (.ptr _ _) => (match d with | .pointer _ => true | _ => false)
  | .one (.row _ _ _ _), .one (.flat (.slice none _ _)) | .one (.flat (.slice none _ _)), .one (.row _ _ _ _) => (match d with | .slice _ => true | _ => false)
  | .one (.map _), .one (.flat (.map none)) | .one (.flat (.map none)), .one (.map _) => (match d with | .map .. => true | _ => false)
  | _, _ => false
def flatOf (o : Option Value) : M D Nx := match o with
  | some r => match cellOf r with
    | some c => ret1 c
    | none => bad 27
  | none => bad 28
def eqNil (P : Program) (t : TypeId) (x y : Slot) (b : Bool) : M D Nx := match P.underlying t with
  | none => bad 29
  | some d => chk 30 (nilEq d x y) (ret1 (.bool b))
/-- A token held against a number, or another token. -/
def tokCmp (op : BinOp) (x y : Slot) : M D Nx := asTok 231 x fun k => rdD k fun d => Bool.rec
  (asNat 232 y fun n => Option.rec (bad 233) (fun b => ret1 (.bool b)) (hCmp op d n))
  (asTok 234 y fun k' => rdD k' fun d' => match op, hEq d d' with
    | .eql, some b => ret1 (.bool b)
    | .neq, some b => ret1 (.bool (!b))
    | _, _ => bad 235) (isTok y)
def slowK (P : Program) (op : BinOp) (t : TypeId) (x y : Operand) (f g : Env → Slot) : Do := fun env => match slotV (f env), slotV (g env) with
  | some a, some b => flatOf (pureRun P (do eqGuard op t x y a b; binOp op t a b))
  | _, _ => match op with
    | .eql => eqNil P t (f env) (g env) false
    | .neq => eqNil P t (f env) (g env) true
    | _ => bad 31
def slowC (P : Program) (op : BinOp) (t : TypeId) (x y : Operand) (f g : Env → Slot) : Do := fun env => Bool.rec (slowK P op t x y f g env) (tokCmp op (f env) (g env)) (isTok (f env))
def binW (P : Program) (op : BinOp) (t : TypeId) (x y : Operand) (f g : Env → Slot) : WD := match op with
  | .add => .mk (ints addF (slowC P .add t x y f g) f g)
  | .sub => .mk (ints subF (slowC P .sub t x y f g) f g)
  | .mul => .mk (ints mulF (slowC P .mul t x y f g) f g)
  | .eql => .mk (ints eqlF (slowC P .eql t x y f g) f g)
  | .neq => .mk (ints neqF (slowC P .neq t x y f g) f g)
  | .lss => .mk (ints lssF (slowC P .lss t x y f g) f g)
  | .leq => .mk (ints leqF (slowC P .leq t x y f g) f g)
  | .gtr => .mk (ints gtrF (slowC P .gtr t x y f g) f g)
  | .geq => .mk (ints geqF (slowC P .geq t x y f g) f g)
  | op => .mk (slowC P op t x y f g)
def flatRun (P : Program) (x : Env → Slot) (m : Value → Sem Value) : Do := fun env => match slotV (x env) with
  | some v => flatOf (pureRun P (m v))
  | none => bad 32
def funcC (f : FuncId) (fs cs : List (Env → Slot)) : Do := fun env => M.bind (new (.fn f (all fs env) (all cs env))) fun k => ret1 (.tok k)
def makeMapC : Do := fun _ => M.bind (new (.map [] 0)) fun k => ret1 (.map k)
def makeSliceC (e : TypeId) (size : Nat) (z : List Cell) (l c : Env → Slot) : Do := fun env => asNat 33 (l env) fun l => asNat 34 (c env) fun c => chk 35 (Nat.ble l c && Nat.ble c 4096) (M.bind (new (.cells (Nat.mul c size) (noughts z c) e)) fun k => ret1 (.row k 0 l (.exact c)))
def fieldAtC (off : Nat) (x : Env → Slot) : Do := fun env => asPtr 36 (x env) fun k o => ret1 (.ptr k (Nat.add o off))
def fieldC (k : Kind) (off : Nat) (x : Env → Slot) : Do := fun env => asAgg 37 (x env) fun m cs => Kind.rec (chk 38 (Nat.blt off m) (ret1 (item zeroC off cs))) (fun n => chk 39 (Nat.ble (Nat.add off n) m) (M.ret (.val (.agg n (cut off n m cs))))) k
def indexArrC (n size : Nat) (x i : Env → Slot) : Do := fun env => asPtr 40 (x env) fun k o => asIx 41 (i env) fun i => chk 42 (Nat.blt i n) (ret1 (.ptr k (Nat.add o (Nat.mul i size))))
def indexRowC (size : Nat) (x i : Env → Slot) : Do := fun env => asRow 43 (x env) (bad 44) fun k o n _ => asIx 45 (i env) fun i => chk 46 (Nat.blt i n) (ret1 (.ptr k (Nat.add o (Nat.mul i size))))
def indexC (n size : Nat) (kd : Kind) (x i : Env → Slot) : Do := fun env => asAgg 47 (x env) fun m cs => asIx 48 (i env) fun i => chk 49 (Nat.blt i n) (Kind.rec (chk 50 (Nat.blt (Nat.mul i size) m) (ret1 (item zeroC (Nat.mul i size) cs))) (fun n => chk 51 (Nat.ble (Nat.add (Nat.mul i size) n) m) (M.ret (.val (.agg n (cut (Nat.mul i size) n m cs))))) kd)
def indexS (x i : Env → Slot) : Do := fun env => match x env with
  | .one (.flat (.string s)) => asIx 215 (i env) fun i => match s[i]? with
    | some b => ret1 (.flat (.int .u8 b.toNat))
    | none => bad 216
  | _ => bad 217
/-- A bound that may be missing. -/
def bound {α : Type} (d : Nat) (env : Env) (x : Option (Env → Slot)) (f : Nat → M D α) : M D α := Option.rec (f d) (fun x => asNat 52 (x env) f) x
def cutU (k off n : Nat) (c : Cap) (l h size : Nat) : M D Nx := chk 53 (Nat.ble l h && Nat.ble h n) (Nat.rec (ret1 (.row k off h c))
  (fun _ _ => Bool.rec (ret1 (.row k off 0 .lost)) (ret1 (.row k (Nat.add off (Nat.mul l size)) (Nat.sub h l) .some)) (Nat.blt l n)) l)
def cutX (k off m l h size : Nat) : M D Nx := chk 54 (Nat.ble l h && Nat.ble h m) (Bool.rec (ret1 (.row k (Nat.add off (Nat.mul l size)) (Nat.sub h l) (.exact (Nat.sub m l)))) (ret1 (.row k off (Nat.sub h l) (.exact (Nat.sub m l)))) (Nat.beq m l))
def cutArrC (n size : Nat) (x : Env → Slot) (lo hi : Option (Env → Slot)) : Do := fun env => asPtr 55 (x env) fun k o => bound 0 env lo fun l => bound n env hi fun h => cutX k o n l h size
def cutMax (k o n l h size : Nat) (c : Cap) (m : Nat) : M D Nx := Cap.rec (fun _ => chk 56 (Nat.ble m n) (cutX k o m l h size)) (chk 57 (Nat.ble m n) (cutX k o m l h size)) (chk 58 (Nat.ble m n) (cutX k o m l h size)) (bad 59) c
def cutCap (k o n l h size : Nat) (c : Cap) : M D Nx := Cap.rec (fun c => cutX k o c l h size) (cutU k o n .some l h size) (cutU k o n .whole l h size) (cutU k o n .lost l h size) c
def cutRowC (size : Nat) (x : Env → Slot) (lo hi mx : Option (Env → Slot)) : Do := fun env => asRow 60 (x env)
  (bound 0 env lo fun l => bound 0 env hi fun h => bound 0 env mx fun m => chk 61 (Nat.beq (Nat.add l (Nat.add h m)) 0) (ret1 (.flat (.slice none 0 0))))
  (fun k o n c => bound 0 env lo fun l => bound n env hi fun h => Option.rec (cutCap k o n l h size c) (fun m => asNat 62 (m env) (cutMax k o n l h size c)) mx)
/-- The cells that an append lays behind: from a row, or noughts. -/
def newsRow (size : Nat) (x : Slot) (f : List Cell → Nat → M D Nx) : M D Nx := asRow 63 x (f [] 0) fun k o m _ => Nat.rec (f [] 0) (fun _ _ => rdC k fun n cs _ => chk 64 (Nat.ble (Nat.add o (Nat.mul m size)) n) (f (cut o (Nat.mul m size) n cs) m)) m
def grow (e : TypeId) (size : Nat) (cs : List Cell) (n : Nat) : M D Nx := chk 67 (Nat.ble n 4096) (M.bind (new (.cells (Nat.mul n size) cs e)) fun k => ret1 (.row k 0 n .whole))
def growIn (e : TypeId) (size : Nat) (news : List Cell) (m k n : Nat) : M D Nx := rdC k fun q cs e' => chk 68 (Nat.beq e' e && Nat.ble (Nat.mul n size) q) (M.bind (wr k none) fun _ => grow e size (app (cut 0 (Nat.mul n size) q cs) news) (Nat.add n m))
def growOut (e : TypeId) (size : Nat) (news : List Cell) (m k off n c : Nat) : M D Nx := rdC k fun q cs e' => Bool.rec
  (chk 69 (Nat.ble (Nat.add off (Nat.mul n size)) q) (grow e size (app (cut off (Nat.mul n size) q cs) news) (Nat.add n m)))
  (chk 70 (Nat.ble (Nat.add (Nat.add off (Nat.mul n size)) (Nat.mul m size)) q) (M.bind (wr k (some (.cells q (lay (Nat.add off (Nat.mul n size)) news cs) e'))) fun _ => ret1 (.row k off (Nat.add n m) (.exact c)))) (Nat.ble (Nat.add n m) c)
def appendRow (e : TypeId) (size : Nat) (news : List Cell) (m k off n : Nat) (c : Cap) : M D Nx := Cap.rec (growOut e size news m k off n) (bad 71) (chk 72 (Nat.beq off 0) (growIn e size news m k n)) (bad 73) c
def sameRow (s : Slot) : M D Nx := asRow 74 s (M.ret (.val s)) fun _ _ _ _ => M.ret (.val s)
def appendK (e : TypeId) (size : Nat) (s : Slot) (news : List Cell) (m : Nat) : M D Nx := Nat.rec (sameRow s) (fun _ _ => asRow 75 s (grow e size news m) (appendRow e size news m)) m
def appendC (e : TypeId) (size : Nat) (s x : Env → Slot) : Do := fun env => newsRow size (x env) (appendK e size (s env))
def appendZ (e : TypeId) (size : Nat) (z : List Cell) (s x : Env → Slot) : Do := fun env => asNat 65 (x env) fun n => chk 66 (Nat.ble 1 n && Nat.ble n 4096) (asRow 75 (s env) (grow e size (noughts z n) n) fun _ _ _ _ => bad 75)
/-- A number that a builtin tells. -/
def tell (n : Nat) : M D Nx := chk 219 (Nat.blt n 9223372036854775808) (ret1 (.nat n))
def copyRow (size j k off k' off' : Nat) : M D Nx := rdC k' fun n cs _ => chk 76 (Nat.ble (Nat.add off' (Nat.mul j size)) n && Nat.blt j 9223372036854775808) (putV (.val (.one (.nat j))) k off (Nat.mul j size) (cut off' (Nat.mul j size) n cs))
def copyC (size : Nat) (d s : Env → Slot) : Do := fun env => asRow 77 (d env) (asRow 78 (s env) (ret1 (.nat 0)) fun _ _ _ _ => ret1 (.nat 0)) fun k off n _ => asRow 79 (s env) (ret1 (.nat 0)) fun k' off' m _ => Nat.rec (ret1 (.nat 0)) (fun _ _ => copyRow size (Nat.min m n) k off k' off') (Nat.min m n)
def lenK (x : Slot) : M D Nx := asRow 80 x (ret1 (.nat 0)) fun _ _ n _ => tell n
def lenC (x : Env → Slot) : Do := fun env => Bool.rec (lenK (x env)) (tokTo 236 hLen (x env)) (isTok (x env))
def clearC (size : Nat) (z : List Cell) (x : Env → Slot) : Do := fun env => asRow 87 (x env) (M.ret (.val undefS)) fun k off n _ => Nat.rec (M.ret (.val undefS)) (fun _ _ => putK k off (Nat.mul n size) (noughts z n)) n
def arrC (n : Nat) (x : Env → Slot) : Do := fun env => asRow 88 (x env) (bad 89) fun k off m _ => chk 90 (Nat.ble n m) (ret1 (.ptr k off))
def lenM (x : Env → Slot) : Do := fun env => asMap 91 (x env) fun k => rdM k fun es _ => tell (len es)
def lenS (x : Env → Slot) : Do := fun env => match x env with
  | .one (.flat (.string s)) => tell s.size
  | _ => bad 81
def capC (x : Env → Slot) : Do := fun env => asRow 82 (x env) (ret1 (.nat 0)) fun _ _ _ c => Cap.rec (fun c => tell c) (bad 83) (bad 83) (bad 83) c
def numC (n : Nat) : Do := fun _ => tell n
def min2F (m n : Nat) : Nat := Bool.rec m n (Nat.blt n m)
def max2F (m n : Nat) : Nat := Bool.rec m n (Nat.blt m n)
def extremeC (f : Nat → Nat → Nat) (x : Env → Slot) (xs : List (Env → Slot)) : Do := fun env => asNat 84 (x env) fun n => List.rec (motive := fun _ => Nat → M D Nx) (fun n => ret1 (.nat n)) (fun x _ ih n => asNat 85 (x env) fun m => force (f n m) ih) xs n
def findA (n : Nat) : List (Nat × Slot × Nat) → Nat → Option (Nat × Slot)
  | [], _ => none
  | (m, v, _) :: es, i => match Nat.beq n m with
    | true => some (i, v)
    | false => findA n es (i + 1)
def partOf (s : Slot) (f : Part → M D Nx) : M D Nx := Slot.rec (fun c => f (.one c)) (fun n cs => f (.agg n cs)) (fun _ => bad 86) s
def found (ok : Bool) (v : Slot) (b : Bool) : M D Nx := Bool.rec (M.ret (.val v)) (partOf v fun p => M.ret (.val (.tup [p, .one (.bool b)]))) ok
def lookupC (ok : Bool) (z : Slot) (x i : Env → Slot) : Do := fun env => asMap 87 (x env) fun r => asNat 88 (i env) fun n => rdM r fun es _ => match findA n es 0 with
  | some (_, v) => found ok v true
  | none => found ok z false
def updateC (x i v : Env → Slot) : Do := fun env => asMap 89 (x env) fun r => asNat 90 (i env) fun n => rdM r fun es c => match findA n es 0 with
  | some (j, _) => match es[j]? with
    | some (m, _, b) => M.bind (wr r (some (.map (es.set j (m, v env, b)) c))) fun _ => M.ret (.val undefS)
    | none => bad 91
  | none => M.bind (wr r (some (.map (es ++ [(n, v env, c)]) (c + 1)))) fun _ => M.ret (.val undefS)
def slotP (p : Part) : Slot := Part.rec (fun c => .one c) (fun n cs => .agg n cs) p
def extractC (j : Nat) (x : Env → Slot) : Do := fun env => Slot.rec (fun _ => bad 92) (fun _ _ => bad 92) (fun l => List.rec (bad 93) (fun p _ _ => M.ret (.val (slotP p))) (dropN j l)) (x env)
/-- The function has a body. -/
def bodied (P : Program) (f : FuncId) : Bool := match P.funcs[f]? with
  | some fn => fn.body.isSome
  | none => false
def callK (f : FuncId) (xs : List (Env → Slot)) : Do := fun env => M.ret (.enter f (all xs env))
def funcOf (v : Value) : Option FuncId := match v with
  | .func (.func f) ⟨[]⟩ ⟨[]⟩ => some f
  | _ => none
def callC (P : Program) (f : Env → Slot) (xs : List (Env → Slot)) : Do := fun env => Slot.rec (fun c => Cell.rec (fun _ => bad 94) (fun _ => bad 94) (fun v => Option.rec (bad 95) (fun f => chk 221 (bodied P f) (M.ret (.enter f (all xs env)))) (funcOf v)) (fun _ _ => bad 94) (fun _ _ _ _ => bad 94) (fun _ => bad 94)
  (fun k => rdF k fun f fs cs => chk 222 (bodied P f) (M.ret (.enter f (app fs (app (all xs env) cs))))) c) (fun _ _ => bad 94) (fun _ => bad 94) (f env)

section
variable (P : Program)
/-- The fields' places and sizes. -/
def placesOf (fields : Array Field) : Option (List (Nat × Nat)) := fields.toList.mapM fun f => (P.info? f.type).map fun i => (f.offset, i.size)
/-- The parts' places, each within m cells. -/
def placesC (place : Nat → Option (Nat × Nat)) (m : Nat) : List (Nat × Operand) → Option (List (Nat × Nat))
  | [] => some []
  | (i, _) :: rest => match place i, placesC place m rest with
    | some p, some ps => Bool.rec none (some (p :: ps)) (Nat.ble (p.1 + p.2) m)
    | _, _ => none
def zerosOf (t : TypeId) (size : Nat) : Option (List Cell) := match zeroOf P t with
  | some z => Bool.rec none (some z) (Nat.beq (len z) size)
  | none => none
/-- The type of a slice's elements, and their size; at most 4096 bytes. -/
def elemOfA (t : TypeId) : Option (TypeId × Nat) := match P.underlying t with
  | some (.slice e) => match P.info? e with
    | some i => Bool.rec none (some (e, i.size)) (Nat.ble 1 i.size && (Nat.ble i.size 4096 && Nat.ble i.bytes 4096))
    | none => none
  | _ => none
def buildD (t : TypeId) (parts : List (Nat × Operand)) : WD := withO 100 (zeroOf P t) fun z => withO 101 (evsC (parts.map (·.2))) fun xs => match P.underlying t with
  | some (.struct fields) => withO 220 (placesOf P fields) fun pl => withO 102 (placesC (pl.toArray[·]?) (len z) parts) fun ps => .mk (buildC (len z) z ps xs)
  | some (.array _ e) => withO 103 (szOf P e) fun size => withO 104 (placesC (fun i => some (i * size, size)) (len z) parts) fun ps => .mk (buildC (len z) z ps xs)
  | _ => badW 105
def rowD (t : TypeId) (n : Nat) (parts : List (Nat × Operand)) : WD := withO 106 (elemOfA P t) fun p => withO 107 (zerosOf P p.1 p.2) fun z => withO 108 (evsC (parts.map (·.2))) fun xs => withO 109 (placesC (fun i => some (i * p.2, p.2)) (n * p.2) parts) fun ps => Bool.rec (badW 110) (.mk (rowC p.1 n (n * p.2) (noughts z n) ps xs)) (Nat.ble n 4096)
def fieldAtD (s : TypeId) (i : Nat) (x : Env → Slot) : WD := match P.underlying s with
  | some (.struct fields) => match fields[i]? with
    | some f => match szOf P f.type with
      | some (_ + 1) => .mk (fieldAtC f.offset x)
      | _ => badW 111
    | none => badW 112
  | _ => badW 113
def fieldD (s : TypeId) (i : Nat) (x : Env → Slot) : WD := match P.underlying s with
  | some (.struct fields) => match fields[i]? with
    | some f => withO 114 (kindOf P f.type) fun k => .mk (fieldC k f.offset x)
    | none => badW 115
  | _ => badW 116
def indexAtD (t : TypeId) (x i : Env → Slot) : WD := match P.underlying t with
  | some (.array n e) => withO 117 (szOf P e) fun size => .mk (indexArrC n size x i)
  | some (.slice e) => withO 118 (szOf P e) fun size => .mk (indexRowC size x i)
  | _ => badW 119
def indexD (t : TypeId) (x i : Env → Slot) : WD := match P.underlying t with
  | some (.array n e) => withO 120 (szOf P e) fun size => withO 121 (kindOf P e) fun k => .mk (indexC n size k x i)
  | some .string => .mk (indexS x i)
  | _ => badW 122
def optC (x : Option Operand) (f : Option (Env → Slot) → WD) : WD := match x with
  | none => f none
  | some x => with1 123 x fun x => f (some x)
def cutD (t : TypeId) (x : Env → Slot) (lo hi mx : Option Operand) : WD := match hi, mx with
  | none, some _ => badW 218
  | hi, mx => optC lo fun lo => optC hi fun hi => match P.underlying t with
  | some (.array n e) => match mx with
    | none => withO 124 (szOf P e) fun size => .mk (cutArrC n size x lo hi)
    | some _ => badW 125
  | some (.slice e) => optC mx fun mx => withO 126 (szOf P e) fun size => .mk (cutRowC size x lo hi mx)
  | _ => badW 127
def intMap (t : TypeId) : Option Slot := match P.underlying t with
  | some (.map k e) => match P.underlying k with
    | some (.int .i64) => match P.info? e with
      | some i => match i.zero with
        | some z => slotOf z
        | none => none
      | none => none
    | _ => none
  | _ => none
def appendD (ts : List TypeId) (s x : Env → Slot) : WD := match ts with
  | [t, u] => withO 128 (elemOfA P t) fun p => withO 129 (zerosOf P p.1 p.2) fun z => match P.underlying u with
    | some (.int _) => .mk (appendZ p.1 p.2 z s x)
    | some (.slice _) => .mk (appendC p.1 p.2 s x)
    | _ => badW 130
  | _ => badW 131
def lenD (ts : List TypeId) (x : Env → Slot) : WD := match ts with
  | [t] => match P.underlying t with
    | some (.slice _) => .mk (lenC x)
    | some .string => .mk (lenS x)
    | some (.map ..) => .mk (lenM x)
    | some (.array n _) => .mk (numC n)
    | _ => badW 132
  | _ => badW 133
def capD (ts : List TypeId) (x : Env → Slot) : WD := match ts with
  | [t] => match P.underlying t with
    | some (.slice _) => .mk (capC x)
    | some (.array n _) => .mk (numC n)
    | _ => badW 134
  | _ => badW 135
def copyD (ts : List TypeId) (d s : Env → Slot) : WD := match ts with
  | [t, _] => withO 136 (elemOfA P t) fun p => .mk (copyC p.2 d s)
  | _ => badW 137
def clearD (ts : List TypeId) (x : Env → Slot) : WD := match ts with
  | [t] => withO 187 (elemOfA P t) fun p => withO 188 (zerosOf P p.1 p.2) fun z => .mk (clearC p.2 z x)
  | _ => badW 189
def arrD (t : TypeId) (x : Env → Slot) : WD := match P.underlying t with
  | some (.array (n + 1) _) => .mk (arrC (n + 1) x)
  | _ => badW 212
def builtinD (b : Builtin) (ts : List TypeId) (xs : List (Env → Slot)) : WD := match b with
  | .append => match xs with | [s, x] => appendD P ts s x | _ => badW 138
  | .len => match xs with | [x] => lenD P ts x | _ => badW 139
  | .cap => match xs with | [x] => capD P ts x | _ => badW 140
  | .clear => match xs with | [x] => clearD P ts x | _ => badW 213
  | .copy => match xs with | [d, s] => copyD P ts d s | _ => badW 141
  | .min => match xs with | x :: xs => .mk (extremeC min2F x xs) | _ => badW 142
  | .max => match xs with | x :: xs => .mk (extremeC max2F x xs) | _ => badW 143
  | _ => badW 144
def callD (c : Call) : WD := match c.callee with
  | .builtin b => withO 145 (evsC c.args.toList) fun xs => builtinD P b c.argTypes.toList xs
  | .value (.func f) => withO 147 (evsC c.args.toList) fun xs => Bool.rec (badW 223) (.mk (callK f xs)) (bodied P f)
  | .value f => with1 146 f fun f => withO 147 (evsC c.args.toList) fun xs => .mk (callC P f xs)
  | .invoke .. => badW 148
def convI (s d : TypeId) (x : Env → Slot) : Do := fun env => Slot.rec (fun c => Cell.rec (fun n => ret1 (.nat n)) (fun _ => bad 94) (fun _ => flatRun P x (fun v => convert s d v) env) (fun _ _ => bad 94) (fun _ _ _ _ => bad 94) (fun _ => bad 94) (fun _ => bad 94) c) (fun _ _ => bad 94) (fun _ => bad 94) (x env)
def convT (s d : TypeId) (x : Env → Slot) : Do := fun env => Bool.rec (flatRun P x (fun v => convert s d v) env) (tokTo 237 hConv (x env)) (isTok (x env))
def convD (s d : TypeId) (x : Env → Slot) : WD := match P.underlying d with
  | some (.int .i64) => match P.underlying s with
    | some (.int _) => .mk (convI P s d x)
    | _ => .mk (flatRun P x fun v => convert s d v)
  | some .string => match P.underlying s with
    | some (.slice e) => match P.underlying e with
      | some (.int .u8) => .mk (convT P s d x)
      | _ => .mk (flatRun P x fun v => convert s d v)
    | _ => .mk (flatRun P x fun v => convert s d v)
  | _ => .mk (flatRun P x fun v => convert s d v)
def opD (o : Op) : WD := match o with
  | .move x | .assign x => with1 149 x fun x => .mk (moveC x)
  | .pick c a b => with1 150 c fun c => with1 151 a fun a => with1 152 b fun b => .mk (pickC c a b)
  | .alloc t => withO 153 (zeroOf P t) fun z => .mk (allocC t (len z) z)
  | .box t x => with1 154 x fun x => .mk (boxC t x)
  | .build t parts => buildD P t parts.toList
  | .buildSlice t n parts => rowD P t n parts.toList
  | .load t x => withO 155 (kindOf P t) fun k => with1 156 x fun x => .mk (loadC k x)
  | .store t x v => withO 157 (szOf P t) fun n => with1 158 x fun x => with1 159 v fun v => .mk (storeC n x v)
  | .nilCheck x => with1 160 x fun x => .mk (nilCheckC x)
  | .binOp op t x y _ => with1 161 x fun f => with1 162 y fun g => binW P op t x y f g
  | .unOp op _ x => with1 163 x fun x => .mk (flatRun P x fun v => Op.unary op v)
  | .convert s d x => with1 164 x fun x => convD P s d x
  | .makeFunc (.func f) fs cs => withO 165 (evsC fs.toList) fun fs => withO 166 (evsC cs.toList) fun cs => .mk (funcC f fs cs)
  | .makeMap _ none => .mk (makeMapC)
  | .makeSlice t l c => withO 167 (elemOfA P t) fun p => withO 168 (zerosOf P p.1 p.2) fun z => with1 169 l fun l => with1 170 c fun c => .mk (makeSliceC p.1 p.2 z l c)
  | .slice t x lo hi mx => with1 171 x fun x => cutD P t x lo hi mx
  | .fieldAddr s x i => with1 172 x fun x => fieldAtD P s i x
  | .field s x i => with1 173 x fun x => fieldD P s i x
  | .indexAddr t x i => with1 174 x fun x => with1 175 i fun i => indexAtD P t x i
  | .index t x i => with1 176 x fun x => with1 177 i fun i => indexD P t x i
  | .lookup t x i ok => withO 178 (intMap P t) fun z => with1 179 x fun x => with1 180 i fun i => .mk (lookupC ok z x i)
  | .mapUpdate t x i v => withO 181 (intMap P t) fun _ => with1 182 x fun x => with1 183 i fun i => with1 184 v fun v => .mk (updateC x i v)
  | .sliceToArrayPointer t x => with1 214 x fun x => arrD P t x
  | .extract x j => with1 185 x fun x => .mk (extractC j x)
  | .call c => callD P c
  | _ => badW 186

/-- The slot that a guard looks at, and what is to stand there. -/
def guardD (ops : Array Oper) (o : Oper) : Option (Option ((Env → Slot) × Bool)) := match o.guard with
  | none => some none
  | some (j, want) => match ops[j]? with
    | some oj => match oj.dst with
      | some d => W.rec (fun f => some (some (f, want))) (slotAt d)
      | none => none
    | none => none
abbrev Callee := FuncId → List Slot → M D Slot
abbrev Step := Callee → Env → M D Slot
def enterA (call : Callee) (n : Nx) : M D Slot := Nx.rec M.ret call n
def onlyIf (want : Bool) (v : Slot) (m : M D Slot) : M D Slot := Slot.rec (fun c => Cell.rec (fun _ => bad 190) (fun b => Bool.rec (Bool.rec m (M.ret undefS) want) (Bool.rec (M.ret undefS) m want) b) (fun _ => bad 190) (fun _ _ => bad 190) (fun _ _ _ _ => bad 190) (fun _ => bad 190) (fun _ => bad 190) c) (fun _ _ => bad 190) (fun _ => M.ret undefS) v
def plainS (f : Do) : Step := fun call env => M.bind (f env) (enterA call)
def guardS (want : Bool) (g : Env → Slot) (f : Do) : Step := fun call env => onlyIf want (g env) (M.bind (f env) (enterA call))
def badS (n : Nat) : Step := fun _ _ => bad n
def stepW (ops : Array Oper) (o : Oper) : W (Step) := Option.rec (.mk (badS 191)) (fun g => W.rec (fun f => Option.rec (.mk (plainS f)) (fun g => .mk (guardS g.2 g.1 f)) g) (opD P o.op)) (guardD ops o)
abbrev Steps := Callee → Env → M D Env
def endL : Steps := fun _ env => M.ret env
def consL (s : Step) (p : Slot → Env → Env) (k : Steps) : Steps := fun call env => M.bind (s call env) fun v => k call (p v env)
def listW (ops : Array Oper) (l : List Oper) : W (Steps) := List.rec (.mk endL) (fun o _ ih => W.rec (fun k => W.rec (fun s => W.rec (fun p => .mk (consL s p k)) (dstD o)) (stepW P ops o)) ih) l
/-- Those that come ahead of each operation, by its edges and theirs. -/
def maskOf (acc : List Nat) : List Edge → Nat
  | [] => 0
  | e :: es => match Region.binds .any e with
    | true => force (Nat.lor (Nat.lor (bit e.on) (acc.getD e.on 0)) (maskOf acc es)) id
    | false => maskOf acc es
def masks : List Oper → List Nat → List Nat
  | [], acc => acc
  | o :: rest, acc => masks rest (acc ++ [maskOf acc o.after.toList])
/-- For each operation those ahead of it in the text that may come behind it; none, if one of them looks at what the other one writes. -/
def looseAt (ops : Array Oper) (o : Oper) (m : Nat) : List Oper → Nat → Option (List Nat)
  | [], _ => some []
  | x :: xs, i => match Nat.testBit m i with
    | true => looseAt ops o m xs (i + 1)
    | false => match x.apart ops o with
      | false => none
      | true => match looseAt ops o m xs (i + 1) with
        | some l => some (i :: l)
        | none => none
def edgesBelow (i : Nat) : List Edge → Bool
  | [] => true
  | e :: es => match Region.binds .any e with
    | true => match Nat.blt e.on i with
      | true => edgesBelow i es
      | false => false
    | false => edgesBelow i es
def looseOk (ops : Array Oper) (o : Oper) (ms : List Nat) (done : List Oper) (i : Nat) : Option (List Nat) := match edgesBelow i o.after.toList with
  | true => looseAt ops o (ms.getD i 0) done 0
  | false => none
/-- The reads and writes of the operations that were run. -/
abbrev Fps := Tr (Nat × Nat)
def fpAt (i : Nat) : W (Fps → Nat × Nat) := Tr.get (0, 0) (fun p => p) (path 3 i)
def apartF (p : Nat × Nat) (r w : Nat) : Bool := Nat.beq (Nat.lor (Nat.land p.2 (Nat.lor r w)) (Nat.land w p.1)) 0
abbrev Away := Fps → Nat → Nat → Bool
def endA : Away := fun _ _ _ => true
def consA (f : Fps → Nat × Nat) (k : Away) : Away := fun fps r w => Bool.rec false (k fps r w) (apartF (f fps) r w)
def awayW (l : List Nat) : W Away := List.rec (.mk endA) (fun i _ ih => W.rec (fun k => W.rec (fun f => .mk (consA f k)) (fpAt i)) ih) l
def awayF (a : Away) (fps : Fps) (r w : Nat) : Bool := Bool.rec (a fps r w) true (Nat.beq (Nat.lor r w) 0)
/-- One step, with its own reads and writes. -/
def alone {α β : Type} (m : M D α) (f : α → Nat → Nat → M D β) : M D β := fun h nx r w => Out.rec (fun n => .bad n) (fun a h nx r1 w1 => force (Nat.lor r r1) fun r2 => force (Nat.lor w w1) fun w2 => f a r1 w1 h nx r2 w2) (m h nx 0 0)
abbrev Draws := Callee → Env → Fps → M D Env
def endR : Draws := fun _ env _ => M.ret env
def consR (s : Step) (p : Slot → Env → Env) (a : Away) (q : Option (Nat × Nat) → Fps → Fps) (k : Draws) : Draws := fun call env fps => alone (s call env) fun v r w => chk 193 (awayF a fps r w) (k call (p v env) (q (some (r, w)) fps))
def drawW (ops : Array Oper) (ms : List Nat) (l : List Oper) : List Oper → Nat → W (Draws) := List.rec (motive := fun _ => List Oper → Nat → W (Draws)) (fun _ _ => .mk endR)
  (fun o _ ih done i => Option.rec (.mk fun _ _ _ => bad 192) (fun ls => W.rec (fun k => W.rec (fun s => W.rec (fun p => W.rec (fun a => W.rec (fun q => .mk (consR s p a q k)) (Tr.put (path 3 i))) (awayW ls)) (dstD o)) (stepW P ops o)) (ih (done ++ [o]) (i + 1))) (looseOk ops o ms done i)) l
inductive Ex where
  | normal
  | exit (id : Nat)
  | ret
abbrev Run := Callee → Env → M D (Ex × Env)
def onNormal (call : Callee) (f : Run) (x : Ex × Env) : M D (Ex × Env) := Prod.rec (fun e env => Ex.rec (f call env) (fun i => M.ret (.exit i, env)) (M.ret (.ret, env)) e) x
def iterA (f : Env → M D (Ex × Env)) (n : Nat) : Env → M D (Ex × Env) := Nat.rec (fun _ => bad 194) (fun _ ih env => M.bind (f env) fun x => Prod.rec (fun e env => Ex.rec (ih env) (fun i => M.ret (.exit i, env)) (M.ret (.ret, env)) e) x) n
def badR (n : Nat) : Run := fun _ _ => bad n
def normalR : Run := fun _ env => M.ret (.normal, env)
def listR (f : Steps) : Run := fun call env => M.bind (f call env) fun env => M.ret (.normal, env)
def drawR (f : Draws) : Run := fun call env => M.bind (f call env .leaf) fun env => M.ret (.normal, env)
def regionW (ops : Array Oper) (draw : Bool) : W (Run) := Bool.rec (W.rec (fun f => .mk (listR f)) (listW P ops ops.toList)) (Bool.rec (.mk (badR 195)) (W.rec (fun f => .mk (drawR f)) (drawW P ops (masks ops.toList []) ops.toList [] 0)) (Nat.ble ops.size 512)) draw
def seqR (f g : Run) : Run := fun call env => M.bind (f call env) (onNormal call g)
def condR (c : Env → Slot) (f g : Run) : Run := fun call env => asBool 197 (c env) fun b => Bool.rec (g call env) (f call env) b
def blockR (id : Nat) (f : Run) : Run := fun call env => M.bind (f call env) fun x => Prod.rec (fun e env => Ex.rec (M.ret (.normal, env)) (fun i => Bool.rec (M.ret (.exit i, env)) (M.ret (.normal, env)) (Nat.beq i id)) (M.ret (.ret, env)) e) x
def loopR (rounds : Nat) (f : Run) : Run := fun call env => iterA (f call) rounds env
def exitR (i : Nat) : Run := fun _ env => M.ret (.exit i, env)
def retR : Run := fun _ env => M.ret (.ret, env)
def codeW (rounds : Nat) (c : Code) : W (Run) := Code.rec (motive := fun _ => W (Run))
  (.mk normalR)
  (fun _ ops draw => regionW P ops draw)
  (fun _ _ f g => W.rec (fun f => W.rec (fun g => .mk (seqR f g)) g) f)
  (fun c _ _ f g => Option.rec (.mk (badR 196)) (fun c => W.rec (fun f => W.rec (fun g => .mk (condR c f g)) g) f) (evC c))
  (fun id _ f => W.rec (fun f => .mk (blockR id f)) f)
  (fun _ f => W.rec (fun f => .mk (loopR rounds f)) f)
  (fun _ _ _ _ _ _ => .mk (badR 198))
  (fun i => .mk (exitR i))
  (fun _ _ => .mk (badR 199))
  (fun _ => .mk normalR)
  (fun _ => .mk (badR 200))
  (.mk retR)
  (fun _ => .mk (badR 201)) c
def partsOf {α : Type} (l : List Slot) (f : List Part → M D α) : M D α := List.rec (motive := fun _ => (List Part → M D α) → M D α) (fun f => f []) (fun s _ ih f => Slot.rec (fun c => ih fun l => f (.one c :: l)) (fun n cs => ih fun l => f (.agg n cs :: l)) (fun _ => bad 202) s) l f
abbrev Res := Env → (List Slot → M D Slot) → M D Slot
def endZ : Res := fun _ f => f []
def tmpZ (x : Env → Slot) (k : Res) : Res := fun env f => k env fun vs => f (x env :: vs)
def cellZ (x : Env → Slot) (kd : Kind) (k : Res) : Res := fun env f => M.bind (asPtr 204 (x env) (loadK kd)) fun y => Nx.rec (fun v => k env fun vs => f (v :: vs)) (fun _ _ => bad 205) y
def resultsW (l : List ResultVar) : W (Res) := List.rec (.mk endZ) (fun x _ ih => W.rec (fun k => ResultVar.rec (fun t => W.rec (fun x => .mk (tmpZ x k)) (slotAt t)) (fun a t => Option.rec (.mk fun _ _ => bad 203) (fun kd => W.rec (fun x => .mk (cellZ x kd k)) (slotAt a)) (kindOf P t)) x) ih) l
def oneOf (vs : List Slot) : M D Slot := List.rec (partsOf vs fun l => M.ret (.tup l)) (fun v t _ => List.rec (M.ret v) (fun _ _ _ => partsOf vs fun l => M.ret (.tup l)) t) vs
def leaveA (r : Res) (x : Ex × Env) : M D Slot := Prod.rec (fun e env => Ex.rec (r env oneOf) (fun _ => bad 206) (r env oneOf) e) x
/-- All slots that a code looks at, or writes, are below n. -/
def opndIn (n : Nat) : Operand → Bool
  | .tmp t => Nat.blt t n
  | _ => true
def opndsIn (n : Nat) (l : List Operand) : Bool := List.rec true (fun x _ ih => Bool.rec false ih (opndIn n x)) l
def dstIn (n : Nat) (o : Option Tmp) : Bool := Option.rec true (fun d => Nat.blt d n) o
def operIn (n : Nat) (o : Oper) : Bool := dstIn n o.dst && opndsIn n o.op.operands.toList
def opersIn (n : Nat) (ops : List Oper) : Bool := List.rec true (fun o _ ih => Bool.rec false ih (operIn n o)) ops
def resultIn (n : Nat) : ResultVar → Bool
  | .tmp t => Nat.blt t n
  | .cell a _ => Nat.blt a n
def resultsIn (n : Nat) (l : List ResultVar) : Bool := List.rec true (fun x _ ih => Bool.rec false ih (resultIn n x)) l
def within (n : Nat) (c : Code) : Bool := Code.rec (motive := fun _ => Bool) true (fun _ ops _ => opersIn n ops.toList) (fun _ _ x y => x && y) (fun c _ _ x y => opndIn n c && (x && y)) (fun _ _ x => x) (fun _ x => x) (fun _ _ _ _ _ _ => false) (fun _ => true) (fun _ _ => false) (fun _ => true) (fun _ => false) true (fun _ => false) c
def enter (args : List Slot) : Nat → Env := List.rec (motive := fun _ => Nat → Env) (fun _ => .leaf) (fun v _ ih i => W.rec (fun f => f (some v) (ih (Nat.succ i))) (slotPut i)) args
abbrev Body := Callee → List Slot → M D Slot
def badB (n : Nat) : Body := fun _ _ => bad n
def bodyB (m : Nat) (f : Run) (r : Res) : Body := fun call args => chk 209 (Nat.ble (len args) m) (M.bind (f call (enter args 0)) (leaveA r))
def bodyW (rounds : Nat) (fn : Option Func) : W (Body) := match fn with
  | none => .mk (badB 210)
  | some fn => match fn.body with
    | none => .mk (badB 207)
    | some body => Bool.rec (.mk (badB 208)) (W.rec (fun f => W.rec (fun r => .mk (bodyB fn.ntmps f r)) (resultsW P fn.results.toList)) (codeW P rounds body)) (Nat.ble fn.ntmps 512 && (within fn.ntmps body && resultsIn fn.ntmps fn.results.toList))
/-- The functions that are known by a law of their own. -/
abbrev Known := FuncId → Option (List Slot → M D Slot)
def runA (K : Known) (rounds n : Nat) : FuncId → List Slot → M D Slot := Nat.rec (fun _ _ => bad 211) (fun _ ih f args => Option.rec (W.rec (fun b => b ih args) (bodyW P rounds (P.funcs[f]?))) (fun k => k args) (K f)) n
end
end
end
end Go.Proofs.YtlpbbihjnmikkaaGreatDoor.Exe
