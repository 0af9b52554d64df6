/-
  Joined: Wds, Lor
-/
import Derived.Test.YtlpbbihjnmikkaaGreatDoorJ01
import Derived.Test.YtlpbbihjnmikkaaGreatDoorJ04
import Derived.Laws.BytesString
import Derived.Deep.MidRow
namespace Go.Proofs.YtlpbbihjnmikkaaGreatDoor.Exe
noncomputable section

abbrev F := List Slot → M D Slot
def tokS (d : Word) : M D Slot := M.bind (new (.data d)) fun k => M.ret (.one (.tok k))
def pair (a b : Slot) : M D Slot := partsOf [a, b] fun l => M.ret (.tup l)
def okS : Slot := .one (.nat 0)
def nilC : Cell := .flat (.slice none 0 0)
/-- The words that are bytes. -/
def isRow : Word → Bool
  | .atom _ | .plain _ | .num .. | .txt .. | .cat .. | .sealed .. | .blob .. | .mac .. | .vkey .. | .dkey _ | .dval _ | .op .. => true
  | _ => false
/-- None is as good as nought bytes. -/
def norm : Word → Word
  | .none => .plain []
  | d => d
/-- Bytes: a word, or none. -/
def bytesOf {α : Type} (s : Slot) (f : Word → M D α) : M D α := match s with
  | .one (.tok k) => rdD k fun d => chk 300 (isRow d) (f d)
  | .one (.flat v) => chk 301 (isNilRow v) (f .none)
  | _ => bad 302
def natU : Cell → Option Nat
  | .flat (.int .u8 (.ofNat n)) => match Nat.blt n 256 with | true => some n | false => none
  | _ => none
def natsU : List Cell → Option (List Nat)
  | [] => some []
  | c :: cs => match natU c, natsU cs with | some n, some ns => some (n :: ns) | _, _ => none
def sameKey (w : Word) : List Cell → Nat → M D Unit
  | [], _ => M.ret ()
  | .tok k :: cs, j => rdD k fun d => chk 320 (eqW d (.byte w j)) (sameKey w cs (j + 1))
  | _, _ => bad 321
/-- The words of 32 bytes. -/
def isKey : Word → Bool
  | .atom 3 | .vkey .. | .mac .. | .dkey _ | .dval _ => true
  | _ => false
/-- The words of 16 bytes. -/
def isBlk : Word → Bool
  | .op .. => true
  | _ => false
/-- The word for some cells. -/
def cellsW {α : Type} (cs : List Cell) (f : Word → M D α) : M D α := match cs with
  | .tok k :: cs => rdD k fun d => match d with
    | .byte w 0 => chk 304 ((isKey w && Nat.beq (len cs) 31) || (isBlk w && Nat.beq (len cs) 15)) (M.bind (sameKey w cs 1) fun _ => f w)
    | _ => bad 322
  | cs => match natsU cs with | some l => f (.plain l) | none => bad 323
/-- The word for a key's bytes. -/
def keyOf {α : Type} (s : Slot) (f : Word → M D α) : M D α := match s with
  | .agg n cs => chk 324 (Nat.beq n 32) (cellsW cs f)
  | _ => bad 324
def nonceOf {α : Type} (s : Slot) (f : List Nat → M D α) : M D α := match s with
  | .agg n cs => chk 325 (Nat.beq n 12) (match natsU cs with | some l => f l | none => bad 325)
  | _ => bad 326
def notLost : Cap → Bool
  | .lost => false
  | _ => true
/-- Bytes: a word, none, or a row of cells. -/
def bytesAny {α : Type} (s : Slot) (f : Word → M D α) : M D α := match s with
  | .one (.row b off n c) => rdC b fun q cs _ => chk 303 (Nat.ble (Nat.add off n) q && notLost c) (cellsW (cut off n q cs) f)
  | s => bytesOf s f
/-- A check of how many bytes there are at most. -/
def upTo {α : Type} (e m : Nat) (d : Word) (f : M D α) : M D α := match most d with
  | some k => chk e (Nat.ble k m) f
  | none => bad e
/-- The table that hashes need. -/
def table : List Nat := [1116352408, 1899447441, 3049323471, 3921009573, 961987163, 1508970993, 2453635748, 2870763221, 3624381080, 310598401, 607225278, 1426881987, 1925078388, 2162078206, 2614888103, 3248222580, 3835390401, 4022224774, 264347078, 604807628, 770255983, 1249150122, 1555081692, 1996064986, 2554220882, 2821834349, 2952996808, 3210313671, 3336571891, 3584528711, 113926993, 338241895, 666307205, 773529912, 1294757372, 1396182291, 1695183700, 1986661051, 2177026350, 2456956037, 2730485921, 2820302411, 3259730800, 3345764771, 3516065817, 3600352804, 4094571909, 275423344, 430227734, 506948616, 659060556, 883997877, 958139571, 1322822218, 1537002063, 1747873779, 1955562222, 2024104815, 2227730452, 2361852424, 2428436474, 2756734187, 3204031479, 3329325298]
def isTable : List Cell → List Nat → Bool
  | [], [] => true
  | .flat (.int .u32 (.ofNat n)) :: cs, m :: ms => Nat.beq n m && isTable cs ms
  | _, _ => false
/-- It is laid. -/
def tabled {α : Type} (f : M D α) : M D α := rdC 0 fun n cs e => chk 305 (Nat.beq n 64 && Nat.beq e 424 && isTable cs table) f
/-- A word's bytes, as a slot: none is nil. -/
def slotW (d : Word) : M D Slot := match d with
  | .none => M.ret (.one nilC)
  | d => tokS d
def bytesFor (w : Word) : Nat → Nat → M D (List Cell)
  | 0, _ => M.ret []
  | n + 1, j => M.bind (new (.data (.byte w j))) fun k => M.bind (bytesFor w n (j + 1)) fun l => M.ret (.tok k :: l)
def fClone : F := fun args => match args with
  | [s] => bytesOf s fun d => upTo 352 4096 d (slotW d)
  | _ => bad 352
def fEqual : F := fun args => match args with
  | [a, b] => bytesOf a fun x => bytesOf b fun y => chk 340 (eqW x y) (M.ret (.one (.bool true)))
  | _ => bad 341
def fFew : F := fun args => match args with
  | [s] => bytesOf s fun w => match w with
    | .atom 9 => tokS (.atom 2)
    | _ => bad 350
  | _ => bad 351
/-- What is laid behind. -/
def snoc : Word → Word → Word
  | .none, x => x
  | .num n r, x => .num n (snoc r x)
  | .txt t r, x => .txt t (snoc r x)
  | w, x => .cat w x
def fPut : F := fun args => match args with
  | [s, .one (.nat n)] => bytesOf s fun d => upTo 360 4096 d (chk 361 (Nat.blt n 256) (M.bind (tokS (snoc d (.num n .none))) fun v => pair v okS))
  | _ => bad 362
def fPutText : F := fun args => match args with
  | [s, t] => bytesOf s fun d => upTo 363 4096 d (bytesOf t fun x => upTo 364 255 x (M.bind (tokS (snoc d (.txt (norm x) .none))) fun v => pair v okS))
  | _ => bad 365
def triple (a b c : Slot) : M D Slot := partsOf [a, b, c] fun l => M.ret (.tup l)
def fTake : F := fun args => match args with
  | [s] => bytesOf s fun d => match d with
    | .num n r => upTo 366 4096 r (chk 367 (Nat.blt n 256) (M.bind (tokS (norm r)) fun v => triple (.one (.nat n)) v okS))
    | _ => bad 368
  | _ => bad 369
def fTakeText : F := fun args => match args with
  | [s, .one (.nat m)] => bytesOf s fun d => match d with
    | .txt t r => upTo 370 4096 r (match most t with
      | some k => chk 371 (Nat.ble k 255 && Nat.ble k m) (M.bind (tokS (norm t)) fun u => M.bind (tokS (norm r)) fun v => triple u v okS)
      | none => bad 372)
    | _ => bad 373
  | _ => bad 374
/-- The disk's cells: its first file's row, and how many steps it has done; all else is as at the beginning. -/
def isDisk (cs : List Cell) : Option (Cell × Nat) := match cs with
  | [a, _, .flat v2, .flat v3, .flat v4, .flat v5, .flat v6, .flat v7, .flat v8, .flat v9, .flat v10, .flat v11, .bool false, .bool false, .nat 0, .nat st] => match isNilRow v2 && isNilRow v3 && isNilRow v4 && isNilRow v5 && isNilRow v6 && isNilRow v7 && isNilRow v8 && isNilRow v9 && isNilRow v10 && isNilRow v11 with
    | true => some (a, st)
    | false => none
  | _ => none
/-- How many bytes the file has at most. -/
def diskRow {α : Type} (c : Cell) (f : Nat → M D α) : M D α := match c with
  | .flat v => chk 306 (isNilRow v) (f 0)
  | .tok k => rdD k fun d => match d with
    | .disk n => f n
    | _ => bad 307
  | _ => bad 308
def withDisk {α : Type} (s : Slot) (f : Nat → Cell → Nat → Nat → M D α) : M D α := match s with
  | .one (.ptr k 0) => rdC k fun q cs e => chk 309 (Nat.beq q 16 && Nat.beq e 70) (match isDisk cs with
    | some (a, st) => diskRow a fun n => f k a n st
    | none => bad 312)
  | _ => bad 317
def fOpen : F := fun args => match args with
  | [d, _] => withDisk d fun _ a _ _ => match a with
    | .flat _ => pair (.agg 8 [.nat 0, .nat 0, .nat 0, .nat 0, nilC, nilC, nilC, .nat 0]) okS
    | _ => bad 306
  | _ => bad 307
/-- The entries' cells: each has few bytes, and no members. -/
def entsOk : Nat → List Cell → (Unit → M D Slot) → M D Slot
  | 0, _, f => f ()
  | n + 1, .nat t :: .nat k :: d :: .flat v :: cs, f => chk 308 (isNilRow v && Nat.blt 0 t && Nat.ble t 3 && Nat.ble k 2) (bytesOf (.one d) fun w => upTo 309 240 w (entsOk n cs f))
  | _, _, _ => bad 310
def diskTail (st : Nat) : List Cell := [nilC, nilC, nilC, nilC, nilC, nilC, nilC, nilC, nilC, nilC, .bool false, .bool false, .nat 0, .nat (st + 2)]
def saveD (k n st : Nat) (nw : Bool) (m : Nat) : M D Slot := match nw || Nat.blt 0 m with
  | false => pair okS okS
  | true => chk 311 (Nat.ble (n + 1000 + 1000 * m) 1000000 && Nat.blt st 1000000) (M.bind (new (.data (.disk (n + 1000 + 1000 * m)))) fun r => M.bind (wr k (some (.cells 16 (.tok r :: .tok r :: diskTail st) 70))) fun _ => pair okS okS)
def fSave : F := fun args => tabled <| match args with
  | [d, _, .one (.nat 0), .agg 10 [.nat a, .nat b, .bool nw, .nat 0, .nat _, .flat _, .flat _, .nat c, es, _]] => withDisk d fun k _ n st => chk 313 (Nat.ble a 3 && Nat.ble b 3) <| match es with
    | .flat v => chk 314 (isNilRow v) (saveD k n st nw 0)
    | .row b off m _ => rdC b fun q cs _ => chk 315 (Nat.ble (off + m * 4) q && Nat.ble (c + m) 40) (entsOk m (cut off (m * 4) q cs) fun _ => saveD k n st nw m)
    | _ => bad 316
  | _ => bad 317
def fSource (ty : TypeId) : F := fun args => match args with
  | [s] => tabled <| bytesOf s fun d => upTo 318 100 d (M.bind (bytesFor (.dkey d) 32 0) fun ks => M.bind (bytesFor (.dval d) 32 0) fun vs => M.bind (new (.cells 65 (app ks (app vs [.nat 1])) ty)) fun k => M.ret (.one (.ptr k 0)))
  | _ => bad 319
def partsW {α : Type} : List Cell → (Word → M D α) → M D α
  | [a], f => bytesAny (.one a) f
  | [a, b, c], f => bytesAny (.one a) fun x => bytesAny (.one b) fun y => bytesAny (.one c) fun z => f (.cat (.cat x y) z)
  | _, _ => bad 327
def firstKey {α : Type} (cs : List Cell) (f : M D α) : M D α := match cs with
  | .row _ _ 32 _ :: _ => f
  | _ => bad 328
def fSum : F := fun args => match args with
  | [.one (.ptr b 0), .one (.row pb 0 pn _)] => tabled <| rdC b fun m cs _ => chk 329 (Nat.beq m 65) <| keyOf (.agg 32 (takeN 32 cs)) fun kw => rdC pb fun q ps _ => chk 330 (Nat.ble pn q) <| firstKey (cut 0 pn q ps) <| partsW (cut 0 pn q ps) fun w => upTo 331 1024 w (M.bind (bytesFor (.mac kw w) 32 0) fun l => M.ret (.agg 32 l))
  | _ => bad 332
def fKey : F := fun args => match args with
  | [key, .one (.nat d)] => tabled <| keyOf key fun kw => chk 333 (Nat.blt d 4) (M.bind (bytesFor (.vkey kw d) 32 0) fun l => pair (.agg 32 l) okS)
  | _ => bad 334
def fSeal : F := fun args => match args with
  | [key, nonce, beside, text] => tabled <| keyOf key fun kw => nonceOf nonce fun n => bytesAny beside fun b => upTo 342 1024 b <| bytesOf text fun t => upTo 343 1024 t (tokS (.sealed kw n b (norm t)))
  | _ => bad 344
def fUnseal : F := fun args => match args with
  | [key, nonce, beside, s] => tabled <| keyOf key fun kw => nonceOf nonce fun n => bytesAny beside fun b => upTo 345 1024 b <| bytesOf s fun w => match w with
    | .sealed kw' n' b' t => chk 346 (eqW kw kw' && eqN n n' && eqW b b') (upTo 347 1024 t (M.bind (tokS (norm t)) fun v => pair v okS))
    | _ => bad 348
  | _ => bad 349
def fBlob : F := fun args => match args with
  | [.one (.nat i), .one (.nat v), nonce, s] => nonceOf nonce fun n => bytesOf s fun w => upTo 353 4096 w (chk 354 (Nat.blt i 256 && Nat.blt v 256) (tokS (.blob i v n w)))
  | _ => bad 355
def bytesN : List Nat → Bool
  | [] => true
  | x :: l => Nat.blt x 256 && bytesN l
def fRead : F := fun args => match args with
  | [s] => bytesOf s fun w => match w with
    | .blob i v n (.sealed kw m b t) => upTo 356 64 t <| chk 357 (Nat.blt 0 i && Nat.blt i 256 && Nat.blt 0 v && Nat.blt v 256 && Nat.beq (len n) 12 && bytesN n) <| M.bind (tokS (.sealed kw m b t)) fun t => partsOf [.one (.nat i), .one (.nat v), .agg 12 (n.map fun x => .flat (.int .u8 (.ofNat x))), t, okS] fun l => M.ret (.tup l)
    | _ => bad 358
  | _ => bad 359
def pick (l : List (Nat × F)) (f : Nat) : Option F := List.rec none (fun p _ ih => Bool.rec ih (some p.2) (Nat.beq p.1 f)) l
def known : Known := pick [(8, fClone), (87, fEqual), (6, fFew), (181, fPut), (118, fPutText), (132, fTake), (137, fTakeText), (301, fBlob), (302, fRead), (122, fSeal), (259, fUnseal), (121, fKey), (75, fSource 264), (261, fSum), (28, fOpen), (94, fSave)]
end
end Go.Proofs.YtlpbbihjnmikkaaGreatDoor.Exe

namespace Go.Proofs.YtlpbbihjnmikkaaGreatDoor.Exe
abbrev Oct := BitVec 8
set_option linter.unusedSimpArgs false

/-- v is a slice that reads as the bytes l: nil, or cells of the block that is seen. -/
def RowB (v : Value) (s : Nat → Prop) (l : List Oct) (w : World) : Prop :=
  (v = .slice none 0 0 ∧ l = []) ∨ ∃ b o cap, v = .slice (some ⟨b, o, none⟩) l.length cap ∧ l.length ≤ cap ∧ s b ∧ (∃ cs t fr, w.heap[b]? = some (.cells cs t fr) ∧ t ≠ 424) ∧ ∀ j (h : j < l.length), w.cell? ⟨b, o + j, none⟩ = some (.int .u8 (l[j]'h).toNat)
theorem RowB.stable {v : Value} {s : Nat → Prop} {l : List Oct} {w w' : World} (h : RowB v s l w) (k : ∀ b, s b → w'.heap[b]? = w.heap[b]?) : RowB v s l w' := by
  rcases h with h | ⟨b, o, cap, hv, hc, h0, ⟨cs, t, fr, hb, ht⟩, hr⟩
  · exact .inl h
  · have e := k b h0
    refine .inr ⟨b, o, cap, hv, hc, h0, ⟨cs, t, fr, e.trans hb, ht⟩, fun j hj => ?_⟩
    rw [← hr j hj]
    unfold World.cell?
    rw [e]
theorem RowB.slice {v : Value} {s : Nat → Prop} {l : List Oct} {w : World} (h : RowB v s l w) : ∃ a c, v = .slice a l.length c := by
  rcases h with ⟨h, rfl⟩ | ⟨b, o, cap, hv, _⟩
  · exact ⟨_, _, h⟩
  · exact ⟨_, _, hv⟩
def strOf (l : List Oct) : ByteArray := (l.map fun x => (x.toNat : Int)).foldl (fun r n => r.push (UInt8.ofNat n.toNat)) ByteArray.empty
theorem RowB.string {v : Value} {s : Nat → Prop} {l : List Oct} {w : World} (h : RowB v s l w) (P : Program) : (Conv.bytesToString v).run P w = .ok (.string (strOf l)) w := by
  rcases h with ⟨rfl, rfl⟩ | ⟨b, o, cap, rfl, hc, h0, _, hr⟩
  · rfl
  · refine run_bytesToString w _ _ _ _ ?_
    have hl := run_loadCells_list (P := P) (w := w) ⟨b, o, none⟩ (l.map fun x => Value.int .u8 (x.toNat : Int)) (fun j v hj => ?_)
    · rw [List.length_map] at hl
      rw [hl, List.map_map]
      rfl
    · have hlt : j < l.length := by
        rcases Nat.lt_or_ge j l.length with h | h
        · exact h
        · rw [List.getElem?_eq_none (by simpa using h)] at hj; cases hj
      rw [Addr.add_mid, hr j hlt]
      simpa [hlt] using hj

/-- The bytes of a small number. -/
def num (n : Nat) : List Oct := if n = 0 then [0] else [1, BitVec.ofNat 8 n]
theorem num_le (n : Nat) : (num n).length ≤ 2 ∧ 0 < (num n).length := by unfold num; split <;> simp
/-- What is made of bytes; what was there ahead. -/
structure Ciph where
  atom : Nat → List Oct
  mac : List Oct → List Oct → List Oct
  vkey : List Oct → Nat → List Oct
  dkey : List Oct → List Oct
  dval : List Oct → List Oct
  sealed : List Oct → List Nat → List Oct → List Oct → List Oct
  past : World
  atom0 : (atom 0).length ≤ 64
  atom1 : (atom 1).length ≤ 32
  few : atom 2 = (atom 9).take 100
  atom3 : (atom 3).length = 32
  atom4 : (atom 4).length ≤ 100 ∧ 0 < (atom 4).length
  atom5 : (atom 5).length ≤ 9223372036854775807 ∧ 64 < (atom 5).length
  atom6 : (atom 6).length ≤ 9223372036854775807 ∧ 32 < (atom 6).length
  atom7 : (atom 7).length ≤ 240
  mac_len : ∀ k m, (mac k m).length = 32
  vkey_len : ∀ k d, (vkey k d).length = 32
  dkey_len : ∀ s, (dkey s).length = 32
  dval_len : ∀ s, (dval s).length = 32
  sealed_len : ∀ k n b t, (sealed k n b t).length = t.length + 16
  op : Nat → List Oct → List Oct → List Oct
  op_len : ∀ n a b, (op n a b).length = 16
variable (C : Ciph)
/-- A word's bytes. -/
def byt : Word → List Oct
  | .atom n => C.atom n
  | .plain l => l.map (BitVec.ofNat 8)
  | .num n r => num n ++ byt r
  | .txt t r => num (byt t).length ++ byt t ++ byt r
  | .cat a b => byt a ++ byt b
  | .sealed k n b t => C.sealed (byt k) n (byt b) (byt t)
  | .blob i v n s => num i ++ num v ++ (n.map (BitVec.ofNat 8)).take 12 ++ byt s
  | .vkey k d => C.vkey (byt k) d
  | .mac k m => C.mac (byt k) (byt m)
  | .dkey s => C.dkey (byt s)
  | .dval s => C.dval (byt s)
  | .op n a b => C.op n (byt a) (byt b)
  | _ => []
theorem most_le : ∀ (d : Word) (m : Nat), most d = some m → (byt C d).length ≤ m
  | .none, m, h => by cases h; exact Nat.le_refl _
  | .atom 0, m, h => by cases h; exact C.atom0
  | .atom 1, m, h => by cases h; exact C.atom1
  | .atom 2, m, h => by
    cases h
    simp only [byt, C.few, List.length_take]
    exact Nat.min_le_left _ _
  | .atom 3, m, h => by cases h; exact Nat.le_of_eq C.atom3
  | .atom 4, m, h => by cases h; exact C.atom4.1
  | .atom 5, m, h => by cases h; exact C.atom5.1
  | .atom 6, m, h => by cases h; exact C.atom6.1
  | .atom 7, m, h => by cases h; exact C.atom7
  | .atom (n + 8), m, h => by simp [most] at h
  | .plain l, m, h => by cases h; simp [byt]
  | .num n r, m, h => by
    unfold most at h
    split at h
    · rename_i x hx
      cases h
      have h1 := most_le r x hx
      have := num_le n
      simp only [byt, List.length_append]
      omega
    · cases h
  | .txt t r, m, h => by
    unfold most at h
    split at h
    · rename_i x y hx hy
      cases h
      have h1 := most_le t x hx
      have h2 := most_le r y hy
      have := num_le (byt C t).length
      simp only [byt, List.length_append]
      omega
    · cases h
  | .cat t r, m, h => by
    unfold most at h
    split at h
    · rename_i x y hx hy
      cases h
      have h1 := most_le t x hx
      have h2 := most_le r y hy
      simp only [byt, List.length_append]
      omega
    · cases h
  | .sealed k n b t, m, h => by
    unfold most at h
    split at h
    · rename_i x hx
      cases h
      have h1 := most_le t x hx
      simp only [byt, C.sealed_len]
      omega
    · cases h
  | .blob i v n s, m, h => by
    unfold most at h
    split at h
    · rename_i x hx
      cases h
      have h1 := most_le s x hx
      have := num_le i
      have := num_le v
      simp only [byt, List.length_append, List.length_take]
      omega
    · cases h
  | .mac k x, m, h => by cases h; simp [byt, C.mac_len]
  | .vkey .., m, h => by cases h; simp [byt, C.vkey_len]
  | .dkey _, m, h => by cases h; simp [byt, C.dkey_len]
  | .dval _, m, h => by cases h; simp [byt, C.dval_len]
  | .op .., m, h => by cases h; simp [byt, C.op_len]
  | .byte .., _, h | .length _, _, h | .str _, _, h | .junk, _, h | .still, _, h | .disk _, _, h => by simp [most] at h
theorem most_row {d : Word} {m : Nat} (h : most d = some m) : d = .none ∨ isRow d = true := by
  unfold most at h
  split at h <;> first | exact .inl rfl | exact .inr rfl | cases h
theorem key_len {d : Word} (h : isKey d = true) : (byt C d).length = 32 := by
  unfold isKey at h
  split at h
  · exact C.atom3
  · exact C.vkey_len _ _
  · exact C.mac_len _ _
  · exact C.dkey_len _
  · exact C.dval_len _
  · cases h
theorem blk_len {d : Word} (h : isBlk d = true) : (byt C d).length = 16 := by
  unfold isBlk at h
  split at h
  · exact C.op_len _ _ _
  · cases h
theorem eqN_eq : ∀ {l k : List Nat}, eqN l k = true → l = k
  | [], [], _ => rfl
  | [], _ :: _, h => by cases h
  | _ :: _, [], h => by cases h
  | a :: l, b :: k, h => by
    unfold eqN at h
    rw [Bool.and_eq_true] at h
    rw [Nat.eq_of_beq_eq_true h.1, eqN_eq h.2]
theorem eqW_eq (d : Word) : ∀ e, eqW d e = true → d = e := by
  induction d <;> intro e h <;> cases e <;> simp only [eqW, Bool.and_eq_true, Bool.false_eq_true] at h
  case none.none => rfl
  case atom.atom => rw [Nat.eq_of_beq_eq_true h]
  case plain.plain => rw [eqN_eq h]
  case num.num hr _ _ => rw [Nat.eq_of_beq_eq_true h.1, hr _ h.2]
  case txt.txt ht hr _ _ => rw [ht _ h.1, hr _ h.2]
  case cat.cat ht hr _ _ => rw [ht _ h.1, hr _ h.2]
  case sealed.sealed hk hb ht _ _ _ _ =>
    obtain ⟨⟨⟨h1, h2⟩, h3⟩, h4⟩ := h
    rw [hk _ h1, eqN_eq h2, hb _ h3, ht _ h4]
  case blob.blob hs _ _ _ _ =>
    obtain ⟨⟨⟨h1, h2⟩, h3⟩, h4⟩ := h
    rw [Nat.eq_of_beq_eq_true h1, Nat.eq_of_beq_eq_true h2, eqN_eq h3, hs _ h4]
  case vkey.vkey hk _ _ => rw [Nat.eq_of_beq_eq_true h.1, hk _ h.2]
  case mac.mac hk hm _ _ => rw [hk _ h.1, hm _ h.2]
  case dkey.dkey hb _ => rw [hb _ h]
  case dval.dval hb _ => rw [hb _ h]
  case byte.byte hk _ _ => rw [Nat.eq_of_beq_eq_true h.1, hk _ h.2]
  case length.length hb _ => rw [hb _ h]
  case str.str hb _ => rw [hb _ h]
  case op.op ha hb _ _ _ =>
    obtain ⟨⟨h1, h2⟩, h3⟩ := h
    rw [Nat.eq_of_beq_eq_true h1, ha _ h2, hb _ h3]
def nobody (s : Nat → Prop) : Prop := ∀ b, ¬ s b
/-- What a word says of a value. -/
def says (d : Word) (v : Value) (o s : Nat → Prop) (w : World) : Prop := match d with
  | .none => nobody o ∧ nobody s ∧ v = .slice none 0 0
  | .junk => nobody o ∧ (∀ b, s b → b < w.heap.size) ∧ ∃ l, (0 < l.length ∧ l.length ≤ 1000) ∧ RowB v s l w
  | .length d => nobody o ∧ nobody s ∧ v = .int .i64 (.ofNat (byt C d).length)
  | .str d => nobody o ∧ nobody s ∧ v = .string (strOf (byt C d))
  | .byte d j => nobody o ∧ nobody s ∧ ∃ b, (byt C d)[j]? = some b ∧ v = .int .u8 b.toNat
  | .disk n => nobody o ∧ (∀ b, s b → b < w.heap.size) ∧ ∃ l, l.length ≤ n ∧ RowB v s l w
  | .still => nobody o ∧ ∀ b, s b → b < w.heap.size ∧ w.heap[b]? = C.past.heap[b]?
  | d => nobody o ∧ (∀ b, s b → b < w.heap.size) ∧ RowB v s (byt C d) w
theorem says_row {d : Word} (h : isRow d = true) (v : Value) (o s : Nat → Prop) (w : World) : says C d v o s w = (nobody o ∧ (∀ b, s b → b < w.heap.size) ∧ RowB v s (byt C d) w) := by
  cases d <;> first | rfl | cases h
theorem says_most {d : Word} {m : Nat} (hm : most d = some m) {v : Value} {o s : Nat → Prop} {w : World} (h : says C d v o s w) : RowB v s (byt C d) w := by
  rcases most_row hm with rfl | hr
  · exact .inl ⟨h.2.2, rfl⟩
  · rw [says_row C hr] at h
    exact h.2.2
theorem nobody_no : nobody fun _ => False := fun _ h => h
theorem lt_of_get {w w' : World} {b : Nat} (e : w'.heap[b]? = w.heap[b]?) (h : b < w.heap.size) : b < w'.heap.size := by
  rcases Nat.lt_or_ge b w'.heap.size with h' | h'
  · exact h'
  · rw [Array.getElem?_eq_none h', Array.getElem?_eq_getElem h] at e; cases e
/-- The lore. -/
def lore : Lore where
  home := C.past
  conc := says C
  stable {d v o s w w'} hw h := by
    cases hr : isRow d with
    | true =>
      rw [says_row C hr] at h ⊢
      exact ⟨h.1, fun b hb => lt_of_get (hw b (.inr hb)) (h.2.1 b hb), h.2.2.stable fun b hb => hw b (.inr hb)⟩
    | false =>
      cases d <;> first | (exact Bool.noConfusion hr) | skip
      case junk =>
        obtain ⟨h1, h2, l, hl, h3⟩ := h
        exact ⟨h1, fun b hb => lt_of_get (hw b (.inr hb)) (h2 b hb), l, hl, h3.stable fun b hb => hw b (.inr hb)⟩
      case none => exact h
      case length => exact h
      case str => exact h
      case byte => exact h
      case disk =>
        obtain ⟨h1, h2, l, hl, h3⟩ := h
        exact ⟨h1, fun b hb => lt_of_get (hw b (.inr hb)) (h2 b hb), l, hl, h3.stable fun b hb => hw b (.inr hb)⟩
      case still => exact ⟨h.1, fun b hb => ⟨lt_of_get (hw b (.inr hb)) (h.2 b hb).1, (hw b (.inr hb)).trans (h.2 b hb).2⟩⟩
  below {d v o s w} h b hb := by
    cases hr : isRow d with
    | true =>
      rw [says_row C hr] at h
      rcases hb with hb | hb
      · exact (h.1 b hb).elim
      · exact h.2.1 b hb
    | false =>
      cases d <;> first | (exact Bool.noConfusion hr) | skip
      case junk => exact hb.elim (fun hb => (h.1 b hb).elim) (h.2.1 b)
      case none => exact hb.elim (fun hb => (h.1 b hb).elim) fun hb => (h.2.1 b hb).elim
      case length => exact hb.elim (fun hb => (h.1 b hb).elim) fun hb => (h.2.1 b hb).elim
      case str => exact hb.elim (fun hb => (h.1 b hb).elim) fun hb => (h.2.1 b hb).elim
      case byte => exact hb.elim (fun hb => (h.1 b hb).elim) fun hb => (h.2.1 b hb).elim
      case disk => exact hb.elim (fun hb => (h.1 b hb).elim) (h.2.1 b)
      case still => exact hb.elim (fun hb => (h.1 b hb).elim) fun hb => (h.2 b hb).1
  len_ok {d d' v o s w} hd h := by
    unfold hLen at hd
    split at hd
    · rename_i m hm
      cases hd
      have h2 := says_most C hm h
      obtain ⟨a, c, e⟩ := h2.slice
      exact ⟨a, _, c, e, nobody_no, nobody_no, rfl⟩
    · cases hd
  conv_ok {d d' v o s w} hd h := by
    unfold hConv at hd
    split at hd
    · rename_i m hm
      cases hd
      have h2 := says_most C hm h
      obtain ⟨a, c, e⟩ := h2.slice
      exact ⟨a, _, c, _, e, fun P => h2.string P, nobody_no, nobody_no, rfl⟩
    · cases hd
  cmp_ok {d v o s op n b w} hd h := by
    unfold hCmp at hd
    split at hd
    · rename_i d
      obtain ⟨_, _, rfl⟩ := h
      refine ⟨_, rfl, fun P W t => ?_⟩
      split at hd
      · rename_i m hm
        have hl := most_le C _ _ hm
        split at hd
        · rename_i hb
          cases hd
          have := Nat.le_of_ble_eq_true hb
          simp [binOp, Op.intCmp]
          omega
        · split at hd
          · split at hd
            · rename_i hn
              cases hd
              have := Nat.eq_of_beq_eq_true hn
              subst this
              have := C.atom4.2
              simp [binOp, Op.intCmp, byt]
              omega
            · cases hd
          · split at hd
            · rename_i hn
              cases hd
              have := Nat.le_of_ble_eq_true hn
              have := C.atom5.2
              simp [binOp, Op.intCmp, byt]
              omega
            · cases hd
          · split at hd
            · rename_i hn
              cases hd
              have := Nat.le_of_ble_eq_true hn
              have := C.atom6.2
              simp [binOp, Op.intCmp, byt]
              omega
            · cases hd
          · cases hd
      · rename_i m hm
        have hl := most_le C _ _ hm
        split at hd
        · rename_i hb
          cases hd
          have := Nat.le_of_ble_eq_true hb
          simp [binOp, Op.intCmp]
          omega
        · cases hd
      · rename_i m hm
        split at hd
        · rename_i hb
          cases hd
          have := Nat.eq_of_beq_eq_true hb
          subst this
          simp [binOp, Op.intCmp]
        · cases hd
      · cases hd
    · cases hd
  eq_ok {d e v u o s o' s' b w} hd h1 h2 := by
    unfold hEq at hd
    split at hd
    · rename_i d e
      split at hd
      · rename_i he
        cases hd
        obtain ⟨_, _, rfl⟩ := h1
        obtain ⟨_, _, rfl⟩ := h2
        rw [eqW_eq d e he]
        exact ⟨_, _, rfl, rfl, by simp⟩
      · cases hd
    · cases hd
end Go.Proofs.YtlpbbihjnmikkaaGreatDoor.Exe
