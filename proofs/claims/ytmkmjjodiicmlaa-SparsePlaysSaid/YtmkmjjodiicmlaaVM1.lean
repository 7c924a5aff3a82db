/- A library of an abstract machine, joined from 4 texts. Conditions: none. -/
import Derived.WalkKit
import Derived.LoopN
import Derived.Orders
set_option linter.unusedVariables false
set_option linter.unusedSimpArgs false
set_option linter.unusedSectionVars false
/- The program's data as Lean's own: the types of what its rows hold. Definitions alone. Conditions: none. -/
namespace Go.Proofs.Ytmkmjjodiicmlaa.VS

abbrev Str := List UInt8

structure Nam where
  name : Str
  ino : Int
  deriving DecidableEq, Inhabited

structure Blk where
  pos : Int
  data : List UInt8
  deriving DecidableEq, Inhabited

structure Fil where
  size : Int
  blocks : List Blk
  deriving DecidableEq, Inhabited

structure Nod where
  ino : Int
  kind : Int
  mode : Int
  links : Int
  file : Fil
  target : Str
  names : List Nam
  deriving DecidableEq, Inhabited

structure Dsk where
  blocks : Int
  inodes : Int
  next : Int
  nodes : List Nod
  deriving DecidableEq, Inhabited

structure Opn where
  kind : Int
  path : Str
  dest : Str
  mode : Int
  pos : Int
  n : Int
  data : List UInt8
  deriving DecidableEq, Inhabited

structure Cnf where
  ways : List Int
  policy : Int
  deriving DecidableEq, Inhabited

structure Spt where
  branch : Int
  ino : Int
  deriving DecidableEq, Inhabited

structure Rwo where
  spot : Spt
  u : Int
  deriving DecidableEq, Inhabited

structure Tbl where
  next : Int
  rows : List Rwo
  homes : List Rwo
  cursor : Int
  deriving DecidableEq, Inhabited

structure Wld where
  conf : Cnf
  disks : List Dsk
  table : Tbl
  deriving DecidableEq, Inhabited

structure Akt where
  kind : Int
  pos : Int
  b : List UInt8
  deriving DecidableEq, Inhabited

/-- What a row's elements are. -/
inductive GT where
  | u8 | bool | int | str | strs | nam | blk | nod | dsk | opn | opns | spt | row | akt | bss | rss
  deriving DecidableEq, Inhabited

abbrev GT.T : GT → Type
  | .u8 => UInt8
  | .bool => Bool
  | .int => Int
  | .str => Str
  | .strs => List Str
  | .nam => Nam
  | .blk => Blk
  | .nod => Nod
  | .dsk => Dsk
  | .opn => Opn
  | .opns => List Opn
  | .spt => Spt
  | .row => Rwo
  | .akt => Akt
  | .bss => List UInt8
  | .rss => List Rwo

/-- Something of a type, for an element that is not there. -/
def GT.nought : (t : GT) → t.T
  | .u8 => (0 : UInt8)
  | .bool => false
  | .int => (0 : Int)
  | .str => ([] : List UInt8)
  | .strs => ([] : List Str)
  | .nam => (default : Nam)
  | .blk => (default : Blk)
  | .nod => (default : Nod)
  | .dsk => (default : Dsk)
  | .opn => (default : Opn)
  | .opns => ([] : List Opn)
  | .spt => (default : Spt)
  | .row => (default : Rwo)
  | .akt => (default : Akt)
  | .bss => ([] : List UInt8)
  | .rss => ([] : List Rwo)

/-- An element's cells, how many. -/
def GT.size : GT → Nat
  | .u8 | .bool | .int | .str | .strs | .opns | .bss | .rss => 1
  | .nam | .blk | .spt => 2
  | .nod => 8
  | .dsk => 4
  | .opn => 7
  | .row | .akt => 3

end Go.Proofs.Ytmkmjjodiicmlaa.VS

/- The abstract machine: values as trees, owned arrays and variables by number. Definitions alone. Conditions: none. -/
namespace Go.Proofs.Ytmkmjjodiicmlaa.VS

inductive AV where
  | dead
  | bool (b : Bool)
  | int (k : IntKind) (n : Int)
  | str (s : List UInt8)
  | nilp
  | nilf
  | nili
  | nilm
  | ifc (t : TypeId) (v : AV)
  | fn (f : FuncId) (caps : List AV)
  | agg (cs : List AV)
  | tup (vs : List AV)
  | nils
  | emp
  | sl (xs : List AV)
  | osl (s b lo len : Nat)
  | ptr (b off : Nat)
  | eptr (b i off : Nat)
  | cptr (v : AV)
  | mp (b : Nat)
  | rng (i : Nat) (k : IntKind) (lo hi : Int)
  | ustr (i : Nat) (l : List (List UInt8))
  | lin (i : Nat) (a c lo hi : Int)
  | nev
  | tl (t : GT) (xs : List t.T)
  | ub (b : Bool)
  | gs (t : GT) (b n : Nat)
  | sub (b i n : Nat)
  | psub (b i j : Nat)
  deriving Inhabited

def AV.cells : AV → List AV
  | .agg cs => cs
  | v => [v]

/-- A value that may lie in one cell. -/
def AV.one : AV → Bool
  | .dead | .agg _ | .tup _ => false
  | _ => true

/-- A value that may be stored: an aggregate, or one cell. -/
def AV.fits : AV → Bool
  | .dead | .tup _ => false
  | .agg cs => cs.all AV.one
  | _ => true

/-- A value of so many cells that may be stored. -/
def fitsN (n : Nat) (v : AV) : Bool := v.fits && v.cells.length.beq n

def flat (xs : List AV) : List AV := xs.flatMap AV.cells

/-- An element as a tree. -/
def enc : (t : GT) → t.T → AV
  | .u8, (b : UInt8) => .int .u8 b.toNat
  | .bool, (b : Bool) => .ub b
  | .int, (n : Int) => .int .i64 n
  | .str, (s : Str) => .str s
  | .strs, (l : List Str) => .tl .str l
  | .nam, (x : Nam) => .agg [.str x.name, .int .i64 x.ino]
  | .blk, (x : Blk) => .agg [.int .i64 x.pos, .tl .u8 x.data]
  | .nod, (x : Nod) => .agg [.int .i64 x.ino, .int .i64 x.kind, .int .i64 x.mode, .int .i64 x.links, .int .i64 x.file.size, .tl .blk x.file.blocks, .str x.target, .tl .nam x.names]
  | .dsk, (x : Dsk) => .agg [.int .i64 x.blocks, .int .i64 x.inodes, .int .i64 x.next, .tl .nod x.nodes]
  | .opn, (x : Opn) => .agg [.int .i64 x.kind, .str x.path, .str x.dest, .int .i64 x.mode, .int .i64 x.pos, .int .i64 x.n, .tl .u8 x.data]
  | .opns, (l : List Opn) => .tl .opn l
  | .spt, (x : Spt) => .agg [.int .i64 x.branch, .int .i64 x.ino]
  | .row, (x : Rwo) => .agg [.int .i64 x.spot.branch, .int .i64 x.spot.ino, .int .i64 x.u]
  | .akt, (x : Akt) => .agg [.int .i64 x.kind, .int .i64 x.pos, .tl .u8 x.b]
  | .bss, (l : List UInt8) => .tl .u8 l
  | .rss, (l : List Rwo) => .tl .row l

/-- A row of elements as trees. -/
def encs (t : GT) (xs : List t.T) : List AV := xs.map (enc t)

/-! ### Trees as data -/

def byteOf : AV → Option UInt8
  | .int .u8 n => if 0 ≤ n ∧ n < 256 then some (UInt8.ofNat n.toNat) else none
  | _ => none

def decAll {α : Type} (d : AV → Option α) : List AV → Option (List α)
  | [] => some []
  | a :: r => match d a, decAll d r with
    | some x, some l => some (x :: l)
    | _, _ => none

def listOf (t : GT) (d : AV → Option t.T) : AV → Option (List t.T)
  | .tl t' xs => if h : t' = t then some (h ▸ xs) else none
  | .nils => some []
  | .emp => some []
  | .nev => some []
  | .sl xs => decAll d xs
  | _ => none

def decBool : AV → Option Bool
  | .bool b => some b
  | .ub b => some b
  | _ => none
def decInt : AV → Option Int
  | .int .i64 n => some n
  | _ => none
def decStr : AV → Option Str
  | .str s => some s
  | _ => none
def decStrs : AV → Option (List Str) := listOf .str decStr
def decNam : AV → Option Nam
  | .agg [.str s, .int .i64 n] => some ⟨s, n⟩
  | _ => none
def decBytes : AV → Option (List UInt8) := listOf .u8 byteOf
def decBlk : AV → Option Blk
  | .agg [.int .i64 p, d] => match decBytes d with
    | some b => some ⟨p, b⟩
    | none => none
  | _ => none
def decNod : AV → Option Nod
  | .agg [.int .i64 a, .int .i64 b, .int .i64 c, .int .i64 e, .int .i64 s, l, .str g, n] =>
    match listOf .blk decBlk l, listOf .nam decNam n with
    | some l, some n => some ⟨a, b, c, e, ⟨s, l⟩, g, n⟩
    | _, _ => none
  | _ => none
def decDsk : AV → Option Dsk
  | .agg [.int .i64 a, .int .i64 b, .int .i64 c, l] => match listOf .nod decNod l with
    | some l => some ⟨a, b, c, l⟩
    | none => none
  | _ => none
def decOpn : AV → Option Opn
  | .agg [.int .i64 a, .str p, .str q, .int .i64 b, .int .i64 c, .int .i64 e, d] => match decBytes d with
    | some d => some ⟨a, p, q, b, c, e, d⟩
    | none => none
  | _ => none
def decSpt : AV → Option Spt
  | .agg [.int .i64 a, .int .i64 b] => some ⟨a, b⟩
  | _ => none
def decRow : AV → Option Rwo
  | .agg [.int .i64 a, .int .i64 b, .int .i64 c] => some ⟨⟨a, b⟩, c⟩
  | _ => none
def decAkt : AV → Option Akt
  | .agg [.int .i64 a, .int .i64 b, d] => match decBytes d with
    | some d => some ⟨a, b, d⟩
    | none => none
  | _ => none

def dec : (t : GT) → AV → Option t.T
  | .u8 => byteOf
  | .bool => decBool
  | .int => decInt
  | .str => decStr
  | .strs => decStrs
  | .nam => decNam
  | .blk => decBlk
  | .nod => decNod
  | .dsk => decDsk
  | .opn => decOpn
  | .opns => listOf .opn decOpn
  | .spt => decSpt
  | .row => decRow
  | .akt => decAkt
  | .bss => decBytes
  | .rss => listOf .row decRow

/-- A row of data. -/
abbrev decL (t : GT) : AV → Option (List t.T) := listOf t (dec t)

inductive AObj where
  | cells (cs : List AV)
  | arr (s : Nat) (xs : List AV)
  | map (es : List (AV × AV))
  | tarr (t : GT) (xs : List t.T)
  | deep (xs : List Blk) (lo : Nat)
  deriving Inhabited

abbrev Heap := List (Nat × AObj)

def hget : Heap → Nat → Option AObj
  | [], _ => none
  | p :: r, b => bif p.1.beq b then some p.2 else hget r b

def hdel : Heap → Nat → Heap
  | [], _ => []
  | p :: r, b => bif p.1.beq b then hdel r b else p :: hdel r b

def hset : Heap → Nat → AObj → Heap
  | [], b, n => [(b, n)]
  | p :: r, b, n => bif p.1.beq b then (b, n) :: hdel r b else p :: hset r b n

/-- What an operation does to the heap: of some numbers, what stands there now. -/
abbrev Eff := List (Nat × Option AObj)

def hput (H : Heap) (b : Nat) : Option AObj → Heap
  | some o => hset H b o
  | none => hdel H b

def happ : Heap → Eff → Heap
  | H, [] => H
  | H, p :: r => happ (hput H p.1 p.2) r

/-- What an operation leaves that is not carried out. -/
abbrev und : AV := .tup []

/-- The slots of a frame: a tree. -/
inductive Fr where
  | nil
  | nd (v : AV) (l r : Fr)

def Fr.get : Fr → Nat → AV
  | .nil, _ => und
  | .nd v l r, k => bif k.beq 0 then v else bif (k.mod 2).beq 1 then l.get (k.div 2) else r.get ((k.div 2).pred)

def Fr.set : Fr → Nat → AV → Fr
  | .nil, _, _ => .nil
  | .nd v l r, k, a => bif k.beq 0 then .nd a l r else bif (k.mod 2).beq 1 then .nd v (l.set (k.div 2) a) r else .nd v l (r.set ((k.div 2).pred) a)

def Fr.full : Nat → Fr
  | 0 => .nil
  | n + 1 => .nd und (full n) (full n)

def Fr.args : List AV → Nat → Fr → Fr
  | [], _, t => t
  | a :: r, k, t => Fr.args r (k + 1) (t.set k a)

def ofV1 : Value → AV
  | .bool b => .bool b
  | .int k n => .int k n
  | .string s => .str s.data.toList
  | .pointer none => .nilp
  | .nilFunc => .nilf
  | .nilIface => .nili
  | .slice none 0 0 => .nils
  | .map none => .nilm
  | _ => .dead

def ofV : Value → AV
  | .agg cs => .agg (cs.toList.map ofV1)
  | v => ofV1 v

def opnd (fr : Fr) : Operand → AV
  | .tmp t => fr.get t
  | .const v => ofV v
  | .func f => .fn f []
  | .global _ => .dead

def opnds (fr : Fr) : List Operand → List AV
  | [] => []
  | x :: r => opnd fr x :: opnds fr r

def parts (fr : Fr) : List (Nat × Operand) → List (Nat × AV)
  | [] => []
  | p :: r => (p.1, opnd fr p.2) :: parts fr r

/-- A tree of things by number. -/
inductive Tr (α : Type) where
  | nil
  | nd (v : Option α) (l r : Tr α)

def Tr.get {α : Type} : Tr α → Nat → Option α
  | .nil, _ => none
  | .nd v l r, k => bif k.beq 0 then v else bif (k.mod 2).beq 1 then l.get (k.div 2) else r.get ((k.div 2).pred)

/-- A field: where its cells begin; its type; has it no name? -/
structure Fd where
  off : Nat
  ty : TypeId
  blank : Bool

/-- What a type is made of. -/
inductive TK where
  | bool
  | int (k : IntKind)
  | str
  | ptr
  | slice (e : TypeId)
  | map (k e : TypeId)
  | struct (fs : List Fd)
  | array (n : Nat) (e : TypeId)
  | iface
  | other

/-- What is asked of a type. 'cmp': a struct that '==' takes part by part. -/
structure TI where
  size : Nat
  bytes : Nat
  zero : Option AV
  ag : Bool
  k : TK
  cmp : Bool

structure Tabs where
  ty : Tr TI
  fn : Tr Func

section
variable (T : Tabs)

def szOf (t : TypeId) : Option Nat :=
  match T.ty.get t with
  | some i => some i.size
  | none => none
def bytesOf (t : TypeId) : Option Nat :=
  match T.ty.get t with
  | some i => some i.bytes
  | none => none
def isAggT (t : TypeId) : Option Bool :=
  match T.ty.get t with
  | some i => some i.ag
  | none => none
def zeroOf (t : TypeId) : Option AV :=
  match T.ty.get t with
  | some i => i.zero
  | none => none
def kindOf (t : TypeId) : TK :=
  match T.ty.get t with
  | some i => i.k
  | none => .other
def elemOf (t : TypeId) : Option TypeId :=
  match kindOf T t with
  | .slice e => some e
  | _ => none
def fieldOf (t : TypeId) (f : Nat) : Option Fd :=
  match kindOf T t with
  | .struct fs => fs[f]?
  | _ => none

def takeCells (ag : Bool) (n : Nat) (cs : List AV) (off : Nat) : Option AV :=
  bif ag then (bif (off + n).ble cs.length then some (.agg ((cs.drop off).take n)) else none)
  else match cs[off]? with
    | some x => bif x.one then some x else none
    | none => none

def setCells (cs : List AV) (off : Nat) (new : List AV) : List AV := cs.take off ++ new ++ cs.drop (off + new.length)

/-- A part of a type's size out of cells. -/
def takeT (t : TypeId) (cs : List AV) (off : Nat) : Option AV :=
  match T.ty.get t with
  | some i => takeCells i.ag i.size cs off
  | none => none

/-- An element of a row whose elements' rows are one's own, too. -/
def subCells (b i : Nat) (x : Blk) : List AV := [.int .i64 x.pos, .sub b i x.data.length]

/-- The cells that an address leads to, and where. -/
def cellsAt (H : Heap) : AV → Option (List AV × Nat)
  | .ptr b off => match hget H b with
    | some (.cells cs) => some (cs, off)
    | _ => none
  | .eptr b i off => match hget H b with
    | some (.arr _ xs) => match xs[i]? with
      | some x => some (x.cells, off)
      | none => none
    | some (.tarr t xs) => match xs[i]? with
      | some x => some ((enc t x).cells, off)
      | none => none
    | some (.deep xs lo) => match xs[i]? with
      | some x => bif lo.ble i then some (subCells b i x, off) else none
      | none => none
    | _ => none
  | .cptr v => some (v.cells, 0)
  | _ => none

def aload (H : Heap) (t : TypeId) (a : AV) : Option AV :=
  match cellsAt H a with
  | some c => takeT T t c.1 c.2
  | none => none

/-- An element with some cells set. -/
def setPart (x : AV) (off : Nat) (new : List AV) : Option AV :=
  match x with
  | .agg cs => bif (off + new.length).ble cs.length then some (.agg (setCells cs off new)) else none
  | .dead | .tup _ => none
  | _ => match off, new with
    | 0, [v] => some v
    | _, _ => none

/-- Is a number one of what is written no more? -/
def isIn (b : Nat) : List Nat → Bool
  | [] => false
  | a :: r => bif a.beq b then true else isIn b r

/-- What stands under a number, and may be written. -/
def hlive (H : Heap) (F : List Nat) (b : Nat) : Option AObj := bif isIn b F then none else hget H b

def astoreP (H : Heap) (F : List Nat) (b off : Nat) (new : List AV) : Option (Nat × AObj) :=
  match hlive H F b with
  | some (.cells cs) => bif (off + new.length).ble cs.length then some (b, .cells (setCells cs off new)) else none
  | _ => none

def astoreE (H : Heap) (F : List Nat) (b i off : Nat) (new : List AV) : Option (Nat × AObj) :=
  match hlive H F b with
  | some (.arr s xs) => match xs[i]? with
    | some x => match setPart x off new with
      | some y => some (b, .arr s (xs.set i y))
      | none => none
    | none => none
  | _ => none

def astore (H : Heap) (F : List Nat) (t : TypeId) (a v : AV) : Option (Nat × AObj) :=
  match szOf T t with
  | some n =>
    bif fitsN n v then
      match a with
      | .ptr b off => astoreP H F b off v.cells
      | .eptr b i off => astoreE H F b i off v.cells
      | _ => none
    else none
  | none => none

def fillA (place : Nat → Option (Nat × Nat)) (cells : List AV) : List (Nat × AV) → Option (List AV)
  | [] => some cells
  | p :: rest =>
    match place p.1 with
    | none => none
    | some q =>
      bif fitsN q.2 p.2 && (q.1 + q.2).ble cells.length then fillA place (setCells cells q.1 p.2.cells) rest else none

def placesOf : List Fd → Option (List (Nat × Nat))
  | [] => some []
  | f :: fs => match szOf T f.ty, placesOf fs with
    | some n, some l => some ((f.off, n) :: l)
    | _, _ => none

def places (t : TypeId) : Option (Nat → Option (Nat × Nat)) :=
  match kindOf T t with
  | .struct fields => match placesOf T fields with
    | some l => some (l[·]?)
    | none => none
  | .array _ e => match szOf T e with
    | some s => some fun i => some (i * s, s)
    | none => none
  | _ => none

def abuild (t : TypeId) (ps : List (Nat × AV)) : Option AV :=
  match zeroOf T t, places T t with
  | some (.agg z), some pl => match fillA pl z ps with
    | some cs => some (.agg cs)
    | none => none
  | _, _ => none

/-- The elements of a slice literal. -/
def fillE (s : Nat) (xs : List AV) : List (Nat × AV) → Option (List AV)
  | [] => some xs
  | p :: rest => bif fitsN s p.2 && p.1.blt xs.length then fillE s (xs.set p.1 p.2) rest else none

/-- A type's size, and its nought, where both may be stored. -/
def elemT (t : TypeId) : Option (TypeId × Nat × AV) :=
  match elemOf T t with
  | some e => match szOf T e, zeroOf T e with
    | some s, some z => bif fitsN s z && Nat.blt 0 s then some (e, s, z) else none
    | _, _ => none
  | none => none

def afieldAddr (st : TypeId) (a : AV) (f : Nat) : Option AV :=
  match fieldOf T st f with
  | some fd =>
    match szOf T fd.ty with
    | some (_ + 1) =>
      match a with
      | .ptr b off => some (.ptr b (off + fd.off))
      | .eptr b i off => some (.eptr b i (off + fd.off))
      | .cptr v => match takeT T fd.ty v.cells fd.off with
        | some x => bif x.fits then some (.cptr x) else none
        | none => none
      | _ => none
    | _ => none
  | none => none

def afield (st : TypeId) (x : AV) (f : Nat) : Option AV :=
  match x with
  | .agg cs => match fieldOf T st f with
    | some fd => takeT T fd.ty cs fd.off
    | none => none
  | _ => none

/-- The address of an element of a slice, or of an array in a variable. 'n': the element's size. -/
def idxSl (n : Nat) (x : AV) (i : Nat) : Option AV :=
  match x with
  | .sl xs => match xs[i]? with
    | some y => bif y.cells.length.beq n && Nat.blt 0 n then some (.cptr y) else none
    | none => none
  | .osl s b lo len => bif i.blt len && s.beq n then some (.eptr b (lo + i) 0) else none
  | .gs g b len => bif i.blt len && g.size.beq n then some (.eptr b i 0) else none
  | .sub b k len => bif i.blt len && n.beq 1 then some (.psub b k i) else none
  | .tl t xs => match xs[i]? with
    | some y => bif t.size.beq n then some (.cptr (enc t y)) else none
    | none => none
  | _ => none

def idxArr (len n : Nat) (x : AV) (i : Nat) : Option AV :=
  match x with
  | .ptr b off => bif i.blt len then some (.ptr b (off + i * n)) else none
  | _ => none

def aindexAddr (t : TypeId) (x ix : AV) : Option AV :=
  match ix with
  | .int _ (.ofNat i) =>
    match kindOf T t with
    | .slice e => match szOf T e with
      | some n => idxSl n x i
      | none => none
    | .array len e => match szOf T e with
      | some n => idxArr len n x i
      | none => none
    | _ => none
  | _ => none

def aindex (t : TypeId) (x ix : AV) : Option AV :=
  match kindOf T t, x, ix with
  | .str, .str s, .int _ (.ofNat i) => match s[i]? with
    | some c => some (.int .u8 c.toNat)
    | none => none
  | .array len e, .agg cs, .int _ (.ofNat i) =>
    match szOf T e with
    | some n => bif i.blt len then takeT T e cs (i * n) else none
    | none => none
  | _, _, _ => none

def bnd (d : Nat) : Option AV → Option Nat
  | none => some d
  | some (.int _ (.ofNat i)) => some i
  | some _ => none

/-- Two bounds of a cut, that fit. -/
def bnds (n : Nat) (lo hi : Option AV) : Option (Nat × Nat) :=
  match bnd 0 lo, bnd n hi with
  | some l, some h => bif l.ble h && h.ble n then some (l, h) else none
  | _, _ => none

def asliceV (n : Nat) (x : AV) (lo hi : Option AV) : Option AV :=
  match x with
  | .nils => match bnds 0 lo hi with
    | some _ => some .nils
    | none => none
  | .emp => match bnds 0 lo hi with
    | some _ => some .emp
    | none => none
  | .sl [] => match bnds 0 lo hi with
    | some _ => some (.sl [])
    | none => none
  | .sl (x :: xs) => match bnds (xs.length + 1) lo hi with
    | some p => bif x.cells.length.beq n then some (.sl (((x :: xs).take p.2).drop p.1)) else none
    | none => none
  | .osl s b o len => match bnds len lo hi with
    | some p => bif s.beq n then some (.osl s b (o + p.1) (p.2 - p.1)) else none
    | none => none
  | .tl t xs => match bnds xs.length lo hi with
    | some p => bif t.size.beq n then some (.tl t ((xs.take p.2).drop p.1)) else none
    | none => none
  | .gs g b (len + 1) => match bnds (len + 1) lo hi with
    | some p => bif g.size.beq n then some (.osl g.size b (0 + p.1) (p.2 - p.1)) else none
    | none => none
  | _ => none

def aslice (t : TypeId) (x : AV) (lo hi mx : Option AV) : Option AV :=
  match mx with
  | some _ => none
  | none =>
    match kindOf T t with
    | .str => match x with
      | .str s => match bnds s.length lo hi with
        | some p => some (.str ((s.take p.2).drop p.1))
        | none => none
      | _ => none
    | .slice e => match szOf T e with
      | some (n + 1) => asliceV (n + 1) x lo hi
      | _ => none
    | _ => none

def byteV (c : UInt8) : AV := .int .u8 c.toNat

/-- The elements that a slice holds. -/
def elems (H : Heap) : AV → Option (List AV)
  | .nils | .emp | .nev => some []
  | .sl xs => some xs
  | .osl _ b lo len =>
    match hget H b with
    | some (.arr _ xs) => bif (lo + len).ble xs.length then some ((xs.drop lo).take len) else none
    | some (.tarr t xs) => bif (lo + len).ble xs.length then some (((encs t xs).drop lo).take len) else none
    | _ => none
  | .gs _ b n =>
    match hget H b with
    | some (.arr _ xs) => bif n.beq xs.length then some xs else none
    | some (.tarr t xs) => bif n.beq xs.length then some (encs t xs) else none
    | _ => none
  | .str s => some (s.map byteV)
  | .tl t xs => some (encs t xs)
  | _ => none

def idOf : AV → List Nat
  | .ptr b _ | .eptr b _ _ | .osl _ b _ _ | .mp b | .gs _ b _ => [b]
  | _ => []

/-- What of a value is taken whole: owned arrays as trees; the numbers that were met. 'nz': an empty slice is told alike, whatever it is. -/
def resolve (nz : Bool) (H : Heap) : Nat → AV → Option (AV × List Nat)
  | 0, _ => none
  | d + 1, a =>
    let all (l : List AV) : Option (List AV × List Nat) :=
      l.foldr (fun x acc => match acc, resolve nz H d x with
        | some ys, some y => some (y.1 :: ys.1, y.2 ++ ys.2)
        | _, _ => none) (some ([], []))
    match a with
    | .agg cs => match all cs with
      | some r => some (.agg r.1, r.2)
      | none => none
    | .tup cs => match all cs with
      | some r => some (.tup r.1, r.2)
      | none => none
    | .fn f cs => match all cs with
      | some r => some (.fn f r.1, r.2)
      | none => none
    | .ifc t v => match resolve nz H d v with
      | some r => some (.ifc t r.1, r.2)
      | none => none
    | .osl _ b lo len =>
      match hget H b with
      | some (.arr _ xs) => bif (lo + len).ble xs.length then
          match all xs with
          | some r => some (.sl ((r.1.drop lo).take len), b :: r.2)
          | none => none
        else none
      | some (.tarr t xs) => bif (lo + len).ble xs.length then some (.tl t ((xs.drop lo).take len), [b]) else none
      | some (.deep xs q) => bif (lo + len).ble xs.length && q.beq 0 then some (.tl .blk ((xs.drop lo).take len), [b]) else none
      | _ => none
    | .gs _ b n =>
      match hget H b with
      | some (.tarr t xs) => bif n.beq xs.length then some (.tl t xs, [b]) else none
      | some (.deep xs q) => bif n.beq xs.length && q.beq 0 then some (.tl .blk xs, [b]) else none
      | _ => none
    | .ptr b o =>
      match hget H b with
      | some (.cells cs) => bif o.beq 0 then
          match all cs with
          | some r => some (.cptr (.agg r.1), b :: r.2)
          | none => none
        else none
      | _ => none
    | .cptr x => some (.cptr x, [])
    | .eptr _ _ _ | .mp _ | .dead | .sub _ _ _ | .psub _ _ _ => none
    | .nils => some (bif nz then .sl [] else .nils, [])
    | .emp => some (bif nz then .sl [] else .emp, [])
    | .nev => some (bif nz then .sl [] else .nev, [])
    | v => some (v, [])

/-- The numbers that a value leads to. -/
def reach (H : Heap) : Nat → AV → List Nat
  | 0, _ => []
  | d + 1, a =>
    match a with
    | .agg cs | .tup cs | .fn _ cs => cs.flatMap (reach H d)
    | .ifc _ v => reach H d v
    | .osl _ b _ _ => b :: (match hget H b with
      | some (.arr _ xs) => xs.flatMap (reach H d)
      | _ => [])
    | .gs _ b _ => [b]
    | _ => []

/-- A value under other numbers. -/
def ren (ρ : Nat → Option Nat) : Nat → AV → Option AV
  | 0, _ => none
  | d + 1, a =>
    let all (l : List AV) : Option (List AV) :=
      l.foldr (fun x acc => match acc, ren ρ d x with
        | some ys, some y => some (y :: ys)
        | _, _ => none) (some [])
    match a with
    | .agg cs => match all cs with
      | some r => some (.agg r)
      | none => none
    | .tup cs => match all cs with
      | some r => some (.tup r)
      | none => none
    | .fn f cs => match all cs with
      | some r => some (.fn f r)
      | none => none
    | .ifc t v => match ren ρ d v with
      | some r => some (.ifc t r)
      | none => none
    | .osl s b lo len => match ρ b with
      | some c => some (.osl s c lo len)
      | none => none
    | .gs g b n => match ρ b with
      | some c => some (.gs g c n)
      | none => none
    | .ptr _ _ | .eptr _ _ _ | .mp _ | .dead | .cptr _ | .sub _ _ _ | .psub _ _ _ => none
    | v => some v

def renAll (ρ : Nat → Option Nat) (d : Nat) (l : List AV) : Option (List AV) :=
  l.foldr (fun x acc => match acc, ren ρ d x with
    | some ys, some y => some (y :: ys)
    | _, _ => none) (some [])

/-- Does a value lead to variables of the machine's own? -/
def hasPtr : Nat → AV → Bool
  | 0, _ => true
  | d + 1, a => match a with
    | .agg cs | .tup cs | .fn _ cs => cs.any (hasPtr d)
    | .ifc _ v => hasPtr d v
    | .ptr _ _ | .eptr _ _ _ | .mp _ | .dead | .cptr _ | .sub _ _ _ | .psub _ _ _ => true
    | _ => false

/-- Does a value hold no memory at all? -/
def flatV : Nat → AV → Bool
  | 0, _ => false
  | d + 1, a => match a with
    | .agg cs | .tup cs => cs.all (flatV d)
    | .bool _ | .int _ _ | .str _ | .nilp | .nilf | .nili | .nilm | .ub _ => true
    | .fn _ [] => true
    | .ifc _ v => flatV d v
    | .sl [] | .nils | .emp => true
    | _ => false

/-- Does a value hold no number of the machine's own? -/
def idFree : Nat → AV → Bool
  | 0, _ => false
  | d + 1, a => match a with
    | .agg cs | .tup cs | .fn _ cs => cs.all (idFree d)
    | .ifc _ v => idFree d v
    | .osl _ _ _ _ | .ptr _ _ | .eptr _ _ _ | .mp _ | .dead | .gs _ _ _ | .sub _ _ _ | .psub _ _ _ => false
    | _ => true

def DEEP : Nat := 12

def renHeap (ρ : Nat → Option Nat) (H : Heap) : List Nat → Option Eff
  | [] => some []
  | b :: r =>
    match ρ b, hget H b, renHeap ρ H r with
    | some c, some (.arr s xs), some R => match renAll ρ DEEP xs with
      | some ys => some ((c, some (.arr s ys)) :: R)
      | none => none
    | some c, some (.tarr t xs), some R => some ((c, some (.tarr t xs)) :: R)
    | some c, some (.deep xs q), some R => some ((c, some (.deep xs q)) :: R)
    | _, _, _ => none

/-- The place of a number in a row, from a first one on. -/
def placeIn (id : Nat) : List Nat → Nat → Option Nat
  | [], _ => none
  | a :: r, b => bif a.beq b then some id else placeIn (id + 1) r b

/-- A row of numbers, each once. -/
def once : List Nat → List Nat
  | [] => []
  | a :: r => let l := once r; bif isIn a l then l else a :: l

def bytesLt : List UInt8 → List UInt8 → Bool
  | _, [] => false
  | [], _ :: _ => true
  | a :: x, b :: y => a < b || (a == b && bytesLt x y)

def allFields (f : Fd → Option Bool) : List Fd → Option Bool
  | [] => some true
  | x :: xs => bif x.blank then allFields f xs else
    match f x with
    | some true => allFields f xs
    | some false => some false
    | none => none

def both (f : AV → AV → Option Bool) : Option AV → Option AV → Option Bool
  | some a, some b => f a b
  | _, _ => none

/-- '==' of slices: one of them nil. -/
def eqSl : AV → AV → Option Bool
  | .nils, .nils => some true
  | .nils, .sl (_ :: _) | .sl (_ :: _), .nils => some false
  | .nils, .nev | .nev, .nils => some false
  | .nils, .osl _ _ _ (_ + 1) | .osl _ _ _ (_ + 1), .nils => some false
  | _, _ => none

/-- '==' of pointers: one of them nil. -/
def eqPtr : AV → AV → Option Bool
  | .nilp, .nilp => some true
  | .nilp, .ptr _ _ | .ptr _ _, .nilp => some false
  | _, _ => none

/-- A number out of a range: is it that one? -/
def eqRng (k k' : IntKind) (lo hi b : Int) : Option Bool :=
  if k = k' then (if hi < b then some false else if b < lo then some false else none) else none

/-- A text out of all but some: is it that one? -/
def eqUs (l : List (List UInt8)) (b : List UInt8) : Option Bool := bif l.contains b then some false else none

/-- '==' of what is no struct. -/
def eqOne : TK → AV → AV → Option Bool
  | .bool, .bool a, .bool b => some (a == b)
  | .int _, .int k a, .int k' b => if k = k' then some (a == b) else none
  | .int _, .rng _ k lo hi, .int k' b => eqRng k k' lo hi b
  | .int _, .int k b, .rng _ k' lo hi => eqRng k k' lo hi b
  | .int _, .rng i k _ _, .rng j k' _ _ => if k = k' then (bif i.beq j then some true else none) else none
  | .str, .str a, .str b => some (a == b)
  | .str, .ustr _ l, .str b => eqUs l b
  | .str, .str b, .ustr _ l => eqUs l b
  | .str, .ustr i _, .ustr j _ => bif i.beq j then some true else none
  | .ptr, x, y => eqPtr x y
  | .slice _, x, y => eqSl x y
  | _, _, _ => none

/-- '==' at a type. -/
def aeq : Nat → TypeId → AV → AV → Option Bool
  | 0, _, _, _ => none
  | d + 1, t, x, y =>
    match T.ty.get t with
    | some i =>
      match i.k, x, y with
      | .struct fields, .agg xs, .agg ys =>
        bif i.cmp then allFields (fun f => both (aeq d f.ty) (takeT T f.ty xs f.off) (takeT T f.ty ys f.off)) fields else none
      | k, x, y => eqOne k x y
    | none => none

def intv (k : IntKind) (n : Int) : Option AV := some (.int k (k.wrap n))

def aint (op : BinOp) (k : IntKind) (x y : Int) : Option AV :=
  match op with
  | .add => intv k (x + y)
  | .sub => intv k (x - y)
  | .mul => intv k (x * y)
  | .quo => if y = 0 then none else intv k (x.tdiv y)
  | .rem => if y = 0 then none else some (.int k (x.tmod y))
  | .eql => some (.bool (x == y))
  | .neq => some (.bool (x != y))
  | .lss => some (.bool (x < y))
  | .leq => some (.bool (x ≤ y))
  | .gtr => some (.bool (x > y))
  | .geq => some (.bool (x ≥ y))
  | .and => intv k (BitVec.ofInt k.bits x &&& BitVec.ofInt k.bits y).toNat
  | .or => intv k (BitVec.ofInt k.bits x ||| BitVec.ofInt k.bits y).toNat
  | .xor => intv k (BitVec.ofInt k.bits x ^^^ BitVec.ofInt k.bits y).toNat
  | .andNot => intv k (BitVec.ofInt k.bits x &&& ~~~BitVec.ofInt k.bits y).toNat
  | _ => none

def ashift (op : BinOp) (k : IntKind) (x y : Int) : Option AV :=
  if y < 0 then none else
  match op with
  | .shl => intv k (x * 2 ^ (min y.toNat k.bits))
  | .shr => some (.int k (x.fdiv (2 ^ (min y.toNat k.bits))))
  | _ => none

def astr (op : BinOp) (x y : List UInt8) : Option AV :=
  match op with
  | .add => bif (x.length + y.length).ble 1099511627776 then some (.str (x ++ y)) else none
  | .eql => some (.bool (x == y))
  | .neq => some (.bool !(x == y))
  | .lss => some (.bool (bytesLt x y))
  | .leq => some (.bool (bytesLt x y || x == y))
  | .gtr => some (.bool !(bytesLt x y || x == y))
  | .geq => some (.bool !(bytesLt x y))
  | _ => none

def notO : Option Bool → Option AV
  | some b => some (.bool !b)
  | none => none
def yesO : Option Bool → Option AV
  | some b => some (.bool b)
  | none => none

def DEQ : Nat := 10

def aeqOp (op : BinOp) (t : TypeId) (x y : AV) : Option AV :=
  match op with
  | .eql => yesO (aeq T DEQ t x y)
  | .neq => notO (aeq T DEQ t x y)
  | _ => none

/-- A test of some number out of a range against one that is known. -/
def arng (op : BinOp) (lo hi b : Int) : Option AV :=
  match op with
  | .lss => if hi < b then some (.bool true) else if b ≤ lo then some (.bool false) else none
  | .leq => if hi ≤ b then some (.bool true) else if b < lo then some (.bool false) else none
  | .gtr => if b < lo then some (.bool true) else if hi ≤ b then some (.bool false) else none
  | .geq => if b ≤ lo then some (.bool true) else if hi < b then some (.bool false) else none
  | .eql => if hi < b then some (.bool false) else if b < lo then some (.bool false) else none
  | .neq => if hi < b then some (.bool true) else if b < lo then some (.bool true) else none
  | _ => none

def flipOp : BinOp → BinOp
  | .lss => .gtr
  | .leq => .geq
  | .gtr => .lss
  | .geq => .leq
  | .eql => .eql
  | .neq => .neq
  | _ => .add

/-- A test of what is one and the same. -/
def asame : BinOp → Option AV
  | .eql | .leq | .geq => some (.bool true)
  | .neq | .lss | .gtr => some (.bool false)
  | _ => none

/-- A test of two texts that are told apart, or not. -/
def aeqs (op : BinOp) (r : Option Bool) : Option AV :=
  match op with
  | .eql => yesO r
  | .neq => notO r
  | _ => none

/-! Numbers a·x + c, where x is an unknown out of a range. -/

def linLo (a c lo hi : Int) : Int := if 0 ≤ a then a * lo + c else a * hi + c
def linHi (a c lo hi : Int) : Int := if 0 ≤ a then a * hi + c else a * lo + c

def mkLin (i : Nat) (a c lo hi : Int) : Option AV :=
  if -9223372036854775808 ≤ linLo a c lo hi then (if linHi a c lo hi ≤ 9223372036854775807 then
    (if a = 0 then some (.int .i64 c) else some (.lin i a c lo hi)) else none) else none

def linDiv (a c lo b : Int) : Bool := decide (0 < b) && (decide (0 ≤ lo) && (decide (0 ≤ c) && (decide (0 ≤ a) && decide (a % b = 0))))

def alinI (op : BinOp) (i : Nat) (a c lo hi b : Int) : Option AV :=
  match op with
  | .add => mkLin i a (c + b) lo hi
  | .sub => mkLin i a (c - b) lo hi
  | .quo => bif linDiv a c lo b then mkLin i (a / b) (c / b) lo hi else none
  | .rem => bif linDiv a c lo b then some (.int .i64 (c % b)) else none
  | op => arng op (linLo a c lo hi) (linHi a c lo hi) b

def aIlin (op : BinOp) (b : Int) (i : Nat) (a c lo hi : Int) : Option AV :=
  match op with
  | .add => mkLin i a (b + c) lo hi
  | .sub => mkLin i (-a) (b - c) lo hi
  | op => arng (flipOp op) (linLo a c lo hi) (linHi a c lo hi) b

def alinL (op : BinOp) (i : Nat) (a c a' c' lo hi : Int) : Option AV :=
  match op with
  | .add => mkLin i (a + a') (c + c') lo hi
  | .sub => mkLin i (a - a') (c - c') lo hi
  | op => arng op (linLo (a - a') (c - c') lo hi) (linHi (a - a') (c - c') lo hi) 0

def abin (op : BinOp) (t : TypeId) (x y : AV) : Option AV :=
  match x, y with
  | .lin i a c lo hi, .int k b => if k = .i64 then alinI op i a c lo hi b else none
  | .int k b, .lin i a c lo hi => if k = .i64 then aIlin op b i a c lo hi else none
  | .lin i a c lo hi, .lin j a' c' _ _ => bif i.beq j then alinL op i a c a' c' lo hi else none
  | .lin _ _ _ _ _, .rng _ _ _ _ => none
  | .rng _ _ _ _, .lin _ _ _ _ _ => none
  | .rng _ k lo hi, .int k' b => if k = k' then arng op lo hi b else none
  | .int k b, .rng _ k' lo hi => if k = k' then arng (flipOp op) lo hi b else none
  | .rng i k _ _, .rng j k' _ _ => if k = k' then (bif i.beq j then asame op else none) else none
  | .ustr _ l, .str b => aeqs op (eqUs l b)
  | .str b, .ustr _ l => aeqs op (eqUs l b)
  | .ustr i _, .ustr j _ => aeqs op (bif i.beq j then some true else none)
  | .int k a, .int k' b =>
    match op with
    | .shl | .shr => ashift op k a b
    | _ => if k = k' then aint op k a b else none
  | .str a, .str b => astr op a b
  | x, y => aeqOp T op t x y

def aun (op : UnOp) (x : AV) : Option AV :=
  match op, x with
  | .neg, .int k n => intv k (0 - n)
  | .not, .bool b => some (.bool !b)
  | .xor, .int k n => aint .xor k (if k.signed then -1 else k.max) n
  | _, _ => none

/-- A length that the machine bears. -/
def room (n bytes : Nat) : Bool := (n * (bytes + 1)).ble 1099511627776

/-- A key of a map: found among its entries. -/
def akey : List (AV × AV) → AV → Nat → Option (Option (Nat × AV))
  | [], .int _ _, _ => some none
  | [], .str _, _ => some none
  | (.int j a, v) :: r, .int k b, n => if j = k then (if a = b then some (some (n, v)) else akey r (.int k b) (n + 1)) else none
  | (.str a, v) :: r, .str b, n => if a = b then some (some (n, v)) else akey r (.str b) (n + 1)
  | _, _, _ => none

/-- The types of a map whose keys are numbers or texts. -/
def mapT (t : TypeId) : Option (TypeId × TypeId) :=
  match kindOf T t with
  | .map k e =>
    match kindOf T k with
    | .int _ => some (k, e)
    | .str => some (k, e)
    | _ => none
  | _ => none

def mapOf (H : Heap) : AV → Option (List (AV × AV))
  | .nilm => some []
  | .mp b => match hget H b with
    | some (.map es) => some es
    | _ => none
  | _ => none

def keyFits : TK → AV → Bool
  | .int _, .int _ _ => true
  | .str, .str _ => true
  | _, _ => false

def found (ok : Bool) (z : AV) : Option (Option (Nat × AV)) → Option AV
  | some (some p) => some (bif ok then .tup [p.2, .bool true] else p.2)
  | some none => some (bif ok then .tup [z, .bool false] else z)
  | none => none

def alookup (H : Heap) (t : TypeId) (x k : AV) (ok : Bool) : Option AV :=
  match mapT T t with
  | some ke =>
    match zeroOf T ke.2, mapOf H x with
    | some z, some es => bif keyFits (kindOf T ke.1) k then found ok z (akey es k 0) else none
    | _, _ => none
  | none => none

def amapUpdate (H : Heap) (F : List Nat) (t : TypeId) (x k v : AV) : Option (Nat × AObj) :=
  match mapT T t, x with
  | some ke, .mp b =>
    match hlive H F b with
    | some (.map es) => bif keyFits (kindOf T ke.1) k then
        match akey es k 0 with
        | some (some p) => some (b, .map (es.set p.1 (k, v)))
        | some none => some (b, .map (es ++ [(k, v)]))
        | none => none
      else none
    | _ => none
  | _, _ => none

inductive Ans where
  | no
  | ok (v : AV) (H : Heap) (F : List Nat) (nx : Nat)

/-- What an operation answers: a value, what it does to the heap, what it read there, what is frozen; 'all': the whole heap anew. -/
inductive Res where
  | no
  | ok (v : AV) (e : Eff) (rd fz : List Nat)
  | all (v : AV) (H : Heap) (F : List Nat) (nx : Nat)

def rv (v : AV) : Res := .ok v [] [] []
def ro : Option AV → Res
  | some v => .ok v [] [] []
  | none => .no
def rr (rd : List Nat) : Option AV → Res
  | some v => .ok v [] rd []
  | none => .no
/-- A write. -/
def rw (v : AV) (rd : List Nat) : Option (Nat × AObj) → Res
  | some p => .ok v [(p.1, some p.2)] rd []
  | none => .no

def isByte (t : TypeId) : Bool :=
  match kindOf T t with
  | .int .u8 => true
  | _ => false

def toBytes : List AV → Option (List UInt8)
  | [] => some []
  | .int .u8 n :: r => match toBytes r with
    | some s => some (UInt8.ofNat n.toNat :: s)
    | none => none
  | _ => none

def toStr (H : Heap) (e : TypeId) (x : AV) : Res :=
  bif isByte T e then
    match elems H x with
    | some xs => match toBytes xs with
      | some s => .ok (.str s) [] (idOf x) []
      | none => .no
    | none => .no
  else .no

def ofStr (id : Nat) (e : TypeId) (s : List UInt8) : Res :=
  bif isByte T e && s.length.ble 1099511627776 then
      .ok (.osl 1 id 0 s.length) [(id, some (.arr 1 (s.map byteV)))] [] [] else .no

def strOf (H : Heap) (src : TypeId) (x : AV) : Res :=
  match kindOf T src with
  | .str => match x with
    | .str s => rv (.str s)
    | _ => .no
  | .slice e => match x with
    | .str _ => .no
    | x => toStr T H e x
  | _ => .no

/-- An array that is written anew as it is. -/
def keptArr (H : Heap) (F : List Nat) (v : AV) (b : Nat) : Res :=
  match hlive H F b with
  | some (.arr m xs) => bif m.beq 1 then .ok v [(b, some (.arr m xs))] [b] [] else .no
  | _ => .no

def bytesOfStr (H : Heap) (F : List Nat) (id : Nat) (src dst e : TypeId) (x : AV) : Res :=
  match kindOf T src, x with
  | .str, .str s => ofStr T id e s
  | .slice _, .osl s b lo (n + 1) => bif src.beq dst && isByte T e then keptArr H F (.osl s b lo (n + 1)) b else .no
  | _, _ => .no

def intOf (k : IntKind) (src : TypeId) (x : AV) : Res :=
  match kindOf T src, x with
  | .int _, .int _ n => ro (intv k n)
  | _, _ => .no

def aconvert (H : Heap) (F : List Nat) (id : Nat) (src dst : TypeId) (x : AV) : Res :=
  match kindOf T dst with
  | .int k => intOf T k src x
  | .str => strOf T H src x
  | .slice e => bytesOfStr T H F id src dst e x
  | _ => .no

/-- What is appended. -/
def appended (H : Heap) (z : AV) (xt : TypeId) (x : AV) : Option (List AV) :=
  match kindOf T xt with
  | .int _ => match x with
    | .int _ (.ofNat k) => bif k.ble 1099511627776 then some (List.replicate k z) else none
    | _ => none
  | .str => elems H x
  | .slice _ => elems H x
  | _ => none

def newArr (id s : Nat) (xs : List AV) (n : Nat) (e : Eff) (rd : List Nat) : Res := .ok (.osl s id 0 n) ((id, some (.arr s xs)) :: e) rd []

def appendTo (H : Heap) (F : List Nat) (id n by_ : Nat) (rd : List Nat) (ys : List AV) (s b lo len : Nat) : Res :=
  match hlive H F b with
  | some (.arr m xs) =>
    bif m.beq n && s.beq n && (lo + len).ble xs.length && room (len + ys.length) by_ then
      bif (lo + len + ys.length).ble xs.length then
        .ok (.osl s b lo (len + ys.length)) [(b, some (.arr m (xs.take (lo + len) ++ ys ++ xs.drop (lo + len + ys.length))))] rd []
      else newArr id n ((xs.drop lo).take len ++ ys) (len + ys.length) [(b, none)] rd
    else .no
  | _ => .no

/-- Onto a row of data that may be none. -/
def appendGs (H : Heap) (F : List Nat) (id n by_ : Nat) (rd : List Nat) (ys : List AV) (g : GT) (b len : Nat) : Res :=
  match hlive H F b with
  | some (.tarr g' l) =>
    bif len.beq l.length && g.size.beq n && g'.size.beq n && room (len + ys.length) by_ && !(b.beq id) then
      match ys with
      | [] => .ok (.gs g id len) [(id, some (.tarr g' l)), (b, none)] rd []
      | y :: r => .ok (.gs g id (len + (y :: r).length)) [(id, some (.arr n (encs g' l ++ (y :: r)))), (b, none)] rd []
    else .no
  | _ => .no

def appendV (H : Heap) (F : List Nat) (id n by_ : Nat) (rd : List Nat) (s : AV) (ys : List AV) : Res :=
  match ys, s with
  | [], .nils => .ok .nils [] rd []
  | [], .emp => .ok .emp [] rd []
  | [], .sl xs => .ok (.sl xs) [] rd []
  | [], .osl s b lo len => .ok (.osl s b lo len) [] rd []
  | _ :: _, .nils => bif room ys.length by_ then newArr id n ys ys.length [] rd else .no
  | _ :: _, .emp => bif room ys.length by_ then newArr id n ys ys.length [] rd else .no
  | _ :: _, .osl s b lo len => appendTo H F id n by_ rd ys s b lo len
  | ys, .gs g b len => appendGs H F id n by_ rd ys g b len
  | _, _ => .no

def aappend (H : Heap) (F : List Nat) (id : Nat) (ts : List TypeId) (s x : AV) : Res :=
  match ts with
  | st :: xt :: _ =>
    match elemT T st with
    | some e =>
      match bytesOf T e.1, appended T H e.2.2 xt x with
      | some by_, some ys => bif ys.all (fitsN e.2.1) then appendV H F id e.2.1 by_ (idOf s ++ idOf x) s ys else .no
      | _, _ => .no
    | none => .no
  | _ => .no

def copyTo (H : Heap) (F : List Nat) (n : Nat) (rd : List Nat) (ys : List AV) (s b lo len : Nat) : Res :=
  match hlive H F b with
  | some (.arr m xs) =>
    bif m.beq n && s.beq n && (lo + len).ble xs.length then
      .ok (.int .i64 (min ys.length len : Nat)) [(b, some (.arr m (xs.take lo ++ ys.take (min ys.length len) ++ xs.drop (lo + min ys.length len))))] rd []
    else .no
  | _ => .no

def acopy (H : Heap) (F : List Nat) (ts : List TypeId) (d x : AV) : Res :=
  match ts with
  | dt :: _ =>
    match elemT T dt, elems H x with
    | some e, some ys =>
      bif ys.all (fitsN e.2.1) then
        match d with
        | .nils | .emp => .ok (.int .i64 0) [] (idOf x) []
        | .osl s b lo len => copyTo H F e.2.1 (idOf d ++ idOf x) ys s b lo len
        | _ => .no
      else .no
    | _, _ => .no
  | [] => .no

def clearTo (H : Heap) (F : List Nat) (n : Nat) (z : AV) (rd : List Nat) (s b lo len : Nat) : Res :=
  match hlive H F b with
  | some (.arr m xs) =>
    bif m.beq n && s.beq n && (lo + len).ble xs.length then
      .ok (.tup []) [(b, some (.arr m (xs.take lo ++ List.replicate len z ++ xs.drop (lo + len))))] rd []
    else .no
  | _ => .no

def aclear (H : Heap) (F : List Nat) (ts : List TypeId) (x : AV) : Res :=
  match ts with
  | t :: _ =>
    match elemT T t with
    | some e => match x with
      | .osl s b lo len => clearTo H F e.2.1 e.2.2 (idOf x) s b lo len
      | _ => .no
    | none => .no
  | [] => .no

def alen (t : TypeId) (H : Heap) (x : AV) : Option AV :=
  match kindOf T t, x with
  | .str, .str s => some (.int .i64 s.length)
  | .slice _, .nils => some (.int .i64 0)
  | .slice _, .emp => some (.int .i64 0)
  | .slice _, .nev => some (.int .i64 0)
  | .slice _, .sl xs => some (.int .i64 xs.length)
  | .slice _, .osl _ _ _ len => some (.int .i64 len)
  | .slice _, .gs _ _ n => some (.int .i64 n)
  | .slice _, .tl _ xs => some (.int .i64 xs.length)
  | .map _ _, x => match mapOf H x with
    | some es => some (.int .i64 es.length)
    | none => none
  | .array n _, _ => some (.int .i64 n)
  | _, _ => none

def acap (t : TypeId) (x : AV) : Option AV :=
  match kindOf T t, x with
  | .slice _, .nils => some (.int .i64 0)
  | .slice _, .emp => some (.int .i64 0)
  | _, _ => none

def amax : Int → List AV → Option Int
  | a, [] => some a
  | a, .int _ b :: r => amax (if b > a then b else a) r
  | _, _ => none

def amin : Int → List AV → Option Int
  | a, [] => some a
  | a, .int _ b :: r => amin (if b < a then b else a) r
  | _, _ => none

def intO (k : IntKind) : Option Int → Option AV
  | some n => some (.int k n)
  | none => none

def maxO (k : IntKind) (n : Int) (xs : List AV) : Option AV :=
  match xs with
  | [.lin i a c lo hi] => if n ≤ linLo a c lo hi then (if k = .i64 then some (.lin i a c lo hi) else none) else none
  | xs => intO k (amax n xs)

def abuiltin (H : Heap) (F : List Nat) (id : Nat) (b : Builtin) (ts : List TypeId) (args : List AV) : Res :=
  match b, args with
  | .len, [x] => match ts with
    | t :: _ => rr (idOf x) (alen T t H x)
    | [] => .no
  | .append, [s, x] => aappend T H F id ts s x
  | .copy, [d, x] => acopy T H F ts d x
  | .clear, [x] => aclear T H F ts x
  | .cap, [x] => match ts with
    | t :: _ => ro (acap T t x)
    | [] => .no
  | .max, .int k n :: xs => ro (maxO k n xs)
  | .min, .int k n :: xs => ro (intO k (amin n xs))
  | _, _ => .no

/-- The arguments of a call, taken whole. -/
def resolveAll (nz : Bool) (H : Heap) : List AV → Option (List AV × List Nat)
  | [] => some ([], [])
  | a :: r => match resolve nz H DEEP a, resolveAll nz H r with
    | some x, some y => some (x.1 :: y.1, x.2 ++ y.2)
    | _, _ => none

/-- What is known of functions: those that a contract tells; those whose answer is taken with what it owns; those for which a nil slice is one; those that work on their caller's own arrays. -/
structure Cfg where
  prim : FuncId → Option (List AV → Option (AV × Heap))
  keep : FuncId → Bool
  exact : FuncId → Bool
  share : FuncId → Bool
  look : FuncId → Bool := fun _ => false
  tell : Bool := false
  primH : FuncId → Option (List AV → Heap → List Nat → Nat → Option (AV × Heap × List Nat × Nat)) := fun _ => none

structure Env where
  T : Tabs
  cfg : Cfg
  call : FuncId → List AV → Heap → List Nat → Nat → Ans

structure St where
  fr : Fr
  H : Heap
  F : List Nat
  nx : Nat

def STRIDE : Nat := 64

/-- The numbers that a contract may use. -/
def WIDE : Nat := 65536

/-- Of some numbers, the new ones of those that are written no more. -/
def still (ρ : Nat → Option Nat) (F : List Nat) : List Nat → List Nat
  | [] => []
  | b :: r => bif isIn b F then (match ρ b with
    | some c => c :: still ρ F r
    | none => still ρ F r) else still ρ F r

/-- The answer of a call by trees, with what it owns. -/
def keepAns (id : Nat) (ids : List Nat) (H' : Heap) (F' : List Nat) (v : AV) (is : List Nat) : Res :=
  bif is.length.ble STRIDE then
    match ren (placeIn id is) DEEP v, renHeap (placeIn id is) H' is with
    | some r, some R => .ok r R ids (still (placeIn id is) F' is ++ ids)
    | _, _ => .no
  else .no

def pureAns (keep : Bool) (id : Nat) (ids : List Nat) : Ans → Res
  | .ok v H' F' _ =>
    bif keep then keepAns id ids H' F' v (once (reach H' DEEP v))
    else match resolve true H' DEEP v with
      | some r => .ok r.1 [] ids (bif flatV DEEP r.1 then [] else ids)
      | none => .no
  | .no => .no

def below (nx : Nat) : Heap → Heap
  | [] => []
  | p :: r => bif p.1.blt nx then p :: below nx r else below nx r

def sharedAns (nx : Nat) : Ans → Res
  | .ok v H' F' nx' => bif idFree DEEP v then .all v (below nx H') F' nx' else .all v H' F' nx'
  | .no => .no

/-- A call: by trees alone where no argument leads to a variable; else over the caller's own variables. -/
def acallOp (E : Env) (s : St) (id : Nat) (f : FuncId) (args : List AV) : Res :=
  bif (args.any (hasPtr DEEP) && !E.cfg.look f) || E.cfg.share f then sharedAns s.nx (E.call f args s.H s.F s.nx)
  else
    match resolveAll (!E.cfg.exact f) s.H args with
    | some p => pureAns (E.cfg.keep f) id p.2 (E.call f p.1 [] [] 0)
    | none => .no

def acallee (E : Env) (s : St) (id : Nat) (f : AV) (args : List AV) : Res :=
  match f with
  | .fn g caps => acallOp E s id g (args ++ caps)
  | _ => .no

/-- Does a value hold rows of one's own? -/
def ownC : AV → Bool
  | .gs _ _ _ => true
  | .osl _ _ _ _ => true
  | _ => false

def ownV : AV → Bool
  | .agg cs => cs.any ownC
  | v => ownC v

/-- Elements as data; those that hold rows are taken whole, if these are written no more. -/
def rowData (H : Heap) (F : List Nat) (id : Nat) (g : GT) (ys : List AV) : Option (List g.T × List Nat) :=
  bif ys.any ownV then
    (match resolveAll true H ys with
    | some p => bif p.2.all (fun b => isIn b F && !(b.beq id)) then
        (match decAll (dec g) p.1 with
        | some zs => some (zs, p.2)
        | none => none) else none
    | none => none)
  else (match decAll (dec g) ys with
    | some zs => some (zs, [])
    | none => none)

/-- The elements that are appended, as data. -/
def dataOf (H : Heap) (F : List Nat) (id : Nat) (g : GT) (x : AV) : Option (List g.T × List Nat) :=
  match x with
  | .tl g' xs => (match listOf g (dec g) (.tl g' xs) with
    | some zs => some (zs, [])
    | none => none)
  | x => match elems H x with
    | some ys => rowData H F id g ys
    | none => none

/-- Data appended to nothing: a row of data, which may be none. -/
def tellNil (id : Nat) (x : AV) (r : Res) : Res :=
  match x with
  | .tl g xs => match r with
    | .ok _ _ rd fz => .ok (.gs g id xs.length) [(id, some (.tarr g xs))] rd fz
    | r => r
  | _ => r

/-- Do the elements that are appended hold rows? -/
def nested (H : Heap) (x : AV) : Bool :=
  match x with
  | .tl _ _ => false
  | x => match elems H x with
    | some ys => ys.any ownV
    | none => false

/-- A row of data that was appended to, told as data again. -/
def tellRow (g' : GT) (l : List g'.T) (zs : List g'.T × List Nat) : Res → Option Res
  | .ok v [(i, some (.arr _ _)), (b', none)] rd fz => some (.ok v [(i, some (.tarr g' (l ++ zs.1))), (b', none)] (rd ++ zs.2) fz)
  | _ => none

def tellApp (id : Nat) (H : Heap) (F : List Nat) (s x : AV) (r : Res) : Res :=
  match s with
  | .nils => tellNil id x r
  | .emp => tellNil id x r
  | .gs _ b _ => match hlive H F b with
    | some (.tarr g' l) => match dataOf H F id g' x with
      | some zs => match tellRow g' l zs r with
        | some q => q
        | none => bif nested H x then .no else r
      | none => bif nested H x then .no else r
    | _ => r
  | _ => r

def tellB (tell : Bool) (id : Nat) (H : Heap) (F : List Nat) (b : Builtin) (args : List AV) (r : Res) : Res :=
  bif tell then (match b, args with
    | .append, [s, x] => tellApp id H F s x r
    | _, _ => r) else r

def opCall (E : Env) (s : St) (id : Nat) (c : Call) : Res :=
  match c.callee with
  | .builtin b => tellB E.cfg.tell id s.H s.F b (opnds s.fr c.args.toList) (abuiltin E.T s.H s.F id b c.argTypes.toList (opnds s.fr c.args.toList))
  | .value f => acallee E s id (opnd s.fr f) (opnds s.fr c.args.toList)
  | .invoke _ _ => .no

def opPick (c a b : AV) : Res :=
  match c with
  | .bool t => rv (bif t then a else b)
  | _ => .no

def newCells (id : Nat) (v : AV) : Res :=
  bif v.fits then .ok (.ptr id 0) [(id, some (.cells v.cells))] [] [] else .no

def opAlloc (E : Env) (id : Nat) (t : TypeId) : Res :=
  match zeroOf E.T t with
  | some z => newCells id z
  | none => .no

def opBuildSlice (E : Env) (id : Nat) (t : TypeId) (len : Nat) (ps : List (Nat × AV)) : Res :=
  match elemT E.T t with
  | some e =>
    bif len.beq 0 then (match ps with
      | [] => rv .emp
      | _ => .no)
    else bif (len * e.2.1).ble 16777216 then
      match fillE e.2.1 (List.replicate len e.2.2) ps with
      | some xs => newArr id e.2.1 xs len [] []
      | none => .no
    else .no
  | none => .no

/-- A row of noughts; bytes are told as data, where rows are told. -/
def zRow (tell : Bool) (s : Nat) (z : AV) (m : Nat) : AObj :=
  bif tell then (match z with
    | .int .u8 (.ofNat 0) => bif s.beq 1 then .tarr .u8 (List.replicate m 0) else .arr s (List.replicate m z)
    | z => .arr s (List.replicate m z)) else .arr s (List.replicate m z)

def opMakeSlice (E : Env) (id : Nat) (t : TypeId) (l c : AV) : Res :=
  match elemT E.T t, l, c with
  | some e, .int _ (.ofNat n), .int _ (.ofNat m) =>
    match bytesOf E.T e.1 with
    | some by_ => bif n.ble m && m.ble 1099511627776 && room m by_ then .ok (.osl e.2.1 id 0 n) [(id, some (zRow E.cfg.tell e.2.1 e.2.2 m))] [] [] else .no
    | none => .no
  | _, _, _ => .no

def opNilCheck : AV → Res
  | .ptr b o => rv (.ptr b o)
  | .eptr b i o => rv (.eptr b i o)
  | .cptr v => rv (.cptr v)
  | .fn f c => rv (.fn f c)
  | _ => .no

def opMakeInterface (E : Env) (t : TypeId) (x : AV) : Res :=
  match kindOf E.T t with
  | .iface => .no
  | .other => .no
  | _ => rv (.ifc t x)

def opMakeMap (E : Env) (id : Nat) (t : TypeId) : Option AV → Res
  | none => match mapT E.T t with
    | some _ => .ok (.mp id) [(id, some (.map []))] [] []
    | none => .no
  | some _ => .no

def opExtract (i : Nat) : AV → Res
  | .tup vs => ro vs[i]?
  | _ => .no

def opMakeFunc : Fn → List Operand → List AV → Res
  | .func f, [], caps => rv (.fn f caps)
  | _, _, _ => .no

def mapO (fr : Fr) : Option Operand → Option AV
  | some x => some (opnd fr x)
  | none => none

/-- One operation. 'id': the first of its own numbers. -/
def aop (E : Env) (s : St) (id : Nat) : Op → Res
  | .move x => rv (opnd s.fr x)
  | .assign x => rv (opnd s.fr x)
  | .pick c a b => opPick (opnd s.fr c) (opnd s.fr a) (opnd s.fr b)
  | .alloc t => opAlloc E id t
  | .box _ x => newCells id (opnd s.fr x)
  | .build t ps => ro (abuild E.T t (parts s.fr ps.toList))
  | .buildSlice t len ps => opBuildSlice E id t len (parts s.fr ps.toList)
  | .load t a => rr (idOf (opnd s.fr a)) (aload E.T s.H t (opnd s.fr a))
  | .store t a x => rw und (idOf (opnd s.fr a)) (astore E.T s.H s.F t (opnd s.fr a) (opnd s.fr x))
  | .nilCheck x => opNilCheck (opnd s.fr x)
  | .binOp op t x y _ => ro (abin E.T op t (opnd s.fr x) (opnd s.fr y))
  | .unOp op _ x => ro (aun op (opnd s.fr x))
  | .convert a b x => aconvert E.T s.H s.F id a b (opnd s.fr x)
  | .makeInterface t x => opMakeInterface E t (opnd s.fr x)
  | .makeFunc fn first caps => opMakeFunc fn first.toList (opnds s.fr caps.toList)
  | .makeMap t r => opMakeMap E id t (mapO s.fr r)
  | .makeSlice t l c => opMakeSlice E id t (opnd s.fr l) (opnd s.fr c)
  | .slice t x lo hi mx => ro (aslice E.T t (opnd s.fr x) (mapO s.fr lo) (mapO s.fr hi) (mapO s.fr mx))
  | .fieldAddr t x f => ro (afieldAddr E.T t (opnd s.fr x) f)
  | .field t x f => ro (afield E.T t (opnd s.fr x) f)
  | .indexAddr t x i => ro (aindexAddr E.T t (opnd s.fr x) (opnd s.fr i))
  | .index t x i => ro (aindex E.T t (opnd s.fr x) (opnd s.fr i))
  | .lookup t x i ok => rr (idOf (opnd s.fr x)) (alookup E.T s.H t (opnd s.fr x) (opnd s.fr i) ok)
  | .mapUpdate t m k x => rw und (idOf (opnd s.fr m)) (amapUpdate E.T s.H s.F t (opnd s.fr m) (opnd s.fr k) (opnd s.fr x))
  | .insert t m k x => rw und (idOf (opnd s.fr m)) (amapUpdate E.T s.H s.F t (opnd s.fr m) (opnd s.fr k) (opnd s.fr x))
  | .extract t i => opExtract i (opnd s.fr t)
  | .call c => opCall E s id c
  | _ => .no

def put (fr : Fr) (dst : Option Tmp) (v : AV) : Fr :=
  match dst with
  | some d => fr.set d v
  | none => fr

def guardIs (want : Bool) : AV → Option Bool
  | .bool b => some (b == want)
  | .tup [] => some false
  | _ => none

def guardTmp (ops : List Oper) (j : Nat) : Option Tmp :=
  match ops[j]? with
  | some o => o.dst
  | none => none

/-- Is an operation wanted? 'none': it can't be told. -/
def awanted (ops : List Oper) (g : Option (Nat × Bool)) (fr : Fr) : Option Bool :=
  match g with
  | none => some true
  | some p =>
    match guardTmp ops p.1 with
    | some d => guardIs p.2 (fr.get d)
    | none => none

inductive AX where
  | normal
  | exit (id : Nat)
  | ret

inductive Out where
  | no
  | go (x : AX) (s : St)

inductive OSt where
  | no
  | at (s : St)

/-- The state behind an operation. -/
def behind (s : St) (dst : Option Tmp) : Res → OSt
  | .ok v e _ fz => .at ⟨put s.fr dst v, happ s.H e, fz ++ s.F, s.nx⟩
  | .all v H F nx => .at ⟨put s.fr dst v, H, F, nx⟩
  | .no => .no

def stepOp (E : Env) (ops : List Oper) (id : Nat) (o : Oper) (s : St) : OSt :=
  match awanted ops o.guard s.fr with
  | some true => behind s o.dst (aop E s id o.op)
  | some false => .at { s with fr := put s.fr o.dst und }
  | none => .no

def seqOps (E : Env) (ops : List Oper) : List Oper → Nat → St → OSt
  | [], _, s => .at s
  | o :: r, id, s => match stepOp E ops id o s with
    | .at s' => seqOps E ops r (id + STRIDE) s'
    | .no => .no

/-- What an operation of a region that draws its order reads and writes in the heap; 'bar': it has the heap for itself. -/
structure Foot where
  rd : List Nat
  wr : List Nat
  bar : Bool

inductive DSt where
  | no
  | at (s : St) (fs : List Foot)

def disj (a b : List Nat) : Bool := a.all fun x => !isIn x b

def behindD (s : St) (dst : Option Tmp) : Res → DSt
  | .ok v e rd fz => bif fz.all (isIn · s.F) then .at ⟨put s.fr dst v, happ s.H e, s.F, s.nx⟩ [⟨rd, e.map (·.1), false⟩] else .no
  | .all v H F nx => .at ⟨put s.fr dst v, H, F, nx⟩ [⟨[], [], true⟩]
  | .no => .no

def stepD (E : Env) (ops : List Oper) (id : Nat) (o : Oper) (s : St) : DSt :=
  match awanted ops o.guard s.fr with
  | some true => behindD s o.dst (aop E s id o.op)
  | some false => .at { s with fr := put s.fr o.dst und } [⟨[], [], false⟩]
  | none => .no

def seqD (E : Env) (ops : List Oper) : List Oper → Nat → St → List Foot → DSt
  | [], _, s, fs => .at s fs
  | o :: r, id, s, fs => match stepD E ops id o s with
    | .at s' f => seqD E ops r (id + STRIDE) s' (fs ++ f)
    | .no => .no

/-- What comes ahead of an operation in each order: a row of bits. -/
def addBits (acc : List Nat) : List Edge → Nat → Nat
  | [], b => b
  | e :: r, b => bif Region.binds .any e && e.on.blt acc.length then addBits acc r (b ||| 2 ^ e.on ||| acc.getD e.on 0) else addBits acc r b

def befL : List Oper → List Nat → List Nat
  | [], acc => acc
  | o :: r, acc => befL r (acc ++ [addBits acc o.after.toList 0])

def footOk (f g : Foot) : Bool := bif f.bar || g.bar then false else disj f.wr (g.rd ++ g.wr) && disj g.wr f.rd

/-- Each two operations touch different things, or their order is the same in each order. -/
def feetOk1 (f : Foot) (i : Nat) : List Foot → List Nat → Bool
  | g :: r, b :: bs => (b.testBit i || footOk f g) && feetOk1 f i r bs
  | [], _ => true
  | _, _ => false

def feetOk : List Foot → List Nat → Nat → Bool
  | f :: r, _ :: bs, i => feetOk1 f i r bs && feetOk r bs (i + 1)
  | [], _, _ => true
  | _, _, _ => false

def tmpsOf : List Operand → List Tmp
  | [] => []
  | .tmp t :: r => t :: tmpsOf r
  | _ :: r => tmpsOf r

def optL : Option Tmp → List Tmp
  | some t => [t]
  | none => []

def guardL (ops : List Oper) : Option (Nat × Bool) → List Tmp
  | some p => optL (guardTmp ops p.1)
  | none => []

/-- The slots that an operation reads; the one that it writes. -/
def slotsOf (ops : List Oper) (o : Oper) : Foot := ⟨tmpsOf o.op.operands.toList ++ guardL ops o.guard, optL o.dst, false⟩

/-- Each edge leads back. -/
def edgesLow : List Oper → Nat → Bool
  | [], _ => true
  | o :: r, i => (o.after.toList.all fun e => !Region.binds .any e || e.on.blt i) && edgesLow r (i + 1)

def drawOk (ops : List Oper) : Bool := edgesLow ops 0 && feetOk (ops.map (slotsOf ops)) (befL ops []) 0

def drawn (ops : List Oper) : DSt → Out
  | .at s fs => bif feetOk fs (befL ops []) 0 then .go .normal s else .no
  | .no => .no

def goN : OSt → Out
  | .at s => .go .normal s
  | .no => .no

def withF (s : St) (F : List Nat) (n : Nat) : St := ⟨s.fr, s.H, F, s.nx + STRIDE * n⟩

/-- Some numbers are written no more from the first on. -/
def drawTry (E : Env) (ops : List Oper) (s : St) (X : List Nat) : Out := drawn ops (seqD E ops ops s.nx (withF s (X ++ s.F) ops.length) [])

def drawAgain (E : Env) (ops : List Oper) (s : St) (run : List Oper → Nat → St → OSt) : Out → Out
  | .go x s' => .go x s'
  | .no => match run ops s.nx (withF s s.F ops.length) with
    | .at s1 => drawTry E ops s (s1.F.take (s1.F.length - s.F.length))
    | .no => .no

def aregion (E : Env) (ops : List Oper) (draw : Bool) (s : St) : Out :=
  bif draw then drawAgain E ops s (seqOps E ops) (drawTry E ops s []) else goN (seqOps E ops ops s.nx (withF s s.F ops.length))

def iter (body : St → Out) : Nat → St → Out
  | 0, _ => .no
  | n + 1, s => match body s with
    | .go .normal s' => iter body n s'
    | r => r

def thenO (next : St → Out) : Out → Out
  | .go .normal s => next s
  | r => r

def blockO (id : Nat) : Out → Out
  | .go (.exit k) s => bif k.beq id then .go .normal s else .go (.exit k) s
  | r => r

def exec (E : Env) (n : Nat) : Code → St → Out
  | .skip, s => .go .normal s
  | .label _, s => .go .normal s
  | .region _ ops draw, s => aregion E ops.toList draw s
  | .seq a b, s => thenO (exec E n b) (exec E n a s)
  | .cond c a b, s => match opnd s.fr c with
    | .bool true => exec E n a s
    | .bool false => exec E n b s
    | _ => .no
  | .block id b, s => blockO id (exec E n b s)
  | .loop b, s => iter (exec E n b) n s
  | .exit id, s => .go (.exit id) s
  | .ret, s => .go .ret s
  | _, _ => .no

def aresult (T : Tabs) (fr : Fr) (H : Heap) : List ResultVar → Option (List AV)
  | [] => some []
  | .tmp t :: r => match aresult T fr H r with
    | some vs => some (fr.get t :: vs)
    | none => none
  | .cell a t :: r => match aload T H t (fr.get a), aresult T fr H r with
    | some v, some vs => some (v :: vs)
    | _, _ => none

def oneOf : List AV → AV
  | [v] => v
  | vs => .tup vs

def ansOf (T : Tabs) (rs : List ResultVar) (s : St) : Ans :=
  match aresult T s.fr s.H rs with
  | some vs => .ok (oneOf vs) s.H s.F s.nx
  | none => .no

def ended (T : Tabs) (rs : List ResultVar) : Out → Ans
  | .go .normal s => ansOf T rs s
  | .go .ret s => ansOf T rs s
  | _ => .no

/-- Each slot that is written is one of the frame's. -/
def dstsOk (n : Nat) : List Oper → Bool
  | [] => true
  | o :: r => (match o.dst with
    | some d => d.blt n
    | none => true) && dstsOk n r

def codeOk (n : Nat) : Code → Bool
  | .region _ ops _ => dstsOk n ops.toList
  | .seq a b => codeOk n a && codeOk n b
  | .cond _ a b => codeOk n a && codeOk n b
  | .block _ b => codeOk n b
  | .loop b => codeOk n b
  | _ => true

def bodyAns (E : Env) (n : Nat) (fn : Func) (args : List AV) (H : Heap) (F : List Nat) (nx : Nat) : Ans :=
  match fn.body with
  | some code =>
    bif args.length.ble fn.ntmps then ended E.T fn.results.toList (exec E n code ⟨Fr.args args 0 (Fr.full 10), H, F, nx⟩) else .no
  | none => .no

/-- What a contract tells of a call by trees, if it tells it. -/
def primGo (p : List AV → Option (AV × Heap)) (args : List AV) : Heap → List Nat → Nat → Option (AV × Heap)
  | [], [], 0 => p args
  | _, _, _ => none

def told (cfg : Cfg) (f : FuncId) (args : List AV) (H : Heap) (F : List Nat) (nx : Nat) : Option (AV × Heap) :=
  match cfg.prim f with
  | some p => primGo p args H F nx
  | none => none

/-- What a contract over the caller's own heap tells. -/
def toldH : Option (AV × Heap × List Nat × Nat) → Ans
  | some r => .ok r.1 r.2.1 r.2.2.1 r.2.2.2
  | none => .no

/-- A call of a function, to a depth. -/
def acall (T : Tabs) (cfg : Cfg) : Nat → FuncId → List AV → Heap → List Nat → Nat → Ans
  | 0, _, _, _, _, _ => .no
  | n + 1, f, args, H, F, nx =>
    match told cfg f args H F nx with
    | some r => .ok r.1 r.2 [] WIDE
    | none =>
      match cfg.primH f with
      | some p => toldH (p args H F nx)
      | none =>
        match T.fn.get f with
        | some fn => bodyAns ⟨T, cfg, acall T cfg n⟩ (n + 1) fn args H F nx
        | none => .no

/-- What is asked of a function's text, once. -/
def drawsOk : Code → Bool
  | .region _ ops draw => !draw || drawOk ops.toList
  | .seq a b => drawsOk a && drawsOk b
  | .cond _ a b => drawsOk a && drawsOk b
  | .block _ b => drawsOk b
  | .loop b => drawsOk b
  | _ => true

def fnOk (fn : Func) : Bool :=
  match fn.body with
  | some code => fn.ntmps.ble 1023 && (codeOk fn.ntmps code && drawsOk code)
  | none => false

end

/-! ### The tables, made of a program. -/

def isAggD : TypeDesc → Bool
  | .struct _ | .array _ _ => true
  | _ => false

def fdOf (f : Field) : Fd := ⟨f.offset, f.type, f.name = "_"⟩

def tkOf : TypeDesc → TK
  | .bool => .bool
  | .int k => .int k
  | .string => .str
  | .pointer _ => .ptr
  | .slice e => .slice e
  | .map k e => .map k e
  | .struct fs => .struct (fs.toList.map fdOf)
  | .array n e => .array n e
  | .interface _ => .iface
  | _ => .other

def zeroV : Option Value → Option AV
  | some v => some (ofV v)
  | none => none

/-- A type's row, by the program. -/
def tiOf (P : Program) (t : TypeId) : Option TI :=
  match P.info? t, P.underlying t with
  | some i, some d => some ⟨i.size, i.bytes, zeroV i.zero, isAggD d, tkOf d, true⟩
  | _, _ => none

/-! ### A contract over the caller's heap: slices.Insert. -/

/-- The elements with others put in. -/
def insL (xs ys : List AV) (i : Nat) : List AV := xs.take i ++ ys ++ xs.drop i

def insEnd (T : Tabs) (S : TypeId) (s v : AV) (H : Heap) (F : List Nat) (nx : Nat) : Option (AV × Heap × List Nat × Nat) :=
  match aappend T H F nx [S, S] s v with
  | .ok r e _ [] => some (r, happ H e, F, nx + STRIDE)
  | _ => none

def insMid2 (k by_ : Nat) (s1 b lo len i s2 b2 lo2 m m1 m2 : Nat) (xs ys : List AV) (H : Heap) (F : List Nat) (nx : Nat) : Option (AV × Heap × List Nat × Nat) :=
  bif !(b.beq b2) && (Nat.blt 1 k && (s1.beq k && (s2.beq k && (m1.beq k && (m2.beq k && ((lo + len).ble xs.length && (i.blt len && ((lo2 + m).ble ys.length && (Nat.blt 0 m && (room (len + m) by_ && (xs.all (fitsN k) && ys.all (fitsN k))))))))))))
  then some (.osl k nx 0 (len + m), hdel (hset H nx (.arr k (insL ((xs.drop lo).take len) ((ys.drop lo2).take m) i))) b, F, nx + 1) else none

def insMid (T : Tabs) (S : TypeId) (s1 b lo len i s2 b2 lo2 m : Nat) (H : Heap) (F : List Nat) (nx : Nat) : Option (AV × Heap × List Nat × Nat) :=
  match elemT T S with
  | some q => match bytesOf T q.1 with
    | some by_ => match hlive H F b with
      | some (.arr m1 xs) => match hget H b2 with
        | some (.arr m2 ys) => insMid2 q.2.1 by_ s1 b lo len i s2 b2 lo2 m m1 m2 xs ys H F nx
        | _ => none
      | _ => none
    | none => none
  | none => none

def insS (T : Tabs) (S : TypeId) (i : Nat) (s2 b2 lo2 m : Nat) (H : Heap) (F : List Nat) (nx : Nat) : AV → Option (AV × Heap × List Nat × Nat)
  | .nils => bif i.beq 0 then insEnd T S .nils (.osl s2 b2 lo2 m) H F nx else none
  | .emp => bif i.beq 0 then insEnd T S .emp (.osl s2 b2 lo2 m) H F nx else none
  | .osl s1 b lo len => bif i.beq len then insEnd T S (.osl s1 b lo len) (.osl s2 b2 lo2 m) H F nx else insMid T S s1 b lo len i s2 b2 lo2 m H F nx
  | _ => none

/-- What slices.Insert does: its slice given up, a new one made. -/
def insH (T : Tabs) (S : TypeId) (args : List AV) (H : Heap) (F : List Nat) (nx : Nat) : Option (AV × Heap × List Nat × Nat) :=
  match args with
  | [s, .int .i64 (.ofNat i), .osl s2 b2 lo2 (m + 1)] => insS T S i s2 b2 lo2 (m + 1) H F nx s
  | _ => none

/-- What slices.Delete does: its slice given up, a new one made. -/
def delH (T : Tabs) (S : TypeId) (args : List AV) (H : Heap) (F : List Nat) (nx : Nat) : Option (AV × Heap × List Nat × Nat) :=
  match args with
  | [.osl s1 b lo len, .int .i64 (.ofNat i), .int .i64 (.ofNat j)] =>
    match elemT T S with
    | some q => match hlive H F b with
      | some (.arr m1 xs) =>
        bif s1.beq q.2.1 && (m1.beq q.2.1 && ((lo + len).ble xs.length && (i.blt j && (j.ble len && (len.ble 1099511627776 && xs.all (fitsN q.2.1))))))
        then some (.osl q.2.1 nx 0 (i + (len - j)), hdel (hset H nx (.arr q.2.1 (((xs.drop lo).take len).take i ++ ((xs.drop lo).take len).drop j))) b, F, nx + 1) else none
      | _ => none
    | none => none
  | _ => none

/-- The equations that later texts use. -/
theorem equations : True := by
  have _ := @seqOps.eq_def
  have _ := @seqOps.eq_1
  have _ := @seqOps.eq_2
  have _ := @acall.eq_def
  have _ := @acall.eq_1
  have _ := @acall.eq_2
  have _ := @iter.eq_def
  have _ := @iter.eq_1
  have _ := @iter.eq_2
  have _ := @exec.eq_def
  have _ := @stepOp.eq_1
  trivial

end Go.Proofs.Ytmkmjjodiicmlaa.VS

/- The same machine, written by recursors alone: for the kernel's own reckoning. Conditions: none. -/
namespace Go.Proofs.Ytmkmjjodiicmlaa.VS
noncomputable section

/-- 'if', by the recursor. -/
abbrev bK {α : Type} (c : Bool) (a b : α) : α := @Bool.rec (fun _ => α) b a c

def getK : Fr → Nat → AV :=
  @Fr.rec (fun _ => Nat → AV) (fun _ => und) (fun v _ _ gl gr k => bK (Nat.beq k (nat_lit 0)) v (bK (Nat.beq (Nat.mod k (nat_lit 2)) (nat_lit 1)) (gl (Nat.div k (nat_lit 2))) (gr (Nat.pred (Nat.div k (nat_lit 2))))))

def setK : Fr → Nat → AV → Fr :=
  @Fr.rec (fun _ => Nat → AV → Fr) (fun _ _ => .nil)
    (fun v l r gl gr k a => bK (Nat.beq k (nat_lit 0)) (.nd a l r) (bK (Nat.beq (Nat.mod k (nat_lit 2)) (nat_lit 1)) (.nd v (gl (Nat.div k (nat_lit 2)) a) r) (.nd v l (gr (Nat.pred (Nat.div k (nat_lit 2))) a))))

theorem getK_eq : ∀ (t : Fr) (k : Nat), getK t k = t.get k
  | .nil, _ => rfl
  | .nd v l r, k => by
    show bK (Nat.beq k 0) v (bK (Nat.beq (Nat.mod k 2) 1) (getK l (Nat.div k 2)) (getK r (Nat.pred (Nat.div k 2)))) = _
    rw [getK_eq l, getK_eq r, Fr.get]
    cases h1 : Nat.beq k 0 <;> cases h2 : Nat.beq (Nat.mod k 2) 1 <;> rfl

theorem setK_eq : ∀ (t : Fr) (k : Nat) (a : AV), setK t k a = t.set k a
  | .nil, _, _ => rfl
  | .nd v l r, k, a => by
    show bK (Nat.beq k 0) (Fr.nd a l r) (bK (Nat.beq (Nat.mod k 2) 1) (Fr.nd v (setK l (Nat.div k 2) a) r) (Fr.nd v l (setK r (Nat.pred (Nat.div k 2)) a))) = _
    rw [setK_eq l, setK_eq r, Fr.set]
    cases h1 : Nat.beq k 0 <;> cases h2 : Nat.beq (Nat.mod k 2) 1 <;> rfl

def opndK : Operand → Fr → AV := @Operand.rec (fun _ => Fr → AV) (fun t fr => getK fr t) (fun v _ => ofV v) (fun _ _ => .dead) (fun f _ => .fn f [])

theorem opndK_eq (x : Operand) (fr : Fr) : opndK x fr = opnd fr x := by
  cases x <;> first | rfl | exact getK_eq _ _

def opndsK : List Operand → Fr → List AV := @List.rec Operand (fun _ => Fr → List AV) (fun _ => []) (fun x _ ih fr => opndK x fr :: ih fr)

theorem opndsK_eq (fr : Fr) : ∀ l, opndsK l fr = opnds fr l
  | [] => rfl
  | x :: r => by show opndK x fr :: opndsK r fr = _; rw [opndK_eq, opndsK_eq fr r]; rfl

def calleeK : Callee → Env → St → Nat → Array TypeId → List AV → Res :=
  @Callee.rec (fun _ => Env → St → Nat → Array TypeId → List AV → Res) (fun f E s id _ args => acallee E s id (opndK f s.fr) args) (fun _ _ _ _ _ _ _ => .no)
    (fun b E s id ts args => tellB E.cfg.tell id s.H s.F b args (abuiltin E.T s.H s.F id b ts.toList args))

def aopK : Op → Env → St → Nat → Res :=
  @Op.rec (fun _ => Env → St → Nat → Res)
    (fun x _ s _ => rv (opndK x s.fr))
    (fun x _ s _ => rv (opndK x s.fr))
    (fun c a b _ s _ => opPick (opndK c s.fr) (opndK a s.fr) (opndK b s.fr))
    (fun t E _ id => opAlloc E id t)
    (fun _ x _ s id => newCells id (opndK x s.fr))
    (fun t ps E s _ => ro (abuild E.T t (parts s.fr ps.toList)))
    (fun t len ps E s id => opBuildSlice E id t len (parts s.fr ps.toList))
    (fun t m k x E s _ => rw und (idOf (opndK m s.fr)) (amapUpdate E.T s.H s.F t (opndK m s.fr) (opndK k s.fr) (opndK x s.fr)))
    (fun t a E s _ => rr (idOf (opndK a s.fr)) (aload E.T s.H t (opndK a s.fr)))
    (fun t a x E s _ => rw und (idOf (opndK a s.fr)) (astore E.T s.H s.F t (opndK a s.fr) (opndK x s.fr)))
    (fun _ _ _ _ => .no)
    (fun _ _ _ _ => .no)
    (fun x _ s _ => opNilCheck (opndK x s.fr))
    (fun op t x y _ E s _ => ro (abin E.T op t (opndK x s.fr) (opndK y s.fr)))
    (fun op _ x _ s _ => ro (aun op (opndK x s.fr)))
    (fun a b x E s id => aconvert E.T s.H s.F id a b (opndK x s.fr))
    (fun _ _ _ _ _ => .no)
    (fun t x E s _ => opMakeInterface E t (opndK x s.fr))
    (fun fn first caps E s id => aop E s id (.makeFunc fn first caps))
    (fun t r E s id => opMakeMap E id t (mapO s.fr r))
    (fun _ _ _ _ _ => .no)
    (fun t l c E s id => opMakeSlice E id t (opndK l s.fr) (opndK c s.fr))
    (fun t x lo hi mx E s _ => ro (aslice E.T t (opndK x s.fr) (mapO s.fr lo) (mapO s.fr hi) (mapO s.fr mx)))
    (fun t x f E s _ => ro (afieldAddr E.T t (opndK x s.fr) f))
    (fun t x f E s _ => ro (afield E.T t (opndK x s.fr) f))
    (fun t x i E s _ => ro (aindexAddr E.T t (opndK x s.fr) (opndK i s.fr)))
    (fun t x i E s _ => ro (aindex E.T t (opndK x s.fr) (opndK i s.fr)))
    (fun t x i ok E s _ => rr (idOf (opndK x s.fr)) (alookup E.T s.H t (opndK x s.fr) (opndK i s.fr) ok))
    (fun t m k x E s _ => rw und (idOf (opndK m s.fr)) (amapUpdate E.T s.H s.F t (opndK m s.fr) (opndK k s.fr) (opndK x s.fr)))
    (fun _ _ _ _ _ _ => .no)
    (fun _ _ _ _ _ _ _ => .no)
    (fun _ _ _ _ _ => .no)
    (fun _ _ _ _ _ => .no)
    (fun _ _ _ _ => .no)
    (fun _ _ _ _ _ _ _ => .no)
    (fun t i _ s _ => opExtract i (opndK t s.fr))
    (fun c E s id => calleeK c.callee E s id c.argTypes (opndsK c.args.toList s.fr))
    (fun _ _ _ _ => .no)
    (fun _ _ _ _ => .no)
    (fun _ _ _ _ => .no)
    (fun _ _ _ _ _ => .no)
    (fun _ _ _ _ _ _ => .no)
    (fun _ _ _ _ _ => .no)

theorem aopK_eq (E : Env) (s : St) (id : Nat) (o : Op) : aopK o E s id = aop E s id o := by
  cases o with
  | call c =>
    obtain ⟨ce, as, ts⟩ := c
    show calleeK ce E s id ts (opndsK as.toList s.fr) = _
    rw [opndsK_eq]
    cases ce with
    | value f => show acallee E s id (opndK f s.fr) _ = _; rw [opndK_eq]; rfl
    | invoke r mth => rfl
    | builtin b => rfl
  | _ => first
    | rfl
    | (simp only [aopK, opndK_eq]; rfl)

def putK (dst : Option Tmp) (fr : Fr) (v : AV) : Fr := @Option.rec Tmp (fun _ => Fr) fr (fun d => setK fr d v) dst

theorem putK_eq (fr : Fr) (dst : Option Tmp) (v : AV) : putK dst fr v = put fr dst v := by
  cases dst
  · rfl
  · exact setK_eq _ _ _

def behindK (s : St) (dst : Option Tmp) : Res → OSt :=
  @Res.rec (fun _ => OSt) .no (fun v e _ fz => .at ⟨putK dst s.fr v, happ s.H e, fz ++ s.F, s.nx⟩) (fun v H F nx => .at ⟨putK dst s.fr v, H, F, nx⟩)

theorem behindK_eq (s : St) (dst : Option Tmp) (r : Res) : behindK s dst r = behind s dst r := by
  cases r <;> simp only [behindK, putK_eq] <;> rfl

def guardK (ops : List Oper) (fr : Fr) (go : OSt) (skip : OSt) : Option (Nat × Bool) → OSt :=
  @Option.rec (Nat × Bool) (fun _ => OSt) go (fun p => match awanted ops (some p) fr with
    | some true => go
    | some false => skip
    | none => .no)

def stepK (E : Env) (ops : List Oper) (id : Nat) (o : Oper) (s : St) : OSt :=
  guardK ops s.fr (behindK s o.dst (aopK o.op E s id)) (.at ⟨putK o.dst s.fr und, s.H, s.F, s.nx⟩) o.guard

theorem stepK_eq (E : Env) (ops : List Oper) (id : Nat) (o : Oper) (s : St) : stepK E ops id o s = stepOp E ops id o s := by
  unfold stepK stepOp
  rw [behindK_eq, aopK_eq, putK_eq]
  cases o.guard with
  | none => rfl
  | some p =>
    show (match awanted ops (some p) s.fr with | some true => _ | some false => _ | none => _) = _
    rfl

def thenS (f : St → OSt) : OSt → OSt := @OSt.rec (fun _ => OSt) .no f

def seqK (E : Env) (ops : List Oper) : List Oper → Nat → St → OSt :=
  @List.rec Oper (fun _ => Nat → St → OSt) (fun _ s => .at s) (fun o _ ih id s => thenS (ih (Nat.add id (nat_lit 64))) (stepK E ops id o s))

theorem seqK_eq (E : Env) (ops : List Oper) : ∀ (l : List Oper) (id : Nat) (s : St), seqK E ops l id s = seqOps E ops l id s
  | [], _, _ => rfl
  | o :: r, id, s => by
    show thenS (seqK E ops r (Nat.add id 64)) (stepK E ops id o s) = _
    rw [stepK_eq, seqOps]
    cases stepOp E ops id o s with
    | no => rfl
    | «at» s' => exact seqK_eq E ops r _ s'

def drawK (E : Env) (ops : List Oper) (s : St) : Out := drawAgain E ops s (seqK E ops) (drawTry E ops s [])

def regionK (ops : List Oper) (draw : Bool) (E : Env) (s : St) : Out :=
  bK draw (drawK E ops s) (goN (seqK E ops ops s.nx (withF s s.F ops.length)))

theorem regionK_eq (E : Env) (ops : List Oper) (draw : Bool) (s : St) : regionK ops draw E s = aregion E ops draw s := by
  have h : seqK E ops = seqOps E ops := by funext l id s; exact seqK_eq E ops l id s
  unfold regionK drawK aregion
  rw [h]
  cases draw <;> rfl

def thenK (f : St → Out) : AX → St → Out := @AX.rec (fun _ => St → Out) f (fun k s => .go (.exit k) s) (fun s => .go .ret s)
def thenOK (f : St → Out) : Out → Out := @Out.rec (fun _ => Out) .no (fun x s => thenK f x s)

theorem thenOK_eq (f : St → Out) (r : Out) : thenOK f r = thenO f r := by
  cases r with
  | no => rfl
  | go x s => cases x <;> rfl

def iterK (body : St → Out) : Nat → St → Out :=
  @Nat.rec (fun _ => St → Out) (fun _ => .no) (fun _ ih s => thenOK ih (body s))

theorem iterK_eq (body : St → Out) : ∀ (n : Nat) (s : St), iterK body n s = iter body n s
  | 0, _ => rfl
  | n + 1, s => by
    show thenOK (iterK body n) (body s) = _
    rw [iter]
    cases body s with
    | no => rfl
    | go x s' => cases x with
      | normal => exact iterK_eq body n s'
      | _ => rfl

def boolK (a b : Out) : AV → Out
  | .bool true => a
  | .bool false => b
  | _ => .no

def execK : Code → Env → Nat → St → Out :=
  @Code.rec (fun _ => Env → Nat → St → Out)
    (fun _ _ s => .go .normal s)
    (fun _ ops draw E _ s => regionK ops.toList draw E s)
    (fun _ _ fa fb E n s => thenOK (fb E n) (fa E n s))
    (fun c _ _ fa fb E n s => boolK (fa E n s) (fb E n s) (opndK c s.fr))
    (fun id _ fb E n s => blockO id (fb E n s))
    (fun _ fb E n s => iterK (fb E n) n s)
    (fun _ _ _ _ _ _ _ _ _ => .no)
    (fun id _ _ s => .go (.exit id) s)
    (fun _ _ _ _ _ => .no)
    (fun _ _ _ s => .go .normal s)
    (fun _ _ _ _ => .no)
    (fun _ _ s => .go .ret s)
    (fun _ _ _ _ => .no)

theorem execK_eq (E : Env) (n : Nat) : ∀ (c : Code) (s : St), execK c E n s = exec E n c s
  | .skip, _ => rfl
  | .label _, _ => rfl
  | .region _ ops draw, s => regionK_eq E ops.toList draw s
  | .seq a b, s => by
    show thenOK (execK b E n) (execK a E n s) = _
    rw [execK_eq E n a, thenOK_eq, exec]
    congr 1
    funext s'
    exact execK_eq E n b s'
  | .cond c a b, s => by
    show boolK (execK a E n s) (execK b E n s) (opndK c s.fr) = _
    rw [execK_eq E n a, execK_eq E n b, opndK_eq, exec]
    rfl
  | .block id b, s => by
    show blockO id (execK b E n s) = _
    rw [execK_eq E n b, exec]
  | .loop b, s => by
    show iterK (execK b E n) n s = _
    rw [iterK_eq, exec]
    congr 1
    funext s'
    exact execK_eq E n b s'
  | .exit _, _ => rfl
  | .ret, _ => rfl
  | .rangeFunc _ _ _ _, _ => rfl
  | .scope _, _ => rfl
  | .goto _, _ => rfl
  | .refuse _, _ => rfl

def optK {α β : Type} (a : β) (f : α → β) : Option α → β := @Option.rec α (fun _ => β) a f

def getTK {α : Type} : Tr α → Nat → Option α :=
  @Tr.rec α (fun _ => Nat → Option α) (fun _ => none) (fun v _ _ gl gr k => bK (Nat.beq k (nat_lit 0)) v (bK (Nat.beq (Nat.mod k (nat_lit 2)) (nat_lit 1)) (gl (Nat.div k (nat_lit 2))) (gr (Nat.pred (Nat.div k (nat_lit 2))))))

theorem getTK_eq {α : Type} : ∀ (t : Tr α) (k : Nat), getTK t k = t.get k
  | .nil, _ => rfl
  | .nd v l r, k => by
    show bK (Nat.beq k 0) v (bK (Nat.beq (Nat.mod k 2) 1) (getTK l (Nat.div k 2)) (getTK r (Nat.pred (Nat.div k 2)))) = _
    rw [getTK_eq l, getTK_eq r, Tr.get]
    cases h1 : Nat.beq k 0 <;> cases h2 : Nat.beq (Nat.mod k 2) 1 <;> rfl

def bodyK (E : Env) (n : Nat) (args : List AV) (H : Heap) (F : List Nat) (nx : Nat) (fn : Func) : Ans :=
  optK .no (fun code => bK (Nat.ble args.length fn.ntmps) (ended E.T fn.results.toList (execK code E n ⟨Fr.args args 0 (Fr.full 10), H, F, nx⟩)) .no) fn.body

def acallK (T : Tabs) (cfg : Cfg) : Nat → FuncId → List AV → Heap → List Nat → Nat → Ans :=
  @Nat.rec (fun _ => FuncId → List AV → Heap → List Nat → Nat → Ans) (fun _ _ _ _ _ => .no)
    (fun n ih f args H F nx => optK (optK (optK .no (bodyK ⟨T, cfg, ih⟩ (Nat.succ n) args H F nx) (getTK T.fn f)) (fun p => toldH (p args H F nx)) (cfg.primH f)) (fun r => .ok r.1 r.2 [] WIDE) (told cfg f args H F nx))

theorem acallK_eq (T : Tabs) (cfg : Cfg) : ∀ (n : Nat), acallK T cfg n = acall T cfg n
  | 0 => rfl
  | n + 1 => by
    funext f args H F nx
    show optK (optK (optK .no (bodyK ⟨T, cfg, acallK T cfg n⟩ (n + 1) args H F nx) (getTK T.fn f)) (fun p => toldH (p args H F nx)) (cfg.primH f)) (fun r => .ok r.1 r.2 [] WIDE) (told cfg f args H F nx) = _
    rw [acallK_eq T cfg n, acall, getTK_eq]
    cases told cfg f args H F nx with
    | some p => rfl
    | none =>
      show optK _ _ _ = _
      cases cfg.primH f with
      | some p => rfl
      | none =>
      show optK _ _ _ = _
      cases T.fn.get f with
      | none => rfl
      | some fn =>
        show bodyK ⟨T, cfg, acall T cfg n⟩ (n + 1) args H F nx fn = bodyAns ⟨T, cfg, acall T cfg n⟩ (n + 1) fn args H F nx
        unfold bodyK bodyAns
        cases fn.body with
        | none => rfl
        | some code =>
          show bK (Nat.ble args.length fn.ntmps) (ended _ _ (execK code _ _ _)) _ = _
          rw [execK_eq]
          cases Nat.ble args.length fn.ntmps <;> rfl

end
end Go.Proofs.Ytmkmjjodiicmlaa.VS

/- How the abstract machine's values and heap stand to the model's: the relation, and that it is kept. Conditions: none. -/
namespace Go.Proofs.Ytmkmjjodiicmlaa.VS

/-- Where an abstract number lies in the model's memory: its block, its first cell there, the cells of an element, how many elements, the cells of the block. -/
structure Sub where
  blk : Nat
  off : Nat
  ext : Nat
  csz : Nat

/-- 'subs': where the elements' rows lie, if these are one's own, too. -/
structure Loc where
  blk : Nat
  off : Nat
  sz : Nat
  ext : Nat
  csz : Nat
  subs : Nat → Option Sub := fun _ => none

abbrev Map := Nat → Option Loc
def noMap : Map := fun _ => none

/-- What the unknown numbers and texts are. -/
class Syms where
  int : Nat → Int
  str : Nat → List UInt8

variable [Syms]

inductive VR (ok : Nat → Prop) (h : Array Obj) : Map → AV → Value → Prop
  | dead {m v} : VR ok h m .dead v
  | bool {m} (b : Bool) : VR ok h m (.bool b) (.bool b)
  | int {m} (k : IntKind) (n : Int) : VR ok h m (.int k n) (.int k n)
  | rng {m} (i : Nat) (k : IntKind) (lo hi n : Int) : n = Syms.int i → lo ≤ n → n ≤ hi → VR ok h m (.rng i k lo hi) (.int k n)
  | lin {m} (i : Nat) (a c lo hi n : Int) : n = a * Syms.int i + c → lo ≤ Syms.int i → Syms.int i ≤ hi → VR ok h m (.lin i a c lo hi) (.int .i64 n)
  | ustr {m} (i : Nat) (l : List (List UInt8)) (s : ByteArray) : s.data.toList = Syms.str i → s.data.toList ∉ l → VR ok h m (.ustr i l) (.string s)
  | str {m} (l : List UInt8) (s : ByteArray) : s.data.toList = l → VR ok h m (.str l) (.string s)
  | nilp {m} : VR ok h m .nilp (.pointer none)
  | nilf {m} : VR ok h m .nilf .nilFunc
  | nili {m} : VR ok h m .nili .nilIface
  | nilm {m} : VR ok h m .nilm (.map none)
  | ifc {m t a v} : VR ok h m a v → VR ok h m (.ifc t a) (.iface t v)
  | fn {m f cs} {vs : Array Value} (g : Nat → Value) : vs.size = cs.length → (∀ j, j < cs.length → vs[j]? = some (g j)) →
      (∀ j x, cs[j]? = some x → VR ok h m x (g j)) → VR ok h m (.fn f cs) (.func (.func f) #[] vs)
  | agg {m cs} {vs : Array Value} (g : Nat → Value) : vs.size = cs.length → (∀ j, j < cs.length → vs[j]? = some (g j)) →
      (∀ j x, cs[j]? = some x → VR ok h m x (g j)) → VR ok h m (.agg cs) (.agg vs)
  | tup {m cs} {vs : Array Value} (g : Nat → Value) : vs.size = cs.length → (∀ j, j < cs.length → vs[j]? = some (g j)) →
      (∀ j x, cs[j]? = some x → VR ok h m x (g j)) → VR ok h m (.tup cs) (.tuple vs)
  | nils {m} : VR ok h m .nils (.slice none 0 0)
  | emp {m a} : VR ok h m .emp (.slice a 0 0)
  | slE {m a c} : (a = none → c = 0) → VR ok h m (.sl []) (.slice a 0 c)
  | nev {m a c} : VR ok h m .nev (.slice (some a) 0 c)
  | sl {m xs n β o C e z s c} (g : Nat → Value) : xs ≠ [] → n = xs.length → ok β → h[β]? = some (.cells C e z) → 0 < s → (∀ x ∈ xs, x.cells.length = s) → n ≤ c →
      (∀ j, j < (flat xs).length → C[o + j]? = some (g j)) → (∀ j x, (flat xs)[j]? = some x → VR ok h noMap x (g j)) →
      VR ok h m (.sl xs) (.slice (some ⟨β, o, none⟩) n c)
  | oslE {m s b lo L a} : m b = some L → L.ext ≤ lo → 0 < s → L.sz = s → VR ok h m (.osl s b lo 0) (.slice (some a) 0 0)
  | osl {m s b lo len L c β o} : m b = some L → lo + len ≤ L.ext → 0 < s → L.sz = s → β = L.blk → o = L.off + lo * s → L.ext ≤ lo + c → L.off + (lo + c) * s ≤ L.csz →
      VR ok h m (.osl s b lo len) (.slice (some ⟨β, o, none⟩) len c)
  | ptr {m b L off β o} : m b = some L → β = L.blk → o = L.off + off → VR ok h m (.ptr b off) (.pointer (some ⟨β, o, none⟩))
  | eptr {m b L i off β o} : m b = some L → β = L.blk → o = L.off + i * L.sz + off → VR ok h m (.eptr b i off) (.pointer (some ⟨β, o, none⟩))
  | cptr {m x β o C e z} (g : Nat → Value) : ok β → h[β]? = some (.cells C e z) → (∀ j, j < x.cells.length → C[o + j]? = some (g j)) →
      (∀ j y, x.cells[j]? = some y → VR ok h noMap y (g j)) → VR ok h m (.cptr x) (.pointer (some ⟨β, o, none⟩))
  | mp {m b L β} : m b = some L → β = L.blk → VR ok h m (.mp b) (.map (some β))
  | tl {m t xs v} : VR ok h m (.sl (encs t xs)) v → VR ok h m (.tl t xs) v
  | ub {m} (b : Bool) : VR ok h m (.ub b) (.bool b)
  | gsE {m g b a} : VR ok h m (.gs g b 0) (.slice a 0 0)
  | gs {m g b n a c} : VR ok h m (.osl g.size b 0 n) (.slice a n c) → VR ok h m (.gs g b n) (.slice a n c)
  | subE {m b i L a} : m b = some L → L.subs i = none → VR ok h m (.sub b i 0) (.slice a 0 0)
  | sub {m b i n L S c} : m b = some L → L.subs i = some S → n ≤ S.ext → S.ext ≤ c → S.off + c ≤ S.csz → VR ok h m (.sub b i n) (.slice (some ⟨S.blk, S.off, none⟩) n c)
  | psub {m b i j L S} : m b = some L → L.subs i = some S → VR ok h m (.psub b i j) (.pointer (some ⟨S.blk, S.off + j, none⟩))

def MLe (m m' : Map) : Prop := ∀ b L, m b = some L → m' b = some L

omit [Syms] in
theorem MLe.refl (m : Map) : MLe m m := fun _ _ h => h
omit [Syms] in
theorem MLe.trans {a b c : Map} (h : MLe a b) (k : MLe b c) : MLe a c := fun x L hx => k x L (h x L hx)

/-- What is told by rows that stay is told still. -/
theorem VR.mono {ok ok' : Nat → Prop} {h h' : Array Obj} (hk : ∀ β C e z, ok β → h[β]? = some (.cells C e z) → ok' β ∧ h'[β]? = some (.cells C e z)) {m : Map} {a : AV} {v : Value}
    (H : VR ok h m a v) : ∀ {m' : Map}, MLe m m' → VR ok' h' m' a v := by
  induction H with
  | dead => intro m' _; exact .dead
  | bool b => intro m' _; exact .bool b
  | int k n => intro m' _; exact .int k n
  | rng i k lo hi n h0 h1 h2 => intro m' _; exact .rng i k lo hi n h0 h1 h2
  | lin i a c lo hi n h0 h1 h2 => intro m' _; exact .lin i a c lo hi n h0 h1 h2
  | ustr i l s h1 h2 => intro m' _; exact .ustr i l s h1 h2
  | str l s hs => intro m' _; exact .str l s hs
  | nilp => intro m' _; exact .nilp
  | nilf => intro m' _; exact .nilf
  | nili => intro m' _; exact .nili
  | nilm => intro m' _; exact .nilm
  | ifc _ ih => intro m' hm; exact .ifc (ih hm)
  | fn g h1 h2 _ ih => intro m' hm; exact .fn g h1 h2 fun j x hx => ih j x hx hm
  | agg g h1 h2 _ ih => intro m' hm; exact .agg g h1 h2 fun j x hx => ih j x hx hm
  | tup g h1 h2 _ ih => intro m' hm; exact .tup g h1 h2 fun j x hx => ih j x hx hm
  | nils => intro m' _; exact .nils
  | emp => intro m' _; exact .emp
  | slE h1 => intro m' _; exact .slE h1
  | nev => intro m' _; exact .nev
  | sl g h1 h2 h3 h4 h5 h6 h7 h8 _ ih => intro m' _; exact .sl g h1 h2 (hk _ _ _ _ h3 h4).1 (hk _ _ _ _ h3 h4).2 h5 h6 h7 h8 fun j x hx => ih j x hx (MLe.refl _)
  | oslE h1 h2 h3 h4 => intro m' hm; exact .oslE (hm _ _ h1) h2 h3 h4
  | osl h1 h2 h3 h4 h5 h6 h7 h8 => intro m' hm; exact .osl (hm _ _ h1) h2 h3 h4 h5 h6 h7 h8
  | ptr h1 h2 h3 => intro m' hm; exact .ptr (hm _ _ h1) h2 h3
  | eptr h1 h2 h3 => intro m' hm; exact .eptr (hm _ _ h1) h2 h3
  | cptr g h1 h2 h3 _ ih => intro m' _; exact .cptr g (hk _ _ _ _ h1 h2).1 (hk _ _ _ _ h1 h2).2 h3 fun j x hx => ih j x hx (MLe.refl _)
  | mp h1 h2 => intro m' hm; exact .mp (hm _ _ h1) h2
  | tl _ ih => intro m' hm; exact .tl (ih hm)
  | ub b => intro m' _; exact .ub b
  | gsE => intro m' _; exact .gsE
  | gs _ ih => intro m' hm; exact .gs (ih hm)
  | subE h1 h2 => intro m' hm; exact .subE (hm _ _ h1) h2
  | sub h1 h2 h3 h4 h5 => intro m' hm; exact .sub (hm _ _ h1) h2 h3 h4 h5
  | psub h1 h2 => intro m' hm; exact .psub (hm _ _ h1) h2

omit [Syms] in
theorem enc_size (t : GT) (x : t.T) : (enc t x).cells.length = t.size := by cases t <;> rfl
omit [Syms] in
theorem GT.size_pos (t : GT) : 0 < t.size := by cases t <;> decide
omit [Syms] in
theorem encs_length (t : GT) (xs : List t.T) : (encs t xs).length = xs.length := by simp [encs]
omit [Syms] in
theorem encs_size (t : GT) (xs : List t.T) : ∀ x ∈ encs t xs, x.cells.length = t.size := by
  intro x hx
  obtain ⟨y, _, rfl⟩ := List.mem_map.1 hx
  exact enc_size t y
omit [Syms] in
theorem enc_one (t : GT) (x : t.T) : (enc t x).fits = true := by cases t <;> rfl
omit [Syms] in
theorem encs_append (t : GT) (xs ys : List t.T) : encs t (xs ++ ys) = encs t xs ++ encs t ys := by simp [encs]

theorem VR.tl_slice {ok : Nat → Prop} {h : Array Obj} {m : Map} {t : GT} {xs : List t.T} {v : Value} (H : VR ok h m (.tl t xs) v) : ∃ a n c, v = .slice a n c := by
  cases H with
  | tl h1 =>
    generalize encs _ _ = l at h1
    cases h1 <;> exact ⟨_, _, _, rfl⟩

theorem VR.tl_iff {ok : Nat → Prop} {h : Array Obj} {m : Map} {t : GT} {xs : List t.T} {v : Value} : VR ok h m (.tl t xs) v ↔ VR ok h m (.sl (encs t xs)) v :=
  ⟨fun H => by cases H with | tl h1 => exact h1, .tl⟩

/-- A row of abstract cells, told by a row of the model's from a place on. -/
def CR (ok : Nat → Prop) (h : Array Obj) (m : Map) (cs : List AV) (C : Array Value) (o : Nat) : Prop :=
  ∀ j x, cs[j]? = some x → ∃ v, C[o + j]? = some v ∧ VR ok h m x v

section
variable {ok : Nat → Prop} {h : Array Obj} {m : Map}

theorem CR.fun {cs : List AV} {C : Array Value} {o : Nat} (H : CR ok h m cs C o) :
    ∃ g : Nat → Value, (∀ j, j < cs.length → C[o + j]? = some (g j)) ∧ ∀ j x, cs[j]? = some x → VR ok h m x (g j) := by
  refine ⟨fun j => (C[o + j]?).getD default, fun j hj => ?_, fun j x hx => ?_⟩
  · obtain ⟨v, hv, _⟩ := H j cs[j] (List.getElem?_eq_getElem hj)
    simp [hv]
  · obtain ⟨v, hv, hr⟩ := H j x hx
    simpa [hv] using hr

theorem CR.mk {cs : List AV} {C : Array Value} {o : Nat} {g : Nat → Value} (h1 : ∀ j, j < cs.length → C[o + j]? = some (g j)) (h2 : ∀ j x, cs[j]? = some x → VR ok h m x (g j)) :
    CR ok h m cs C o := fun j x hx => by
  have hj : j < cs.length := by
    rcases Nat.lt_or_ge j cs.length with hj | hj
    · exact hj
    · simp [List.getElem?_eq_none hj] at hx
  exact ⟨g j, h1 j hj, h2 j x hx⟩

theorem VR.agg' {cs : List AV} {vs : Array Value} (hs : vs.size = cs.length) (H : CR ok h m cs vs 0) : VR ok h m (.agg cs) (.agg vs) := by
  obtain ⟨g, h1, h2⟩ := H.fun
  exact .agg g hs (fun j hj => by simpa using h1 j hj) h2

theorem VR.tup' {cs : List AV} {vs : Array Value} (hs : vs.size = cs.length) (H : CR ok h m cs vs 0) : VR ok h m (.tup cs) (.tuple vs) := by
  obtain ⟨g, h1, h2⟩ := H.fun
  exact .tup g hs (fun j hj => by simpa using h1 j hj) h2

theorem VR.fn' {f : FuncId} {cs : List AV} {vs : Array Value} (hs : vs.size = cs.length) (H : CR ok h m cs vs 0) : VR ok h m (.fn f cs) (.func (.func f) #[] vs) := by
  obtain ⟨g, h1, h2⟩ := H.fun
  exact .fn g hs (fun j hj => by simpa using h1 j hj) h2

theorem VR.agg_inv {cs : List AV} {v : Value} (H : VR ok h m (.agg cs) v) : ∃ vs : Array Value, v = .agg vs ∧ vs.size = cs.length ∧ CR ok h m cs vs 0 := by
  cases H with
  | agg g h1 h2 h3 => exact ⟨_, rfl, h1, CR.mk (fun j hj => by simpa using h2 j hj) h3⟩

theorem VR.tup_inv {cs : List AV} {v : Value} (H : VR ok h m (.tup cs) v) : ∃ vs : Array Value, v = .tuple vs ∧ vs.size = cs.length ∧ CR ok h m cs vs 0 := by
  cases H with
  | tup g h1 h2 h3 => exact ⟨_, rfl, h1, CR.mk (fun j hj => by simpa using h2 j hj) h3⟩

theorem VR.fn_inv {f : FuncId} {cs : List AV} {v : Value} (H : VR ok h m (.fn f cs) v) : ∃ vs : Array Value, v = .func (.func f) #[] vs ∧ vs.size = cs.length ∧ CR ok h m cs vs 0 := by
  cases H with
  | fn g h1 h2 h3 => exact ⟨_, rfl, h1, CR.mk (fun j hj => by simpa using h2 j hj) h3⟩

theorem VR.sl' {xs : List AV} {n β o : Nat} {C : Array Value} {e : TypeId} {z : Nat × Nat} {s c : Nat} (h1 : xs ≠ []) (hn : n = xs.length) (h2 : ok β) (h3 : h[β]? = some (.cells C e z)) (h4 : 0 < s)
    (h5 : ∀ x ∈ xs, x.cells.length = s) (h6 : n ≤ c) (H : CR ok h noMap (flat xs) C o) : VR ok h m (.sl xs) (.slice (some ⟨β, o, none⟩) n c) := by
  obtain ⟨g, k1, k2⟩ := H.fun
  exact .sl g h1 hn h2 h3 h4 h5 h6 k1 k2

theorem CR.mono {ok' : Nat → Prop} {h' : Array Obj} {m' : Map} {cs : List AV} {C : Array Value} {o : Nat}
    (hk : ∀ β C e z, ok β → h[β]? = some (.cells C e z) → ok' β ∧ h'[β]? = some (.cells C e z)) (hm : MLe m m') (H : CR ok h m cs C o) : CR ok' h' m' cs C o :=
  fun j x hx => let ⟨v, hv, hr⟩ := H j x hx; ⟨v, hv, hr.mono hk hm⟩

theorem VR.ptr_inv {b off : Nat} {v : Value} (H : VR ok h m (.ptr b off) v) : ∃ L, m b = some L ∧ v = .pointer (some ⟨L.blk, L.off + off, none⟩) := by
  cases H with
  | ptr h1 h2 h3 => subst h2; subst h3; exact ⟨_, h1, rfl⟩

theorem VR.eptr_inv {b i off : Nat} {v : Value} (H : VR ok h m (.eptr b i off) v) : ∃ L, m b = some L ∧ v = .pointer (some ⟨L.blk, L.off + i * L.sz + off, none⟩) := by
  cases H with
  | eptr h1 h2 h3 => subst h2; subst h3; exact ⟨_, h1, rfl⟩

theorem VR.mp_inv {b : Nat} {v : Value} (H : VR ok h m (.mp b) v) : ∃ L, m b = some L ∧ v = .map (some L.blk) := by
  cases H with
  | mp h1 h2 => subst h2; exact ⟨_, h1, rfl⟩

theorem VR.str_inv {l : List UInt8} {v : Value} (H : VR ok h m (.str l) v) : ∃ s : ByteArray, v = .string s ∧ s.data.toList = l := by
  cases H with
  | str _ s hs => exact ⟨s, rfl, hs⟩

theorem VR.gs_any {g : GT} {b n : Nat} {v : Value} (H : VR ok h m (.gs g b n) v) : ∃ a c, v = .slice a n c := by
  cases H with
  | gsE => exact ⟨_, _, rfl⟩
  | gs _ => exact ⟨_, _, rfl⟩

/-- The cells of a value: a row. -/
theorem VR.cells {a : AV} {v : Value} (H : VR ok h m a v) (ha : ∀ vs, a ≠ .tup vs) (hd : a ≠ .dead) : v.cells.size = a.cells.length ∧ CR ok h m a.cells v.cells 0 := by
  have single : ∀ {a : AV} {v : Value}, a.cells = [a] → v.cells = #[v] → VR ok h m a v → v.cells.size = a.cells.length ∧ CR ok h m a.cells v.cells 0 := by
    intro a v h1 h2 hr
    rw [h1, h2]
    refine ⟨rfl, fun j x hx => ?_⟩
    cases j with
    | zero => simp at hx; subst hx; exact ⟨v, rfl, hr⟩
    | succ j => simp at hx
  have H' := H
  cases H with
  | dead => exact absurd rfl hd
  | tup => exact absurd rfl (ha _)
  | agg g h1 h2 h3 => exact ⟨h1, CR.mk (fun j hj => by simpa [Value.cells] using h2 j hj) h3⟩
  | tl h1 =>
    obtain ⟨a, n, c, rfl⟩ : ∃ a n c, v = .slice a n c := by
      generalize encs _ _ = l at h1
      cases h1 <;> exact ⟨_, _, _, rfl⟩
    exact single rfl rfl H'
  | _ => exact single rfl rfl H'

/-- A cell's value is no aggregate. -/
theorem VR.one {a : AV} {v : Value} (H : VR ok h m a v) (ha : a.one = true) : v.oneCell' = true ∧ v.cells = #[v] := by
  cases H with
  | tl h1 =>
    obtain ⟨a, n, c, rfl⟩ : ∃ a n c, v = .slice a n c := by
      generalize encs _ _ = l at h1
      cases h1 <;> exact ⟨_, _, _, rfl⟩
    exact ⟨rfl, rfl⟩
  | _ => first | exact ⟨rfl, rfl⟩ | simp [AV.one] at ha

end

omit [Syms] in
theorem flat_nil : flat [] = [] := rfl
omit [Syms] in
theorem flat_cons (x : AV) (xs : List AV) : flat (x :: xs) = x.cells ++ flat xs := rfl
omit [Syms] in
theorem flat_append (xs ys : List AV) : flat (xs ++ ys) = flat xs ++ flat ys := by simp [flat]

omit [Syms] in
theorem flat_length {s : Nat} : ∀ {xs : List AV}, (∀ x ∈ xs, x.cells.length = s) → (flat xs).length = xs.length * s
  | [], _ => by simp [flat]
  | x :: xs, h => by
    rw [flat_cons, List.length_append, h x (by simp), flat_length fun y hy => h y (by simp [hy])]
    simp [Nat.add_mul, Nat.add_comm]

omit [Syms] in
theorem flat_getElem? {s : Nat} : ∀ {xs : List AV} {i j : Nat} {x : AV}, (∀ x ∈ xs, x.cells.length = s) → xs[i]? = some x → j < s → (flat xs)[i * s + j]? = x.cells[j]?
  | [], _, _, _, _, hx, _ => by simp at hx
  | y :: xs, 0, j, x, h, hx, hj => by
    simp at hx; subst hx
    rw [flat_cons, Nat.zero_mul, Nat.zero_add, List.getElem?_append_left (by rw [h y (by simp)]; exact hj)]
  | y :: xs, i + 1, j, x, h, hx, hj => by
    simp only [List.getElem?_cons_succ] at hx
    have hy := h y (by simp)
    rw [flat_cons, List.getElem?_append_right (by rw [hy, Nat.add_mul]; omega), hy, ← flat_getElem? (fun z hz => h z (by simp [hz])) hx hj]
    congr 1
    rw [Nat.add_mul]; omega

omit [Syms] in
theorem flat_take {s : Nat} : ∀ {xs : List AV} (n : Nat), (∀ x ∈ xs, x.cells.length = s) → flat (xs.take n) = (flat xs).take (n * s)
  | [], n, _ => by simp [flat]
  | x :: xs, 0, _ => by simp [flat]
  | x :: xs, n + 1, h => by
    have hx := h x (by simp)
    rw [List.take_succ_cons, flat_cons, flat_cons, flat_take n fun y hy => h y (by simp [hy]), List.take_append, List.take_of_length_le (l := x.cells) (by rw [hx, Nat.add_mul]; omega), hx]
    congr 2
    rw [Nat.add_mul]; omega

omit [Syms] in
theorem flat_drop {s : Nat} : ∀ {xs : List AV} (n : Nat), (∀ x ∈ xs, x.cells.length = s) → flat (xs.drop n) = (flat xs).drop (n * s)
  | [], n, _ => by simp [flat]
  | x :: xs, 0, _ => by simp
  | x :: xs, n + 1, h => by
    have hx := h x (by simp)
    rw [List.drop_succ_cons, flat_cons, flat_drop n fun y hy => h y (by simp [hy]), List.drop_append, List.drop_of_length_le (l := x.cells) (by rw [hx, Nat.add_mul]; omega), List.nil_append, hx]
    congr 1
    rw [Nat.add_mul]; omega

theorem CR.take {ok : Nat → Prop} {h : Array Obj} {m : Map} {cs : List AV} {C : Array Value} {o : Nat} (H : CR ok h m cs C o) (n : Nat) : CR ok h m (cs.take n) C o :=
  fun j x hx => H j x (by rw [List.getElem?_take] at hx; split at hx <;> simp_all)

theorem CR.drop {ok : Nat → Prop} {h : Array Obj} {m : Map} {cs : List AV} {C : Array Value} {o : Nat} (H : CR ok h m cs C o) (n : Nat) : CR ok h m (cs.drop n) C (o + n) :=
  fun j x hx => by
    rw [List.getElem?_drop] at hx
    obtain ⟨v, hv, hr⟩ := H _ x hx
    exact ⟨v, by rw [Nat.add_assoc]; exact hv, hr⟩

end Go.Proofs.Ytmkmjjodiicmlaa.VS

