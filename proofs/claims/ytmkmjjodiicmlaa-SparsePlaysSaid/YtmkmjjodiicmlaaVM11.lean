/- A library of an abstract machine, joined from 2 texts. Conditions: none. -/
import Derived.Test.YtmkmjjodiicmlaaVM10
set_option linter.unusedVariables false
set_option linter.unusedSimpArgs false
set_option linter.unusedSectionVars false
/- Codes of data, of values with rows of their own; what a function's text answers, as a tree. Definitions alone. Conditions: none. -/
namespace Go.Proofs.Ytmkmjjodiicmlaa.VS
universe u

structure Inf where
  ino : Int
  kind : Int
  mode : Int
  links : Int
  size : Int
  deriving DecidableEq, Inhabited

structure Rpl where
  data : List UInt8
  names : List Str
  info : Inf
  deriving DecidableEq, Inhabited

/-- What a struct's cells are. -/
inductive FT where
  | int | str | L (g : GT)

abbrev FT.T : FT → Type
  | .int => Int
  | .str => Str
  | .L g => List g.T

def FT.en : (f : FT) → f.T → AV
  | .int, (n : Int) => .int .i64 n
  | .str, (s : Str) => .str s
  | .L g, (l : List g.T) => .tl g l

def FT.de : (f : FT) → AV → Option f.T
  | .int, a => decInt a
  | .str, a => decStr a
  | .L g, a => decL g a

/-- A row of data, its bytes' ranges asked. -/
def decLC (g : GT) (k : List g.T → Prop) (a : AV) : Prop :=
  match a with
  | .sl xs => decAllP g xs k
  | a => optC k (decL g a)

def FT.deC (f : FT) (a : AV) (k : f.T → Prop) : Prop :=
  match f, k with
  | .L g, k => decLC g k a
  | f, k => optC k (f.de a)

abbrev FP : List FT → Type
  | [] => Unit
  | [f] => f.T
  | f :: g :: r => f.T × FP (g :: r)

def FP.en : (l : List FT) → FP l → List AV
  | [], _ => []
  | [f], x => [f.en x]
  | f :: g :: r, x => f.en x.1 :: FP.en (g :: r) x.2

def FP.de : (l : List FT) → List AV → Option (FP l)
  | [], [] => some ()
  | [f], [a] => f.de a
  | f :: g :: r, a :: q => match f.de a, FP.de (g :: r) q with
    | some x, some y => some (x, y)
    | _, _ => none
  | _, _ => none

def FP.deC : (l : List FT) → List AV → (FP l → Prop) → Prop
  | [], [], k => k ()
  | [f], [a], k => f.deC a k
  | f :: g :: r, a :: q, k => f.deC a fun x => FP.deC (g :: r) q fun y => k (x, y)
  | _, _, _ => False

/-- The structs. -/
inductive SC where
  | nam | blk | nod | dsk | opn | spt | row | akt | fil | cnf | tbl | wld | inf | rpl

abbrev SC.T : SC → Type
  | .nam => Nam | .blk => Blk | .nod => Nod | .dsk => Dsk | .opn => Opn | .spt => Spt | .row => Rwo | .akt => Akt
  | .fil => Fil | .cnf => Cnf | .tbl => Tbl | .wld => Wld | .inf => Inf | .rpl => Rpl

abbrev SC.fs : SC → List FT
  | .nam => [.str, .int]
  | .blk => [.int, .L .u8]
  | .nod => [.int, .int, .int, .int, .int, .L .blk, .str, .L .nam]
  | .dsk => [.int, .int, .int, .L .nod]
  | .opn => [.int, .str, .str, .int, .int, .int, .L .u8]
  | .spt => [.int, .int]
  | .row => [.int, .int, .int]
  | .akt => [.int, .int, .L .u8]
  | .fil => [.int, .L .blk]
  | .cnf => [.L .int, .int]
  | .tbl => [.int, .L .row, .L .row, .int]
  | .wld => [.L .int, .int, .L .dsk, .int, .L .row, .L .row, .int]
  | .inf => [.int, .int, .int, .int, .int]
  | .rpl => [.L .u8, .L .str, .int, .int, .int, .int, .int]

def SC.mk : (s : SC) → FP s.fs → s.T
  | .nam, (x : Str × Int) => (⟨x.1, x.2⟩ : Nam)
  | .blk, (x : Int × List UInt8) => (⟨x.1, x.2⟩ : Blk)
  | .nod, (x : Int × Int × Int × Int × Int × List Blk × Str × List Nam) => (⟨x.1, x.2.1, x.2.2.1, x.2.2.2.1, ⟨x.2.2.2.2.1, x.2.2.2.2.2.1⟩, x.2.2.2.2.2.2.1, x.2.2.2.2.2.2.2⟩ : Nod)
  | .dsk, (x : Int × Int × Int × List Nod) => (⟨x.1, x.2.1, x.2.2.1, x.2.2.2⟩ : Dsk)
  | .opn, (x : Int × Str × Str × Int × Int × Int × List UInt8) => (⟨x.1, x.2.1, x.2.2.1, x.2.2.2.1, x.2.2.2.2.1, x.2.2.2.2.2.1, x.2.2.2.2.2.2⟩ : Opn)
  | .spt, (x : Int × Int) => (⟨x.1, x.2⟩ : Spt)
  | .row, (x : Int × Int × Int) => (⟨⟨x.1, x.2.1⟩, x.2.2⟩ : Rwo)
  | .akt, (x : Int × Int × List UInt8) => (⟨x.1, x.2.1, x.2.2⟩ : Akt)
  | .fil, (x : Int × List Blk) => (⟨x.1, x.2⟩ : Fil)
  | .cnf, (x : List Int × Int) => (⟨x.1, x.2⟩ : Cnf)
  | .tbl, (x : Int × List Rwo × List Rwo × Int) => (⟨x.1, x.2.1, x.2.2.1, x.2.2.2⟩ : Tbl)
  | .wld, (x : List Int × Int × List Dsk × Int × List Rwo × List Rwo × Int) => (⟨⟨x.1, x.2.1⟩, x.2.2.1, ⟨x.2.2.2.1, x.2.2.2.2.1, x.2.2.2.2.2.1, x.2.2.2.2.2.2⟩⟩ : Wld)
  | .inf, (x : Int × Int × Int × Int × Int) => (⟨x.1, x.2.1, x.2.2.1, x.2.2.2.1, x.2.2.2.2⟩ : Inf)
  | .rpl, (x : List UInt8 × List Str × Int × Int × Int × Int × Int) => (⟨x.1, x.2.1, ⟨x.2.2.1, x.2.2.2.1, x.2.2.2.2.1, x.2.2.2.2.2.1, x.2.2.2.2.2.2⟩⟩ : Rpl)

/-- A struct's cells, as data. -/
def SC.un : (s : SC) → s.T → FP s.fs
  | .nam, (x : Nam) => (x.name, x.ino)
  | .blk, (x : Blk) => (x.pos, x.data)
  | .nod, (x : Nod) => (x.ino, x.kind, x.mode, x.links, x.file.size, x.file.blocks, x.target, x.names)
  | .dsk, (x : Dsk) => (x.blocks, x.inodes, x.next, x.nodes)
  | .opn, (x : Opn) => (x.kind, x.path, x.dest, x.mode, x.pos, x.n, x.data)
  | .spt, (x : Spt) => (x.branch, x.ino)
  | .row, (x : Rwo) => (x.spot.branch, x.spot.ino, x.u)
  | .akt, (x : Akt) => (x.kind, x.pos, x.b)
  | .fil, (x : Fil) => (x.size, x.blocks)
  | .cnf, (x : Cnf) => (x.ways, x.policy)
  | .tbl, (x : Tbl) => (x.next, x.rows, x.homes, x.cursor)
  | .wld, (w : Wld) => (w.conf.ways, w.conf.policy, w.disks, w.table.next, w.table.rows, w.table.homes, w.table.cursor)
  | .inf, (x : Inf) => (x.ino, x.kind, x.mode, x.links, x.size)
  | .rpl, (x : Rpl) => (x.data, x.names, x.info.ino, x.info.kind, x.info.mode, x.info.links, x.info.size)

/-- A struct's cells. -/
def SC.cs : (s : SC) → s.T → List AV
  | .nam, (x : Nam) => [.str x.name, .int .i64 x.ino]
  | .blk, (x : Blk) => [.int .i64 x.pos, .tl .u8 x.data]
  | .nod, (x : Nod) => [.int .i64 x.ino, .int .i64 x.kind, .int .i64 x.mode, .int .i64 x.links, .int .i64 x.file.size, .tl .blk x.file.blocks, .str x.target, .tl .nam x.names]
  | .dsk, (x : Dsk) => [.int .i64 x.blocks, .int .i64 x.inodes, .int .i64 x.next, .tl .nod x.nodes]
  | .opn, (x : Opn) => [.int .i64 x.kind, .str x.path, .str x.dest, .int .i64 x.mode, .int .i64 x.pos, .int .i64 x.n, .tl .u8 x.data]
  | .spt, (x : Spt) => [.int .i64 x.branch, .int .i64 x.ino]
  | .row, (x : Rwo) => [.int .i64 x.spot.branch, .int .i64 x.spot.ino, .int .i64 x.u]
  | .akt, (x : Akt) => [.int .i64 x.kind, .int .i64 x.pos, .tl .u8 x.b]
  | .fil, (x : Fil) => [.int .i64 x.size, .tl .blk x.blocks]
  | .cnf, (x : Cnf) => [.tl .int x.ways, .int .i64 x.policy]
  | .tbl, (x : Tbl) => [.int .i64 x.next, .tl .row x.rows, .tl .row x.homes, .int .i64 x.cursor]
  | .wld, (w : Wld) => [.tl .int w.conf.ways, .int .i64 w.conf.policy, .tl .dsk w.disks, .int .i64 w.table.next, .tl .row w.table.rows, .tl .row w.table.homes, .int .i64 w.table.cursor]
  | .inf, (x : Inf) => [.int .i64 x.ino, .int .i64 x.kind, .int .i64 x.mode, .int .i64 x.links, .int .i64 x.size]
  | .rpl, (x : Rpl) => [.tl .u8 x.data, .tl .str x.names, .int .i64 x.info.ino, .int .i64 x.info.kind, .int .i64 x.info.mode, .int .i64 x.info.links, .int .i64 x.info.size]

/-- What an argument is, an answer: data alone. -/
inductive DT where
  | int | u8 | bool | str | L (g : GT) | S (s : SC) | look (s : SC) | lk (f : FT) | clo (f : FuncId) (d : DT) | nil | cons (a b : DT)

abbrev DT.T : DT → Type
  | .int => Int
  | .u8 => UInt8
  | .bool => Bool
  | .str => Str
  | .L g => List g.T
  | .S s => s.T
  | .look s => s.T
  | .lk f => f.T
  | .clo _ d => d.T
  | .nil => Unit
  | .cons a b => a.T × b.T

def DT.en : (d : DT) → d.T → List AV
  | .int, (n : Int) => [.int .i64 n]
  | .u8, (b : UInt8) => [.int .u8 b.toNat]
  | .bool, (b : Bool) => [.ub b]
  | .str, (s : Str) => [.str s]
  | .L g, (l : List g.T) => [.tl g l]
  | .S s, x => [.agg (s.cs x)]
  | .look s, x => [.cptr (.agg (s.cs x))]
  | .lk f, x => [.cptr (.agg [f.en x])]
  | .clo f d, x => [.fn f (d.en x)]
  | .nil, _ => []
  | .cons a b, x => a.en x.1 ++ b.en x.2

def de1 {α : Type} (f : AV → Option α) : List AV → Option (α × List AV)
  | a :: r => match f a with
    | some x => some (x, r)
    | none => none
  | [] => none

def optMap {α β : Type} (f : α → β) : Option α → Option β
  | some x => some (f x)
  | none => none

def whole {α : Type} : Option (α × List AV) → Option α
  | some (x, []) => some x
  | _ => none

/-- Bytes whose ranges are asked elsewhere. -/
def rawB : AV → Option UInt8
  | .int .u8 n => some (UInt8.ofNat n.toNat)
  | _ => none

def rawL : AV → Option (List UInt8)
  | .sl xs => decAll rawB xs
  | a => decL .u8 a

def rawLL : AV → Option (List (List UInt8))
  | .sl xs => decAll rawL xs
  | a => decL .bss a

def DT.de : (d : DT) → List AV → Option (d.T × List AV)
  | .int => de1 decInt
  | .u8 => de1 rawB
  | .L .u8 => de1 rawL
  | .L .bss => de1 rawLL
  | .bool => de1 decBool
  | .str => de1 decStr
  | .L g => de1 (decL g)
  | .S s => de1 fun a => match a with
    | .agg cs => optMap s.mk (FP.de s.fs cs)
    | _ => none
  | .look s => de1 fun a => match a with
    | .cptr (.agg cs) => optMap s.mk (FP.de s.fs cs)
    | _ => none
  | .lk f => de1 fun a => match a with
    | .cptr (.agg [c]) => f.de c
    | _ => none
  | .clo f d => de1 fun a => match a with
    | .fn g cs => bif g.beq f then whole (d.de cs) else none
    | _ => none
  | .nil => fun l => some ((), l)
  | .cons a b => fun l => match a.de l with
    | some (x, r) => match b.de r with
      | some (y, q) => some ((x, y), q)
      | none => none
    | none => none

def rngB : AV → Prop
  | .int .u8 n => 0 ≤ n ∧ n < 256
  | _ => True

def rngL : List AV → Prop
  | [] => True
  | [a] => rngB a
  | a :: b :: r => rngB a ∧ rngL (b :: r)

/-- How many values. -/
def DT.ar : DT → Nat
  | .nil => 0
  | .cons a b => a.ar + b.ar
  | _ => 1

def andO : Option Prop → Option Prop → Option Prop
  | none, q => q
  | some p, none => some p
  | some p, some q => some (p ∧ q)

/-- What is asked of arguments: their bytes' ranges. -/
def DT.chk : (d : DT) → List AV → Option Prop
  | .u8, l => (match l with
    | a :: _ => some (rngB a)
    | [] => none)
  | .L .u8, l => (match l with
    | .sl (a :: xs) :: _ => some (rngL (a :: xs))
    | _ => none)
  | .L .bss, l => (match l with
    | .sl xs :: _ => rngLL xs
    | _ => none)
  | .clo _ d, l => (match l with
    | .fn _ cs :: _ => d.chk cs
    | _ => none)
  | .cons a b, l => andO (a.chk l) (b.chk (l.drop a.ar))
  | _, _ => none
where rngLL : List AV → Option Prop
  | [] => none
  | .sl (a :: xs) :: r => andO (some (rngL (a :: xs))) (rngLL r)
  | _ :: r => rngLL r

/-- One value as data, ranges asked. -/
def DT.deC : (d : DT) → AV → (d.T → Prop) → Prop
  | .u8, a, k => decB k a
  | .L g, a, k => decLC g k a
  | .S s, a, k => match a with
    | .agg cs => FP.deC s.fs cs fun x => k (s.mk x)
    | _ => False
  | d, a, k => askP (d.chk [a]) (optC k (whole (d.de [a])))

/-! Structs, some of whose rows are one's own: a row of marks. -/

def FO.cnt : FT → Bool → Nat
  | .L _, true => 1
  | _, _ => 0

def FO.en : (f : FT) → Bool → f.T → Nat → AV
  | .L g, true, (l : List g.T), n => .gs g n l.length
  | f, _, x, _ => f.en x

def FO.hp : (f : FT) → Bool → f.T → Nat → Heap
  | .L g, true, (l : List g.T), n => [(n, .tarr g l)]
  | _, _, _, _ => []

def hd : List Bool → Bool
  | b :: _ => b
  | [] => false

def FPO.cnt : List FT → List Bool → Nat
  | [], _ => 0
  | [f], m => FO.cnt f (hd m)
  | f :: g :: r, m => FO.cnt f (hd m) + FPO.cnt (g :: r) m.tail

def FPO.en : (l : List FT) → List Bool → FP l → Nat → List AV
  | [], _, _, _ => []
  | [f], m, x, n => [FO.en f (hd m) x n]
  | f :: g :: r, m, x, n => FO.en f (hd m) x.1 n :: FPO.en (g :: r) m.tail x.2 (n + FO.cnt f (hd m))

def FPO.hp : (l : List FT) → List Bool → FP l → Nat → Heap
  | [], _, _, _ => []
  | [f], m, x, n => FO.hp f (hd m) x n
  | f :: g :: r, m, x, n => FO.hp f (hd m) x.1 n ++ FPO.hp (g :: r) m.tail x.2 (n + FO.cnt f (hd m))

/-- Values with rows and boxes of their own. -/
inductive VT where
  | dt (d : DT) | dead | gs (g : GT) | boxS (s : SC) (m : List Bool) | aggS (s : SC) (m : List Bool) | box (t : VT) | nil | cons (a b : VT) | consA (a : VT) (g : GT) (j : Nat) (b : VT) | agg (t : VT) | dgs

abbrev VT.T : VT → Type
  | .dt d => d.T
  | .dead => Unit
  | .gs g => List g.T
  | .boxS s _ => s.T
  | .aggS s _ => s.T
  | .box t => t.T
  | .nil => Unit
  | .cons a b => a.T × b.T
  | .consA a _ _ b => a.T × Nat × b.T
  | .agg t => t.T
  | .dgs => List Blk × Nat

def VT.cnt : VT → Nat
  | .gs _ => 1
  | .boxS s m => 1 + FPO.cnt s.fs m
  | .aggS s m => FPO.cnt s.fs m
  | .box t => 1 + t.cnt
  | .cons a b => a.cnt + b.cnt
  | .consA a _ _ b => a.cnt + b.cnt
  | .agg t => t.cnt
  | .dgs => 1
  | _ => 0

def VT.en : (t : VT) → t.T → Nat → List AV
  | .dt d, x, _ => d.en x
  | .dead, _, _ => [.dead]
  | .gs g, (l : List g.T), n => [.gs g n l.length]
  | .boxS _ _, _, n => [.ptr n 0]
  | .aggS s m, x, n => [.agg (FPO.en s.fs m (s.un x) n)]
  | .box _, _, n => [.ptr n 0]
  | .nil, _, _ => []
  | .cons a b, x, n => a.en x.1 n ++ b.en x.2 (n + a.cnt)
  | .consA a g j b, x, n => a.en x.1 n ++ (.gs g (n + j) x.2.1 :: b.en x.2.2 (n + a.cnt))
  | .agg t, x, n => [.agg (t.en x n)]
  | .dgs, (l : List Blk × Nat), n => [.gs .blk n l.1.length]

def VT.hp : (t : VT) → t.T → Nat → Heap
  | .gs g, (l : List g.T), n => [(n, .tarr g l)]
  | .boxS s m, x, n => (n, .cells (FPO.en s.fs m (s.un x) (n + 1))) :: FPO.hp s.fs m (s.un x) (n + 1)
  | .aggS s m, x, n => FPO.hp s.fs m (s.un x) n
  | .box t, x, n => (n, .cells (t.en x (n + 1))) :: t.hp x (n + 1)
  | .cons a b, x, n => a.hp x.1 n ++ b.hp x.2 (n + a.cnt)
  | .consA a _ _ b, x, n => a.hp x.1 n ++ b.hp x.2.2 (n + a.cnt)
  | .agg t, x, n => t.hp x n
  | .dgs, (l : List Blk × Nat), n => [(n, .deep l.1 l.2)]
  | _, _, _ => []

noncomputable section

/-- A row of one's own. -/
def rowV (H : Heap) (F : List Nat) (g : GT) (k : List g.T → Option Nat → Prop) : AV → Prop
  | .gs g1 b n => must (g1.size.beq g.size) (match hlive H F b with
    | some (.tarr g' l) => optC (fun l => n = l.length ∧ k l (some b)) (listOf g (dec g) (.tl g' l))
    | _ => False)
  | .osl m b lo n => must (m.beq g.size && lo.beq 0) (match hlive H F b with
    | some (.tarr g' l) => optC (fun l => n = l.length ∧ k l (some b)) (listOf g (dec g) (.tl g' l))
    | some (.arr m' xs) => must (m'.beq g.size) (decAllP g xs fun l => n = l.length ∧ k l (some b))
    | _ => False)
  | .nils => k [] none
  | .emp => k [] none
  | _ => False

/-- A row of one's own, its elements' rows one's own, too. -/
def rowDV (H : Heap) (F : List Nat) (k : List Blk × Nat → Option Nat → Prop) : AV → Prop
  | .gs g1 b n => must (g1.size.beq 2) (match hlive H F b with
    | some (.deep l q) => n = l.length ∧ k (l, q) (some b)
    | _ => False)
  | .osl m b lo n => must (m.beq 2 && lo.beq 0) (match hlive H F b with
    | some (.deep l q) => n = l.length ∧ k (l, q) (some b)
    | _ => False)
  | .nils => k ([], 0) none
  | .emp => k ([], 0) none
  | _ => False

def vwO (H : Heap) (F : List Nat) (f : FT) (b : Bool) (a : AV) (k : f.T → List (Option Nat) → List Nat → Prop) : Prop :=
  match f, b, k with
  | .L g, true, k => rowV H F g (fun x ob => k x [ob] []) a
  | f, _, k => resC true H DEEP a fun y is => f.deC y fun x => k x [] is

def vwP (H : Heap) (F : List Nat) : (l : List FT) → List Bool → List AV → (FP l → List (Option Nat) → List Nat → Prop) → Prop
  | [], _, [], k => k () [] []
  | [f], m, [a], k => vwO H F f (hd m) a k
  | f :: g :: r, m, a :: q, k => vwO H F f (hd m) a fun x s1 i1 => vwP H F (g :: r) m.tail q fun y s2 i2 => k (x, y) (s1 ++ s2) (i1 ++ i2)
  | _, _, _, _ => False

/-- A slice of one's own row that another value has, too: which row, how long. -/
def rowA (g : GT) (k : Nat → Nat → Prop) : AV → Prop
  | .gs g1 b n => must (g1.size.beq g.size) (k b n)
  | .osl m b lo n => must (m.beq g.size && lo.beq 0) (k b n)
  | _ => False

def isAt (b : Nat) : Option (Option Nat) → Bool
  | some (some c) => c.beq b
  | _ => false

abbrev VK (α : Type) := α → List (Option Nat) → List Nat → List AV → Prop

/-- Values as what a code says; where the rows and boxes lie; of which rows the data is told. -/
def vw (H : Heap) (F : List Nat) : (t : VT) → List AV → VK t.T → Prop
  | .dead, l, k => match l with
    | _ :: r => k () [] [] r
    | [] => False
  | .dt d, l, k => match l with
    | a :: r => resC true H DEEP a fun y is => d.deC y fun x => k x [] is r
    | [] => False
  | .gs g, l, k => match l with
    | a :: r => rowV H F g (fun x b => k x [b] [] r) a
    | [] => False
  | .boxS s m, l, k => match l with
    | .ptr b 0 :: r => (match hlive H F b with
      | some (.cells cs) => vwP H F s.fs m cs fun x src is => k (s.mk x) (some b :: src) is r
      | _ => False)
    | _ => False
  | .aggS s m, l, k => match l with
    | .agg cs :: r => vwP H F s.fs m cs fun x src is => k (s.mk x) src is r
    | _ => False
  | .box t, l, k => match l with
    | .ptr b 0 :: r => (match hlive H F b with
      | some (.cells cs) => vw H F t cs fun x src is rest => must rest.isEmpty (k x (some b :: src) is r)
      | _ => False)
    | _ => False
  | .nil, l, k => k () [] [] l
  | .cons a b, l, k => vw H F a l fun x s1 i1 l1 => vw H F b l1 fun y s2 i2 l2 => k (x, y) (s1 ++ s2) (i1 ++ i2) l2
  | .consA a g j b, l, k => vw H F a l fun x s1 i1 l1 => match l1 with
    | v :: l1 => rowA g (fun q n => must (isAt q s1[j]?) (vw H F b l1 fun y s2 i2 l2 => k (x, n, y) (s1 ++ s2) (i1 ++ i2) l2)) v
    | [] => False
  | .agg t, l, k => match l with
    | .agg cs :: r => vw H F t cs fun x src is rest => must rest.isEmpty (k x src is r)
    | _ => False
  | .dgs, l, k => match l with
    | a :: r => rowDV H F (fun x b => k x [b] [] r) a
    | [] => False

def somes : List (Option Nat) → List Nat
  | [] => []
  | some b :: r => b :: somes r
  | none :: r => somes r

def onceB : List Nat → Bool
  | [] => true
  | a :: r => !(isIn a r) && onceB r

/-- A state as what a code says of some slots. -/
def view (vals : List AV) (t : VT) (s : St) (k : t.T → Prop) : Prop :=
  vw s.H s.F t vals fun x src is rest => must (rest.isEmpty && onceB (somes src) && disj is (somes src)) (k x)

def stOf (live : List Nat) (t : VT) (x : t.T) : St := ⟨frK live (t.en x 0), t.hp x 0, [], MANY⟩

def slots (live : List Nat) (s : St) : List AV := live.map (getK s.fr)

/-! ### Trees -/

inductive T (ρ : Type) : Type 1 where
  | fail : T ρ
  | ret (x : ρ) : T ρ
  | ite (c : Bool) (a b : T ρ) : T ρ
  | iteP (c : Prop) (a b : T ρ) : T ρ
  | req (c : Prop) (a : T ρ) : T ρ
  | same {α : Type} (x : α) (a : T ρ) : T ρ
  | bind {α : Type} (o : Option α) (f : α → T ρ) : T ρ
  | case {α β : Type} (r : α ⊕ β) (f : α → T ρ) (g : β → T ρ) : T ρ

def T.wp {ρ : Type} (t : T ρ) (K : ρ → Prop) : Prop :=
  @T.rec ρ (fun _ => Prop) False K (fun c _ _ a b => (c = true → a) ∧ (c = false → b)) (fun c _ _ a b => (c → a) ∧ (¬ c → b)) (fun c _ a => c ∧ a) (fun x _ a => x = x ∧ a)
    (fun o _ f => ∃ x, o = some x ∧ f x) (fun {α β} r _ _ f g => @Sum.rec α β (fun _ => Prop) f g r) t

open Classical in
def T.run {ρ : Type} : T ρ → Option ρ
  | .fail => none
  | .ret x => some x
  | .ite c a b => if c then a.run else b.run
  | .iteP c a b => if c then a.run else b.run
  | .req c a => if c then a.run else none
  | .same _ a => a.run
  | .bind o f => o.bind fun x => (f x).run
  | .case r f g => match r with
    | .inl x => (f x).run
    | .inr y => (g y).run

def iterT {π ρ : Type} (t : π → T (π ⊕ ρ)) : Nat → π → Option ρ
  | 0, _ => none
  | n + 1, p => match (t p).run with
    | none => none
    | some (.inl q) => iterT t n q
    | some (.inr r) => some r

open Classical in
/-- A loop. -/
def fixT {π ρ : Type} (t : π → T (π ⊕ ρ)) (p : π) : Option ρ :=
  if h : ∃ r n, iterT t n p = some r then some h.choose else none

/-! ### Loops, functions -/

/-- A way out of a loop. -/
structure Exi where
  ax : AX
  live : List Nat
  vt : VT

abbrev ExT : List Exi → Type
  | [] => Empty
  | [e] => e.vt.T
  | e :: f :: r => e.vt.T ⊕ ExT (f :: r)

def outK : (ex : List Exi) → ExT ex → (AX → St → Prop) → Prop
  | [], _, _ => False
  | [e], x, K => K e.ax (stOf e.live e.vt x)
  | e :: f :: r, x, K => @Sum.rec _ _ (fun _ => Prop) (fun a => K e.ax (stOf e.live e.vt a)) (fun b => outK (f :: r) b K) x

def AX.same : AX → AX → Bool
  | .normal, .normal => true
  | .exit i, .exit j => i.beq j
  | .ret, .ret => true
  | _, _ => false

def exitV : (ex : List Exi) → AX → St → (ExT ex → Prop) → Prop
  | [], _, _, _ => False
  | [e], ax, s, k => must (AX.same ax e.ax) (view (slots e.live s) e.vt s k)
  | e :: f :: r, ax, s, k => bK (AX.same ax e.ax) (view (slots e.live s) e.vt s fun x => k (.inl x)) (exitV (f :: r) ax s fun y => k (.inr y))

/-- What a loop does, by its rounds. -/
def loopT (live : List Nat) (t : VT) (ex : List Exi) (F : t.T → Option (ExT ex)) (s : St) (K : AX → St → Prop) : Prop :=
  view (slots live s) t s fun p => ∃ r, F p = some r ∧ outK ex r K

def roundT (S : SE) (live : List Nat) (t : VT) (ex : List Exi) (b : Code) (p : t.T) (K : t.T ⊕ ExT ex → Prop) : Prop :=
  codeC S b (stOf live t p) fun x s =>
    @AX.rec (fun _ => Prop) (view (slots live s) t s fun q => K (.inl q)) (fun id => exitV ex (.exit id) s fun r => K (.inr r)) (exitV ex .ret s fun r => K (.inr r)) x

def endA (T : Tabs) (rs : List ResultVar) (r : VT) (s : St) (K : r.T → Prop) : Prop :=
  optC (fun vs => view vs r s K) (aresult T s.fr s.H rs)

def endT (T : Tabs) (rs : List ResultVar) (r : VT) (K : r.T → Prop) (x : AX) (s : St) : Prop :=
  must (s.nx.ble WIDE) (@AX.rec (fun _ => Prop) (endA T rs r s K) (fun _ => False) (endA T rs r s K) x)

/-- A function, called with values. -/
def funA (S : SE) (fn : Func) (args : List AV) (r : VT) (K : r.T → Prop) : Prop :=
  optC (fun code => must (args.length.ble fn.ntmps) (codeC S code ⟨Fr.args args 0 (Fr.full 10), [], [], 0⟩ (endT S.T fn.results.toList r K))) fn.body

/-- A function, called with data. -/
def funT (S : SE) (fn : Func) (a : DT) (r : VT) (x : a.T) (K : r.T → Prop) : Prop := funA S fn (a.en x) r K

/-- A contract: what arguments, what answer. -/
def conT (a : DT) (r : VT) (F : a.T → Option r.T) (l : List AV) : Option Con :=
  match whole (a.de l) with
  | some x => some ⟨a.chk l, r.T, F x, fun y => oneOf (r.en y 0), fun y => r.hp y 0⟩
  | none => none

end

def conOr (g h : List AV → Option Con) (l : List AV) : Option Con :=
  match g l with
  | some c => some c
  | none => h l

def loopAt (fn : Func) (k : Nat) : Code := ((fn.body.map loopsOf).getD []).getD k .skip

end Go.Proofs.Ytmkmjjodiicmlaa.VS

/- Values told by a code: what it tells holds. Conditions: none. -/
namespace Go.Proofs.Ytmkmjjodiicmlaa.VS
variable [Syms]

omit [Syms] in
theorem Fr.get_set_or (t : Fr) (k j : Nat) (a : AV) : (t.set k a).get j = t.get j ∨ (j = k ∧ (t.set k a).get j = a) := by
  cases h : t.has k with
  | false => rw [Fr.set_not t k a h]; exact .inl rfl
  | true =>
    rw [Fr.get_set t k j a h]
    by_cases e : j = k
    · rw [if_pos e]; exact .inr ⟨e, rfl⟩
    · rw [if_neg e]; exact .inl rfl

omit [Syms] in
theorem Fr.get_deads : ∀ (n k : Nat), (Fr.deads n).get k = und ∨ (Fr.deads n).get k = .dead
  | 0, k => .inl rfl
  | n + 1, k => by
    rw [Fr.deads, Fr.get_nd]
    split
    · exact .inr rfl
    · split
      · exact Fr.get_deads n _
      · exact Fr.get_deads n _

omit [Syms] in
theorem Fr.has_deads : ∀ (n k : Nat), k + 1 < 2 ^ n → (Fr.deads n).has k = true
  | 0, k, h => by simp at h
  | n + 1, k, h => by
    rw [Fr.deads, Fr.has]
    rw [Nat.pow_succ] at h
    split
    · rfl
    · split
      · exact Fr.has_deads n _ (by omega)
      · exact Fr.has_deads n _ (by omega)

omit [Syms] in
theorem Fr.get_deads_in : ∀ (n k : Nat), k + 1 < 2 ^ n → (Fr.deads n).get k = .dead
  | 0, k, h => by simp at h
  | n + 1, k, h => by
    rw [Fr.deads, Fr.get_nd]
    rw [Nat.pow_succ] at h
    split
    · rfl
    · split
      · exact Fr.get_deads_in n _ (by omega)
      · exact Fr.get_deads_in n _ (by omega)

omit [Syms] in
theorem frK_has : ∀ (ks : List Nat) (vs : List AV) (k : Nat), k < 1023 → (frK ks vs).has k = true
  | [], vs, k, h => Fr.has_deads 10 k (by omega)
  | k' :: ks, [], k, h => Fr.has_deads 10 k (by omega)
  | k' :: ks, v :: vs, k, h => by rw [frK, setK_eq, Fr.has_set]; exact frK_has ks vs k h

omit [Syms] in
theorem frK_get : ∀ (ks : List Nat) (vs : List AV) (j : Nat), (frK ks vs).get j = (Fr.deads 10).get j ∨ ∃ (i : Nat) (v : AV), ks[i]? = some j ∧ vs[i]? = some v ∧ (frK ks vs).get j = v
  | [], vs, j => .inl rfl
  | k' :: ks, [], j => .inl rfl
  | k' :: ks, v :: vs, j => by
    rw [frK, setK_eq]
    rcases Fr.get_set_or (frK ks vs) k' j v with h | ⟨rfl, h⟩
    · rw [h]
      rcases frK_get ks vs j with h1 | ⟨i, u, h1, h2, h3⟩
      · exact .inl h1
      · exact .inr ⟨i + 1, u, by simpa using h1, by simpa using h2, h3⟩
    · exact .inr ⟨0, v, rfl, rfl, h⟩


/-! ### Codes -/

omit [Syms] in
theorem cptr_le [Syms] {xs ys : List AV} (h : CLe xs ys) : VLe (.cptr (.agg xs)) (.cptr (.agg ys)) := fun ok hh m v hv => by
  cases hv with
  | cptr g h1 h2 h3 h4 =>
    refine .cptr g h1 h2 (fun j hj => h3 j (by show j < xs.length; rw [h.1]; exact hj)) (fun j y hy => ?_)
    have hj : j < xs.length := by rw [h.1]; exact (List.getElem?_eq_some_iff.1 hy).1
    exact h.2 j _ y (List.getElem?_eq_getElem hj) hy _ _ _ _ (h4 j _ (List.getElem?_eq_getElem hj))

theorem FT.de_le {f : FT} {a : AV} {x : f.T} (h : f.de a = some x) : VLe a (f.en x) := by
  cases f with
  | int => exact (decInt_dec h).le
  | str => exact (decStr_dec h).le
  | L g => exact decL_le h

theorem FP.de_le : ∀ {l : List FT} {q : List AV} {x : FP l}, FP.de l q = some x → CLe q (FP.en l x)
  | [], [], _, _ => .nil
  | [], _ :: _, _, h => by simp [FP.de] at h
  | [f], [], _, h => by simp [FP.de] at h
  | [f], [a], x, h => by
    have h : f.de a = some x := h
    exact .cons (FT.de_le h) .nil
  | [f], _ :: _ :: _, _, h => by simp [FP.de] at h
  | f :: g :: r, [], _, h => by simp [FP.de] at h
  | f :: g :: r, a :: q, x, h => by
    rw [FP.de] at h
    split at h
    · rename_i x1 y1 h1 h2
      cases h
      exact .cons (FT.de_le h1) (FP.de_le h2)
    · cases h

omit [Syms] in
theorem SC.cs_mk (s : SC) (x : FP s.fs) : s.cs (s.mk x) = FP.en s.fs x := by cases s <;> rfl
omit [Syms] in
theorem SC.un_mk (s : SC) (x : FP s.fs) : s.un (s.mk x) = x := by cases s <;> rfl

theorem decLC_le {g : GT} {k : List g.T → Prop} {a : AV} (h : decLC g k a) : ∃ x, k x ∧ VLe a (.tl g x) := by
  have other : optC k (decL g a) → ∃ x, k x ∧ VLe a (.tl g x) := fun h => by
    obtain ⟨x, h1, h2⟩ := optC_some h
    exact ⟨x, h2, decL_le h1⟩
  cases a with
  | sl xs =>
    have h : decAllP g xs k := h
    obtain ⟨l, h1, h2⟩ := decAllP_some h
    exact ⟨l, h2, VLe.row h1⟩
  | _ => exact other h

theorem FT.deC_le {f : FT} {a : AV} {k : f.T → Prop} (h : f.deC a k) : ∃ x, k x ∧ VLe a (f.en x) := by
  cases f with
  | L g => exact decLC_le h
  | int =>
    obtain ⟨x, h1, h2⟩ := optC_some (h : optC k (decInt a))
    exact ⟨x, h2, (decInt_dec h1).le⟩
  | str =>
    obtain ⟨x, h1, h2⟩ := optC_some (h : optC k (decStr a))
    exact ⟨x, h2, (decStr_dec h1).le⟩

theorem FP.deC_le : ∀ {l : List FT} {q : List AV} {k : FP l → Prop}, FP.deC l q k → ∃ x, k x ∧ CLe q (FP.en l x)
  | [], [], k, h => ⟨(), h, .nil⟩
  | [], _ :: _, _, h => h.elim
  | [f], [], _, h => h.elim
  | [f], [a], k, h => by
    obtain ⟨x, h1, h2⟩ := FT.deC_le (f := f) h
    exact ⟨x, h1, .cons h2 .nil⟩
  | [f], _ :: _ :: _, _, h => h.elim
  | f :: g :: r, [], _, h => h.elim
  | f :: g :: r, a :: q, k, h => by
    obtain ⟨x, h1, h2⟩ := FT.deC_le (f := f) h
    obtain ⟨y, h3, h4⟩ := FP.deC_le h1
    exact ⟨(x, y), h3, .cons h2 h4⟩

omit [Syms] in
theorem de1_some {α : Type} {f : AV → Option α} {l : List AV} {x : α} {r : List AV} (h : de1 f l = some (x, r)) : ∃ a, l = a :: r ∧ f a = some x := by
  cases l with
  | nil => cases h
  | cons a l =>
    rw [de1] at h
    split at h
    · rename_i y hy
      cases h
      exact ⟨a, rfl, hy⟩
    · cases h

omit [Syms] in
theorem optMap_some {α β : Type} {f : α → β} {o : Option α} {y : β} (h : optMap f o = some y) : ∃ x, o = some x ∧ f x = y := by
  cases o with
  | none => cases h
  | some x => cases h; exact ⟨x, rfl, rfl⟩

omit [Syms] in
theorem whole_some {α : Type} {o : Option (α × List AV)} {x : α} (h : whole o = some x) : o = some (x, []) := by
  unfold whole at h
  split at h
  · cases h; rfl
  · cases h

omit [Syms] in
theorem preP_and {a b : Option Prop} (h : preP (andO a b)) : preP a ∧ preP b := by
  cases a with
  | none => exact ⟨trivial, h⟩
  | some p =>
    cases b with
    | none => exact ⟨h, trivial⟩
    | some q => exact h

theorem rawB_dec {a : AV} {x : UInt8} (h : rawB a = some x) (hr : rngB a) : Dec1 .u8 a x := by
  unfold rawB at h
  split at h
  · rename_i n
    cases h
    refine byteOf_dec ?_
    show (if 0 ≤ n ∧ n < 256 then some (UInt8.ofNat n.toNat) else none) = _
    exact if_pos hr
  · cases h

theorem rawB_row : ∀ {xs : List AV} {l : List UInt8}, decAll rawB xs = some l → rngL xs → DRow .u8 xs l
  | [], l, h, _ => by cases h; exact .nil
  | [a], l, h, hr => by
    rw [decAll] at h
    split at h
    · rename_i x q h1 h2
      cases h
      cases h2
      exact .cons (rawB_dec h1 hr) .nil
    · cases h
  | a :: b :: r, l, h, hr => by
    rw [decAll] at h
    split at h
    · rename_i x q h1 h2
      cases h
      exact .cons (rawB_dec h1 hr.1) (rawB_row h2 hr.2)
    · cases h

theorem rawL_le {a : AV} {l : List UInt8} (h : rawL a = some l) (hr : ∀ x xs, a = .sl (x :: xs) → rngL (x :: xs)) : VLe a (.tl .u8 l) := by
  unfold rawL at h
  split at h
  · rename_i xs
    refine VLe.row (rawB_row h ?_)
    cases xs with
    | nil => exact trivial
    | cons x xs => exact hr x xs rfl
  · exact decL_le (g := .u8) h

theorem rawLL_row : ∀ {xs : List AV} {l : List (List UInt8)}, decAll rawL xs = some l → preP (DT.chk.rngLL xs) → DRow .bss xs l
  | [], l, h, _ => by cases h; exact .nil
  | a :: r, l, h, hr => by
    rw [decAll] at h
    split at h
    · rename_i x q h1 h2
      cases h
      have hr' : preP (DT.chk.rngLL r) ∧ ∀ y ys, a = .sl (y :: ys) → rngL (y :: ys) := by
        unfold DT.chk.rngLL at hr
        split at hr
        · rename_i h0; cases h0
        · rename_i y ys r' h0
          injection h0 with e1 e2
          subst e1; subst e2
          obtain ⟨k1, k2⟩ := preP_and hr
          exact ⟨k2, fun y' ys' e => by injection e with e; injection e with e1 e2; subst e1; subst e2; exact k1⟩
        · rename_i b r' hno h0
          injection h0 with e1 e2
          subst e1; subst e2
          exact ⟨hr, fun y ys e => (hno y ys e).elim⟩
      have hle := rawL_le h1 hr'.2
      have hcell : a.cells = [a] := by
        unfold rawL at h1
        split at h1
        · rfl
        · unfold decL listOf at h1
          split at h1 <;> first | rfl | cases h1
      have hfit : a.fits = true := by
        unfold rawL at h1
        split at h1
        · rfl
        · unfold decL listOf at h1
          split at h1 <;> first | rfl | cases h1
      exact .cons (Dec1.one hcell rfl hfit hle) (rawLL_row h2 hr'.1)
    · cases h

omit [Syms] in
theorem DT.de_rest : ∀ {d : DT} {l : List AV} {x : d.T} {r : List AV}, d.de l = some (x, r) → r = l.drop d.ar := by
  intro d
  induction d with
  | nil => intro l x r h; cases h; rfl
  | cons a b iha ihb =>
    intro l x r h
    have h : (match a.de l with
      | some (x, r) => (match b.de r with
        | some (y, q) => some ((x, y), q)
        | none => none)
      | none => none) = some (x, r) := h
    split at h
    · rename_i x1 r1 h1
      split at h
      · rename_i y1 q1 h2
        cases h
        rw [ihb h2, iha h1, List.drop_drop]; rfl
      · cases h
    · cases h
  | L g =>
    intro l x r h
    have : ∃ f : AV → Option (List g.T), (DT.L g).de l = de1 f l := by cases g <;> exact ⟨_, rfl⟩
    obtain ⟨f, hf⟩ := this
    rw [hf] at h
    obtain ⟨a, rfl, _⟩ := de1_some h
    rfl
  | int => intro l x r h; obtain ⟨a, rfl, _⟩ := de1_some (f := decInt) h; rfl
  | u8 => intro l x r h; obtain ⟨a, rfl, _⟩ := de1_some (f := rawB) h; rfl
  | bool => intro l x r h; obtain ⟨a, rfl, _⟩ := de1_some (f := decBool) h; rfl
  | str => intro l x r h; obtain ⟨a, rfl, _⟩ := de1_some (f := decStr) h; rfl
  | S s => intro l x r h; obtain ⟨a, rfl, _⟩ := de1_some h; rfl
  | look s => intro l x r h; obtain ⟨a, rfl, _⟩ := de1_some h; rfl
  | lk f => intro l x r h; obtain ⟨a, rfl, _⟩ := de1_some h; rfl
  | clo f d _ => intro l x r h; obtain ⟨a, rfl, _⟩ := de1_some h; rfl

theorem DT.de_le : ∀ {d : DT} {l : List AV} {x : d.T} {r : List AV}, d.de l = some (x, r) → preP (d.chk l) → ∃ l1, l = l1 ++ r ∧ CLe l1 (d.en x) := by
  intro d
  induction d with
  | int => intro l x r h _; replace h := de1_some h; obtain ⟨a, hl, h⟩ := h; subst hl; exact ⟨[a], rfl, .cons (decInt_dec h).le .nil⟩
  | u8 => intro l x r h hp; replace h := de1_some h; obtain ⟨a, hl, h⟩ := h; subst hl; exact ⟨[a], rfl, .cons (rawB_dec h hp).le .nil⟩
  | bool => intro l x r h _; replace h := de1_some h; obtain ⟨a, hl, h⟩ := h; subst hl; exact ⟨[a], rfl, .cons (decBool_dec h).le .nil⟩
  | str => intro l x r h _; replace h := de1_some h; obtain ⟨a, hl, h⟩ := h; subst hl; exact ⟨[a], rfl, .cons (decStr_dec h).le .nil⟩
  | L g =>
    intro l x r h hp
    have pl : ∀ {f : AV → Option (List g.T)}, (DT.L g).de l = de1 f l → (∀ a y, f a = some y → (∀ q, l = a :: q → True) → VLe a (.tl g y)) → ∃ l1, l = l1 ++ r ∧ CLe l1 ((DT.L g).en x) := by
      intro f hf hle
      rw [hf] at h
      obtain ⟨a, rfl, h2⟩ := de1_some h
      exact ⟨[a], rfl, .cons (hle a x h2 (fun _ _ => trivial)) .nil⟩
    cases g with
    | u8 =>
      replace h := de1_some (f := rawL) h
      obtain ⟨a, hl, h⟩ := h
      subst hl
      exact ⟨[a], rfl, .cons (rawL_le h fun y ys e => by subst e; exact hp) .nil⟩
    | bss =>
      replace h := de1_some (f := rawLL) h
      obtain ⟨a, hl, h⟩ := h
      subst hl
      refine ⟨[a], rfl, .cons ?_ .nil⟩
      unfold rawLL at h
      split at h
      · exact VLe.row (rawLL_row h hp)
      · exact decL_le (g := .bss) h
    | _ => exact pl rfl fun a y hy _ => decL_le hy
  | S s =>
    intro l x r h _
    replace h := de1_some h; obtain ⟨a, hl, h⟩ := h; subst hl
    refine ⟨[a], rfl, .cons ?_ .nil⟩
    split at h
    · obtain ⟨y, h1, rfl⟩ := optMap_some h
      have := FP.de_le h1
      rw [← SC.cs_mk] at this
      exact .agg this
    · cases h
  | look s =>
    intro l x r h _
    replace h := de1_some h; obtain ⟨a, hl, h⟩ := h; subst hl
    refine ⟨[a], rfl, .cons ?_ .nil⟩
    split at h
    · obtain ⟨y, h1, rfl⟩ := optMap_some h
      have := FP.de_le h1
      rw [← SC.cs_mk] at this
      exact cptr_le this
    · cases h
  | lk f =>
    intro l x r h _
    replace h := de1_some h; obtain ⟨a, hl, h⟩ := h; subst hl
    refine ⟨[a], rfl, .cons ?_ .nil⟩
    split at h
    · exact cptr_le (.cons (FT.de_le h) .nil)
    · cases h
  | clo f d ih =>
    intro l x r h hp
    replace h := de1_some h; obtain ⟨a, hl, h⟩ := h; subst hl
    refine ⟨[a], rfl, .cons ?_ .nil⟩
    split at h
    · rename_i g cs
      cases hg : g.beq f with
      | true =>
        rw [hg, cond_true] at h
        obtain ⟨l1, h1, h2⟩ := ih (whole_some h) hp
        rw [List.append_nil] at h1
        subst h1
        rw [beq_eq' hg]
        exact .fn h2
      | false => rw [hg] at h; cases h
    · cases h
  | nil => intro l x r h _; cases h; exact ⟨[], rfl, .nil⟩
  | cons a b iha ihb =>
    intro l x r h hp
    have h : (match a.de l with
      | some (x, r) => (match b.de r with
        | some (y, q) => some ((x, y), q)
        | none => none)
      | none => none) = some (x, r) := h
    obtain ⟨p1, p2⟩ := preP_and (show preP (andO (a.chk l) (b.chk (l.drop a.ar))) from hp)
    split at h
    · rename_i x1 r1 h1
      split at h
      · rename_i y1 q1 h2
        cases h
        rw [← DT.de_rest h1] at p2
        obtain ⟨l1, rfl, h3⟩ := iha h1 p1
        obtain ⟨l2, rfl, h4⟩ := ihb h2 p2
        exact ⟨l1 ++ l2, by rw [List.append_assoc], h3.append h4⟩
      · cases h
    · cases h

theorem DT.deW_le {d : DT} {l : List AV} {x : d.T} (h : whole (d.de l) = some x) (hp : preP (d.chk l)) : CLe l (d.en x) := by
  obtain ⟨l1, h1, h2⟩ := DT.de_le (whole_some h) hp
  rw [List.append_nil] at h1
  rw [h1]; exact h2

theorem DT.deC_le {d : DT} {a : AV} {k : d.T → Prop} (h : d.deC a k) : ∃ x, k x ∧ CLe [a] (d.en x) := by
  have other : askP (d.chk [a]) (optC k (whole (d.de [a]))) → ∃ x, k x ∧ CLe [a] (d.en x) := fun h => by
    obtain ⟨hp, h⟩ : preP (d.chk [a]) ∧ optC k (whole (d.de [a])) := by
      cases hq : d.chk [a] with
      | none => rw [hq] at h; exact ⟨trivial, h⟩
      | some p => rw [hq] at h; exact h
    obtain ⟨x, h1, h2⟩ := optC_some h
    exact ⟨x, h2, DT.deW_le h1 hp⟩
  cases d with
  | u8 =>
    have h : decB k a := h
    have h0 : decP .u8 a k := h
    obtain ⟨x, h1, h2⟩ := decP_some h0
    exact ⟨x, h2, .cons h1.le .nil⟩
  | L g =>
    obtain ⟨x, h1, h2⟩ := decLC_le (h : decLC g k a)
    exact ⟨x, h1, .cons h2 .nil⟩
  | S s =>
    cases a with
    | agg cs =>
      obtain ⟨x, h1, h2⟩ := FP.deC_le (h : FP.deC s.fs cs fun x => k (s.mk x))
      rw [← SC.cs_mk] at h2
      exact ⟨_, h1, .cons (.agg h2) .nil⟩
    | _ => exact (h : False).elim
  | _ => exact other h

/-! ### Values -/

omit [Syms] in
theorem hget_append (A B : Heap) (q : Nat) (o : AObj) : hget (A ++ B) q = some o → hget A q = some o ∨ hget B q = some o := by
  induction A with
  | nil => exact fun h => .inr h
  | cons p A ih =>
    rw [List.cons_append, hget_cons p.1 p.2, hget_cons p.1 p.2]
    split
    · exact fun h => .inl h
    · exact ih

/-- What is told of values: their codes under new numbers, the rows and boxes. -/
structure VwG (c : Ctx) (m : Map) (H : Heap) (F : List Nat) (w : World) (cnt : Nat) (en : Nat → List AV) (hp : Nat → Heap) (src : List (Option Nat)) (is : List Nat) (l1 : List AV) : Prop where
  len : src.length = cnt
  live : ∀ b ∈ somes src, ∃ o, hget H b = some o ∧ b ∉ F
  vals : ∀ (ok' : Nat → Prop) (m' : Map) (n : Nat), (∀ β, okB c.X m H F β → ok' β) → (∀ i b, src[i]? = some (some b) → m' (n + i) = m b) → (∀ b ∈ is, ∀ o L β, hget H b = some o → m b = some L → fp o L β → ok' β) →
    l1.length = (en n).length ∧ (∀ (C : Array Value) (o : Nat), CR (okB c.X m H F) w.heap m l1 C o → CR ok' w.heap m' (en n) C o) ∧
    ∀ q o, hget (hp n) q = some o → n ≤ q ∧ q < n + cnt ∧ ((src[q - n]? = some none ∧ Void o) ∨ ∃ b p, src[q - n]? = some (some b) ∧ hget H b = some p ∧ (∀ L β, fp o L β → fp p L β) ∧ ((m b = none ∧ Void o) ∨ ∃ L, m b = some L ∧ ObjR ok' w.heap m' L o))

abbrev VwR (c : Ctx) (m : Map) (H : Heap) (F : List Nat) (w : World) (t : VT) (x : t.T) (src : List (Option Nat)) (is : List Nat) (l1 : List AV) : Prop := VwG c m H F w t.cnt (t.en x) (t.hp x) src is l1

omit [Syms] in
theorem somes_mem {b : Nat} : ∀ {l : List (Option Nat)}, b ∈ somes l ↔ some b ∈ l
  | [] => by simp [somes]
  | some a :: r => by rw [somes, List.mem_cons, List.mem_cons, somes_mem (l := r)]; simp
  | none :: r => by rw [somes, List.mem_cons, somes_mem (l := r)]; simp

omit [Syms] in
theorem somes_append (a b : List (Option Nat)) : somes (a ++ b) = somes a ++ somes b := by
  induction a with
  | nil => rfl
  | cons x a ih => cases x <;> simp [somes, ih]

theorem cr_of1 {ok : Nat → Prop} {h : Array Obj} {m : Map} {a : AV} {C : Array Value} {o : Nat} {v : Value} (h1 : C[o]? = some v) (h2 : VR ok h m a v) : CR ok h m [a] C o := fun j x hx => by
  cases j with
  | zero => simp at hx; subst hx; exact ⟨v, h1, h2⟩
  | succ j => simp at hx

theorem cr_to1 {ok : Nat → Prop} {h : Array Obj} {m : Map} {a : AV} {r : List AV} {C : Array Value} {o : Nat} (H : CR ok h m (a :: r) C o) : ∃ v, C[o]? = some v ∧ VR ok h m a v := H 0 a rfl

section
variable {c : Ctx} {m : Map} {H : Heap} {F : List Nat} {w : World}

theorem tree_vr (hs : SR c m H F w) {ok' : Nat → Prop} {m' : Map} {a y : AV} {is : List Nat} {d : Nat} (hr : resolve true H d a = some (y, is)) (hok : ∀ β, okB c.X m H F β → ok' β) (his : ∀ b ∈ is, ∀ o L β, hget H b = some o → m b = some L → fp o L β → ok' β)
    {v : Value} (hv : VR (okB c.X m H F) w.heap m a v) : VR ok' w.heap m' y v :=
  (resolve_vr (I := fun b => b ∈ is) hok hs.arrs (fun b o L β hb hg hm hf => his b hb o L β hg hm hf) d a y is v hr (fun b hb => hb) hv).mono (fun β C e z h1 h2 => ⟨h1, h2⟩) (fun b L hb => by cases hb)

theorem trees_cr (hs : SR c m H F w) {ok' : Nat → Prop} {m' : Map} : ∀ {l : List AV} {p : List AV × List Nat}, resolveAll true H l = some p → (∀ β, okB c.X m H F β → ok' β) → (∀ b ∈ p.2, ∀ o L β, hget H b = some o → m b = some L → fp o L β → ok' β) →
    ∀ {C : Array Value} {o : Nat}, CR (okB c.X m H F) w.heap m l C o → CR ok' w.heap m' p.1 C o ∧ p.1.length = l.length
  | [], p, h, _, _, C, o, _ => by
    cases h
    exact ⟨fun j x hx => by simp at hx, rfl⟩
  | a :: l, p, h, hok, his, C, o, hc => by
    rw [resolveAll] at h
    split at h
    · rename_i y q hy hq
      cases h
      obtain ⟨v, h1, h2⟩ := hc 0 a rfl
      obtain ⟨k1, k2⟩ := trees_cr hs hq hok (fun b hb => his b (List.mem_append_right _ hb)) (C := C) (o := o + 1) (fun j x hx => by
        obtain ⟨v, h1, h2⟩ := hc (j + 1) x (by simpa using hx)
        exact ⟨v, by rw [← h1]; congr 1; omega, h2⟩)
      refine ⟨fun j x hx => ?_, by simp [k2]⟩
      cases j with
      | zero => simp at hx; subst hx; exact ⟨v, h1, tree_vr hs hy hok (fun b hb => his b (List.mem_append_left _ hb)) h2⟩
      | succ j =>
        obtain ⟨u, h3, h4⟩ := k1 j x (by simpa using hx)
        exact ⟨u, by rw [← h3]; congr 1; omega, h4⟩
    · cases h

omit [Syms] in
theorem void_tarr {g : GT} {l : List g.T} (h : Void (.tarr g l)) : l = [] := by
  rcases h with ⟨t, h⟩ | ⟨s, h⟩ | ⟨s, h⟩
  · cases h; rfl
  · cases h
  · cases h
omit [Syms] in
theorem void_arr {s : Nat} {l : List AV} (h : Void (.arr s l)) : l = [] := by
  rcases h with ⟨t, h⟩ | ⟨s, h⟩ | ⟨s, h⟩
  · cases h
  · cases h; rfl
  · cases h

/-- A row of one's own, told. -/
theorem rowV_ok (hs : SR c m H F w) {g : GT} {k : List g.T → Option Nat → Prop} {a : AV} (h : rowV H F g k a) : ∃ x b, k x b ∧ VwG c m H F w 1 (fun n => [.gs g n x.length]) (fun n => [(n, .tarr g x)]) [b] [] [a] := by
  have fin : ∀ (b : Nat) (o : AObj) (x : List g.T), hget H b = some o → b ∉ F → ObjLe o (.tarr g x) → (Void o → x = []) → (∀ ok hh m v, VR ok hh m a v → VR ok hh m (.gs g b x.length) v) → VwG c m H F w 1 (fun n => [.gs g n x.length]) (fun n => [(n, .tarr g x)]) [some b] [] [a] := by
    intro b o x hb hF hle hvd hv
    refine ⟨rfl, fun b' hb' => ?_, fun ok' m' n hok hm his => ⟨rfl, fun C q hc => ?_, fun q o' hq => ?_⟩⟩
    · simp [somes] at hb'; subst hb'; exact ⟨o, hb, hF⟩
    · obtain ⟨v, h1, h2⟩ := cr_to1 hc
      refine cr_of1 h1 ?_
      show VR ok' w.heap m' (.gs g n x.length) v
      have h3 := hv _ _ _ _ h2
      have hmn : m' n = m b := hm 0 b rfl
      generalize x.length = k0 at h3
      have : VR ok' w.heap m' (.gs g n k0) v := by
        cases h3 with
        | gsE => exact .gsE
        | gs h3 =>
          cases h3 with
          | oslE q1 q2 q3 q4 => exact .gs (.oslE (by rw [hmn]; exact q1) q2 q3 q4)
          | osl q1 q2 q3 q4 q5 q6 q7 q8 => exact .gs (.osl (by rw [hmn]; exact q1) q2 q3 q4 q5 q6 q7 q8)
      exact this
    · simp only [hget_cons] at hq
      split at hq
      · rename_i e
        subst e
        cases hq
        refine ⟨Nat.le_refl _, by omega, .inr ⟨b, o, by simp, hb, fun L β hf => .inl ((flat_tarr _ _).fp hf), ?_⟩⟩
        rcases hs.all b o hb with ⟨L, h1, h2⟩ | ⟨h1, h2⟩
        · refine .inr ⟨L, h1, ?_⟩
          have := hle.1 _ _ _ _ h2
          have h3 : ObjR ok' w.heap m' L (.tarr g x) := by
            obtain ⟨j1, j2, j3, j4, C, e, z, j5, j6, j7, j8, j9⟩ := this
            exact ⟨j1, j2, j3, j4, C, e, z, j5, j6, j7, j8, encs_flat_vr hok j9⟩
          exact h3
        · refine .inl ⟨h1, ?_⟩
          rw [hvd h2]; exact .inl ⟨g, rfl⟩
      · cases hq
  have nil : k [] none → (∀ ok hh m v, VR ok hh m a v → ∃ a', v = .slice a' 0 0) → ∃ x b, k x b ∧ VwG c m H F w 1 (fun n => [.gs g n x.length]) (fun n => [(n, .tarr g x)]) [b] [] [a] := by
    intro hk hv
    refine ⟨[], none, hk, rfl, fun b' hb' => (by simp [somes] at hb'), fun ok' m' n hok hm his => ⟨rfl, fun C q hc => ?_, fun q o' hq => ?_⟩⟩
    · obtain ⟨v, h1, h2⟩ := cr_to1 hc
      obtain ⟨a', rfl⟩ := hv _ _ _ _ h2
      exact cr_of1 h1 .gsE
    · simp only [hget_cons] at hq
      split at hq
      · rename_i e
        subst e
        cases hq
        exact ⟨Nat.le_refl _, by omega, .inl ⟨by simp, .inl ⟨g, rfl⟩⟩⟩
      · cases hq
  unfold rowV at h
  split at h
  · rename_i g1 b n
    replace h := must_and h
    obtain ⟨hg, h⟩ := h
    have hg := beq_eq' hg
    split at h
    · rename_i g' l hb
      obtain ⟨hb, hF⟩ := hlive_some hb
      replace h := optC_some h
      obtain ⟨x, h1, h2, h3⟩ := h
      obtain ⟨e, rfl⟩ := listOf_tl h1
      subst e
      refine ⟨_, _, h3, fin b _ _ hb hF (ObjLe.refl _) void_tarr fun ok hh m v hv => ?_⟩
      rw [← h2]
      exact gs_le hg rfl _ _ _ _ hv
    · exact h.elim
  · rename_i m0 b lo n
    replace h := must_and h
    obtain ⟨hg, h⟩ := h
    simp only [Bool.and_eq_true] at hg
    have hg1 := beq_eq' hg.1
    have hg2 := beq_eq' hg.2
    subst hg1; subst hg2
    split at h
    · rename_i g' l hb
      obtain ⟨hb, hF⟩ := hlive_some hb
      replace h := optC_some h
      obtain ⟨x, h1, h2, h3⟩ := h
      obtain ⟨e, rfl⟩ := listOf_tl h1
      subst e
      refine ⟨_, _, h3, fin b _ _ hb hF (ObjLe.refl _) void_tarr fun ok hh m v hv => ?_⟩
      rw [← h2]
      obtain ⟨a', c', hv2, _⟩ := hv.osl_any
      subst hv2
      exact .gs hv
    · rename_i m' xs hb
      obtain ⟨hb, hF⟩ := hlive_some hb
      replace h := must_and h
      obtain ⟨hg3, h⟩ := h
      have hg3 := beq_eq' hg3
      subst hg3
      replace h := decAllP_some h
      obtain ⟨x, h1, h2, h3⟩ := h
      refine ⟨_, _, h3, fin b _ _ hb hF h1.obj (fun hv => ?_) fun ok hh m v hv => ?_⟩
      · have := void_arr hv
        subst this
        cases h1; rfl
      · rw [← h2]
        obtain ⟨a', c', hv2, _⟩ := hv.osl_any
        subst hv2
        exact .gs hv
    · exact (h : False).elim
  · exact nil h fun ok hh m v hv => by cases hv; exact ⟨none, rfl⟩
  · exact nil h fun ok hh m v hv => by cases hv; exact ⟨_, rfl⟩
  · exact h.elim

theorem rowDV_ok (hs : SR c m H F w) {k : List Blk × Nat → Option Nat → Prop} {a : AV} (h : rowDV H F k a) : ∃ x b, k x b ∧ VwG c m H F w 1 (fun n => [.gs .blk n x.1.length]) (fun n => [(n, .deep x.1 x.2)]) [b] [] [a] := by
  have fin : ∀ (b : Nat) (x : List Blk × Nat), hget H b = some (.deep x.1 x.2) → b ∉ F → (∀ ok hh m v, VR ok hh m a v → VR ok hh m (.gs .blk b x.1.length) v) → VwG c m H F w 1 (fun n => [.gs .blk n x.1.length]) (fun n => [(n, .deep x.1 x.2)]) [some b] [] [a] := by
    intro b x hb hF hv
    refine ⟨rfl, fun b' hb' => ?_, fun ok' m' n hok hm his => ⟨rfl, fun C q hc => ?_, fun q o' hq => ?_⟩⟩
    · simp [somes] at hb'; subst hb'; exact ⟨_, hb, hF⟩
    · obtain ⟨v, h1, h2⟩ := cr_to1 hc
      refine cr_of1 h1 ?_
      show VR ok' w.heap m' (.gs .blk n x.1.length) v
      have h3 := hv _ _ _ _ h2
      have hmn : m' n = m b := hm 0 b rfl
      generalize x.1.length = k0 at h3
      have : VR ok' w.heap m' (.gs .blk n k0) v := by
        cases h3 with
        | gsE => exact .gsE
        | gs h3 =>
          cases h3 with
          | oslE q1 q2 q3 q4 => exact .gs (.oslE (by rw [hmn]; exact q1) q2 q3 q4)
          | osl q1 q2 q3 q4 q5 q6 q7 q8 => exact .gs (.osl (by rw [hmn]; exact q1) q2 q3 q4 q5 q6 q7 q8)
      exact this
    · simp only [hget_cons] at hq
      split at hq
      · rename_i e
        subst e
        cases hq
        refine ⟨Nat.le_refl _, by omega, .inr ⟨b, _, by simp, hb, fun _ _ hf => hf, ?_⟩⟩
        rcases hs.all b _ hb with ⟨L, h1, h2⟩ | ⟨h1, h2⟩
        · exact .inr ⟨L, h1, h2⟩
        · exact .inl ⟨h1, h2⟩
      · cases hq
  have nil : k ([], 0) none → (∀ ok hh m v, VR ok hh m a v → ∃ a', v = .slice a' 0 0) → ∃ x b, k x b ∧ VwG c m H F w 1 (fun n => [.gs .blk n x.1.length]) (fun n => [(n, .deep x.1 x.2)]) [b] [] [a] := by
    intro hk hv
    refine ⟨([], 0), none, hk, rfl, fun b' hb' => (by simp [somes] at hb'), fun ok' m' n hok hm his => ⟨rfl, fun C q hc => ?_, fun q o' hq => ?_⟩⟩
    · obtain ⟨v, h1, h2⟩ := cr_to1 hc
      obtain ⟨a', rfl⟩ := hv _ _ _ _ h2
      exact cr_of1 h1 .gsE
    · simp only [hget_cons] at hq
      split at hq
      · rename_i e
        subst e
        cases hq
        exact ⟨Nat.le_refl _, by omega, .inl ⟨by simp, .inr (.inr ⟨0, rfl⟩)⟩⟩
      · cases hq
  unfold rowDV at h
  split at h
  · rename_i g1 b n
    replace h := must_and h
    obtain ⟨hg, h⟩ := h
    have hg := beq_eq' hg
    split at h
    · rename_i l q hb
      obtain ⟨hb, hF⟩ := hlive_some hb
      obtain ⟨h2, h3⟩ := h
      refine ⟨(l, q), _, h3, fin b (l, q) hb hF fun ok hh m v hv => ?_⟩
      rw [← h2]
      exact gs_le (g' := .blk) hg rfl _ _ _ _ hv
    · exact h.elim
  · rename_i m0 b lo n
    replace h := must_and h
    obtain ⟨hg, h⟩ := h
    simp only [Bool.and_eq_true] at hg
    have hg1 := beq_eq' hg.1
    have hg2 := beq_eq' hg.2
    subst hg1; subst hg2
    split at h
    · rename_i l q hb
      obtain ⟨hb, hF⟩ := hlive_some hb
      obtain ⟨h2, h3⟩ := h
      refine ⟨(l, q), _, h3, fin b (l, q) hb hF fun ok hh m v hv => ?_⟩
      rw [← h2]
      obtain ⟨a', c', hv2, _⟩ := hv.osl_any
      subst hv2
      exact .gs hv
    · exact h.elim
  · exact nil h fun ok hh m v hv => by cases hv; exact ⟨none, rfl⟩
  · exact nil h fun ok hh m v hv => by cases hv; exact ⟨_, rfl⟩
  · exact h.elim

theorem vr_ptr {ok ok' : Nat → Prop} {h : Array Obj} {m m' : Map} {b n : Nat} {v : Value} (hv : VR ok h m (.ptr b 0) v) (hmn : m' n = m b) : VR ok' h m' (.ptr n 0) v := by
  obtain ⟨L, h1, rfl⟩ := hv.ptr_inv
  exact .ptr (by rw [hmn]; exact h1) rfl rfl

theorem CR.left {ok : Nat → Prop} {h : Array Obj} {m : Map} {a b : List AV} {C : Array Value} {o : Nat} (H : CR ok h m (a ++ b) C o) : CR ok h m a C o := fun j x hx => H j x (by rw [List.getElem?_append_left (List.getElem?_eq_some_iff.1 hx).1]; exact hx)
theorem CR.right {ok : Nat → Prop} {h : Array Obj} {m : Map} {a b : List AV} {C : Array Value} {o : Nat} (H : CR ok h m (a ++ b) C o) : CR ok h m b C (o + a.length) := fun j x hx => by
  obtain ⟨v, h1, h2⟩ := H (a.length + j) x (by rw [List.getElem?_append_right (by omega), Nat.add_sub_cancel_left]; exact hx)
  exact ⟨v, by rw [← h1]; congr 1; omega, h2⟩
theorem CR.both {ok : Nat → Prop} {h : Array Obj} {m : Map} {a b : List AV} {C : Array Value} {o : Nat} (H : CR ok h m a C o) (K : CR ok h m b C (o + a.length)) : CR ok h m (a ++ b) C o := fun j x hx => by
  rcases Nat.lt_or_ge j a.length with hj | hj
  · rw [List.getElem?_append_left hj] at hx; exact H j x hx
  · rw [List.getElem?_append_right hj] at hx
    obtain ⟨v, h1, h2⟩ := K _ x hx
    exact ⟨v, by rw [← h1]; congr 1; omega, h2⟩

/-- Values one behind the other. -/
theorem VwG.append {ca cb : Nat} {ea eb : Nat → List AV} {ha hb : Nat → Heap} {s1 s2 : List (Option Nat)} {i1 i2 : List Nat} {l1 l2 : List AV} (h3 : VwG c m H F w ca ea ha s1 i1 l1) (h5 : VwG c m H F w cb eb hb s2 i2 l2) :
    VwG c m H F w (ca + cb) (fun n => ea n ++ eb (n + ca)) (fun n => ha n ++ hb (n + ca)) (s1 ++ s2) (i1 ++ i2) (l1 ++ l2) := by
  refine ⟨by simp [h3.len, h5.len], fun b' hb' => ?_, fun ok' m' n hok hm his => ?_⟩
  · rw [somes_append, List.mem_append] at hb'
    exact hb'.elim (h3.live b') (h5.live b')
  · obtain ⟨g1, g2, g3⟩ := h3.vals ok' m' n hok (fun i b' hb' => hm i b' (by rw [List.getElem?_append_left (List.getElem?_eq_some_iff.1 hb').1]; exact hb')) (fun b' hb' => his b' (List.mem_append_left _ hb'))
    obtain ⟨k1, k2, k3⟩ := h5.vals ok' m' (n + ca) hok (fun i b' hb' => by
      rw [Nat.add_assoc]; refine hm (ca + i) b' ?_
      rw [List.getElem?_append_right (by have := h3.len; omega), h3.len, Nat.add_sub_cancel_left]; exact hb') (fun b' hb' => his b' (List.mem_append_right _ hb'))
    refine ⟨by simp [g1, k1], fun C o hc => ?_, fun q o hq => ?_⟩
    · refine CR.both (g2 C o hc.left) ?_
      rw [← g1]
      exact k2 C _ hc.right
    · rcases hget_append _ _ _ _ hq with hq | hq
      · obtain ⟨e1, e2, e3⟩ := g3 q o hq
        refine ⟨e1, by omega, ?_⟩
        have hl := h3.len
        rw [List.getElem?_append_left (by omega)]
        exact e3
      · obtain ⟨e1, e2, e3⟩ := k3 q o hq
        have hl := h3.len
        refine ⟨by omega, by omega, ?_⟩
        rw [List.getElem?_append_right (by omega), show q - n - s1.length = q - (n + ca) by omega]
        exact e3

theorem rowA_ok {g : GT} {k : Nat → Nat → Prop} {v : AV} (h : rowA g k v) : ∃ q n, (∀ (ok ok' : Nat → Prop) (hh : Array Obj) (m m' : Map) (q' : Nat) (u : Value), m' q' = m q → VR ok hh m v u → VR ok' hh m' (.gs g q' n) u) ∧ k q n := by
  have tl : ∀ {s b q' : Nat} {ok ok' : Nat → Prop} {hh : Array Obj} {m m' : Map} {n : Nat} {u : Value}, m' q' = m b → s = g.size → VR ok hh m (.osl s b 0 n) u → VR ok' hh m' (.gs g q' n) u := by
    intro s b q' ok ok' hh m m' n u hm e hu
    subst e
    cases hu with
    | oslE h1 h2 h3 h4 => exact .gs (.oslE (by rw [hm]; exact h1) h2 h3 h4)
    | osl h1 h2 h3 h4 h5 h6 h7 h8 => exact .gs (.osl (by rw [hm]; exact h1) h2 h3 h4 h5 h6 h7 h8)
  unfold rowA at h
  split at h
  · rename_i g1 b n
    obtain ⟨h1, h2⟩ := must_and h
    refine ⟨b, n, fun ok ok' hh m m' q' u hm hu => ?_, h2⟩
    cases hu with
    | gsE => exact .gsE
    | gs hu => exact tl hm (Nat.eq_of_beq_eq_true h1) hu
  · rename_i s b lo n
    obtain ⟨h1, h2⟩ := must_and h
    simp only [Bool.and_eq_true] at h1
    obtain rfl := Nat.eq_of_beq_eq_true h1.2
    exact ⟨b, n, fun ok ok' hh m m' q' u hm hu => tl hm (Nat.eq_of_beq_eq_true h1.1) hu, h2⟩
  · exact h.elim

omit [Syms] in
theorem isAt_some {b : Nat} {o : Option (Option Nat)} (h : isAt b o = true) : o = some (some b) := by
  unfold isAt at h
  split at h
  · rw [Nat.eq_of_beq_eq_true h]
  · cases h

/-- Values one behind the other, a slice of the first ones' row between them. -/
theorem VwG.appendA {g : GT} {j q n : Nat} {v : AV} {ca cb : Nat} {ea eb : Nat → List AV} {ha hb : Nat → Heap} {s1 s2 : List (Option Nat)} {i1 i2 : List Nat} {l1 l2 : List AV} (h3 : VwG c m H F w ca ea ha s1 i1 l1) (hj : s1[j]? = some (some q))
    (hv : ∀ (ok ok' : Nat → Prop) (hh : Array Obj) (m m' : Map) (q' : Nat) (u : Value), m' q' = m q → VR ok hh m v u → VR ok' hh m' (.gs g q' n) u) (h5 : VwG c m H F w cb eb hb s2 i2 l2) :
    VwG c m H F w (ca + cb) (fun k => ea k ++ (.gs g (k + j) n :: eb (k + ca))) (fun k => ha k ++ hb (k + ca)) (s1 ++ s2) (i1 ++ i2) (l1 ++ (v :: l2)) := by
  have h0 := h3.append h5
  refine ⟨h0.len, h0.live, fun ok' m' k hok hm his => ?_⟩
  obtain ⟨g1, g2, g3⟩ := h3.vals ok' m' k hok (fun i b' hb' => hm i b' (by rw [List.getElem?_append_left (List.getElem?_eq_some_iff.1 hb').1]; exact hb')) (fun b' hb' => his b' (List.mem_append_left _ hb'))
  obtain ⟨k1, k2, k3⟩ := h5.vals ok' m' (k + ca) hok (fun i b' hb' => by
    rw [Nat.add_assoc]; refine hm (ca + i) b' ?_
    rw [List.getElem?_append_right (by have := h3.len; omega), h3.len, Nat.add_sub_cancel_left]; exact hb') (fun b' hb' => his b' (List.mem_append_right _ hb'))
  refine ⟨by simp [g1, k1], fun C o hc => ?_, (h0.vals ok' m' k hok hm his).2.2⟩
  have hr := hc.right
  obtain ⟨u, r1, r2⟩ := cr_to1 hr
  refine CR.both (g2 C o hc.left) ?_
  rw [← g1]
  have e : CR (okB c.X m H F) w.heap m l2 C (o + l1.length + 1) := fun i x hx => by
    obtain ⟨z, q1, q2⟩ := hr (i + 1) x (by simpa using hx)
    exact ⟨z, by rw [← q1]; congr 1; omega, q2⟩
  intro i x hx
  cases i with
  | zero =>
    simp at hx; subst hx
    exact ⟨u, r1, hv _ _ _ _ _ _ _ (hm j q (by rw [List.getElem?_append_left (List.getElem?_eq_some_iff.1 hj).1]; exact hj)) r2⟩
  | succ i =>
    obtain ⟨z, q1, q2⟩ := k2 C _ e i x (by simpa using hx)
    exact ⟨z, by rw [← q1]; congr 1; omega, q2⟩

/-- Under a box. -/
theorem VwG.boxed (hs : SR c m H F w) {b : Nat} {cs : List AV} (hb : hget H b = some (.cells cs)) (hF : b ∉ F) {cnt : Nat} {en : Nat → List AV} {hp : Nat → Heap} {src : List (Option Nat)} {is : List Nat} (h3 : VwG c m H F w cnt en hp src is cs) :
    VwG c m H F w (1 + cnt) (fun n => [.ptr n 0]) (fun n => (n, .cells (en (n + 1))) :: hp (n + 1)) (some b :: src) is [.ptr b 0] := by
  refine ⟨by simp [h3.len]; omega, fun b' hb' => ?_, fun ok' m' n hok hm his => ⟨rfl, fun C o hc => ?_, fun q o hq => ?_⟩⟩
  · rw [somes, List.mem_cons] at hb'
    rcases hb' with rfl | hb'
    · exact ⟨_, hb, hF⟩
    · exact h3.live b' hb'
  · obtain ⟨v, k1, k2⟩ := cr_to1 hc
    exact cr_of1 k1 (vr_ptr k2 (hm 0 b rfl))
  · obtain ⟨g1, g2, g3⟩ := h3.vals ok' m' (n + 1) hok (fun i b' hb' => by rw [Nat.add_assoc, Nat.add_comm 1 i]; exact hm (i + 1) b' (by simpa using hb')) his
    rw [hget_cons] at hq
    split at hq
    · rename_i e
      subst e
      cases hq
      obtain ⟨L, q1, j1, C, e, z, j2, j3, j4, j5⟩ := hs.obj b _ hb
      exact ⟨Nat.le_refl _, by omega, .inr ⟨b, _, by simp, hb, fun L β hf => .inl ((flat_cells _).fp hf), .inr ⟨L, q1, j1, C, e, z, j2, by rw [j3, g1], j4, g2 C 0 j5⟩⟩⟩
    · obtain ⟨e1, e2, e3⟩ := g3 q o hq
      refine ⟨by omega, by omega, ?_⟩
      have e : q - n = (q - (n + 1)) + 1 := by omega
      rw [e]
      simpa using e3

theorem VwG.leaf {a : AV} {en : List AV} {is : List Nat} (h : ∀ (ok' : Nat → Prop) (m' : Map), (∀ β, okB c.X m H F β → ok' β) → (∀ b ∈ is, ∀ o L β, hget H b = some o → m b = some L → fp o L β → ok' β) → en.length = 1 ∧ ∀ (C : Array Value) (o : Nat), CR (okB c.X m H F) w.heap m [a] C o → CR ok' w.heap m' en C o) :
    VwG c m H F w 0 (fun _ => en) (fun _ => []) [] is [a] :=
  ⟨rfl, fun b hb => (by cases hb), fun ok' m' n hok _ his => ⟨(h ok' m' hok his).1.symm, (h ok' m' hok his).2, fun q o hq => (by cases hq)⟩⟩

theorem vwO_ok (hs : SR c m H F w) {f : FT} {b : Bool} {a : AV} {k : f.T → List (Option Nat) → List Nat → Prop} (h : vwO H F f b a k) : ∃ x src is, k x src is ∧ VwG c m H F w (FO.cnt f b) (fun n => [FO.en f b x n]) (FO.hp f b x) src is [a] := by
  have tree : (resC true H DEEP a fun y is => f.deC y fun x => k x [] is) → ∃ x is, k x [] is ∧ VwG c m H F w 0 (fun _ => [f.en x]) (fun _ => []) [] is [a] := fun h => by
    obtain ⟨y, is, h1, h2⟩ := resC_some _ _ _ h
    obtain ⟨x, h3, h4⟩ := FT.deC_le h2
    refine ⟨x, is, h3, .leaf fun ok' m' hok his => ⟨rfl, fun C o hc => ?_⟩⟩
    obtain ⟨v, k1, k2⟩ := cr_to1 hc
    exact cr_of1 k1 (h4 _ _ _ _ (tree_vr hs h1 hok his k2))
  cases f with
  | L g =>
    cases b with
    | true =>
      obtain ⟨x, ob, h1, h2⟩ := rowV_ok hs (show rowV H F g (fun x ob => k x [ob] []) a from h)
      exact ⟨x, [ob], [], h1, h2⟩
    | false => obtain ⟨x, is, h1, h2⟩ := tree h; exact ⟨x, [], is, h1, h2⟩
  | int => obtain ⟨x, is, h1, h2⟩ := tree (by cases b <;> exact h); exact ⟨x, [], is, h1, by cases b <;> exact h2⟩
  | str => obtain ⟨x, is, h1, h2⟩ := tree (by cases b <;> exact h); exact ⟨x, [], is, h1, by cases b <;> exact h2⟩

theorem vwP_ok (hs : SR c m H F w) : ∀ {l : List FT} {mk : List Bool} {q : List AV} {k : FP l → List (Option Nat) → List Nat → Prop}, vwP H F l mk q k → ∃ x src is, k x src is ∧ VwG c m H F w (FPO.cnt l mk) (FPO.en l mk x) (FPO.hp l mk x) src is q
  | [], mk, [], k, h => ⟨(), [], [], h, rfl, fun b hb => (by cases hb), fun ok' m' n _ _ _ => ⟨rfl, fun C o _ j x hx => by simp [FPO.en] at hx, fun q o hq => (by cases hq)⟩⟩
  | [], mk, _ :: _, k, h => h.elim
  | [f], mk, [], k, h => h.elim
  | [f], mk, [a], k, h => vwO_ok (f := f) hs h
  | [f], mk, _ :: _ :: _, k, h => h.elim
  | f :: g :: r, mk, [], k, h => h.elim
  | f :: g :: r, mk, a :: q, k, h => by
    obtain ⟨x, s1, i1, h1, h2⟩ := vwO_ok (f := f) hs h
    obtain ⟨y, s2, i2, h3, h4⟩ := vwP_ok hs h1
    exact ⟨(x, y), s1 ++ s2, i1 ++ i2, h3, h2.append h4⟩

theorem vw_ok (hs : SR c m H F w) : ∀ (t : VT) {l : List AV} {k : VK t.T}, vw H F t l k → ∃ x src is l1 rest, l = l1 ++ rest ∧ k x src is rest ∧ VwR c m H F w t x src is l1 := by
  intro t
  induction t with
  | dead =>
    intro l k h
    cases l with
    | nil => exact (h : False).elim
    | cons a r =>
      refine ⟨(), [], [], [a], r, rfl, h, .leaf fun ok' m' hok his => ⟨rfl, fun C o hc => ?_⟩⟩
      obtain ⟨v, h1, _⟩ := cr_to1 hc
      exact cr_of1 h1 .dead
  | dt d =>
    intro l k h
    cases l with
    | nil => exact (h : False).elim
    | cons a r =>
      have h : resC true H DEEP a fun y is => d.deC y fun x => k x [] is r := h
      obtain ⟨y, is, h1, h2⟩ := resC_some _ _ _ h
      obtain ⟨x, h3, h4⟩ := DT.deC_le h2
      refine ⟨x, [], is, [a], r, rfl, h3, .leaf fun ok' m' hok his => ⟨h4.1.symm, fun C o hc => ?_⟩⟩
      obtain ⟨v, k1, k2⟩ := cr_to1 hc
      exact (cr_of1 k1 (tree_vr hs h1 hok his k2)).le h4
  | gs g =>
    intro l k h
    cases l with
    | nil => exact (h : False).elim
    | cons a r =>
      have h : rowV H F g (fun x b => k x [b] [] r) a := h
      obtain ⟨x, b, h1, h2⟩ := rowV_ok hs h
      exact ⟨x, [b], [], [a], r, rfl, h1, h2⟩
  | boxS s mk =>
    intro l k h
    unfold vw at h
    split at h
    · rename_i b r
      split at h
      · rename_i cs hb
        obtain ⟨hb, hF⟩ := hlive_some hb
        obtain ⟨x, src, is, h1, h2⟩ := vwP_ok hs h
        refine ⟨_, some b :: src, is, [.ptr b 0], r, rfl, h1, ?_⟩
        have := h2.boxed hs hb hF
        rw [← SC.un_mk s x] at this
        exact this
      · exact h.elim
    · exact h.elim
  | aggS s mk =>
    intro l k h
    unfold vw at h
    split at h
    · rename_i cs r
      obtain ⟨x, src, is, h1, h2⟩ := vwP_ok hs h
      refine ⟨_, src, is, [.agg cs], r, rfl, h1, ⟨h2.len, h2.live, fun ok' m' n hok hm his => ?_⟩⟩
      obtain ⟨g1, g2, g3⟩ := h2.vals ok' m' n hok hm his
      refine ⟨rfl, fun C o hc => ?_, fun q o hq => g3 q o ?_⟩
      · obtain ⟨v, k1, k2⟩ := cr_to1 hc
        obtain ⟨us, rfl, q1, q2⟩ := k2.agg_inv
        refine cr_of1 k1 ?_
        rw [SC.un_mk]
        exact .agg' (by rw [q1, g1]) (g2 us 0 q2)
      · have hq : hget (FPO.hp s.fs mk (s.un (s.mk x)) n) q = some o := hq
        rw [SC.un_mk] at hq; exact hq
    · exact h.elim
  | box t ih =>
    intro l k h
    unfold vw at h
    split at h
    · rename_i b r
      split at h
      · rename_i cs hb
        obtain ⟨hb, hF⟩ := hlive_some hb
        obtain ⟨x, src, is, l1, rest, h1, h2, h3⟩ := ih h
        obtain ⟨h4, h5⟩ := must_and h2
        obtain rfl : rest = [] := by simpa using h4
        rw [List.append_nil] at h1
        subst h1
        exact ⟨x, some b :: src, is, [.ptr b 0], r, rfl, h5, h3.boxed hs hb hF⟩
      · exact h.elim
    · exact h.elim
  | nil =>
    intro l k h
    exact ⟨(), [], [], [], l, rfl, h, rfl, fun b hb => (by cases hb), fun ok' m' n _ _ _ => ⟨rfl, fun C o _ j x hx => by simp [VT.en] at hx, fun q o hq => (by cases hq)⟩⟩
  | cons a b iha ihb =>
    intro l k h
    obtain ⟨x, s1, i1, l1, r1, rfl, h2, h3⟩ := iha (h : vw H F a l fun x s1 i1 l1 => vw H F b l1 fun y s2 i2 l2 => k (x, y) (s1 ++ s2) (i1 ++ i2) l2)
    obtain ⟨y, s2, i2, l2, r2, rfl, h4, h5⟩ := ihb h2
    exact ⟨(x, y), s1 ++ s2, i1 ++ i2, l1 ++ l2, r2, by rw [List.append_assoc], h4, h3.append h5⟩
  | consA a g j b iha ihb =>
    intro l k h
    obtain ⟨x, s1, i1, l1, r1, rfl, h2, h3⟩ := iha (h : vw H F a l fun x s1 i1 l1 => match l1 with
      | v :: l1 => rowA g (fun q n => must (isAt q s1[j]?) (vw H F b l1 fun y s2 i2 l2 => k (x, n, y) (s1 ++ s2) (i1 ++ i2) l2)) v
      | [] => False)
    cases r1 with
    | nil => exact (h2 : False).elim
    | cons v r1 =>
      obtain ⟨q, n, hv, h2⟩ := rowA_ok h2
      obtain ⟨h4, h5⟩ := must_and h2
      obtain ⟨y, s2, i2, l2, r2, rfl, h6, h7⟩ := ihb h5
      exact ⟨(x, n, y), s1 ++ s2, i1 ++ i2, l1 ++ (v :: l2), r2, by simp, h6, h3.appendA (isAt_some h4) hv h7⟩

  | agg t ih =>
    intro l k h
    unfold vw at h
    split at h
    · rename_i cs r
      obtain ⟨x, src, is, l1, rest, h1, h2, h3⟩ := ih h
      obtain ⟨h4, h5⟩ := must_and h2
      obtain rfl : rest = [] := by simpa using h4
      rw [List.append_nil] at h1
      subst h1
      refine ⟨x, src, is, [.agg cs], r, rfl, h5, ⟨h3.len, h3.live, fun ok' m' n hok hm his => ?_⟩⟩
      obtain ⟨g1, g2, g3⟩ := h3.vals ok' m' n hok hm his
      refine ⟨rfl, fun C o hc => ?_, g3⟩
      obtain ⟨v, k1, k2⟩ := cr_to1 hc
      obtain ⟨us, rfl, q1, q2⟩ := k2.agg_inv
      exact cr_of1 k1 (.agg' (by rw [q1, g1]) (g2 us 0 q2))
    · exact h.elim
  | dgs =>
    intro l k h
    cases l with
    | nil => exact (h : False).elim
    | cons a r =>
      have h : rowDV H F (fun x b => k x [b] [] r) a := h
      obtain ⟨x, b, h1, h2⟩ := rowDV_ok hs h
      exact ⟨x, [b], [], [a], r, rfl, h1, h2⟩

omit [Syms] in
theorem onceB_nodup : ∀ {l : List Nat}, onceB l = true → l.Nodup
  | [], _ => List.nodup_nil
  | a :: r, h => by
    simp only [onceB, Bool.and_eq_true, Bool.not_eq_true'] at h
    exact List.nodup_cons.2 ⟨(isIn_false a r).1 h.1, onceB_nodup h.2⟩

omit [Syms] in
theorem somes_inj : ∀ {l : List (Option Nat)}, (somes l).Nodup → ∀ (i j b : Nat), l[i]? = some (some b) → l[j]? = some (some b) → i = j
  | [], _, i, j, b, h, _ => by simp at h
  | x :: r, hn, i, j, b, h1, h2 => by
    have key : ∀ (q : Nat), r[q]? = some (some b) → b ∈ somes r := fun q hq => somes_mem.2 (List.mem_of_getElem? hq)
    cases x with
    | none =>
      cases i with
      | zero => simp at h1
      | succ i =>
        cases j with
        | zero => simp at h2
        | succ j => rw [somes_inj (l := r) hn i j b (by simpa using h1) (by simpa using h2)]
    | some a =>
      rw [somes, List.nodup_cons] at hn
      cases i with
      | zero =>
        cases j with
        | zero => rfl
        | succ j => simp at h1; subst h1; exact absurd (key j (by simpa using h2)) hn.1
      | succ i =>
        cases j with
        | zero => simp at h2; subst h2; exact absurd (key i (by simpa using h1)) hn.1
        | succ j => rw [somes_inj (l := r) hn.2 i j b (by simpa using h1) (by simpa using h2)]

/-- A state told by a code: under new numbers. -/
theorem view_core {vals : List AV} {t : VT} {s : St} {k : t.T → Prop} (h : view vals t s k) (hs : SR c m s.H s.F w) : ∃ x, k x ∧ ∃ m', SR c m' (t.hp x 0) [] w ∧ (∀ β, okB c.X m s.H s.F β → okB c.X m' (t.hp x 0) [] β) ∧
    (∀ (C : Array Value) (o : Nat), CR (okB c.X m s.H s.F) w.heap m vals C o → CR (okB c.X m' (t.hp x 0) []) w.heap m' (t.en x 0) C o) ∧ vals.length = (t.en x 0).length ∧ (∀ b, t.cnt ≤ b → m' b = none) := by
  obtain ⟨x, src, is, l1, rest, rfl, h2, h3⟩ := vw_ok hs t h
  obtain ⟨h4, h5⟩ := must_and h2
  simp only [Bool.and_eq_true] at h4
  obtain ⟨⟨e1, e2⟩, e3⟩ := h4
  obtain rfl : rest = [] := by simpa using e1
  rw [List.append_nil]
  have hnd := onceB_nodup e2
  have hdj : ∀ x ∈ is, x ∉ somes src := fun x h1 h2 => disj_spec e3 h1 h2
  refine ⟨x, h5, fun q => (src[q]?.join).bind m, ?_⟩
  generalize hm' : (fun q => (src[q]?.join).bind m : Map) = m'
  have mAt : ∀ i b, src[i]? = some (some b) → m' i = m b := fun i b hb => by rw [← hm']; simp [hb]
  have mInv : ∀ q L, m' q = some L → ∃ b, src[q]? = some (some b) ∧ m b = some L := fun q L hq => by
    rw [← hm'] at hq
    cases hsq : src[q]? with
    | none => simp [hsq] at hq
    | some o =>
      cases o with
      | none => simp [hsq] at hq
      | some b => exact ⟨b, rfl, by simpa [hsq] using hq⟩
  have mNone : ∀ q, src[q]? = some none → m' q = none := fun q hq => by rw [← hm']; simp [hq]
  have hfp : ∀ q o L, hget (t.hp x 0) q = some o → m' q = some L → ∃ b p, src[q]? = some (some b) ∧ hget s.H b = some p ∧ b ∉ s.F ∧ m b = some L ∧ ∀ β, fp o L β → fp p L β := fun q o L hq hL => by
    obtain ⟨_, _, v⟩ := (h3.vals (fun _ => True) m' 0 (fun _ _ => trivial) (fun i b hb => by rw [Nat.zero_add]; exact mAt i b hb) (fun _ _ _ _ _ _ _ _ => trivial)).2.2 q o hq
    rw [Nat.sub_zero] at v
    rcases v with ⟨g1, _⟩ | ⟨b, p, g1, g2, g3, _⟩
    · rw [mNone q g1] at hL; cases hL
    · obtain ⟨p', g4, g5⟩ := h3.live b (somes_mem.2 (List.mem_of_getElem? g1))
      exact ⟨b, p, g1, g2, g5, by rw [← mAt q b g1]; exact hL, g3 L⟩
  have hok : ∀ β, okB c.X m s.H s.F β → okB c.X m' (t.hp x 0) [] β := fun β ho => ⟨ho.1, fun q o L hq _ hL hf => by
    obtain ⟨b, p, g1, g2, g3, g4, g5⟩ := hfp q o L hq hL
    exact ho.2 b p L g2 g3 g4 (g5 β hf)⟩
  have his : ∀ b ∈ is, ∀ o L β, hget s.H b = some o → m b = some L → fp o L β → okB c.X m' (t.hp x 0) [] β := fun b hb o L β g1 g2 g3 => ⟨hs.noxf b o L β g1 g2 g3, fun q o' L' hq _ hL e => by
    obtain ⟨b', p, k1, k2, _, k4, k5⟩ := hfp q o' L' hq hL
    have := hs.injf b' p b o L' L β k2 g1 k4 g2 (k5 β e) g3
    subst this
    exact hdj b' hb (somes_mem.2 (List.mem_of_getElem? k1))⟩
  obtain ⟨v1, v2, v3⟩ := h3.vals (okB c.X m' (t.hp x 0) []) m' 0 hok (fun i b hb => by rw [Nat.zero_add]; exact mAt i b hb) his
  refine ⟨⟨hs.xlt, fun q o hq => ?_, fun q1 o1 q2 o2 L1 L2 β g1 g2 k1 k2 k3 k4 => ?_, fun q o L β hq hm hf => ?_, fun q o L β hq hm hf => ?_, hs.keep⟩, hok, v2, v1, fun b hb => ?_⟩
  · obtain ⟨_, _, g⟩ := v3 q o hq
    rw [Nat.sub_zero] at g
    rcases g with ⟨g1, g2⟩ | ⟨b, p, g1, g2, _, g3⟩
    · exact .inr ⟨mNone q g1, g2⟩
    · rcases g3 with ⟨g4, g5⟩ | ⟨L, g4, g5⟩
      · exact .inr ⟨by rw [mAt q b g1]; exact g4, g5⟩
      · exact .inl ⟨L, by rw [mAt q b g1]; exact g4, g5⟩
  · obtain ⟨b1, p1, g3, g7, _, g4, f1⟩ := hfp q1 o1 L1 g1 k1
    obtain ⟨b2, p2, g5, g8, _, g6, f2⟩ := hfp q2 o2 L2 g2 k2
    have := hs.injf b1 p1 b2 p2 L1 L2 β g7 g8 g4 g6 (f1 β k3) (f2 β k4)
    subst this
    exact somes_inj hnd q1 q2 b1 g3 g5
  · obtain ⟨b, p, _, g3, _, g2, f1⟩ := hfp q o L hq hm
    exact hs.noxf b p L β g3 g2 (f1 β hf)
  · obtain ⟨b, p, _, g3, _, g2, f1⟩ := hfp q o L hq hm
    exact hs.ownf b p L β g3 g2 (f1 β hf)
  · rw [← hm']
    have : src[b]? = none := List.getElem?_eq_none (by rw [h3.len]; exact hb)
    simp [this]

end

/-- From a state to the one that is told. -/
theorem view_ent {n : Nat} (hn : n ≤ 1023) {live : List Nat} {t : VT} {s : St} {k : t.T → Prop} (hc : t.cnt ≤ MANY) (hsz : live.length ≤ 1023) (h : view (slots live s) t s k) {c : Ctx} {wE : World} {m : Map} {a : Act} {w : World} (hg : Good n c wE m s a w) : ∃ x, k x ∧ ∃ m', Good n c wE m' (stOf live t x) a w := by
  obtain ⟨x, hk, m', h1, h2, h3, h4, h5⟩ := view_core h hg.here.sr
  refine ⟨x, hk, m', ⟨⟨h1, fun j => ?_, fun k hk => frK_has _ _ k (by omega), hg.here.sz, fun b hb => h5 b (Nat.le_trans hc hb)⟩, fun β C e z g1 g2 => ?_⟩⟩
  · show VR (okB c.X m' (t.hp x 0) []) w.heap m' ((frK live (t.en x 0)).get j) _
    rcases frK_get live (t.en x 0) j with q1 | ⟨i, v, q1, q2, q3⟩
    · rw [q1]
      by_cases hj1 : j + 1 < 2 ^ 10
      · rw [Fr.get_deads_in 10 j hj1]; exact .dead
      · rcases Fr.get_deads 10 j with h | h
        · rw [h]
          have : a.tmps.getD j undef = undef := by
            rw [Array.getD_eq_getD_getElem?, Array.getElem?_eq_none (by have := hg.here.sz; omega)]; rfl
          rw [this]; exact und_vr
        · rw [h]; exact .dead
    · rw [q3]
      have hc0 : CR (okB c.X m s.H s.F) w.heap m (slots live s) (live.map fun j => a.tmps.getD j undef).toArray 0 := fun i' y hy => by
        unfold slots at hy
        rw [List.getElem?_map] at hy
        cases hl : live[i']? with
        | none => rw [hl] at hy; cases hy
        | some j' =>
          rw [hl] at hy
          cases hy
          refine ⟨a.tmps.getD j' undef, by simp [hl], ?_⟩
          rw [getK_eq]
          exact hg.here.fr j'
      obtain ⟨u, g1, g2⟩ := h3 _ 0 hc0 i v q2
      rw [Nat.zero_add] at g1
      have g1 : some (a.tmps.getD j undef) = some u := by rw [← g1]; simp [q1]
      cases g1
      exact g2
  · obtain ⟨k1, k2⟩ := hg.old β C e z g1 g2
    exact ⟨h2 β k1, k2⟩

end Go.Proofs.Ytmkmjjodiicmlaa.VS

