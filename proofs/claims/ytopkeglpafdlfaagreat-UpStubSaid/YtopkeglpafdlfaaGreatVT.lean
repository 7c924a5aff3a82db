/- The program's data as Lean's own: the types of what its rows hold. Definitions alone. Conditions: none. -/
import Derived.WalkKit
import Derived.LoopN
import Derived.Orders
namespace Go.Proofs.YtopkeglpafdlfaaGreat.VS

abbrev Str := List UInt8

structure Nam where
  name : Str
  ino : Int
  deriving DecidableEq, Inhabited

structure Blk where
  pos : Int
  data : List UInt8
  deriving DecidableEq, Inhabited

structure Fil where
  size : Int
  blocks : List Blk
  deriving DecidableEq, Inhabited

structure Nod where
  ino : Int
  kind : Int
  mode : Int
  links : Int
  file : Fil
  target : Str
  names : List Nam
  deriving DecidableEq, Inhabited

structure Dsk where
  blocks : Int
  inodes : Int
  next : Int
  nodes : List Nod
  deriving DecidableEq, Inhabited

structure Opn where
  kind : Int
  path : Str
  dest : Str
  mode : Int
  pos : Int
  n : Int
  data : List UInt8
  deriving DecidableEq, Inhabited

structure Cnf where
  ways : List Int
  policy : Int
  deriving DecidableEq, Inhabited

structure Spt where
  branch : Int
  ino : Int
  deriving DecidableEq, Inhabited

structure Rwo where
  spot : Spt
  u : Int
  deriving DecidableEq, Inhabited

structure Tbl where
  next : Int
  rows : List Rwo
  homes : List Rwo
  cursor : Int
  deriving DecidableEq, Inhabited

structure Wld where
  conf : Cnf
  disks : List Dsk
  table : Tbl
  deriving DecidableEq, Inhabited

structure Akt where
  kind : Int
  pos : Int
  b : List UInt8
  deriving DecidableEq, Inhabited

/-- What a row's elements are. -/
inductive GT where
  | u8 | bool | int | str | strs | nam | blk | nod | dsk | opn | opns | spt | row | akt
  deriving DecidableEq, Inhabited

abbrev GT.T : GT → Type
  | .u8 => UInt8
  | .bool => Bool
  | .int => Int
  | .str => Str
  | .strs => List Str
  | .nam => Nam
  | .blk => Blk
  | .nod => Nod
  | .dsk => Dsk
  | .opn => Opn
  | .opns => List Opn
  | .spt => Spt
  | .row => Rwo
  | .akt => Akt

/-- Something of a type, for an element that is not there. -/
def GT.nought : (t : GT) → t.T
  | .u8 => (0 : UInt8)
  | .bool => false
  | .int => (0 : Int)
  | .str => ([] : List UInt8)
  | .strs => ([] : List Str)
  | .nam => (default : Nam)
  | .blk => (default : Blk)
  | .nod => (default : Nod)
  | .dsk => (default : Dsk)
  | .opn => (default : Opn)
  | .opns => ([] : List Opn)
  | .spt => (default : Spt)
  | .row => (default : Rwo)
  | .akt => (default : Akt)

/-- An element's cells, how many. -/
def GT.size : GT → Nat
  | .u8 | .bool | .int | .str | .strs | .opns => 1
  | .nam | .blk | .spt => 2
  | .nod => 8
  | .dsk => 4
  | .opn => 7
  | .row | .akt => 3

end Go.Proofs.YtopkeglpafdlfaaGreat.VS
