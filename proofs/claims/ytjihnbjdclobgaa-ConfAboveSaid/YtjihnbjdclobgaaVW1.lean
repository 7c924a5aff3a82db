/- The machine once more, for values that are not known: each step told as a proposition. Definitions alone. Conditions: none. -/
import Derived.Test.YtjihnbjdclobgaaVS31
namespace Go.Proofs.Ytjihnbjdclobgaa.VS

/-! ### Trees as data -/

def byteOf : AV → Option UInt8
  | .int .u8 n => if 0 ≤ n ∧ n < 256 then some (UInt8.ofNat n.toNat) else none
  | _ => none

def decAll {α : Type} (d : AV → Option α) : List AV → Option (List α)
  | [] => some []
  | a :: r => match d a, decAll d r with
    | some x, some l => some (x :: l)
    | _, _ => none

def listOf (t : GT) (d : AV → Option t.T) : AV → Option (List t.T)
  | .tl t' xs => if h : t' = t then some (h ▸ xs) else none
  | .nils => some []
  | .emp => some []
  | .nev => some []
  | .sl xs => decAll d xs
  | _ => none

def decBool : AV → Option Bool
  | .bool b => some b
  | .ub b => some b
  | _ => none
def decInt : AV → Option Int
  | .int .i64 n => some n
  | _ => none
def decStr : AV → Option Str
  | .str s => some s
  | _ => none
def decStrs : AV → Option (List Str) := listOf .str decStr
def decNam : AV → Option Nam
  | .agg [.str s, .int .i64 n] => some ⟨s, n⟩
  | _ => none
def decBytes : AV → Option (List UInt8) := listOf .u8 byteOf
def decBlk : AV → Option Blk
  | .agg [.int .i64 p, d] => match decBytes d with
    | some b => some ⟨p, b⟩
    | none => none
  | _ => none
def decNod : AV → Option Nod
  | .agg [.int .i64 a, .int .i64 b, .int .i64 c, .int .i64 e, .int .i64 s, l, .str g, n] =>
    match listOf .blk decBlk l, listOf .nam decNam n with
    | some l, some n => some ⟨a, b, c, e, ⟨s, l⟩, g, n⟩
    | _, _ => none
  | _ => none
def decDsk : AV → Option Dsk
  | .agg [.int .i64 a, .int .i64 b, .int .i64 c, l] => match listOf .nod decNod l with
    | some l => some ⟨a, b, c, l⟩
    | none => none
  | _ => none
def decOpn : AV → Option Opn
  | .agg [.int .i64 a, .str p, .str q, .int .i64 b, .int .i64 c, .int .i64 e, d] => match decBytes d with
    | some d => some ⟨a, p, q, b, c, e, d⟩
    | none => none
  | _ => none
def decSpt : AV → Option Spt
  | .agg [.int .i64 a, .int .i64 b] => some ⟨a, b⟩
  | _ => none
def decRow : AV → Option Rwo
  | .agg [.int .i64 a, .int .i64 b, .int .i64 c] => some ⟨⟨a, b⟩, c⟩
  | _ => none
def decAkt : AV → Option Akt
  | .agg [.int .i64 a, .int .i64 b, d] => match decBytes d with
    | some d => some ⟨a, b, d⟩
    | none => none
  | _ => none

def dec : (t : GT) → AV → Option t.T
  | .u8 => byteOf
  | .bool => decBool
  | .int => decInt
  | .str => decStr
  | .strs => decStrs
  | .nam => decNam
  | .blk => decBlk
  | .nod => decNod
  | .dsk => decDsk
  | .opn => decOpn
  | .opns => listOf .opn decOpn
  | .spt => decSpt
  | .row => decRow
  | .akt => decAkt

/-- A row of data. -/
abbrev decL (t : GT) : AV → Option (List t.T) := listOf t (dec t)

def encFil (f : Fil) : AV := .agg [.int .i64 f.size, .tl .blk f.blocks]
def encCnf (c : Cnf) : AV := .agg [.tl .int c.ways, .int .i64 c.policy]
def encTbl (t : Tbl) : AV := .agg [.int .i64 t.next, .tl .row t.rows, .tl .row t.homes, .int .i64 t.cursor]
def encWld (w : Wld) : AV := .agg [.tl .int w.conf.ways, .int .i64 w.conf.policy, .tl .dsk w.disks, .int .i64 w.table.next, .tl .row w.table.rows, .tl .row w.table.homes, .int .i64 w.table.cursor]

def decFil : AV → Option Fil
  | .agg [.int .i64 s, l] => match decL .blk l with
    | some l => some ⟨s, l⟩
    | none => none
  | _ => none
def decCnf : AV → Option Cnf
  | .agg [w, .int .i64 p] => match decL .int w with
    | some w => some ⟨w, p⟩
    | none => none
  | _ => none
def decTbl : AV → Option Tbl
  | .agg [.int .i64 n, r, h, .int .i64 c] => match decL .row r, decL .row h with
    | some r, some h => some ⟨n, r, h, c⟩
    | _, _ => none
  | _ => none
def decWld : AV → Option Wld
  | .agg [w, .int .i64 p, d, .int .i64 n, r, h, .int .i64 c] => match decL .int w, decL .dsk d, decL .row r, decL .row h with
    | some w, some d, some r, some h => some ⟨⟨w, p⟩, d, ⟨n, r, h, c⟩⟩
    | _, _, _, _ => none
  | _ => none

/-! ### What is known of functions and loops -/

/-- What a function answers: under a condition a value, with arrays that are its own. -/
structure Con where
  pre : Prop
  v : AV
  H : Heap

/-- What a loop does: of the slots that it looks at, and the heap, how it is left, the slots that are looked at behind it, and the heap. -/
inductive HK where
  | keep
  | arr (g : GT)
  | tree (g : GT)

structure LoopC where
  live : List (Nat × HK)
  out : List (Nat × HK)
  fn : List AV → Heap → (AX → List AV → Heap → Prop) → Prop

structure SE where
  T : Tabs
  con : FuncId → Option (List AV → Option Con)
  own : FuncId → Bool
  gt : TypeId → Option GT
  loop : Nat → Option LoopC

noncomputable section

/-- All of a type's values hold no memory of their own: a value taken whole, with what that asks. -/
def resC (nz : Bool) (H : Heap) : Nat → AV → (AV → List Nat → Prop) → Prop :=
  @Nat.rec (fun _ => AV → (AV → List Nat → Prop) → Prop) (fun _ _ => False) (fun _ ih a k =>
    let all : List AV → (List AV → List Nat → Prop) → Prop := @List.rec AV (fun _ => (List AV → List Nat → Prop) → Prop) (fun k => k [] []) (fun x _ jh k => jh fun ys js => ih x fun y is => k (y :: ys) (is ++ js))
    match a with
    | .agg cs => all cs fun r is => k (.agg r) is
    | .tup cs => all cs fun r is => k (.tup r) is
    | .fn f cs => all cs fun r is => k (.fn f r) is
    | .ifc t v => ih v fun r is => k (.ifc t r) is
    | .osl _ b lo len =>
      match hget H b with
      | some (.arr _ xs) => lo + len ≤ xs.length ∧ all xs fun r is => k (.sl ((r.drop lo).take len)) (b :: is)
      | some (.tarr t xs) => lo + len ≤ xs.length ∧ k (.tl t ((xs.drop lo).take len)) [b]
      | _ => False
    | .ptr _ _ | .eptr _ _ _ | .mp _ | .dead | .cptr _ => False
    | .nils => k (bif nz then .sl [] else .nils) []
    | .emp => k (bif nz then .sl [] else .emp) []
    | .nev => k (bif nz then .sl [] else .nev) []
    | v => k v [])

def resAllC (nz : Bool) (H : Heap) : List AV → (List AV → List Nat → Prop) → Prop :=
  @List.rec AV (fun _ => (List AV → List Nat → Prop) → Prop) (fun k => k [] []) (fun a _ ih k => ih fun ys js => resC nz H DEEP a fun y is => k (y :: ys) (is ++ js))

def optC {α : Type} (k : α → Prop) : Option α → Prop := @Option.rec α (fun _ => Prop) False k

abbrev Kont := AV → Eff → List Nat → List Nat → Prop

def resK (k : Kont) : Res → Prop := @Res.rec (fun _ => Prop) False (fun v e rd fz => k v e rd fz) (fun _ _ _ _ => False)

/-- Bools that are not known, as bools. -/
def unubD : Nat → AV → AV
  | 0, v => v
  | d + 1, a =>
    match a with
    | .ub b => .bool b
    | .agg cs => .agg (cs.map (unubD d))
    | .tup cs => .tup (cs.map (unubD d))
    | v => v

def ansV (un : Bool) (v : AV) : AV := bif un then unubD 4 v else v

/-- The call that each contract answers, if its condition holds. -/
def conCall (S : SE) (un : Bool) (f : FuncId) (args : List AV) : Heap → List Nat → Nat → Ans
  | [], [], 0 => match S.con f with
    | some g => match g args with
      | some c => @ite _ c.pre (Classical.propDecidable _) (.ok (ansV un c.v) c.H [] WIDE) .no
      | none => .no
    | none => .no
  | _, _, _ => .no

def SE.cfg (S : SE) : Cfg := { prim := fun _ => none, keep := S.own, exact := fun _ => false, share := fun _ => false }
def SE.env (S : SE) (un : Bool) : Env := ⟨S.T, S.cfg, conCall S un⟩

/-! ### Operations -/

def bndZ (d : Int) : Option AV → Option Int
  | none => some d
  | some (.int _ n) => some n
  | some _ => none

/-- The type of a slice has elements of so many cells. -/
def elemN (T : Tabs) (t : TypeId) (n : Nat) : Bool :=
  match kindOf T t with
  | .slice e => match szOf T e with
    | some m => m.beq n && Nat.blt 0 n
    | none => false
  | _ => false

def must (b : Bool) (p : Prop) : Prop := @Bool.rec (fun _ => Prop) False p b

def idxC (S : SE) (dflt : Prop) (t : TypeId) (k : Kont) : AV → AV → Prop
  | .tl g xs, .int _ n => must (elemN S.T t g.size) ((0 ≤ n ∧ n < xs.length) ∧ k (.cptr (enc g (xs.getD n.toNat g.nought))) [] [] [])
  | .osl s b lo len, .int _ n => must (elemN S.T t s) ((0 ≤ n ∧ n < len) ∧ k (.eptr b (lo + n.toNat) 0) [] [] [])
  | _, _ => dflt

def indexC (S : SE) (dflt : Prop) (t : TypeId) (k : Kont) : AV → AV → Prop
  | .str s, .int _ n => match kindOf S.T t with
    | .str => (0 ≤ n ∧ n < s.length) ∧ k (.int .u8 (s.getD n.toNat 0).toNat) [] [] []
    | _ => False
  | _, _ => dflt

def loadC (S : SE) (H : Heap) (dflt : Prop) (t : TypeId) (k : Kont) : AV → Prop
  | .eptr b i off => match hget H b with
    | some (.tarr g xs) => i < xs.length ∧ optC (fun v => k v [] [b] []) (takeT S.T t (enc g (xs.getD i g.nought)).cells off)
    | _ => dflt
  | _ => dflt

def sliceC (S : SE) (dflt : Prop) (t : TypeId) (k : Kont) (lo hi : Option AV) : AV → Prop
  | .tl g xs => must (elemN S.T t g.size) (match bndZ 0 lo, bndZ xs.length hi with
    | some l, some h => (0 ≤ l ∧ l ≤ h ∧ h ≤ xs.length) ∧ k (.tl g ((xs.take h.toNat).drop l.toNat)) [] [] []
    | _, _ => False)
  | .osl s b o len => must (elemN S.T t s) (match bndZ 0 lo, bndZ len hi with
    | some l, some h => (0 ≤ l ∧ l ≤ h ∧ h ≤ len) ∧ k (.osl s b (o + l.toNat) (h.toNat - l.toNat)) [] [] []
    | _, _ => False)
  | .str s => match kindOf S.T t with
    | .str => (match bndZ 0 lo, bndZ s.length hi with
      | some l, some h => (0 ≤ l ∧ l ≤ h ∧ h ≤ s.length) ∧ k (.str ((s.take h.toNat).drop l.toNat)) [] [] []
      | _, _ => False)
    | _ => False
  | _ => dflt

/-- '==' of structs, told by one bool. -/
def allFieldsB (f : Fd → Option Bool) : List Fd → Option Bool
  | [] => some true
  | [x] => bif x.blank then some true else f x
  | x :: xs => bif x.blank then allFieldsB f xs else
    match f x, allFieldsB f xs with
    | some a, some b => some (a && b)
    | _, _ => none

def aeqB (T : Tabs) : Nat → TypeId → AV → AV → Option Bool
  | 0, _, _, _ => none
  | d + 1, t, x, y =>
    match T.ty.get t with
    | some i =>
      match i.k, x, y with
      | .struct fields, .agg xs, .agg ys =>
        bif i.cmp then allFieldsB (fun f => both (aeqB T d f.ty) (takeT T f.ty xs f.off) (takeT T f.ty ys f.off)) fields else none
      | k, x, y => eqOne k x y
    | none => none

def binC (S : SE) (dflt : Prop) (op : BinOp) (t : TypeId) (k : Kont) : AV → AV → Prop
  | .str a, .str b => match op with
    | .add => a.length + b.length ≤ 1099511627776 ∧ k (.str (a ++ b)) [] [] []
    | _ => dflt
  | .agg xs, .agg ys => match op with
    | .eql => optC (fun b => k (.bool b) [] [] []) (aeqB S.T DEQ t (.agg xs) (.agg ys))
    | .neq => optC (fun b => k (.bool !b) [] [] []) (aeqB S.T DEQ t (.agg xs) (.agg ys))
    | _ => dflt
  | _, _ => dflt

/-- A bool that is not known. -/
def toUb : AV → AV
  | .bool b => .ub b
  | v => v

def unub : AV → AV
  | .ub b => .bool b
  | v => v

def isUb : AV → Bool
  | .ub _ => true
  | _ => false

def isBoolV : AV → Option Bool
  | .ub b => some b
  | .bool b => some b
  | _ => none

/-- '==' of bools. -/
def eqUb (S : SE) (dflt : Prop) (op : BinOp) (t : TypeId) (k : Kont) (x y : AV) : Prop :=
  bif isUb x || isUb y then
    match isBoolV x, isBoolV y, kindOf S.T t, op with
    | some a, some b, .bool, .eql => k (.ub (a == b)) [] [] []
    | some a, some b, .bool, .neq => k (.ub !(a == b)) [] [] []
    | _, _, _, _ => False
  else dflt

def pickU (k : Kont) (a b : AV) : AV → Prop
  | .bool c => @Bool.rec (fun _ => Prop) (k b [] [] []) (k a [] [] []) c
  | .ub c => (c = true → k a [] [] []) ∧ (c = false → k b [] [] [])
  | _ => False

def notU (dflt : Prop) (op : UnOp) (k : Kont) : AV → Prop
  | .ub c => match op with
    | .not => k (.ub !c) [] [] []
    | _ => False
  | _ => dflt

def pickC (k : Kont) (a b : AV) : AV → Prop
  | .bool c => (c = true → k a [] [] []) ∧ (c = false → k b [] [] [])
  | _ => False

def strC (S : SE) (H : Heap) (dflt : Prop) (src dst : TypeId) (k : Kont) (x : AV) : Prop :=
  match kindOf S.T dst, kindOf S.T src with
  | .str, .slice e => match x with
    | .tl .u8 xs => must (isByte S.T e) (k (.str xs) [] [] [])
    | .osl 1 b lo len => match hget H b with
      | some (.tarr .u8 xs) => must (isByte S.T e) (lo + len ≤ xs.length ∧ k (.str ((xs.drop lo).take len)) [] [b] [])
      | _ => dflt
    | _ => dflt
  | _, _ => dflt

def pureC (S : SE) (un : Bool) (f : FuncId) (id : Nat) (ids : List Nat) (c : Con) (k : Kont) : Prop :=
  bif S.own f then resK k (keepAns id ids c.H [] (ansV un c.v) (once (reach c.H DEEP (ansV un c.v))))
  else optC (fun r => k r.1 [] ids (bif flatV DEEP r.1 then [] else ids)) (resolve true c.H DEEP (ansV un c.v))

def callC (S : SE) (un : Bool) (s : St) (id : Nat) (k : Kont) : AV → List AV → Prop
  | .fn f caps, args => bif (args ++ caps).any (hasPtr DEEP) then False else
    optC (fun g => resAllC true s.H (args ++ caps) fun p ids => optC (fun c => c.pre ∧ pureC S un f id ids c k) (g p)) (S.con f)
  | _, _ => False

/-- One operation, if it is one that the machine itself makes. -/
def opD (S : SE) (un : Bool) (op : Op) (s : St) (id : Nat) (k : Kont) : Prop :=
  let dflt := resK k (aopK op (S.env un) s id)
  match op with
  | .indexAddr t x i => idxC S dflt t k (opndK x s.fr) (opndK i s.fr)
  | .index t x i => indexC S dflt t k (opndK x s.fr) (opndK i s.fr)
  | .load t a => loadC S s.H dflt t k (opndK a s.fr)
  | .slice t x lo hi none => sliceC S dflt t k (mapO s.fr lo) (mapO s.fr hi) (opndK x s.fr)
  | .binOp o t x y _ => binC S dflt o t k (opndK x s.fr) (opndK y s.fr)
  | .pick c a b => pickC k (opndK a s.fr) (opndK b s.fr) (opndK c s.fr)
  | .convert a b x => strC S s.H dflt a b k (opndK x s.fr)
  | .call ⟨.value f, args, _⟩ => callC S un s id k (opndK f s.fr) (opndsK args.toList s.fr)
  | _ => dflt

/-! ### Operations that turn rows of trees into rows of data -/

/-- The elements that are appended, as data. -/
def elemsC (H : Heap) (g : GT) (k : List g.T → Prop) : AV → Prop
  | .tl g' xs => optC k (listOf g (dec g) (.tl g' xs))
  | .osl _ b lo len => match hget H b with
    | some (.arr _ xs) => lo + len ≤ xs.length ∧ optC k (decAll (dec g) ((xs.drop lo).take len))
    | some (.tarr g' xs) => lo + len ≤ xs.length ∧ optC (fun l => k ((l.drop lo).take len)) (listOf g (dec g) (.tl g' xs))
    | _ => False
  | .nils => k []
  | .emp => k []
  | .sl xs => optC k (decAll (dec g) xs)
  | .str s => match g with
    | .u8 => k s
    | _ => False
  | _ => False

def roomP (n by_ : Nat) : Prop := n * (by_ + 1) ≤ 1099511627776

def appNew (id by_ : Nat) (g : GT) (k : Kont) (base : AV) (ys : List g.T) : Prop :=
  (ys = [] → k base [] [] []) ∧ (ys ≠ [] → roomP ys.length by_ ∧ k (.osl g.size id 0 ys.length) [(id, some (.tarr g ys))] [] [])

def appOld (id by_ : Nat) (g : GT) (k : Kont) (b lo len : Nat) (l ys : List g.T) : Prop :=
  (lo = 0 ∧ len = l.length) ∧ (ys = [] → k (.osl g.size b lo len) [] [] []) ∧ (ys ≠ [] → roomP (l ++ ys).length by_ ∧ k (.osl g.size id 0 (l ++ ys).length) [(id, some (.tarr g (l ++ ys))), (b, none)] [] [])

def appBase (s : St) (id by_ : Nat) (g : GT) (k : Kont) (ys : List g.T) : AV → Prop
  | .nils => appNew id by_ g k .nils ys
  | .emp => appNew id by_ g k .emp ys
  | .osl n b lo len => must (n.beq g.size) (match hlive s.H s.F b with
    | some (.tarr g' l) => optC (fun l => appOld id by_ g k b lo len l ys) (listOf g (dec g) (.tl g' l))
    | some (.arr m xs) => must (m.beq g.size) (optC (fun l => appOld id by_ g k b lo len l ys) (decAll (dec g) xs))
    | _ => False)
  | _ => False

def srcKind (T : Tabs) (t : TypeId) : Bool :=
  match kindOf T t with
  | .str => true
  | .slice _ => true
  | _ => false

def appC (S : SE) (s : St) (id : Nat) (ts : List TypeId) (k : Kont) (a x : AV) : Prop :=
  match ts with
  | st :: xt :: _ => must (srcKind S.T xt) (optC (fun e => optC (fun by_ => optC (fun g => must (e.2.1.beq g.size) (elemsC s.H g (fun ys => appBase s id by_ g k ys a) x)) (S.gt e.1)) (bytesOf S.T e.1)) (elemT S.T st))
  | _ => False

def storeE (S : SE) (t : TypeId) (k : Kont) (b i off : Nat) (v : AV) (g : GT) (xs : List g.T) : Prop :=
  optC (fun n => must (fitsN n v) (i < xs.length ∧ optC (fun y => optC (fun z => k und [(b, some (.tarr g (xs.set i z)))] [b] []) (dec g y)) (setPart (enc g (xs.getD i g.nought)) off v.cells))) (szOf S.T t)

def storeC (S : SE) (s : St) (dflt : Prop) (t : TypeId) (k : Kont) (v : AV) : AV → Prop
  | .eptr b i off => match hlive s.H s.F b with
    | some (.tarr g xs) => storeE S t k b i off v g xs
    | _ => dflt
  | _ => dflt

def bytesC (S : SE) (id : Nat) (dflt : Prop) (src dst : TypeId) (k : Kont) : AV → Prop
  | .str s => match kindOf S.T dst, kindOf S.T src with
    | .slice e, .str => must (isByte S.T e) (s.length ≤ 1099511627776 ∧ k (.osl 1 id 0 s.length) [(id, some (.tarr .u8 s))] [] [])
    | _, _ => dflt
  | _ => dflt

def makeC (S : SE) (id : Nat) (t : TypeId) (k : Kont) : AV → AV → Prop
  | .int _ n, .int _ m => optC (fun e => optC (fun by_ => optC (fun g => optC (fun z => must (e.2.1.beq g.size) ((0 ≤ n ∧ n = m ∧ roomP m.toNat by_) ∧ k (.osl g.size id 0 m.toNat) [(id, some (.tarr g (List.replicate m.toNat z)))] [] [])) (dec g e.2.2)) (S.gt e.1)) (bytesOf S.T e.1)) (elemT S.T t)
  | _, _ => False

def opC (S : SE) (op : Op) (s : St) (id : Nat) (k : Kont) : Prop :=
  match op with
  | .store t a x => storeC S s (opD S false op s id k) t k (opndK x s.fr) (opndK a s.fr)
  | .convert a b x => bytesC S id (opD S false op s id k) a b k (opndK x s.fr)
  | .makeSlice t l c => makeC S id t k (opndK l s.fr) (opndK c s.fr)
  | .pick c a b => pickU k (opndK a s.fr) (opndK b s.fr) (opndK c s.fr)
  | .unOp o t x => notU (opD S false (.unOp o t x) s id k) o k (opndK x s.fr)
  | .binOp o t x y z => eqUb S (opD S false (.binOp o t x y z) s id fun v e rd fz => k (toUb v) e rd fz) o t k (opndK x s.fr) (opndK y s.fr)
  | .call ⟨.builtin .append, args, ts⟩ => match args.toList with
    | [a, x] => appC S s id ts.toList k (opndK a s.fr) (opndK x s.fr)
    | _ => False
  | op => opD S false op s id k

/-! ### Regions, and the text of a function -/

/-- A guard; a bool that was not known is known behind it. -/
def guardU (ops : List Oper) (s : St) (go skip : St → Prop) : Option (Nat × Bool) → Prop :=
  @Option.rec (Nat × Bool) (fun _ => Prop) (go s) (fun p => match guardTmp ops p.1 with
    | some d => (match getK s.fr d with
      | .bool b => @Bool.rec (fun _ => Prop) (bK p.2 (skip s) (go s)) (bK p.2 (go s) (skip s)) b
      | .ub b => (b = true → bK p.2 (go ⟨setK s.fr d (.bool true), s.H, s.F, s.nx⟩) (skip ⟨setK s.fr d (.bool true), s.H, s.F, s.nx⟩)) ∧ (b = false → bK p.2 (skip ⟨setK s.fr d (.bool false), s.H, s.F, s.nx⟩) (go ⟨setK s.fr d (.bool false), s.H, s.F, s.nx⟩))
      | .tup [] => skip s
      | _ => False)
    | none => False)

def opsC (S : SE) (ops : List Oper) : List Oper → Nat → St → (St → Prop) → Prop :=
  @List.rec Oper (fun _ => Nat → St → (St → Prop) → Prop) (fun _ s k => k s) (fun o _ ih id s k =>
    guardU ops s (fun s => opC S o.op s id fun v e _ fz => ih (Nat.add id (nat_lit 64)) ⟨putK o.dst s.fr v, happ s.H e, fz ++ s.F, s.nx⟩ k)
      (fun s => ih (Nat.add id (nat_lit 64)) ⟨putK o.dst s.fr und, s.H, s.F, s.nx⟩ k) o.guard)

/-! A region whose order is drawn: its bools are told as the machine tells them; which of them are known is kept beside it. -/

def knOf : List (Nat × Bool) → Nat → Option Bool
  | [], _ => none
  | p :: r, d => bif p.1.beq d then some p.2 else knOf r d

def knDel (d : Nat) : List (Nat × Bool) → List (Nat × Bool)
  | [] => []
  | p :: r => bif p.1.beq d then knDel d r else p :: knDel d r

def kb (kn : List (Nat × Bool)) : Operand → Option Bool
  | .tmp t => knOf kn t
  | .const (.bool b) => some b
  | _ => none

def knNot : Option Bool → Option Bool
  | some b => some !b
  | none => none

def knPick (a b : Option Bool) : Option Bool → Option Bool
  | some true => a
  | some false => b
  | none => none

def knOp (kn : List (Nat × Bool)) : Op → Option Bool
  | .move x => kb kn x
  | .assign x => kb kn x
  | .pick c a b => knPick (kb kn a) (kb kn b) (kb kn c)
  | .unOp .not _ x => knNot (kb kn x)
  | _ => none

def knPut (kn : List (Nat × Bool)) (dst : Option Tmp) (v : Option Bool) : List (Nat × Bool) :=
  match dst with
  | some d => (match v with
    | some b => (d, b) :: knDel d kn
    | none => knDel d kn)
  | none => kn

abbrev DK := St → List (Nat × Bool) → Prop

def guardD (ops : List Oper) (s : St) (kn : List (Nat × Bool)) (go skip : DK) : Option (Nat × Bool) → Prop :=
  @Option.rec (Nat × Bool) (fun _ => Prop) (go s kn) (fun p => match guardTmp ops p.1 with
    | some d => (match knOf kn d with
      | some b => bK b (bK p.2 (go s kn) (skip s kn)) (bK p.2 (skip s kn) (go s kn))
      | none => (match getK s.fr d with
        | .bool b => (b = true → bK p.2 (go ⟨setK s.fr d (.bool true), s.H, s.F, s.nx⟩ ((d, true) :: kn)) (skip ⟨setK s.fr d (.bool true), s.H, s.F, s.nx⟩ ((d, true) :: kn))) ∧
          (b = false → bK p.2 (skip ⟨setK s.fr d (.bool false), s.H, s.F, s.nx⟩ ((d, false) :: kn)) (go ⟨setK s.fr d (.bool false), s.H, s.F, s.nx⟩ ((d, false) :: kn)))
        | .tup [] => skip s kn
        | _ => False))
    | none => False)

def opsD (S : SE) (ops : List Oper) : List Oper → Nat → St → List (Nat × Bool) → List Foot → (St → List (Nat × Bool) → List Foot → Prop) → Prop :=
  @List.rec Oper (fun _ => Nat → St → List (Nat × Bool) → List Foot → (St → List (Nat × Bool) → List Foot → Prop) → Prop) (fun _ s kn fs k => k s kn fs) (fun o _ ih id s kn fs k =>
    guardD ops s kn (fun s kn => opD S true o.op s id fun v e rd fz => must (fz.all (isIn · s.F)) (ih (Nat.add id (nat_lit 64)) ⟨putK o.dst s.fr v, happ s.H e, s.F, s.nx⟩ (knPut kn o.dst (knOp kn o.op)) (fs ++ [⟨rd, e.map (·.1), false⟩]) k))
      (fun s kn => ih (Nat.add id (nat_lit 64)) ⟨putK o.dst s.fr und, s.H, s.F, s.nx⟩ (knPut kn o.dst none) (fs ++ [⟨[], [], false⟩]) k) o.guard)

def Fr.map (f : AV → AV) : Fr → Fr
  | .nil => .nil
  | .nd v l r => .nd (f v) (l.map f) (r.map f)

/-- Behind such a region: bools that are not known. -/
def ubAll (kn : List (Nat × Bool)) : List Oper → Fr → Fr
  | [], fr => fr
  | o :: r, fr => match o.dst with
    | some d => (match knOf kn d with
      | some _ => ubAll kn r fr
      | none => ubAll kn r (setK fr d (toUb (getK fr d))))
    | none => ubAll kn r fr

def regC (S : SE) (ops : List Oper) (draw : Bool) (s : St) (k : St → Prop) : Prop :=
  bK draw (opsD S ops ops s.nx (withF ⟨s.fr.map unub, s.H, s.F, s.nx⟩ s.F ops.length) [] [] fun s' kn fs => must (feetOk fs (befL ops []) 0) (k ⟨ubAll kn ops s'.fr, s'.H, s'.F, s'.nx⟩)) (opsC S ops ops s.nx (withF s s.F ops.length) k)

/-- The first region of a loop: its name. -/
def keyOf : Code → Nat :=
  @Code.rec (fun _ => Nat) 0 (fun i _ _ => i + 1) (fun _ _ a b => bK (Nat.beq a 0) b a) (fun _ _ _ _ _ => 0) (fun _ _ b => b) (fun _ b => b) (fun _ _ _ _ _ _ => 0) (fun _ => 0) (fun _ _ => 0) (fun _ => 0) (fun _ => 0) 0 (fun _ => 0)

/-! ### A state cut down to what is looked at -/

def rids (H : Heap) : Nat → AV → List Nat
  | 0, _ => []
  | d + 1, a =>
    let obj (b : Nat) : List Nat := b :: (match hget H b with
      | some (.cells cs) => cs.flatMap (rids H d)
      | some (.arr _ xs) => xs.flatMap (rids H d)
      | some (.map es) => es.flatMap fun p => rids H d p.2
      | _ => [])
    match a with
    | .agg cs | .tup cs | .fn _ cs => cs.flatMap (rids H d)
    | .ifc _ v => rids H d v
    | .osl _ b _ _ | .ptr b _ | .eptr b _ _ | .mp b => obj b
    | _ => []

def onceR : List Nat → List Nat
  | [] => []
  | a :: r => a :: (onceR r).filter (fun b => !(a.beq b))

def rnv (ρ : Nat → Option Nat) : Nat → AV → AV
  | 0, _ => .dead
  | d + 1, a =>
    match a with
    | .agg cs => .agg (cs.map (rnv ρ d))
    | .tup cs => .tup (cs.map (rnv ρ d))
    | .fn f cs => .fn f (cs.map (rnv ρ d))
    | .ifc t v => .ifc t (rnv ρ d v)
    | .osl s b lo len => match ρ b with
      | some c => .osl s c lo len
      | none => .dead
    | .ptr b o => match ρ b with
      | some c => .ptr c o
      | none => .dead
    | .eptr b i o => match ρ b with
      | some c => .eptr c i o
      | none => .dead
    | .mp b => match ρ b with
      | some c => .mp c
      | none => .dead
    | v => v

def rno (ρ : Nat → Option Nat) (h : Option GT) : AObj → AObj
  | .cells cs => .cells (cs.map (rnv ρ DEEP))
  | .arr s xs => match h with
    | some g => bif s.beq g.size then (match decAll (dec g) xs with
      | some l => .tarr g l
      | none => .arr s (xs.map (rnv ρ DEEP))) else .arr s (xs.map (rnv ρ DEEP))
    | none => .arr s (xs.map (rnv ρ DEEP))
  | .tarr t xs => .tarr t xs
  | .map es => .map (es.map fun p => (rnv ρ DEEP p.1, rnv ρ DEEP p.2))

/-- The kind of an array that is told to be one of data. -/
def hintOf (fr : Fr) (b : Nat) : List (Nat × HK) → Option GT
  | [] => none
  | p :: r => match p.2, getK fr p.1 with
    | .arr g, .osl _ c _ _ => bif c.beq b then some g else hintOf fr b r
    | _, _ => hintOf fr b r

def slotIds (s : St) : List (Nat × HK) → List Nat
  | [] => []
  | p :: r => match p.2 with
    | .tree _ => slotIds s r
    | _ => rids s.H DEEP (getK s.fr p.1) ++ slotIds s r

def canonIds (live : List (Nat × HK)) (s : St) : List Nat :=
  (onceR (slotIds s live)).filter fun b => !(isIn b s.F)

def rnHeap (live : List (Nat × HK)) (s : St) (ρ : Nat → Option Nat) : List Nat → Nat → Heap
  | [], _ => []
  | b :: r, c => match hget s.H b with
    | some o => (c, rno ρ (hintOf s.fr b live) o) :: rnHeap live s ρ r (c + 1)
    | none => rnHeap live s ρ r (c + 1)

/-- A row that is looked at no more but as data. -/
def treeOf (g : GT) (H : Heap) (ids : List Nat) (a : AV) : AV :=
  match a with
  | .osl _ b lo len => bif isIn b ids then .dead else (match hget H b with
    | some (.tarr g' xs) => match listOf g (dec g) (.tl g' xs) with
      | some l => .tl g ((l.drop lo).take len)
      | none => .dead
    | some (.arr n xs) => match decAll (dec g) xs with
      | some l => bif n.beq g.size then .tl g ((l.drop lo).take len) else .dead
      | none => .dead
    | _ => .dead)
  | a => match listOf g (dec g) a with
    | some l => .tl g l
    | none => .dead

def canonVal (s : St) (ids : List Nat) (p : Nat × HK) : AV :=
  match p.2 with
  | .tree g => treeOf g s.H ids (getK s.fr p.1)
  | _ => rnv (placeIn 0 ids) DEEP (getK s.fr p.1)

def canonVals (live : List (Nat × HK)) (s : St) : List AV :=
  let ids := canonIds live s
  live.map (canonVal s ids)

def canonHeap (live : List (Nat × HK)) (s : St) : Heap :=
  rnHeap live s (placeIn 0 (canonIds live s)) (canonIds live s) 0

def Fr.deads : Nat → Fr
  | 0 => .nil
  | n + 1 => .nd .dead (deads n) (deads n)

def frK : List Nat → List AV → Fr
  | k :: ks, v :: vs => setK (frK ks vs) k v
  | _, _ => Fr.deads 10

/-- More numbers than a cut state has. -/
def MANY : Nat := 1000

def cutSt (live : List Nat) (vals : List AV) (H : Heap) : St := ⟨frK live vals, H, [], MANY⟩

def codeC (S : SE) : Code → St → (AX → St → Prop) → Prop :=
  @Code.rec (fun _ => St → (AX → St → Prop) → Prop)
    (fun s K => K .normal s)
    (fun _ ops draw s K => regC S ops.toList draw s (K .normal))
    (fun _ _ fa fb s K => fa s fun x s' => @AX.rec (fun _ => Prop) (fb s' K) (fun k => K (.exit k) s') (K .ret s') x)
    (fun c _ _ fa fb s K => match opndK c s.fr with
      | .bool b => @Bool.rec (fun _ => Prop) (fb s K) (fa s K) b
      | .ub b => (b = true → fa s K) ∧ (b = false → fb s K)
      | _ => False)
    (fun id _ fb s K => fb s fun x s' => @AX.rec (fun _ => Prop) (K .normal s') (fun k => bK (Nat.beq k id) (K .normal s') (K (.exit k) s')) (K .ret s') x)
    (fun b _ s K => optC (fun lc => must ((canonIds lc.live s).length.ble MANY) (lc.fn (canonVals lc.live s) (canonHeap lc.live s) fun x vs H => K x (cutSt (lc.out.map (·.1)) vs H))) (S.loop (keyOf b)))
    (fun _ _ _ _ _ _ _ _ => False)
    (fun id s K => K (.exit id) s)
    (fun _ _ _ _ => False)
    (fun _ s K => K .normal s)
    (fun _ _ _ => False)
    (fun s K => K .ret s)
    (fun _ _ _ => False)

/-- A function's answer, as a tree. -/
def ansC (T : Tabs) (rs : List ResultVar) (k : AV → Prop) (s : St) : Prop :=
  optC (fun vs => resC true s.H DEEP (oneOf vs) fun y _ => k y) (aresult T s.fr s.H rs)

def endC (T : Tabs) (rs : List ResultVar) (k : AV → Prop) (x : AX) (s : St) : Prop :=
  must (s.nx.ble WIDE) (@AX.rec (fun _ => Prop) (ansC T rs k s) (fun _ => False) (ansC T rs k s) x)

/-- A function, called with trees. -/
def funC (S : SE) (fn : Func) (args : List AV) (k : AV → Prop) : Prop :=
  optC (fun code => must (args.length.ble fn.ntmps) (codeC S code ⟨Fr.args args 0 (Fr.full 10), [], [], 0⟩ (endC S.T fn.results.toList k))) fn.body

/-- One round of a loop: behind it the slots that it looks at, and the heap; or how it is left, and what is looked at then. -/
def roundC (S : SE) (lc : LoopC) (b : Code) (vals : List AV) (H : Heap) (back : List AV → Heap → Prop) (out : AX → List AV → Heap → Prop) : Prop :=
  codeC S b (cutSt (lc.live.map (·.1)) vals H) fun x s =>
    let o := lc.out
    @AX.rec (fun _ => Prop) (must ((canonIds lc.live s).length.ble MANY) (back (canonVals lc.live s) (canonHeap lc.live s)))
      (fun id => must ((canonIds o s).length.ble MANY) (out (.exit id) (canonVals o s) (canonHeap o s)))
      (must ((canonIds o s).length.ble MANY) (out .ret (canonVals o s) (canonHeap o s))) x

end
end Go.Proofs.Ytjihnbjdclobgaa.VS
