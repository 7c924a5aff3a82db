/- What functions are said to answer. Conditions: none. -/
import Derived.Test.YtjihnbjdclobgaaVSTabs
import Derived.Test.YtjihnbjdclobgaaVW10
import Derived.Test.YtjihnbjdclobgaaChecked
namespace Go.Proofs.Ytjihnbjdclobgaa.VS
/-- A way that may not be. -/
def odd (w : Int) : Bool := decide (w < 1) || decide (w > 3)

/-- The first odd way; below 0: there is none. -/
def oddGo : List Int → Nat → Int
  | [], _ => -1
  | x :: r, i => if odd x then (i : Int) else oddGo r (i + 1)

def fIs (c : Cnf) : Bool := decide (1 ≤ c.ways.length) && decide (c.ways.length ≤ 8) && !(c.ways.any odd) && (c.ways.getD 0 0 == 1) && decide (1 ≤ c.policy) && decide (c.policy ≤ 4)
def fAt (c : Cnf) (b way : Int) : Bool := decide (0 ≤ b) && decide (b < c.ways.length) && (c.ways.getD b.toNat 0 == way)
def fHeeds (c : Cnf) (b : Int) : Bool := fAt c b 1 || fAt c b 3
def aboveGo (ways : List Int) : Nat → Int
  | 0 => -1
  | n + 1 => if ways.getD n 0 == 1 then (n : Int) else aboveGo ways n
def fAbove (c : Cnf) (b : Int) : Int := aboveGo c.ways (min (b + 1) c.ways.length).toNat

/-- Rows that Go bears. -/
def fitC (c : Cnf) : Prop := c.ways.length ≤ 9223372036854775807

noncomputable section
def sConf0 : SE := ⟨tabs, fun _ => none, fun _ => false, fun _ => none, fun _ => none⟩
def consA : Cons := [(39, con1 aInt (fun _ => True) fun w => .ub (odd w)), (41, con3 aCnf aInt aInt (fun _ _ _ => True) fun c b w => .ub (fAt c b w)), (14, con2 aCnf aInt (fun _ _ => True) fun c b => .ub (fAt c b 1)), (16, con2 aCnf aInt (fun _ _ => True) fun c b => .ub (fHeeds c b))]
def sConfA : SE := { sConf0 with con := conOf consA }
def consB : Cons := (13, con2 aCnf aInt (fun _ _ => True) fun c b => .ub (fAt c b 1)) :: (15, con2 aCnf aInt (fun _ _ => True) fun c b => .ub (fHeeds c b)) :: consA
/-- slices.IndexFunc at the odd ways. -/
def lIdx : LoopC := mkLoop (π := List Int × Nat) [(0, .keep), (1, .keep), (7, .keep), (8, .keep)] [(4, .keep)] (fun p => [.tl .int p.1, .fn 39 [], .int .i64 p.1.length, .int .i64 p.2]) (fun _ => [])
  (fun p k => p.1.length ≤ 9223372036854775807 ∧ ((p.1.drop p.2).any odd = true → k .ret [.int .i64 (oddGo (p.1.drop p.2) p.2)] []) ∧ ((p.1.drop p.2).any odd = false → k (.exit 0) [.dead] []))
def sConfB : SE := { sConf0 with con := conOf consB, loop := fun _ => some lIdx }
def consC : Cons := (69, con2 (aL .int) (aFn 39) (fun xs _ => xs.length ≤ 9223372036854775807) fun xs _ => .int .i64 (oddGo xs 0)) :: consB
def sConfC : SE := { sConf0 with con := conOf consC }
def consD : Cons := (40, con2 (aL .int) (aFn 39) (fun xs _ => xs.length ≤ 9223372036854775807) fun xs _ => .ub (xs.any odd)) :: consC
/-- conf.Above's loop: downwards. -/
def lAbove : LoopC := mkLoop (π := Cnf × Int) [(2, .keep), (5, .keep)] [(4, .keep)] (fun p => [.ptr 0 0, .int .i64 p.2]) (fun p => [(0, .cells (encCnf p.1).cells)])
  (fun p k => (p.2 < 9223372036854775807 ∧ p.2 < p.1.ways.length) ∧ (aboveGo p.1.ways (p.2 + 1).toNat ≠ -1 → k .ret [.int .i64 (aboveGo p.1.ways (p.2 + 1).toNat)] []) ∧ (aboveGo p.1.ways (p.2 + 1).toNat = -1 → k (.exit 0) [.dead] []))
/-- The reference's: upwards. -/
def lRAbove : LoopC := mkLoop (π := Cnf × Int × Nat) [(1, .keep), (2, .keep), (4, .keep), (5, .keep), (6, .keep)] [(4, .keep), (5, .keep)] (fun p => [.int .i64 p.2.1, .ptr 0 0, .int .i64 0, .int .i64 (aboveGo p.1.ways p.2.2), .int .i64 p.2.2]) (fun p => [(0, .cells (encCnf p.1).cells)])
  (fun p k => (p.1.ways.length ≤ 9223372036854775807 ∧ (p.2.2 : Int) ≤ max 0 (min (p.2.1 + 1) p.1.ways.length)) ∧ k (.exit 0) [.int .i64 0, .int .i64 (aboveGo p.1.ways (min (p.2.1 + 1) p.1.ways.length).toNat)] [])
/-- The reference's rows of ways. -/
def lRIs : LoopC := mkLoop (π := Cnf × Nat) [(1, .keep), (2, .keep), (3, .keep)] [(1, .keep), (2, .keep)] (fun p => [.ptr 0 0, .bool false, .int .i64 p.2]) (fun p => [(0, .cells (encCnf p.1).cells)])
  (fun p k => p.1.ways.length ≤ 9223372036854775807 ∧ ((p.1.ways.drop p.2).any odd = true → k .ret [.ptr 0 0, .bool false] [(0, .cells (encCnf p.1).cells)]) ∧ ((p.1.ways.drop p.2).any odd = false → k (.exit 0) [.ptr 0 0, .bool false] [(0, .cells (encCnf p.1).cells)]))
def sConfD (l : LoopC) : SE := { sConf0 with con := conOf consD, loop := fun _ => some l }
def consE : Cons := (11, con1 aCnf fitC fun c => .ub (fIs c)) :: (12, con1 aCnf fitC fun c => .ub (fIs c)) :: (17, con2 aCnf aInt (fun c _ => fitC c) fun c b => .int .i64 (fAbove c b)) ::
  (18, con2 aCnf aInt (fun c _ => fitC c) fun c b => .int .i64 (fAbove c b)) :: consD
/-- The law's own loop: what lies between. -/
def lLaw : LoopC := mkLoop (π := Cnf × Int × Int) [(1, .keep), (2, .keep), (6, .keep)] [(4, .keep)] (fun p => [.int .i64 p.2.1, .ptr 0 0, .int .i64 p.2.2]) (fun p => [(0, .cells (encCnf p.1).cells)])
  (fun p k => (p.1.ways.length ≤ 9223372036854775807 ∧ 0 ≤ p.2.2 ∧ ∀ j, p.2.2 ≤ j → j ≤ p.2.1 → fAt p.1 j 1 = false) ∧ k (.exit 0) [.dead] [])
def consF : Cons := (19, con0 True (.bool true)) :: consE
def sConfF : SE := { sConf0 with con := conOf consF, loop := fun _ => some lLaw }
end
end Go.Proofs.Ytjihnbjdclobgaa.VS
