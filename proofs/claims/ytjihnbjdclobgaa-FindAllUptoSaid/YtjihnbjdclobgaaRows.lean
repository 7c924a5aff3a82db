/-
  No cell of these rows narrows 'for every input' (looked for: loops, veiled, ifaces, maps, wideKeys, modest, calm, conditions, laid).
  DERIVED. THE GIVEN ROWS OF THIS SEAT. 8 by the template 'for every input the law returns true; each argument reads behind the call as it read before'; 0 by the template 'total and deterministic' (their statements: YtjihnbjdclobgaaTotals.lean).
  GIVEN WITH THE SEED: the statements are not yours to turn. If you find one false, say at which input.
  Laid BY PROGRAM, IN A SANDBOX (cutbox-rows.mjs): the forced cells as the released guide's own fill.sh prints them over the translation 83de4715075ee132… (all of the seat's roots in one cut). By AI agents, Wed Nov 11 2026. No macro, syntax, notation, axiom, sorry.
-/
import Derived.Test.YtjihnbjdclobgaaChecked
import GoSem.Claim
import GoSem.ClaimJoined
import GoSem.ClaimMapViews
import Derived.JoinedTies
import Derived.KernelRfl
namespace Go.Proofs.Ytjihnbjdclobgaa
/- THE CELL 'sum', in the pinned program and in every row, IS THE sha256 OF THE DUMP (.gsa) THAT YtjihnbjdclobgaaProg.lean LOADS. Nothing in Lean hashes anything: it is a label: what it is worth is what the hold of that sum in a sandbox is worth. -/
noncomputable def Try.pinned : Pinned := { name := "ytjihnbjdclobgaa", sum := "83de4715075ee132659077ef79995af8308018b4c68f7c392d2368f4d3495ff6", checked := Try.checked }
namespace Rows
def none {H : Type} : Left H := { results := [], args := [] }

/-- 'veneerlaw9.ConfTells': WHATEVER THE INPUT: true; the input reads as it did. -/
def confTellsSpec : ChangeSpec := { name := "confTells", fn := fun _ => fun
  | [d1, d2] => { results := [.lit (.bool true)], args := [d1, d2] }
  | _ => none }
def confTellsRow : OpenClaim := { program := "ytjihnbjdclobgaa", sum := "83de4715075ee132659077ef79995af8308018b4c68f7c392d2368f4d3495ff6", func := "veneer/veneerlaw9.ConfTells", spec := "confTells", unfollowed := true, recurses := true, apart := false }
def ConfTellsSaid : Prop := confTellsRow.holds Try.pinned (OpenSpec.ofChange confTellsSpec)

/-- ITS FALSE NEIGHBOUR: 'it returns false'. Refute it at one input. -/
def confTellsWrong : ChangeSpec := { name := "confTells", fn := fun _ => fun
  | [d1, d2] => { results := [.lit (.bool false)], args := [d1, d2] }
  | _ => none }
def ConfTellsWrongFalsely : Prop := confTellsRow.holds Try.pinned (OpenSpec.ofChange confTellsWrong)

/-- 'veneerlaw9.ConfAbove': WHATEVER THE INPUT: true; the input reads as it did. -/
def confAboveSpec : ChangeSpec := { name := "confAbove", fn := fun _ => fun
  | [d1, d2] => { results := [.lit (.bool true)], args := [d1, d2] }
  | _ => none }
def confAboveRow : OpenClaim := { program := "ytjihnbjdclobgaa", sum := "83de4715075ee132659077ef79995af8308018b4c68f7c392d2368f4d3495ff6", func := "veneer/veneerlaw9.ConfAbove", spec := "confAbove", unfollowed := true, recurses := true, apart := false }
def ConfAboveSaid : Prop := confAboveRow.holds Try.pinned (OpenSpec.ofChange confAboveSpec)

/-- ITS FALSE NEIGHBOUR: 'it returns false'. Refute it at one input. -/
def confAboveWrong : ChangeSpec := { name := "confAbove", fn := fun _ => fun
  | [d1, d2] => { results := [.lit (.bool false)], args := [d1, d2] }
  | _ => none }
def ConfAboveWrongFalsely : Prop := confAboveRow.holds Try.pinned (OpenSpec.ofChange confAboveWrong)

/-- 'veneerlaw9.ConfOdd': WHATEVER THE INPUT: true; the input reads as it did. -/
def confOddSpec : ChangeSpec := { name := "confOdd", fn := fun _ => fun
  | [d] => { results := [.lit (.bool true)], args := [d] }
  | _ => none }
def confOddRow : OpenClaim := { program := "ytjihnbjdclobgaa", sum := "83de4715075ee132659077ef79995af8308018b4c68f7c392d2368f4d3495ff6", func := "veneer/veneerlaw9.ConfOdd", spec := "confOdd", unfollowed := true, recurses := true, apart := false }
def ConfOddSaid : Prop := confOddRow.holds Try.pinned (OpenSpec.ofChange confOddSpec)

/-- ITS FALSE NEIGHBOUR: 'it returns false'. Refute it at one input. -/
def confOddWrong : ChangeSpec := { name := "confOdd", fn := fun _ => fun
  | [d] => { results := [.lit (.bool false)], args := [d] }
  | _ => none }
def ConfOddWrongFalsely : Prop := confOddRow.holds Try.pinned (OpenSpec.ofChange confOddWrong)

/-- 'veneerlaw5.FindAll': WHATEVER THE INPUT: true; the input reads as it did. -/
def findAllSpec : ChangeSpec := { name := "findAll", fn := fun _ => fun
  | [d1, d2] => { results := [.lit (.bool true)], args := [d1, d2] }
  | _ => none }
def findAllRow : OpenClaim := { program := "ytjihnbjdclobgaa", sum := "83de4715075ee132659077ef79995af8308018b4c68f7c392d2368f4d3495ff6", func := "veneer/veneerlaw5.FindAll", spec := "findAll", unfollowed := true, recurses := true, apart := false }
def FindAllSaid : Prop := findAllRow.holds Try.pinned (OpenSpec.ofChange findAllSpec)

/-- ITS FALSE NEIGHBOUR: 'it returns false'. Refute it at one input. -/
def findAllWrong : ChangeSpec := { name := "findAll", fn := fun _ => fun
  | [d1, d2] => { results := [.lit (.bool false)], args := [d1, d2] }
  | _ => none }
def FindAllWrongFalsely : Prop := findAllRow.holds Try.pinned (OpenSpec.ofChange findAllWrong)

/-- 'veneerlaw5.FindOdd': WHATEVER THE INPUT: true; the input reads as it did. -/
def findOddSpec : ChangeSpec := { name := "findOdd", fn := fun _ => fun
  | [d] => { results := [.lit (.bool true)], args := [d] }
  | _ => none }
def findOddRow : OpenClaim := { program := "ytjihnbjdclobgaa", sum := "83de4715075ee132659077ef79995af8308018b4c68f7c392d2368f4d3495ff6", func := "veneer/veneerlaw5.FindOdd", spec := "findOdd", unfollowed := true, recurses := true, apart := false }
def FindOddSaid : Prop := findOddRow.holds Try.pinned (OpenSpec.ofChange findOddSpec)

/-- ITS FALSE NEIGHBOUR: 'it returns false'. Refute it at one input. -/
def findOddWrong : ChangeSpec := { name := "findOdd", fn := fun _ => fun
  | [d] => { results := [.lit (.bool false)], args := [d] }
  | _ => none }
def FindOddWrongFalsely : Prop := findOddRow.holds Try.pinned (OpenSpec.ofChange findOddWrong)

/-- 'veneerlaw13.TableReads': WHATEVER THE INPUT: true; the input reads as it did. -/
def tableReadsSpec : ChangeSpec := { name := "tableReads", fn := fun _ => fun
  | [d] => { results := [.lit (.bool true)], args := [d] }
  | _ => none }
def tableReadsRow : OpenClaim := { program := "ytjihnbjdclobgaa", sum := "83de4715075ee132659077ef79995af8308018b4c68f7c392d2368f4d3495ff6", func := "veneer/veneerlaw13.TableReads", spec := "tableReads", unfollowed := true, recurses := true, apart := false }
def TableReadsSaid : Prop := tableReadsRow.holds Try.pinned (OpenSpec.ofChange tableReadsSpec)

/-- ITS FALSE NEIGHBOUR: 'it returns false'. Refute it at one input. -/
def tableReadsWrong : ChangeSpec := { name := "tableReads", fn := fun _ => fun
  | [d] => { results := [.lit (.bool false)], args := [d] }
  | _ => none }
def TableReadsWrongFalsely : Prop := tableReadsRow.holds Try.pinned (OpenSpec.ofChange tableReadsWrong)

/-- 'veneerlaw13.TableOdd': WHATEVER THE INPUT: true; the input reads as it did. -/
def tableOddSpec : ChangeSpec := { name := "tableOdd", fn := fun _ => fun
  | [d] => { results := [.lit (.bool true)], args := [d] }
  | _ => none }
def tableOddRow : OpenClaim := { program := "ytjihnbjdclobgaa", sum := "83de4715075ee132659077ef79995af8308018b4c68f7c392d2368f4d3495ff6", func := "veneer/veneerlaw13.TableOdd", spec := "tableOdd", unfollowed := true, recurses := true, apart := false }
def TableOddSaid : Prop := tableOddRow.holds Try.pinned (OpenSpec.ofChange tableOddSpec)

/-- ITS FALSE NEIGHBOUR: 'it returns false'. Refute it at one input. -/
def tableOddWrong : ChangeSpec := { name := "tableOdd", fn := fun _ => fun
  | [d] => { results := [.lit (.bool false)], args := [d] }
  | _ => none }
def TableOddWrongFalsely : Prop := tableOddRow.holds Try.pinned (OpenSpec.ofChange tableOddWrong)

/-- 'veneerlaw13.TableBytes': WHATEVER THE INPUT: true; the input reads as it did. -/
def tableBytesSpec : ChangeSpec := { name := "tableBytes", fn := fun _ => fun
  | [d1, d2] => { results := [.lit (.bool true)], args := [d1, d2] }
  | _ => none }
def tableBytesRow : OpenClaim := { program := "ytjihnbjdclobgaa", sum := "83de4715075ee132659077ef79995af8308018b4c68f7c392d2368f4d3495ff6", func := "veneer/veneerlaw13.TableBytes", spec := "tableBytes", unfollowed := true, recurses := true, apart := false }
def TableBytesSaid : Prop := tableBytesRow.holds Try.pinned (OpenSpec.ofChange tableBytesSpec)

/-- ITS FALSE NEIGHBOUR: 'it returns false'. Refute it at one input. -/
def tableBytesWrong : ChangeSpec := { name := "tableBytes", fn := fun _ => fun
  | [d1, d2] => { results := [.lit (.bool false)], args := [d1, d2] }
  | _ => none }
def TableBytesWrongFalsely : Prop := tableBytesRow.holds Try.pinned (OpenSpec.ofChange tableBytesWrong)

/- THE SECOND FORM. 'bulk': how many values and letters a reading holds, each counted each time it is reached (what is shared counts as often as it is met; a slice's spare places count too). A statement '..UptoSaid' is the law's where the arguments, and the package variables that the reading takes, are together of bulk at most 1048576: NARROWER than '..Said'. Prove '..Said' where nothing that the law and all that it calls make is longer than what came in: it says more and counts as full. Else prove '..UptoSaid'. A law counts once. -/
mutual
def uptoBulk {H : Type} : DataW H → Nat
  | .lit (.string bytes) => bytes.length + 1
  | .lit _ => 1
  | .nil => 1
  | .ptr d => uptoBulk d + 1
  | .slice elems spare => uptoBulkAll elems + uptoBulkAll spare + 1
  | .agg parts => uptoBulkAll parts + 1
  | .iface _ d => uptoBulk d + 1
  | .map entries => uptoBulkEntries entries + 1
  | .held _ => 1
def uptoBulkAll {H : Type} : List (DataW H) → Nat
  | [] => 0
  | d :: r => uptoBulk d + uptoBulkAll r
def uptoBulkEntries {H : Type} : List (Lit × DataW H) → Nat
  | [] => 0
  | x :: r => uptoBulkEntry x + uptoBulkEntries r
def uptoBulkEntry {H : Type} : Lit × DataW H → Nat
  | (.string bytes, d) => bytes.length + uptoBulk d + 1
  | (_, d) => uptoBulk d + 1
 end
def uptoSmall : (H : Type) → List (DataW H) → Bool := fun _ ds => decide (uptoBulkAll ds ≤ 1048576)
def OpenSpec.upto (s : _root_.Go.ChangeSpec) : _root_.Go.OpenSpec := { _root_.Go.OpenSpec.ofChange s with cond := some uptoSmall }

/-- 'veneerlaw9.ConfTells', WHERE WHAT IT READS IS OF BULK AT MOST 1048576: true; the input reads as it did. -/
def confTellsUptoRow : OpenClaim := { program := "ytjihnbjdclobgaa", sum := "83de4715075ee132659077ef79995af8308018b4c68f7c392d2368f4d3495ff6", func := "veneer/veneerlaw9.ConfTells", spec := "confTells", unfollowed := true, recurses := true, apart := false, narrowed := true }
def ConfTellsUptoSaid : Prop := confTellsUptoRow.holds Try.pinned (OpenSpec.upto confTellsSpec)

/-- 'veneerlaw9.ConfAbove', WHERE WHAT IT READS IS OF BULK AT MOST 1048576: true; the input reads as it did. -/
def confAboveUptoRow : OpenClaim := { program := "ytjihnbjdclobgaa", sum := "83de4715075ee132659077ef79995af8308018b4c68f7c392d2368f4d3495ff6", func := "veneer/veneerlaw9.ConfAbove", spec := "confAbove", unfollowed := true, recurses := true, apart := false, narrowed := true }
def ConfAboveUptoSaid : Prop := confAboveUptoRow.holds Try.pinned (OpenSpec.upto confAboveSpec)

/-- 'veneerlaw9.ConfOdd', WHERE WHAT IT READS IS OF BULK AT MOST 1048576: true; the input reads as it did. -/
def confOddUptoRow : OpenClaim := { program := "ytjihnbjdclobgaa", sum := "83de4715075ee132659077ef79995af8308018b4c68f7c392d2368f4d3495ff6", func := "veneer/veneerlaw9.ConfOdd", spec := "confOdd", unfollowed := true, recurses := true, apart := false, narrowed := true }
def ConfOddUptoSaid : Prop := confOddUptoRow.holds Try.pinned (OpenSpec.upto confOddSpec)

/-- 'veneerlaw5.FindAll', WHERE WHAT IT READS IS OF BULK AT MOST 1048576: true; the input reads as it did. -/
def findAllUptoRow : OpenClaim := { program := "ytjihnbjdclobgaa", sum := "83de4715075ee132659077ef79995af8308018b4c68f7c392d2368f4d3495ff6", func := "veneer/veneerlaw5.FindAll", spec := "findAll", unfollowed := true, recurses := true, apart := false, narrowed := true }
def FindAllUptoSaid : Prop := findAllUptoRow.holds Try.pinned (OpenSpec.upto findAllSpec)

/-- 'veneerlaw5.FindOdd', WHERE WHAT IT READS IS OF BULK AT MOST 1048576: true; the input reads as it did. -/
def findOddUptoRow : OpenClaim := { program := "ytjihnbjdclobgaa", sum := "83de4715075ee132659077ef79995af8308018b4c68f7c392d2368f4d3495ff6", func := "veneer/veneerlaw5.FindOdd", spec := "findOdd", unfollowed := true, recurses := true, apart := false, narrowed := true }
def FindOddUptoSaid : Prop := findOddUptoRow.holds Try.pinned (OpenSpec.upto findOddSpec)

/-- 'veneerlaw13.TableReads', WHERE WHAT IT READS IS OF BULK AT MOST 1048576: true; the input reads as it did. -/
def tableReadsUptoRow : OpenClaim := { program := "ytjihnbjdclobgaa", sum := "83de4715075ee132659077ef79995af8308018b4c68f7c392d2368f4d3495ff6", func := "veneer/veneerlaw13.TableReads", spec := "tableReads", unfollowed := true, recurses := true, apart := false, narrowed := true }
def TableReadsUptoSaid : Prop := tableReadsUptoRow.holds Try.pinned (OpenSpec.upto tableReadsSpec)

/-- 'veneerlaw13.TableOdd', WHERE WHAT IT READS IS OF BULK AT MOST 1048576: true; the input reads as it did. -/
def tableOddUptoRow : OpenClaim := { program := "ytjihnbjdclobgaa", sum := "83de4715075ee132659077ef79995af8308018b4c68f7c392d2368f4d3495ff6", func := "veneer/veneerlaw13.TableOdd", spec := "tableOdd", unfollowed := true, recurses := true, apart := false, narrowed := true }
def TableOddUptoSaid : Prop := tableOddUptoRow.holds Try.pinned (OpenSpec.upto tableOddSpec)

/-- 'veneerlaw13.TableBytes', WHERE WHAT IT READS IS OF BULK AT MOST 1048576: true; the input reads as it did. -/
def tableBytesUptoRow : OpenClaim := { program := "ytjihnbjdclobgaa", sum := "83de4715075ee132659077ef79995af8308018b4c68f7c392d2368f4d3495ff6", func := "veneer/veneerlaw13.TableBytes", spec := "tableBytes", unfollowed := true, recurses := true, apart := false, narrowed := true }
def TableBytesUptoSaid : Prop := tableBytesUptoRow.holds Try.pinned (OpenSpec.upto tableBytesSpec)

end Rows
end Go.Proofs.Ytjihnbjdclobgaa
