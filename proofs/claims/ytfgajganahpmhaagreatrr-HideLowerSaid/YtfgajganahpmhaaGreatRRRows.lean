/-
  No cell of these rows narrows 'for every input' (looked for: loops, veiled, ifaces, maps, wideKeys, modest, calm, conditions, laid).
  DERIVED. THE GIVEN ROWS OF THIS SEAT. 6 by the template 'for every input the law returns true; each argument reads behind the call as it read before'; 0 by the template 'total and deterministic' (their statements: YtfgajganahpmhaaGreatRRTotals.lean).
  GIVEN WITH THE SEED: the statements are not yours to turn. If you find one false, say at which input.
  Laid BY PROGRAM, IN A SANDBOX (cutbox-rows.mjs): the forced cells as the released guide's own fill.sh prints them over the translation a767b8d317ba684c… (all of the seat's roots in one cut). By AI agents, Wed Nov 11 2026. No macro, syntax, notation, axiom, sorry.
-/
import Derived.Test.YtfgajganahpmhaaGreatRRChecked
import GoSem.Claim
import GoSem.ClaimJoined
import GoSem.ClaimMapViews
import Derived.JoinedTies
import Derived.KernelRfl
namespace Go.Proofs.YtfgajganahpmhaaGreatRR
/- THE CELL 'sum', in the pinned program and in every row, IS THE sha256 OF THE DUMP (.gsa) THAT YtfgajganahpmhaaGreatRRProg.lean LOADS. Nothing in Lean hashes anything: it is a label: what it is worth is what the hold of that sum in a sandbox is worth. -/
noncomputable def Tryz.pinned : Pinned := { name := "ytfgajganahpmhaagreatrr", sum := "a767b8d317ba684c0bea8cf4dc9d0c3fcba1a16e62c2f8c57d1df2c7b6a5a0e4", checked := Tryz.checked }
namespace Rows
def none {H : Type} : Left H := { results := [], args := [] }

/-- 'veneerlaw16.RepModes': WHATEVER THE INPUT: true; the input reads as it did. -/
def repModesSpec : ChangeSpec := { name := "repModes", fn := fun _ => fun
  | [d1, d2] => { results := [.lit (.bool true)], args := [d1, d2] }
  | _ => none }
def repModesRow : OpenClaim := { program := "ytfgajganahpmhaagreatrr", sum := "a767b8d317ba684c0bea8cf4dc9d0c3fcba1a16e62c2f8c57d1df2c7b6a5a0e4", func := "veneer/veneerlaw16.RepModes", spec := "repModes", inPlace := ["slices.overlaps[veneer/api.Node]", "slices.overlaps[veneer/api.Name]", "slices.overlaps[veneer/api.Row]"], unfollowed := true, recurses := true, apart := false }
def RepModesSaid : Prop := repModesRow.holds Tryz.pinned (OpenSpec.ofChange repModesSpec)

/-- ITS FALSE NEIGHBOUR: 'it returns false'. Refute it at one input. -/
def repModesWrong : ChangeSpec := { name := "repModes", fn := fun _ => fun
  | [d1, d2] => { results := [.lit (.bool false)], args := [d1, d2] }
  | _ => none }
def RepModesWrongFalsely : Prop := repModesRow.holds Tryz.pinned (OpenSpec.ofChange repModesWrong)

/-- 'veneerlaw16.RepNone': WHATEVER THE INPUT: true; the input reads as it did. -/
def repNoneSpec : ChangeSpec := { name := "repNone", fn := fun _ => fun
  | [d1, d2] => { results := [.lit (.bool true)], args := [d1, d2] }
  | _ => none }
def repNoneRow : OpenClaim := { program := "ytfgajganahpmhaagreatrr", sum := "a767b8d317ba684c0bea8cf4dc9d0c3fcba1a16e62c2f8c57d1df2c7b6a5a0e4", func := "veneer/veneerlaw16.RepNone", spec := "repNone", inPlace := ["slices.overlaps[veneer/api.Node]", "slices.overlaps[veneer/api.Name]", "slices.overlaps[veneer/api.Row]"], unfollowed := true, recurses := true, apart := false }
def RepNoneSaid : Prop := repNoneRow.holds Tryz.pinned (OpenSpec.ofChange repNoneSpec)

/-- ITS FALSE NEIGHBOUR: 'it returns false'. Refute it at one input. -/
def repNoneWrong : ChangeSpec := { name := "repNone", fn := fun _ => fun
  | [d1, d2] => { results := [.lit (.bool false)], args := [d1, d2] }
  | _ => none }
def RepNoneWrongFalsely : Prop := repNoneRow.holds Tryz.pinned (OpenSpec.ofChange repNoneWrong)

/-- 'veneerlaw17.HideNone': WHATEVER THE INPUT: true; the input reads as it did. -/
def hideNoneSpec : ChangeSpec := { name := "hideNone", fn := fun _ => fun
  | [d1, d2] => { results := [.lit (.bool true)], args := [d1, d2] }
  | _ => none }
def hideNoneRow : OpenClaim := { program := "ytfgajganahpmhaagreatrr", sum := "a767b8d317ba684c0bea8cf4dc9d0c3fcba1a16e62c2f8c57d1df2c7b6a5a0e4", func := "veneer/veneerlaw17.HideNone", spec := "hideNone", inPlace := ["slices.overlaps[veneer/api.Node]", "slices.overlaps[veneer/api.Name]", "slices.overlaps[veneer/api.Row]"], unfollowed := true, recurses := true, apart := false }
def HideNoneSaid : Prop := hideNoneRow.holds Tryz.pinned (OpenSpec.ofChange hideNoneSpec)

/-- ITS FALSE NEIGHBOUR: 'it returns false'. Refute it at one input. -/
def hideNoneWrong : ChangeSpec := { name := "hideNone", fn := fun _ => fun
  | [d1, d2] => { results := [.lit (.bool false)], args := [d1, d2] }
  | _ => none }
def HideNoneWrongFalsely : Prop := hideNoneRow.holds Tryz.pinned (OpenSpec.ofChange hideNoneWrong)

/-- 'veneerlaw17.HideLower': WHATEVER THE INPUT: true; the input reads as it did. -/
def hideLowerSpec : ChangeSpec := { name := "hideLower", fn := fun _ => fun
  | [d1, d2] => { results := [.lit (.bool true)], args := [d1, d2] }
  | _ => none }
def hideLowerRow : OpenClaim := { program := "ytfgajganahpmhaagreatrr", sum := "a767b8d317ba684c0bea8cf4dc9d0c3fcba1a16e62c2f8c57d1df2c7b6a5a0e4", func := "veneer/veneerlaw17.HideLower", spec := "hideLower", inPlace := ["slices.overlaps[veneer/api.Node]", "slices.overlaps[veneer/api.Name]", "slices.overlaps[veneer/api.Row]"], unfollowed := true, recurses := true, apart := false }
def HideLowerSaid : Prop := hideLowerRow.holds Tryz.pinned (OpenSpec.ofChange hideLowerSpec)

/-- ITS FALSE NEIGHBOUR: 'it returns false'. Refute it at one input. -/
def hideLowerWrong : ChangeSpec := { name := "hideLower", fn := fun _ => fun
  | [d1, d2] => { results := [.lit (.bool false)], args := [d1, d2] }
  | _ => none }
def HideLowerWrongFalsely : Prop := hideLowerRow.holds Tryz.pinned (OpenSpec.ofChange hideLowerWrong)

/-- 'veneerlaw17.HideTwice': WHATEVER THE INPUT: true; the input reads as it did. -/
def hideTwiceSpec : ChangeSpec := { name := "hideTwice", fn := fun _ => fun
  | [d1, d2] => { results := [.lit (.bool true)], args := [d1, d2] }
  | _ => none }
def hideTwiceRow : OpenClaim := { program := "ytfgajganahpmhaagreatrr", sum := "a767b8d317ba684c0bea8cf4dc9d0c3fcba1a16e62c2f8c57d1df2c7b6a5a0e4", func := "veneer/veneerlaw17.HideTwice", spec := "hideTwice", inPlace := ["slices.overlaps[veneer/api.Node]", "slices.overlaps[veneer/api.Name]", "slices.overlaps[veneer/api.Row]"], unfollowed := true, recurses := true, apart := false }
def HideTwiceSaid : Prop := hideTwiceRow.holds Tryz.pinned (OpenSpec.ofChange hideTwiceSpec)

/-- ITS FALSE NEIGHBOUR: 'it returns false'. Refute it at one input. -/
def hideTwiceWrong : ChangeSpec := { name := "hideTwice", fn := fun _ => fun
  | [d1, d2] => { results := [.lit (.bool false)], args := [d1, d2] }
  | _ => none }
def HideTwiceWrongFalsely : Prop := hideTwiceRow.holds Tryz.pinned (OpenSpec.ofChange hideTwiceWrong)

/-- 'veneerlaw19.AddHome': WHATEVER THE INPUT: true; the input reads as it did. -/
def addHomeSpec : ChangeSpec := { name := "addHome", fn := fun _ => fun
  | [d1, d2] => { results := [.lit (.bool true)], args := [d1, d2] }
  | _ => none }
def addHomeRow : OpenClaim := { program := "ytfgajganahpmhaagreatrr", sum := "a767b8d317ba684c0bea8cf4dc9d0c3fcba1a16e62c2f8c57d1df2c7b6a5a0e4", func := "veneer/veneerlaw19.AddHome", spec := "addHome", inPlace := ["slices.overlaps[veneer/api.Node]", "slices.overlaps[veneer/api.Name]", "slices.overlaps[veneer/api.Row]"], unfollowed := true, recurses := true, apart := false }
def AddHomeSaid : Prop := addHomeRow.holds Tryz.pinned (OpenSpec.ofChange addHomeSpec)

/-- ITS FALSE NEIGHBOUR: 'it returns false'. Refute it at one input. -/
def addHomeWrong : ChangeSpec := { name := "addHome", fn := fun _ => fun
  | [d1, d2] => { results := [.lit (.bool false)], args := [d1, d2] }
  | _ => none }
def AddHomeWrongFalsely : Prop := addHomeRow.holds Tryz.pinned (OpenSpec.ofChange addHomeWrong)

/- THE SECOND FORM. 'bulk': how many values and letters a reading holds, each counted each time it is reached (what is shared counts as often as it is met; a slice's spare places count too). A statement '..UptoSaid' is the law's where the arguments, and the package variables that the reading takes, are together of bulk at most 1048576: NARROWER than '..Said'. Prove '..Said' where nothing that the law and all that it calls make is longer than what came in: it says more and counts as full. Else prove '..UptoSaid'. A law counts once. -/
mutual
def uptoBulk {H : Type} : DataW H → Nat
  | .lit (.string bytes) => bytes.length + 1
  | .lit _ => 1
  | .nil => 1
  | .ptr d => uptoBulk d + 1
  | .slice elems spare => uptoBulkAll elems + uptoBulkAll spare + 1
  | .agg parts => uptoBulkAll parts + 1
  | .iface _ d => uptoBulk d + 1
  | .map entries => uptoBulkEntries entries + 1
  | .held _ => 1
def uptoBulkAll {H : Type} : List (DataW H) → Nat
  | [] => 0
  | d :: r => uptoBulk d + uptoBulkAll r
def uptoBulkEntries {H : Type} : List (Lit × DataW H) → Nat
  | [] => 0
  | x :: r => uptoBulkEntry x + uptoBulkEntries r
def uptoBulkEntry {H : Type} : Lit × DataW H → Nat
  | (.string bytes, d) => bytes.length + uptoBulk d + 1
  | (_, d) => uptoBulk d + 1
 end
def uptoSmall : (H : Type) → List (DataW H) → Bool := fun _ ds => decide (uptoBulkAll ds ≤ 1048576)
def OpenSpec.upto (s : _root_.Go.ChangeSpec) : _root_.Go.OpenSpec := { _root_.Go.OpenSpec.ofChange s with cond := some uptoSmall }

/-- 'veneerlaw16.RepModes', WHERE WHAT IT READS IS OF BULK AT MOST 1048576: true; the input reads as it did. -/
def repModesUptoRow : OpenClaim := { program := "ytfgajganahpmhaagreatrr", sum := "a767b8d317ba684c0bea8cf4dc9d0c3fcba1a16e62c2f8c57d1df2c7b6a5a0e4", func := "veneer/veneerlaw16.RepModes", spec := "repModes", inPlace := ["slices.overlaps[veneer/api.Node]", "slices.overlaps[veneer/api.Name]", "slices.overlaps[veneer/api.Row]"], unfollowed := true, recurses := true, apart := false, narrowed := true }
def RepModesUptoSaid : Prop := repModesUptoRow.holds Tryz.pinned (OpenSpec.upto repModesSpec)

/-- 'veneerlaw16.RepNone', WHERE WHAT IT READS IS OF BULK AT MOST 1048576: true; the input reads as it did. -/
def repNoneUptoRow : OpenClaim := { program := "ytfgajganahpmhaagreatrr", sum := "a767b8d317ba684c0bea8cf4dc9d0c3fcba1a16e62c2f8c57d1df2c7b6a5a0e4", func := "veneer/veneerlaw16.RepNone", spec := "repNone", inPlace := ["slices.overlaps[veneer/api.Node]", "slices.overlaps[veneer/api.Name]", "slices.overlaps[veneer/api.Row]"], unfollowed := true, recurses := true, apart := false, narrowed := true }
def RepNoneUptoSaid : Prop := repNoneUptoRow.holds Tryz.pinned (OpenSpec.upto repNoneSpec)

/-- 'veneerlaw17.HideNone', WHERE WHAT IT READS IS OF BULK AT MOST 1048576: true; the input reads as it did. -/
def hideNoneUptoRow : OpenClaim := { program := "ytfgajganahpmhaagreatrr", sum := "a767b8d317ba684c0bea8cf4dc9d0c3fcba1a16e62c2f8c57d1df2c7b6a5a0e4", func := "veneer/veneerlaw17.HideNone", spec := "hideNone", inPlace := ["slices.overlaps[veneer/api.Node]", "slices.overlaps[veneer/api.Name]", "slices.overlaps[veneer/api.Row]"], unfollowed := true, recurses := true, apart := false, narrowed := true }
def HideNoneUptoSaid : Prop := hideNoneUptoRow.holds Tryz.pinned (OpenSpec.upto hideNoneSpec)

/-- 'veneerlaw17.HideLower', WHERE WHAT IT READS IS OF BULK AT MOST 1048576: true; the input reads as it did. -/
def hideLowerUptoRow : OpenClaim := { program := "ytfgajganahpmhaagreatrr", sum := "a767b8d317ba684c0bea8cf4dc9d0c3fcba1a16e62c2f8c57d1df2c7b6a5a0e4", func := "veneer/veneerlaw17.HideLower", spec := "hideLower", inPlace := ["slices.overlaps[veneer/api.Node]", "slices.overlaps[veneer/api.Name]", "slices.overlaps[veneer/api.Row]"], unfollowed := true, recurses := true, apart := false, narrowed := true }
def HideLowerUptoSaid : Prop := hideLowerUptoRow.holds Tryz.pinned (OpenSpec.upto hideLowerSpec)

/-- 'veneerlaw17.HideTwice', WHERE WHAT IT READS IS OF BULK AT MOST 1048576: true; the input reads as it did. -/
def hideTwiceUptoRow : OpenClaim := { program := "ytfgajganahpmhaagreatrr", sum := "a767b8d317ba684c0bea8cf4dc9d0c3fcba1a16e62c2f8c57d1df2c7b6a5a0e4", func := "veneer/veneerlaw17.HideTwice", spec := "hideTwice", inPlace := ["slices.overlaps[veneer/api.Node]", "slices.overlaps[veneer/api.Name]", "slices.overlaps[veneer/api.Row]"], unfollowed := true, recurses := true, apart := false, narrowed := true }
def HideTwiceUptoSaid : Prop := hideTwiceUptoRow.holds Tryz.pinned (OpenSpec.upto hideTwiceSpec)

/-- 'veneerlaw19.AddHome', WHERE WHAT IT READS IS OF BULK AT MOST 1048576: true; the input reads as it did. -/
def addHomeUptoRow : OpenClaim := { program := "ytfgajganahpmhaagreatrr", sum := "a767b8d317ba684c0bea8cf4dc9d0c3fcba1a16e62c2f8c57d1df2c7b6a5a0e4", func := "veneer/veneerlaw19.AddHome", spec := "addHome", inPlace := ["slices.overlaps[veneer/api.Node]", "slices.overlaps[veneer/api.Name]", "slices.overlaps[veneer/api.Row]"], unfollowed := true, recurses := true, apart := false, narrowed := true }
def AddHomeUptoSaid : Prop := addHomeUptoRow.holds Tryz.pinned (OpenSpec.upto addHomeSpec)

end Rows
end Go.Proofs.YtfgajganahpmhaaGreatRR
