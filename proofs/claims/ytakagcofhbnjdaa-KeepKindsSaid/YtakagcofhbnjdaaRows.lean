/-
  No cell of these rows narrows 'for every input' (looked for: loops, veiled, ifaces, maps, wideKeys, modest, calm, conditions, laid).
  DERIVED. THE GIVEN ROWS OF THIS SEAT. 4 by the template 'for every input the law returns true; each argument reads behind the call as it read before'; 0 by the template 'total and deterministic' (their statements: YtakagcofhbnjdaaTotals.lean).
  GIVEN WITH THE SEED: the statements are not yours to turn. If you find one false, say at which input.
  Laid BY PROGRAM, IN A SANDBOX (cutbox-rows.mjs): the forced cells as the released guide's own fill.sh prints them over the translation cb02c22ad8c57e3e… (all of the seat's roots in one cut). By AI agents, Wed Nov 11 2026. No macro, syntax, notation, axiom, sorry.
-/
import Derived.Test.YtakagcofhbnjdaaChecked
import GoSem.Claim
import GoSem.ClaimJoined
import GoSem.ClaimMapViews
import Derived.JoinedTies
import Derived.KernelRfl
namespace Go.Proofs.Ytakagcofhbnjdaa
/- THE CELL 'sum', in the pinned program and in every row, IS THE sha256 OF THE DUMP (.gsa) THAT YtakagcofhbnjdaaProg.lean LOADS. Nothing in Lean hashes anything: it is a label: what it is worth is what the hold of that sum in a sandbox is worth. -/
noncomputable def Try.pinned : Pinned := { name := "ytakagcofhbnjdaa", sum := "cb02c22ad8c57e3e32313e7228096cff80b9de6e4aec33e7cc70cde0fd105a22", checked := Try.checked }
namespace Rows
def none {H : Type} : Left H := { results := [], args := [] }

/-- 'veneerlaw3.DiskNew': WHATEVER THE INPUT: true; the input reads as it did. -/
def diskNewSpec : ChangeSpec := { name := "diskNew", fn := fun _ => fun
  | [d1, d2] => { results := [.lit (.bool true)], args := [d1, d2] }
  | _ => none }
def diskNewRow : OpenClaim := { program := "ytakagcofhbnjdaa", sum := "cb02c22ad8c57e3e32313e7228096cff80b9de6e4aec33e7cc70cde0fd105a22", func := "veneer/veneerlaw3.DiskNew", spec := "diskNew", inPlace := ["internal/bytealg.IndexByteString", "internal/bytealg.IndexString"], unfollowed := true, recurses := true, named := ["internal/bytealg.MaxLen"], apart := false }
def DiskNewSaid : Prop := diskNewRow.holds Try.pinned (OpenSpec.ofChange diskNewSpec)

/-- ITS FALSE NEIGHBOUR: 'it returns false'. Refute it at one input. -/
def diskNewWrong : ChangeSpec := { name := "diskNew", fn := fun _ => fun
  | [d1, d2] => { results := [.lit (.bool false)], args := [d1, d2] }
  | _ => none }
def DiskNewWrongFalsely : Prop := diskNewRow.holds Try.pinned (OpenSpec.ofChange diskNewWrong)

/-- 'veneerlaw3.DiskOdd': WHATEVER THE INPUT: true; the input reads as it did. -/
def diskOddSpec : ChangeSpec := { name := "diskOdd", fn := fun _ => fun
  | [d] => { results := [.lit (.bool true)], args := [d] }
  | _ => none }
def diskOddRow : OpenClaim := { program := "ytakagcofhbnjdaa", sum := "cb02c22ad8c57e3e32313e7228096cff80b9de6e4aec33e7cc70cde0fd105a22", func := "veneer/veneerlaw3.DiskOdd", spec := "diskOdd", inPlace := ["internal/bytealg.IndexByteString", "internal/bytealg.IndexString"], unfollowed := true, recurses := true, named := ["internal/bytealg.MaxLen"], apart := false }
def DiskOddSaid : Prop := diskOddRow.holds Try.pinned (OpenSpec.ofChange diskOddSpec)

/-- ITS FALSE NEIGHBOUR: 'it returns false'. Refute it at one input. -/
def diskOddWrong : ChangeSpec := { name := "diskOdd", fn := fun _ => fun
  | [d] => { results := [.lit (.bool false)], args := [d] }
  | _ => none }
def DiskOddWrongFalsely : Prop := diskOddRow.holds Try.pinned (OpenSpec.ofChange diskOddWrong)

/-- 'veneerlaw3.DiskDeep': WHATEVER THE INPUT: true; the input reads as it did. -/
def diskDeepSpec : ChangeSpec := { name := "diskDeep", fn := fun _ => fun
  | [d1, d2] => { results := [.lit (.bool true)], args := [d1, d2] }
  | _ => none }
def diskDeepRow : OpenClaim := { program := "ytakagcofhbnjdaa", sum := "cb02c22ad8c57e3e32313e7228096cff80b9de6e4aec33e7cc70cde0fd105a22", func := "veneer/veneerlaw3.DiskDeep", spec := "diskDeep", inPlace := ["internal/bytealg.IndexByteString", "internal/bytealg.IndexString"], unfollowed := true, recurses := true, named := ["internal/bytealg.MaxLen"], apart := false }
def DiskDeepSaid : Prop := diskDeepRow.holds Try.pinned (OpenSpec.ofChange diskDeepSpec)

/-- ITS FALSE NEIGHBOUR: 'it returns false'. Refute it at one input. -/
def diskDeepWrong : ChangeSpec := { name := "diskDeep", fn := fun _ => fun
  | [d1, d2] => { results := [.lit (.bool false)], args := [d1, d2] }
  | _ => none }
def DiskDeepWrongFalsely : Prop := diskDeepRow.holds Try.pinned (OpenSpec.ofChange diskDeepWrong)

/-- 'veneerlaw7.KeepKinds': WHATEVER THE INPUT: true; the input reads as it did. -/
def keepKindsSpec : ChangeSpec := { name := "keepKinds", fn := fun _ => fun
  | [d1, d2] => { results := [.lit (.bool true)], args := [d1, d2] }
  | _ => none }
def keepKindsRow : OpenClaim := { program := "ytakagcofhbnjdaa", sum := "cb02c22ad8c57e3e32313e7228096cff80b9de6e4aec33e7cc70cde0fd105a22", func := "veneer/veneerlaw7.KeepKinds", spec := "keepKinds", inPlace := ["slices.overlaps[veneer/api.Block]", "slices.overlaps[veneer/api.Node]"], unfollowed := true, recurses := true, apart := false }
def KeepKindsSaid : Prop := keepKindsRow.holds Try.pinned (OpenSpec.ofChange keepKindsSpec)

/-- ITS FALSE NEIGHBOUR: 'it returns false'. Refute it at one input. -/
def keepKindsWrong : ChangeSpec := { name := "keepKinds", fn := fun _ => fun
  | [d1, d2] => { results := [.lit (.bool false)], args := [d1, d2] }
  | _ => none }
def KeepKindsWrongFalsely : Prop := keepKindsRow.holds Try.pinned (OpenSpec.ofChange keepKindsWrong)

/- THE SECOND FORM. 'bulk': how many values and letters a reading holds, each counted each time it is reached (what is shared counts as often as it is met; a slice's spare places count too). A statement '..UptoSaid' is the law's where the arguments, and the package variables that the reading takes, are together of bulk at most 1048576: NARROWER than '..Said'. Prove '..Said' where nothing that the law and all that it calls make is longer than what came in: it says more and counts as full. Else prove '..UptoSaid'. A law counts once. -/
mutual
def uptoBulk {H : Type} : DataW H → Nat
  | .lit (.string bytes) => bytes.length + 1
  | .lit _ => 1
  | .nil => 1
  | .ptr d => uptoBulk d + 1
  | .slice elems spare => uptoBulkAll elems + uptoBulkAll spare + 1
  | .agg parts => uptoBulkAll parts + 1
  | .iface _ d => uptoBulk d + 1
  | .map entries => uptoBulkEntries entries + 1
  | .held _ => 1
def uptoBulkAll {H : Type} : List (DataW H) → Nat
  | [] => 0
  | d :: r => uptoBulk d + uptoBulkAll r
def uptoBulkEntries {H : Type} : List (Lit × DataW H) → Nat
  | [] => 0
  | x :: r => uptoBulkEntry x + uptoBulkEntries r
def uptoBulkEntry {H : Type} : Lit × DataW H → Nat
  | (.string bytes, d) => bytes.length + uptoBulk d + 1
  | (_, d) => uptoBulk d + 1
 end
def uptoSmall : (H : Type) → List (DataW H) → Bool := fun _ ds => decide (uptoBulkAll ds ≤ 1048576)
def OpenSpec.upto (s : _root_.Go.ChangeSpec) : _root_.Go.OpenSpec := { _root_.Go.OpenSpec.ofChange s with cond := some uptoSmall }

/-- 'veneerlaw3.DiskNew', WHERE WHAT IT READS IS OF BULK AT MOST 1048576: true; the input reads as it did. -/
def diskNewUptoRow : OpenClaim := { program := "ytakagcofhbnjdaa", sum := "cb02c22ad8c57e3e32313e7228096cff80b9de6e4aec33e7cc70cde0fd105a22", func := "veneer/veneerlaw3.DiskNew", spec := "diskNew", inPlace := ["internal/bytealg.IndexByteString", "internal/bytealg.IndexString"], unfollowed := true, recurses := true, named := ["internal/bytealg.MaxLen"], apart := false, narrowed := true }
def DiskNewUptoSaid : Prop := diskNewUptoRow.holds Try.pinned (OpenSpec.upto diskNewSpec)

/-- 'veneerlaw3.DiskOdd', WHERE WHAT IT READS IS OF BULK AT MOST 1048576: true; the input reads as it did. -/
def diskOddUptoRow : OpenClaim := { program := "ytakagcofhbnjdaa", sum := "cb02c22ad8c57e3e32313e7228096cff80b9de6e4aec33e7cc70cde0fd105a22", func := "veneer/veneerlaw3.DiskOdd", spec := "diskOdd", inPlace := ["internal/bytealg.IndexByteString", "internal/bytealg.IndexString"], unfollowed := true, recurses := true, named := ["internal/bytealg.MaxLen"], apart := false, narrowed := true }
def DiskOddUptoSaid : Prop := diskOddUptoRow.holds Try.pinned (OpenSpec.upto diskOddSpec)

/-- 'veneerlaw3.DiskDeep', WHERE WHAT IT READS IS OF BULK AT MOST 1048576: true; the input reads as it did. -/
def diskDeepUptoRow : OpenClaim := { program := "ytakagcofhbnjdaa", sum := "cb02c22ad8c57e3e32313e7228096cff80b9de6e4aec33e7cc70cde0fd105a22", func := "veneer/veneerlaw3.DiskDeep", spec := "diskDeep", inPlace := ["internal/bytealg.IndexByteString", "internal/bytealg.IndexString"], unfollowed := true, recurses := true, named := ["internal/bytealg.MaxLen"], apart := false, narrowed := true }
def DiskDeepUptoSaid : Prop := diskDeepUptoRow.holds Try.pinned (OpenSpec.upto diskDeepSpec)

/-- 'veneerlaw7.KeepKinds', WHERE WHAT IT READS IS OF BULK AT MOST 1048576: true; the input reads as it did. -/
def keepKindsUptoRow : OpenClaim := { program := "ytakagcofhbnjdaa", sum := "cb02c22ad8c57e3e32313e7228096cff80b9de6e4aec33e7cc70cde0fd105a22", func := "veneer/veneerlaw7.KeepKinds", spec := "keepKinds", inPlace := ["slices.overlaps[veneer/api.Block]", "slices.overlaps[veneer/api.Node]"], unfollowed := true, recurses := true, apart := false, narrowed := true }
def KeepKindsUptoSaid : Prop := keepKindsUptoRow.holds Try.pinned (OpenSpec.upto keepKindsSpec)

end Rows
end Go.Proofs.Ytakagcofhbnjdaa
