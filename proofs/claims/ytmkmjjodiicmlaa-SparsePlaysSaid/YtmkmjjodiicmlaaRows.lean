/-
  No cell of these rows narrows 'for every input' (looked for: loops, veiled, ifaces, maps, wideKeys, modest, calm, conditions, laid).
  DERIVED. THE GIVEN ROWS OF THIS SEAT. 9 by the template 'for every input the law returns true; each argument reads behind the call as it read before'; 0 by the template 'total and deterministic' (their statements: YtmkmjjodiicmlaaTotals.lean).
  GIVEN WITH THE SEED: the statements are not yours to turn. If you find one false, say at which input.
  Laid BY PROGRAM, IN A SANDBOX (cutbox-rows.mjs): the forced cells as the released guide's own fill.sh prints them over the translation db0a9bc7bc3af26f… (all of the seat's roots in one cut). By AI agents, Wed Nov 11 2026. No macro, syntax, notation, axiom, sorry.
-/
import Derived.Test.YtmkmjjodiicmlaaChecked
import GoSem.Claim
import GoSem.ClaimJoined
import GoSem.ClaimMapViews
import Derived.JoinedTies
import Derived.KernelRfl
namespace Go.Proofs.Ytmkmjjodiicmlaa
/- THE CELL 'sum', in the pinned program and in every row, IS THE sha256 OF THE DUMP (.gsa) THAT YtmkmjjodiicmlaaProg.lean LOADS. Nothing in Lean hashes anything: it is a label: what it is worth is what the hold of that sum in a sandbox is worth. -/
noncomputable def Try.pinned : Pinned := { name := "ytmkmjjodiicmlaa", sum := "db0a9bc7bc3af26f66b8440237e19d931903ba5fe0d2cc63eedf17e7a44bb1a4", checked := Try.checked }
namespace Rows
def none {H : Type} : Left H := { results := [], args := [] }

/-- 'veneerlaw2.SparseOwn': WHATEVER THE INPUT: true; the input reads as it did. -/
def sparseOwnSpec : ChangeSpec := { name := "sparseOwn", fn := fun _ => fun
  | [d1, d2, d3] => { results := [.lit (.bool true)], args := [d1, d2, d3] }
  | _ => none }
def sparseOwnRow : OpenClaim := { program := "ytmkmjjodiicmlaa", sum := "db0a9bc7bc3af26f66b8440237e19d931903ba5fe0d2cc63eedf17e7a44bb1a4", func := "veneer/veneerlaw2.SparseOwn", spec := "sparseOwn", inPlace := ["slices.overlaps[veneer/api.Block]"], unfollowed := true, recurses := true, apart := false }
def SparseOwnSaid : Prop := sparseOwnRow.holds Try.pinned (OpenSpec.ofChange sparseOwnSpec)

/-- ITS FALSE NEIGHBOUR: 'it returns false'. Refute it at one input. -/
def sparseOwnWrong : ChangeSpec := { name := "sparseOwn", fn := fun _ => fun
  | [d1, d2, d3] => { results := [.lit (.bool false)], args := [d1, d2, d3] }
  | _ => none }
def SparseOwnWrongFalsely : Prop := sparseOwnRow.holds Try.pinned (OpenSpec.ofChange sparseOwnWrong)

/-- 'veneerlaw2.SparseSame': WHATEVER THE INPUT: true; the input reads as it did. -/
def sparseSameSpec : ChangeSpec := { name := "sparseSame", fn := fun _ => fun
  | [d1, d2, d3, d4] => { results := [.lit (.bool true)], args := [d1, d2, d3, d4] }
  | _ => none }
def sparseSameRow : OpenClaim := { program := "ytmkmjjodiicmlaa", sum := "db0a9bc7bc3af26f66b8440237e19d931903ba5fe0d2cc63eedf17e7a44bb1a4", func := "veneer/veneerlaw2.SparseSame", spec := "sparseSame", inPlace := ["slices.overlaps[veneer/api.Block]"], unfollowed := true, recurses := true, apart := false }
def SparseSameSaid : Prop := sparseSameRow.holds Try.pinned (OpenSpec.ofChange sparseSameSpec)

/-- ITS FALSE NEIGHBOUR: 'it returns false'. Refute it at one input. -/
def sparseSameWrong : ChangeSpec := { name := "sparseSame", fn := fun _ => fun
  | [d1, d2, d3, d4] => { results := [.lit (.bool false)], args := [d1, d2, d3, d4] }
  | _ => none }
def SparseSameWrongFalsely : Prop := sparseSameRow.holds Try.pinned (OpenSpec.ofChange sparseSameWrong)

/-- 'veneerlaw2.SparsePlays': WHATEVER THE INPUT: true; the input reads as it did. -/
def sparsePlaysSpec : ChangeSpec := { name := "sparsePlays", fn := fun _ => fun
  | [d] => { results := [.lit (.bool true)], args := [d] }
  | _ => none }
def sparsePlaysRow : OpenClaim := { program := "ytmkmjjodiicmlaa", sum := "db0a9bc7bc3af26f66b8440237e19d931903ba5fe0d2cc63eedf17e7a44bb1a4", func := "veneer/veneerlaw2.SparsePlays", spec := "sparsePlays", inPlace := ["slices.overlaps[veneer/api.Block]"], unfollowed := true, recurses := true, apart := false }
def SparsePlaysSaid : Prop := sparsePlaysRow.holds Try.pinned (OpenSpec.ofChange sparsePlaysSpec)

/-- ITS FALSE NEIGHBOUR: 'it returns false'. Refute it at one input. -/
def sparsePlaysWrong : ChangeSpec := { name := "sparsePlays", fn := fun _ => fun
  | [d] => { results := [.lit (.bool false)], args := [d] }
  | _ => none }
def SparsePlaysWrongFalsely : Prop := sparsePlaysRow.holds Try.pinned (OpenSpec.ofChange sparsePlaysWrong)

/-- 'veneerlaw2.SparseHoles': WHATEVER THE INPUT: true; the input reads as it did. -/
def sparseHolesSpec : ChangeSpec := { name := "sparseHoles", fn := fun _ => fun
  | [d1, d2, d3] => { results := [.lit (.bool true)], args := [d1, d2, d3] }
  | _ => none }
def sparseHolesRow : OpenClaim := { program := "ytmkmjjodiicmlaa", sum := "db0a9bc7bc3af26f66b8440237e19d931903ba5fe0d2cc63eedf17e7a44bb1a4", func := "veneer/veneerlaw2.SparseHoles", spec := "sparseHoles", inPlace := ["slices.overlaps[veneer/api.Block]"], unfollowed := true, recurses := true, apart := false }
def SparseHolesSaid : Prop := sparseHolesRow.holds Try.pinned (OpenSpec.ofChange sparseHolesSpec)

/-- ITS FALSE NEIGHBOUR: 'it returns false'. Refute it at one input. -/
def sparseHolesWrong : ChangeSpec := { name := "sparseHoles", fn := fun _ => fun
  | [d1, d2, d3] => { results := [.lit (.bool false)], args := [d1, d2, d3] }
  | _ => none }
def SparseHolesWrongFalsely : Prop := sparseHolesRow.holds Try.pinned (OpenSpec.ofChange sparseHolesWrong)

/-- 'veneerlaw6.TieRoom': WHATEVER THE INPUT: true; the input reads as it did. -/
def tieRoomSpec : ChangeSpec := { name := "tieRoom", fn := fun _ => fun
  | [d1, d2, d3, d4] => { results := [.lit (.bool true)], args := [d1, d2, d3, d4] }
  | _ => none }
def tieRoomRow : OpenClaim := { program := "ytmkmjjodiicmlaa", sum := "db0a9bc7bc3af26f66b8440237e19d931903ba5fe0d2cc63eedf17e7a44bb1a4", func := "veneer/veneerlaw6.TieRoom", spec := "tieRoom", inPlace := ["slices.overlaps[veneer/api.Node]", "slices.overlaps[veneer/api.Name]"], unfollowed := true, recurses := true, apart := false }
def TieRoomSaid : Prop := tieRoomRow.holds Try.pinned (OpenSpec.ofChange tieRoomSpec)

/-- ITS FALSE NEIGHBOUR: 'it returns false'. Refute it at one input. -/
def tieRoomWrong : ChangeSpec := { name := "tieRoom", fn := fun _ => fun
  | [d1, d2, d3, d4] => { results := [.lit (.bool false)], args := [d1, d2, d3, d4] }
  | _ => none }
def TieRoomWrongFalsely : Prop := tieRoomRow.holds Try.pinned (OpenSpec.ofChange tieRoomWrong)

/-- 'veneerlaw7.KeepRoom': WHATEVER THE INPUT: true; the input reads as it did. -/
def keepRoomSpec : ChangeSpec := { name := "keepRoom", fn := fun _ => fun
  | [d1, d2, d3, d4] => { results := [.lit (.bool true)], args := [d1, d2, d3, d4] }
  | _ => none }
def keepRoomRow : OpenClaim := { program := "ytmkmjjodiicmlaa", sum := "db0a9bc7bc3af26f66b8440237e19d931903ba5fe0d2cc63eedf17e7a44bb1a4", func := "veneer/veneerlaw7.KeepRoom", spec := "keepRoom", inPlace := ["slices.overlaps[veneer/api.Block]", "slices.overlaps[veneer/api.Node]"], unfollowed := true, recurses := true, apart := false }
def KeepRoomSaid : Prop := keepRoomRow.holds Try.pinned (OpenSpec.ofChange keepRoomSpec)

/-- ITS FALSE NEIGHBOUR: 'it returns false'. Refute it at one input. -/
def keepRoomWrong : ChangeSpec := { name := "keepRoom", fn := fun _ => fun
  | [d1, d2, d3, d4] => { results := [.lit (.bool false)], args := [d1, d2, d3, d4] }
  | _ => none }
def KeepRoomWrongFalsely : Prop := keepRoomRow.holds Try.pinned (OpenSpec.ofChange keepRoomWrong)

/-- 'veneerlaw7.KeepTells': WHATEVER THE INPUT: true; the input reads as it did. -/
def keepTellsSpec : ChangeSpec := { name := "keepTells", fn := fun _ => fun
  | [d1, d2, d3, d4, d5] => { results := [.lit (.bool true)], args := [d1, d2, d3, d4, d5] }
  | _ => none }
def keepTellsRow : OpenClaim := { program := "ytmkmjjodiicmlaa", sum := "db0a9bc7bc3af26f66b8440237e19d931903ba5fe0d2cc63eedf17e7a44bb1a4", func := "veneer/veneerlaw7.KeepTells", spec := "keepTells", inPlace := ["slices.overlaps[veneer/api.Block]", "slices.overlaps[veneer/api.Node]"], unfollowed := true, recurses := true, apart := false }
def KeepTellsSaid : Prop := keepTellsRow.holds Try.pinned (OpenSpec.ofChange keepTellsSpec)

/-- ITS FALSE NEIGHBOUR: 'it returns false'. Refute it at one input. -/
def keepTellsWrong : ChangeSpec := { name := "keepTells", fn := fun _ => fun
  | [d1, d2, d3, d4, d5] => { results := [.lit (.bool false)], args := [d1, d2, d3, d4, d5] }
  | _ => none }
def KeepTellsWrongFalsely : Prop := keepTellsRow.holds Try.pinned (OpenSpec.ofChange keepTellsWrong)

/-- 'veneerlaw3.DiskSame': WHATEVER THE INPUT: true; the input reads as it did. -/
def diskSameSpec : ChangeSpec := { name := "diskSame", fn := fun _ => fun
  | [d1, d2] => { results := [.lit (.bool true)], args := [d1, d2] }
  | _ => none }
def diskSameRow : OpenClaim := { program := "ytmkmjjodiicmlaa", sum := "db0a9bc7bc3af26f66b8440237e19d931903ba5fe0d2cc63eedf17e7a44bb1a4", func := "veneer/veneerlaw3.DiskSame", spec := "diskSame", inPlace := ["internal/bytealg.IndexByteString", "internal/bytealg.IndexString"], unfollowed := true, recurses := true, named := ["internal/bytealg.MaxLen"], apart := false }
def DiskSameSaid : Prop := diskSameRow.holds Try.pinned (OpenSpec.ofChange diskSameSpec)

/-- ITS FALSE NEIGHBOUR: 'it returns false'. Refute it at one input. -/
def diskSameWrong : ChangeSpec := { name := "diskSame", fn := fun _ => fun
  | [d1, d2] => { results := [.lit (.bool false)], args := [d1, d2] }
  | _ => none }
def DiskSameWrongFalsely : Prop := diskSameRow.holds Try.pinned (OpenSpec.ofChange diskSameWrong)

/-- 'veneerlaw3.DiskPuts': WHATEVER THE INPUT: true; the input reads as it did. -/
def diskPutsSpec : ChangeSpec := { name := "diskPuts", fn := fun _ => fun
  | [d1, d2, d3] => { results := [.lit (.bool true)], args := [d1, d2, d3] }
  | _ => none }
def diskPutsRow : OpenClaim := { program := "ytmkmjjodiicmlaa", sum := "db0a9bc7bc3af26f66b8440237e19d931903ba5fe0d2cc63eedf17e7a44bb1a4", func := "veneer/veneerlaw3.DiskPuts", spec := "diskPuts", inPlace := ["slices.overlaps[veneer/api.Node]", "internal/bytealg.IndexByteString", "internal/bytealg.IndexString"], unfollowed := true, recurses := true, named := ["internal/bytealg.MaxLen"], apart := false }
def DiskPutsSaid : Prop := diskPutsRow.holds Try.pinned (OpenSpec.ofChange diskPutsSpec)

/-- ITS FALSE NEIGHBOUR: 'it returns false'. Refute it at one input. -/
def diskPutsWrong : ChangeSpec := { name := "diskPuts", fn := fun _ => fun
  | [d1, d2, d3] => { results := [.lit (.bool false)], args := [d1, d2, d3] }
  | _ => none }
def DiskPutsWrongFalsely : Prop := diskPutsRow.holds Try.pinned (OpenSpec.ofChange diskPutsWrong)

/- THE SECOND FORM. 'bulk': how many values and letters a reading holds, each counted each time it is reached (what is shared counts as often as it is met; a slice's spare places count too). A statement '..UptoSaid' is the law's where the arguments, and the package variables that the reading takes, are together of bulk at most 1048576: NARROWER than '..Said'. Prove '..Said' where nothing that the law and all that it calls make is longer than what came in: it says more and counts as full. Else prove '..UptoSaid'. A law counts once. -/
mutual
def uptoBulk {H : Type} : DataW H → Nat
  | .lit (.string bytes) => bytes.length + 1
  | .lit _ => 1
  | .nil => 1
  | .ptr d => uptoBulk d + 1
  | .slice elems spare => uptoBulkAll elems + uptoBulkAll spare + 1
  | .agg parts => uptoBulkAll parts + 1
  | .iface _ d => uptoBulk d + 1
  | .map entries => uptoBulkEntries entries + 1
  | .held _ => 1
def uptoBulkAll {H : Type} : List (DataW H) → Nat
  | [] => 0
  | d :: r => uptoBulk d + uptoBulkAll r
def uptoBulkEntries {H : Type} : List (Lit × DataW H) → Nat
  | [] => 0
  | x :: r => uptoBulkEntry x + uptoBulkEntries r
def uptoBulkEntry {H : Type} : Lit × DataW H → Nat
  | (.string bytes, d) => bytes.length + uptoBulk d + 1
  | (_, d) => uptoBulk d + 1
 end
def uptoSmall : (H : Type) → List (DataW H) → Bool := fun _ ds => decide (uptoBulkAll ds ≤ 1048576)
def OpenSpec.upto (s : _root_.Go.ChangeSpec) : _root_.Go.OpenSpec := { _root_.Go.OpenSpec.ofChange s with cond := some uptoSmall }

/-- 'veneerlaw2.SparseOwn', WHERE WHAT IT READS IS OF BULK AT MOST 1048576: true; the input reads as it did. -/
def sparseOwnUptoRow : OpenClaim := { program := "ytmkmjjodiicmlaa", sum := "db0a9bc7bc3af26f66b8440237e19d931903ba5fe0d2cc63eedf17e7a44bb1a4", func := "veneer/veneerlaw2.SparseOwn", spec := "sparseOwn", inPlace := ["slices.overlaps[veneer/api.Block]"], unfollowed := true, recurses := true, apart := false, narrowed := true }
def SparseOwnUptoSaid : Prop := sparseOwnUptoRow.holds Try.pinned (OpenSpec.upto sparseOwnSpec)

/-- 'veneerlaw2.SparseSame', WHERE WHAT IT READS IS OF BULK AT MOST 1048576: true; the input reads as it did. -/
def sparseSameUptoRow : OpenClaim := { program := "ytmkmjjodiicmlaa", sum := "db0a9bc7bc3af26f66b8440237e19d931903ba5fe0d2cc63eedf17e7a44bb1a4", func := "veneer/veneerlaw2.SparseSame", spec := "sparseSame", inPlace := ["slices.overlaps[veneer/api.Block]"], unfollowed := true, recurses := true, apart := false, narrowed := true }
def SparseSameUptoSaid : Prop := sparseSameUptoRow.holds Try.pinned (OpenSpec.upto sparseSameSpec)

/-- 'veneerlaw2.SparsePlays', WHERE WHAT IT READS IS OF BULK AT MOST 1048576: true; the input reads as it did. -/
def sparsePlaysUptoRow : OpenClaim := { program := "ytmkmjjodiicmlaa", sum := "db0a9bc7bc3af26f66b8440237e19d931903ba5fe0d2cc63eedf17e7a44bb1a4", func := "veneer/veneerlaw2.SparsePlays", spec := "sparsePlays", inPlace := ["slices.overlaps[veneer/api.Block]"], unfollowed := true, recurses := true, apart := false, narrowed := true }
def SparsePlaysUptoSaid : Prop := sparsePlaysUptoRow.holds Try.pinned (OpenSpec.upto sparsePlaysSpec)

/-- 'veneerlaw2.SparseHoles', WHERE WHAT IT READS IS OF BULK AT MOST 1048576: true; the input reads as it did. -/
def sparseHolesUptoRow : OpenClaim := { program := "ytmkmjjodiicmlaa", sum := "db0a9bc7bc3af26f66b8440237e19d931903ba5fe0d2cc63eedf17e7a44bb1a4", func := "veneer/veneerlaw2.SparseHoles", spec := "sparseHoles", inPlace := ["slices.overlaps[veneer/api.Block]"], unfollowed := true, recurses := true, apart := false, narrowed := true }
def SparseHolesUptoSaid : Prop := sparseHolesUptoRow.holds Try.pinned (OpenSpec.upto sparseHolesSpec)

/-- 'veneerlaw6.TieRoom', WHERE WHAT IT READS IS OF BULK AT MOST 1048576: true; the input reads as it did. -/
def tieRoomUptoRow : OpenClaim := { program := "ytmkmjjodiicmlaa", sum := "db0a9bc7bc3af26f66b8440237e19d931903ba5fe0d2cc63eedf17e7a44bb1a4", func := "veneer/veneerlaw6.TieRoom", spec := "tieRoom", inPlace := ["slices.overlaps[veneer/api.Node]", "slices.overlaps[veneer/api.Name]"], unfollowed := true, recurses := true, apart := false, narrowed := true }
def TieRoomUptoSaid : Prop := tieRoomUptoRow.holds Try.pinned (OpenSpec.upto tieRoomSpec)

/-- 'veneerlaw7.KeepRoom', WHERE WHAT IT READS IS OF BULK AT MOST 1048576: true; the input reads as it did. -/
def keepRoomUptoRow : OpenClaim := { program := "ytmkmjjodiicmlaa", sum := "db0a9bc7bc3af26f66b8440237e19d931903ba5fe0d2cc63eedf17e7a44bb1a4", func := "veneer/veneerlaw7.KeepRoom", spec := "keepRoom", inPlace := ["slices.overlaps[veneer/api.Block]", "slices.overlaps[veneer/api.Node]"], unfollowed := true, recurses := true, apart := false, narrowed := true }
def KeepRoomUptoSaid : Prop := keepRoomUptoRow.holds Try.pinned (OpenSpec.upto keepRoomSpec)

/-- 'veneerlaw7.KeepTells', WHERE WHAT IT READS IS OF BULK AT MOST 1048576: true; the input reads as it did. -/
def keepTellsUptoRow : OpenClaim := { program := "ytmkmjjodiicmlaa", sum := "db0a9bc7bc3af26f66b8440237e19d931903ba5fe0d2cc63eedf17e7a44bb1a4", func := "veneer/veneerlaw7.KeepTells", spec := "keepTells", inPlace := ["slices.overlaps[veneer/api.Block]", "slices.overlaps[veneer/api.Node]"], unfollowed := true, recurses := true, apart := false, narrowed := true }
def KeepTellsUptoSaid : Prop := keepTellsUptoRow.holds Try.pinned (OpenSpec.upto keepTellsSpec)

/-- 'veneerlaw3.DiskSame', WHERE WHAT IT READS IS OF BULK AT MOST 1048576: true; the input reads as it did. -/
def diskSameUptoRow : OpenClaim := { program := "ytmkmjjodiicmlaa", sum := "db0a9bc7bc3af26f66b8440237e19d931903ba5fe0d2cc63eedf17e7a44bb1a4", func := "veneer/veneerlaw3.DiskSame", spec := "diskSame", inPlace := ["internal/bytealg.IndexByteString", "internal/bytealg.IndexString"], unfollowed := true, recurses := true, named := ["internal/bytealg.MaxLen"], apart := false, narrowed := true }
def DiskSameUptoSaid : Prop := diskSameUptoRow.holds Try.pinned (OpenSpec.upto diskSameSpec)

/-- 'veneerlaw3.DiskPuts', WHERE WHAT IT READS IS OF BULK AT MOST 1048576: true; the input reads as it did. -/
def diskPutsUptoRow : OpenClaim := { program := "ytmkmjjodiicmlaa", sum := "db0a9bc7bc3af26f66b8440237e19d931903ba5fe0d2cc63eedf17e7a44bb1a4", func := "veneer/veneerlaw3.DiskPuts", spec := "diskPuts", inPlace := ["slices.overlaps[veneer/api.Node]", "internal/bytealg.IndexByteString", "internal/bytealg.IndexString"], unfollowed := true, recurses := true, named := ["internal/bytealg.MaxLen"], apart := false, narrowed := true }
def DiskPutsUptoSaid : Prop := diskPutsUptoRow.holds Try.pinned (OpenSpec.upto diskPutsSpec)

end Rows
end Go.Proofs.Ytmkmjjodiicmlaa
