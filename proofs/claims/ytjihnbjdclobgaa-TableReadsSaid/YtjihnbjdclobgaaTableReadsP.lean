/- The law is told by trees of an abstract machine that is proved sound for the program: it answers true, and all that was there is as it was. Conditions: none. -/
import Derived.Test.YtjihnbjdclobgaaRows
import Derived.WalkKit
import Derived.ProofKit
import Derived.OpenShut
import Derived.Test.YtjihnbjdclobgaaTabF
import Derived.Test.YtjihnbjdclobgaaVM10
namespace Go.Proofs.Ytjihnbjdclobgaa.tableReads
open Go.ChangeShapes Go.WideShapes Go.ChangeAt Go.RowKit
set_option linter.unusedVariables false

theorem own : ownKnob Try.prog.godebug = none := by kernel_rfl

open VS

theorem kids : Kids Try.prog (· < Try.prog.types.size) := kids_rows (by kernel_rfl) (by kernel_rfl)
theorem full : ∀ t e, t < Try.prog.types.size → Try.prog.underlying t = some (.slice e) → 0 < Try.prog.cellsOf e := slices_full_of Try.prog (by kernel_rfl)
theorem ps : Try.f8.params.toList = [52] := by kernel_rfl
theorem small : ∀ t ∈ Try.f8.params.toList, t < Try.prog.types.size := by
  rw [ps]
  have h : ([52].all fun t => t.blt Try.prog.types.size) = true := by kernel_rfl
  exact fun t ht => by simpa using List.all_eq_true.1 h t ht
theorem tyU8 : Try.prog.underlying 5 = some (.int .u8) := by kernel_rfl
theorem tyBytes : Try.prog.underlying 52 = some (.slice 5) := by kernel_rfl
theorem tyBool : Try.prog.underlying 4 = some .bool := by kernel_rfl
theorem rdBytes [Syms] {H : Type} {enc : TypeId × Value → H} {W : World} {sp : Nat → Bool} : RdT enc Try.prog W sp 1 (fun l : List UInt8 => [.tl .u8 l]) (fitL fun _ => True) 52 :=
  rd_slice (g := .u8) tyBytes (by kernel_rfl) (rd_u8 (enc := enc) (W := W) (sp := sp) tyU8 (by kernel_rfl : Try.prog.cellsOf 5 = 1))

theorem enters (args : Array Value) (w : World) : (callFunc 8 args).run Try.prog w = .ok (.enter 8 args) w := run_callFunc Try.func8 rfl (by kernel_rfl) args w

theorem walk [Syms] {W : World} {l : List UInt8} {v : Value} (hv : VR (fun _ => True) W.heap noMap (.tl .u8 l) v) : Calls Try.prog 8 #[v] W fun e w' => e = .returned (.bool true) ∧ Kept W w' :=
  law_T (S := S_law13_TableReads) tyokG o_law13_TableReads Try.checked.mixed ⟨Try.func8, by kernel_rfl, by kernel_rfl⟩ c_law13_TableReads (x := l) (law_reads l) (args := [.tl .u8 l]) rfl trivial (cr_one hv) rfl (enters _ W)

set_option maxRecDepth 100000 in
theorem lifted (os : Os) (started : os.Started) (H : Type) (enc : TypeId × Value → H) :
    ReturnsInHanded {} Try.checked os 8 .any (Rows.tableReadsSpec.pre6 enc Try.prog Try.f8 Rows.tableReadsRow.domain false) (Rows.tableReadsSpec.post enc Try.prog Try.f8 false true false false) := by
  refine returnsInHanded_of_change (C := Try.checked) own started (by kernel_rfl) Try.func8
    (ChangeSpec.witness6 (enc := enc) (C := Try.checked) false ⟨#[], #[.slice none 0 0], []⟩ 8 (by kernel_rfl) (by kernel_rfl) (by kernel_rfl) (by kernel_rfl)) ?_
  intro W base args ds gs before hval0 hW hcnd _
  have hval : ∀ (j : Nat) t v, Try.f8.params[j]? = some t → args[j]? = some v → Value.okWide Try.prog W .any base t v := hval0
  have hW' := hW
  obtain ⟨p, q, hA0, hV, rfl, hfz, hnd⟩ := hW
  have hA : DataW.TrodAll enc Try.prog W 0 (fun _ => true) true Try.f8.params.toList args.toList ds p := hA0
  rw [ps] at hA
  obtain ⟨v0, vs0, d0, ds0, p0, q0, hargs, rfl, rfl, h0, r0⟩ := trodAll_cons hA
  obtain ⟨rfl, rfl, rfl⟩ := trodAll_nil r0
  obtain rfl : args = #[v0] := by cases args; simp_all
  obtain ⟨rfl, rfl⟩ := trodVars_none hV
  letI : Syms := noSyms
  obtain ⟨l, hv, _⟩ := rd_one rdBytes h0 (slice_cells tyBytes (hval 0 52 v0 rfl rfl))
  refine (walk hv).mono fun e W' ⟨he, hg⟩ => ?_
  subst he
  exact ⟨_, rfl, post_law kids full hW' small rfl (by kernel_rfl) tyBool rfl rfl rfl hg⟩

theorem over : Rows.tableReadsRow.holds Try.pinned (OpenSpec.ofChange Rows.tableReadsSpec) :=
  OpenClaim.holds_of_wide 8 Try.f8 rfl rfl rfl rfl rfl rfl rfl ⟨rfl, rfl, rfl, rfl, rfl⟩ rfl rfl rfl rfl rfl (by kernel_rfl) Try.func8 (by kernel_rfl)
    (of_decide_eq_true (by kernel_rfl)) (by unfold Func.isWrapper; first | (rw [if_pos (by decide +kernel)]; kernel_rfl) | (rw [if_neg (by decide +kernel)]; exact ⟨rfl, rfl⟩))
    (fun os started H enc _ => lifted os started H enc)

theorem proved : Rows.TableReadsSaid :=
  over
#print axioms proved
end Go.Proofs.Ytjihnbjdclobgaa.tableReads
