/- The law SparsePlays is told by trees of an abstract machine that is proved sound for the program: it answers true, and all that was there is as it was. Conditions: none. -/
import Derived.Test.YtmkmjjodiicmlaaRows
import Derived.WalkKit
import Derived.ProofKit
import Derived.OpenShut
import Derived.Test.YtmkmjjodiicmlaaPSB
import Derived.Test.YtmkmjjodiicmlaaVZ5
namespace Go.Proofs.Ytmkmjjodiicmlaa.sparsePlays
open Go.ChangeShapes Go.WideShapes Go.ChangeAt Go.RowKit
set_option linter.unusedVariables false
set_option linter.unusedSimpArgs false

theorem own : ownKnob Try.prog.godebug = none := by kernel_rfl

open VS

theorem kids : Kids Try.prog (· < Try.prog.types.size) := kids_rows (by kernel_rfl) (by kernel_rfl)
theorem full : ∀ t e, t < Try.prog.types.size → Try.prog.underlying t = some (.slice e) → 0 < Try.prog.cellsOf e := slices_full_of Try.prog (by kernel_rfl)
theorem ps : Try.f5.params.toList = [34] := by kernel_rfl
theorem small : ∀ t ∈ Try.f5.params.toList, t < Try.prog.types.size := by
  rw [ps]
  have h : ([34].all fun t => t.blt Try.prog.types.size) = true := by kernel_rfl
  exact fun t ht => by simpa using List.all_eq_true.1 h t ht
theorem tyBool : Try.prog.underlying 4 = some .bool := by kernel_rfl
section
variable [Syms] {H : Type} {enc : TypeId × Value → H} {W : World} {sp : Nat → Bool}
theorem rT3 : RdW enc Try.prog W sp 1 (fun n : Int => [.int .i64 n]) wI 3 := rw_int (k := .i64) (by kernel_rfl) (by kernel_rfl)
theorem rT5 : RdW enc Try.prog W sp 1 (fun b : UInt8 => [.int .u8 b.toNat]) wB 5 := rw_u8 (by kernel_rfl) (by kernel_rfl)
theorem rT22 : RdW enc Try.prog W sp 1 (fun l : List UInt8 => [.tl .u8 l]) (wL wB) 22 := rw_slice (g := .u8) (by kernel_rfl) (by kernel_rfl) rT5
theorem rT36 : RdW enc Try.prog W sp 3 (SC.cs .akt) wAkt 36 := rw_akt (by kernel_rfl) (by kernel_rfl) rT3 rT3 rT22
theorem rT34 : RdW enc Try.prog W sp 1 (fun l : List Akt => [.tl .akt l]) (wL wAkt) 34 := rw_slice (g := .akt) (by kernel_rfl) (by kernel_rfl) rT36
end

theorem enters (args : Array Value) (w : World) : (callFunc 5 args).run Try.prog w = .ok (.enter 5 args) w := run_callFunc Try.func5 rfl (by kernel_rfl) args w

theorem walk [Syms] {W : World} {y0 : (List Akt)} {v0 : Value} (h0 : VR (fun _ => True) W.heap noMap (.tl .akt y0) v0) : Calls Try.prog 5 #[v0] W fun e w' => e = .returned (.bool true) ∧ Kept W w' :=
  law_T (S := S_law2_SparsePlays) tyokG o_law2_SparsePlays Try.checked.mixed ⟨Try.func5, by kernel_rfl, by kernel_rfl⟩ c_law2_SparsePlays (x := y0) (law_SparsePlays y0) (args := [.tl .akt y0]) rfl trivial (cr_cons rfl h0 cr_nil) rfl (enters _ W)

set_option maxRecDepth 100000 in
theorem lifted (os : Os) (started : os.Started) (H : Type) (enc : TypeId × Value → H) :
    ReturnsInHanded {} Try.checked os 5 .any (Rows.sparsePlaysSpec.pre6 enc Try.prog Try.f5 Rows.sparsePlaysRow.domain false) (Rows.sparsePlaysSpec.post enc Try.prog Try.f5 false true false false) := by
  refine returnsInHanded_of_change (C := Try.checked) own started (by kernel_rfl) Try.func5
    (ChangeSpec.witness6 (enc := enc) (C := Try.checked) false ⟨#[], #[.slice none 0 0], []⟩ 8 (by kernel_rfl) (by kernel_rfl) (by kernel_rfl) (by kernel_rfl)) ?_
  intro W base args ds gs before hval0 hW hcnd _
  have hval : ∀ (j : Nat) t v, Try.f5.params[j]? = some t → args[j]? = some v → Value.okWide Try.prog W .any base t v := hval0
  have hW' := hW
  obtain ⟨p, q, hA0, hV, rfl, hfz, hnd⟩ := hW
  have hA : DataW.TrodAll enc Try.prog W 0 (fun _ => true) true Try.f5.params.toList args.toList ds p := hA0
  rw [ps] at hA
  obtain ⟨v0, vs0, d0, ds0, p0, q0, hargs, rfl, rfl, h0, r0⟩ := trodAll_cons hA
  obtain ⟨rfl, rfl, rfl⟩ := trodAll_nil r0
  obtain rfl : args = #[v0] := by cases args; simp_all
  obtain ⟨rfl, rfl⟩ := trodVars_none hV
  letI : Syms := noSyms
  obtain ⟨y0, hv0, hw0⟩ := rw_one rT34 h0 (slice_cells (e := 36) (by kernel_rfl) (hval 0 34 v0 rfl rfl))
  refine (walk hv0).mono fun e W' ⟨he, hg⟩ => ?_
  subst he
  exact ⟨_, rfl, post_law kids full hW' small rfl (by kernel_rfl) tyBool rfl rfl rfl hg⟩

theorem over : Rows.sparsePlaysRow.holds Try.pinned (OpenSpec.ofChange Rows.sparsePlaysSpec) :=
  OpenClaim.holds_of_wide 5 Try.f5 rfl rfl rfl rfl rfl rfl rfl ⟨rfl, rfl, rfl, rfl, rfl⟩ rfl rfl rfl rfl rfl (by kernel_rfl) Try.func5 (by kernel_rfl)
    (of_decide_eq_true (by kernel_rfl)) (by unfold Func.isWrapper; first | (rw [if_pos (by decide +kernel)]; kernel_rfl) | (rw [if_neg (by decide +kernel)]; exact ⟨rfl, rfl⟩))
    (fun os started H enc _ => lifted os started H enc)

theorem proved : Rows.SparsePlaysSaid :=
  over
#print axioms proved
end Go.Proofs.Ytmkmjjodiicmlaa.sparsePlays
