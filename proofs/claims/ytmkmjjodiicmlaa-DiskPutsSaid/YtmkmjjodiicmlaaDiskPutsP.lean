/- The law DiskPuts is told by trees of an abstract machine that is proved sound for the program: it answers true, and all that was there is as it was. Conditions: none. -/
import Derived.Test.YtmkmjjodiicmlaaRows
import Derived.WalkKit
import Derived.ProofKit
import Derived.OpenShut
import Derived.Test.YtmkmjjodiicmlaaPN2
import Derived.Test.YtmkmjjodiicmlaaVZ5
namespace Go.Proofs.Ytmkmjjodiicmlaa.diskPuts
open Go.ChangeShapes Go.WideShapes Go.ChangeAt Go.RowKit
set_option linter.unusedVariables false
set_option linter.unusedSimpArgs false

theorem own : ownKnob Try.prog.godebug = none := by kernel_rfl

open VS

theorem kids : Kids Try.prog (· < Try.prog.types.size) := kids_rows (by kernel_rfl) (by kernel_rfl)
theorem full : ∀ t e, t < Try.prog.types.size → Try.prog.underlying t = some (.slice e) → 0 < Try.prog.cellsOf e := slices_full_of Try.prog (by kernel_rfl)
theorem ps : Try.f11.params.toList = [79, 2, 3] := by kernel_rfl
theorem small : ∀ t ∈ Try.f11.params.toList, t < Try.prog.types.size := by
  rw [ps]
  have h : ([79, 2, 3].all fun t => t.blt Try.prog.types.size) = true := by kernel_rfl
  exact fun t ht => by simpa using List.all_eq_true.1 h t ht
theorem tyBool : Try.prog.underlying 4 = some .bool := by kernel_rfl
section
variable [Syms] {H : Type} {enc : TypeId × Value → H} {W : World} {sp : Nat → Bool}
theorem rT2 : RdW enc Try.prog W sp 1 (fun n : Int => [.int .i64 n]) wI 2 := rw_int (k := .i64) (by kernel_rfl) (by kernel_rfl)
theorem rT79 : RdW enc Try.prog W sp 1 (fun l : List Int => [.tl .int l]) (wL wI) 79 := rw_slice (g := .int) (by kernel_rfl) (by kernel_rfl) rT2
theorem rT3 : RdW enc Try.prog W sp 1 (fun n : Int => [.int .i64 n]) wI 3 := rw_int (k := .i64) (by kernel_rfl) (by kernel_rfl)
end

theorem enters (args : Array Value) (w : World) : (callFunc 11 args).run Try.prog w = .ok (.enter 11 args) w := run_callFunc Try.func11 rfl (by kernel_rfl) args w

theorem walk [Syms] {W : World} {y0 : (List Int)} {y1 : Int} {y2 : Int} {v0 v1 v2 : Value} (h0 : VR (fun _ => True) W.heap noMap (.tl .int y0) v0) (h1 : VR (fun _ => True) W.heap noMap (.int .i64 y1) v1) (h2 : VR (fun _ => True) W.heap noMap (.int .i64 y2) v2) : Calls Try.prog 11 #[v0, v1, v2] W fun e w' => e = .returned (.bool true) ∧ Kept W w' :=
  law_T (S := S_law3_DiskPuts) tyokG o_law3_DiskPuts Try.checked.mixed ⟨Try.func11, by kernel_rfl, by kernel_rfl⟩ c_law3_DiskPuts (x := (y0, y1, y2)) (law_DiskPuts y0 y1 y2) (args := [.tl .int y0, .int .i64 y1, .int .i64 y2]) rfl trivial (cr_cons rfl h0 (cr_cons rfl h1 (cr_cons rfl h2 cr_nil))) rfl (enters _ W)

set_option maxRecDepth 100000 in
theorem lifted (os : Os) (started : os.Started) (H : Type) (enc : TypeId × Value → H) :
    ReturnsInHanded {} Try.checked os 11 .any (Rows.diskPutsSpec.pre6 enc Try.prog Try.f11 Rows.diskPutsRow.domain false) (Rows.diskPutsSpec.post enc Try.prog Try.f11 false true false false) := by
  refine returnsInHanded_of_change (C := Try.checked) own started (by kernel_rfl) Try.func11
    (ChangeSpec.witness6 (enc := enc) (C := Try.checked) false ⟨#[], #[.slice none 0 0, .int .i64 0, .int .i64 0], []⟩ 8 (by kernel_rfl) (by kernel_rfl) (by kernel_rfl) (by kernel_rfl)) ?_
  intro W base args ds gs before hval0 hW hcnd _
  have hval : ∀ (j : Nat) t v, Try.f11.params[j]? = some t → args[j]? = some v → Value.okWide Try.prog W .any base t v := hval0
  have hW' := hW
  obtain ⟨p, q, hA0, hV, rfl, hfz, hnd⟩ := hW
  have hA : DataW.TrodAll enc Try.prog W 0 (fun _ => true) true Try.f11.params.toList args.toList ds p := hA0
  rw [ps] at hA
  obtain ⟨v0, vs0, d0, ds0, p0, q0, hargs, rfl, rfl, h0, r0⟩ := trodAll_cons hA
  obtain ⟨v1, vs1, d1, ds1, p1, q1, rfl, rfl, rfl, h1, r1⟩ := trodAll_cons r0
  obtain ⟨v2, vs2, d2, ds2, p2, q2, rfl, rfl, rfl, h2, r2⟩ := trodAll_cons r1
  obtain ⟨rfl, rfl, rfl⟩ := trodAll_nil r2
  obtain rfl : args = #[v0, v1, v2] := by cases args; simp_all
  obtain ⟨rfl, rfl⟩ := trodVars_none hV
  letI : Syms := noSyms
  obtain ⟨y0, hv0, hw0⟩ := rw_one rT79 h0 (slice_cells (e := 2) (by kernel_rfl) (hval 0 79 v0 rfl rfl))
  obtain ⟨y1, hv1, hw1⟩ := rw_one rT2 h1 (one_cellsI (k := .i64) (by kernel_rfl) (hval 1 2 v1 rfl rfl))
  obtain ⟨y2, hv2, hw2⟩ := rw_one rT3 h2 (one_cellsI (k := .i64) (by kernel_rfl) (hval 2 3 v2 rfl rfl))
  refine (walk hv0 hv1 hv2).mono fun e W' ⟨he, hg⟩ => ?_
  subst he
  exact ⟨_, rfl, post_law kids full hW' small rfl (by kernel_rfl) tyBool rfl rfl rfl hg⟩

theorem over : Rows.diskPutsRow.holds Try.pinned (OpenSpec.ofChange Rows.diskPutsSpec) :=
  OpenClaim.holds_of_wide 11 Try.f11 rfl rfl rfl rfl rfl rfl rfl ⟨rfl, rfl, rfl, rfl, rfl⟩ rfl rfl rfl rfl rfl (by kernel_rfl) Try.func11 (by kernel_rfl)
    (of_decide_eq_true (by kernel_rfl)) (by unfold Func.isWrapper; first | (rw [if_pos (by decide +kernel)]; kernel_rfl) | (rw [if_neg (by decide +kernel)]; exact ⟨rfl, rfl⟩))
    (fun os started H enc _ => lifted os started H enc)

theorem proved : Rows.DiskPutsSaid :=
  over
#print axioms proved
end Go.Proofs.Ytmkmjjodiicmlaa.diskPuts
