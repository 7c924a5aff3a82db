/- The law TableTells is told by trees of an abstract machine that is proved sound for the program: it answers true, and all that was there is as it was. Conditions: none. -/
import Derived.Test.YtkdcjfnmmmmocaaRows
import Derived.WalkKit
import Derived.ProofKit
import Derived.OpenShut
import Derived.Test.YtkdcjfnmmmmocaaPX4
import Derived.Test.YtkdcjfnmmmmocaaVZ5
namespace Go.Proofs.Ytkdcjfnmmmmocaa.tableTells
open Go.ChangeShapes Go.WideShapes Go.ChangeAt Go.RowKit
set_option linter.unusedVariables false
set_option linter.unusedSimpArgs false

theorem own : ownKnob Try.prog.godebug = none := by kernel_rfl

open VS

theorem kids : Kids Try.prog (· < Try.prog.types.size) := kids_rows (by kernel_rfl) (by kernel_rfl)
theorem full : ∀ t e, t < Try.prog.types.size → Try.prog.underlying t = some (.slice e) → 0 < Try.prog.cellsOf e := slices_full_of Try.prog (by kernel_rfl)
theorem ps : Try.f4.params.toList = [29, 38, 2] := by kernel_rfl
theorem small : ∀ t ∈ Try.f4.params.toList, t < Try.prog.types.size := by
  rw [ps]
  have h : ([29, 38, 2].all fun t => t.blt Try.prog.types.size) = true := by kernel_rfl
  exact fun t ht => by simpa using List.all_eq_true.1 h t ht
theorem tyBool : Try.prog.underlying 4 = some .bool := by kernel_rfl
section
variable [Syms] {H : Type} {enc : TypeId × Value → H} {W : World} {sp : Nat → Bool}
theorem rT2 : RdW enc Try.prog W sp 1 (fun n : Int => [.int .i64 n]) wI 2 := rw_int (k := .i64) (by kernel_rfl) (by kernel_rfl)
theorem rT3 : RdW enc Try.prog W sp 1 (fun n : Int => [.int .i64 n]) wI 3 := rw_int (k := .i64) (by kernel_rfl) (by kernel_rfl)
theorem rT38 : RdW enc Try.prog W sp 2 (SC.cs .spt) wSpt 38 := rw_spt (by kernel_rfl) (by kernel_rfl) rT3 rT2
theorem rT79 : RdW enc Try.prog W sp 3 (SC.cs .row) wRwo 79 := rw_row (by kernel_rfl) (by kernel_rfl) rT38 rT2
theorem rT27 : RdW enc Try.prog W sp 1 (fun l : List Rwo => [.tl .row l]) (wL wRwo) 27 := rw_slice (g := .row) (by kernel_rfl) (by kernel_rfl) rT79
theorem rT29 : RdW enc Try.prog W sp 4 (SC.cs .tbl) wTbl 29 := rw_tbl (by kernel_rfl) (by kernel_rfl) rT2 rT27 rT3
end

theorem enters (args : Array Value) (w : World) : (callFunc 4 args).run Try.prog w = .ok (.enter 4 args) w := run_callFunc Try.func4 rfl (by kernel_rfl) args w

theorem walk [Syms] {W : World} {y0 : Tbl} {y1 : Spt} {y2 : Int} {v0 v1 v2 : Value} (h0 : VR (fun _ => True) W.heap noMap (.agg (SC.cs .tbl y0)) v0) (h1 : VR (fun _ => True) W.heap noMap (.agg (SC.cs .spt y1)) v1) (h2 : VR (fun _ => True) W.heap noMap (.int .i64 y2) v2) : Calls Try.prog 4 #[v0, v1, v2] W fun e w' => e = .returned (.bool true) ∧ Kept W w' :=
  law_T (S := S_law13_TableTells) tyokG o_law13_TableTells Try.checked.mixed ⟨Try.func4, by kernel_rfl, by kernel_rfl⟩ c_law13_TableTells (x := (y0, y1, y2)) (law_TableTells y0 y1 y2) (args := [.agg (SC.cs .tbl y0), .agg (SC.cs .spt y1), .int .i64 y2]) rfl trivial (cr_cons rfl h0 (cr_cons rfl h1 (cr_cons rfl h2 cr_nil))) rfl (enters _ W)

set_option maxRecDepth 100000 in
theorem lifted (os : Os) (started : os.Started) (H : Type) (enc : TypeId × Value → H) :
    ReturnsInHanded {} Try.checked os 4 .any (Rows.tableTellsSpec.pre6 enc Try.prog Try.f4 Rows.tableTellsRow.domain false) (Rows.tableTellsSpec.post enc Try.prog Try.f4 false true false false) := by
  refine returnsInHanded_of_change (C := Try.checked) own started (by kernel_rfl) Try.func4
    (ChangeSpec.witness6 (enc := enc) (C := Try.checked) false ⟨#[], #[.agg #[.int .i64 0, .slice none 0 0, .slice none 0 0, .int .i64 0], .agg #[.int .i64 0, .int .i64 0], .int .i64 0], []⟩ 8 (by kernel_rfl) (by kernel_rfl) (by kernel_rfl) (by kernel_rfl)) ?_
  intro W base args ds gs before hval0 hW hcnd _
  have hval : ∀ (j : Nat) t v, Try.f4.params[j]? = some t → args[j]? = some v → Value.okWide Try.prog W .any base t v := hval0
  have hW' := hW
  obtain ⟨p, q, hA0, hV, rfl, hfz, hnd⟩ := hW
  have hA : DataW.TrodAll enc Try.prog W 0 (fun _ => true) true Try.f4.params.toList args.toList ds p := hA0
  rw [ps] at hA
  obtain ⟨v0, vs0, d0, ds0, p0, q0, hargs, rfl, rfl, h0, r0⟩ := trodAll_cons hA
  obtain ⟨v1, vs1, d1, ds1, p1, q1, rfl, rfl, rfl, h1, r1⟩ := trodAll_cons r0
  obtain ⟨v2, vs2, d2, ds2, p2, q2, rfl, rfl, rfl, h2, r2⟩ := trodAll_cons r1
  obtain ⟨rfl, rfl, rfl⟩ := trodAll_nil r2
  obtain rfl : args = #[v0, v1, v2] := by cases args; simp_all
  obtain ⟨rfl, rfl⟩ := trodVars_none hV
  letI : Syms := noSyms
  obtain ⟨y0, hv0, hw0⟩ := rw_arg (l := [(0, 2), (1, 27), (2, 27), (3, 3)]) (by kernel_rfl) rT29 h0 (hval 0 29 v0 rfl rfl)
  obtain ⟨y1, hv1, hw1⟩ := rw_arg (l := [(0, 3), (1, 2)]) (by kernel_rfl) rT38 h1 (hval 1 38 v1 rfl rfl)
  obtain ⟨y2, hv2, hw2⟩ := rw_one rT2 h2 (one_cellsI (k := .i64) (by kernel_rfl) (hval 2 2 v2 rfl rfl))
  refine (walk hv0 hv1 hv2).mono fun e W' ⟨he, hg⟩ => ?_
  subst he
  exact ⟨_, rfl, post_law kids full hW' small rfl (by kernel_rfl) tyBool rfl rfl rfl hg⟩

theorem over : Rows.tableTellsRow.holds Try.pinned (OpenSpec.ofChange Rows.tableTellsSpec) :=
  OpenClaim.holds_of_wide 4 Try.f4 rfl rfl rfl rfl rfl rfl rfl ⟨rfl, rfl, rfl, rfl, rfl⟩ rfl rfl rfl rfl rfl (by kernel_rfl) Try.func4 (by kernel_rfl)
    (of_decide_eq_true (by kernel_rfl)) (by unfold Func.isWrapper; first | (rw [if_pos (by decide +kernel)]; kernel_rfl) | (rw [if_neg (by decide +kernel)]; exact ⟨rfl, rfl⟩))
    (fun os started H enc _ => lifted os started H enc)

theorem proved : Rows.TableTellsSaid :=
  over
#print axioms proved
end Go.Proofs.Ytkdcjfnmmmmocaa.tableTells
