/- The law SparseSame is told by trees of an abstract machine that is proved sound for the program: it answers true, and all that was there is as it was. Conditions: none. -/
import Derived.Test.YtmkmjjodiicmlaaRows
import Derived.WalkKit
import Derived.ProofKit
import Derived.OpenShut
import Derived.Test.YtmkmjjodiicmlaaPS8
import Derived.Test.YtmkmjjodiicmlaaVZ5
namespace Go.Proofs.Ytmkmjjodiicmlaa.sparseSame
open Go.ChangeShapes Go.WideShapes Go.ChangeAt Go.RowKit
set_option linter.unusedVariables false
set_option linter.unusedSimpArgs false

theorem own : ownKnob Try.prog.godebug = none := by kernel_rfl

open VS

theorem kids : Kids Try.prog (· < Try.prog.types.size) := kids_rows (by kernel_rfl) (by kernel_rfl)
theorem full : ∀ t e, t < Try.prog.types.size → Try.prog.underlying t = some (.slice e) → 0 < Try.prog.cellsOf e := slices_full_of Try.prog (by kernel_rfl)
theorem ps : Try.f4.params.toList = [3, 3, 22, 5] := by kernel_rfl
theorem small : ∀ t ∈ Try.f4.params.toList, t < Try.prog.types.size := by
  rw [ps]
  have h : ([3, 3, 22, 5].all fun t => t.blt Try.prog.types.size) = true := by kernel_rfl
  exact fun t ht => by simpa using List.all_eq_true.1 h t ht
theorem tyBool : Try.prog.underlying 4 = some .bool := by kernel_rfl
section
variable [Syms] {H : Type} {enc : TypeId × Value → H} {W : World} {sp : Nat → Bool}
theorem rT3 : RdW enc Try.prog W sp 1 (fun n : Int => [.int .i64 n]) wI 3 := rw_int (k := .i64) (by kernel_rfl) (by kernel_rfl)
theorem rT5 : RdW enc Try.prog W sp 1 (fun b : UInt8 => [.int .u8 b.toNat]) wB 5 := rw_u8 (by kernel_rfl) (by kernel_rfl)
theorem rT22 : RdW enc Try.prog W sp 1 (fun l : List UInt8 => [.tl .u8 l]) (wL wB) 22 := rw_slice (g := .u8) (by kernel_rfl) (by kernel_rfl) rT5
end

theorem enters (args : Array Value) (w : World) : (callFunc 4 args).run Try.prog w = .ok (.enter 4 args) w := run_callFunc Try.func4 rfl (by kernel_rfl) args w

theorem walk [Syms] {W : World} {y0 : Int} {y1 : Int} {y2 : (List UInt8)} {y3 : UInt8} {v0 v1 v2 v3 : Value} (h0 : VR (fun _ => True) W.heap noMap (.int .i64 y0) v0) (h1 : VR (fun _ => True) W.heap noMap (.int .i64 y1) v1) (h2 : VR (fun _ => True) W.heap noMap (.tl .u8 y2) v2) (h3 : VR (fun _ => True) W.heap noMap (.int .u8 y3.toNat) v3) : Calls Try.prog 4 #[v0, v1, v2, v3] W fun e w' => e = .returned (.bool true) ∧ Kept W w' :=
  law_T (S := S_law2_SparseSame) tyokG o_law2_SparseSame Try.checked.mixed ⟨Try.func4, by kernel_rfl, by kernel_rfl⟩ c_law2_SparseSame (x := (y0, y1, y2, y3)) (law_SparseSame y0 y1 y2 y3) (args := [.int .i64 y0, .int .i64 y1, .tl .u8 y2, .int .u8 y3.toNat]) (by show some (y0, y1, y2, UInt8.ofNat ((y3.toNat : Int)).toNat) = some (y0, y1, y2, y3); simp) (by have := y3.toNat_lt; simp [DT.chk, andO, rngB, preP, DT.ar]; omega) (cr_cons rfl h0 (cr_cons rfl h1 (cr_cons rfl h2 (cr_cons rfl h3 cr_nil)))) rfl (enters _ W)

set_option maxRecDepth 100000 in
theorem lifted (os : Os) (started : os.Started) (H : Type) (enc : TypeId × Value → H) :
    ReturnsInHanded {} Try.checked os 4 .any (Rows.sparseSameSpec.pre6 enc Try.prog Try.f4 Rows.sparseSameRow.domain false) (Rows.sparseSameSpec.post enc Try.prog Try.f4 false true false false) := by
  refine returnsInHanded_of_change (C := Try.checked) own started (by kernel_rfl) Try.func4
    (ChangeSpec.witness6 (enc := enc) (C := Try.checked) false ⟨#[], #[.int .i64 0, .int .i64 0, .slice none 0 0, .int .u8 0], []⟩ 8 (by kernel_rfl) (by kernel_rfl) (by kernel_rfl) (by kernel_rfl)) ?_
  intro W base args ds gs before hval0 hW hcnd _
  have hval : ∀ (j : Nat) t v, Try.f4.params[j]? = some t → args[j]? = some v → Value.okWide Try.prog W .any base t v := hval0
  have hW' := hW
  obtain ⟨p, q, hA0, hV, rfl, hfz, hnd⟩ := hW
  have hA : DataW.TrodAll enc Try.prog W 0 (fun _ => true) true Try.f4.params.toList args.toList ds p := hA0
  rw [ps] at hA
  obtain ⟨v0, vs0, d0, ds0, p0, q0, hargs, rfl, rfl, h0, r0⟩ := trodAll_cons hA
  obtain ⟨v1, vs1, d1, ds1, p1, q1, rfl, rfl, rfl, h1, r1⟩ := trodAll_cons r0
  obtain ⟨v2, vs2, d2, ds2, p2, q2, rfl, rfl, rfl, h2, r2⟩ := trodAll_cons r1
  obtain ⟨v3, vs3, d3, ds3, p3, q3, rfl, rfl, rfl, h3, r3⟩ := trodAll_cons r2
  obtain ⟨rfl, rfl, rfl⟩ := trodAll_nil r3
  obtain rfl : args = #[v0, v1, v2, v3] := by cases args; simp_all
  obtain ⟨rfl, rfl⟩ := trodVars_none hV
  letI : Syms := noSyms
  obtain ⟨y0, hv0, hw0⟩ := rw_one rT3 h0 (one_cellsI (k := .i64) (by kernel_rfl) (hval 0 3 v0 rfl rfl))
  obtain ⟨y1, hv1, hw1⟩ := rw_one rT3 h1 (one_cellsI (k := .i64) (by kernel_rfl) (hval 1 3 v1 rfl rfl))
  obtain ⟨y2, hv2, hw2⟩ := rw_one rT22 h2 (slice_cells (e := 5) (by kernel_rfl) (hval 2 22 v2 rfl rfl))
  obtain ⟨y3, hv3, hw3⟩ := rw_one rT5 h3 (one_cellsI (k := .u8) (by kernel_rfl) (hval 3 5 v3 rfl rfl))
  refine (walk hv0 hv1 hv2 hv3).mono fun e W' ⟨he, hg⟩ => ?_
  subst he
  exact ⟨_, rfl, post_law kids full hW' small rfl (by kernel_rfl) tyBool rfl rfl rfl hg⟩

theorem over : Rows.sparseSameRow.holds Try.pinned (OpenSpec.ofChange Rows.sparseSameSpec) :=
  OpenClaim.holds_of_wide 4 Try.f4 rfl rfl rfl rfl rfl rfl rfl ⟨rfl, rfl, rfl, rfl, rfl⟩ rfl rfl rfl rfl rfl (by kernel_rfl) Try.func4 (by kernel_rfl)
    (of_decide_eq_true (by kernel_rfl)) (by unfold Func.isWrapper; first | (rw [if_pos (by decide +kernel)]; kernel_rfl) | (rw [if_neg (by decide +kernel)]; exact ⟨rfl, rfl⟩))
    (fun os started H enc _ => lifted os started H enc)

theorem proved : Rows.SparseSameSaid :=
  over
#print axioms proved
end Go.Proofs.Ytmkmjjodiicmlaa.sparseSame
