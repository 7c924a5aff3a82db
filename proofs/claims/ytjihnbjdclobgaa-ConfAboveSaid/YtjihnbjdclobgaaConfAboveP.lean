/- The law is told by trees of an abstract machine that is proved sound for the program: it answers true, and all that was there is as it was. Conditions: none. -/
import Derived.Test.YtjihnbjdclobgaaRows
import Derived.WalkKit
import Derived.ProofKit
import Derived.OpenShut
import Derived.Test.YtjihnbjdclobgaaConf
import Derived.Test.YtjihnbjdclobgaaVW11
namespace Go.Proofs.Ytjihnbjdclobgaa.confAbove
open Go.ChangeShapes Go.WideShapes Go.ChangeAt Go.RowKit
set_option linter.unusedVariables false

theorem own : ownKnob Try.prog.godebug = none := by kernel_rfl

open VS

theorem kids : Kids Try.prog (· < Try.prog.types.size) := kids_rows (by kernel_rfl) (by kernel_rfl)
theorem full : ∀ t e, t < Try.prog.types.size → Try.prog.underlying t = some (.slice e) → 0 < Try.prog.cellsOf e := slices_full_of Try.prog (by kernel_rfl)
theorem ps : Try.f4.params.toList = [24, 3] := by kernel_rfl
theorem small : ∀ t ∈ Try.f4.params.toList, t < Try.prog.types.size := by
  rw [ps]
  have h : ([24, 3].all fun t => t.blt Try.prog.types.size) = true := by kernel_rfl
  exact fun t ht => by simpa using List.all_eq_true.1 h t ht
theorem tyInt : Try.prog.underlying 3 = some (.int .i64) := by kernel_rfl
theorem tyInts : Try.prog.underlying 22 = some (.slice 3) := by kernel_rfl
theorem tyBool : Try.prog.underlying 4 = some .bool := by kernel_rfl
theorem rdInt [Syms] {H : Type} {enc : TypeId × Value → H} {W : World} {sp : Nat → Bool} : RdT enc Try.prog W sp 1 (fun n : Int => [.int .i64 n]) (fun n => (Lit.int .i64 n).wf = true) 3 := rd_int (enc := enc) (W := W) (sp := sp) tyInt (by kernel_rfl : Try.prog.cellsOf 3 = 1)
theorem rdCnf [Syms] {H : Type} {enc : TypeId × Value → H} {W : World} {sp : Nat → Bool} : RdT enc Try.prog W sp 2 (fun c : Cnf => [.tl .int c.ways, .int .i64 c.policy]) (fun c => fitL (fun n => (Lit.int .i64 n).wf = true) c.ways ∧ (Lit.int .i64 c.policy).wf = true) 24 := rd_cnf (enc := enc) (W := W) (sp := sp) (t := 24) (by kernel_rfl) (by kernel_rfl) (rd_slice (g := .int) tyInts (by kernel_rfl) rdInt) rdInt

theorem enters (args : Array Value) (w : World) : (callFunc 4 args).run Try.prog w = .ok (.enter 4 args) w := run_callFunc Try.func4 rfl (by kernel_rfl) args w

theorem walk [Syms] {W : World} {c : Cnf} {b : Int} {v : Value} (hp : fitC c) (hv : VR (fun _ => True) W.heap noMap (encCnf c) v) : Calls Try.prog 4 #[v, .int .i64 b] W fun e w' => e = .returned (.bool true) ∧ Kept W w' :=
  law_sym tyokS conF Try.checked.mixed ⟨Try.func4, by kernel_rfl, by kernel_rfl⟩ loops_above (f_above c b hp) (cr_two hv (.int _ _)) rfl (enters _ W)

set_option maxRecDepth 100000 in
theorem lifted (os : Os) (started : os.Started) (H : Type) (enc : TypeId × Value → H) :
    ReturnsInHanded {} Try.checked os 4 .any (Rows.confAboveSpec.pre6 enc Try.prog Try.f4 Rows.confAboveRow.domain false) (Rows.confAboveSpec.post enc Try.prog Try.f4 false true false false) := by
  refine returnsInHanded_of_change (C := Try.checked) own started (by kernel_rfl) Try.func4
    (ChangeSpec.witness6 (enc := enc) (C := Try.checked) false ⟨#[], #[.agg #[.slice none 0 0, .int .i64 0], .int .i64 0], []⟩ 8 (by kernel_rfl) (by kernel_rfl) (by kernel_rfl) (by kernel_rfl)) ?_
  intro W base args ds gs before hval0 hW hcnd _
  have hval : ∀ (j : Nat) t v, Try.f4.params[j]? = some t → args[j]? = some v → Value.okWide Try.prog W .any base t v := hval0
  have hW' := hW
  obtain ⟨p, q, hA0, hV, rfl, hfz, hnd⟩ := hW
  have hA : DataW.TrodAll enc Try.prog W 0 (fun _ => true) true Try.f4.params.toList args.toList ds p := hA0
  rw [ps] at hA
  obtain ⟨v0, vs0, d0, ds0, p0, q0, hargs, rfl, rfl, h0, r0⟩ := trodAll_cons hA
  obtain ⟨v1, vs1, d1, ds1, p1, q1, rfl, rfl, rfl, h1, r1⟩ := trodAll_cons r0
  obtain ⟨rfl, rfl, rfl⟩ := trodAll_nil r1
  obtain rfl : args = #[v0, v1] := by cases args; simp_all
  obtain ⟨rfl, rfl⟩ := trodVars_none hV
  obtain ⟨a1, rfl, rfl, rfl, w1⟩ := open_int tyInt (hval 1 3 v1 rfl rfl) h1
  letI : Syms := noSyms
  obtain ⟨c, hv, hfit⟩ := rd_arg (l := [(0, 22), (1, 3)]) (by kernel_rfl) rdCnf h0 (hval 0 24 v0 rfl rfl)
  refine (walk (b := a1) hfit.1.1 hv).mono fun e W' ⟨he, hg⟩ => ?_
  subst he
  exact ⟨_, rfl, post_law kids full hW' small rfl (by kernel_rfl) tyBool rfl rfl rfl hg⟩

theorem over : Rows.confAboveRow.holds Try.pinned (OpenSpec.ofChange Rows.confAboveSpec) :=
  OpenClaim.holds_of_wide 4 Try.f4 rfl rfl rfl rfl rfl rfl rfl ⟨rfl, rfl, rfl, rfl, rfl⟩ rfl rfl rfl rfl rfl (by kernel_rfl) Try.func4 (by kernel_rfl)
    (of_decide_eq_true (by kernel_rfl)) (by unfold Func.isWrapper; first | (rw [if_pos (by decide +kernel)]; kernel_rfl) | (rw [if_neg (by decide +kernel)]; exact ⟨rfl, rfl⟩))
    (fun os started H enc _ => lifted os started H enc)

theorem proved : Rows.ConfAboveSaid :=
  over
#print axioms proved
end Go.Proofs.Ytjihnbjdclobgaa.confAbove
