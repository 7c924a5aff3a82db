/- The law is run by an abstract machine that is proved sound for the program: it answers true, and all that was there is as it was. Conditions: none. -/
import Derived.Test.YtjihnbjdclobgaaRows
import Derived.WalkKit
import Derived.ProofKit
import Derived.OpenShut
import Derived.ShutString
import Derived.Test.YtjihnbjdclobgaaVS29
import Derived.Test.YtjihnbjdclobgaaVSTabs
namespace Go.Proofs.Ytjihnbjdclobgaa.findOdd
open Go.ChangeShapes Go.WideShapes Go.ChangeAt Go.RowKit
open Go.ChangeMaps (open_string shut_string)
set_option linter.unusedVariables false      -- a walk need not use every 'w<i>' (that an integer argument fits its kind)

theorem own : ownKnob Try.prog.godebug = none := by kernel_rfl

open VS

def bare : Cfg := { prim := fun _ => none, keep := fun f => isIn f [118, 27, 71, 75, 76, 92, 95, 96], exact := fun _ => false }
def cfg : Cfg := { bare with prim := emptyOf [118, 76, 96] }

theorem enters (args : Array Value) (w : World) : (callFunc 7 args).run Try.prog w = .ok (.enter 7 args) w := run_callFunc Try.func7 rfl (by kernel_rfl) args w

theorem tyok : TyOK Try.prog tabs := tyOK_of tabs_ty
theorem fnok : FnOK Try.prog tabs := fnOK_of tabs_fn
theorem prims : PrimOK Try.prog cfg := prim_empty (cfg' := bare) (N := 8) (l := [118, 76, 96]) tyok fnok (fun _ _ h => nomatch h) Try.checked.mixed (by kernel_rfl) rfl

theorem one (w : World) (n : Int) (h : isTrue (acallK tabs cfg 60 7 [.int .i64 n] [] [] 0) = true) : Calls Try.prog 7 #[.int .i64 n] w fun e w' => e = .returned (.bool true) ∧ Kept w w' :=
  law_true tyok fnok prims Try.checked.mixed h (cr_int .i64 n) rfl (enters _ w)

theorem span (w : World) (lo hi n : Int) (h1 : lo ≤ n) (h2 : n ≤ hi) (h : isTrue (acallK tabs cfg 60 7 [.rng .i64 lo hi] [] [] 0) = true) : Calls Try.prog 7 #[.int .i64 n] w fun e w' => e = .returned (.bool true) ∧ Kept w w' :=
  law_true tyok fnok prims Try.checked.mixed h (cr_rng .i64 h1 h2) rfl (enters _ w)

theorem at0 : isTrue (acallK tabs cfg 60 7 [.int .i64 0] [] [] 0) = true := by kernel_rfl
theorem at1 : isTrue (acallK tabs cfg 60 7 [.int .i64 1] [] [] 0) = true := by kernel_rfl
theorem at2 : isTrue (acallK tabs cfg 60 7 [.int .i64 2] [] [] 0) = true := by kernel_rfl
theorem at3 : isTrue (acallK tabs cfg 60 7 [.int .i64 3] [] [] 0) = true := by kernel_rfl
theorem at4 : isTrue (acallK tabs cfg 60 7 [.int .i64 4] [] [] 0) = true := by kernel_rfl
theorem at5 : isTrue (acallK tabs cfg 60 7 [.int .i64 5] [] [] 0) = true := by kernel_rfl
theorem at6 : isTrue (acallK tabs cfg 60 7 [.int .i64 6] [] [] 0) = true := by kernel_rfl
theorem at7 : isTrue (acallK tabs cfg 60 7 [.int .i64 7] [] [] 0) = true := by kernel_rfl
theorem below : isTrue (acallK tabs cfg 60 7 [.rng .i64 (-9223372036854775808) (-1)] [] [] 0) = true := by kernel_rfl
theorem above : isTrue (acallK tabs cfg 60 7 [.rng .i64 8 9223372036854775807] [] [] 0) = true := by kernel_rfl

theorem walk (a0 : Int) (w0 : (Lit.int .i64 a0).wf = true) (w : World) :
    Calls Try.prog 7 #[.int .i64 a0] w fun e w' => e = .returned (.bool true) ∧ Kept w w' := by
  have hb : -9223372036854775808 ≤ a0 ∧ a0 ≤ 9223372036854775807 := by
    simp only [Lit.wf, Bool.and_eq_true, decide_eq_true_eq] at w0
    exact w0
  rcases (by omega : a0 ≤ -1 ∨ a0 = 0 ∨ a0 = 1 ∨ a0 = 2 ∨ a0 = 3 ∨ a0 = 4 ∨ a0 = 5 ∨ a0 = 6 ∨ a0 = 7 ∨ 8 ≤ a0) with h | h | h | h | h | h | h | h | h | h
  · exact span w _ _ a0 hb.1 h below
  · subst h; exact one w 0 at0
  · subst h; exact one w 1 at1
  · subst h; exact one w 2 at2
  · subst h; exact one w 3 at3
  · subst h; exact one w 4 at4
  · subst h; exact one w 5 at5
  · subst h; exact one w 6 at6
  · subst h; exact one w 7 at7
  · exact span w _ _ a0 h hb.2 above

set_option maxRecDepth 100000 in
theorem lifted (os : Os) (started : os.Started) (H : Type) (enc : TypeId × Value → H) :
    ReturnsInHanded {} Try.checked os 7 .any (Rows.findOddSpec.pre6 enc Try.prog Try.f7 Rows.findOddRow.domain false) (Rows.findOddSpec.post enc Try.prog Try.f7 false true false false) := by
  refine returnsInHanded_of_change (C := Try.checked) own started (by kernel_rfl) Try.func7
    (ChangeSpec.witness6 (enc := enc) (C := Try.checked) false ⟨#[], #[.int .i64 0], []⟩ 8 (by kernel_rfl) (by kernel_rfl) (by kernel_rfl) (by kernel_rfl)) ?_
  intro W base args ds gs before hval0 hW hcnd _
  have hval : ∀ (j : Nat) t v, Try.f7.params[j]? = some t → args[j]? = some v → Value.okWide Try.prog W .any base t v := hval0
  have hW' := hW
  obtain ⟨p, q, hA0, hV, rfl, hfz, hnd⟩ := hW
  have hA : DataW.TrodAll enc Try.prog W 0 (fun _ => true) true Try.f7.params.toList args.toList ds p := hA0
  rw [Try.params7] at hA hval
  obtain ⟨v0, vs0, d0, ds0, p0, q0, hargs, rfl, rfl, h0, r0⟩ := trodAll_cons hA
  obtain ⟨rfl, rfl, rfl⟩ := trodAll_nil r0
  obtain rfl : args = #[v0] := by cases args; simp_all
  obtain ⟨rfl, rfl⟩ := trodVars_none hV
  obtain ⟨a0, rfl, rfl, rfl, w0⟩ := open_int Try.underlying3 (hval 0 3 v0 rfl rfl) h0
  clear hA0 hval0
  simp only [List.append_nil] at hW'
  refine (walk a0 w0 W).mono fun e W' ⟨he, hg⟩ => ?_
  subst he
  exact ⟨_, rfl, post_kept (pa := []) (pv := []) hW' (fun _ _ _ => (trodAll_cons_mk (shut_bool Try.underlying4 _) trodAll_mk0)) (fun sp _ => (trodAll_cons_mk (shut_int Try.underlying3 w0) trodAll_mk0)) (fun _ _ => rfl) rfl
    hg (ok_one (by kernel_rfl) rfl (okWide_bool_mk Try.underlying4 _))⟩

theorem over : Rows.findOddRow.holds Try.pinned (OpenSpec.ofChange Rows.findOddSpec) :=
  OpenClaim.holds_of_wide 7 Try.f7 rfl rfl rfl rfl rfl rfl rfl ⟨rfl, rfl, rfl, rfl, rfl⟩ rfl rfl rfl rfl rfl (by kernel_rfl) Try.func7 (by kernel_rfl)
    (of_decide_eq_true (by kernel_rfl)) (by unfold Func.isWrapper; first | (rw [if_pos (by decide +kernel)]; kernel_rfl) | (rw [if_neg (by decide +kernel)]; exact ⟨rfl, rfl⟩))
    (fun os started H enc _ => lifted os started H enc)

theorem proved : Rows.FindOddSaid :=
  over
#print axioms proved
end Go.Proofs.Ytjihnbjdclobgaa.findOdd
