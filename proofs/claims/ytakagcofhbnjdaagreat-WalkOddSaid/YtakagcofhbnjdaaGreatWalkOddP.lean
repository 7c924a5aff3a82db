/- The law is run by an abstract machine that is proved sound for the program: it answers true, and all that was there is as it was. Conditions: none. -/
import Derived.Test.YtakagcofhbnjdaaGreatRows
import Derived.WalkKit
import Derived.ProofKit
import Derived.OpenShut
import Derived.ShutString
import Derived.Test.YtakagcofhbnjdaaGreatWalkOddC
import Derived.Test.YtakagcofhbnjdaaGreatWalkOddM0
import Derived.Test.YtakagcofhbnjdaaGreatWalkOddM1
import Derived.Test.YtakagcofhbnjdaaGreatWalkOddM2
namespace Go.Proofs.YtakagcofhbnjdaaGreat.walkOdd
open Go.ChangeShapes Go.WideShapes Go.ChangeAt Go.RowKit
open Go.ChangeMaps (open_string shut_string)
set_option linter.unusedVariables false      -- a walk need not use every 'w<i>' (that an integer argument fits its kind)

theorem own : ownKnob Tryz.prog.godebug = none := by kernel_rfl

open VS
theorem prims [Syms] : PrimOK Tryz.prog cfg := prim_ran tyok fnok prims2 Tryz.checked.mixed (ranOK_cons ran0_ok (ranOK_cons ran1_ok (ranOK_cons ran2_ok ranOK_nil))) rfl

theorem one [Syms] {w : World} {args : List AV} {cargs : Array Value} (h : isTrue (acallK tabs cfg 300 3 args [] [] 0) = true) (hc : CR (fun _ => True) w.heap noMap args cargs 0) (hsz : cargs.size = args.length) : Calls Tryz.prog 3 cargs w fun e w' => e = .returned (.bool true) ∧ Kept w w' :=
  law_true tyok fnok prims Tryz.checked.mixed h hc hsz (enters _ w)

theorem run0 : isTrue (acallK tabs cfg 300 3 [.rng 0 .i64 (-9223372036854775808) (-1)] [] [] 0) = true := by kernel_rfl
theorem run1 : isTrue (acallK tabs cfg 300 3 [.int .i64 0] [] [] 0) = true := by kernel_rfl
theorem run2 : isTrue (acallK tabs cfg 300 3 [.int .i64 1] [] [] 0) = true := by kernel_rfl
theorem run3 : isTrue (acallK tabs cfg 300 3 [.int .i64 2] [] [] 0) = true := by kernel_rfl
theorem run4 : isTrue (acallK tabs cfg 300 3 [.int .i64 3] [] [] 0) = true := by kernel_rfl
theorem run5 : isTrue (acallK tabs cfg 300 3 [.int .i64 4] [] [] 0) = true := by kernel_rfl
theorem run6 : isTrue (acallK tabs cfg 300 3 [.int .i64 5] [] [] 0) = true := by kernel_rfl
theorem run7 : isTrue (acallK tabs cfg 300 3 [.int .i64 6] [] [] 0) = true := by kernel_rfl
theorem run8 : isTrue (acallK tabs cfg 300 3 [.int .i64 7] [] [] 0) = true := by kernel_rfl
theorem run9 : isTrue (acallK tabs cfg 300 3 [.rng 0 .i64 (8) (9223372036854775807)] [] [] 0) = true := by kernel_rfl
theorem walk (a0 : Int) (w0 : (Lit.int .i64 a0).wf = true) (w : World) :
    Calls Tryz.prog 3 #[.int .i64 a0] w fun e w' => e = .returned (.bool true) ∧ Kept w w' := by
  have hb0 : -9223372036854775808 ≤ a0 ∧ a0 ≤ 9223372036854775807 := by
    simp only [Lit.wf, Bool.and_eq_true, decide_eq_true_eq] at w0
    exact w0
  letI : Syms := theSyms [a0] [[]]
  rcases (by omega : (-9223372036854775808 ≤ a0 ∧ a0 ≤ -1) ∨ a0 = 0 ∨ a0 = 1 ∨ a0 = 2 ∨ a0 = 3 ∨ a0 = 4 ∨ a0 = 5 ∨ a0 = 6 ∨ a0 = 7 ∨ (8 ≤ a0 ∧ a0 ≤ 9223372036854775807)) with h0 | h0 | h0 | h0 | h0 | h0 | h0 | h0 | h0 | h0
  · have hr0 := h0
    exact one run0 (cr_cons rfl (.rng _ _ _ _ _ rfl (by omega) (by omega)) cr_nil) rfl
  · subst h0
    exact one run1 (cr_cons rfl (.int _ _) cr_nil) rfl
  · subst h0
    exact one run2 (cr_cons rfl (.int _ _) cr_nil) rfl
  · subst h0
    exact one run3 (cr_cons rfl (.int _ _) cr_nil) rfl
  · subst h0
    exact one run4 (cr_cons rfl (.int _ _) cr_nil) rfl
  · subst h0
    exact one run5 (cr_cons rfl (.int _ _) cr_nil) rfl
  · subst h0
    exact one run6 (cr_cons rfl (.int _ _) cr_nil) rfl
  · subst h0
    exact one run7 (cr_cons rfl (.int _ _) cr_nil) rfl
  · subst h0
    exact one run8 (cr_cons rfl (.int _ _) cr_nil) rfl
  · have hr0 := h0
    exact one run9 (cr_cons rfl (.rng _ _ _ _ _ rfl (by omega) (by omega)) cr_nil) rfl

set_option maxRecDepth 100000 in
theorem lifted (os : Os) (started : os.Started) (H : Type) (enc : TypeId × Value → H) :
    ReturnsInHanded {} Tryz.checked os 3 .any (Rows.walkOddSpec.pre6 enc Tryz.prog Tryz.f3 Rows.walkOddRow.domain false) (Rows.walkOddSpec.post enc Tryz.prog Tryz.f3 false true false false) := by
  refine returnsInHanded_of_change (C := Tryz.checked) own started (by kernel_rfl) Tryz.func3
    (ChangeSpec.witness6 (enc := enc) (C := Tryz.checked) false ⟨#[], #[.int .i64 0], []⟩ 8 (by kernel_rfl) (by kernel_rfl) (by kernel_rfl) (by kernel_rfl)) ?_
  intro W base args ds gs before hval0 hW hcnd _
  have hval : ∀ (j : Nat) t v, Tryz.f3.params[j]? = some t → args[j]? = some v → Value.okWide Tryz.prog W .any base t v := hval0
  have hW' := hW
  obtain ⟨p, q, hA0, hV, rfl, hfz, hnd⟩ := hW
  have hA : DataW.TrodAll enc Tryz.prog W 0 (fun _ => true) true Tryz.f3.params.toList args.toList ds p := hA0
  rw [Tryz.params3] at hA hval
  obtain ⟨v0, vs0, d0, ds0, p0, q0, hargs, rfl, rfl, h0, r0⟩ := trodAll_cons hA
  obtain ⟨rfl, rfl, rfl⟩ := trodAll_nil r0
  obtain rfl : args = #[v0] := by cases args; simp_all
  obtain ⟨rfl, rfl⟩ := trodVars_none hV
  obtain ⟨a0, rfl, rfl, rfl, w0⟩ := open_int Tryz.underlying3 (hval 0 3 v0 rfl rfl) h0
  clear hA0 hval0
  simp only [List.append_nil] at hW'
  refine (walk a0 w0 W).mono fun e W' ⟨he, hg⟩ => ?_
  subst he
  exact ⟨_, rfl, post_kept (pa := []) (pv := []) hW' (fun _ _ _ => (trodAll_cons_mk (shut_bool Tryz.underlying4 _) trodAll_mk0)) (fun sp _ => (trodAll_cons_mk (shut_int Tryz.underlying3 w0) trodAll_mk0)) (fun _ _ => rfl) rfl
    hg (ok_one (by kernel_rfl) rfl (okWide_bool_mk Tryz.underlying4 _))⟩

theorem over : Rows.walkOddRow.holds Tryz.pinned (OpenSpec.ofChange Rows.walkOddSpec) :=
  OpenClaim.holds_of_wide 3 Tryz.f3 rfl rfl rfl rfl rfl rfl rfl ⟨rfl, rfl, rfl, rfl, rfl⟩ rfl rfl rfl rfl rfl (by kernel_rfl) Tryz.func3 (by kernel_rfl)
    (of_decide_eq_true (by kernel_rfl)) (by unfold Func.isWrapper; first | (rw [if_pos (by decide +kernel)]; kernel_rfl) | (rw [if_neg (by decide +kernel)]; exact ⟨rfl, rfl⟩))
    (fun os started H enc _ => lifted os started H enc)

theorem proved : Rows.WalkOddSaid :=
  over
#print axioms proved
end Go.Proofs.YtakagcofhbnjdaaGreat.walkOdd
