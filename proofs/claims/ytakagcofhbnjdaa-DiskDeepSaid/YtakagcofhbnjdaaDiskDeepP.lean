/- The law is run by an abstract machine that is proved sound for the program: it answers true, and all that was there is as it was. Conditions: none. -/
import Derived.Test.YtakagcofhbnjdaaRows
import Derived.WalkKit
import Derived.ProofKit
import Derived.OpenShut
import Derived.ShutString
import Derived.Test.YtakagcofhbnjdaaDiskDeepC
import Derived.Test.YtakagcofhbnjdaaDiskDeepM0
import Derived.Test.YtakagcofhbnjdaaDiskDeepM1
import Derived.Test.YtakagcofhbnjdaaDiskDeepR0
import Derived.Test.YtakagcofhbnjdaaDiskDeepR1
import Derived.Test.YtakagcofhbnjdaaDiskDeepR2
namespace Go.Proofs.Ytakagcofhbnjdaa.diskDeep
open Go.ChangeShapes Go.WideShapes Go.ChangeAt Go.RowKit
open Go.ChangeMaps (open_string shut_string)
set_option linter.unusedVariables false      -- a walk need not use every 'w<i>' (that an integer argument fits its kind)

theorem own : ownKnob Try.prog.godebug = none := by kernel_rfl

open VS
theorem prims [Syms] : PrimOK Try.prog cfg := prim_ran tyok fnok prims2 Try.checked.mixed (ranOK_cons ran0_ok (ranOK_cons ran1_ok (ranOK_cons ran2_ok (ranOK_cons ran3_ok (ranOK_cons ran4_ok (ranOK_cons ran5_ok (ranOK_cons ran6_ok (ranOK_cons ran7_ok (ranOK_cons ran8_ok (ranOK_cons ran9_ok (ranOK_cons ran10_ok (ranOK_cons ran11_ok (ranOK_cons ran12_ok (ranOK_cons ran13_ok (ranOK_cons ran14_ok (ranOK_cons ran15_ok (ranOK_cons ran16_ok (ranOK_cons ran17_ok (ranOK_cons ran18_ok (ranOK_cons ran19_ok (ranOK_cons ran20_ok (ranOK_cons ran21_ok (ranOK_cons ran22_ok (ranOK_cons ran23_ok (ranOK_cons ran24_ok (ranOK_cons ran25_ok (ranOK_cons ran26_ok (ranOK_cons ran27_ok (ranOK_cons ran28_ok (ranOK_cons ran29_ok (ranOK_cons ran30_ok (ranOK_cons ran31_ok (ranOK_cons ran32_ok (ranOK_cons ran33_ok (ranOK_cons ran34_ok (ranOK_cons ran35_ok (ranOK_cons ran36_ok (ranOK_cons ran37_ok (ranOK_cons ran38_ok (ranOK_cons ran39_ok (ranOK_cons ran40_ok (ranOK_cons ran41_ok (ranOK_cons ran42_ok (ranOK_cons ran43_ok (ranOK_cons ran44_ok (ranOK_cons ran45_ok (ranOK_cons ran46_ok (ranOK_cons ran47_ok (ranOK_cons ran48_ok (ranOK_cons ran49_ok (ranOK_cons ran50_ok (ranOK_cons ran51_ok (ranOK_cons ran52_ok (ranOK_cons ran53_ok (ranOK_cons ran54_ok (ranOK_cons ran55_ok (ranOK_cons ran56_ok (ranOK_cons ran57_ok (ranOK_cons ran58_ok (ranOK_cons ran59_ok (ranOK_cons ran60_ok ranOK_nil))))))))))))))))))))))))))))))))))))))))))))))))))))))))))))) rfl

theorem one [Syms] {w : World} {args : List AV} {cargs : Array Value} (h : isTrue (acallK tabs cfg 100 5 args [] [] 0) = true) (hc : CR (fun _ => True) w.heap noMap args cargs 0) (hsz : cargs.size = args.length) : Calls Try.prog 5 cargs w fun e w' => e = .returned (.bool true) ∧ Kept w w' :=
  law_true tyok fnok prims Try.checked.mixed h hc hsz (enters _ w)

theorem walk (a0 : Int) (a1 : Bool) (w0 : (Lit.int .i64 a0).wf = true) (w : World) :
    Calls Try.prog 5 #[.int .i64 a0, .bool a1] w fun e w' => e = .returned (.bool true) ∧ Kept w w' := by
  have hb0 : -9223372036854775808 ≤ a0 ∧ a0 ≤ 9223372036854775807 := by
    simp only [Lit.wf, Bool.and_eq_true, decide_eq_true_eq] at w0
    exact w0
  letI : Syms := theSyms [a0, 0] [[], []]
  rcases (by omega : (-9223372036854775808 ≤ a0 ∧ a0 ≤ -1) ∨ a0 = 0 ∨ a0 = 1 ∨ a0 = 2 ∨ a0 = 3 ∨ a0 = 4 ∨ a0 = 5 ∨ a0 = 6 ∨ a0 = 7 ∨ a0 = 8 ∨ a0 = 9 ∨ a0 = 10 ∨ a0 = 11 ∨ a0 = 12 ∨ a0 = 13 ∨ a0 = 14 ∨ a0 = 15 ∨ a0 = 16 ∨ a0 = 17 ∨ a0 = 18 ∨ a0 = 19 ∨ a0 = 20 ∨ (21 ≤ a0 ∧ a0 ≤ 9223372036854775807)) with h0 | h0 | h0 | h0 | h0 | h0 | h0 | h0 | h0 | h0 | h0 | h0 | h0 | h0 | h0 | h0 | h0 | h0 | h0 | h0 | h0 | h0 | h0
  · have hr0 := h0
    cases a1 with
    | true =>
      exact one run0 (cr_cons rfl (.rng _ _ _ _ _ rfl (by omega) (by omega)) (cr_cons rfl .dead cr_nil)) rfl
    | false =>
      exact one run0 (cr_cons rfl (.rng _ _ _ _ _ rfl (by omega) (by omega)) (cr_cons rfl .dead cr_nil)) rfl
  · subst h0
    cases a1 with
    | true =>
      exact one run1 (cr_cons rfl (.int _ _) (cr_cons rfl (.bool _) cr_nil)) rfl
    | false =>
      exact one run2 (cr_cons rfl (.int _ _) (cr_cons rfl (.bool _) cr_nil)) rfl
  · subst h0
    cases a1 with
    | true =>
      exact one run3 (cr_cons rfl (.int _ _) (cr_cons rfl (.bool _) cr_nil)) rfl
    | false =>
      exact one run4 (cr_cons rfl (.int _ _) (cr_cons rfl (.bool _) cr_nil)) rfl
  · subst h0
    cases a1 with
    | true =>
      exact one run5 (cr_cons rfl (.int _ _) (cr_cons rfl (.bool _) cr_nil)) rfl
    | false =>
      exact one run6 (cr_cons rfl (.int _ _) (cr_cons rfl (.bool _) cr_nil)) rfl
  · subst h0
    cases a1 with
    | true =>
      exact one run7 (cr_cons rfl (.int _ _) (cr_cons rfl (.bool _) cr_nil)) rfl
    | false =>
      exact one run8 (cr_cons rfl (.int _ _) (cr_cons rfl (.bool _) cr_nil)) rfl
  · subst h0
    cases a1 with
    | true =>
      exact one run9 (cr_cons rfl (.int _ _) (cr_cons rfl (.bool _) cr_nil)) rfl
    | false =>
      exact one run10 (cr_cons rfl (.int _ _) (cr_cons rfl (.bool _) cr_nil)) rfl
  · subst h0
    cases a1 with
    | true =>
      exact one run11 (cr_cons rfl (.int _ _) (cr_cons rfl (.bool _) cr_nil)) rfl
    | false =>
      exact one run12 (cr_cons rfl (.int _ _) (cr_cons rfl (.bool _) cr_nil)) rfl
  · subst h0
    cases a1 with
    | true =>
      exact one run13 (cr_cons rfl (.int _ _) (cr_cons rfl (.bool _) cr_nil)) rfl
    | false =>
      exact one run14 (cr_cons rfl (.int _ _) (cr_cons rfl (.bool _) cr_nil)) rfl
  · subst h0
    cases a1 with
    | true =>
      exact one run15 (cr_cons rfl (.int _ _) (cr_cons rfl (.bool _) cr_nil)) rfl
    | false =>
      exact one run16 (cr_cons rfl (.int _ _) (cr_cons rfl (.bool _) cr_nil)) rfl
  · subst h0
    cases a1 with
    | true =>
      exact one run17 (cr_cons rfl (.int _ _) (cr_cons rfl (.bool _) cr_nil)) rfl
    | false =>
      exact one run18 (cr_cons rfl (.int _ _) (cr_cons rfl (.bool _) cr_nil)) rfl
  · subst h0
    cases a1 with
    | true =>
      exact one run19 (cr_cons rfl (.int _ _) (cr_cons rfl (.bool _) cr_nil)) rfl
    | false =>
      exact one run20 (cr_cons rfl (.int _ _) (cr_cons rfl (.bool _) cr_nil)) rfl
  · subst h0
    cases a1 with
    | true =>
      exact one run21 (cr_cons rfl (.int _ _) (cr_cons rfl (.bool _) cr_nil)) rfl
    | false =>
      exact one run22 (cr_cons rfl (.int _ _) (cr_cons rfl (.bool _) cr_nil)) rfl
  · subst h0
    cases a1 with
    | true =>
      exact one run23 (cr_cons rfl (.int _ _) (cr_cons rfl (.bool _) cr_nil)) rfl
    | false =>
      exact one run24 (cr_cons rfl (.int _ _) (cr_cons rfl (.bool _) cr_nil)) rfl
  · subst h0
    cases a1 with
    | true =>
      exact one run25 (cr_cons rfl (.int _ _) (cr_cons rfl (.bool _) cr_nil)) rfl
    | false =>
      exact one run26 (cr_cons rfl (.int _ _) (cr_cons rfl (.bool _) cr_nil)) rfl
  · subst h0
    cases a1 with
    | true =>
      exact one run27 (cr_cons rfl (.int _ _) (cr_cons rfl (.bool _) cr_nil)) rfl
    | false =>
      exact one run28 (cr_cons rfl (.int _ _) (cr_cons rfl (.bool _) cr_nil)) rfl
  · subst h0
    cases a1 with
    | true =>
      exact one run29 (cr_cons rfl (.int _ _) (cr_cons rfl (.bool _) cr_nil)) rfl
    | false =>
      exact one run30 (cr_cons rfl (.int _ _) (cr_cons rfl (.bool _) cr_nil)) rfl
  · subst h0
    cases a1 with
    | true =>
      exact one run31 (cr_cons rfl (.int _ _) (cr_cons rfl (.bool _) cr_nil)) rfl
    | false =>
      exact one run32 (cr_cons rfl (.int _ _) (cr_cons rfl (.bool _) cr_nil)) rfl
  · subst h0
    cases a1 with
    | true =>
      exact one run33 (cr_cons rfl (.int _ _) (cr_cons rfl (.bool _) cr_nil)) rfl
    | false =>
      exact one run34 (cr_cons rfl (.int _ _) (cr_cons rfl (.bool _) cr_nil)) rfl
  · subst h0
    cases a1 with
    | true =>
      exact one run35 (cr_cons rfl (.int _ _) (cr_cons rfl (.bool _) cr_nil)) rfl
    | false =>
      exact one run36 (cr_cons rfl (.int _ _) (cr_cons rfl (.bool _) cr_nil)) rfl
  · subst h0
    cases a1 with
    | true =>
      exact one run37 (cr_cons rfl (.int _ _) (cr_cons rfl (.bool _) cr_nil)) rfl
    | false =>
      exact one run38 (cr_cons rfl (.int _ _) (cr_cons rfl (.bool _) cr_nil)) rfl
  · subst h0
    cases a1 with
    | true =>
      exact one run39 (cr_cons rfl (.int _ _) (cr_cons rfl (.bool _) cr_nil)) rfl
    | false =>
      exact one run40 (cr_cons rfl (.int _ _) (cr_cons rfl (.bool _) cr_nil)) rfl
  · subst h0
    cases a1 with
    | true =>
      exact one run41 (cr_cons rfl (.int _ _) (cr_cons rfl (.bool _) cr_nil)) rfl
    | false =>
      exact one run42 (cr_cons rfl (.int _ _) (cr_cons rfl (.bool _) cr_nil)) rfl
  · have hr0 := h0
    cases a1 with
    | true =>
      exact one run43 (cr_cons rfl (.rng _ _ _ _ _ rfl (by omega) (by omega)) (cr_cons rfl .dead cr_nil)) rfl
    | false =>
      exact one run43 (cr_cons rfl (.rng _ _ _ _ _ rfl (by omega) (by omega)) (cr_cons rfl .dead cr_nil)) rfl

set_option maxRecDepth 100000 in
theorem lifted (os : Os) (started : os.Started) (H : Type) (enc : TypeId × Value → H) :
    ReturnsInHanded {} Try.checked os 5 .any (Rows.diskDeepSpec.pre6 enc Try.prog Try.f5 Rows.diskDeepRow.domain false) (Rows.diskDeepSpec.post enc Try.prog Try.f5 false true false false) := by
  refine returnsInHanded_of_change (C := Try.checked) own started (by kernel_rfl) Try.func5
    (ChangeSpec.witness6 (enc := enc) (C := Try.checked) false ⟨#[], #[.int .i64 0, .bool false], []⟩ 8 (by kernel_rfl) (by kernel_rfl) (by kernel_rfl) (by kernel_rfl)) ?_
  intro W base args ds gs before hval0 hW hcnd _
  have hval : ∀ (j : Nat) t v, Try.f5.params[j]? = some t → args[j]? = some v → Value.okWide Try.prog W .any base t v := hval0
  have hW' := hW
  obtain ⟨p, q, hA0, hV, rfl, hfz, hnd⟩ := hW
  have hA : DataW.TrodAll enc Try.prog W 0 (fun _ => true) true Try.f5.params.toList args.toList ds p := hA0
  rw [Try.params5] at hA hval
  obtain ⟨v0, vs0, d0, ds0, p0, q0, hargs, rfl, rfl, h0, r0⟩ := trodAll_cons hA
  obtain ⟨v1, vs1, d1, ds1, p1, q1, rfl, rfl, rfl, h1, r1⟩ := trodAll_cons r0
  obtain ⟨rfl, rfl, rfl⟩ := trodAll_nil r1
  obtain rfl : args = #[v0, v1] := by cases args; simp_all
  obtain ⟨rfl, rfl⟩ := trodVars_none hV
  obtain ⟨a0, rfl, rfl, rfl, w0⟩ := open_int Try.underlying3 (hval 0 3 v0 rfl rfl) h0
  obtain ⟨a1, rfl, rfl, rfl⟩ := open_bool Try.underlying4 (hval 1 4 v1 rfl rfl) h1
  clear hA0 hval0
  simp only [List.append_nil] at hW'
  refine (walk a0 a1 w0 W).mono fun e W' ⟨he, hg⟩ => ?_
  subst he
  exact ⟨_, rfl, post_kept (pa := []) (pv := []) hW' (fun _ _ _ => (trodAll_cons_mk (shut_bool Try.underlying4 _) trodAll_mk0)) (fun sp _ => (trodAll_cons_mk (shut_int Try.underlying3 w0) (trodAll_cons_mk (shut_bool Try.underlying4 _) trodAll_mk0))) (fun _ _ => rfl) rfl
    hg (ok_one (by kernel_rfl) rfl (okWide_bool_mk Try.underlying4 _))⟩

theorem over : Rows.diskDeepRow.holds Try.pinned (OpenSpec.ofChange Rows.diskDeepSpec) :=
  OpenClaim.holds_of_wide 5 Try.f5 rfl rfl rfl rfl rfl rfl rfl ⟨rfl, rfl, rfl, rfl, rfl⟩ rfl rfl rfl rfl rfl (by kernel_rfl) Try.func5 (by kernel_rfl)
    (of_decide_eq_true (by kernel_rfl)) (by unfold Func.isWrapper; first | (rw [if_pos (by decide +kernel)]; kernel_rfl) | (rw [if_neg (by decide +kernel)]; exact ⟨rfl, rfl⟩))
    (fun os started H enc _ => lifted os started H enc)

theorem proved : Rows.DiskDeepSaid :=
  over
#print axioms proved
end Go.Proofs.Ytakagcofhbnjdaa.diskDeep
