/- The law is run by an abstract machine that is proved sound for the program: it answers true, and all that was there is as it was. Conditions: none. -/
import Derived.Test.YtopkeglpafdlfaaGreatRows
import Derived.WalkKit
import Derived.ProofKit
import Derived.OpenShut
import Derived.ShutString
import Derived.Test.YtopkeglpafdlfaaGreatUpStubC
import Derived.Test.YtopkeglpafdlfaaGreatUpStubM0
import Derived.Test.YtopkeglpafdlfaaGreatUpStubM1
import Derived.Test.YtopkeglpafdlfaaGreatUpStubM2
import Derived.Test.YtopkeglpafdlfaaGreatUpStubM3
import Derived.Test.YtopkeglpafdlfaaGreatUpStubM4
import Derived.Test.YtopkeglpafdlfaaGreatUpStubM5
import Derived.Test.YtopkeglpafdlfaaGreatUpStubR0
import Derived.Test.YtopkeglpafdlfaaGreatUpStubR1
namespace Go.Proofs.YtopkeglpafdlfaaGreat.upStub
open Go.ChangeShapes Go.WideShapes Go.ChangeAt Go.RowKit
open Go.ChangeMaps (open_string shut_string)
set_option linter.unusedVariables false      -- a walk need not use every 'w<i>' (that an integer argument fits its kind)

theorem own : ownKnob Tryz.prog.godebug = none := by kernel_rfl

open VS
theorem primsL0 [Syms] : PrimOK Tryz.prog cfgL0 := prim_ran (cfg := cfgL0) (cfg' := cfg2) tyok fnok prims2 Tryz.checked.mixed (ranOK_cons ran0_ok (ranOK_cons ran1_ok (ranOK_cons ran2_ok (ranOK_cons ran3_ok (ranOK_cons ran4_ok (ranOK_cons ran5_ok (ranOK_cons ran6_ok (ranOK_cons ran7_ok (ranOK_cons ran8_ok (ranOK_cons ran9_ok (ranOK_cons ran10_ok (ranOK_cons ran11_ok (ranOK_cons ran12_ok (ranOK_cons ran13_ok (ranOK_cons ran14_ok (ranOK_cons ran15_ok (ranOK_cons ran16_ok (ranOK_cons ran17_ok (ranOK_cons ran18_ok (ranOK_cons ran19_ok (ranOK_cons ran20_ok (ranOK_cons ran21_ok (ranOK_cons ran22_ok (ranOK_cons ran23_ok (ranOK_cons ran24_ok (ranOK_cons ran25_ok (ranOK_cons ran26_ok (ranOK_cons ran27_ok (ranOK_cons ran28_ok (ranOK_cons ran29_ok (ranOK_cons ran30_ok ranOK_nil))))))))))))))))))))))))))))))) rfl
theorem primsL1 [Syms] : PrimOK Tryz.prog cfgL1 := prim_ran (cfg := cfgL1) (cfg' := cfgL0) tyok fnok primsL0 Tryz.checked.mixed (ranOK_cons ran31_ok (ranOK_cons ran32_ok (ranOK_cons ran33_ok (ranOK_cons ran34_ok (ranOK_cons ran35_ok (ranOK_cons ran36_ok (ranOK_cons ran37_ok (ranOK_cons ran38_ok (ranOK_cons ran39_ok (ranOK_cons ran40_ok (ranOK_cons ran41_ok (ranOK_cons ran42_ok (ranOK_cons ran43_ok (ranOK_cons ran44_ok (ranOK_cons ran45_ok (ranOK_cons ran46_ok (ranOK_cons ran47_ok (ranOK_cons ran48_ok (ranOK_cons ran49_ok (ranOK_cons ran50_ok ranOK_nil)))))))))))))))))))) rfl
theorem primsL2 [Syms] : PrimOK Tryz.prog cfgL2 := prim_ran (cfg := cfgL2) (cfg' := cfgL1) tyok fnok primsL1 Tryz.checked.mixed (ranOK_cons ran51_ok (ranOK_cons ran52_ok (ranOK_cons ran53_ok (ranOK_cons ran54_ok (ranOK_cons ran55_ok (ranOK_cons ran56_ok ranOK_nil)))))) rfl
theorem primsL3 [Syms] : PrimOK Tryz.prog cfgL3 := prim_ran (cfg := cfgL3) (cfg' := cfgL2) tyok fnok primsL2 Tryz.checked.mixed (ranOK_cons ran57_ok (ranOK_cons ran58_ok (ranOK_cons ran59_ok (ranOK_cons ran60_ok (ranOK_cons ran61_ok (ranOK_cons ran62_ok (ranOK_cons ran63_ok (ranOK_cons ran64_ok (ranOK_cons ran65_ok (ranOK_cons ran66_ok (ranOK_cons ran67_ok ranOK_nil))))))))))) rfl
theorem primsL4 [Syms] : PrimOK Tryz.prog cfgL4 := prim_ran (cfg := cfgL4) (cfg' := cfgL3) tyok fnok primsL3 Tryz.checked.mixed (ranOK_cons ran68_ok ranOK_nil) rfl
theorem prims [Syms] : PrimOK Tryz.prog cfg := primsL4

theorem one [Syms] {w : World} {args : List AV} {cargs : Array Value} (h : isTrue (acallK tabs cfg 400 3 args [] [] 0) = true) (hc : CR (fun _ => True) w.heap noMap args cargs 0) (hsz : cargs.size = args.length) : Calls Tryz.prog 3 cargs w fun e w' => e = .returned (.bool true) ∧ Kept w w' :=
  law_true tyok fnok prims Tryz.checked.mixed h hc hsz (enters _ w)

theorem walk (a0 : Int) (a1 : ByteArray) (w0 : (Lit.int .i64 a0).wf = true) (w1 : a1.size ≤ maxLen) (w : World) :
    Calls Tryz.prog 3 #[.int .i64 a0, .string a1] w fun e w' => e = .returned (.bool true) ∧ Kept w w' := by
  have hb0 : -9223372036854775808 ≤ a0 ∧ a0 ≤ 9223372036854775807 := by
    simp only [Lit.wf, Bool.and_eq_true, decide_eq_true_eq] at w0
    exact w0
  rcases (by omega : (-9223372036854775808 ≤ a0 ∧ a0 ≤ 1) ∨ a0 = 2 ∨ a0 = 3 ∨ (4 ≤ a0 ∧ a0 ≤ 9223372036854775807)) with h0 | h0 | h0 | h0
  · have hr0 := h0
    by_cases hs1 : a1.data.toList = [47, 102]
    · have hk1 := hs1
      letI : Syms := theSyms [a0, 0] [[], a1.data.toList]
      exact one run0 (cr_cons rfl (.rng _ _ _ _ _ rfl (by omega) (by omega)) (cr_cons rfl .dead cr_nil)) rfl
    have hn1_0 := hs1; clear hs1
    by_cases hs1 : a1.data.toList = [47, 115]
    · have hk1 := hs1
      letI : Syms := theSyms [a0, 0] [[], a1.data.toList]
      exact one run0 (cr_cons rfl (.rng _ _ _ _ _ rfl (by omega) (by omega)) (cr_cons rfl .dead cr_nil)) rfl
    have hn1_1 := hs1; clear hs1
    letI : Syms := theSyms [a0, 0] [[], a1.data.toList]
    exact one run0 (cr_cons rfl (.rng _ _ _ _ _ rfl (by omega) (by omega)) (cr_cons rfl .dead cr_nil)) rfl
  · subst h0
    by_cases hs1 : a1.data.toList = [47, 102]
    · have hk1 := hs1
      letI : Syms := theSyms [0, 0] [[], a1.data.toList]
      exact one run1 (cr_cons rfl (.int _ _) (cr_cons rfl (.str _ _ hs1) cr_nil)) rfl
    have hn1_0 := hs1; clear hs1
    by_cases hs1 : a1.data.toList = [47, 115]
    · have hk1 := hs1
      letI : Syms := theSyms [0, 0] [[], a1.data.toList]
      exact one run2 (cr_cons rfl (.int _ _) (cr_cons rfl (.str _ _ hs1) cr_nil)) rfl
    have hn1_1 := hs1; clear hs1
    letI : Syms := theSyms [0, 0] [[], a1.data.toList]
    exact one run3 (cr_cons rfl (.int _ _) (cr_cons rfl (.ustr _ _ _ rfl (by simp_all)) cr_nil)) rfl
  · subst h0
    by_cases hs1 : a1.data.toList = [47, 102]
    · have hk1 := hs1
      letI : Syms := theSyms [0, 0] [[], a1.data.toList]
      exact one run4 (cr_cons rfl (.int _ _) (cr_cons rfl (.str _ _ hs1) cr_nil)) rfl
    have hn1_0 := hs1; clear hs1
    by_cases hs1 : a1.data.toList = [47, 115]
    · have hk1 := hs1
      letI : Syms := theSyms [0, 0] [[], a1.data.toList]
      exact one run5 (cr_cons rfl (.int _ _) (cr_cons rfl (.str _ _ hs1) cr_nil)) rfl
    have hn1_1 := hs1; clear hs1
    letI : Syms := theSyms [0, 0] [[], a1.data.toList]
    exact one run6 (cr_cons rfl (.int _ _) (cr_cons rfl (.ustr _ _ _ rfl (by simp_all)) cr_nil)) rfl
  · have hr0 := h0
    by_cases hs1 : a1.data.toList = [47, 102]
    · have hk1 := hs1
      letI : Syms := theSyms [a0, 0] [[], a1.data.toList]
      exact one run7 (cr_cons rfl (.rng _ _ _ _ _ rfl (by omega) (by omega)) (cr_cons rfl .dead cr_nil)) rfl
    have hn1_0 := hs1; clear hs1
    by_cases hs1 : a1.data.toList = [47, 115]
    · have hk1 := hs1
      letI : Syms := theSyms [a0, 0] [[], a1.data.toList]
      exact one run7 (cr_cons rfl (.rng _ _ _ _ _ rfl (by omega) (by omega)) (cr_cons rfl .dead cr_nil)) rfl
    have hn1_1 := hs1; clear hs1
    letI : Syms := theSyms [a0, 0] [[], a1.data.toList]
    exact one run7 (cr_cons rfl (.rng _ _ _ _ _ rfl (by omega) (by omega)) (cr_cons rfl .dead cr_nil)) rfl

set_option maxRecDepth 100000 in
theorem lifted (os : Os) (started : os.Started) (H : Type) (enc : TypeId × Value → H) :
    ReturnsInHanded {} Tryz.checked os 3 .any (Rows.upStubSpec.pre6 enc Tryz.prog Tryz.f3 Rows.upStubRow.domain false) (Rows.upStubSpec.post enc Tryz.prog Tryz.f3 false true false false) := by
  refine returnsInHanded_of_change (C := Tryz.checked) own started (by kernel_rfl) Tryz.func3
    (ChangeSpec.witness6 (enc := enc) (C := Tryz.checked) false ⟨#[], #[.int .i64 0, .string ByteArray.empty], []⟩ 8 (by kernel_rfl) (by kernel_rfl) (by kernel_rfl) (by kernel_rfl)) ?_
  intro W base args ds gs before hval0 hW hcnd _
  have hval : ∀ (j : Nat) t v, Tryz.f3.params[j]? = some t → args[j]? = some v → Value.okWide Tryz.prog W .any base t v := hval0
  have hW' := hW
  obtain ⟨p, q, hA0, hV, rfl, hfz, hnd⟩ := hW
  have hA : DataW.TrodAll enc Tryz.prog W 0 (fun _ => true) true Tryz.f3.params.toList args.toList ds p := hA0
  rw [Tryz.params3] at hA hval
  obtain ⟨v0, vs0, d0, ds0, p0, q0, hargs, rfl, rfl, h0, r0⟩ := trodAll_cons hA
  obtain ⟨v1, vs1, d1, ds1, p1, q1, rfl, rfl, rfl, h1, r1⟩ := trodAll_cons r0
  obtain ⟨rfl, rfl, rfl⟩ := trodAll_nil r1
  obtain rfl : args = #[v0, v1] := by cases args; simp_all
  obtain ⟨rfl, rfl⟩ := trodVars_none hV
  obtain ⟨a0, rfl, rfl, rfl, w0⟩ := open_int Tryz.underlying3 (hval 0 3 v0 rfl rfl) h0
  obtain ⟨a1, rfl, rfl, rfl, w1⟩ := open_string Tryz.underlying9 (hval 1 9 v1 rfl rfl) h1
  clear hA0 hval0
  simp only [List.append_nil] at hW'
  refine (walk a0 a1 w0 w1 W).mono fun e W' ⟨he, hg⟩ => ?_
  subst he
  exact ⟨_, rfl, post_kept (pa := []) (pv := []) hW' (fun _ _ _ => (trodAll_cons_mk (shut_bool Tryz.underlying4 _) trodAll_mk0)) (fun sp _ => (trodAll_cons_mk (shut_int Tryz.underlying3 w0) (trodAll_cons_mk (shut_string Tryz.underlying9 w1) trodAll_mk0))) (fun _ _ => rfl) rfl
    hg (ok_one (by kernel_rfl) rfl (okWide_bool_mk Tryz.underlying4 _))⟩

theorem over : Rows.upStubRow.holds Tryz.pinned (OpenSpec.ofChange Rows.upStubSpec) :=
  OpenClaim.holds_of_wide 3 Tryz.f3 rfl rfl rfl rfl rfl rfl rfl ⟨rfl, rfl, rfl, rfl, rfl⟩ rfl rfl rfl rfl rfl (by kernel_rfl) Tryz.func3 (by kernel_rfl)
    (of_decide_eq_true (by kernel_rfl)) (by unfold Func.isWrapper; first | (rw [if_pos (by decide +kernel)]; kernel_rfl) | (rw [if_neg (by decide +kernel)]; exact ⟨rfl, rfl⟩))
    (fun os started H enc _ => lifted os started H enc)

theorem proved : Rows.UpStubSaid :=
  over
#print axioms proved
end Go.Proofs.YtopkeglpafdlfaaGreat.upStub
