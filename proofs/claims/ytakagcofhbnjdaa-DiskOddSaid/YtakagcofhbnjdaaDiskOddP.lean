/- The law is run by an abstract machine that is proved sound for the program: it answers true, and all that was there is as it was. Conditions: none. -/
import Derived.Test.YtakagcofhbnjdaaRows
import Derived.WalkKit
import Derived.ProofKit
import Derived.OpenShut
import Derived.ShutString
import Derived.Test.YtakagcofhbnjdaaDiskOddC
namespace Go.Proofs.Ytakagcofhbnjdaa.diskOdd
open Go.ChangeShapes Go.WideShapes Go.ChangeAt Go.RowKit
open Go.ChangeMaps (open_string shut_string)
set_option linter.unusedVariables false      -- a walk need not use every 'w<i>' (that an integer argument fits its kind)

theorem own : ownKnob Try.prog.godebug = none := by kernel_rfl

open VS
theorem run0 : isTrue (acallK tabs cfg 60 4 [.rng 0 .i64 (-9223372036854775808) (-1)] [] [] 0) = true := by kernel_rfl
theorem run1 : isTrue (acallK tabs cfg 60 4 [.int .i64 0] [] [] 0) = true := by kernel_rfl
theorem run2 : isTrue (acallK tabs cfg 60 4 [.int .i64 1] [] [] 0) = true := by kernel_rfl
theorem run3 : isTrue (acallK tabs cfg 60 4 [.int .i64 2] [] [] 0) = true := by kernel_rfl
theorem run4 : isTrue (acallK tabs cfg 60 4 [.int .i64 3] [] [] 0) = true := by kernel_rfl
theorem run5 : isTrue (acallK tabs cfg 60 4 [.int .i64 4] [] [] 0) = true := by kernel_rfl
theorem run6 : isTrue (acallK tabs cfg 60 4 [.int .i64 5] [] [] 0) = true := by kernel_rfl
theorem run7 : isTrue (acallK tabs cfg 60 4 [.int .i64 6] [] [] 0) = true := by kernel_rfl
theorem run8 : isTrue (acallK tabs cfg 60 4 [.int .i64 7] [] [] 0) = true := by kernel_rfl
theorem run9 : isTrue (acallK tabs cfg 60 4 [.int .i64 8] [] [] 0) = true := by kernel_rfl
theorem run10 : isTrue (acallK tabs cfg 60 4 [.int .i64 9] [] [] 0) = true := by kernel_rfl
theorem run11 : isTrue (acallK tabs cfg 60 4 [.int .i64 10] [] [] 0) = true := by kernel_rfl
theorem run12 : isTrue (acallK tabs cfg 60 4 [.rng 0 .i64 (11) (9223372036854775807)] [] [] 0) = true := by kernel_rfl
theorem walk (a0 : Int) (w0 : (Lit.int .i64 a0).wf = true) (w : World) :
    Calls Try.prog 4 #[.int .i64 a0] w fun e w' => e = .returned (.bool true) ∧ Kept w w' := by
  have hb0 : -9223372036854775808 ≤ a0 ∧ a0 ≤ 9223372036854775807 := by
    simp only [Lit.wf, Bool.and_eq_true, decide_eq_true_eq] at w0
    exact w0
  letI : Syms := theSyms [a0] [[]]
  rcases (by omega : (-9223372036854775808 ≤ a0 ∧ a0 ≤ -1) ∨ a0 = 0 ∨ a0 = 1 ∨ a0 = 2 ∨ a0 = 3 ∨ a0 = 4 ∨ a0 = 5 ∨ a0 = 6 ∨ a0 = 7 ∨ a0 = 8 ∨ a0 = 9 ∨ a0 = 10 ∨ (11 ≤ a0 ∧ a0 ≤ 9223372036854775807)) with h0 | h0 | h0 | h0 | h0 | h0 | h0 | h0 | h0 | h0 | h0 | h0 | h0
  · have hr0 := h0
    exact one run0 (cr_cons rfl (.rng _ _ _ _ _ rfl (by omega) (by omega)) cr_nil) rfl
  · subst h0
    exact one run1 (cr_cons rfl (.int _ _) cr_nil) rfl
  · subst h0
    exact one run2 (cr_cons rfl (.int _ _) cr_nil) rfl
  · subst h0
    exact one run3 (cr_cons rfl (.int _ _) cr_nil) rfl
  · subst h0
    exact one run4 (cr_cons rfl (.int _ _) cr_nil) rfl
  · subst h0
    exact one run5 (cr_cons rfl (.int _ _) cr_nil) rfl
  · subst h0
    exact one run6 (cr_cons rfl (.int _ _) cr_nil) rfl
  · subst h0
    exact one run7 (cr_cons rfl (.int _ _) cr_nil) rfl
  · subst h0
    exact one run8 (cr_cons rfl (.int _ _) cr_nil) rfl
  · subst h0
    exact one run9 (cr_cons rfl (.int _ _) cr_nil) rfl
  · subst h0
    exact one run10 (cr_cons rfl (.int _ _) cr_nil) rfl
  · subst h0
    exact one run11 (cr_cons rfl (.int _ _) cr_nil) rfl
  · have hr0 := h0
    exact one run12 (cr_cons rfl (.rng _ _ _ _ _ rfl (by omega) (by omega)) cr_nil) rfl

set_option maxRecDepth 100000 in
theorem lifted (os : Os) (started : os.Started) (H : Type) (enc : TypeId × Value → H) :
    ReturnsInHanded {} Try.checked os 4 .any (Rows.diskOddSpec.pre6 enc Try.prog Try.f4 Rows.diskOddRow.domain false) (Rows.diskOddSpec.post enc Try.prog Try.f4 false true false false) := by
  refine returnsInHanded_of_change (C := Try.checked) own started (by kernel_rfl) Try.func4
    (ChangeSpec.witness6 (enc := enc) (C := Try.checked) false ⟨#[], #[.int .i64 0], []⟩ 8 (by kernel_rfl) (by kernel_rfl) (by kernel_rfl) (by kernel_rfl)) ?_
  intro W base args ds gs before hval0 hW hcnd _
  have hval : ∀ (j : Nat) t v, Try.f4.params[j]? = some t → args[j]? = some v → Value.okWide Try.prog W .any base t v := hval0
  have hW' := hW
  obtain ⟨p, q, hA0, hV, rfl, hfz, hnd⟩ := hW
  have hA : DataW.TrodAll enc Try.prog W 0 (fun _ => true) true Try.f4.params.toList args.toList ds p := hA0
  rw [Try.params4] at hA hval
  obtain ⟨v0, vs0, d0, ds0, p0, q0, hargs, rfl, rfl, h0, r0⟩ := trodAll_cons hA
  obtain ⟨rfl, rfl, rfl⟩ := trodAll_nil r0
  obtain rfl : args = #[v0] := by cases args; simp_all
  obtain ⟨rfl, rfl⟩ := trodVars_none hV
  obtain ⟨a0, rfl, rfl, rfl, w0⟩ := open_int Try.underlying3 (hval 0 3 v0 rfl rfl) h0
  clear hA0 hval0
  simp only [List.append_nil] at hW'
  refine (walk a0 w0 W).mono fun e W' ⟨he, hg⟩ => ?_
  subst he
  exact ⟨_, rfl, post_kept (pa := []) (pv := []) hW' (fun _ _ _ => (trodAll_cons_mk (shut_bool Try.underlying4 _) trodAll_mk0)) (fun sp _ => (trodAll_cons_mk (shut_int Try.underlying3 w0) trodAll_mk0)) (fun _ _ => rfl) rfl
    hg (ok_one (by kernel_rfl) rfl (okWide_bool_mk Try.underlying4 _))⟩

theorem over : Rows.diskOddRow.holds Try.pinned (OpenSpec.ofChange Rows.diskOddSpec) :=
  OpenClaim.holds_of_wide 4 Try.f4 rfl rfl rfl rfl rfl rfl rfl ⟨rfl, rfl, rfl, rfl, rfl⟩ rfl rfl rfl rfl rfl (by kernel_rfl) Try.func4 (by kernel_rfl)
    (of_decide_eq_true (by kernel_rfl)) (by unfold Func.isWrapper; first | (rw [if_pos (by decide +kernel)]; kernel_rfl) | (rw [if_neg (by decide +kernel)]; exact ⟨rfl, rfl⟩))
    (fun os started H enc _ => lifted os started H enc)

theorem proved : Rows.DiskOddSaid :=
  over
#print axioms proved
end Go.Proofs.Ytakagcofhbnjdaa.diskOdd
