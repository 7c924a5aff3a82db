/- The law is run by an abstract machine that is proved sound for the program: it answers true, and all that was there is as it was. Conditions: none. -/
import Derived.Test.YtakagcofhbnjdaaRows
import Derived.WalkKit
import Derived.ProofKit
import Derived.OpenShut
import Derived.ShutString
import Derived.Test.YtakagcofhbnjdaaKeepKindsC
import Derived.Test.YtakagcofhbnjdaaKeepKindsM0
import Derived.Test.YtakagcofhbnjdaaKeepKindsR0
import Derived.Test.YtakagcofhbnjdaaKeepKindsR1
import Derived.Test.YtakagcofhbnjdaaKeepKindsR2
namespace Go.Proofs.Ytakagcofhbnjdaa.keepKinds
open Go.ChangeShapes Go.WideShapes Go.ChangeAt Go.RowKit
open Go.ChangeMaps (open_string shut_string)
set_option linter.unusedVariables false      -- a walk need not use every 'w<i>' (that an integer argument fits its kind)

theorem own : ownKnob Try.prog.godebug = none := by kernel_rfl

open VS
theorem prims [Syms] : PrimOK Try.prog cfg := prim_ran tyok fnok prims2 Try.checked.mixed (ranOK_cons ran0_ok (ranOK_cons ran1_ok ranOK_nil)) rfl

theorem one [Syms] {w : World} {args : List AV} {cargs : Array Value} (h : isTrue (acallK tabs cfg 100 6 args [] [] 0) = true) (hc : CR (fun _ => True) w.heap noMap args cargs 0) (hsz : cargs.size = args.length) : Calls Try.prog 6 cargs w fun e w' => e = .returned (.bool true) ∧ Kept w w' :=
  law_true tyok fnok prims Try.checked.mixed h hc hsz (enters _ w)

theorem walk (a0 : Int) (a1 : Int) (w0 : (Lit.int .i64 a0).wf = true) (w1 : (Lit.int .i64 a1).wf = true) (w : World) :
    Calls Try.prog 6 #[.int .i64 a0, .int .i64 a1] w fun e w' => e = .returned (.bool true) ∧ Kept w w' := by
  have hb0 : -9223372036854775808 ≤ a0 ∧ a0 ≤ 9223372036854775807 := by
    simp only [Lit.wf, Bool.and_eq_true, decide_eq_true_eq] at w0
    exact w0
  have hb1 : -9223372036854775808 ≤ a1 ∧ a1 ≤ 9223372036854775807 := by
    simp only [Lit.wf, Bool.and_eq_true, decide_eq_true_eq] at w1
    exact w1
  rcases (by omega : (-9223372036854775808 ≤ a0 ∧ a0 ≤ -1) ∨ a0 = 0 ∨ a0 = 1 ∨ a0 = 2 ∨ (3 ≤ a0 ∧ a0 ≤ 9223372036854775807)) with h0 | h0 | h0 | h0 | h0
  · have hr0 := h0
    rcases (by omega : (-9223372036854775808 ≤ a1 ∧ a1 ≤ -1) ∨ (0 ≤ a1 ∧ a1 ≤ 32767) ∨ a1 = 32768 ∨ (32769 ≤ a1 ∧ a1 ≤ 9223372036854775807)) with h1 | h1 | h1 | h1
    · have hr1 := h1
      letI : Syms := theSyms [a0, 0] [[], []]
      exact one run0 (cr_cons rfl (.rng _ _ _ _ _ rfl (by omega) (by omega)) (cr_cons rfl .dead cr_nil)) rfl
    · rcases (by omega : a1 % 16 = 0 ∨ a1 % 16 = 1 ∨ a1 % 16 = 2 ∨ a1 % 16 = 3 ∨ a1 % 16 = 4 ∨ a1 % 16 = 5 ∨ a1 % 16 = 6 ∨ a1 % 16 = 7 ∨ a1 % 16 = 8 ∨ a1 % 16 = 9 ∨ a1 % 16 = 10 ∨ a1 % 16 = 11 ∨ a1 % 16 = 12 ∨ a1 % 16 = 13 ∨ a1 % 16 = 14 ∨ a1 % 16 = 15) with hm1 | hm1 | hm1 | hm1 | hm1 | hm1 | hm1 | hm1 | hm1 | hm1 | hm1 | hm1 | hm1 | hm1 | hm1 | hm1
      · have hrm1 := hm1
        letI : Syms := theSyms [a0, 0] [[], []]
        exact one run0 (cr_cons rfl (.rng _ _ _ _ _ rfl (by omega) (by omega)) (cr_cons rfl .dead cr_nil)) rfl
      · have hrm1 := hm1
        letI : Syms := theSyms [a0, 0] [[], []]
        exact one run0 (cr_cons rfl (.rng _ _ _ _ _ rfl (by omega) (by omega)) (cr_cons rfl .dead cr_nil)) rfl
      · have hrm1 := hm1
        letI : Syms := theSyms [a0, 0] [[], []]
        exact one run0 (cr_cons rfl (.rng _ _ _ _ _ rfl (by omega) (by omega)) (cr_cons rfl .dead cr_nil)) rfl
      · have hrm1 := hm1
        letI : Syms := theSyms [a0, 0] [[], []]
        exact one run0 (cr_cons rfl (.rng _ _ _ _ _ rfl (by omega) (by omega)) (cr_cons rfl .dead cr_nil)) rfl
      · have hrm1 := hm1
        letI : Syms := theSyms [a0, 0] [[], []]
        exact one run0 (cr_cons rfl (.rng _ _ _ _ _ rfl (by omega) (by omega)) (cr_cons rfl .dead cr_nil)) rfl
      · have hrm1 := hm1
        letI : Syms := theSyms [a0, 0] [[], []]
        exact one run0 (cr_cons rfl (.rng _ _ _ _ _ rfl (by omega) (by omega)) (cr_cons rfl .dead cr_nil)) rfl
      · have hrm1 := hm1
        letI : Syms := theSyms [a0, 0] [[], []]
        exact one run0 (cr_cons rfl (.rng _ _ _ _ _ rfl (by omega) (by omega)) (cr_cons rfl .dead cr_nil)) rfl
      · have hrm1 := hm1
        letI : Syms := theSyms [a0, 0] [[], []]
        exact one run0 (cr_cons rfl (.rng _ _ _ _ _ rfl (by omega) (by omega)) (cr_cons rfl .dead cr_nil)) rfl
      · have hrm1 := hm1
        letI : Syms := theSyms [a0, 0] [[], []]
        exact one run0 (cr_cons rfl (.rng _ _ _ _ _ rfl (by omega) (by omega)) (cr_cons rfl .dead cr_nil)) rfl
      · have hrm1 := hm1
        letI : Syms := theSyms [a0, 0] [[], []]
        exact one run0 (cr_cons rfl (.rng _ _ _ _ _ rfl (by omega) (by omega)) (cr_cons rfl .dead cr_nil)) rfl
      · have hrm1 := hm1
        letI : Syms := theSyms [a0, 0] [[], []]
        exact one run0 (cr_cons rfl (.rng _ _ _ _ _ rfl (by omega) (by omega)) (cr_cons rfl .dead cr_nil)) rfl
      · have hrm1 := hm1
        letI : Syms := theSyms [a0, 0] [[], []]
        exact one run0 (cr_cons rfl (.rng _ _ _ _ _ rfl (by omega) (by omega)) (cr_cons rfl .dead cr_nil)) rfl
      · have hrm1 := hm1
        letI : Syms := theSyms [a0, 0] [[], []]
        exact one run0 (cr_cons rfl (.rng _ _ _ _ _ rfl (by omega) (by omega)) (cr_cons rfl .dead cr_nil)) rfl
      · have hrm1 := hm1
        letI : Syms := theSyms [a0, 0] [[], []]
        exact one run0 (cr_cons rfl (.rng _ _ _ _ _ rfl (by omega) (by omega)) (cr_cons rfl .dead cr_nil)) rfl
      · have hrm1 := hm1
        letI : Syms := theSyms [a0, 0] [[], []]
        exact one run0 (cr_cons rfl (.rng _ _ _ _ _ rfl (by omega) (by omega)) (cr_cons rfl .dead cr_nil)) rfl
      · have hrm1 := hm1
        letI : Syms := theSyms [a0, 0] [[], []]
        exact one run0 (cr_cons rfl (.rng _ _ _ _ _ rfl (by omega) (by omega)) (cr_cons rfl .dead cr_nil)) rfl
    · subst h1
      letI : Syms := theSyms [a0, 0] [[], []]
      exact one run0 (cr_cons rfl (.rng _ _ _ _ _ rfl (by omega) (by omega)) (cr_cons rfl .dead cr_nil)) rfl
    · have hr1 := h1
      letI : Syms := theSyms [a0, 0] [[], []]
      exact one run0 (cr_cons rfl (.rng _ _ _ _ _ rfl (by omega) (by omega)) (cr_cons rfl .dead cr_nil)) rfl
  · subst h0
    rcases (by omega : (-9223372036854775808 ≤ a1 ∧ a1 ≤ -1) ∨ (0 ≤ a1 ∧ a1 ≤ 32767) ∨ a1 = 32768 ∨ (32769 ≤ a1 ∧ a1 ≤ 9223372036854775807)) with h1 | h1 | h1 | h1
    · have hr1 := h1
      letI : Syms := theSyms [0, a1] [[], []]
      exact one run1 (cr_cons rfl (.int _ _) (cr_cons rfl (.rng _ _ _ _ _ rfl (by omega) (by omega)) cr_nil)) rfl
    · rcases (by omega : a1 % 16 = 0 ∨ a1 % 16 = 1 ∨ a1 % 16 = 2 ∨ a1 % 16 = 3 ∨ a1 % 16 = 4 ∨ a1 % 16 = 5 ∨ a1 % 16 = 6 ∨ a1 % 16 = 7 ∨ a1 % 16 = 8 ∨ a1 % 16 = 9 ∨ a1 % 16 = 10 ∨ a1 % 16 = 11 ∨ a1 % 16 = 12 ∨ a1 % 16 = 13 ∨ a1 % 16 = 14 ∨ a1 % 16 = 15) with hm1 | hm1 | hm1 | hm1 | hm1 | hm1 | hm1 | hm1 | hm1 | hm1 | hm1 | hm1 | hm1 | hm1 | hm1 | hm1
      · have hrm1 := hm1
        letI : Syms := theSyms [0, a1 / 16] [[], []]
        exact one run2 (cr_cons rfl (.int _ _) (cr_cons rfl (.lin _ _ _ _ _ _ (show a1 = 16 * (a1 / 16) + 0 by omega) (show (0 : Int) ≤ a1 / 16 by omega) (show a1 / 16 ≤ (2047 : Int) by omega)) cr_nil)) rfl
      · have hrm1 := hm1
        letI : Syms := theSyms [0, a1 / 16] [[], []]
        exact one run3 (cr_cons rfl (.int _ _) (cr_cons rfl (.lin _ _ _ _ _ _ (show a1 = 16 * (a1 / 16) + 1 by omega) (show (0 : Int) ≤ a1 / 16 by omega) (show a1 / 16 ≤ (2047 : Int) by omega)) cr_nil)) rfl
      · have hrm1 := hm1
        letI : Syms := theSyms [0, a1 / 16] [[], []]
        exact one run4 (cr_cons rfl (.int _ _) (cr_cons rfl (.lin _ _ _ _ _ _ (show a1 = 16 * (a1 / 16) + 2 by omega) (show (0 : Int) ≤ a1 / 16 by omega) (show a1 / 16 ≤ (2047 : Int) by omega)) cr_nil)) rfl
      · have hrm1 := hm1
        letI : Syms := theSyms [0, a1 / 16] [[], []]
        exact one run5 (cr_cons rfl (.int _ _) (cr_cons rfl (.lin _ _ _ _ _ _ (show a1 = 16 * (a1 / 16) + 3 by omega) (show (0 : Int) ≤ a1 / 16 by omega) (show a1 / 16 ≤ (2047 : Int) by omega)) cr_nil)) rfl
      · have hrm1 := hm1
        letI : Syms := theSyms [0, a1 / 16] [[], []]
        exact one run6 (cr_cons rfl (.int _ _) (cr_cons rfl (.lin _ _ _ _ _ _ (show a1 = 16 * (a1 / 16) + 4 by omega) (show (0 : Int) ≤ a1 / 16 by omega) (show a1 / 16 ≤ (2047 : Int) by omega)) cr_nil)) rfl
      · have hrm1 := hm1
        letI : Syms := theSyms [0, a1 / 16] [[], []]
        exact one run7 (cr_cons rfl (.int _ _) (cr_cons rfl (.lin _ _ _ _ _ _ (show a1 = 16 * (a1 / 16) + 5 by omega) (show (0 : Int) ≤ a1 / 16 by omega) (show a1 / 16 ≤ (2047 : Int) by omega)) cr_nil)) rfl
      · have hrm1 := hm1
        letI : Syms := theSyms [0, a1 / 16] [[], []]
        exact one run8 (cr_cons rfl (.int _ _) (cr_cons rfl (.lin _ _ _ _ _ _ (show a1 = 16 * (a1 / 16) + 6 by omega) (show (0 : Int) ≤ a1 / 16 by omega) (show a1 / 16 ≤ (2047 : Int) by omega)) cr_nil)) rfl
      · have hrm1 := hm1
        letI : Syms := theSyms [0, a1 / 16] [[], []]
        exact one run9 (cr_cons rfl (.int _ _) (cr_cons rfl (.lin _ _ _ _ _ _ (show a1 = 16 * (a1 / 16) + 7 by omega) (show (0 : Int) ≤ a1 / 16 by omega) (show a1 / 16 ≤ (2047 : Int) by omega)) cr_nil)) rfl
      · have hrm1 := hm1
        letI : Syms := theSyms [0, a1 / 16] [[], []]
        exact one run10 (cr_cons rfl (.int _ _) (cr_cons rfl (.lin _ _ _ _ _ _ (show a1 = 16 * (a1 / 16) + 8 by omega) (show (0 : Int) ≤ a1 / 16 by omega) (show a1 / 16 ≤ (2047 : Int) by omega)) cr_nil)) rfl
      · have hrm1 := hm1
        letI : Syms := theSyms [0, a1 / 16] [[], []]
        exact one run11 (cr_cons rfl (.int _ _) (cr_cons rfl (.lin _ _ _ _ _ _ (show a1 = 16 * (a1 / 16) + 9 by omega) (show (0 : Int) ≤ a1 / 16 by omega) (show a1 / 16 ≤ (2047 : Int) by omega)) cr_nil)) rfl
      · have hrm1 := hm1
        letI : Syms := theSyms [0, a1 / 16] [[], []]
        exact one run12 (cr_cons rfl (.int _ _) (cr_cons rfl (.lin _ _ _ _ _ _ (show a1 = 16 * (a1 / 16) + 10 by omega) (show (0 : Int) ≤ a1 / 16 by omega) (show a1 / 16 ≤ (2047 : Int) by omega)) cr_nil)) rfl
      · have hrm1 := hm1
        letI : Syms := theSyms [0, a1 / 16] [[], []]
        exact one run13 (cr_cons rfl (.int _ _) (cr_cons rfl (.lin _ _ _ _ _ _ (show a1 = 16 * (a1 / 16) + 11 by omega) (show (0 : Int) ≤ a1 / 16 by omega) (show a1 / 16 ≤ (2047 : Int) by omega)) cr_nil)) rfl
      · have hrm1 := hm1
        letI : Syms := theSyms [0, a1 / 16] [[], []]
        exact one run14 (cr_cons rfl (.int _ _) (cr_cons rfl (.lin _ _ _ _ _ _ (show a1 = 16 * (a1 / 16) + 12 by omega) (show (0 : Int) ≤ a1 / 16 by omega) (show a1 / 16 ≤ (2047 : Int) by omega)) cr_nil)) rfl
      · have hrm1 := hm1
        letI : Syms := theSyms [0, a1 / 16] [[], []]
        exact one run15 (cr_cons rfl (.int _ _) (cr_cons rfl (.lin _ _ _ _ _ _ (show a1 = 16 * (a1 / 16) + 13 by omega) (show (0 : Int) ≤ a1 / 16 by omega) (show a1 / 16 ≤ (2047 : Int) by omega)) cr_nil)) rfl
      · have hrm1 := hm1
        letI : Syms := theSyms [0, a1 / 16] [[], []]
        exact one run16 (cr_cons rfl (.int _ _) (cr_cons rfl (.lin _ _ _ _ _ _ (show a1 = 16 * (a1 / 16) + 14 by omega) (show (0 : Int) ≤ a1 / 16 by omega) (show a1 / 16 ≤ (2047 : Int) by omega)) cr_nil)) rfl
      · have hrm1 := hm1
        letI : Syms := theSyms [0, a1 / 16] [[], []]
        exact one run17 (cr_cons rfl (.int _ _) (cr_cons rfl (.lin _ _ _ _ _ _ (show a1 = 16 * (a1 / 16) + 15 by omega) (show (0 : Int) ≤ a1 / 16 by omega) (show a1 / 16 ≤ (2047 : Int) by omega)) cr_nil)) rfl
    · subst h1
      letI : Syms := theSyms [0, 0] [[], []]
      exact one run18 (cr_cons rfl (.int _ _) (cr_cons rfl (.int _ _) cr_nil)) rfl
    · have hr1 := h1
      letI : Syms := theSyms [0, a1] [[], []]
      exact one run19 (cr_cons rfl (.int _ _) (cr_cons rfl (.rng _ _ _ _ _ rfl (by omega) (by omega)) cr_nil)) rfl
  · subst h0
    rcases (by omega : (-9223372036854775808 ≤ a1 ∧ a1 ≤ -1) ∨ (0 ≤ a1 ∧ a1 ≤ 32767) ∨ a1 = 32768 ∨ (32769 ≤ a1 ∧ a1 ≤ 9223372036854775807)) with h1 | h1 | h1 | h1
    · have hr1 := h1
      letI : Syms := theSyms [0, 0] [[], []]
      exact one run20 (cr_cons rfl (.int _ _) (cr_cons rfl .dead cr_nil)) rfl
    · rcases (by omega : a1 % 16 = 0 ∨ a1 % 16 = 1 ∨ a1 % 16 = 2 ∨ a1 % 16 = 3 ∨ a1 % 16 = 4 ∨ a1 % 16 = 5 ∨ a1 % 16 = 6 ∨ a1 % 16 = 7 ∨ a1 % 16 = 8 ∨ a1 % 16 = 9 ∨ a1 % 16 = 10 ∨ a1 % 16 = 11 ∨ a1 % 16 = 12 ∨ a1 % 16 = 13 ∨ a1 % 16 = 14 ∨ a1 % 16 = 15) with hm1 | hm1 | hm1 | hm1 | hm1 | hm1 | hm1 | hm1 | hm1 | hm1 | hm1 | hm1 | hm1 | hm1 | hm1 | hm1
      · have hrm1 := hm1
        letI : Syms := theSyms [0, 0] [[], []]
        exact one run20 (cr_cons rfl (.int _ _) (cr_cons rfl .dead cr_nil)) rfl
      · have hrm1 := hm1
        letI : Syms := theSyms [0, 0] [[], []]
        exact one run20 (cr_cons rfl (.int _ _) (cr_cons rfl .dead cr_nil)) rfl
      · have hrm1 := hm1
        letI : Syms := theSyms [0, 0] [[], []]
        exact one run20 (cr_cons rfl (.int _ _) (cr_cons rfl .dead cr_nil)) rfl
      · have hrm1 := hm1
        letI : Syms := theSyms [0, 0] [[], []]
        exact one run20 (cr_cons rfl (.int _ _) (cr_cons rfl .dead cr_nil)) rfl
      · have hrm1 := hm1
        letI : Syms := theSyms [0, 0] [[], []]
        exact one run20 (cr_cons rfl (.int _ _) (cr_cons rfl .dead cr_nil)) rfl
      · have hrm1 := hm1
        letI : Syms := theSyms [0, 0] [[], []]
        exact one run20 (cr_cons rfl (.int _ _) (cr_cons rfl .dead cr_nil)) rfl
      · have hrm1 := hm1
        letI : Syms := theSyms [0, 0] [[], []]
        exact one run20 (cr_cons rfl (.int _ _) (cr_cons rfl .dead cr_nil)) rfl
      · have hrm1 := hm1
        letI : Syms := theSyms [0, 0] [[], []]
        exact one run20 (cr_cons rfl (.int _ _) (cr_cons rfl .dead cr_nil)) rfl
      · have hrm1 := hm1
        letI : Syms := theSyms [0, 0] [[], []]
        exact one run20 (cr_cons rfl (.int _ _) (cr_cons rfl .dead cr_nil)) rfl
      · have hrm1 := hm1
        letI : Syms := theSyms [0, 0] [[], []]
        exact one run20 (cr_cons rfl (.int _ _) (cr_cons rfl .dead cr_nil)) rfl
      · have hrm1 := hm1
        letI : Syms := theSyms [0, 0] [[], []]
        exact one run20 (cr_cons rfl (.int _ _) (cr_cons rfl .dead cr_nil)) rfl
      · have hrm1 := hm1
        letI : Syms := theSyms [0, 0] [[], []]
        exact one run20 (cr_cons rfl (.int _ _) (cr_cons rfl .dead cr_nil)) rfl
      · have hrm1 := hm1
        letI : Syms := theSyms [0, 0] [[], []]
        exact one run20 (cr_cons rfl (.int _ _) (cr_cons rfl .dead cr_nil)) rfl
      · have hrm1 := hm1
        letI : Syms := theSyms [0, 0] [[], []]
        exact one run20 (cr_cons rfl (.int _ _) (cr_cons rfl .dead cr_nil)) rfl
      · have hrm1 := hm1
        letI : Syms := theSyms [0, 0] [[], []]
        exact one run20 (cr_cons rfl (.int _ _) (cr_cons rfl .dead cr_nil)) rfl
      · have hrm1 := hm1
        letI : Syms := theSyms [0, 0] [[], []]
        exact one run20 (cr_cons rfl (.int _ _) (cr_cons rfl .dead cr_nil)) rfl
    · subst h1
      letI : Syms := theSyms [0, 0] [[], []]
      exact one run20 (cr_cons rfl (.int _ _) (cr_cons rfl .dead cr_nil)) rfl
    · have hr1 := h1
      letI : Syms := theSyms [0, 0] [[], []]
      exact one run20 (cr_cons rfl (.int _ _) (cr_cons rfl .dead cr_nil)) rfl
  · subst h0
    rcases (by omega : (-9223372036854775808 ≤ a1 ∧ a1 ≤ -1) ∨ (0 ≤ a1 ∧ a1 ≤ 32767) ∨ a1 = 32768 ∨ (32769 ≤ a1 ∧ a1 ≤ 9223372036854775807)) with h1 | h1 | h1 | h1
    · have hr1 := h1
      letI : Syms := theSyms [0, 0] [[], []]
      exact one run21 (cr_cons rfl (.int _ _) (cr_cons rfl .dead cr_nil)) rfl
    · rcases (by omega : a1 % 16 = 0 ∨ a1 % 16 = 1 ∨ a1 % 16 = 2 ∨ a1 % 16 = 3 ∨ a1 % 16 = 4 ∨ a1 % 16 = 5 ∨ a1 % 16 = 6 ∨ a1 % 16 = 7 ∨ a1 % 16 = 8 ∨ a1 % 16 = 9 ∨ a1 % 16 = 10 ∨ a1 % 16 = 11 ∨ a1 % 16 = 12 ∨ a1 % 16 = 13 ∨ a1 % 16 = 14 ∨ a1 % 16 = 15) with hm1 | hm1 | hm1 | hm1 | hm1 | hm1 | hm1 | hm1 | hm1 | hm1 | hm1 | hm1 | hm1 | hm1 | hm1 | hm1
      · have hrm1 := hm1
        letI : Syms := theSyms [0, 0] [[], []]
        exact one run21 (cr_cons rfl (.int _ _) (cr_cons rfl .dead cr_nil)) rfl
      · have hrm1 := hm1
        letI : Syms := theSyms [0, 0] [[], []]
        exact one run21 (cr_cons rfl (.int _ _) (cr_cons rfl .dead cr_nil)) rfl
      · have hrm1 := hm1
        letI : Syms := theSyms [0, 0] [[], []]
        exact one run21 (cr_cons rfl (.int _ _) (cr_cons rfl .dead cr_nil)) rfl
      · have hrm1 := hm1
        letI : Syms := theSyms [0, 0] [[], []]
        exact one run21 (cr_cons rfl (.int _ _) (cr_cons rfl .dead cr_nil)) rfl
      · have hrm1 := hm1
        letI : Syms := theSyms [0, 0] [[], []]
        exact one run21 (cr_cons rfl (.int _ _) (cr_cons rfl .dead cr_nil)) rfl
      · have hrm1 := hm1
        letI : Syms := theSyms [0, 0] [[], []]
        exact one run21 (cr_cons rfl (.int _ _) (cr_cons rfl .dead cr_nil)) rfl
      · have hrm1 := hm1
        letI : Syms := theSyms [0, 0] [[], []]
        exact one run21 (cr_cons rfl (.int _ _) (cr_cons rfl .dead cr_nil)) rfl
      · have hrm1 := hm1
        letI : Syms := theSyms [0, 0] [[], []]
        exact one run21 (cr_cons rfl (.int _ _) (cr_cons rfl .dead cr_nil)) rfl
      · have hrm1 := hm1
        letI : Syms := theSyms [0, 0] [[], []]
        exact one run21 (cr_cons rfl (.int _ _) (cr_cons rfl .dead cr_nil)) rfl
      · have hrm1 := hm1
        letI : Syms := theSyms [0, 0] [[], []]
        exact one run21 (cr_cons rfl (.int _ _) (cr_cons rfl .dead cr_nil)) rfl
      · have hrm1 := hm1
        letI : Syms := theSyms [0, 0] [[], []]
        exact one run21 (cr_cons rfl (.int _ _) (cr_cons rfl .dead cr_nil)) rfl
      · have hrm1 := hm1
        letI : Syms := theSyms [0, 0] [[], []]
        exact one run21 (cr_cons rfl (.int _ _) (cr_cons rfl .dead cr_nil)) rfl
      · have hrm1 := hm1
        letI : Syms := theSyms [0, 0] [[], []]
        exact one run21 (cr_cons rfl (.int _ _) (cr_cons rfl .dead cr_nil)) rfl
      · have hrm1 := hm1
        letI : Syms := theSyms [0, 0] [[], []]
        exact one run21 (cr_cons rfl (.int _ _) (cr_cons rfl .dead cr_nil)) rfl
      · have hrm1 := hm1
        letI : Syms := theSyms [0, 0] [[], []]
        exact one run21 (cr_cons rfl (.int _ _) (cr_cons rfl .dead cr_nil)) rfl
      · have hrm1 := hm1
        letI : Syms := theSyms [0, 0] [[], []]
        exact one run21 (cr_cons rfl (.int _ _) (cr_cons rfl .dead cr_nil)) rfl
    · subst h1
      letI : Syms := theSyms [0, 0] [[], []]
      exact one run21 (cr_cons rfl (.int _ _) (cr_cons rfl .dead cr_nil)) rfl
    · have hr1 := h1
      letI : Syms := theSyms [0, 0] [[], []]
      exact one run21 (cr_cons rfl (.int _ _) (cr_cons rfl .dead cr_nil)) rfl
  · have hr0 := h0
    rcases (by omega : (-9223372036854775808 ≤ a1 ∧ a1 ≤ -1) ∨ (0 ≤ a1 ∧ a1 ≤ 32767) ∨ a1 = 32768 ∨ (32769 ≤ a1 ∧ a1 ≤ 9223372036854775807)) with h1 | h1 | h1 | h1
    · have hr1 := h1
      letI : Syms := theSyms [a0, 0] [[], []]
      exact one run22 (cr_cons rfl (.rng _ _ _ _ _ rfl (by omega) (by omega)) (cr_cons rfl .dead cr_nil)) rfl
    · rcases (by omega : a1 % 16 = 0 ∨ a1 % 16 = 1 ∨ a1 % 16 = 2 ∨ a1 % 16 = 3 ∨ a1 % 16 = 4 ∨ a1 % 16 = 5 ∨ a1 % 16 = 6 ∨ a1 % 16 = 7 ∨ a1 % 16 = 8 ∨ a1 % 16 = 9 ∨ a1 % 16 = 10 ∨ a1 % 16 = 11 ∨ a1 % 16 = 12 ∨ a1 % 16 = 13 ∨ a1 % 16 = 14 ∨ a1 % 16 = 15) with hm1 | hm1 | hm1 | hm1 | hm1 | hm1 | hm1 | hm1 | hm1 | hm1 | hm1 | hm1 | hm1 | hm1 | hm1 | hm1
      · have hrm1 := hm1
        letI : Syms := theSyms [a0, 0] [[], []]
        exact one run22 (cr_cons rfl (.rng _ _ _ _ _ rfl (by omega) (by omega)) (cr_cons rfl .dead cr_nil)) rfl
      · have hrm1 := hm1
        letI : Syms := theSyms [a0, 0] [[], []]
        exact one run22 (cr_cons rfl (.rng _ _ _ _ _ rfl (by omega) (by omega)) (cr_cons rfl .dead cr_nil)) rfl
      · have hrm1 := hm1
        letI : Syms := theSyms [a0, 0] [[], []]
        exact one run22 (cr_cons rfl (.rng _ _ _ _ _ rfl (by omega) (by omega)) (cr_cons rfl .dead cr_nil)) rfl
      · have hrm1 := hm1
        letI : Syms := theSyms [a0, 0] [[], []]
        exact one run22 (cr_cons rfl (.rng _ _ _ _ _ rfl (by omega) (by omega)) (cr_cons rfl .dead cr_nil)) rfl
      · have hrm1 := hm1
        letI : Syms := theSyms [a0, 0] [[], []]
        exact one run22 (cr_cons rfl (.rng _ _ _ _ _ rfl (by omega) (by omega)) (cr_cons rfl .dead cr_nil)) rfl
      · have hrm1 := hm1
        letI : Syms := theSyms [a0, 0] [[], []]
        exact one run22 (cr_cons rfl (.rng _ _ _ _ _ rfl (by omega) (by omega)) (cr_cons rfl .dead cr_nil)) rfl
      · have hrm1 := hm1
        letI : Syms := theSyms [a0, 0] [[], []]
        exact one run22 (cr_cons rfl (.rng _ _ _ _ _ rfl (by omega) (by omega)) (cr_cons rfl .dead cr_nil)) rfl
      · have hrm1 := hm1
        letI : Syms := theSyms [a0, 0] [[], []]
        exact one run22 (cr_cons rfl (.rng _ _ _ _ _ rfl (by omega) (by omega)) (cr_cons rfl .dead cr_nil)) rfl
      · have hrm1 := hm1
        letI : Syms := theSyms [a0, 0] [[], []]
        exact one run22 (cr_cons rfl (.rng _ _ _ _ _ rfl (by omega) (by omega)) (cr_cons rfl .dead cr_nil)) rfl
      · have hrm1 := hm1
        letI : Syms := theSyms [a0, 0] [[], []]
        exact one run22 (cr_cons rfl (.rng _ _ _ _ _ rfl (by omega) (by omega)) (cr_cons rfl .dead cr_nil)) rfl
      · have hrm1 := hm1
        letI : Syms := theSyms [a0, 0] [[], []]
        exact one run22 (cr_cons rfl (.rng _ _ _ _ _ rfl (by omega) (by omega)) (cr_cons rfl .dead cr_nil)) rfl
      · have hrm1 := hm1
        letI : Syms := theSyms [a0, 0] [[], []]
        exact one run22 (cr_cons rfl (.rng _ _ _ _ _ rfl (by omega) (by omega)) (cr_cons rfl .dead cr_nil)) rfl
      · have hrm1 := hm1
        letI : Syms := theSyms [a0, 0] [[], []]
        exact one run22 (cr_cons rfl (.rng _ _ _ _ _ rfl (by omega) (by omega)) (cr_cons rfl .dead cr_nil)) rfl
      · have hrm1 := hm1
        letI : Syms := theSyms [a0, 0] [[], []]
        exact one run22 (cr_cons rfl (.rng _ _ _ _ _ rfl (by omega) (by omega)) (cr_cons rfl .dead cr_nil)) rfl
      · have hrm1 := hm1
        letI : Syms := theSyms [a0, 0] [[], []]
        exact one run22 (cr_cons rfl (.rng _ _ _ _ _ rfl (by omega) (by omega)) (cr_cons rfl .dead cr_nil)) rfl
      · have hrm1 := hm1
        letI : Syms := theSyms [a0, 0] [[], []]
        exact one run22 (cr_cons rfl (.rng _ _ _ _ _ rfl (by omega) (by omega)) (cr_cons rfl .dead cr_nil)) rfl
    · subst h1
      letI : Syms := theSyms [a0, 0] [[], []]
      exact one run22 (cr_cons rfl (.rng _ _ _ _ _ rfl (by omega) (by omega)) (cr_cons rfl .dead cr_nil)) rfl
    · have hr1 := h1
      letI : Syms := theSyms [a0, 0] [[], []]
      exact one run22 (cr_cons rfl (.rng _ _ _ _ _ rfl (by omega) (by omega)) (cr_cons rfl .dead cr_nil)) rfl

set_option maxRecDepth 100000 in
theorem lifted (os : Os) (started : os.Started) (H : Type) (enc : TypeId × Value → H) :
    ReturnsInHanded {} Try.checked os 6 .any (Rows.keepKindsSpec.pre6 enc Try.prog Try.f6 Rows.keepKindsRow.domain false) (Rows.keepKindsSpec.post enc Try.prog Try.f6 false true false false) := by
  refine returnsInHanded_of_change (C := Try.checked) own started (by kernel_rfl) Try.func6
    (ChangeSpec.witness6 (enc := enc) (C := Try.checked) false ⟨#[], #[.int .i64 0, .int .i64 0], []⟩ 8 (by kernel_rfl) (by kernel_rfl) (by kernel_rfl) (by kernel_rfl)) ?_
  intro W base args ds gs before hval0 hW hcnd _
  have hval : ∀ (j : Nat) t v, Try.f6.params[j]? = some t → args[j]? = some v → Value.okWide Try.prog W .any base t v := hval0
  have hW' := hW
  obtain ⟨p, q, hA0, hV, rfl, hfz, hnd⟩ := hW
  have hA : DataW.TrodAll enc Try.prog W 0 (fun _ => true) true Try.f6.params.toList args.toList ds p := hA0
  rw [Try.params6] at hA hval
  obtain ⟨v0, vs0, d0, ds0, p0, q0, hargs, rfl, rfl, h0, r0⟩ := trodAll_cons hA
  obtain ⟨v1, vs1, d1, ds1, p1, q1, rfl, rfl, rfl, h1, r1⟩ := trodAll_cons r0
  obtain ⟨rfl, rfl, rfl⟩ := trodAll_nil r1
  obtain rfl : args = #[v0, v1] := by cases args; simp_all
  obtain ⟨rfl, rfl⟩ := trodVars_none hV
  obtain ⟨a0, rfl, rfl, rfl, w0⟩ := open_int Try.underlying3 (hval 0 3 v0 rfl rfl) h0
  obtain ⟨a1, rfl, rfl, rfl, w1⟩ := open_int Try.underlying3 (hval 1 3 v1 rfl rfl) h1
  clear hA0 hval0
  simp only [List.append_nil] at hW'
  refine (walk a0 a1 w0 w1 W).mono fun e W' ⟨he, hg⟩ => ?_
  subst he
  exact ⟨_, rfl, post_kept (pa := []) (pv := []) hW' (fun _ _ _ => (trodAll_cons_mk (shut_bool Try.underlying4 _) trodAll_mk0)) (fun sp _ => (trodAll_cons_mk (shut_int Try.underlying3 w0) (trodAll_cons_mk (shut_int Try.underlying3 w1) trodAll_mk0))) (fun _ _ => rfl) rfl
    hg (ok_one (by kernel_rfl) rfl (okWide_bool_mk Try.underlying4 _))⟩

theorem over : Rows.keepKindsRow.holds Try.pinned (OpenSpec.ofChange Rows.keepKindsSpec) :=
  OpenClaim.holds_of_wide 6 Try.f6 rfl rfl rfl rfl rfl rfl rfl ⟨rfl, rfl, rfl, rfl, rfl⟩ rfl rfl rfl rfl rfl (by kernel_rfl) Try.func6 (by kernel_rfl)
    (of_decide_eq_true (by kernel_rfl)) (by unfold Func.isWrapper; first | (rw [if_pos (by decide +kernel)]; kernel_rfl) | (rw [if_neg (by decide +kernel)]; exact ⟨rfl, rfl⟩))
    (fun os started H enc _ => lifted os started H enc)

theorem proved : Rows.KeepKindsSaid :=
  over
#print axioms proved
end Go.Proofs.Ytakagcofhbnjdaa.keepKinds
