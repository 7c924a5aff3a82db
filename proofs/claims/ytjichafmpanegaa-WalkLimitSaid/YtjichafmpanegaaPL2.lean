/- Chapter 12: where one may add. Conditions: none. -/
import Derived.Test.YtjichafmpanegaaPL1
namespace Go.Proofs.Ytjichafmpanegaa.VS
set_option maxRecDepth 100000
set_option linter.unusedVariables false
set_option linter.unusedSimpArgs false

theorem run_itT {ρ : Type} {a b : T ρ} : (T.ite true a b).run = a.run := rfl
theorem run_itF {ρ : Type} {a b : T ρ} : (T.ite false a b).run = b.run := rfl
theorem run_iteP_no {ρ : Type} {c : Prop} {a b : T ρ} (h : ¬ c) : (T.iteP c a b).run = b.run := by simp [T.run, h]

/-- The disk that is like no other. -/
def dkX (deep file : Bool) : Dsk := match file, deep with
  | true, false => runR2
  | true, true => runR3
  | false, false => runR4
  | false, true => runR5
def dkL (at_ : Nat) (deep file : Bool) (i : Nat) : Dsk := if i = at_ then dkX deep file else runR1

theorem e_new9 : f_r3_New 9 9 = some runD0 := by simp only [f_r3_New, t_r3_New]; rw [run_ret]; rfl
theorem e_run1 : f_r8_Run runD0 runS1 = some runR1 := by unfold f_r8_Run; rw [if_pos ⟨rfl, rfl⟩]
theorem e_run2 : f_r8_Run runD0 runS2 = some runR2 := by unfold f_r8_Run; rw [if_neg (by rintro ⟨_, h⟩; exact absurd h (by simp [runS1, runS2])), if_pos ⟨rfl, rfl⟩]

theorem round_base (ways : List Int) (at_ : Nat) (deep file : Bool) (w : Wld) (i : Nat) (hi : i < ways.length) (hl : ways.length ≤ 8) (h1 : ¬ ways[i] < 1) (h3 : ¬ ways[i] > 3) (hne : ¬ i = at_) (hw : w.disks.length ≤ 8) :
    (tl_law12_WalkLimit_l0 ways (at_ : Int) deep file w (i : Int)).run = some (.inl (ways, (at_ : Int), deep, file, ⟨w.conf, w.disks ++ [runR1], w.table⟩, ((i + 1 : Nat) : Int))) := by
  have hb : ((i : Int) == (at_ : Int)) = false := by simp; omega
  have hwr := wrS (i := i) (by omega)
  simp only [tl_law12_WalkLimit_l0, hb]
  rw [run_iteT (by simp; omega), run_req (inb hi)]
  simp only [getD_int hi]
  rw [run_iteF (by simpa using h1), run_req (inb hi), run_iteF (by simpa using h3)]
  simp only [run_itF]
  rw [run_bind e_new9]
  refine (run_bind (x := runR1) ?_).trans ?_
  · exact e_run1
  · rw [run_req ⟨trivial, rmM (by simp [SM]; omega) (by omega)⟩, run_same, run_ret, hwr]

theorem e_run3 : f_r8_Run runD0 runS3 = some runR3 := by unfold f_r8_Run; rw [if_neg (by rintro ⟨_, h⟩; exact absurd h (by simp [runS1, runS3])), if_neg (by rintro ⟨_, h⟩; exact absurd h (by simp [runS2, runS3])), if_pos ⟨rfl, rfl⟩]
theorem e_run4 : f_r8_Run runD0 runS4 = some runR4 := by unfold f_r8_Run; rw [if_neg (by rintro ⟨_, h⟩; exact absurd h (by simp [runS1, runS4])), if_neg (by rintro ⟨_, h⟩; exact absurd h (by simp [runS2, runS4])), if_neg (by rintro ⟨_, h⟩; exact absurd h (by simp [runS3, runS4])), if_pos ⟨rfl, rfl⟩]
theorem e_run5 : f_r8_Run runD0 runS5 = some runR5 := by unfold f_r8_Run; rw [if_neg (by rintro ⟨_, h⟩; exact absurd h (by simp [runS1, runS5])), if_neg (by rintro ⟨_, h⟩; exact absurd h (by simp [runS2, runS5])), if_neg (by rintro ⟨_, h⟩; exact absurd h (by simp [runS3, runS5])), if_neg (by rintro ⟨_, h⟩; exact absurd h (by simp [runS4, runS5])), if_pos ⟨rfl, rfl⟩]

theorem round_at (ways : List Int) (deep file : Bool) (w : Wld) (i : Nat) (hi : i < ways.length) (hl : ways.length ≤ 8) (h1 : ¬ ways[i] < 1) (h3 : ¬ ways[i] > 3) (hw : w.disks.length ≤ 8) :
    (tl_law12_WalkLimit_l0 ways (i : Int) deep file w (i : Int)).run = some (.inl (ways, (i : Int), deep, file, ⟨w.conf, w.disks ++ [dkX deep file], w.table⟩, ((i + 1 : Nat) : Int))) := by
  have hb : ((i : Int) == (i : Int)) = true := by simp
  have hwr := wrS (i := i) (by omega)
  simp only [tl_law12_WalkLimit_l0, hb]
  rw [run_iteT (by simp; omega), run_req (inb hi)]
  simp only [getD_int hi]
  rw [run_iteF (by simpa using h1), run_req (inb hi), run_iteF (by simpa using h3)]
  have fin : ∀ r : Dsk, roomP (w.disks ++ [r]).length 48 := fun r => rmM (by simp [SM]; omega) (by omega)
  cases deep <;> cases file <;> simp only [run_itT, run_itF, Bool.not_true, Bool.not_false]
  · rw [run_req ⟨trivial, rfl⟩, run_iteP_no (by simp)]
    rw [run_req (rmM (by simp [SM]) (by omega))]
    simp only [run_itT, run_itF]
    rw [run_bind e_new9, run_req (by simp)]
    refine (run_bind (x := runR4) ?_).trans ?_
    · exact e_run4
    · rw [run_req ⟨trivial, fin _⟩, run_same, run_ret, hwr]; rfl
  · rw [run_bind e_new9]
    refine (run_bind (x := runR2) ?_).trans ?_
    · exact e_run2
    · rw [run_req ⟨trivial, fin _⟩, run_same, run_ret, hwr]; rfl
  · rw [run_req ⟨trivial, rfl⟩, run_iteP_no (by simp)]
    rw [run_req (rmM (by simp [SM]) (by omega)), run_bind e_new9, run_req (by simp)]
    refine (run_bind (x := runR5) ?_).trans ?_
    · exact e_run5
    · rw [run_req ⟨trivial, fin _⟩, run_same, run_ret, hwr]; rfl
  · rw [run_bind e_new9]
    refine (run_bind (x := runR3) ?_).trans ?_
    · exact e_run3
    · rw [run_req ⟨trivial, fin _⟩, run_same, run_ret, hwr]; rfl

end Go.Proofs.Ytjichafmpanegaa.VS
