/- Chapter 12: the law WalkLimit. Conditions: none. -/
import Derived.Test.YtjichafmpanegaaPL5
namespace Go.Proofs.Ytjichafmpanegaa.VS
set_option maxRecDepth 100000
set_option linter.unusedVariables false
set_option linter.unusedSimpArgs false

/-- The directory above, where one may add. -/
theorem up_of {ways : List Int} {at_ : Nat} {deep file : Bool} {n m : Nat} {l : Int} (h0 : 0 < at_) (hn : 0 < n) (hm : 0 < m) (h : findW (wlW ways at_ deep file n) [[97], [98]] = (dirsN m 3, l, 0)) : upW (wlW ways at_ deep file n) [[97], [98], [99]] = (dirsN m 3, l, [99], 0) := by
  have k3 : (ndW (wlW ways at_ deep file n) ⟨0, 3⟩).kind = 2 := by
    have := dk_wl ways at_ deep file hn 3
    unfold ndW
    rw [show (⟨0, 3⟩ : Spt) = ⟨((0 : Nat) : Int), 3⟩ from rfl, this, dkL, if_neg (by omega)]; rfl
  have e : ([[97], [98], [99]] : List Str).take (([[97], [98], [99]] : List Str).length - 1) = [[97], [98]] := rfl
  unfold upW
  rw [e, h]
  dsimp only
  rw [if_pos rfl, dirsN_head hm, if_pos k3]
  rfl

theorem fin_of {ways : List Int} {at_ : Nat} {deep file : Bool} (hl : ways.length ≤ 8) (h0 : 0 < at_) (hat : at_ < ways.length) : 
    f_walk_Find (wlW ways at_ deep file ways.length) [[97], [98]] = some (findW (wlW ways at_ deep file ways.length) [[97], [98]]) ∧ f_walk_Up (wlW ways at_ deep file ways.length) [[97], [98], [99]] = some (upW (wlW ways at_ deep file ways.length) [[97], [98], [99]]) := by
  have gw := gw_wl ways at_ deep file hl
  have hne : (wlW ways at_ deep file ways.length).disks ≠ [] := fun e => by have := congrArg List.length e; simp [wlW] at this; rw [this] at hat; simp at hat
  exact ⟨e_walk_Find gw hne _ (by simp [SM]) (fun x hx => by simp at hx; rcases hx with rfl | rfl <;> simp [SM]), e_walk_Up gw hne _ (by simp [SM]) (fun x hx => by simp at hx; rcases hx with rfl | rfl | rfl <;> simp [SM]) (by simp)⟩

theorem law_WalkLimit (ways : List Int) (a : Int) (deep file : Bool) : f_law12_WalkLimit ways a deep file = some true := by
  simp only [f_law12_WalkLimit, t_law12_WalkLimit]
  by_cases c1 : (ways.length : Int) < 2
  · rw [run_iteT (by simpa using c1), run_ret]
  rw [run_iteF (by simpa using c1)]
  by_cases c2 : (ways.length : Int) > 8
  · rw [run_iteT (by simpa using c2), run_ret]
  rw [run_iteF (by simpa using c2), run_req ⟨by omega, by omega⟩]
  cases c3 : (ways.getD (Int.toNat 0) GT.int.nought != 1) with
  | true => rw [run_itT, run_ret]
  | false =>
  rw [run_itF]
  by_cases c4 : a < 1
  · rw [run_iteT (by simpa using c4), run_ret]
  rw [run_iteF (by simpa using c4)]
  by_cases c5 : a ≥ (ways.length : Int)
  · rw [run_iteT (by simpa using c5), run_ret]
  rw [run_iteF (by simpa using c5)]
  obtain ⟨at_, rfl⟩ : ∃ k : Nat, a = (k : Int) := ⟨a.toNat, by omega⟩
  have hl : ways.length ≤ 8 := by omega
  have hat : at_ < ways.length := by omega
  have h0 : 0 < at_ := by omega
  obtain ⟨r, h1, rfl | ⟨rfl, hall⟩⟩ := e_limit_loop ways at_ deep file hl hat
  · refine (run_bind h1).trans ?_
    rw [run_caseL, run_ret]
  refine (run_bind h1).trans ?_
  rw [run_caseR]
  dsimp only
  obtain ⟨f1, f2⟩ := fin_of (deep := deep) (file := file) hl h0 hat
  have hw1 : IntKind.i64.wrap ((at_ : Int) - 1) = ((at_ - 1 : Nat) : Int) := wrP h0 (by omega)
  cases file with
  | true =>
    have F := find_file (ways := ways) (deep := deep) h0 hat
    have U := up_of h0 (by omega) h0 F
    have e1 : (at_ : Int) - 1 = ((at_ - 1 : Nat) : Int) := by omega
    rw [run_itT, run_same]
    refine (run_bind (f1.trans (congrArg some F))).trans ?_
    rw [run_same]
    refine (run_bind (f2.trans (congrArg some U))).trans ?_
    dsimp only
    rw [run_iteT (by rfl), run_iteT (by rfl), hw1, e1, run_iteT (by simp), run_iteT (by simp), run_iteT (by rfl), run_iteT (by rw [dirsN_len, wrS (by omega)]; simp; omega), run_bind e_known12, run_ret]
  | false =>
    have F := find_sign (ways := ways) (deep := deep) h0 hat
    have hv : heedsC ⟨ways, 1⟩ (at_ : Int) = (ways[at_] == 1 || ways[at_] == 3) := by
      unfold heedsC; rw [if_pos ⟨by omega, by show (at_ : Int) < (ways.length : Int); omega⟩]; simp [hat]
    have hr := hall at_ hat
    rw [run_itF, run_req (inb hat)]
    simp only [getD_int hat]
    by_cases e2 : ways[at_] = 2
    · rw [hv, e2, if_neg (by decide)] at F
      have U := up_of h0 (by omega) (by omega) F
      have e1 : (ways.length : Int) - 1 = ((ways.length - 1 : Nat) : Int) := by omega
      have hw2 : IntKind.i64.wrap ((ways.length : Int) - 1) = ((ways.length - 1 : Nat) : Int) := wrP (by omega) (by omega)
      rw [run_iteF (by simpa using e2), run_same]
      refine (run_bind (f1.trans (congrArg some F))).trans ?_
      rw [run_same]
      refine (run_bind (f2.trans (congrArg some U))).trans ?_
      dsimp only
      rw [run_iteT (by rfl), run_iteT (by rfl), hw2, e1, run_iteT (by simp), run_iteT (by simp), run_iteT (by rfl), run_iteT (by rw [dirsN_len, wrS (by omega)]; simp; omega), run_bind e_known12, run_ret]
    · have e3 : (ways[at_] == 1 || ways[at_] == 3) = true := by simp; omega
      rw [hv, e3, if_pos rfl] at F
      have U := up_of h0 (by omega) (by omega) F
      rw [run_iteT (by simpa using e2), run_same]
      refine (run_bind (f1.trans (congrArg some F))).trans ?_
      rw [run_same]
      refine (run_bind (f2.trans (congrArg some U))).trans ?_
      dsimp only
      rw [run_iteT (by rfl), run_iteT (by rfl), run_iteT (by simp), run_iteT (by simp), run_iteT (by rfl), run_iteT (by rw [dirsN_len, wrS (by omega)]; simp), run_bind e_known12, run_ret]

end Go.Proofs.Ytjichafmpanegaa.VS
