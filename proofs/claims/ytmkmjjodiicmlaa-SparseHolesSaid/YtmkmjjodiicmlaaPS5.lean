/- Chapter 2: holes. Conditions: none. -/
import Derived.Test.YtmkmjjodiicmlaaPS4
namespace Go.Proofs.Ytmkmjjodiicmlaa.VS
set_option maxRecDepth 100000
set_option linter.unusedVariables false
set_option linter.unusedSimpArgs false

theorem e_cut_empty (s : Int) : f_sparse_Cut ⟨0, []⟩ s = some ⟨s, []⟩ := by
  have hc := e_sparse_copied (f := ⟨0, []⟩) (filS_nil.sm (by unfold SM; simp))
  have hL : L_sparse_Cut_l0 (s, ⟨0, []⟩, ⟨s, []⟩, [], 0, 0) = some (⟨0, []⟩, ⟨s, []⟩) := by
    unfold L_sparse_Cut_l0
    refine fixT_out ?_
    rfl
  simp only [f_sparse_Cut, t_sparse_Cut]
  rw [run_bind hc, run_same]
  refine (run_bind hL).trans ?_
  rfl

theorem readL_nil (a n : Nat) : readL [] a n = List.replicate n 0 := by
  apply List.ext_getElem
  · simp [readL]
  · intro i h1 h2
    simp only [readL, List.getElem_map, List.getElem_range', List.getElem_replicate, bAt_nil]

theorem law_SparseHoles (s a : Int) (b : List UInt8) : f_law2_SparseHoles s a b = some true := by
  have hk := e_law2_known
  have htt : ∀ {x : T Bool}, (x = T.ret true) → x.run = some true := fun h => by rw [h]; rfl
  simp only [f_law2_SparseHoles, t_law2_SparseHoles]
  by_cases c1 : s < 0
  · rw [run_iteT (by simpa using c1), run_ret]
  rw [run_iteF (by simpa using c1)]
  by_cases c2 : s > 2000
  · rw [run_iteT (by simpa using c2), run_ret]
  rw [run_iteF (by simpa using c2)]
  by_cases c3 : a < 0
  · rw [run_iteT (by simpa using c3), run_ret]
  rw [run_iteF (by simpa using c3)]
  by_cases c4 : a > 2000
  · rw [run_iteT (by simpa using c4), run_ret]
  rw [run_iteF (by simpa using c4)]
  by_cases c5 : (b.length : Int) < 1
  · rw [run_iteT (by simpa using c5), run_ret]
  rw [run_iteF (by simpa using c5)]
  by_cases c6 : (b.length : Int) > 100
  · rw [run_iteT (by simpa using c6), run_ret]
  rw [run_iteF (by simpa using c6)]
  obtain ⟨s, rfl⟩ : ∃ k : Nat, s = (k : Int) := ⟨s.toNat, by omega⟩
  obtain ⟨a, rfl⟩ : ∃ k : Nat, a = (k : Int) := ⟨a.toNat, by omega⟩
  have hSM : SM = SM := rfl
  have hb : b ≠ [] := by intro e; rw [e] at c5; simp at c5
  have hsm : 2000 ≤ SM := by unfold SM; omega
  obtain ⟨l, w1, w2, w3, w4, w5, w6⟩ := e_sparse_Write (f := ⟨(s : Int), []⟩) filS_nil s a b rfl (by omega) (by simp only [List.length_nil]; omega) (by omega)
  rw [if_neg hb] at w1
  generalize hmx : max s (a + b.length) = mx at w1
  simp only [List.length_nil] at w5 w6
  have w6 := w6 (.inr fun k _ => rfl)
  have hr1 := e_sparse_Read (f := ⟨(s : Int), []⟩) filS_nil (by simp) s 0 s rfl (by omega) (by omega)
  rw [show min (0 + s) s - 0 = s by omega, readL_nil] at hr1
  have hr2 := e_sparse_Read (f := ⟨(mx : Int), l⟩) w2 (show l.length ≤ SM by omega) mx 0 a rfl (by omega) (by omega)
  have e2 : readL l 0 (min (0 + a) mx - 0) = List.replicate a 0 := by
    rw [show min (0 + a) mx - 0 = a by omega]
    apply List.ext_getElem
    · simp [readL]
    · intro i h1 h2
      rw [readL_len] at h1
      simp only [readL, List.getElem_map, List.getElem_range', List.getElem_replicate]
      rw [w3, if_neg (by omega), bAt_nil]
  have e2 : f_sparse_Read ⟨(mx : Int), l⟩ ((0 : Nat) : Int) (a : Int) = some (List.replicate a 0) := hr2.trans (congrArg some e2)
  have hr3 := e_sparse_Read (f := ⟨(mx : Int), l⟩) w2 (show l.length ≤ SM by omega) mx a b.length rfl (by omega) (by omega)
  have e3 : readL l a (min (a + b.length) mx - a) = b := by
    rw [show min (a + b.length) mx - a = b.length by omega]
    apply List.ext_getElem
    · simp [readL]
    · intro i h1 h2
      rw [readL_len] at h1
      simp only [readL, List.getElem_map, List.getElem_range']
      rw [w3, if_pos (by omega), List.getD_eq_getElem?_getD, List.getElem?_eq_getElem (by omega)]
      simp only [Option.getD_some]
      congr 1; omega
  have e3 : f_sparse_Read ⟨(mx : Int), l⟩ (a : Int) (b.length : Int) = some b := hr3.trans (congrArg some e3)
  have m1 := e_sparse_More (f := ⟨(s : Int), []⟩) filS_nil (by simp) a b.length (by omega)
  have m1' : ((List.range' (a / 16) (cntB a b.length)).countP fun k : Nat => !(blkAt [] (k : Int)).isSome) = cntB a b.length := by
    exact (List.countP_eq_length.2 fun k _ => rfl).trans (List.length_range' ..)
  have m1 : f_sparse_More ⟨(s : Int), []⟩ (a : Int) (b.length : Int) = some ((cntB a b.length : Nat) : Int) := by rw [m1]; dsimp only; rw [m1']
  have m2 := e_sparse_More (f := ⟨(mx : Int), l⟩) w2 (show l.length ≤ SM by omega) a b.length (by omega)
  have m2' : ((List.range' (a / 16) (cntB a b.length)).countP fun k : Nat => !(blkAt l (k : Int)).isSome) = 0 := by
    rw [List.countP_eq_zero]
    intro k hk
    rw [List.mem_range'_1] at hk
    rw [w4]; simp only [hk.1, hk.2, decide_true, Bool.and_self, Bool.or_true]; decide
  have m2 : f_sparse_More ⟨(mx : Int), l⟩ (a : Int) (b.length : Int) = some 0 := by rw [m2]; dsimp only; rw [m2']; rfl
  have hcnt : cntB a b.length = (a + b.length - 1) / 16 - a / 16 + 1 := by unfold cntB; rw [if_neg (by omega)]
  have hneed : IntKind.i64.wrap (IntKind.i64.wrap (IntKind.i64.wrap ((IntKind.i64.wrap (IntKind.i64.wrap ((a : Int) + (b.length : Int)) - (1 : Int))).tdiv (16 : Int)) - IntKind.i64.wrap ((a : Int).tdiv (16 : Int))) + (1 : Int)) = ((cntB a b.length : Nat) : Int) := by
    rw [wr (n := (a : Int) + b.length) (by omega) (by omega), wr (n := (a : Int) + b.length - 1) (by omega) (by omega), show (a : Int) + b.length - 1 = ((a + b.length - 1 : Nat) : Int) by omega, tdivN, tdivN, wr (n := (((a + b.length - 1) / 16 : Nat) : Int)) (by omega) (by omega), wr (n := ((a / 16 : Nat) : Int)) (by omega) (by omega), wr (n := _ - _) (by omega) (by omega), wr (by omega) (by omega), hcnt]
    omega
  have hL : L_law2_SparseHoles_l0 ((s : Int), (a : Int), b, ⟨(s : Int), []⟩, ⟨(mx : Int), l⟩, ((cntB a b.length : Nat) : Int), List.replicate a 0, 0) = some (.inr ((s : Int), (a : Int), b, ⟨(s : Int), []⟩, ⟨(mx : Int), l⟩, ((cntB a b.length : Nat) : Int), List.replicate a 0)) := by
    refine loop_to (fun i => ((s : Int), (a : Int), b, (⟨(s : Int), []⟩ : Fil), (⟨(mx : Int), l⟩ : Fil), ((cntB a b.length : Nat) : Int), List.replicate a 0, (i : Int))) a (fun i hi => ?_) ?_
    · simp only [tl_law2_SparseHoles_l0, List.length_replicate]
      rw [run_iteT (by simpa using hi), run_req ⟨by omega, by omega⟩, run_iteF (by
        have : (List.replicate a (0 : UInt8)).getD ((i : Int)).toNat GT.u8.nought = 0 := by
          rw [List.getD_eq_getElem?_getD, Int.toNat_natCast, List.getElem?_replicate, if_pos hi]; rfl
        rw [this]; rfl), run_ret, wrS (by omega)]
    · simp only [tl_law2_SparseHoles_l0, List.length_replicate]
      rw [run_iteF (by simp), run_ret]
  have hsz : IntKind.i64.wrap ((a : Int) + (b.length : Int)) = ((a + b.length : Nat) : Int) := by rw [wr (by omega) (by omega)]; omega
  have hmxe : (if ((a + b.length : Nat) : Int) > (s : Int) then ((a + b.length : Nat) : Int) else (s : Int)) = (mx : Int) := by split <;> omega
  rw [run_bind (e_cut_empty _), run_iteF (by rfl), run_iteF (by simp)]
  refine (run_bind hr1).trans ?_
  rw [run_req ⟨by omega, trivial, rmM (by omega) (by omega)⟩, run_req (by simp)]
  rw [run_iteF (by simp), run_bind w1]
  refine (run_bind e2).trans ?_
  rw [hneed]
  refine (run_bind hL).trans ?_
  rw [run_caseR]
  dsimp only
  rw [run_iteT (by simp), run_iteT (by simp [w6]), run_bind m1, run_iteT (by simp), run_bind m2, run_iteT (by rfl), run_bind e3, run_iteT (by simp), run_iteT (by rw [hsz, hmxe]; simp), run_bind hk, run_ret]

end Go.Proofs.Ytmkmjjodiicmlaa.VS
