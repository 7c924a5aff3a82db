/- Chapter 13: the laws TableTells, TablePuts. Conditions: none. -/
import Derived.Test.YtkdcjfnmmmmocaaPX3
namespace Go.Proofs.Ytkdcjfnmmmmocaa.VS
set_option maxRecDepth 100000
set_option linter.unusedVariables false
set_option linter.unusedSimpArgs false

theorem one_is : fIsT ⟨1, [], [], 0⟩ = true := by decide
theorem e_known : f_law13_known = some true := by
  obtain ⟨_, _, k3, _⟩ := bytes_back one_is (by simp) (by simp)
  have k4 := read_back one_is (by simp) (by simp)
  have g3 : (((fBytes ⟨1, [], [], 0⟩).getD (Int.toNat 3) GT.u8.nought).toNat : Int) = 1 := by
    have : fBytes ⟨1, [], [], 0⟩ = headB ⟨1, [], [], 0⟩ ++ rowsB ([] ++ []) := by unfold fBytes; rw [if_pos one_is]
    rw [this]
    show ((byteAt 1 0).toNat : Int) = 1
    rw [byteAt_nat 1 0 1 (by decide) (by decide)]
    decide
  unfold f_law13_known t_law13_known
  rw [T.run, e_Bytes _ (by simp) (by simp), Option.bind_some, T.run, T.run, e_Read _ (by rw [k3]; simp), Option.bind_some, k4, T.run, k3, if_pos (by decide), T.run, if_pos (by decide), T.run, if_pos (by decide), T.run, g3, if_pos (by decide), T.run, if_pos (by decide), T.run, if_pos (by decide), T.run,
    e_Is _ (by simp) (by simp), one_is, Option.bind_some, T.run, if_pos rfl, T.run, e_Is _ (by simp) (by simp), Option.bind_some, T.run]
  decide
theorem e_long (t : Tbl) : f_law13_long t = some (decide (100 < t.rows.length) || decide (100 < t.homes.length)) := by
  unfold f_law13_long t_law13_long
  rw [T.run]
  by_cases h : 100 < t.rows.length
  · rw [if_pos (by rw [decide_eq_true_eq]; omega), T.run]; simp [h]
  · rw [if_neg (by rw [decide_eq_true_eq]; omega), T.run]; simp [h]; omega

/-- A table that may be. -/
structure TblOK (t : Tbl) : Prop where
  inn : fTblIn t = true
  rows : ∀ r ∈ t.rows, fRow t.next r = true
  homes : ∀ r ∈ t.homes, fRow t.next r = true
  rs : t.rows.Pairwise ltS
  hs : t.homes.Pairwise ltU

theorem fIsT_iff (t : Tbl) : fIsT t = true ↔ TblOK t := by
  have odd : ∀ l : List Rwo, (!(l.any (fOddRow t))) = true ↔ ∀ r ∈ l, fRow t.next r = true := fun l => by
    rw [Bool.not_eq_true', List.any_eq_false]
    constructor
    · intro h r hr; have := h r hr; simpa [fOddRow] using this
    · intro h r hr; have := h r hr; simp [fOddRow, this]
  unfold fIsT
  rw [Bool.and_eq_true, Bool.and_eq_true, Bool.and_eq_true, Bool.and_eq_true, rows_sorted, homes_sorted, odd, odd]
  exact ⟨fun ⟨⟨⟨⟨a, b⟩, c⟩, d⟩, e⟩ => ⟨a, b, c, d, e⟩, fun ⟨a, b, c, d, e⟩ => ⟨⟨⟨⟨a, b⟩, c⟩, d⟩, e⟩⟩

theorem law_TableTells (t : Tbl) (s : Spt) (u : Int) : f_law13_TableTells t s u = some true := by
  simp only [f_law13_TableTells, t_law13_TableTells]
  rw [run_bind (e_long t)]
  cases hl : (decide (100 < t.rows.length) || decide (100 < t.homes.length)) with
  | true => rw [run_iteT (by rfl), run_ret]
  | false =>
  simp only [Bool.or_eq_false_iff, decide_eq_false_iff_not] at hl
  obtain ⟨l1, l2⟩ := hl
  rw [run_iteF (by rfl)]
  by_cases g1 : s.branch < 0
  · rw [run_iteT (by simpa using g1), run_ret]
  rw [run_iteF (by simpa using g1)]
  by_cases g2 : s.branch > 7
  · rw [run_iteT (by simpa using g2), run_ret]
  rw [run_iteF (by simpa using g2)]
  by_cases g3 : s.ino < 1
  · rw [run_iteT (by simpa using g3), run_ret]
  rw [run_iteF (by simpa using g3)]
  by_cases g4 : s.ino > 2147483647
  · rw [run_iteT (by simpa using g4), run_ret]
  rw [run_iteF (by simpa using g4)]
  by_cases g5 : u < 1
  · rw [run_iteT (by simpa using g5), run_ret]
  rw [run_iteF (by simpa using g5), run_bind (e_rIs t (by omega) (by omega)), run_bind (e_Is t (by omega) (by omega)), run_iteF (by simp)]
  cases hi : fIsT t with
  | false => rw [run_iteT (by rfl), run_bind (e_Is t (by omega) (by omega)), hi, run_iteT (by rfl), run_bind e_known, run_ret]
  | true =>
  obtain ⟨_, _, _, hr, hh⟩ := (fIsT_iff t).1 hi
  have pr := putG_len (p := pS s) (eq := eS s) (x := (⟨s, u⟩ : Rwo)) (l := t.rows)
  have ph := putG_len (p := pU u) (eq := eU u) (x := (⟨s, u⟩ : Rwo)) (l := t.homes)
  have fr : ∀ q : Rwo → Bool, (t.rows.filter q).length ≤ t.rows.length := fun q => List.length_filter_le _ _
  have fh : ∀ q : Rwo → Bool, (t.homes.filter q).length ≤ t.homes.length := fun q => List.length_filter_le _ _
  have f1 := fr fun x => !eS s x
  have f2 := fr fun x => !eU u x
  have f3 := fh fun x => !eU u x
  rw [run_iteF (by rfl), run_bind (e_table_U (by omega) hr s), run_bind (e_r13_U (by omega) s), run_bind (e_table_Home (by omega) hh u), run_bind (e_r13_Home (by omega) u), run_iteF (by simp), run_iteF (by simp), run_iteF (by simp), run_iteF (by simp),
    run_bind (e_table_Put (by omega) (by omega) hr s u), run_bind (e_r13_Put (by omega) hr s u), run_bind (e_rSame _ _ (by simp only; omega) (by simp only; omega)), run_iteT (by simp),
    run_bind (e_table_Move (by omega) (by omega) hh u s), run_bind (e_r13_Move (by omega) hh u s), run_bind (e_rSame _ _ (by simp only; omega) (by simp only; omega)), run_iteT (by simp),
    run_bind (e_table_Lose (by omega) (by omega) s), run_bind (e_r13_Lose (by omega) s), run_bind (e_rSame _ _ (by simp only; omega) (by simp only; omega)), run_iteT (by simp),
    run_bind (e_table_Gone (by omega) (by omega) u), run_bind (e_r13_Gone (by omega) (by omega) u), run_bind (e_rSame _ _ (by simp only; omega) (by simp only; omega)), run_iteT (by simp), run_bind e_known, run_ret]

theorem eS_put {s : Spt} {u : Int} {l : List Rwo} (hr : l.Pairwise ltS) {r : Rwo} (h : r ∈ putG (pS s) (eS s) ⟨s, u⟩ l) (he : eS s r = true) : r = ⟨s, u⟩ := by
  unfold putG at h
  rcases List.mem_append.1 h with h | h
  · rw [(keyS s).pe r (take_p r h)] at he; cases he
  · rcases List.mem_cons.1 h with h | h
    · exact h
    · have : r ∈ l.filter (fun x => !eS s x) := by rw [filterG (keyS s) hr]; exact List.mem_append_right _ h
      have := (List.mem_filter.1 this).2
      rw [he] at this; cases this

theorem law_TablePuts (t : Tbl) (s o : Spt) (u : Int) : f_law13_TablePuts t s o u = some true := by
  simp only [f_law13_TablePuts, t_law13_TablePuts]
  rw [run_bind (e_long t)]
  cases hl : (decide (100 < t.rows.length) || decide (100 < t.homes.length)) with
  | true => rw [run_iteT (by rfl), run_ret]
  | false =>
  simp only [Bool.or_eq_false_iff, decide_eq_false_iff_not] at hl
  obtain ⟨l1, l2⟩ := hl
  rw [run_iteF (by rfl), run_bind (e_rIs t (by omega) (by omega))]
  cases hi : fIsT t with
  | false => rw [run_iteT (by rfl), run_ret]
  | true =>
  obtain ⟨hin, hrows, hhomes, hr, hh⟩ := (fIsT_iff t).1 hi
  rw [run_iteF (by rfl)]
  cases g0 : (s.branch == o.branch && s.ino == o.ino) with
  | true => rw [run_iteT (by rfl), run_ret]
  | false =>
  rw [run_iteF (by rfl)]
  by_cases g1 : u < 1
  · rw [run_iteT (by simpa using g1), run_ret]
  rw [run_iteF (by simpa using g1)]
  by_cases g2 : u ≥ t.next
  · rw [run_iteT (by simpa using g2), run_ret]
  rw [run_iteF (by simpa using g2)]
  by_cases g3 : s.branch < 0
  · rw [run_iteT (by simpa using g3), run_ret]
  rw [run_iteF (by simpa using g3)]
  by_cases g4 : s.branch > 7
  · rw [run_iteT (by simpa using g4), run_ret]
  rw [run_iteF (by simpa using g4)]
  by_cases g5 : s.ino < 1
  · rw [run_iteT (by simpa using g5), run_ret]
  rw [run_iteF (by simpa using g5)]
  by_cases g6 : s.ino > 2147483647
  · rw [run_iteT (by simpa using g6), run_ret]
  rw [run_iteF (by simpa using g6)]
  have hne : s ≠ o := fun e => by subst e; simp at g0
  -- the table with the row
  have pr := putG_len (p := pS s) (eq := eS s) (x := (⟨s, u⟩ : Rwo)) (l := t.rows)
  have ph := putG_len (p := pU u) (eq := eU u) (x := (⟨s, u⟩ : Rwo)) (l := t.homes)
  have hes : eS s ⟨s, u⟩ = true := (eS_iff s _).2 rfl
  have heu : eU u ⟨s, u⟩ = true := by simp [eU]
  have xs := putG_sorted (keyS s) (x := (⟨s, u⟩ : Rwo)) ltS_trans (fun a h => h) (fun b h1 h2 => by
    unfold pS at h1
    unfold ltS
    rw [ahead_iff]
    have n1 : ¬ (b.spot.branch < s.branch ∨ (b.spot.branch = s.branch ∧ b.spot.ino < s.ino)) := fun h => by rw [(ahead_iff _ _).2 h] at h1; cases h1
    have n2 : ¬ b.spot = s := fun h => by rw [(eS_iff s b).2 h] at h2; cases h2
    have n3 : ¬ (b.spot.branch = s.branch ∧ b.spot.ino = s.ino) := fun ⟨h3, h4⟩ => n2 (by cases hb : b.spot; rw [hb] at h3 h4; cases s; simp_all)
    show s.branch < b.spot.branch ∨ (s.branch = b.spot.branch ∧ s.ino < b.spot.ino)
    omega) hr
  have ys := putG_sorted (keyU u) (x := (⟨s, u⟩ : Rwo)) ltU_trans (fun a h => by simpa [pU, ltU] using h) (fun b h1 h2 => by
    simp only [pU, decide_eq_false_iff_not] at h1
    simp only [eU, beq_eq_false_iff_ne] at h2
    show u < b.u
    omega) hh
  have u1 : uL (putG (pS s) (eS s) ⟨s, u⟩ t.rows) s = (u, true) := by unfold uL; rw [putG_eq (keyS s) hes]
  have u2 : uL (putG (pS s) (eS s) ⟨s, u⟩ t.rows) o = uL t.rows o := by
    unfold uL
    rw [putG_find (keyS s) hes (eS o) hr ?_ fun a ha => ?_]
    · cases hq : eS o ⟨s, u⟩ with
      | false => rfl
      | true => exact absurd ((eS_iff o _).1 hq) hne
    · cases hq : eS s a with
      | false => rfl
      | true => rw [eS_iff] at hq ha; exact absurd (hq.symm.trans ha) hne
  have u3 : uL ((putG (pS s) (eS s) ⟨s, u⟩ t.rows).filter fun x => !eS s x) s = (0, false) := by
    unfold uL
    rw [List.find?_eq_none.2 fun a ha => by have := (List.mem_filter.1 ha).2; simpa using this]
  have h1 : homeL (putG (pU u) (eU u) ⟨s, u⟩ t.homes) u = (s, true) := by unfold homeL; rw [putG_eq (keyU u) heu]
  have h2 : homeL ((putG (pU u) (eU u) ⟨s, u⟩ t.homes).filter fun x => !eU u x) u = (spot0, false) := by
    unfold homeL
    rw [List.find?_eq_none.2 fun a ha => by have := (List.mem_filter.1 ha).2; simpa using this]
  have u4 : uL ((putG (pS s) (eS s) ⟨s, u⟩ t.rows).filter fun x => !eU u x) s = (0, false) := by
    unfold uL
    rw [List.find?_eq_none.2 fun a ha => ?_]
    obtain ⟨k1, k2⟩ := List.mem_filter.1 ha
    intro he
    rw [eS_put hr k1 he, heu] at k2
    cases k2
  have fl : ∀ (q : Rwo → Bool) (l : List Rwo), (l.filter q).length ≤ l.length := fun q l => List.length_filter_le _ _
  have f1 := fl (fun x => !eS s x) (putG (pS s) (eS s) ⟨s, u⟩ t.rows)
  have f2 := fl (fun x => !eU u x) (putG (pS s) (eS s) ⟨s, u⟩ t.rows)
  have f3 := fl (fun x => !eU u x) (putG (pU u) (eU u) ⟨s, u⟩ t.homes)
  have hx : fIsT ⟨t.next, putG (pS s) (eS s) ⟨s, u⟩ t.rows, t.homes, t.cursor⟩ = true := (fIsT_iff _).2 ⟨hin, fun r hr' => by
    rcases mem_putG hr' with rfl | h
    · unfold fRow
      simp only [Bool.and_eq_true, decide_eq_true_eq]
      omega
    · exact hrows r h, hhomes, xs, hh⟩
  have q1 := e_table_Put (t := t) (by omega) (by omega) hr s u
  generalize hR : putG (pS s) (eS s) ⟨s, u⟩ t.rows = R at *
  generalize hG : putG (pU u) (eU u) ⟨s, u⟩ t.homes = G at *
  have q2 : f_table_U ⟨t.next, R, t.homes, t.cursor⟩ s = some (u, true) := (e_table_U (by simp only; omega) xs s).trans (congrArg some u1)
  have q3 : f_table_U ⟨t.next, R, t.homes, t.cursor⟩ o = some (uL t.rows o) := (e_table_U (by simp only; omega) xs o).trans (congrArg some u2)
  have q4 : f_table_Lose ⟨t.next, R, t.homes, t.cursor⟩ s = some ⟨t.next, R.filter fun x => !eS s x, t.homes, t.cursor⟩ := e_table_Lose (by simp only; omega) (by simp only; omega) s
  have q5 : f_table_U ⟨t.next, R.filter fun x => !eS s x, t.homes, t.cursor⟩ s = some (0, false) := (e_table_U (by simp only; omega) (xs.filter _) s).trans (congrArg some u3)
  have q6 : f_table_Move ⟨t.next, R, t.homes, t.cursor⟩ u s = some ⟨t.next, R, G, t.cursor⟩ := by
    have := e_table_Move (t := ⟨t.next, R, t.homes, t.cursor⟩) (by show R.length ≤ 900; omega) (by show t.homes.length ≤ 900; omega) hh u s
    rw [← hG]; exact this
  have q7 : f_table_Home ⟨t.next, R, G, t.cursor⟩ u = some (s, true) := (e_table_Home (by simp only; omega) ys u).trans (congrArg some h1)
  have q8 : f_table_Gone ⟨t.next, R, G, t.cursor⟩ u = some ⟨t.next, R.filter fun x => !eU u x, G.filter fun x => !eU u x, t.cursor⟩ := e_table_Gone (by simp only; omega) (by simp only; omega) u
  have q9 : f_table_Home ⟨t.next, R.filter fun x => !eU u x, G.filter fun x => !eU u x, t.cursor⟩ u = some (spot0, false) := (e_table_Home (by simp only; omega) (ys.filter _) u).trans (congrArg some h2)
  have q10 : f_table_Gone ⟨t.next, R, t.homes, t.cursor⟩ u = some ⟨t.next, R.filter fun x => !eU u x, t.homes.filter fun x => !eU u x, t.cursor⟩ := e_table_Gone (by simp only; omega) (by simp only; omega) u
  have q11 : f_table_U ⟨t.next, R.filter fun x => !eU u x, t.homes.filter fun x => !eU u x, t.cursor⟩ s = some (0, false) := (e_table_U (by simp only; omega) (xs.filter _) s).trans (congrArg some u4)
  have q12 : f_table_Is ⟨t.next, R, t.homes, t.cursor⟩ = some true := (e_Is _ (by simp only; omega) (by simp only; omega)).trans (congrArg some hx)
  rw [run_bind q1, run_bind q2, run_bind q3, run_bind (e_r13_U (by omega) o), run_bind q4, run_bind q5, run_bind q6, run_bind q7, run_bind q6, run_bind q8, run_bind q9, run_bind q10, run_bind q11, run_iteT (by rfl), run_iteT (by simp), run_iteT (by simp), run_iteT (by simp), run_iteT (by rfl), run_iteT (by rfl), run_iteT (by simp), run_iteT (by rfl), run_iteT (by rfl), run_bind q12, run_iteT (by rfl), run_bind e_known, run_ret]
end Go.Proofs.Ytkdcjfnmmmmocaa.VS
