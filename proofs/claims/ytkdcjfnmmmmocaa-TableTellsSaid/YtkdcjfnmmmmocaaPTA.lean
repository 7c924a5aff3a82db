/- What chapter 13's functions answer, in plain words. Conditions: none. -/
import Derived.Test.YtkdcjfnmmmmocaaYCZ
namespace Go.Proofs.Ytkdcjfnmmmmocaa.VS
set_option maxRecDepth 100000
set_option linter.unusedVariables false
set_option linter.unusedSimpArgs false

/-! Numbers -/

theorem getD_in {α : Type} {l : List α} {i : Nat} {z : α} (h : i < l.length) : l.getD i z = l[i] := by simp [h]
theorem getD_intN {α : Type} {l : List α} {i : Nat} {z : α} (h : i < l.length) : l.getD ((i : Int).toNat) z = l[i] := by simp [h]

def cmp3 (a b : Int) : Int := if a < b then -1 else if b < a then 1 else 0
def fRow (next : Int) (r : Rwo) : Bool := decide (0 ≤ r.spot.branch) && decide (r.spot.branch < 8) && decide (1 ≤ r.spot.ino) && decide (r.spot.ino ≤ 2147483647) && decide (1 ≤ r.u) && decide (r.u < next)
def fAhead (a b : Spt) : Bool := decide (a.branch < b.branch) || (decide (a.branch = b.branch) && decide (a.ino < b.ino))

theorem tb_nan (a : Int) : f_cmp_isNaN_int a = some false := by simp [f_cmp_isNaN_int, t_cmp_isNaN_int, T.run]
theorem tb_nan64 (a : Int) : f_cmp_isNaN_int64 a = some false := by simp [f_cmp_isNaN_int64, t_cmp_isNaN_int64, T.run]
theorem tb_cmp (a b : Int) : f_cmp_Compare_int a b = some (cmp3 a b) := by
  simp only [f_cmp_Compare_int, t_cmp_Compare_int, T.run, tb_nan, Option.bind_some, cmp3, gt_iff_lt, decide_eq_true_eq, Bool.false_eq_true, if_false]
  split
  · rfl
  · split <;> rfl
theorem tb_cmp64 (a b : Int) : f_cmp_Compare_int64 a b = some (cmp3 a b) := by
  simp only [f_cmp_Compare_int64, t_cmp_Compare_int64, T.run, tb_nan64, Option.bind_some, cmp3, gt_iff_lt, decide_eq_true_eq, Bool.false_eq_true, if_false]
  split
  · rfl
  · split <;> rfl
theorem e_in (n k : Int) : f_table_in n k = some (decide (k ≤ n) && decide (n ≤ 2147483647)) := by
  simp only [f_table_in, t_table_in, T.run, ge_iff_le, decide_eq_true_eq]
  by_cases h : k ≤ n <;> simp [h]
theorem e_isRow (t : Tbl) (r : Rwo) : f_table_isRow t r = some (fRow t.next r) := by
  simp only [f_table_isRow, t_table_isRow, T.run, e_in, Option.bind_some, fRow, ge_iff_le]
  by_cases h1 : 0 ≤ r.spot.branch <;> by_cases h2 : r.spot.branch < 8 <;> by_cases h3 : 1 ≤ r.spot.ino <;> by_cases h4 : r.spot.ino ≤ 2147483647 <;> by_cases h5 : 1 ≤ r.u <;> simp [h1, h2, h3, h4, h5]
theorem e_rrow (t : Tbl) (r : Rwo) : f_r13_row t r = some (fRow t.next r) := by
  simp only [f_r13_row, t_r13_row, T.run, fRow, ge_iff_le]
  by_cases h1 : 0 ≤ r.spot.branch <;> by_cases h2 : r.spot.branch < 8 <;> by_cases h3 : 1 ≤ r.spot.ino <;> by_cases h4 : r.spot.ino ≤ 2147483647 <;> by_cases h5 : 1 ≤ r.u <;> simp [h1, h2, h3, h4, h5]
theorem e_ahead (a b : Spt) : f_r13_ahead a b = some (fAhead a b) := by
  simp only [f_r13_ahead, t_r13_ahead, T.run, fAhead]
  by_cases h1 : a.branch < b.branch <;> by_cases h2 : a.branch = b.branch <;> simp [h1, h2]
def fOddRow (t : Tbl) (r : Rwo) : Bool := !fRow t.next r
theorem e_odd (r : Rwo) (t : Tbl) : f_table_Is_1 r t = some (fOddRow t r) := by
  simp only [f_table_Is_1, t_table_Is_1, T.run, e_isRow, Option.bind_some, fOddRow]

/-! Loops over the numbers below a bound -/

theorem wrapN {i n : Nat} (h : i < n) (hn : n ≤ 1000000000000) : IntKind.wrap .i64 ((i : Int) + 1) = ((i + 1 : Nat) : Int) := by
  rw [wrap64 (by omega) (by omega)]; rfl

/-- A loop that looks at elements up to the first that is such. -/
def findGo {α : Type} (p : α → Bool) : List α → Nat → Int
  | [], _ => -1
  | x :: r, i => if p x then (i : Int) else findGo p r (i + 1)
theorem findGo_none {α : Type} (p : α → Bool) : ∀ (l : List α) (i : Nat), l.any p = false → findGo p l i = -1
  | [], _, _ => rfl
  | x :: r, i, h => by
    simp only [List.any_cons, Bool.or_eq_false_iff] at h
    simp only [findGo, h.1, Bool.false_eq_true, if_false]
    exact findGo_none p r (i + 1) h.2
theorem findGo_some {α : Type} (p : α → Bool) : ∀ (l : List α) (i : Nat), l.any p = true → 0 ≤ findGo p l i
  | [], _, h => by simp at h
  | x :: r, i, h => by
    rw [findGo]
    split
    · omega
    · rename_i hx
      simp only [List.any_cons, Bool.or_eq_true, hx] at h
      exact findGo_some p r (i + 1) (h.resolve_left (by simp))
theorem findGo_any {α : Type} (p : α → Bool) (l : List α) (i : Nat) : decide (findGo p l i ≥ 0) = l.any p := by
  cases h : l.any p with
  | false => simp [findGo_none p l i h]
  | true => simp [findGo_some p l i h]

theorem e_idx (l : List Rwo) (t : Tbl) (hl : l.length ≤ 1000000) : ∀ k i, i + k = l.length → L_slices_IndexFunc_Row__table_Is_1_l0 (l, t, (l.length : Int), (i : Int)) =
    some (if (l.drop i).any (fOddRow t) then .inl (findGo (fOddRow t) (l.drop i) i) else .inr ())
  | 0, i, h => by
    obtain rfl : i = l.length := by omega
    refine fixT_out ?_
    simp [tl_slices_IndexFunc_Row__table_Is_1_l0, T.run]
  | k + 1, i, h => by
    have hi : i < l.length := by omega
    have hd : l.drop i = l[i] :: l.drop (i + 1) := List.drop_eq_getElem_cons hi
    have e := getD_intN (z := GT.row.nought) hi
    have hb : (0 : Int) ≤ (i : Int) ∧ (i : Int) < (l.length : Int) := by omega
    rw [hd, List.any_cons, findGo]
    by_cases hp : fOddRow t l[i] = true
    · refine fixT_out ?_
      simp only [tl_slices_IndexFunc_Row__table_Is_1_l0, T.run, e, e_odd, hp, Option.bind_some, if_pos hb, decide_eq_true hb.2, if_true, Bool.true_or]
    · refine (fixT_next (q := (l, t, (l.length : Int), ((i + 1 : Nat) : Int))) ?_).trans ?_
      · have hw := wrapN hi (by omega)
        simp only [tl_slices_IndexFunc_Row__table_Is_1_l0, T.run, e, e_odd, hp, Option.bind_some, if_pos hb, decide_eq_true hb.2, if_true, Bool.false_eq_true, if_false, hw]
      · refine (e_idx l t hl k (i + 1) (by omega)).trans ?_
        simp only [hp, Bool.false_eq_true, if_false, Bool.false_or]
theorem e_has (l : List Rwo) (t : Tbl) (hl : l.length ≤ 1000000) : f_slices_ContainsFunc_Row__table_Is_1 l t = some (l.any (fOddRow t)) := by
  have h := e_idx l t hl l.length 0 (by omega)
  simp only [List.drop_zero] at h
  have h' : f_slices_IndexFunc_Row__table_Is_1 l t = some (findGo (fOddRow t) l 0) := by
    simp only [f_slices_IndexFunc_Row__table_Is_1, t_slices_IndexFunc_Row__table_Is_1, T.run]
    rw [show ((0 : Int)) = ((0 : Nat) : Int) from rfl, h]
    cases ha : l.any (fOddRow t) with
    | false => simp only [T.run, Option.bind_some, Bool.false_eq_true, if_false, findGo_none _ l 0 ha]
    | true => simp only [T.run, Option.bind_some, if_true]
  simp only [f_slices_ContainsFunc_Row__table_Is_1, t_slices_ContainsFunc_Row__table_Is_1, T.run, h', Option.bind_some]
  rw [← findGo_any _ l 0]
/-- The first that is not nought. -/
def firstNZ : List Int → Int
  | [] => 0
  | x :: r => if x = 0 then firstNZ r else x
theorem e_or (l : List Int) (hl : l.length ≤ 1000000) : ∀ k i, i + k = l.length → ∃ r, L_cmp_Or_int_l0 (0, l, (l.length : Int), (i : Int)) = some r ∧ (match r with | .inl a => a | .inr b => b) = firstNZ (l.drop i)
  | 0, i, h => by
    obtain rfl : i = l.length := by omega
    refine ⟨.inr 0, fixT_out ?_, by simp [firstNZ]⟩
    simp [tl_cmp_Or_int_l0, T.run]
  | k + 1, i, h => by
    have hi : i < l.length := by omega
    have hd : l.drop i = l[i] :: l.drop (i + 1) := List.drop_eq_getElem_cons hi
    by_cases hp : l[i] = 0
    · obtain ⟨r, h1, h2⟩ := e_or l hl k (i + 1) (by omega)
      refine ⟨r, (fixT_next (q := (0, l, (l.length : Int), ((i + 1 : Nat) : Int))) ?_).trans h1, ?_⟩
      · have := wrapN hi (by omega)
        simp [tl_cmp_Or_int_l0, T.run, hi, hp, this]
      · rw [h2, hd, firstNZ, if_pos hp]
    · refine ⟨.inl l[i], fixT_out ?_, ?_⟩
      · simp [tl_cmp_Or_int_l0, T.run, hi, hp]
      · rw [hd, firstNZ, if_neg hp]
theorem e_Or (l : List Int) (hl : l.length ≤ 1000000) : f_cmp_Or_int l = some (firstNZ l) := by
  obtain ⟨r, h1, h2⟩ := e_or l hl l.length 0 (by omega)
  simp only [List.drop_zero] at h2
  simp only [f_cmp_Or_int, t_cmp_Or_int, T.run]
  rw [show ((0 : Int)) = ((0 : Nat) : Int) from rfl] at h1 ⊢
  rw [h1]
  cases r <;> simp_all [T.run]
def fBySpot (a b : Spt) : Int := firstNZ [cmp3 a.branch b.branch, cmp3 a.ino b.ino]
theorem e_bySpot (r : Rwo) (s : Spt) : f_table_bySpot r s = some (fBySpot r.spot s) := by
  simp only [f_table_bySpot, t_table_bySpot, T.run, tb_cmp, tb_cmp64, Option.bind_some, e_Or _ (show [cmp3 r.spot.branch s.branch, cmp3 r.spot.ino s.ino].length ≤ 1000000 by simp), fBySpot]
theorem e_byU (r : Rwo) (u : Int) : f_table_byU r u = some (cmp3 r.u u) := by
  simp only [f_table_byU, t_table_byU, T.run, tb_cmp64, Option.bind_some]
theorem fBySpot_lt (a b : Spt) : decide (fBySpot a b ≥ 0) = !fAhead a b := by
  unfold fBySpot fAhead cmp3 firstNZ firstNZ firstNZ
  by_cases h1 : a.branch < b.branch
  · simp [h1]
  · by_cases h2 : b.branch < a.branch
    · simp [h1, h2]; omega
    · have h3 : a.branch = b.branch := by omega
      by_cases h4 : a.ino < b.ino
      · simp [h3, h4]
      · by_cases h5 : b.ino < a.ino <;> simp [h3, h4, h5]
theorem cmp3_lt (a b : Int) : decide (cmp3 a b ≥ 0) = !decide (a < b) := by
  unfold cmp3
  by_cases h1 : a < b
  · simp [h1]
  · by_cases h2 : b < a <;> simp [h1, h2]
end Go.Proofs.Ytkdcjfnmmmmocaa.VS
