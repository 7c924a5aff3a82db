/- When a table may be. Conditions: none. -/
import Derived.Test.YtkdcjfnmmmmocaaPTA
namespace Go.Proofs.Ytkdcjfnmmmmocaa.VS
set_option maxRecDepth 100000
set_option linter.unusedVariables false
set_option linter.unusedSimpArgs false

/-- Each and the one ahead of it. -/
def adjGo {α : Type} (p : α → α → Bool) : Option α → List α → Bool
  | _, [] => true
  | none, x :: r => adjGo p (some x) r
  | some y, x :: r => p y x && adjGo p (some x) r
def prevOf {α : Type} (l : List α) (i : Nat) : Option α := if i = 0 then none else l[i - 1]?
theorem prevOf_succ {α : Type} (l : List α) {i : Nat} (h : i < l.length) : prevOf l (i + 1) = some l[i] := by simp [prevOf, h]
theorem prevOf_pos {α : Type} (l : List α) {i : Nat} (h : i < l.length) (h0 : 0 < i) : prevOf l i = some (l[i - 1]'(by omega)) := by
  unfold prevOf; rw [if_neg (by omega)]; exact List.getElem?_eq_getElem _
def rowsLt (a b : Rwo) : Bool := fAhead a.spot b.spot
def homesLt (a b : Rwo) : Bool := decide (a.u < b.u)
def fTblIn (t : Tbl) : Bool := decide (1 ≤ t.next) && decide (t.next ≤ 2147483647) && decide (0 ≤ t.cursor) && decide (t.cursor ≤ 7)
def fIsT (t : Tbl) : Bool := fTblIn t && !(t.rows.any (fOddRow t)) && !(t.homes.any (fOddRow t)) && adjGo rowsLt none t.rows && adjGo homesLt none t.homes

theorem getD_prev {α : Type} {l : List α} {i : Nat} {z : α} (h : i < l.length) (h0 : 0 < i) (hn : l.length ≤ 1000000) : l.getD ((IntKind.i64.wrap ((i : Int) - 1)).toNat) z = l[i - 1]'(by omega) := by
  rw [wrap64 (by omega) (by omega), show ((i : Int) - 1).toNat = i - 1 by omega]
  exact getD_in (by omega)

theorem e_is0 (t : Tbl) (hl : t.rows.length ≤ 1000000) : ∀ k i, i + k = t.rows.length → L_table_Is_l0 (t, (t.rows.length : Int), (i : Int)) =
    some (if adjGo rowsLt (prevOf t.rows i) (t.rows.drop i) then .inr t else .inl false)
  | 0, i, h => by
    obtain rfl : i = t.rows.length := by omega
    refine fixT_out ?_
    simp [tl_table_Is_l0, T.run, adjGo]
  | k + 1, i, h => by
    have hi : i < t.rows.length := by omega
    have hd : t.rows.drop i = t.rows[i] :: t.rows.drop (i + 1) := List.drop_eq_getElem_cons hi
    have e := getD_intN (z := GT.row.nought) hi
    have hb : (0 : Int) ≤ (i : Int) ∧ (i : Int) < (t.rows.length : Int) := by omega
    have hw := wrapN hi (by omega)
    have ih := e_is0 t hl k (i + 1) (by omega)
    rw [prevOf_succ _ hi] at ih
    rw [hd]
    by_cases h0 : 0 < i
    · have hg : decide ((i : Int) > 0) = true := by simp; omega
      have hw' : IntKind.i64.wrap ((i : Int) - 1) = (i : Int) - 1 := wrap64 (by omega) (by omega)
      have hb' : (0 : Int) ≤ IntKind.i64.wrap ((i : Int) - 1) ∧ IntKind.i64.wrap ((i : Int) - 1) < (t.rows.length : Int) := by rw [hw']; omega
      rw [prevOf_pos _ hi h0, adjGo]
      have hp := fBySpot_lt (t.rows[i - 1]'(by omega)).spot t.rows[i].spot
      cases hc : rowsLt (t.rows[i - 1]'(by omega)) t.rows[i] with
      | true =>
        refine (fixT_next (q := (t, (t.rows.length : Int), ((i + 1 : Nat) : Int))) ?_).trans ?_
        · simp only [tl_table_Is_l0, T.run, decide_eq_true hb.2, if_true, hg, if_pos hb, if_pos hb', getD_prev (z := GT.row.nought) hi h0 hl, e, e_bySpot, Option.bind_some, hp, show fAhead _ _ = true from hc, Bool.not_true, Bool.false_eq_true, if_false, hw]
        · refine ih.trans ?_
          simp only [Bool.true_and]
      | false =>
        refine fixT_out ?_
        simp only [tl_table_Is_l0, T.run, decide_eq_true hb.2, if_true, hg, if_pos hb, if_pos hb', getD_prev (z := GT.row.nought) hi h0 hl, e, e_bySpot, Option.bind_some, hp, show fAhead _ _ = false from hc, Bool.not_false, Bool.false_and, Bool.false_eq_true, if_false]
    · obtain rfl : i = 0 := by omega
      refine (fixT_next (q := (t, (t.rows.length : Int), ((0 + 1 : Nat) : Int))) ?_).trans ?_
      · simp only [tl_table_Is_l0, T.run, decide_eq_true hb.2, if_true, show decide (((0 : Nat) : Int) > 0) = false from rfl, Bool.false_eq_true, if_false, hw]
      · refine ih.trans ?_
        simp only [prevOf, if_true, adjGo]
theorem e_is1 (t : Tbl) (hl : t.homes.length ≤ 1000000) : ∀ k i, i + k = t.homes.length → L_table_Is_l1 (t, (t.homes.length : Int), (i : Int)) =
    some (if adjGo homesLt (prevOf t.homes i) (t.homes.drop i) then .inr () else .inl false)
  | 0, i, h => by
    obtain rfl : i = t.homes.length := by omega
    refine fixT_out ?_
    simp [tl_table_Is_l1, T.run, adjGo]
  | k + 1, i, h => by
    have hi : i < t.homes.length := by omega
    have hd : t.homes.drop i = t.homes[i] :: t.homes.drop (i + 1) := List.drop_eq_getElem_cons hi
    have e := getD_intN (z := GT.row.nought) hi
    have hb : (0 : Int) ≤ (i : Int) ∧ (i : Int) < (t.homes.length : Int) := by omega
    have hw := wrapN hi (by omega)
    have ih := e_is1 t hl k (i + 1) (by omega)
    rw [prevOf_succ _ hi] at ih
    rw [hd]
    by_cases h0 : 0 < i
    · have hg : decide ((i : Int) > 0) = true := by simp; omega
      have hw' : IntKind.i64.wrap ((i : Int) - 1) = (i : Int) - 1 := wrap64 (by omega) (by omega)
      have hb' : (0 : Int) ≤ IntKind.i64.wrap ((i : Int) - 1) ∧ IntKind.i64.wrap ((i : Int) - 1) < (t.homes.length : Int) := by rw [hw']; omega
      rw [prevOf_pos _ hi h0, adjGo]
      have hp := cmp3_lt (t.homes[i - 1]'(by omega)).u t.homes[i].u
      cases hc : homesLt (t.homes[i - 1]'(by omega)) t.homes[i] with
      | true =>
        refine (fixT_next (q := (t, (t.homes.length : Int), ((i + 1 : Nat) : Int))) ?_).trans ?_
        · simp only [tl_table_Is_l1, T.run, decide_eq_true hb.2, if_true, hg, if_pos hb, if_pos hb', getD_prev (z := GT.row.nought) hi h0 hl, e, e_byU, Option.bind_some, hp, show decide (_ < _) = true from hc, Bool.not_true, Bool.false_eq_true, if_false, hw]
        · refine ih.trans ?_
          simp only [Bool.true_and]
      | false =>
        refine fixT_out ?_
        simp only [tl_table_Is_l1, T.run, decide_eq_true hb.2, if_true, hg, if_pos hb, if_pos hb', getD_prev (z := GT.row.nought) hi h0 hl, e, e_byU, Option.bind_some, hp, show decide (_ < _) = false from hc, Bool.not_false, Bool.false_and, Bool.false_eq_true, if_false]
    · obtain rfl : i = 0 := by omega
      refine (fixT_next (q := (t, (t.homes.length : Int), ((0 + 1 : Nat) : Int))) ?_).trans ?_
      · simp only [tl_table_Is_l1, T.run, decide_eq_true hb.2, if_true, show decide (((0 : Nat) : Int) > 0) = false from rfl, Bool.false_eq_true, if_false, hw]
      · refine ih.trans ?_
        simp only [prevOf, if_true, adjGo]
theorem e_Is (t : Tbl) (h1 : t.rows.length ≤ 1000000) (h2 : t.homes.length ≤ 1000000) : f_table_Is t = some (fIsT t) := by
  have a := e_is0 t h1 t.rows.length 0 (by omega)
  have b := e_is1 t h2 t.homes.length 0 (by omega)
  simp only [List.drop_zero, show prevOf t.rows 0 = none from rfl, show prevOf t.homes 0 = none from rfl, Int.ofNat_zero] at a b
  replace a : L_table_Is_l0 (t, (t.rows.length : Int), 0) = _ := a
  replace b : L_table_Is_l1 (t, (t.homes.length : Int), 0) = _ := b
  simp only [f_table_Is, t_table_Is, T.run, e_in, e_has _ t h1, e_has _ t h2, Option.bind_some, a, fIsT, fTblIn]
  have d1 : decide (0 ≤ t.cursor) = !decide (t.cursor < 0) := by by_cases h : t.cursor < 0 <;> simp [h] <;> omega
  have d2 : decide (t.cursor ≤ 7) = !decide (t.cursor > 7) := by by_cases h : t.cursor ≤ 7 <;> simp [h] <;> omega
  rw [d1, d2]
  cases decide (1 ≤ t.next) <;> cases decide (t.next ≤ 2147483647) <;> cases decide (t.cursor < 0) <;> cases decide (t.cursor > 7) <;> try rfl
  cases k5 : t.rows.any (fOddRow t)
  · cases k6 : t.homes.any (fOddRow t)
    · cases k7 : adjGo rowsLt none t.rows
      · rfl
      · simp only [Bool.false_eq_true, if_false, if_true, T.run, b, Option.bind_some, Bool.and_true, Bool.not_false, Bool.not_true]
        cases k8 : adjGo homesLt none t.homes <;> rfl
    · rfl
  · rfl
/-! The reference's -/
theorem e_ris0 (t : Tbl) (hl : t.rows.length ≤ 1000000) : ∀ k i, i + k = t.rows.length → L_r13_Is_l0 (t, (i : Int)) =
    some (if (t.rows.drop i).any (fOddRow t) || !adjGo rowsLt (prevOf t.rows i) (t.rows.drop i) then .inl false else .inr t)
  | 0, i, h => by
    obtain rfl : i = t.rows.length := by omega
    refine fixT_out ?_
    simp [tl_r13_Is_l0, T.run, adjGo]
  | k + 1, i, h => by
    have hi : i < t.rows.length := by omega
    have hd : t.rows.drop i = t.rows[i] :: t.rows.drop (i + 1) := List.drop_eq_getElem_cons hi
    have e := getD_intN (z := GT.row.nought) hi
    have hb : (0 : Int) ≤ (i : Int) ∧ (i : Int) < (t.rows.length : Int) := by omega
    have hw := wrapN hi (by omega)
    have ih := e_ris0 t hl k (i + 1) (by omega)
    rw [prevOf_succ _ hi] at ih
    rw [hd, List.any_cons]
    cases hr : fRow t.next t.rows[i] with
    | false =>
      refine fixT_out ?_
      simp only [tl_r13_Is_l0, T.run, decide_eq_true hb.2, if_true, if_pos hb, e, e_rrow, hr, Option.bind_some, Bool.not_false, show fOddRow t t.rows[i] = true by simp [fOddRow, hr], Bool.true_or]
    | true =>
      have hodd : fOddRow t t.rows[i] = false := by simp [fOddRow, hr]
      by_cases h0 : 0 < i
      · have hg : decide ((i : Int) > 0) = true := by simp; omega
        have hw' : IntKind.i64.wrap ((i : Int) - 1) = (i : Int) - 1 := wrap64 (by omega) (by omega)
        have hb' : (0 : Int) ≤ IntKind.i64.wrap ((i : Int) - 1) ∧ IntKind.i64.wrap ((i : Int) - 1) < (t.rows.length : Int) := by rw [hw']; omega
        rw [prevOf_pos _ hi h0, adjGo]
        cases hc : rowsLt (t.rows[i - 1]'(by omega)) t.rows[i] with
        | true =>
          refine (fixT_next (q := (t, ((i + 1 : Nat) : Int))) ?_).trans ?_
          · simp only [tl_r13_Is_l0, T.run, decide_eq_true hb.2, if_true, if_pos hb, e, e_rrow, hr, Option.bind_some, Bool.not_true, Bool.false_eq_true, if_false, hg, if_pos hb', getD_prev (z := GT.row.nought) hi h0 hl, e_ahead, show fAhead _ _ = true from hc, hw]
          · refine ih.trans ?_
            simp only [Bool.true_and, hodd, Bool.false_or]
        | false =>
          refine fixT_out ?_
          simp only [tl_r13_Is_l0, T.run, decide_eq_true hb.2, if_true, if_pos hb, e, e_rrow, hr, Option.bind_some, Bool.not_true, Bool.false_eq_true, if_false, hg, if_pos hb', getD_prev (z := GT.row.nought) hi h0 hl, e_ahead, show fAhead _ _ = false from hc, Bool.not_false, Bool.false_and, Bool.or_true]
      · obtain rfl : i = 0 := by omega
        refine (fixT_next (q := (t, ((0 + 1 : Nat) : Int))) ?_).trans ?_
        · simp only [tl_r13_Is_l0, T.run, decide_eq_true hb.2, if_true, if_pos hb, e, e_rrow, hr, Option.bind_some, Bool.not_true, show decide (((0 : Nat) : Int) > 0) = false from rfl, Bool.false_eq_true, if_false, hw]
        · refine ih.trans ?_
          simp only [prevOf, if_true, adjGo, hodd, Bool.false_or]
theorem e_ris1 (t : Tbl) (hl : t.homes.length ≤ 1000000) : ∀ k i, i + k = t.homes.length → L_r13_Is_l1 (t, (i : Int)) =
    some (if (t.homes.drop i).any (fOddRow t) || !adjGo homesLt (prevOf t.homes i) (t.homes.drop i) then .inl false else .inr t)
  | 0, i, h => by
    obtain rfl : i = t.homes.length := by omega
    refine fixT_out ?_
    simp [tl_r13_Is_l1, T.run, adjGo]
  | k + 1, i, h => by
    have hi : i < t.homes.length := by omega
    have hd : t.homes.drop i = t.homes[i] :: t.homes.drop (i + 1) := List.drop_eq_getElem_cons hi
    have e := getD_intN (z := GT.row.nought) hi
    have hb : (0 : Int) ≤ (i : Int) ∧ (i : Int) < (t.homes.length : Int) := by omega
    have hw := wrapN hi (by omega)
    have ih := e_ris1 t hl k (i + 1) (by omega)
    rw [prevOf_succ _ hi] at ih
    rw [hd, List.any_cons]
    cases hr : fRow t.next t.homes[i] with
    | false =>
      refine fixT_out ?_
      simp only [tl_r13_Is_l1, T.run, decide_eq_true hb.2, if_true, if_pos hb, e, e_rrow, hr, Option.bind_some, Bool.not_false, show fOddRow t t.homes[i] = true by simp [fOddRow, hr], Bool.true_or]
    | true =>
      have hodd : fOddRow t t.homes[i] = false := by simp [fOddRow, hr]
      by_cases h0 : 0 < i
      · have hg : decide ((i : Int) > 0) = true := by simp; omega
        have hw' : IntKind.i64.wrap ((i : Int) - 1) = (i : Int) - 1 := wrap64 (by omega) (by omega)
        have hb' : (0 : Int) ≤ IntKind.i64.wrap ((i : Int) - 1) ∧ IntKind.i64.wrap ((i : Int) - 1) < (t.homes.length : Int) := by rw [hw']; omega
        rw [prevOf_pos _ hi h0, adjGo]
        cases hc : homesLt (t.homes[i - 1]'(by omega)) t.homes[i] with
        | true =>
          have hc' : decide ((t.homes[i - 1]'(by omega)).u ≥ t.homes[i].u) = false := by unfold homesLt at hc; simp at hc ⊢; exact hc
          refine (fixT_next (q := (t, ((i + 1 : Nat) : Int))) ?_).trans ?_
          · simp only [tl_r13_Is_l1, T.run, decide_eq_true hb.2, if_true, if_pos hb, e, e_rrow, hr, Option.bind_some, Bool.not_true, Bool.false_eq_true, if_false, hg, if_pos hb', getD_prev (z := GT.row.nought) hi h0 hl, hc', hw]
          · refine ih.trans ?_
            simp only [Bool.true_and, hodd, Bool.false_or]
        | false =>
          have hc' : decide ((t.homes[i - 1]'(by omega)).u ≥ t.homes[i].u) = true := by unfold homesLt at hc; simp at hc ⊢; exact hc
          refine fixT_out ?_
          simp only [tl_r13_Is_l1, T.run, decide_eq_true hb.2, if_true, if_pos hb, e, e_rrow, hr, Option.bind_some, Bool.not_true, Bool.false_eq_true, if_false, hg, if_pos hb', getD_prev (z := GT.row.nought) hi h0 hl, hc', Bool.not_false, Bool.false_and, Bool.or_true]
      · obtain rfl : i = 0 := by omega
        refine (fixT_next (q := (t, ((0 + 1 : Nat) : Int))) ?_).trans ?_
        · simp only [tl_r13_Is_l1, T.run, decide_eq_true hb.2, if_true, if_pos hb, e, e_rrow, hr, Option.bind_some, Bool.not_true, show decide (((0 : Nat) : Int) > 0) = false from rfl, Bool.false_eq_true, if_false, hw]
        · refine ih.trans ?_
          simp only [prevOf, if_true, adjGo, hodd, Bool.false_or]
theorem e_rIs (t : Tbl) (h1 : t.rows.length ≤ 1000000) (h2 : t.homes.length ≤ 1000000) : f_r13_Is t = some (fIsT t) := by
  have a := e_ris0 t h1 t.rows.length 0 (by omega)
  have b := e_ris1 t h2 t.homes.length 0 (by omega)
  simp only [List.drop_zero, show prevOf t.rows 0 = none from rfl, show prevOf t.homes 0 = none from rfl] at a b
  replace a : L_r13_Is_l0 (t, 0) = _ := a
  replace b : L_r13_Is_l1 (t, 0) = _ := b
  simp only [f_r13_Is, t_r13_Is, T.run, Option.bind_some, a, fIsT, fTblIn]
  cases k5 : t.rows.any (fOddRow t)
  · cases k7 : adjGo rowsLt none t.rows
    · simp [T.run]
    · simp only [Bool.false_eq_true, if_false, Bool.not_true, Bool.or_false, T.run, b, Option.bind_some, Bool.not_false, Bool.and_true]
      cases k6 : t.homes.any (fOddRow t)
      · cases k8 : adjGo homesLt none t.homes
        · simp [T.run]
        · simp only [Bool.false_eq_true, if_false, Bool.not_true, Bool.or_false, T.run, Bool.not_false, Bool.and_true, ge_iff_le]
          by_cases k1 : 1 ≤ t.next <;> by_cases k2 : t.next ≤ 2147483647 <;> by_cases k3 : 0 ≤ t.cursor <;> simp [k1, k2, k3]
          omega
      · simp [T.run]
  · simp [T.run]
end Go.Proofs.Ytkdcjfnmmmmocaa.VS
