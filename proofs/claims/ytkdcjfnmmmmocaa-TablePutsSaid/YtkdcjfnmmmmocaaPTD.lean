/- Tables as bytes, and back. Conditions: none. -/
import Derived.Test.YtkdcjfnmmmmocaaPTC
namespace Go.Proofs.Ytkdcjfnmmmmocaa.VS
set_option maxRecDepth 100000
set_option linter.unusedVariables false
set_option linter.unusedSimpArgs false

def rowB (r : Rwo) : List UInt8 := byteOfInt r.spot.branch :: (fFour r.spot.ino ++ fFour r.u)
theorem rowB_len (r : Rwo) : (rowB r).length = 9 := rfl
def rowsB (l : List Rwo) : List UInt8 := l.flatMap rowB
theorem rowsB_len (l : List Rwo) : (rowsB l).length = 9 * l.length := by
  induction l with
  | nil => rfl
  | cons x r ih => rw [rowsB, List.flatMap_cons, List.length_append, rowB_len, List.length_cons]; rw [rowsB] at ih; omega
theorem rowsB_cons (x : Rwo) (l : List Rwo) : rowsB (x :: l) = rowB x ++ rowsB l := rfl
theorem rowsB_app (a b : List Rwo) : rowsB (a ++ b) = rowsB a ++ rowsB b := by simp [rowsB]
def headB (t : Tbl) : List UInt8 := fFour t.next ++ fFour t.rows.length ++ fFour t.homes.length ++ [byteOfInt t.cursor]
def fBytes (t : Tbl) : List UInt8 := if fIsT t then headB t ++ rowsB (t.rows ++ t.homes) else []

theorem e_bytes0 (rs : List Rwo) (hr : rs.length ≤ 200000) : ∀ (k i : Nat) (l : List UInt8), i + k = rs.length → l.length ≤ 100 + 9 * i → L_table_Bytes_l0 (l, rs, (rs.length : Int), (i : Int)) = some (l ++ rowsB (rs.drop i))
  | 0, i, l, h, _ => by
    obtain rfl : i = rs.length := by omega
    refine fixT_out ?_
    simp [tl_table_Bytes_l0, T.run, rowsB]
  | k + 1, i, l, h, hl => by
    have hi : i < rs.length := by omega
    have hd : rs.drop i = rs[i] :: rs.drop (i + 1) := List.drop_eq_getElem_cons hi
    have e := getD_intN (z := GT.row.nought) hi
    have hb : (0 : Int) ≤ (i : Int) ∧ (i : Int) < (rs.length : Int) := by omega
    have hw := wrapN hi (by omega)
    have key : l ++ rowsB (rs[i] :: rs.drop (i + 1)) = (l ++ [byteOfInt rs[i].spot.branch] ++ fFour rs[i].spot.ino ++ fFour rs[i].u) ++ rowsB (rs.drop (i + 1)) := by rw [rowsB_cons, rowB]; simp
    have hlen : (l ++ [byteOfInt rs[i].spot.branch] ++ fFour rs[i].spot.ino ++ fFour rs[i].u).length = l.length + 9 := by simp [fFour_len]
    rw [hd, key]
    refine (fixT_next (q := (l ++ [byteOfInt rs[i].spot.branch] ++ fFour rs[i].spot.ino ++ fFour rs[i].u, rs, (rs.length : Int), ((i + 1 : Nat) : Int))) ?_).trans (e_bytes0 rs hr k (i + 1) _ (by omega) (by rw [hlen]; omega))
    simp only [tl_table_Bytes_l0, T.run, decide_eq_true hb.2, if_true, if_pos hb, e, if_pos (u8r rs[i].spot.branch), e_four, Option.bind_some, true_and, hw]
    rw [if_pos (room1 (by simp; omega)), if_pos (room1 (by simp [fFour_len]; omega)), if_pos (room1 (by simp [fFour_len]; omega))]
    rfl
theorem headB_len (t : Tbl) : (headB t).length = 13 := rfl
theorem e_Bytes (t : Tbl) (h1 : t.rows.length ≤ 20000) (h2 : t.homes.length ≤ 20000) : f_table_Bytes t = some (fBytes t) := by
  simp only [f_table_Bytes, t_table_Bytes, T.run, e_Is t (by omega) (by omega), Option.bind_some, fBytes]
  cases fIsT t
  · rfl
  · simp only [Bool.not_true, Bool.false_eq_true, if_false, if_true, e_four, Option.bind_some, if_pos (u8r t.cursor)]
    rw [e_catB _ _ _ _ (by simp [fFour_len]), e_catR _ _ (by omega)]
    simp only [Option.bind_some]
    have h := e_bytes0 (t.rows ++ t.homes) (by simp; omega) (t.rows ++ t.homes).length 0 (headB t) (by omega) (by rw [headB_len]; omega)
    replace h : L_table_Bytes_l0 (headB t, t.rows ++ t.homes, ((t.rows ++ t.homes).length : Int), 0) = _ := h
    rw [List.drop_zero] at h
    rw [show fFour t.next ++ fFour t.rows.length ++ fFour t.homes.length ++ [UInt8.ofNat (IntKind.u8.wrap t.cursor).toNat] = headB t from rfl, h]
    rfl
/-! Sameness -/
theorem row_same (x y : Rwo) : (x.spot.branch == y.spot.branch && x.spot.ino == y.spot.ino && x.u == y.u) = decide (x = y) := by
  obtain ⟨⟨b, i⟩, u⟩ := x
  obtain ⟨⟨b', i'⟩, u'⟩ := y
  by_cases h1 : b = b' <;> by_cases h2 : i = i' <;> by_cases h3 : u = u' <;> simp [h1, h2, h3]
theorem e_rsame0 (a b : List Rwo) (hl : a.length = b.length) (hn : a.length ≤ 1000000) : ∀ k i, i + k = a.length → L_r13_same_l0 (a, b, (i : Int)) = some (if a.drop i = b.drop i then .inr () else .inl false)
  | 0, i, h => by
    obtain rfl : i = a.length := by omega
    refine fixT_out ?_
    rw [List.drop_eq_nil_of_le (by omega), List.drop_eq_nil_of_le (by omega)]
    simp [tl_r13_same_l0, T.run]
  | k + 1, i, h => by
    have hi : i < a.length := by omega
    have hi' : i < b.length := by omega
    have hw := wrapN hi (by omega)
    have hb : (0 : Int) ≤ (i : Int) ∧ (i : Int) < (a.length : Int) := by omega
    have hb' : (0 : Int) ≤ (i : Int) ∧ (i : Int) < (b.length : Int) := by omega
    rw [List.drop_eq_getElem_cons hi, List.drop_eq_getElem_cons hi']
    by_cases hx : a[i] = b[i]
    · refine (fixT_next (q := (a, b, ((i + 1 : Nat) : Int))) ?_).trans ?_
      · simp only [tl_r13_same_l0, T.run, decide_eq_true hb.2, if_true, if_pos hb, if_pos hb', getD_intN (z := GT.row.nought) hi, getD_intN (z := GT.row.nought) hi', row_same, decide_eq_true hx, Bool.not_true, Bool.false_eq_true, if_false, hw]
      · refine (e_rsame0 a b hl hn k (i + 1) (by omega)).trans ?_
        simp only [hx, List.cons.injEq, true_and]
    · refine fixT_out ?_
      simp only [tl_r13_same_l0, T.run, decide_eq_true hb.2, if_true, if_pos hb, if_pos hb', getD_intN (z := GT.row.nought) hi, getD_intN (z := GT.row.nought) hi', row_same, decide_eq_false hx, Bool.not_false, List.cons.injEq, hx, false_and, if_false]
      rfl
theorem e_rsame (a b : List Rwo) (hn : a.length ≤ 1000000) : f_r13_same a b = some (decide (a = b)) := by
  simp only [f_r13_same, t_r13_same, T.run]
  by_cases hl : a.length = b.length
  · have h := e_rsame0 a b hl hn a.length 0 (by omega)
    replace h : L_r13_same_l0 (a, b, 0) = _ := h
    rw [List.drop_zero, List.drop_zero] at h
    rw [if_neg (by simp [hl]), h]
    by_cases hx : a = b <;> simp [hx, T.run]
  · rw [if_pos (by simp; omega), decide_eq_false (fun e => hl (by rw [e]))]
theorem e_rSame (a b : Tbl) (h1 : a.rows.length ≤ 1000000) (h2 : a.homes.length ≤ 1000000) : f_r13_Same a b = some (decide (a = b)) := by
  simp only [f_r13_Same, t_r13_Same, T.run, e_rsame _ _ h1, e_rsame _ _ h2, Option.bind_some]
  obtain ⟨n, r, h, c⟩ := a
  obtain ⟨n', r', h', c'⟩ := b
  by_cases k1 : n = n' <;> by_cases k2 : c = c' <;> by_cases k3 : r = r' <;> by_cases k4 : h = h' <;> simp [k1, k2, k3, k4]
def rowOf (b : List UInt8) : Rwo := ⟨⟨((b.getD 0 0).toNat : Int), fNum (b.drop 1)⟩, fNum (b.drop 5)⟩
def rowsOf : Nat → List UInt8 → List Rwo
  | 0, _ => []
  | k + 1, b => rowOf b :: rowsOf k (b.drop 9)
theorem rowsOf_len : ∀ k b, (rowsOf k b).length = k
  | 0, _ => rfl
  | k + 1, b => by rw [rowsOf, List.length_cons, rowsOf_len k]
theorem wrapByte (x : UInt8) : IntKind.wrap .i64 (x.toNat : Int) = (x.toNat : Int) := by have := byte_lt x; exact wrap64 (by omega) (by omega)
theorem e_rowsL (n : Nat) (hn : n ≤ 1000000) : ∀ (k i : Nat) (b : List UInt8) (l : List Rwo), i + k = n → 9 * k ≤ b.length → b.length ≤ 1000000 → l.length ≤ i → L_table_rows_l0 (b, l, (n : Int), (i : Int)) = some (l ++ rowsOf k b)
  | 0, i, b, l, h, _, _, _ => by
    obtain rfl : i = n := by omega
    refine fixT_out ?_
    simp [tl_table_rows_l0, T.run, rowsOf]
  | k + 1, i, b, l, h, hb, hbb, hl => by
    have hw := wrapN (show i < n by omega) (by omega)
    have hlt : decide ((i : Int) < (n : Int)) = true := by simp; omega
    have c0 : (0 : Int) ≤ 0 ∧ (0 : Int) < (b.length : Int) := by omega
    have c1 : (0 : Int) ≤ 1 ∧ (1 : Int) ≤ (b.length : Int) ∧ (b.length : Int) ≤ (b.length : Int) := by omega
    have c5 : (0 : Int) ≤ 5 ∧ (5 : Int) ≤ (b.length : Int) ∧ (b.length : Int) ≤ (b.length : Int) := by omega
    have c9 : (0 : Int) ≤ 9 ∧ (9 : Int) ≤ (b.length : Int) ∧ (b.length : Int) ≤ (b.length : Int) := by omega
    have tk : List.take (b.length : Int).toNat b = b := by simp
    have key : l ++ rowsOf (k + 1) b = (l ++ [rowOf b]) ++ rowsOf k (b.drop 9) := by simp [rowsOf]
    rw [key]
    refine (fixT_next (q := (b.drop 9, l ++ [rowOf b], (n : Int), ((i + 1 : Nat) : Int))) ?_).trans (e_rowsL n hn k (i + 1) _ _ (by omega) (by simp; omega) (by simp; omega) (by simp; omega))
    simp only [tl_table_rows_l0, T.run, hlt, if_true, if_pos c0, if_pos c1, if_pos c5, if_pos c9, tk, show Int.toNat 1 = 1 from rfl, show Int.toNat 5 = 5 from rfl, show Int.toNat 9 = 9 from rfl, show Int.toNat 0 = 0 from rfl, e_num (b.drop 1) (by simp; omega), e_num (b.drop 5) (by simp; omega), Option.bind_some, true_and, wrapByte, hw]
    rw [if_pos (room24 (by simp; omega))]
    rfl
theorem e_rows (b : List UInt8) (n : Nat) (hb : 9 * n ≤ b.length) (hbb : b.length ≤ 1000000) : f_table_rows b (n : Int) = some (rowsOf n b) := by
  have h := e_rowsL n (by omega) n 0 b [] (by omega) hb hbb (by simp)
  replace h : L_table_rows_l0 (b, [], (n : Int), 0) = _ := h
  simp only [f_table_rows, t_table_rows, T.run, h, Option.bind_some, List.nil_append]
end Go.Proofs.Ytkdcjfnmmmmocaa.VS
