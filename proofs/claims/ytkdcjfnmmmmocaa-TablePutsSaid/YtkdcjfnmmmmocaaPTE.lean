/- Reading tables; the laws of their bytes. Conditions: none. -/
import Derived.Test.YtkdcjfnmmmmocaaPTD
namespace Go.Proofs.Ytkdcjfnmmmmocaa.VS
set_option maxRecDepth 100000
set_option linter.unusedVariables false
set_option linter.unusedSimpArgs false

def mN (b : List UInt8) : Nat := (fNum (b.drop 4)).toNat
def hN (b : List UInt8) : Nat := (fNum (b.drop 8)).toNat
theorem mN_eq (b : List UInt8) : fNum (b.drop 4) = (mN b : Int) := by have := fNum_range (b.drop 4); unfold mN; omega
theorem hN_eq (b : List UInt8) : fNum (b.drop 8) = (hN b : Int) := by have := fNum_range (b.drop 8); unfold hN; omega
def tblOf (b : List UInt8) : Tbl := ⟨fNum b, rowsOf (mN b) (b.drop 13), rowsOf (hN b) ((b.drop 13).drop (9 * mN b)), ((b.getD 12 0).toNat : Int)⟩
def noT : Tbl := ⟨0, [], [], 0⟩
def fRead (b : List UInt8) : Tbl × Int := if (13 ≤ b.length ∧ b.length = 13 + 9 * (mN b + hN b)) ∧ fBytes (tblOf b) = b then (tblOf b, 0) else (noT, 11)

theorem e_Read (b : List UInt8) (hb : b.length ≤ 40000) : f_table_Read b = some (fRead b) := by
  simp only [f_table_Read, t_table_Read, T.run]
  unfold fRead
  by_cases h : 13 ≤ b.length
  · have hlt : decide ((b.length : Int) < 13) = false := by simp; omega
    have tk : List.take (b.length : Int).toNat b = b := by simp
    have hm := fNum_range (b.drop 4)
    have hh := fNum_range (b.drop 8)
    rw [if_neg (by rw [hlt]; decide), if_pos (by omega)]
    simp only [tk, show Int.toNat 4 = 4 from rfl, show Int.toNat 8 = 8 from rfl, show Int.toNat 12 = 12 from rfl, show Int.toNat 13 = 13 from rfl]
    rw [e_num _ (by simp; omega)]
    rw [Option.bind_some]
    rw [if_pos (by omega), e_num _ (by simp; omega)]
    rw [Option.bind_some]
    rw [e_num _ (by omega)]
    rw [Option.bind_some]
    rw [if_pos (by omega), if_pos (by omega)]
    rw [mN_eq] at hm ⊢
    rw [hN_eq] at hh ⊢
    rw [wrap64 (n := (mN b : Int) + (hN b : Int)) (by omega) (by omega), wrap64 (n := 9 * ((mN b : Int) + (hN b : Int))) (by omega) (by omega)]
    by_cases hl : b.length = 13 + 9 * (mN b + hN b)
    · have hd : (b.drop 13).length = 9 * (mN b + hN b) := by rw [List.length_drop]; omega
      rw [if_neg (by simp; omega), e_rows _ _ (by omega) (by omega)]
      rw [Option.bind_some]
      rw [wrap64 (n := 9 * (mN b : Int)) (by omega) (by omega), if_pos (by omega), show (9 * (mN b : Int)).toNat = 9 * mN b by omega, show List.take ((b.drop 13).length : Int).toNat (b.drop 13) = b.drop 13 by rw [Int.toNat_natCast, List.take_length]]
      rw [e_rows _ _ (by simp; omega) (by simp; omega)]
      rw [Option.bind_some, wrapByte]
      rw [show (Tbl.mk (fNum b) (rowsOf (mN b) (b.drop 13)) (rowsOf (hN b) ((b.drop 13).drop (9 * mN b))) ((b.getD 12 GT.u8.nought).toNat : Int)) = tblOf b from rfl]
      rw [e_Bytes _ (by show (rowsOf _ _).length ≤ _; rw [rowsOf_len]; omega) (by show (rowsOf _ _).length ≤ _; rw [rowsOf_len]; omega)]
      rw [Option.bind_some, show f_bytes_Equal (fBytes (tblOf b)) b = some (fBytes (tblOf b) == b) from rfl, Option.bind_some]
      by_cases he : fBytes (tblOf b) = b
      · have hq : (!fBytes (tblOf b) == b) = false := by simp [he]
        rw [hq, if_neg Bool.false_ne_true, if_pos (And.intro (And.intro h hl) he)]
      · have hq : (!fBytes (tblOf b) == b) = true := by simp [he]
        rw [hq, if_pos rfl, if_neg (fun k : _ ∧ _ => he k.2)]
        unfold noT
        rfl
    · rw [if_pos (by simp; omega), if_neg (fun k => hl k.1.2)]; rfl
  · rw [if_pos (by simp; omega), if_neg (fun k => h k.1.1)]; rfl

/-! The reference's -/
theorem fNum_take (x : List UInt8) (n : Nat) (h : 4 ≤ n) : fNum (x.take n) = fNum x := by
  unfold fNum
  simp only [List.getD_eq_getElem?_getD, List.getElem?_take]
  rw [if_pos (by omega), if_pos (by omega), if_pos (by omega), if_pos (by omega)]
theorem fNum_part (b : List UInt8) (i : Nat) : fNum (List.drop i (List.take (i + 4) b)) = fNum (b.drop i) := by
  rw [List.drop_take, show i + 4 - i = 4 by omega, fNum_take _ _ (by omega)]
theorem rowOf_drop (b : List UInt8) (i : Nat) : rowOf (b.drop i) = ⟨⟨((b.getD i 0).toNat : Int), fNum (b.drop (i + 1))⟩, fNum (b.drop (i + 5))⟩ := by
  unfold rowOf
  rw [List.drop_drop, List.drop_drop]
  simp [List.getD_eq_getElem?_getD]
theorem rowsOf_drop (b : List UInt8) (i k : Nat) : rowsOf (k + 1) (b.drop i) = rowOf (b.drop i) :: rowsOf k (b.drop (i + 9)) := by rw [rowsOf, List.drop_drop]
/-! Numbers as bytes, and back -/
theorem byteOf_nat (n : Int) : ((byteOfInt n).toNat : Int) = n % 256 := by
  have hb : (2 : Int) ^ IntKind.u8.bits = 256 := by decide
  have hs : IntKind.u8.signed = false := rfl
  have hw : IntKind.wrap .u8 n = n % 256 := by
    unfold IntKind.wrap
    simp only [hb, hs, Bool.false_and, Bool.false_eq_true, if_false]
  unfold byteOfInt
  rw [hw, UInt8.toNat_ofNat']
  omega
theorem byteAt_nat (n : Int) (j : Nat) (q : Int) (hq : (2 : Int) ^ (8 * j) = q) (h0 : 0 ≤ q) : ((byteAt n j).toNat : Int) = n / q % 256 := by
  unfold byteAt
  rw [byteOf_nat, hq, Int.fdiv_eq_ediv_of_nonneg _ h0]
theorem fNum_four (n : Int) (h0 : 0 ≤ n) (h1 : n < 4294967296) (r : List UInt8) : fNum (fFour n ++ r) = n := by
  show ((byteAt n 3).toNat : Int) * 16777216 + ((byteAt n 2).toNat : Int) * 65536 + ((byteAt n 1).toNat : Int) * 256 + ((byteAt n 0).toNat : Int) = n
  rw [byteAt_nat n 3 16777216 (by decide) (by decide), byteAt_nat n 2 65536 (by decide) (by decide), byteAt_nat n 1 256 (by decide) (by decide), byteAt_nat n 0 1 (by decide) (by decide)]
  omega
theorem fRow_facts {nx : Int} {r : Rwo} (h : fRow nx r = true) : 0 ≤ r.spot.branch ∧ r.spot.branch < 8 ∧ 1 ≤ r.spot.ino ∧ r.spot.ino ≤ 2147483647 ∧ 1 ≤ r.u ∧ r.u < nx := by
  unfold fRow at h
  simp only [Bool.and_eq_true, decide_eq_true_eq] at h
  omega
theorem rowOf_rowB (r : Rwo) (nx : Int) (hn : nx ≤ 2147483647) (h : fRow nx r = true) (l : List UInt8) : rowOf (rowB r ++ l) = r := by
  obtain ⟨h1, h2, h3, h4, h5, h6⟩ := fRow_facts h
  have e0 : ((rowB r ++ l).getD 0 0) = byteOfInt r.spot.branch := rfl
  have e1 : (rowB r ++ l).drop 1 = fFour r.spot.ino ++ (fFour r.u ++ l) := rfl
  have e5 : (rowB r ++ l).drop 5 = fFour r.u ++ l := rfl
  unfold rowOf
  rw [e0, e1, e5, fNum_four _ (by omega) (by omega), fNum_four _ (by omega) (by omega), byteOf_nat, Int.emod_eq_of_lt h1 (by omega)]
theorem rowsOf_rowsB (nx : Int) (hn : nx ≤ 2147483647) : ∀ (l : List Rwo) (r : List UInt8), l.all (fRow nx) = true → rowsOf l.length (rowsB l ++ r) = l
  | [], _, _ => rfl
  | x :: l, r, h => by
    simp only [List.all_cons, Bool.and_eq_true] at h
    rw [List.length_cons, rowsOf, rowsB_cons, List.append_assoc, rowOf_rowB x nx hn h.1]
    have : (rowB x ++ (rowsB l ++ r)).drop 9 = rowsB l ++ r := rfl
    rw [this, rowsOf_rowsB nx hn l r h.2]
theorem any_odd (t : Tbl) (l : List Rwo) (h : l.any (fOddRow t) = false) : l.all (fRow t.next) = true := by
  rw [List.all_eq_true]
  intro x hx
  rw [List.any_eq_false] at h
  have := h x hx
  simpa [fOddRow] using this
theorem fIsT_facts {t : Tbl} (h : fIsT t = true) : (1 ≤ t.next ∧ t.next ≤ 2147483647 ∧ 0 ≤ t.cursor ∧ t.cursor ≤ 7) ∧ t.rows.all (fRow t.next) = true ∧ t.homes.all (fRow t.next) = true := by
  unfold fIsT fTblIn at h
  simp only [Bool.and_eq_true, decide_eq_true_eq, Bool.not_eq_true'] at h
  obtain ⟨⟨⟨⟨⟨⟨⟨a1, a2⟩, a3⟩, a4⟩, b1⟩, b2⟩, _⟩, _⟩ := h
  exact ⟨⟨a1, a2, a3, a4⟩, any_odd t _ b1, any_odd t _ b2⟩
theorem bytes_back {t : Tbl} (h : fIsT t = true) (h1 : t.rows.length ≤ 5000) (h2 : t.homes.length ≤ 5000) : mN (fBytes t) = t.rows.length ∧ hN (fBytes t) = t.homes.length ∧ (fBytes t).length = 13 + 9 * (t.rows.length + t.homes.length) ∧ tblOf (fBytes t) = t := by
  obtain ⟨⟨a1, a2, a3, a4⟩, b1, b2⟩ := fIsT_facts h
  have e : fBytes t = fFour t.next ++ (fFour t.rows.length ++ (fFour t.homes.length ++ (byteOfInt t.cursor :: (rowsB t.rows ++ (rowsB t.homes ++ []))))) := by
    unfold fBytes headB
    rw [if_pos h, rowsB_app]
    simp
  have d4 : (fBytes t).drop 4 = fFour t.rows.length ++ (fFour t.homes.length ++ (byteOfInt t.cursor :: (rowsB t.rows ++ (rowsB t.homes ++ [])))) := by rw [e]; rfl
  have d8 : (fBytes t).drop 8 = fFour t.homes.length ++ (byteOfInt t.cursor :: (rowsB t.rows ++ (rowsB t.homes ++ []))) := by rw [e]; rfl
  have d13 : (fBytes t).drop 13 = rowsB t.rows ++ (rowsB t.homes ++ []) := by rw [e]; rfl
  have d12 : (fBytes t).getD 12 0 = byteOfInt t.cursor := by rw [e]; rfl
  have em : mN (fBytes t) = t.rows.length := by unfold mN; rw [d4, fNum_four _ (by omega) (by omega)]; rfl
  have eh : hN (fBytes t) = t.homes.length := by unfold hN; rw [d8, fNum_four _ (by omega) (by omega)]; rfl
  refine ⟨em, eh, ?_, ?_⟩
  · rw [e]; simp [fFour_len, rowsB_len]; omega
  · unfold tblOf
    rw [em, eh, d13, d12, e, fNum_four _ (by omega) (by omega), rowsOf_rowsB t.next a2 _ _ b1]
    have : (rowsB t.rows ++ (rowsB t.homes ++ [])).drop (9 * t.rows.length) = rowsB t.homes ++ [] := by
      rw [← rowsB_len, List.drop_left]
    rw [this, rowsOf_rowsB t.next a2 _ _ b2, byteOf_nat, Int.emod_eq_of_lt a3 (by omega)]
theorem read_back {t : Tbl} (h : fIsT t = true) (h1 : t.rows.length ≤ 5000) (h2 : t.homes.length ≤ 5000) : fRead (fBytes t) = (t, 0) := by
  obtain ⟨a, b, c, d⟩ := bytes_back h h1 h2
  unfold fRead
  rw [a, b, d, if_pos ⟨⟨by omega, c⟩, rfl⟩]
end Go.Proofs.Ytkdcjfnmmmmocaa.VS
