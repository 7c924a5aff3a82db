/- The laws of tables' bytes. Conditions: none. -/
import Derived.Test.YthbgioembchnkaaPTE
namespace Go.Proofs.Ythbgioembchnkaa.VS
set_option maxRecDepth 100000
set_option linter.unusedVariables false
set_option linter.unusedSimpArgs false

theorem fRead_form {b : List UInt8} (h : (13 ≤ b.length ∧ b.length = 13 + 9 * (mN b + hN b)) ∧ fBytes (tblOf b) = b) : fRead b = (tblOf b, 0) := if_pos h
theorem fRead_odd {b : List UInt8} (h : ¬ ((13 ≤ b.length ∧ b.length = 13 + 9 * (mN b + hN b)) ∧ fBytes (tblOf b) = b)) : fRead b = (noT, 11) := if_neg h
theorem fRead_len (b : List UInt8) : 9 * (fRead b).1.rows.length ≤ b.length ∧ 9 * (fRead b).1.homes.length ≤ b.length := by
  by_cases h : (13 ≤ b.length ∧ b.length = 13 + 9 * (mN b + hN b)) ∧ fBytes (tblOf b) = b
  · rw [fRead_form h]
    show 9 * (rowsOf _ _).length ≤ _ ∧ 9 * (rowsOf _ _).length ≤ _
    rw [rowsOf_len, rowsOf_len]; omega
  · rw [fRead_odd h]; simp [noT]
theorem fRead_ok {b : List UInt8} (h : (fRead b).2 = 0) : fBytes (fRead b).1 = b := by
  by_cases k : (13 ≤ b.length ∧ b.length = 13 + 9 * (mN b + hN b)) ∧ fBytes (tblOf b) = b
  · rw [fRead_form k]; exact k.2
  · rw [fRead_odd k] at h; cases h
theorem e_rRead (b : List UInt8) (hb : b.length ≤ 40000) : f_r13_Read b = some (fRead b) := by
  have odd : some ((⟨0, [], [], 0⟩ : Tbl), (11 : Int)) = some (noT, (11 : Int)) := rfl
  unfold f_r13_Read t_r13_Read
  rw [T.run]
  by_cases h : 13 ≤ b.length
  · have hlt : decide ((b.length : Int) < 13) = false := by rw [decide_eq_false_iff_not]; omega
    rw [hlt, if_neg Bool.false_ne_true, T.run]
    have w : IntKind.i64.wrap ((b.length : Int) - 13) = (b.length : Int) - 13 := wrap64 (by omega) (by omega)
    rw [w, Int.tmod_eq_emod_of_nonneg (by omega), Int.tdiv_eq_ediv_of_nonneg (by omega)]
    by_cases hm : (b.length - 13) % 9 = 0
    · have hne : ((((b.length : Int) - 13) % 9) != 0) = false := by rw [bne_eq_false_iff_eq]; omega
      rw [hne, if_neg Bool.false_ne_true, T.run, if_pos (by omega), T.run]
      have n4 : f_r13_num (List.drop (Int.toNat 4) (List.take (Int.toNat 8) b)) = some (mN b : Int) := by
        rw [e_rnum _ (by rw [List.length_drop, List.length_take, show Int.toNat 4 = 4 from rfl, show Int.toNat 8 = 8 from rfl]; omega)]
        rw [← mN_eq]; exact congrArg some (fNum_part b 4)
      rw [n4, Option.bind_some, T.run]
      obtain ⟨c, hc⟩ : ∃ c, b.length = 13 + 9 * c := ⟨(b.length - 13) / 9, by omega⟩
      have wc : IntKind.i64.wrap (((b.length : Int) - 13) / 9) = (c : Int) := by rw [wrap64 (by omega) (by omega)]; omega
      rw [wc]
      by_cases hn : mN b ≤ c
      · have hgt : decide ((mN b : Int) > (c : Int)) = false := by rw [decide_eq_false_iff_not]; omega
        rw [hgt, if_neg Bool.false_ne_true, T.run, if_pos (by omega), T.run]
        have n0 : f_r13_num (List.drop (Int.toNat 0) (List.take (Int.toNat 4) b)) = some (fNum b) := by
          rw [e_rnum _ (by rw [List.length_drop, List.length_take, show Int.toNat 0 = 0 from rfl, show Int.toNat 4 = 4 from rfl]; omega)]
          exact congrArg some (fNum_take b 4 (by omega))
        rw [n0, Option.bind_some, T.run, if_pos (by omega), T.run, wrapByte]
        have lp := rread1 b (by omega) c hc ⟨0, [], [], 0⟩ (mN b) hn (fNum b) ((b.getD (Int.toNat 12) GT.u8.nought).toNat : Int) (mN b) 0 [] (by omega) (by simp)
        replace lp : L_r13_Read_l0 (b, ⟨0, [], [], 0⟩, (mN b : Int), ⟨fNum b, [], [], ((b.getD (Int.toNat 12) GT.u8.nought).toNat : Int)⟩, 13) = _ := lp
        rw [lp, Option.bind_some, List.nil_append]
        generalize ht : (⟨fNum b, rowsOf (mN b) (b.drop (13 + 9 * 0)), rowsOf (c - mN b) (b.drop (13 + 9 * mN b)), ((b.getD (Int.toNat 12) GT.u8.nought).toNat : Int)⟩ : Tbl) = t
        have l1 : t.rows.length = mN b := by rw [← ht]; exact rowsOf_len _ _
        have l2 : t.homes.length = c - mN b := by rw [← ht]; exact rowsOf_len _ _
        rw [T.run, T.run, T.run, e_rBytes t (by omega) (by omega), Option.bind_some, T.run, T.run]
        have same : hN b = c - mN b → tblOf b = t := by
          intro e
          rw [← ht]
          unfold tblOf
          rw [e, List.drop_drop]
          rfl
        by_cases he : fBytes t = b
        · have hq : (!fBytes t == b) = false := by rw [he]; simp
          rw [hq, if_neg Bool.false_ne_true, T.run, T.run, T.run]
          have hi : fIsT t = true := by
            cases hx : fIsT t with
            | true => rfl
            | false =>
              unfold fBytes at he
              rw [hx, if_neg Bool.false_ne_true] at he
              rw [← he] at h
              simp at h
          obtain ⟨_, k2, _, k4⟩ := bytes_back hi (by omega) (by omega)
          rw [he] at k2 k4
          rw [fRead_form ⟨⟨h, by omega⟩, by rw [k4]; exact he⟩, k4]
        · have hq : (!fBytes t == b) = true := by simp [he]
          rw [hq, if_pos rfl, T.run, odd, fRead_odd]
          intro k
          have e := same (by omega)
          rw [e] at k
          exact he k.2
      · have hgt : decide ((mN b : Int) > (c : Int)) = true := by rw [decide_eq_true_eq]; omega
        rw [hgt, if_pos rfl, T.run, odd, fRead_odd]
        omega
    · have hne : ((((b.length : Int) - 13) % 9) != 0) = true := by rw [bne_iff_ne]; omega
      rw [hne, if_pos rfl, T.run, odd, fRead_odd]
      omega
  · have hlt : decide ((b.length : Int) < 13) = true := by rw [decide_eq_true_eq]; omega
    rw [hlt, if_pos rfl, T.run, odd, fRead_odd]
    omega
end Go.Proofs.Ythbgioembchnkaa.VS
