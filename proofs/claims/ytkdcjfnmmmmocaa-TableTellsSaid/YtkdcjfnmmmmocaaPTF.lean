/- The laws of tables' bytes. Conditions: none. -/
import Derived.Test.YtkdcjfnmmmmocaaPTE
namespace Go.Proofs.Ytkdcjfnmmmmocaa.VS
set_option maxRecDepth 100000
set_option linter.unusedVariables false
set_option linter.unusedSimpArgs false

theorem fRead_form {b : List UInt8} (h : (13 ≤ b.length ∧ b.length = 13 + 9 * (mN b + hN b)) ∧ fBytes (tblOf b) = b) : fRead b = (tblOf b, 0) := if_pos h
theorem fRead_odd {b : List UInt8} (h : ¬ ((13 ≤ b.length ∧ b.length = 13 + 9 * (mN b + hN b)) ∧ fBytes (tblOf b) = b)) : fRead b = (noT, 11) := if_neg h
theorem fRead_len (b : List UInt8) : 9 * (fRead b).1.rows.length ≤ b.length ∧ 9 * (fRead b).1.homes.length ≤ b.length := by
  by_cases h : (13 ≤ b.length ∧ b.length = 13 + 9 * (mN b + hN b)) ∧ fBytes (tblOf b) = b
  · rw [fRead_form h]
    show 9 * (rowsOf _ _).length ≤ _ ∧ 9 * (rowsOf _ _).length ≤ _
    rw [rowsOf_len, rowsOf_len]; omega
  · rw [fRead_odd h]; simp [noT]
theorem fRead_ok {b : List UInt8} (h : (fRead b).2 = 0) : fBytes (fRead b).1 = b := by
  by_cases k : (13 ≤ b.length ∧ b.length = 13 + 9 * (mN b + hN b)) ∧ fBytes (tblOf b) = b
  · rw [fRead_form k]; exact k.2
  · rw [fRead_odd k] at h; cases h
end Go.Proofs.Ytkdcjfnmmmmocaa.VS
