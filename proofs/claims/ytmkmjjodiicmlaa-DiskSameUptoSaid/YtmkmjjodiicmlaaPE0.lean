/- Copies of disks; orders of numbers. Conditions: none. -/
import Derived.Test.YtmkmjjodiicmlaaPD3
namespace Go.Proofs.Ytmkmjjodiicmlaa.VS
set_option maxRecDepth 100000
set_option linter.unusedVariables false
set_option linter.unusedSimpArgs false

def cmpI (a b : Int) : Int := if a < b then -1 else if b < a then 1 else 0
theorem cmpI_neg (a b : Int) : decide (cmpI a b < 0) = decide (a < b) := by
  unfold cmpI
  by_cases h : a < b
  · simp [h]
  · by_cases k : b < a <;> simp [h, k]
theorem cmpI_zero (a b : Int) : (cmpI a b == 0) = (a == b) := by
  unfold cmpI
  by_cases h : a < b
  · have : a ≠ b := by omega
    simp [h, this]
  · by_cases k : b < a
    · have : a ≠ b := by omega
      simp [h, k, this]
    · have : a = b := by omega
      simp [this]
theorem e_disk_file {f : Fil} (h : SmF f) : f_disk_file f = some f := by
  obtain ⟨s, bs⟩ := f
  obtain ⟨h1, h2⟩ := h
  simp only at h1 h2
  have hc : f_slices_Clone_Block bs = some bs := e_clone h1 (by omega)
  have hl : L_disk_file_l0 (Fil.mk s bs, Fil.mk 0 [], (bs.length : Int), 0) = some (Fil.mk s bs, Fil.mk 0 []) := by
    refine loop_to (fun i => (Fil.mk s bs, Fil.mk 0 [], (bs.length : Int), (i : Int))) bs.length (fun i hi => ?_) ?_
    · have hw := wrS (i := i) (by unfold SM at h1; omega)
      have hd : f_slices_Clone_byte bs[i].data = some bs[i].data := e_clone (h2 _ (List.getElem_mem hi)) (by omega)
      have hset : bs.set i (Blk.mk bs[i].pos bs[i].data) = bs := by
        have : Blk.mk bs[i].pos bs[i].data = bs[i] := rfl
        rw [this, List.set_getElem_self]
      simp only [tl_disk_file_l0]
      rw [run_iteT (by simp; omega), run_req (inb hi), run_req (by simpa using hi)]
      simp only [getD_int hi]
      rw [run_bind hd, run_same, run_req (inb hi), run_req (by simpa using hi)]
      simp only [Int.toNat_natCast, hset]
      rw [run_req trivial, run_ret, hw]
    · simp only [tl_disk_file_l0]
      rw [run_iteF (by simp), run_same, run_ret]
  simp only [f_disk_file, t_disk_file]
  rw [run_bind hc, run_same, run_bind hl, run_same, run_ret]

theorem e_disk_node {n : Nod} (h : SmN n) : f_disk_node n = some n := by
  have hc : f_slices_Clone_Name n.names = some n.names := e_clone h.1 (by omega)
  simp only [f_disk_node, t_disk_node]
  rw [run_bind (e_disk_file h.2), run_bind hc, run_same, run_ret]

end Go.Proofs.Ytmkmjjodiicmlaa.VS
