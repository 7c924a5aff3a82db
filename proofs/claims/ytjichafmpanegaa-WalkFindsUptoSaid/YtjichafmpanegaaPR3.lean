/- Chapter 5: what stands under a name, by the document. Conditions: none. -/
import Derived.Test.YtjichafmpanegaaPR0
namespace Go.Proofs.Ytjichafmpanegaa.VS
set_option maxRecDepth 100000
set_option linter.unusedVariables false
set_option linter.unusedSimpArgs false

theorem DskOK.namesS {d : Dsk} (h : DskOK d) (ino : Int) : SortN (getN d.nodes ino).1.names := by
  cases hb : (getN d.nodes ino).2 with
  | true => exact sorted_of (lt := fun a b : Nam => bytesLt a.name b.name = true) (fun h k => bl_trans h k) (h.nodes _ (getN_mem hb).1).sorted
  | false =>
    have : (getN d.nodes ino).1 = nodZ := by
      unfold getN at hb ⊢
      split at hb
      · cases hb
      · rfl
    rw [this]
    intro i j hij hj
    simp [nodZ] at hj

theorem e_r5_Name {n : Nod} (hl : n.names.length ≤ SM) (s : Str) : f_r5_Name n s = some (getS n.names s) := by
  have hloop : L_r5_Name_l0 (s, n, 0) = _ := loop_find n.names (fun x => x.name == s) (fun i => (s, n, (i : Int))) (fun i x => (.inl (x.ino, true) : (Int × Bool) ⊕ Unit)) (.inr ())
    (fun i hi hp _ => by
      have hw := wrS (i := i) (by unfold SM at hl; omega)
      simp only [tl_r5_Name_l0]
      rw [run_iteT (by simp; omega), run_req (inb hi)]
      simp only [getD_int hi]
      rw [run_iteF hp, run_ret, hw])
    (fun i hi hp _ => by
      simp only [tl_r5_Name_l0]
      rw [run_iteT (by simp; omega), run_req (inb hi)]
      simp only [getD_int hi]
      rw [run_iteT hp, run_req (inb hi), run_ret])
    (fun _ => by
      simp only [tl_r5_Name_l0]
      rw [run_iteF (by simp), run_ret])
  simp only [f_r5_Name, t_r5_Name]
  cases hf : n.names.find? (fun x => x.name == s) with
  | none =>
    have : L_r5_Name_l0 (s, n, 0) = some (.inr ()) := by
      rw [hloop, hf]
      cases n.names.findIdx? (fun x => x.name == s) <;> rfl
    rw [run_bind this, run_caseR, run_ret]
    unfold getS; rw [hf]
  | some x =>
    obtain ⟨i, hi⟩ : ∃ i, n.names.findIdx? (fun x => x.name == s) = some i := by
      obtain ⟨h2, i, hi, e, hlt⟩ := List.find?_eq_some_iff_getElem.1 hf
      refine ⟨i, ?_⟩
      rw [List.findIdx?_eq_some_iff_getElem]
      exact ⟨hi, by rw [e]; exact h2, fun j hj => by have := hlt j hj; simpa using this⟩
    have : L_r5_Name_l0 (s, n, 0) = some (.inl (x.ino, true)) := by rw [hloop, hf, hi]
    rw [run_bind this, run_caseL, run_ret]
    unfold getS; rw [hf]

theorem getN_fil {d : Dsk} (hd : SmD d) (ok : DskOK d) (ino : Int) : FilOK (getN d.nodes ino).1.file := by
  cases hb : (getN d.nodes ino).2 with
  | true => exact (ok.nodes _ (getN_mem hb).1).file
  | false =>
    have : (getN d.nodes ino).1 = nodZ := by
      unfold getN at hb ⊢
      split at hb
      · cases hb
      · rfl
    rw [this]
    exact ⟨by simp [nodZ], by simp [nodZ], fun i h => by simp [nodZ] at h, fun i h => by simp [nodZ] at h⟩

end Go.Proofs.Ytjichafmpanegaa.VS
