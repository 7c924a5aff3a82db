/- Chapter 2: what is known. Conditions: none. -/
import Derived.Test.YtmkmjjodiicmlaaPS3
namespace Go.Proofs.Ytmkmjjodiicmlaa.VS
set_option maxRecDepth 100000
set_option linter.unusedVariables false
set_option linter.unusedSimpArgs false

theorem e_sparse_isBlock {b : Blk} {sz : Nat} {p : Nat} (hp : b.pos = (p : Int)) (hl : b.data.length = 16) (h1 : p ≤ 32768) (h2 : p * 16 < sz) (h3 : sz ≤ 1000000) (h4 : ∀ i, i < 16 → sz ≤ p * 16 + i → b.data.getD i 0 = 0) : f_sparse_isBlock b (sz : Int) = some true := by
  have hbg : f_sparse_begins b = some ((p * 16 : Nat) : Int) := by
    simp only [f_sparse_begins, t_sparse_begins]
    rw [run_ret, hp, wr (by omega) (by omega)]; rfl
  have hw : IntKind.i64.wrap ((sz : Int) - ((p * 16 : Nat) : Int)) = ((sz - p * 16 : Nat) : Int) := by rw [wr (by omega) (by omega)]; omega
  have hif : (if (16 : Int) < ((sz - p * 16 : Nat) : Int) then (16 : Int) else ((sz - p * 16 : Nat) : Int)) = ((min 16 (sz - p * 16) : Nat) : Int) := by split <;> omega
  generalize hm : min 16 (sz - p * 16) = m at hif
  have hz : b.data.drop m = List.replicate (16 - m) 0 := by
    apply List.ext_getElem
    · simp [hl]
    · intro i i1 i2
      rw [List.length_drop, hl] at i1
      rw [List.getElem_drop, List.getElem_replicate, ← getD_at (z := 0)]
      exact h4 _ (by omega) (by omega)
  have he : ∀ x y : List UInt8, f_bytes_Equal x y = some (x == y) := fun x y => by simp only [f_bytes_Equal, t_bytes_Equal]; rw [run_ret]
  simp only [f_sparse_isBlock, t_sparse_isBlock]
  rw [run_iteF (by simp [hl]), run_iteF (by simp; omega), run_iteF (by simp; omega), run_bind hbg, run_iteF (by simp; omega), run_bind hbg, hw, hif]
  simp only [hl, Int.toNat_natCast]
  rw [List.take_of_length_le (by omega), hz]
  simp only [List.length_replicate, Int.toNat_natCast]
  rw [run_req ⟨by omega, by omega, by omega⟩, run_req ⟨by omega, trivial, rmM (by unfold SM; omega) (by omega)⟩, run_req (by simp), run_bind (he _ _), run_ret]
  simp

theorem known_write : f_sparse_Write ⟨0, []⟩ 40 [7] = some ⟨41, [⟨2, wblk zero16 8 [7]⟩]⟩ := by
  have hs := wstep (sz := 41) (l := []) filS_nil (a := 40) (d := [7]) (by unfold SM; simp) (by simp) (by simp) ⟨0, []⟩
  have hc := e_sparse_copied (f := ⟨0, []⟩) (filS_nil.sm (by unfold SM; simp))
  have hL : L_sparse_Write_l0 (40, [7], ⟨41, []⟩, ⟨0, []⟩) = some (⟨41, [⟨2, wblk zero16 8 [7]⟩]⟩, ⟨0, []⟩) := by
    unfold L_sparse_Write_l0
    refine (fixT_next hs).trans (fixT_out ?_)
    rfl
  simp only [f_sparse_Write, t_sparse_Write]
  rw [run_bind hc, run_iteF (by rfl), run_same]
  refine (run_bind hL).trans ?_
  rfl

theorem known_s : FilS [⟨2, wblk zero16 8 [7]⟩] := ⟨sortB_mk sortB_nil fun c hc => by simp at hc, fun b hb => by
  rw [List.mem_singleton] at hb; subst hb; rfl⟩

theorem e_law2_known : f_law2_known = some true := by
  have hr := e_sparse_Read (f := ⟨41, [⟨2, wblk zero16 8 [7]⟩]⟩) known_s (by unfold SM; simp) 41 39 9 rfl (by omega) (by omega)
  have hr2 : readL [⟨2, wblk zero16 8 [7]⟩] 39 (min (39 + 9) 41 - 39) = [0, 7] := by rfl
  have hi : f_sparse_Is ⟨41, [⟨2, wblk zero16 8 [7]⟩]⟩ = some true := by
    have hb := e_sparse_isBlock (b := ⟨2, wblk zero16 8 [7]⟩) (sz := 41) (p := 2) rfl rfl (by omega) (by omega) (by omega) (by decide)
    have hL : L_sparse_Is_l0 (⟨41, [⟨2, wblk zero16 8 [7]⟩]⟩, [⟨2, wblk zero16 8 [7]⟩], 1, 0) = some (.inr ()) := by
      refine (fixT_next (q := (⟨41, [⟨2, wblk zero16 8 [7]⟩]⟩, [⟨2, wblk zero16 8 [7]⟩], 1, 1)) ?_).trans (fixT_out ?_)
      · simp only [tl_sparse_Is_l0]
        rw [run_iteT (by rfl), run_req (by decide)]
        refine (run_bind hb).trans ?_
        rw [run_iteF (by rfl), run_iteF (by rfl), run_ret]
        rfl
      · rfl
    simp only [f_sparse_Is, t_sparse_Is]
    rw [run_iteF (by rfl), run_iteF (by rfl)]
    refine (run_bind hL).trans ?_
    rfl
  simp only [f_law2_known, t_law2_known]
  rw [run_req (by decide)]
  refine (run_bind known_write).trans ?_
  rw [run_iteT (by rfl), run_iteT (by rfl), run_req (by decide), run_iteT (by rfl)]
  refine (run_bind (hr.trans (congrArg some hr2))).trans ?_
  rw [run_iteT (by rfl)]
  exact (run_bind hi).trans rfl

end Go.Proofs.Ytmkmjjodiicmlaa.VS
