/- Chapter 2: where a write's blocks are. Conditions: none. -/
import Derived.Test.YtmkmjjodiicmlaaPS6
namespace Go.Proofs.Ytmkmjjodiicmlaa.VS
set_option maxRecDepth 100000
set_option linter.unusedVariables false
set_option linter.unusedSimpArgs false

/-! ### Where a write's blocks are -/

theorem putB_pos {l : List Blk} {k : Int} {d : List UInt8} {Q : Int → Prop} (h : ∀ b ∈ l, Q b.pos) (hk : Q k) : ∀ b ∈ putB l k d, Q b.pos := fun b hb => by
  rcases putB_mem hb with rfl | hb
  · exact hk
  · exact h b hb

theorem wloop_pos (sz : Int) (s6 : Fil) (Q : Int → Prop) (hQ : ∀ k : Nat, k ≤ 62500 → Q (k : Int)) : ∀ (m : Nat) (l : List Blk) (a : Nat) (d : List UInt8), d.length ≤ m → FilS l → l.length + d.length + 1 ≤ SM → a + d.length ≤ 1000000 → (∀ b ∈ l, Q b.pos) →
    ∃ l', L_sparse_Write_l0 ((a : Int), d, ⟨sz, l⟩, s6) = some (⟨sz, l'⟩, s6) ∧ ∀ b ∈ l', Q b.pos
  | m, l, a, [], hm, h, hl, ha, hp => by
    refine ⟨l, fixT_out ?_, hp⟩
    simp only [tl_sparse_Write_l0]
    rw [run_iteF (by simp), run_same, run_ret]
  | 0, l, a, x :: d, hm, h, hl, ha, hp => by simp at hm
  | m + 1, l, a, x :: r, hm, h, hl, ha, hp => by
    generalize hd : x :: r = d at *
    have hd0 : 0 < d.length := by rw [← hd]; simp
    generalize hn : min d.length (16 - a % 16) = n
    have hlen := h.val ((a / 16 : Nat) : Int)
    have hwl := wblk_len (d := d) hlen (show a % 16 < 16 by omega)
    have hlp := putB_len l ((a / 16 : Nat) : Int) (wblk (blockV l ((a / 16 : Nat) : Int)).1 (a % 16) d)
    have hs := wstep (sz := sz) h (a := a) (d := d) (by omega) ha (by rw [← hd]; simp) s6
    rw [hn] at hs
    obtain ⟨l', h1, h2⟩ := wloop_pos sz s6 Q hQ m (putB l ((a / 16 : Nat) : Int) (wblk (blockV l ((a / 16 : Nat) : Int)).1 (a % 16) d)) (a + n) (d.drop n) (by rw [List.length_drop]; omega) (h.put hwl) (by rw [List.length_drop]; omega) (by rw [List.length_drop]; omega) (putB_pos hp (hQ _ (by omega)))
    refine ⟨l', ?_, h2⟩
    unfold L_sparse_Write_l0
    rw [fixT_next hs]
    exact h1

theorem write_pos {f g : Fil} (h : FilS f.blocks) (sz a : Nat) (d : List UInt8) (hsz : f.size = (sz : Int)) (hz : sz ≤ 1000000) (hl : f.blocks.length + d.length + 1 ≤ SM) (ha : a + d.length ≤ 1000000) (Q : Int → Prop) (hQ : ∀ k : Nat, k ≤ 62500 → Q (k : Int)) (hp : ∀ b ∈ f.blocks, Q b.pos)
    (hg : f_sparse_Write f (a : Int) d = some g) : ∀ b ∈ g.blocks, Q b.pos := by
  have hc := e_sparse_copied (h.sm (by omega))
  obtain ⟨s, l⟩ := f
  dsimp only at hsz hl h hp
  subst hsz
  by_cases c : d = []
  · subst c
    simp only [f_sparse_Write, t_sparse_Write] at hg
    rw [run_bind hc, run_iteT (by rfl), run_same, run_ret] at hg
    cases hg
    exact hp
  · have hd0 : 0 < d.length := List.length_pos_iff.2 c
    have hw : IntKind.i64.wrap ((a : Int) + (d.length : Int)) = ((a + d.length : Nat) : Int) := by rw [wr (by omega) (by omega)]; omega
    have hm : (if ((a + d.length : Nat) : Int) > (sz : Int) then ((a + d.length : Nat) : Int) else (sz : Int)) = ((max sz (a + d.length) : Nat) : Int) := by split <;> omega
    obtain ⟨l', h1, h2⟩ := wloop_pos ((max sz (a + d.length) : Nat) : Int) ⟨0, []⟩ Q hQ d.length l a d (Nat.le_refl _) h hl ha hp
    simp only [f_sparse_Write, t_sparse_Write] at hg
    rw [run_bind hc, run_iteF (by simp; exact c), run_same] at hg
    dsimp only at hg
    rw [hw, hm, run_bind h1] at hg
    dsimp only at hg
    rw [run_same, run_ret] at hg
    cases hg
    exact h2

end Go.Proofs.Ytmkmjjodiicmlaa.VS
