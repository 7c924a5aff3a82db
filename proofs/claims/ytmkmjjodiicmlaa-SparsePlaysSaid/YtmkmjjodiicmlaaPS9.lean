/- Chapter 2: how many blocks a write brings; what a cut leaves. Conditions: none. -/
import Derived.Test.YtmkmjjodiicmlaaPSP
namespace Go.Proofs.Ytmkmjjodiicmlaa.VS
set_option maxRecDepth 100000
set_option linter.unusedVariables false
set_option linter.unusedSimpArgs false

/-- How many blocks are lacking. -/
def lackB (l : List Blk) (a n : Nat) : Nat := (List.range' (a / 16) (cntB a n)).countP fun k : Nat => !(blkAt l (k : Int)).isSome

theorem wloop_cnt (sz : Int) (s6 : Fil) : ∀ (m : Nat) (l : List Blk) (a : Nat) (d : List UInt8), d.length ≤ m → FilS l → l.length + d.length + 1 ≤ SM → a + d.length ≤ 1000000 →
    ∃ l', L_sparse_Write_l0 ((a : Int), d, ⟨sz, l⟩, s6) = some (⟨sz, l'⟩, s6) ∧ l'.length = l.length + lackB l a d.length
  | m, l, a, [], hm, h, hl, ha => by
    refine ⟨l, fixT_out ?_, by simp [lackB, cntB]⟩
    simp only [tl_sparse_Write_l0]
    rw [run_iteF (by simp), run_same, run_ret]
  | 0, l, a, x :: d, hm, h, hl, ha => by simp at hm
  | m + 1, l, a, x :: r, hm, h, hl, ha => by
    generalize hd : x :: r = d at *
    have hd0 : 0 < d.length := by rw [← hd]; simp
    generalize hn : min d.length (16 - a % 16) = n
    have hlen := h.val ((a / 16 : Nat) : Int)
    have hwl := wblk_len (d := d) hlen (show a % 16 < 16 by omega)
    have hlp := putB_len l ((a / 16 : Nat) : Int) (wblk (blockV l ((a / 16 : Nat) : Int)).1 (a % 16) d)
    have hs := wstep (sz := sz) h (a := a) (d := d) (by omega) ha (by rw [← hd]; simp) s6
    rw [hn] at hs
    obtain ⟨l', h1, h2⟩ := wloop_cnt sz s6 m (putB l ((a / 16 : Nat) : Int) (wblk (blockV l ((a / 16 : Nat) : Int)).1 (a % 16) d)) (a + n) (d.drop n) (by rw [List.length_drop]; omega) (h.put hwl) (by rw [List.length_drop]; omega) (by rw [List.length_drop]; omega)
    refine ⟨l', ?_, ?_⟩
    · unfold L_sparse_Write_l0
      rw [fixT_next hs]
      exact h1
    · rw [h2, putB_length h.sort, List.length_drop]
      have e1 : cntB a d.length = cntB (a + n) (d.length - n) + 1 := by unfold cntB; rw [if_neg (by omega)]; split <;> omega
      have e2 : lackB l a d.length = (if (blkAt l ((a / 16 : Nat) : Int)).isSome then 0 else 1) + (List.range' (a / 16 + 1) (cntB (a + n) (d.length - n))).countP fun k : Nat => !(blkAt l (k : Int)).isSome := by
        unfold lackB
        rw [e1, List.range'_succ, List.countP_cons]
        cases (blkAt l ((a / 16 : Nat) : Int)).isSome <;> simp <;> omega
      rw [e2]
      unfold lackB
      by_cases c : d.length - n = 0
      · have : cntB (a + n) (d.length - n) = 0 := by unfold cntB; rw [if_pos c]
        rw [this]; simp
      · have e : (a + n) / 16 = a / 16 + 1 := by omega
        rw [e, Nat.add_assoc]
        congr 2
        apply List.countP_congr
        intro k hk
        rw [List.mem_range'_1] at hk
        rw [putB_at h.sort, if_neg (by omega)]

theorem write_cnt {f g : Fil} (h : FilS f.blocks) (sz a : Nat) (d : List UInt8) (hsz : f.size = (sz : Int)) (hz : sz ≤ 1000000) (hl : f.blocks.length + d.length + 1 ≤ SM) (ha : a + d.length ≤ 1000000)
    (hg : f_sparse_Write f (a : Int) d = some g) : g.blocks.length = f.blocks.length + lackB f.blocks a d.length := by
  have hc := e_sparse_copied (h.sm (by omega))
  obtain ⟨s, l⟩ := f
  dsimp only at hsz hl h
  subst hsz
  by_cases c : d = []
  · subst c
    simp only [f_sparse_Write, t_sparse_Write] at hg
    rw [run_bind hc, run_iteT (by rfl), run_same, run_ret] at hg
    cases hg
    simp [lackB, cntB]
  · have hd0 : 0 < d.length := List.length_pos_iff.2 c
    have hw : IntKind.i64.wrap ((a : Int) + (d.length : Int)) = ((a + d.length : Nat) : Int) := by rw [wr (by omega) (by omega)]; omega
    have hm : (if ((a + d.length : Nat) : Int) > (sz : Int) then ((a + d.length : Nat) : Int) else (sz : Int)) = ((max sz (a + d.length) : Nat) : Int) := by split <;> omega
    obtain ⟨l', h1, h2⟩ := wloop_cnt ((max sz (a + d.length) : Nat) : Int) ⟨0, []⟩ d.length l a d (Nat.le_refl _) h hl ha
    simp only [f_sparse_Write, t_sparse_Write] at hg
    rw [run_bind hc, run_iteF (by simp; exact c), run_same] at hg
    dsimp only at hg
    rw [hw, hm, run_bind h1] at hg
    dsimp only at hg
    rw [run_same, run_ret] at hg
    cases hg
    exact h2

/-! ### What a cut leaves -/

theorem cutD_len {d : List UInt8} {m : Nat} (hd : d.length = 16) (hm : m ≤ 16) : (cutD d m).length = 16 := by unfold cutD; simp; omega

theorem cutB_mem {n : Int} : ∀ {l : List Blk} {b : Blk}, b ∈ cutB n l → ∃ c ∈ l, c.pos = b.pos ∧ c.pos * 16 < n ∧ (b = c ∨ (n - c.pos * 16 < 16 ∧ b.data = cutD c.data (n - c.pos * 16).toNat))
  | [], b, h => by cases h
  | c :: r, b, h => by
    rw [cutB] at h
    split at h
    · cases h
    · rename_i h0
      rcases List.mem_cons.1 h with e | h
      · refine ⟨c, by simp, ?_⟩
        split at e
        · rename_i h1; subst e; exact ⟨rfl, by omega, .inr ⟨h1, rfl⟩⟩
        · subst e; exact ⟨rfl, by omega, .inl rfl⟩
      · obtain ⟨c', h1, h2⟩ := cutB_mem h
        exact ⟨c', List.mem_cons_of_mem _ h1, h2⟩

theorem cutB_FilP {n : Int} : ∀ {l : List Blk}, FilP l → FilP (cutB n l)
  | [], h => h
  | b :: r, h => by
    obtain ⟨h1, h2⟩ := sortB_cons h.s.sort
    have ih := cutB_FilP (n := n) (l := r) ⟨⟨h1, fun c hc => h.s.len c (List.mem_cons_of_mem _ hc)⟩, fun c hc => h.pos c (List.mem_cons_of_mem _ hc)⟩
    rw [cutB]
    split
    · exact ⟨filS_nil, fun c hc => by cases hc⟩
    · rename_i h0
      have hb := h.s.len b (by simp)
      have hp := h.pos b (by simp)
      have hhead : (if n - b.pos * 16 < 16 then ⟨b.pos, cutD b.data (n - b.pos * 16).toNat⟩ else b : Blk).pos = b.pos := by split <;> rfl
      have hlen : (if n - b.pos * 16 < 16 then ⟨b.pos, cutD b.data (n - b.pos * 16).toNat⟩ else b : Blk).data.length = 16 := by
        split
        · exact cutD_len hb (by omega)
        · exact hb
      refine ⟨⟨sortB_mk ih.s.sort fun c hc => ?_, fun c hc => ?_⟩, fun c hc => ?_⟩
      · rw [hhead]
        obtain ⟨c', k1, k2, _⟩ := cutB_mem hc
        rw [← k2]; exact h2 c' k1
      · rcases List.mem_cons.1 hc with e | hc
        · rw [e]; exact hlen
        · exact ih.s.len c hc
      · rcases List.mem_cons.1 hc with e | hc
        · rw [e, hhead]; exact hp
        · exact ih.pos c hc

theorem cutB_length {n : Int} : ∀ (l : List Blk), (cutB n l).length ≤ l.length
  | [] => Nat.le_refl _
  | b :: r => by
    rw [cutB]
    split
    · simp
    · have := cutB_length (n := n) r
      simp; omega

theorem cutB_blk {n : Int} : ∀ {l : List Blk}, FilP l → ∀ k : Int, blkAt (cutB n l) k = if n ≤ k * 16 then none else (blkAt l k).map fun d => if n - k * 16 < 16 then cutD d (n - k * 16).toNat else d
  | [], h, k => by rw [cutB, blkAt_nil]; split <;> rfl
  | b :: r, h, k => by
    obtain ⟨h1, h2⟩ := sortB_cons h.s.sort
    have ih := cutB_blk (n := n) (l := r) ⟨⟨h1, fun c hc => h.s.len c (List.mem_cons_of_mem _ hc)⟩, fun c hc => h.pos c (List.mem_cons_of_mem _ hc)⟩ k
    rw [cutB]
    split
    · rename_i h0
      rw [blkAt_nil]
      split
      · rfl
      · rename_i h3
        have : blkAt (b :: r) k = none := blkAt_none fun c hc => by
          rcases List.mem_cons.1 hc with rfl | hc
          · omega
          · have := h2 c hc; omega
        rw [this]; rfl
    · rename_i h0
      have hhead : (if n - b.pos * 16 < 16 then ⟨b.pos, cutD b.data (n - b.pos * 16).toNat⟩ else b : Blk).pos = b.pos := by split <;> rfl
      rw [blkAt_cons, hhead, blkAt_cons]
      by_cases e : b.pos = k
      · subst e
        rw [if_pos rfl, if_pos rfl, if_neg h0]
        simp only [Option.map_some]
        split <;> rfl
      · rw [if_neg e, if_neg e, ih]

theorem cutB_at {n : Nat} {l : List Blk} (h : FilP l) (i : Nat) : bAt (cutB (n : Int) l) i = if i < n then bAt l i else 0 := by
  unfold bAt blockV
  rw [cutB_blk h]
  have hz : ∀ j, zero16.getD j 0 = 0 := fun j => by
    unfold zero16
    rw [List.getD_eq_getElem?_getD, List.getElem?_replicate]
    split <;> rfl
  by_cases c : (n : Int) ≤ ((i / 16 : Nat) : Int) * 16
  · rw [if_pos c, if_neg (by omega)]
    exact hz _
  · rw [if_neg c]
    cases hb : blkAt l ((i / 16 : Nat) : Int) with
    | none =>
      simp only [Option.map_none]
      rw [hz]; split <;> rfl
    | some d =>
      simp only [Option.map_some]
      by_cases c2 : (n : Int) - ((i / 16 : Nat) : Int) * 16 < 16
      · rw [if_pos c2]
        have hd := h.s.at hb
        unfold cutD
        generalize hm : ((n : Int) - ((i / 16 : Nat) : Int) * 16).toNat = m
        rw [List.getD_eq_getElem?_getD, List.getElem?_append]
        by_cases c3 : i < n
        · rw [if_pos c3, if_pos (by simp; omega), List.getElem?_take, if_pos (by omega), List.getD_eq_getElem?_getD]
        · rw [if_neg c3, if_neg (by simp; omega), List.getElem?_replicate]
          split <;> rfl
      · rw [if_neg c2, if_pos (by omega)]

end Go.Proofs.Ytmkmjjodiicmlaa.VS
