/- Chapter 2: files with all their blocks. Conditions: none. -/
import Derived.Test.YtmkmjjodiicmlaaPS6
namespace Go.Proofs.Ytmkmjjodiicmlaa.VS
set_option maxRecDepth 100000
set_option linter.unusedVariables false
set_option linter.unusedSimpArgs false

/-! ### Where a write's blocks are -/

theorem putB_pos {l : List Blk} {k : Int} {d : List UInt8} {Q : Int → Prop} (h : ∀ b ∈ l, Q b.pos) (hk : Q k) : ∀ b ∈ putB l k d, Q b.pos := fun b hb => by
  rcases putB_mem hb with rfl | hb
  · exact hk
  · exact h b hb

theorem wloop_pos (sz : Int) (s6 : Fil) (Q : Int → Prop) (hQ : ∀ k : Nat, k ≤ 62500 → Q (k : Int)) : ∀ (m : Nat) (l : List Blk) (a : Nat) (d : List UInt8), d.length ≤ m → FilS l → l.length + d.length + 1 ≤ SM → a + d.length ≤ 1000000 → (∀ b ∈ l, Q b.pos) →
    ∃ l', L_sparse_Write_l0 ((a : Int), d, ⟨sz, l⟩, s6) = some (⟨sz, l'⟩, s6) ∧ ∀ b ∈ l', Q b.pos
  | m, l, a, [], hm, h, hl, ha, hp => by
    refine ⟨l, fixT_out ?_, hp⟩
    simp only [tl_sparse_Write_l0]
    rw [run_iteF (by simp), run_same, run_ret]
  | 0, l, a, x :: d, hm, h, hl, ha, hp => by simp at hm
  | m + 1, l, a, x :: r, hm, h, hl, ha, hp => by
    generalize hd : x :: r = d at *
    have hd0 : 0 < d.length := by rw [← hd]; simp
    generalize hn : min d.length (16 - a % 16) = n
    have hlen := h.val ((a / 16 : Nat) : Int)
    have hwl := wblk_len (d := d) hlen (show a % 16 < 16 by omega)
    have hlp := putB_len l ((a / 16 : Nat) : Int) (wblk (blockV l ((a / 16 : Nat) : Int)).1 (a % 16) d)
    have hs := wstep (sz := sz) h (a := a) (d := d) (by omega) ha (by rw [← hd]; simp) s6
    rw [hn] at hs
    obtain ⟨l', h1, h2⟩ := wloop_pos sz s6 Q hQ m (putB l ((a / 16 : Nat) : Int) (wblk (blockV l ((a / 16 : Nat) : Int)).1 (a % 16) d)) (a + n) (d.drop n) (by rw [List.length_drop]; omega) (h.put hwl) (by rw [List.length_drop]; omega) (by rw [List.length_drop]; omega) (putB_pos hp (hQ _ (by omega)))
    refine ⟨l', ?_, h2⟩
    unfold L_sparse_Write_l0
    rw [fixT_next hs]
    exact h1

theorem write_pos {f g : Fil} (h : FilS f.blocks) (sz a : Nat) (d : List UInt8) (hsz : f.size = (sz : Int)) (hz : sz ≤ 1000000) (hl : f.blocks.length + d.length + 1 ≤ SM) (ha : a + d.length ≤ 1000000) (Q : Int → Prop) (hQ : ∀ k : Nat, k ≤ 62500 → Q (k : Int)) (hp : ∀ b ∈ f.blocks, Q b.pos)
    (hg : f_sparse_Write f (a : Int) d = some g) : ∀ b ∈ g.blocks, Q b.pos := by
  have hc := e_sparse_copied (h.sm (by omega))
  obtain ⟨s, l⟩ := f
  dsimp only at hsz hl h hp
  subst hsz
  by_cases c : d = []
  · subst c
    simp only [f_sparse_Write, t_sparse_Write] at hg
    rw [run_bind hc, run_iteT (by rfl), run_same, run_ret] at hg
    cases hg
    exact hp
  · have hd0 : 0 < d.length := List.length_pos_iff.2 c
    have hw : IntKind.i64.wrap ((a : Int) + (d.length : Int)) = ((a + d.length : Nat) : Int) := by rw [wr (by omega) (by omega)]; omega
    have hm : (if ((a + d.length : Nat) : Int) > (sz : Int) then ((a + d.length : Nat) : Int) else (sz : Int)) = ((max sz (a + d.length) : Nat) : Int) := by split <;> omega
    obtain ⟨l', h1, h2⟩ := wloop_pos ((max sz (a + d.length) : Nat) : Int) ⟨0, []⟩ Q hQ d.length l a d (Nat.le_refl _) h hl ha hp
    simp only [f_sparse_Write, t_sparse_Write] at hg
    rw [run_bind hc, run_iteF (by simp; exact c), run_same] at hg
    dsimp only at hg
    rw [hw, hm, run_bind h1] at hg
    dsimp only at hg
    rw [run_same, run_ret] at hg
    cases hg
    exact h2

/-! ### The document's answer: a file with all its blocks -/

theorem e_r2_Copy {f : Fil} (h : SmF f) : f_r2_Copy f = some f := by
  obtain ⟨s, bs⟩ := f
  obtain ⟨h1, h2⟩ := h
  simp only at h1 h2
  have hl : L_r2_Copy_l0 (Fil.mk s bs, Fil.mk 0 [], Fil.mk s [], 0) = some (Fil.mk 0 [], Fil.mk s bs) := by
    refine loop_to (fun i => (Fil.mk s bs, Fil.mk 0 [], Fil.mk s (bs.take i), (i : Int))) bs.length (fun i hi => ?_) ?_
    · have hw := wrS (i := i) (by unfold SM at h1; omega)
      have hd := h2 _ (List.getElem_mem hi)
      have e : bs.take (i + 1) = bs.take i ++ [bs[i]] := by rw [List.take_add_one, List.getElem?_eq_getElem hi]; rfl
      have ht : (bs.take i ++ [bs[i]]).length ≤ SM := by simp; omega
      simp only [tl_r2_Copy_l0]
      rw [run_iteT (by simp; omega), run_req (inb hi), run_req (inb hi)]
      simp only [getD_int hi]
      rw [run_req (rmM hd (by omega)), run_same, run_req ⟨by simp, rmM ht (by omega)⟩, run_same, run_ret, hw, e]
    · simp only [tl_r2_Copy_l0]
      rw [run_iteF (by simp), run_same, run_ret, List.take_length]
  simp only [f_r2_Copy, t_r2_Copy]
  rw [run_bind hl, run_same, run_ret]

theorem e_r2_find {f : Fil} (hl : f.blocks.length ≤ SM) (k : Int) : ∃ r, f_r2_find f k = some r ∧ ((0 ≤ r) ↔ (blkAt f.blocks k).isSome = true) := by
  obtain ⟨s, bs⟩ := f
  dsimp only at hl
  have key := loop_inv (t := fun q : (Int × (Fil × Int)) => tl_r2_find_l0 q.1 q.2.1 q.2.2) (fun i p => p = (k, Fil.mk s bs, (i : Int)) ∧ ∀ j (hj : j < i) (hjl : j < bs.length), bs[j].pos ≠ k)
    (fun r => (∃ i : Nat, r = .inl (i : Int) ∧ (blkAt bs k).isSome = true) ∨ (r = .inr () ∧ (blkAt bs k).isSome = false)) bs.length (fun i p hi hp => ?_) (fun p hp => ?_) (p := (k, Fil.mk s bs, 0)) ⟨rfl, fun j hj => absurd hj (Nat.not_lt_zero _)⟩
  · obtain ⟨r, h1, h2⟩ := key
    have h1 : L_r2_find_l0 (k, Fil.mk s bs, 0) = some r := h1
    rcases h2 with ⟨i, rfl, h3⟩ | ⟨rfl, h3⟩
    · refine ⟨(i : Int), ?_, by simp [h3]⟩
      simp only [f_r2_find, t_r2_find]
      rw [run_bind h1, run_caseL, run_ret]
    · refine ⟨-1, ?_, by simp [h3]⟩
      simp only [f_r2_find, t_r2_find]
      rw [run_bind h1, run_caseR, run_ret]
  · obtain ⟨rfl, hb⟩ := hp
    have hw := wrS (i := i) (by unfold SM at hl; omega)
    simp only [tl_r2_find_l0]
    rw [run_iteT (by simp; omega), run_req (inb hi)]
    simp only [getD_int hi]
    by_cases c : bs[i].pos = k
    · right
      refine ⟨_, by rw [run_iteT (by simpa using c), run_ret], .inl ⟨i, rfl, ?_⟩⟩
      unfold blkAt
      have := findB (l := bs) (p := fun b => b.pos == k) (fun j hj hjl => by simpa using hb j hj hjl) hi (by simpa using c)
      rw [this]; rfl
    · left
      refine ⟨_, by rw [run_iteF (by simpa using c), run_ret, hw], rfl, fun j hj hjl => ?_⟩
      by_cases e : j = i
      · subst e; exact c
      · exact hb j (by omega) hjl
  · obtain ⟨rfl, hb⟩ := hp
    simp only [tl_r2_find_l0]
    refine ⟨_, by rw [run_iteF (by simp), run_ret], .inr ⟨rfl, ?_⟩⟩
    unfold blkAt
    have : bs.find? (fun b => b.pos == k) = none := List.find?_eq_none.2 fun c hc => by
      obtain ⟨j, hj, rfl⟩ := List.mem_iff_getElem.1 hc
      simpa using hb j hj hj
    rw [this]; rfl

theorem e_r2_with {f : Fil} (hl : f.blocks.length + 1 ≤ SM) (hs : SortB f.blocks) (k : Int) : f_r2_with f k = some ⟨f.size, if (blkAt f.blocks k).isSome then f.blocks else putB f.blocks k zero16⟩ := by
  obtain ⟨r, hr1, hr2⟩ := e_r2_find (f := f) (by omega) k
  simp only [f_r2_with, t_r2_with]
  rw [run_bind hr1]
  by_cases c : 0 ≤ r
  · rw [run_iteT (by simpa using c), run_ret, if_pos (hr2.1 c)]
  · have hno : ¬ (blkAt f.blocks k).isSome = true := fun h => c (hr2.2 h)
    rw [run_iteF (by simpa using c), if_neg hno]
    have key := loop_inv (t := fun q : (Int × (Fil × (Fil × Int))) => tl_r2_with_l0 q.1 q.2.1 q.2.2.1 q.2.2.2) (fun i p => p = (k, f, Fil.mk 0 [], (i : Int)) ∧ ∀ h (hi : h < i) (hl : h < f.blocks.length), f.blocks[h].pos < k)
      (fun r => ∃ i : Nat, r = (k, f, Fil.mk 0 [], (i : Int)) ∧ (∀ h (hi : h < i) (hl : h < f.blocks.length), f.blocks[h].pos < k) ∧ i ≤ f.blocks.length ∧ ∀ hi : i < f.blocks.length, ¬ f.blocks[i].pos < k) f.blocks.length (fun i p hi hp => ?_) (fun p hp => ?_) (p := (k, f, Fil.mk 0 [], 0)) ⟨rfl, fun h hi => absurd hi (Nat.not_lt_zero _)⟩
    · obtain ⟨r, h1, i, rfl, h2, h3, h4⟩ := key
      have h1 : L_r2_with_l0 (k, f, Fil.mk 0 [], 0) = some (k, f, Fil.mk 0 [], (i : Int)) := h1
      have hlt : ∀ hi : i < f.blocks.length, k < f.blocks[i].pos := fun hi => by
        have h5 := h4 hi
        have : f.blocks[i].pos ≠ k := fun e => hno (by
          unfold blkAt
          have := findB (l := f.blocks) (p := fun b => b.pos == k) (fun j hj hjl => by have := h2 j hj hjl; simp; omega) hi (by simpa using e)
          rw [this]; rfl)
        omega
      have hz : List.take (Int.toNat (16 : Int)) (List.drop 0 (List.replicate (Int.toNat (16 : Int)) (UInt8.ofNat (Int.toNat (0 : Int))))) = zero16 := rfl
      have hrm : roomP (Int.toNat (16 : Int)) 1 := by unfold roomP; decide
      rw [run_bind h1]
      dsimp only
      have hd0 : ∀ l : List Blk, List.drop (Int.toNat (0 : Int)) l = l := fun l => rfl
      simp only [hz, hd0, Int.toNat_natCast, List.take_length]
      have hti : (f.blocks.take i).length ≤ SM := by simp; omega
      rw [run_req ⟨by omega, by omega, by omega⟩, run_req (rmM hti (by omega)), run_req ⟨by decide, trivial, hrm⟩, run_req (by simp), run_req ⟨trivial, rmM (by simp; omega) (by omega)⟩, run_req ⟨by omega, by omega, by omega⟩, run_req ⟨trivial, rmM (by simp; omega) (by omega)⟩, run_same, run_ret, putB_ins h2 h3 hlt]
    · obtain ⟨rfl, hb⟩ := hp
      have hw := wrS (i := i) (by unfold SM at hl; omega)
      simp only [tl_r2_with_l0]
      rw [run_iteT (by simp; omega), run_req (inb hi)]
      simp only [getD_int hi]
      by_cases c : f.blocks[i].pos < k
      · exact .inl ⟨_, by rw [run_iteT (by simpa using c), run_ret, hw], rfl, fun h hh hhl => by
          by_cases e : h = i
          · subst e; exact c
          · exact hb h (by omega) hhl⟩
      · exact .inr ⟨_, by rw [run_iteF (by simpa using c), run_ret], i, rfl, hb, by omega, fun _ => c⟩
    · obtain ⟨rfl, hb⟩ := hp
      simp only [tl_r2_with_l0]
      exact ⟨_, by rw [run_iteF (by simp), run_ret], f.blocks.length, rfl, hb, Nat.le_refl _, fun h => absurd h (Nat.lt_irrefl _)⟩

theorem zero16_len : zero16.length = 16 := rfl

theorem e_r2_Full {f : Fil} (h : FilS f.blocks) (sz : Nat) (hsz : f.size = (sz : Int)) (hz : sz ≤ 1000000) (hl : f.blocks.length + sz + 2 ≤ SM) :
    ∃ l', f_r2_Full f = some ⟨(sz : Int), l'⟩ ∧ FilS l' ∧ (∀ i, bAt l' i = bAt f.blocks i) ∧ l'.length ≤ f.blocks.length + sz + 1 := by
  have hc := e_r2_Copy (h.sm (by omega))
  obtain ⟨s, l⟩ := f
  dsimp only at hsz hl h
  subst hsz
  have key := loop_inv (t := fun q : (Fil × (Fil × Int)) => tl_r2_Full_l0 q.1 q.2.1 q.2.2) (fun i p => ∃ l', p = (⟨(sz : Int), l'⟩, Fil.mk 0 [], (i : Int)) ∧ FilS l' ∧ (∀ i, bAt l' i = bAt l i) ∧ l'.length ≤ l.length + i)
    (fun r => ∃ l', r = (⟨(sz : Int), l'⟩, Fil.mk 0 []) ∧ FilS l' ∧ (∀ i, bAt l' i = bAt l i) ∧ l'.length ≤ l.length + sz + 1) (sz + 1) (fun i p hi hp => ?_) (fun p hp => ?_) (p := (⟨(sz : Int), l⟩, Fil.mk 0 [], 0)) ⟨l, rfl, h, fun _ => rfl, by omega⟩
  · obtain ⟨r, h1, l', rfl, h2⟩ := key
    refine ⟨l', ?_, h2⟩
    have h1 : L_r2_Full_l0 (⟨(sz : Int), l⟩, Fil.mk 0 [], 0) = some (⟨(sz : Int), l'⟩, Fil.mk 0 []) := h1
    simp only [f_r2_Full, t_r2_Full]
    rw [run_bind hc, run_bind h1, run_ret]
  · obtain ⟨l', rfl, h2, h3, h4⟩ := hp
    have hw := wrS (i := i) (by omega)
    have hm : IntKind.i64.wrap ((i : Int) * 16) = ((i * 16 : Nat) : Int) := by rw [wr (by omega) (by omega)]; omega
    have hwi := e_r2_with (f := ⟨(sz : Int), l'⟩) (show l'.length + 1 ≤ SM by omega) h2.sort (i : Int)
    simp only [tl_r2_Full_l0, hm]
    by_cases c : i * 16 < sz
    · left
      rw [run_iteT (by simp; omega), run_bind hwi]
      refine ⟨_, by rw [run_ret, hw], _, rfl, ?_⟩
      dsimp only
      by_cases c2 : (blkAt l' (i : Int)).isSome = true
      · rw [if_pos c2]; exact ⟨h2, h3, by omega⟩
      · rw [if_neg c2]
        have hlp := putB_len l' (i : Int) zero16
        refine ⟨h2.put zero16_len, fun j => ?_, by omega⟩
        rw [bAt_put h2.sort, ← h3]
        by_cases c3 : j / 16 = i
        · rw [if_pos c3]
          unfold bAt blockV
          rw [c3]
          cases hb : blkAt l' (i : Int) with
          | none => rfl
          | some d => rw [hb] at c2; exact absurd rfl c2
        · rw [if_neg c3]
    · right
      refine ⟨_, by rw [run_iteF (by simp; omega), run_ret], l', rfl, h2, h3, by omega⟩
  · obtain ⟨l', rfl, h2, h3, h4⟩ := hp
    have hm : IntKind.i64.wrap (((sz + 1 : Nat) : Int) * 16) = (((sz + 1) * 16 : Nat) : Int) := by rw [wr (by omega) (by omega)]; omega
    simp only [tl_r2_Full_l0, hm]
    refine ⟨_, by rw [run_iteF (by simp; omega), run_ret], l', rfl, h2, h3, by omega⟩

end Go.Proofs.Ytmkmjjodiicmlaa.VS
