/- Chapter 2: writing. Conditions: none. -/
import Derived.Test.YtmkmjjodiicmlaaPS2
namespace Go.Proofs.Ytmkmjjodiicmlaa.VS
set_option maxRecDepth 100000
set_option linter.unusedVariables false
set_option linter.unusedSimpArgs false

/-- One block, written from a place. -/
def wblk (b : List UInt8) (o : Nat) (d : List UInt8) : List UInt8 := b.take o ++ d.take (min d.length (16 - o)) ++ b.drop (o + min d.length (16 - o))

theorem wblk_len {b d : List UInt8} {o : Nat} (hb : b.length = 16) (ho : o < 16) : (wblk b o d).length = 16 := by
  unfold wblk
  rw [List.length_append, List.length_append, List.length_take, List.length_take, List.length_drop, hb]
  omega

theorem wblk_at {b d : List UInt8} {o : Nat} (hb : b.length = 16) (ho : o < 16) (j : Nat) (hj : j < 16) : (wblk b o d).getD j 0 = if o ≤ j ∧ j < o + d.length then d.getD (j - o) 0 else b.getD j 0 := by
  unfold wblk
  simp only [List.getD_eq_getElem?_getD]
  rw [List.getElem?_append, List.getElem?_append, List.length_append, List.length_take, List.length_take, hb]
  by_cases h1 : j < o
  · rw [if_pos (by omega), if_pos (by omega), if_neg (by omega), List.getElem?_take, if_pos h1]
  · by_cases h2 : j < o + d.length
    · rw [if_pos (by omega), if_neg (by omega), if_pos ⟨by omega, h2⟩, List.getElem?_take, if_pos (by omega)]
      congr 2; omega
    · rw [if_neg (by omega), if_neg (by omega), List.getElem?_drop]
      congr 2; omega

theorem bAt_nil (i : Nat) : bAt [] i = 0 := by
  unfold bAt blockV
  rw [blkAt_nil]
  show zero16.getD (i % 16) 0 = 0
  unfold zero16
  rw [List.getD_eq_getElem?_getD, List.getElem?_replicate]
  split <;> rfl

theorem wstep {sz : Int} {l : List Blk} (h : FilS l) {a : Nat} {d : List UInt8} (hl : l.length + 1 ≤ SM) (ha : a + d.length ≤ 1000000) (hd : d ≠ []) (s6 : Fil) :
    (tl_sparse_Write_l0 (a : Int) d ⟨sz, l⟩ s6).run = some (.inl (((a + min d.length (16 - a % 16) : Nat) : Int), d.drop (min d.length (16 - a % 16)), ⟨sz, putB l ((a / 16 : Nat) : Int) (wblk (blockV l ((a / 16 : Nat) : Int)).1 (a % 16) d)⟩, s6)) := by
  have hd0 : 0 < d.length := List.length_pos_iff.2 hd
  have hw1 : IntKind.i64.wrap (((a : Int)).tdiv 16) = ((a / 16 : Nat) : Int) := by rw [tdivN, wr (by omega) (by omega)]
  obtain ⟨_, hb⟩ := e_sparse_block (f := ⟨sz, l⟩) (show l.length ≤ SM by omega) h.sort ((a / 16 : Nat) : Int)
  have hlen := h.val ((a / 16 : Nat) : Int)
  have hw := e_sparse_with (f := ⟨sz, l⟩) (show l.length + 1 ≤ SM from hl) h.sort ((a / 16 : Nat) : Int)
  have hw2 : IntKind.i64.wrap ((a : Int) + ((min d.length (16 - a % 16) : Nat) : Int)) = ((a + min d.length (16 - a % 16) : Nat) : Int) := by rw [wr (by omega) (by omega)]; omega
  have hcl : f_bytes_Clone (blockV l ((a / 16 : Nat) : Int)).1 = some (blockV l ((a / 16 : Nat) : Int)).1 := e_clone (by rw [hlen]; unfold SM; omega) (by omega)
  simp only [tl_sparse_Write_l0, hw1, tmodN]
  rw [run_iteT (by simp; omega), run_same, run_bind hb]
  dsimp only
  rw [run_bind hcl]
  simp only [hlen, Int.toNat_natCast]
  rw [run_req ⟨by omega, by omega, by omega, by omega⟩, run_req (by omega), run_same]
  have hwl := wblk_len (d := d) hlen (show a % 16 < 16 by omega)
  rw [run_req (by unfold wblk at hwl; exact hwl.symm), run_bind (hw _)]
  dsimp only
  rw [run_req ⟨by omega, by omega, by omega⟩, run_same, run_ret, hw2, List.take_length]
  rfl

/-- How many blocks a stretch touches. -/
def cntB (a n : Nat) : Nat := if n = 0 then 0 else (a + n - 1) / 16 - a / 16 + 1

theorem e_wloop (sz : Int) (s6 : Fil) : ∀ (m : Nat) (l : List Blk) (a : Nat) (d : List UInt8), d.length ≤ m → FilS l → l.length + d.length + 1 ≤ SM → a + d.length ≤ 1000000 →
    ∃ l', L_sparse_Write_l0 ((a : Int), d, ⟨sz, l⟩, s6) = some (⟨sz, l'⟩, s6) ∧ FilS l' ∧ (∀ i, bAt l' i = if a ≤ i ∧ i < a + d.length then d.getD (i - a) 0 else bAt l i) ∧
      (∀ k : Nat, (blkAt l' (k : Int)).isSome = ((blkAt l (k : Int)).isSome || (decide (a / 16 ≤ k) && decide (k < a / 16 + cntB a d.length)))) ∧ l'.length ≤ l.length + d.length ∧
      ((d = [] ∨ ∀ k : Nat, a / 16 ≤ k → blkAt l (k : Int) = none) → l'.length = l.length + cntB a d.length)
  | m, l, a, [], hm, h, hl, ha => by
    refine ⟨l, fixT_out ?_, h, fun i => by rw [if_neg (by simp)], fun k => by simp [cntB]; omega, by simp, fun _ => by simp [cntB]⟩
    simp only [tl_sparse_Write_l0]
    rw [run_iteF (by simp), run_same, run_ret]
  | 0, l, a, x :: d, hm, h, hl, ha => by simp at hm
  | m + 1, l, a, x :: r, hm, h, hl, ha => by
    generalize hd : x :: r = d at *
    have hd0 : 0 < d.length := by rw [← hd]; simp
    generalize hn : min d.length (16 - a % 16) = n
    have hlen := h.val ((a / 16 : Nat) : Int)
    have hwl := wblk_len (d := d) hlen (show a % 16 < 16 by omega)
    have hlp := putB_len l ((a / 16 : Nat) : Int) (wblk (blockV l ((a / 16 : Nat) : Int)).1 (a % 16) d)
    have hs := wstep (sz := sz) h (a := a) (d := d) (by omega) ha (by rw [← hd]; simp) s6
    rw [hn] at hs
    obtain ⟨l', h1, h2, h3, h4, h5, h6⟩ := e_wloop sz s6 m (putB l ((a / 16 : Nat) : Int) (wblk (blockV l ((a / 16 : Nat) : Int)).1 (a % 16) d)) (a + n) (d.drop n) (by rw [List.length_drop]; omega) (h.put hwl) (by rw [List.length_drop]; omega) (by rw [List.length_drop]; omega)
    refine ⟨l', ?_, h2, fun i => ?_, fun k => ?_, by rw [List.length_drop] at h5; omega, fun hk => ?_⟩
    · unfold L_sparse_Write_l0
      rw [fixT_next hs]
      exact h1
    · rw [h3, bAt_put h.sort, List.length_drop]
      by_cases c1 : a + n ≤ i ∧ i < a + n + (d.length - n)
      · rw [if_pos c1, if_pos ⟨by omega, by omega⟩, List.getD_eq_getElem?_getD, List.getElem?_drop, List.getD_eq_getElem?_getD]
        congr 2; omega
      · rw [if_neg c1]
        by_cases c2 : i / 16 = a / 16
        · rw [if_pos c2, wblk_at hlen (by omega) _ (by omega)]
          by_cases c3 : a ≤ i ∧ i < a + d.length
          · rw [if_pos (by omega), if_pos c3]
            congr 1; omega
          · rw [if_neg (by omega), if_neg c3]
            unfold bAt; rw [c2]
        · rw [if_neg c2, if_neg (by omega)]
    · rw [h4, putB_at h.sort, List.length_drop]
      by_cases c : k = a / 16
      · rw [if_pos (by omega)]
        have : a / 16 ≤ k ∧ k < a / 16 + cntB a d.length := by unfold cntB; rw [if_neg (by omega)]; omega
        simp [this.1, this.2]
      · rw [if_neg (by omega)]
        have : ((a + n) / 16 ≤ k ∧ k < (a + n) / 16 + cntB (a + n) (d.length - n)) ↔ (a / 16 ≤ k ∧ k < a / 16 + cntB a d.length) := by
          unfold cntB
          split <;> split <;> omega
        rw [← Bool.decide_and, ← Bool.decide_and]
        congr 1
        exact decide_eq_decide.2 this
    · have hk : ∀ k : Nat, a / 16 ≤ k → blkAt l (k : Int) = none := by
        rcases hk with hk | hk
        · rw [hk] at hd0; exact absurd hd0 (by simp)
        · exact hk
      have hn0 : blkAt l ((a / 16 : Nat) : Int) = none := hk _ (Nat.le_refl _)
      have e1 : cntB a d.length = 1 + cntB (a + n) (d.length - n) := by unfold cntB; rw [if_neg (by omega)]; split <;> omega
      rw [h6 ?_, putB_length h.sort, hn0, List.length_drop, e1]
      · simp; omega
      · by_cases c : d.length - n = 0
        · exact .inl (List.drop_eq_nil_of_le (by omega))
        · have e : (a + n) / 16 = a / 16 + 1 := by omega
          exact .inr fun k hk1 => by rw [putB_at h.sort, if_neg (by omega)]; exact hk k (by omega)

/-- The whole. -/
theorem e_sparse_Write {f : Fil} (h : FilS f.blocks) (sz a : Nat) (d : List UInt8) (hsz : f.size = (sz : Int)) (hz : sz ≤ 1000000) (hl : f.blocks.length + d.length + 1 ≤ SM) (ha : a + d.length ≤ 1000000) :
    ∃ l', f_sparse_Write f (a : Int) d = some ⟨if d = [] then (sz : Int) else ((max sz (a + d.length) : Nat) : Int), l'⟩ ∧ FilS l' ∧ (∀ i, bAt l' i = if a ≤ i ∧ i < a + d.length then d.getD (i - a) 0 else bAt f.blocks i) ∧
      (∀ k : Nat, (blkAt l' (k : Int)).isSome = ((blkAt f.blocks (k : Int)).isSome || (decide (a / 16 ≤ k) && decide (k < a / 16 + cntB a d.length)))) ∧ l'.length ≤ f.blocks.length + d.length ∧
      ((d = [] ∨ ∀ k : Nat, a / 16 ≤ k → blkAt f.blocks (k : Int) = none) → l'.length = f.blocks.length + cntB a d.length) := by
  have hc := e_sparse_copied (h.sm (by omega))
  obtain ⟨s, l⟩ := f
  dsimp only at hsz hl h
  subst hsz
  by_cases c : d = []
  · subst c
    refine ⟨l, ?_, h, fun i => by rw [if_neg (by simp)], fun k => by simp [cntB]; omega, by simp, fun _ => by simp [cntB]⟩
    simp only [f_sparse_Write, t_sparse_Write]
    rw [run_bind hc, run_iteT (by rfl), run_same, run_ret]
    rfl
  · have hd0 : 0 < d.length := List.length_pos_iff.2 c
    have hw : IntKind.i64.wrap ((a : Int) + (d.length : Int)) = ((a + d.length : Nat) : Int) := by rw [wr (by omega) (by omega)]; omega
    have hm : (if ((a + d.length : Nat) : Int) > (sz : Int) then ((a + d.length : Nat) : Int) else (sz : Int)) = ((max sz (a + d.length) : Nat) : Int) := by split <;> omega
    obtain ⟨l', h1, h2⟩ := e_wloop ((max sz (a + d.length) : Nat) : Int) ⟨0, []⟩ d.length l a d (Nat.le_refl _) h hl ha
    refine ⟨l', ?_, h2⟩
    simp only [f_sparse_Write, t_sparse_Write]
    rw [run_bind hc, run_iteF (by simp; exact c), run_same]
    dsimp only
    rw [hw, hm, run_bind h1]
    dsimp only
    rw [run_same, run_ret, if_neg c]

theorem e_sparse_More {f : Fil} (h : FilS f.blocks) (hl : f.blocks.length ≤ SM) (a n : Nat) (ha : a + n ≤ 1000000) :
    f_sparse_More f (a : Int) (n : Int) = some (((List.range' (a / 16) (cntB a n)).countP fun k : Nat => !(blkAt f.blocks (k : Int)).isSome : Nat) : Int) := by
  by_cases c : n = 0
  · subst c
    simp only [f_sparse_More, t_sparse_More]
    rw [run_iteT (by rfl), run_ret]; rfl
  · have hb1 : IntKind.i64.wrap ((a : Int).tdiv 16) = ((a / 16 : Nat) : Int) := by rw [tdivN, wr (by omega) (by omega)]
    have hb2 : IntKind.i64.wrap ((IntKind.i64.wrap (IntKind.i64.wrap ((a : Int) + (n : Int)) - (1 : Int))).tdiv (16 : Int)) = (((a + n - 1) / 16 : Nat) : Int) := by
      rw [wr (n := (a : Int) + n) (by omega) (by omega), wr (n := (a : Int) + n - 1) (by omega) (by omega), show (a : Int) + n - 1 = ((a + n - 1 : Nat) : Int) by omega, tdivN, wr (by omega) (by omega)]
    have hN : a / 16 + cntB a n = (a + n - 1) / 16 + 1 := by unfold cntB; rw [if_neg c]; omega
    let cnt (i : Nat) : Nat := (List.range' (a / 16) i).countP fun k : Nat => !(blkAt f.blocks (k : Int)).isSome
    have hcs : ∀ i, cnt (i + 1) = cnt i + if (blkAt f.blocks ((a / 16 + i : Nat) : Int)).isSome then 0 else 1 := by
      intro i
      show List.countP _ _ = _
      rw [List.range'_concat, List.countP_append]
      congr 1
      simp only [List.countP_cons, List.countP_nil, Nat.one_mul]
      cases (blkAt f.blocks ((a / 16 + i : Nat) : Int)).isSome <;> rfl
    have hcl : ∀ i, cnt i ≤ i := fun i => by
      have := List.countP_le_length (p := fun k : Nat => !(blkAt f.blocks (k : Int)).isSome) (l := List.range' (a / 16) i)
      rwa [List.length_range'] at this
    have hloop : L_sparse_More_l0 ((a : Int), (n : Int), f, 0, ((a / 16 : Nat) : Int)) = some ((cnt (cntB a n) : Nat) : Int) := by
      refine loop_to (fun i => ((a : Int), (n : Int), f, ((cnt i : Nat) : Int), ((a / 16 + i : Nat) : Int))) (cntB a n) (fun i hi => ?_) ?_
      · obtain ⟨hb, _⟩ := e_sparse_block hl h.sort ((a / 16 + i : Nat) : Int)
        have hci := hcl i
        have w1 : IntKind.i64.wrap (((a / 16 + i : Nat) : Int) + 1) = ((a / 16 + (i + 1) : Nat) : Int) := by rw [wr (by omega) (by omega)]; omega
        have w2 : IntKind.i64.wrap (((cnt i : Nat) : Int) + 1) = ((cnt i + 1 : Nat) : Int) := by rw [wr (by omega) (by omega)]; omega
        simp only [tl_sparse_More_l0, hb2]
        rw [run_iteT (by simp; omega), run_bind hb, w1, w2, hcs]
        have hv : (blockV f.blocks ((a / 16 + i : Nat) : Int)).2 = (blkAt f.blocks ((a / 16 + i : Nat) : Int)).isSome := by
          unfold blockV
          cases blkAt f.blocks ((a / 16 + i : Nat) : Int) <;> rfl
        rw [hv]
        cases (blkAt f.blocks ((a / 16 + i : Nat) : Int)).isSome
        · rw [run_iteT (by rfl), run_ret]; rfl
        · rw [run_iteF (by rfl), run_ret]; rfl
      · simp only [tl_sparse_More_l0, hb2]
        rw [run_iteF (by simp; omega), run_ret]
    simp only [f_sparse_More, t_sparse_More]
    rw [run_iteF (by simpa using c), hb1, run_bind hloop, run_ret]

end Go.Proofs.Ytmkmjjodiicmlaa.VS
