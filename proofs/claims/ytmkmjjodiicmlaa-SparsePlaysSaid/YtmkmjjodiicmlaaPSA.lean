/- Chapter 2: scripts of writes and cuts. Conditions: none. -/
import Derived.Test.YtmkmjjodiicmlaaPS9
namespace Go.Proofs.Ytmkmjjodiicmlaa.VS
set_option maxRecDepth 100000
set_option linter.unusedVariables false
set_option linter.unusedSimpArgs false

theorem blkAt_mem : ∀ {l : List Blk}, SortB l → ∀ b ∈ l, blkAt l b.pos = some b.data
  | [], _, b, h => by cases h
  | c :: r, hs, b, h => by
    obtain ⟨h1, h2⟩ := sortB_cons hs
    rw [blkAt_cons]
    rcases List.mem_cons.1 h with e | h
    · subst e; rw [if_pos rfl]
    · have := h2 b h
      rw [if_neg (by omega)]
      exact blkAt_mem h1 b h

/-- A file that is one. -/
structure FilV (n : Nat) (l : List Blk) : Prop where
  s : FilS l
  pos : ∀ b ∈ l, ∃ p : Nat, b.pos = (p : Int) ∧ p * 16 < n
  zero : ∀ i, n ≤ i → bAt l i = 0

theorem FilV.nil : FilV 0 [] := ⟨filS_nil, fun b hb => (by cases hb), fun i _ => bAt_nil i⟩

theorem FilV.tail {n : Nat} {l : List Blk} (h : FilV n l) {b : Blk} (hb : b ∈ l) {p : Nat} (hp : b.pos = (p : Int)) : ∀ i, i < 16 → n ≤ p * 16 + i → b.data.getD i 0 = 0 := fun i hi hn => by
  have h1 := h.zero (p * 16 + i) hn
  have h2 := blkAt_mem h.s.sort b hb
  unfold bAt blockV at h1
  rw [show (p * 16 + i) / 16 = p by omega, ← hp, h2, show (p * 16 + i) % 16 = i by omega] at h1
  exact h1

theorem e_sparse_Is {n : Nat} {l : List Blk} (h : FilV n l) (hn : n ≤ 32768) (hl : l.length ≤ SM) : f_sparse_Is ⟨(n : Int), l⟩ = some true := by
  have hL : L_sparse_Is_l0 (⟨(n : Int), l⟩, l, (l.length : Int), 0) = some (.inr ()) := by
    refine loop_to (fun i => ((⟨(n : Int), l⟩ : Fil), l, (l.length : Int), (i : Int))) l.length (fun i hi => ?_) ?_
    · have hw := wrS (i := i) (by unfold SM at hl; omega)
      obtain ⟨p, hp, hpn⟩ := h.pos _ (List.getElem_mem hi)
      have hb := e_sparse_isBlock (b := l[i]) (sz := n) (p := p) hp (h.s.len _ (List.getElem_mem hi)) (by omega) hpn (by omega) (h.tail (List.getElem_mem hi) hp)
      simp only [tl_sparse_Is_l0]
      rw [run_iteT (by simp; omega), run_req (inb hi)]
      simp only [getD_int hi]
      rw [run_bind hb, run_iteF (by rfl)]
      by_cases c : i = 0
      · subst c
        rw [run_iteF (by simp), run_ret, hw]
      · have hw2 := wrP (i := i) (by omega) (by unfold SM at hl; omega)
        have hi2 : i - 1 < l.length := by omega
        rw [run_iteT (by simp; omega)]
        simp only [hw2]
        rw [run_req (inb hi2)]
        simp only [getD_int hi2]
        have := h.s.sort (i - 1) i (by omega) hi
        rw [run_iteF (by simp; omega), run_ret, hw]
    · simp only [tl_sparse_Is_l0]
      rw [run_iteF (by simp), run_ret]
  simp only [f_sparse_Is, t_sparse_Is]
  rw [run_iteF (by simp), run_iteF (by simp; omega), run_bind hL, run_caseR, run_ret]

theorem e_r2_Is {n : Nat} {l : List Blk} (h : FilV n l) (hn : n ≤ 32768) (hl : l.length ≤ SM) : f_r2_Is ⟨(n : Int), l⟩ = some true := by
  have hin : ∀ i (hi : i < l.length), L_r2_Is_l0_0 (⟨(n : Int), l⟩, (i : Int), l[i], 0) = some (.inr (⟨(n : Int), l⟩, (i : Int))) := fun i hi => by
    obtain ⟨p, hp, hpn⟩ := h.pos _ (List.getElem_mem hi)
    have hd := h.s.len _ (List.getElem_mem hi)
    have ht := h.tail (List.getElem_mem hi) hp
    refine loop_to (fun j => ((⟨(n : Int), l⟩ : Fil), (i : Int), l[i], (j : Int))) 16 (fun j hj => ?_) ?_
    · have hw := wrS (i := j) (by omega)
      have hw2 : IntKind.i64.wrap (IntKind.i64.wrap (l[i].pos * 16) + (j : Int)) = ((p * 16 + j : Nat) : Int) := by rw [hp, wr (n := (p : Int) * 16) (by omega) (by omega), wr (by omega) (by omega)]; omega
      simp only [tl_r2_Is_l0_0]
      rw [run_iteT (by simp; omega)]
      simp only [hw2]
      by_cases c : n ≤ p * 16 + j
      · have hz := ht j hj c
        rw [run_iteT (by simp; omega), run_req ⟨by omega, by omega⟩, run_iteF (by
          have : l[i].data.getD ((j : Int)).toNat GT.u8.nought = 0 := hz
          rw [this]; rfl), run_ret, hw]
      · rw [run_iteF (by simp; omega), run_ret, hw]
    · simp only [tl_r2_Is_l0_0]
      rw [run_iteF (by simp), run_ret]
  have hL : L_r2_Is_l0 (⟨(n : Int), l⟩, 0) = some (.inr ()) := by
    refine loop_to (fun i => ((⟨(n : Int), l⟩ : Fil), (i : Int))) l.length (fun i hi => ?_) ?_
    · have hw := wrS (i := i) (by unfold SM at hl; omega)
      obtain ⟨p, hp, hpn⟩ := h.pos _ (List.getElem_mem hi)
      have hd := h.s.len _ (List.getElem_mem hi)
      have hw3 : IntKind.i64.wrap (l[i].pos * 16) = ((p * 16 : Nat) : Int) := by rw [hp, wr (by omega) (by omega)]; omega
      simp only [tl_r2_Is_l0]
      rw [run_iteT (by simp; omega), run_req (inb hi)]
      simp only [getD_int hi, hw3]
      rw [run_iteF (by simp; omega), run_iteF (by simp; omega), run_iteF (by simp; omega), run_iteF (by rw [hd]; rfl)]
      by_cases c : i = 0
      · subst c
        have h0 := hin 0 hi
        rw [run_iteF (by simp)]
        refine (run_bind h0).trans ?_
        rw [run_caseR, run_ret, hw]
      · have hw2 := wrP (i := i) (by omega) (by unfold SM at hl; omega)
        have hi2 : i - 1 < l.length := by omega
        rw [run_iteT (by simp; omega)]
        simp only [hw2]
        rw [run_req (inb hi2)]
        simp only [getD_int hi2]
        have := h.s.sort (i - 1) i (by omega) hi
        rw [run_iteF (by simp; omega), run_bind (hin i hi), run_caseR, run_ret, hw]
    · simp only [tl_r2_Is_l0]
      rw [run_iteF (by simp), run_ret]
  simp only [f_r2_Is, t_r2_Is]
  rw [run_iteF (by simp), run_iteF (by simp; omega), run_bind hL, run_caseR, run_ret]

/-! ### The bytes beside it -/

theorem readL_take {l : List Blk} {p n : Nat} (h : p ≤ n) : (readL l 0 n).take p = readL l 0 p := by
  have := readL_add l 0 p (n - p)
  rw [show p + (n - p) = n by omega] at this
  rw [← this, List.take_left' (readL_len _ _ _)]
theorem readL_drop {l : List Blk} {p n : Nat} (h : p ≤ n) : (readL l 0 n).drop p = readL l p (n - p) := by
  have := readL_add l 0 p (n - p)
  rw [show p + (n - p) = n by omega, Nat.zero_add] at this
  rw [← this, List.drop_left' (readL_len _ _ _)]
theorem readL_same {l l' : List Blk} {a n : Nat} (h : ∀ i, a ≤ i → i < a + n → bAt l i = bAt l' i) : readL l a n = readL l' a n := by
  unfold readL
  apply List.map_congr_left
  intro i hi
  have := List.mem_range'_1.1 hi
  exact h i this.1 this.2
theorem readL_zero {l : List Blk} {n : Nat} (h : ∀ i, n ≤ i → bAt l i = 0) (k : Nat) : readL l 0 n ++ List.replicate k 0 = readL l 0 (n + k) := by
  rw [← readL_add, Nat.zero_add]
  congr 1
  unfold readL
  apply List.ext_getElem
  · simp
  · intro i h1 h2
    simp only [List.getElem_replicate, List.getElem_map, List.getElem_range']
    exact (h _ (by omega)).symm
theorem readL_write {l l' : List Blk} {a n : Nat} {d : List UInt8} (h : ∀ i, bAt l' i = if a ≤ i ∧ i < a + d.length then d.getD (i - a) 0 else bAt l i) (hn : a + d.length ≤ n) : (readL l 0 n).take a ++ d ++ (readL l 0 n).drop (a + d.length) = readL l' 0 n := by
  have e1 := readL_add l' 0 a (n - a)
  have e2 := readL_add l' a d.length (n - a - d.length)
  rw [show a + (n - a) = n by omega, Nat.zero_add] at e1
  rw [show d.length + (n - a - d.length) = n - a by omega] at e2
  rw [← e1, ← e2, readL_take (by omega), readL_drop hn, List.append_assoc]
  congr 1
  · exact readL_same fun i _ h2 => by rw [h, if_neg (by omega)]
  congr 1
  · unfold readL
    apply List.ext_getElem
    · simp
    · intro i h1 h2
      simp only [List.getElem_map, List.getElem_range']
      rw [h, if_pos (by omega), List.getD_eq_getElem?_getD, show a + 1 * i - a = i by omega, List.getElem?_eq_getElem h1]
      rfl
  · rw [show n - (a + d.length) = n - a - d.length by omega]
    exact readL_same fun i h1 _ => by rw [h, if_neg (by omega)]

end Go.Proofs.Ytmkmjjodiicmlaa.VS
