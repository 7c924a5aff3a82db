/- Chapter 2: what scripts of writes and cuts leave. Conditions: none. -/
import Derived.Test.YtmkmjjodiicmlaaPSA
namespace Go.Proofs.Ytmkmjjodiicmlaa.VS
set_option maxRecDepth 100000
set_option linter.unusedVariables false
set_option linter.unusedSimpArgs false

theorem blk_pos_of {l : List Blk} {b : Blk} {p : Nat} (hs : SortB l) (hb : b ∈ l) (hp : b.pos = (p : Int)) : (blkAt l (p : Int)).isSome = true := by
  rw [← hp, blkAt_mem hs b hb]; rfl

theorem pos_of_blk {l : List Blk} {k : Int} (h : (blkAt l k).isSome = true) : ∃ b ∈ l, b.pos = k := by
  unfold blkAt at h
  cases hf : l.find? (fun b => b.pos == k) with
  | none => rw [hf] at h; cases h
  | some b =>
    have h1 := List.mem_of_find?_eq_some hf
    have h2 := List.find?_some hf
    exact ⟨b, h1, by simpa using h2⟩

/-- What a write leaves is a file. -/
theorem FilV.write {n a : Nat} {l : List Blk} {d : List UInt8} (h : FilV n l) (hn : n ≤ 32768) (hl : l.length + d.length + 1 ≤ SM) (ha : a + d.length ≤ 32768) :
    ∃ l', f_sparse_Write ⟨(n : Int), l⟩ (a : Int) d = some ⟨((if d = [] then n else max n (a + d.length) : Nat) : Int), l'⟩ ∧ FilV (if d = [] then n else max n (a + d.length)) l' ∧
      (∀ i, bAt l' i = if a ≤ i ∧ i < a + d.length then d.getD (i - a) 0 else bAt l i) ∧ l'.length = l.length + lackB l a d.length ∧ l'.length ≤ l.length + d.length := by
  obtain ⟨l', w1, w2, w3, w4, w5, _⟩ := e_sparse_Write (f := ⟨(n : Int), l⟩) h.s n a d rfl (by omega) (show l.length + d.length + 1 ≤ SM from hl) (by omega)
  have hp := write_pos (f := ⟨(n : Int), l⟩) h.s n a d rfl (by omega) (show l.length + d.length + 1 ≤ SM from hl) (by omega) (fun k => 0 ≤ k ∧ k ≤ 62500) (fun k hk => ⟨by omega, by omega⟩) (fun b hb => by
    obtain ⟨p, h1, h2⟩ := h.pos b hb
    constructor <;> omega) w1
  have hc := write_cnt (f := ⟨(n : Int), l⟩) h.s n a d rfl (by omega) (show l.length + d.length + 1 ≤ SM from hl) (by omega) w1
  have w4 : ∀ k : Nat, (blkAt l' (k : Int)).isSome = ((blkAt l (k : Int)).isSome || (decide (a / 16 ≤ k) && decide (k < a / 16 + cntB a d.length))) := w4
  have w3 : ∀ i, bAt l' i = if a ≤ i ∧ i < a + d.length then d.getD (i - a) 0 else bAt l i := w3
  refine ⟨l', ?_, ⟨w2, fun b hb => ?_, fun i hi => ?_⟩, w3, hc, w5⟩
  · rw [w1]
    by_cases c : d = []
    · rw [if_pos c, if_pos c]
    · rw [if_neg c, if_neg c]
  · obtain ⟨q1, q2⟩ := hp b hb
    obtain ⟨p, hpp⟩ : ∃ p : Nat, b.pos = (p : Int) := ⟨b.pos.toNat, by omega⟩
    refine ⟨p, hpp, ?_⟩
    have h1 := blk_pos_of w2.sort hb hpp
    rw [w4 p, Bool.or_eq_true] at h1
    rcases h1 with h1 | h1
    · obtain ⟨b', k1, k2⟩ := pos_of_blk h1
      obtain ⟨p', k3, k4⟩ := h.pos b' k1
      have : p' = p := by omega
      split <;> omega
    · rw [Bool.and_eq_true, decide_eq_true_eq, decide_eq_true_eq] at h1
      unfold cntB at h1
      by_cases c : d = []
      · subst c; simp at h1; omega
      · have : 0 < d.length := List.length_pos_iff.2 c
        rw [if_neg (by omega)] at h1
        rw [if_neg c]
        omega
  · rw [w3]
    by_cases c : d = []
    · rw [if_pos c] at hi
      rw [if_neg (by rw [c]; simp)]
      exact h.zero i hi
    · rw [if_neg c] at hi
      rw [if_neg (by omega)]
      exact h.zero i (by omega)

/-- What a cut leaves is a file. -/
theorem FilV.cut {n a : Nat} {l : List Blk} (h : FilV n l) (hn : n ≤ 32768) (hl : l.length ≤ SM) (ha : a ≤ 32768) :
    f_sparse_Cut ⟨(n : Int), l⟩ (a : Int) = some ⟨(a : Int), cutB (a : Int) l⟩ ∧ FilV a (cutB (a : Int) l) ∧ ∀ i, bAt (cutB (a : Int) l) i = if i < a then bAt l i else 0 := by
  have hP : FilP l := ⟨h.s, fun b hb => by
    obtain ⟨p, h1, h2⟩ := h.pos b hb
    constructor <;> omega⟩
  refine ⟨e_sparse_Cut (f := ⟨(n : Int), l⟩) hP hl (by omega) (by omega), ⟨(cutB_FilP hP).s, fun b hb => ?_, fun i hi => ?_⟩, cutB_at hP⟩
  · obtain ⟨c, h1, h2, h3, _⟩ := cutB_mem hb
    obtain ⟨p, h4, _⟩ := h.pos c h1
    exact ⟨p, by omega, by omega⟩
  · rw [cutB_at hP, if_neg (by omega)]

theorem e_ext0 (acts : List Akt) (f : Fil) (w : List UInt8) (i : Int) (act : Akt) (r had : Int) (a : Nat) (ha : act.pos = (a : Int)) (h1 : a + act.b.length ≤ 1000) (h2 : w.length ≤ 1000) :
    L_law2_SparsePlays_l0_0 (acts, f, w, i, act, r, had) = some (acts, f, (if act.b = [] then w else w ++ List.replicate (a + act.b.length - w.length) 0), i, act, r, had) := by
  have hsm : 100000 ≤ SM := by unfold SM; omega
  have hw3 : IntKind.i64.wrap ((a : Int) + (act.b.length : Int)) = ((a + act.b.length : Nat) : Int) := by rw [wr (by omega) (by omega)]; omega
  by_cases c : act.b = []
  · rw [if_pos c]
    refine fixT_out ?_
    simp only [tl_law2_SparsePlays_l0_0]
    rw [run_iteF (by rw [c]; simp), run_same, run_ret]
  · rw [if_neg c]
    have hd0 : 0 < act.b.length := List.length_pos_iff.2 c
    have h := loop_to (t := fun q : ((List Akt) × (Fil × ((List UInt8) × (Int × (Akt × (Int × Int)))))) => tl_law2_SparsePlays_l0_0 q.1 q.2.1 q.2.2.1 q.2.2.2.1 q.2.2.2.2.1 q.2.2.2.2.2.1 q.2.2.2.2.2.2) (out := (acts, f, w ++ List.replicate (a + act.b.length - w.length) 0, i, act, r, had)) (fun j => (acts, f, w ++ List.replicate j 0, i, act, r, had)) (a + act.b.length - w.length) (fun j hj => by
      have e1 : w ++ List.replicate j 0 ++ [UInt8.ofNat (Int.toNat (0 : Int))] = w ++ List.replicate (j + 1) 0 := by rw [List.append_assoc, List.replicate_succ']; rfl
      simp only [tl_law2_SparsePlays_l0_0, ha, hw3]
      rw [run_iteT (by simp; omega), run_iteT (by simp; omega), run_req ⟨by decide, by decide⟩, run_req ⟨by simp, rmM (by simp; omega) (by omega)⟩, run_same, run_ret, e1]) (by
      simp only [tl_law2_SparsePlays_l0_0, ha, hw3]
      rw [run_iteT (by simp; omega), run_iteF (by simp; omega), run_same, run_ret])
    have e : w ++ List.replicate 0 (0 : UInt8) = w := by simp
    rw [e] at h
    exact h

theorem e_ext2 (acts : List Akt) (f : Fil) (w : List UInt8) (i : Int) (act : Akt) (a : Nat) (ha : act.pos = (a : Int)) (h1 : a ≤ 1000) (h2 : w.length ≤ 1000) :
    L_law2_SparsePlays_l0_2 (acts, f, w, i, act) = some (acts, f, w ++ List.replicate (a - w.length) 0, i, act) := by
  have hsm : 100000 ≤ SM := by unfold SM; omega
  have h := loop_to (t := fun q : ((List Akt) × (Fil × ((List UInt8) × (Int × Akt)))) => tl_law2_SparsePlays_l0_2 q.1 q.2.1 q.2.2.1 q.2.2.2.1 q.2.2.2.2) (out := (acts, f, w ++ List.replicate (a - w.length) 0, i, act)) (fun j => (acts, f, w ++ List.replicate j 0, i, act)) (a - w.length) (fun j hj => by
    have e1 : w ++ List.replicate j 0 ++ [UInt8.ofNat (Int.toNat (0 : Int))] = w ++ List.replicate (j + 1) 0 := by rw [List.append_assoc, List.replicate_succ']; rfl
    simp only [tl_law2_SparsePlays_l0_2, ha]
    rw [run_iteT (by simp; omega), run_req ⟨by decide, by decide⟩, run_req ⟨by simp, rmM (by simp; omega) (by omega)⟩, run_same, run_ret, e1]) (by
    simp only [tl_law2_SparsePlays_l0_2, ha]
    rw [run_iteF (by simp; omega), run_same, run_ret])
  have e : w ++ List.replicate 0 (0 : UInt8) = w := by simp
  rw [e] at h
  exact h

theorem set_mid {w b : List UInt8} {a j : Nat} (hj : j < b.length) (h : a + b.length ≤ w.length) : (w.take a ++ b.take j ++ w.drop (a + j)).set (a + j) b[j] = w.take a ++ b.take (j + 1) ++ w.drop (a + (j + 1)) := by
  have hl : (w.take a ++ b.take j).length = a + j := by simp; omega
  have e : b.take (j + 1) = b.take j ++ [b[j]] := by rw [List.take_add_one, List.getElem?_eq_getElem hj]; rfl
  rw [List.set_append_right _ _ (by omega), hl, Nat.sub_self, List.drop_eq_getElem_cons (by omega : a + j < w.length), List.set_cons_zero, e, ← List.append_assoc, List.append_assoc (w.take a ++ b.take j) [b[j]]]
  rfl

theorem e_put (acts : List Akt) (f : Fil) (w : List UInt8) (i : Int) (act : Akt) (r had : Int) (a : Nat) (ha : act.pos = (a : Int)) (h1 : a + act.b.length ≤ 1000) (h2 : act.b = [] ∨ a + act.b.length ≤ w.length) :
    L_law2_SparsePlays_l0_1 (acts, f, w, i, act, r, had, 0) = some (acts, f, w.take a ++ act.b ++ w.drop (a + act.b.length), i, r, had) := by
  have h := loop_to (t := fun q : ((List Akt) × (Fil × ((List UInt8) × (Int × (Akt × (Int × (Int × Int))))))) => tl_law2_SparsePlays_l0_1 q.1 q.2.1 q.2.2.1 q.2.2.2.1 q.2.2.2.2.1 q.2.2.2.2.2.1 q.2.2.2.2.2.2.1 q.2.2.2.2.2.2.2) (out := (acts, f, w.take a ++ act.b ++ w.drop (a + act.b.length), i, r, had)) (fun j => (acts, f, w.take a ++ act.b.take j ++ w.drop (a + j), i, act, r, had, (j : Int))) act.b.length (fun j hj => by
    have hw := wrS (i := j) (by omega)
    have hwl : a + act.b.length ≤ w.length := h2.resolve_left fun e => by rw [e] at hj; cases hj
    have hw3 : IntKind.i64.wrap ((a : Int) + (j : Int)) = ((a + j : Nat) : Int) := by rw [wr (by omega) (by omega)]; omega
    have hll : (w.take a ++ act.b.take j ++ w.drop (a + j)).length = w.length := by simp; omega
    have hlt := (act.b[j]).toNat_lt
    have hof : UInt8.ofNat act.b[j].toNat = act.b[j] := by simp
    have hgd : act.b.getD j GT.u8.nought = act.b[j] := by simp [hj]
    simp only [tl_law2_SparsePlays_l0_1, ha, hw3, hll]
    rw [run_iteT (by simp; omega), run_req (inb hj)]
    simp only [Int.toNat_natCast, hgd, hof]
    rw [run_req ⟨by omega, by omega⟩, run_req (by omega), run_req ⟨by omega, by omega⟩, set_mid hj hwl, run_req (by simp; omega), run_ret, hw]) (by
    simp only [tl_law2_SparsePlays_l0_1]
    rw [run_iteF (by simp), run_same, run_ret, List.take_length])
  have e : w.take a ++ act.b.take 0 ++ w.drop (a + 0) = w := by simp
  rw [e] at h
  exact h

theorem law_SparsePlays (acts : List Akt) : f_law2_SparsePlays acts = some true := by
  have hk := e_law2_known
  simp only [f_law2_SparsePlays, t_law2_SparsePlays]
  by_cases c0 : (acts.length : Int) > 20
  · rw [run_iteT (by simpa using c0), run_ret]
  rw [run_iteF (by simpa using c0)]
  have key := loop_inv (t := fun q : ((List Akt) × (Fil × ((List UInt8) × Int))) => tl_law2_SparsePlays_l0 q.1 q.2.1 q.2.2.1 q.2.2.2)
    (fun i p => ∃ (n : Nat) (l : List Blk), p = (acts, ⟨(n : Int), l⟩, readL l 0 n, (i : Int)) ∧ FilV n l ∧ n ≤ 700 ∧ l.length ≤ 100 * i) (fun r => r = .inl true ∨ r = .inr ()) acts.length (fun i p hi hp => ?_) (fun p hp => ?_) (p := (acts, ⟨0, []⟩, [], 0)) ⟨0, [], rfl, FilV.nil, by omega, by simp⟩
  · obtain ⟨r, h1, h2⟩ := key
    have h1 : L_law2_SparsePlays_l0 (acts, ⟨0, []⟩, [], 0) = some r := h1
    rw [run_bind h1]
    rcases h2 with rfl | rfl
    · rw [run_caseL, run_ret]
    · rw [run_caseR, run_bind hk, run_ret]
  · obtain ⟨n, l, rfl, hv, hn, hll⟩ := hp
    have hi20 : i < 20 := by omega
    have hw := wrS (i := i) (by omega)
    have hsm : 100000 ≤ SM := by unfold SM; omega
    simp only [tl_law2_SparsePlays_l0]
    rw [run_iteT (by simp; omega), run_req (inb hi)]
    simp only [getD_int hi]
    generalize hact : acts[i] = act
    by_cases c1 : act.pos < 0
    · exact .inr ⟨_, by rw [run_iteT (by simpa using c1), run_ret], .inl rfl⟩
    rw [run_iteF (by simpa using c1)]
    by_cases c2 : act.pos > 600
    · exact .inr ⟨_, by rw [run_iteT (by simpa using c2), run_ret], .inl rfl⟩
    rw [run_iteF (by simpa using c2)]
    by_cases c3 : (act.b.length : Int) > 100
    · exact .inr ⟨_, by rw [run_iteT (by simpa using c3), run_ret], .inl rfl⟩
    rw [run_iteF (by simpa using c3)]
    obtain ⟨a, ha⟩ : ∃ a : Nat, act.pos = (a : Int) := ⟨act.pos.toNat, by omega⟩
    generalize hd : act.b = d at *
    by_cases c4 : act.kind = 1
    · left
      rw [run_iteT (by simpa using c4)]
      obtain ⟨l', w1, w2, w3, w4, w5⟩ := hv.write (a := a) (d := d) (by omega) (by omega) (by omega)
      have hm := e_sparse_More (f := ⟨(n : Int), l⟩) hv.s (show l.length ≤ SM by omega) a d.length (by omega)
      have hm : f_sparse_More ⟨(n : Int), l⟩ (a : Int) (d.length : Int) = some ((lackB l a d.length : Nat) : Int) := hm
      have hlk : lackB l a d.length ≤ d.length := by omega
      generalize hn' : (if d = [] then n else max n (a + d.length)) = n' at w1 w2
      have hn'b : n' ≤ 700 := by rw [← hn']; split <;> omega
      rw [ha, run_bind hm, run_bind w1, run_same]
      have hx := e_ext0 acts ⟨(n' : Int), l'⟩ (readL l 0 n) (i : Int) act ((lackB l a d.length : Nat) : Int) (l.length : Int) a ha (by rw [hd]; omega) (by rw [readL_len]; omega)
      rw [hd, readL_len] at hx
      have hw1 : (if d = [] then readL l 0 n else readL l 0 n ++ List.replicate (a + d.length - n) 0) = readL l 0 n' := by
        rw [← hn']
        by_cases c : d = []
        · rw [if_pos c, if_pos c]
        · rw [if_neg c, if_neg c, readL_zero hv.zero]
          congr 1; omega
      rw [hw1] at hx
      have hbd : d = [] ∨ a + d.length ≤ n' := by
        by_cases c : d = []
        · exact .inl c
        · right; rw [if_neg c] at hn'; omega
      have hy := e_put acts ⟨(n' : Int), l'⟩ (readL l 0 n') (i : Int) act ((lackB l a d.length : Nat) : Int) (l.length : Int) a ha (by rw [hd]; omega) (by rw [hd, readL_len]; exact hbd)
      rw [hd] at hy
      have hw2 : (readL l 0 n').take a ++ d ++ (readL l 0 n').drop (a + d.length) = readL l' 0 n' := by
        rcases hbd with c | c
        · subst c
          simp only [List.append_nil, List.length_nil, Nat.add_zero, List.take_append_drop]
          exact readL_same fun i _ _ => by rw [w3, if_neg (by simp)]
        · exact readL_write w3 c
      rw [hw2] at hy
      have hrd := e_sparse_Read (f := ⟨(n' : Int), l'⟩) w2.s (show l'.length ≤ SM by omega) n' 0 n' rfl (by omega) (by omega)
      rw [show min (0 + n') n' - 0 = n' by omega] at hrd
      have hrd : f_sparse_Read ⟨(n' : Int), l'⟩ 0 (n' : Int) = some (readL l' 0 n') := hrd
      have hcn : IntKind.i64.wrap ((l.length : Int) + ((lackB l a d.length : Nat) : Int)) = (l'.length : Int) := by rw [wr (by omega) (by omega)]; omega
      have his := e_sparse_Is w2 (by omega) (show l'.length ≤ SM by omega)
      have hri := e_r2_Is w2 (by omega) (show l'.length ≤ SM by omega)
      refine ⟨(acts, ⟨(n' : Int), l'⟩, readL l' 0 n', ((i + 1 : Nat) : Int)), ?_, n', l', rfl, w2, hn'b, by omega⟩
      rw [run_bind hx]
      dsimp only
      rw [run_same, run_bind hy]
      dsimp only
      rw [run_iteF (by rw [hcn]; simp), run_iteF (by rw [readL_len]; simp), run_bind hrd, run_same, run_iteF (by simp), run_bind his, run_iteF (by rfl), run_bind hri, run_iteF (by rfl), run_same, run_ret, hw]
    · left
      rw [run_iteF (by simpa using c4), ha]
      obtain ⟨w1, w2, w3⟩ := hv.cut (a := a) (by omega) (by omega) (by omega)
      have hcl := cutB_length (n := (a : Int)) l
      have hx := e_ext2 acts ⟨(a : Int), cutB (a : Int) l⟩ (readL l 0 n) (i : Int) act a ha (by omega) (by rw [readL_len]; omega)
      rw [readL_len, readL_zero hv.zero] at hx
      have hrd := e_sparse_Read (f := ⟨(a : Int), cutB (a : Int) l⟩) w2.s (show (cutB (a : Int) l).length ≤ SM by omega) a 0 a rfl (by omega) (by omega)
      rw [show min (0 + a) a - 0 = a by omega] at hrd
      have hrd : f_sparse_Read ⟨(a : Int), cutB (a : Int) l⟩ 0 (a : Int) = some (readL (cutB (a : Int) l) 0 a) := hrd
      have hw2 : (readL l 0 (n + (a - n))).take a = readL (cutB (a : Int) l) 0 a := by
        rw [readL_take (by omega)]
        exact readL_same fun i _ h => by rw [w3, if_pos (by omega)]
      have his := e_sparse_Is w2 (by omega) (show (cutB (a : Int) l).length ≤ SM by omega)
      have hri := e_r2_Is w2 (by omega) (show (cutB (a : Int) l).length ≤ SM by omega)
      refine ⟨(acts, ⟨(a : Int), cutB (a : Int) l⟩, readL (cutB (a : Int) l) 0 a, ((i + 1 : Nat) : Int)), ?_, a, cutB (a : Int) l, rfl, w2, by omega, by omega⟩
      rw [run_bind w1, run_same, run_bind hx]
      dsimp only
      simp only [ha, Int.toNat_natCast, hw2, readL_len]
      rw [run_req ⟨by simp, by omega, by omega⟩, run_iteF (by simp), run_bind hrd, run_req (by simp), run_iteF (by simp), run_bind his, run_iteF (by rfl), run_bind hri, run_iteF (by rfl), run_req (by simp), run_ret, hw]
  · obtain ⟨n, l, rfl, hv, hn, hll⟩ := hp
    simp only [tl_law2_SparsePlays_l0]
    exact ⟨_, by rw [run_iteF (by simp), run_ret], .inr rfl⟩

end Go.Proofs.Ytmkmjjodiicmlaa.VS
