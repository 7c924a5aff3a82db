/- Chapter 13: numbers and homes, in plain words. Conditions: none. -/
import Derived.Test.YtkdcjfnmmmmocaaPX1
namespace Go.Proofs.Ytkdcjfnmmmmocaa.VS
set_option maxRecDepth 100000
set_option linter.unusedVariables false
set_option linter.unusedSimpArgs false

theorem bySpot_neg (r : Rwo) (s : Spt) : decide (fBySpot r.spot s < 0) = pS s r := by
  have := fBySpot_lt r.spot s
  unfold pS
  cases h : fAhead r.spot s with
  | true => rw [h] at this; simp at this; simp; omega
  | false => rw [h] at this; simp at this; simp; omega
theorem bySpot_zero (r : Rwo) (s : Spt) : (fBySpot r.spot s == 0) = eS s r := by
  unfold fBySpot eS cmp3 firstNZ firstNZ firstNZ
  by_cases h1 : r.spot.branch < s.branch
  · have : ¬ r.spot.branch = s.branch := by omega
    simp [h1, this]
  · by_cases h2 : s.branch < r.spot.branch
    · have : ¬ r.spot.branch = s.branch := by omega
      simp [h1, h2, this]
    · have h3 : r.spot.branch = s.branch := by omega
      by_cases h4 : r.spot.ino < s.ino
      · have : ¬ r.spot.ino = s.ino := by omega
        simp [h3, h4, this]
      · by_cases h5 : s.ino < r.spot.ino
        · have : ¬ r.spot.ino = s.ino := by omega
          simp [h3, h4, h5, this]
        · have h6 : r.spot.ino = s.ino := by omega
          simp [h3, h6]
theorem byU_neg (r : Rwo) (u : Int) : decide (cmp3 r.u u < 0) = pU u r := by
  unfold cmp3 pU
  by_cases h : r.u < u
  · simp [h]
  · by_cases k : u < r.u <;> simp [h, k]
theorem byU_zero (r : Rwo) (u : Int) : (cmp3 r.u u == 0) = eU u r := by
  unfold cmp3 eU
  by_cases h : r.u < u
  · have : ¬ r.u = u := by omega
    simp [h, this]
  · by_cases k : u < r.u
    · have : ¬ r.u = u := by omega
      simp [h, k, this]
    · have : r.u = u := by omega
      simp [this]

theorem find_two {α : Type} (l : List α) (p : α → Bool) : (l.findIdx? p = none ∧ l.find? p = none) ∨ ∃ (i : Nat) (h : i < l.length), l.findIdx? p = some i ∧ l.find? p = some l[i] ∧ p l[i] = true ∧ ∀ j (hj : j < i), p l[j] = false := by
  cases hf : l.findIdx? p with
  | none =>
    left
    rw [List.findIdx?_eq_none_iff] at hf
    exact ⟨rfl, List.find?_eq_none.2 fun a ha => by rw [hf a ha]; simp⟩
  | some i =>
    right
    obtain ⟨hr, hp, hlt⟩ := List.findIdx?_eq_some_iff_getElem.1 hf
    have h2 : ∀ j (hj : j < i), p l[j] = false := fun j hj => by have := hlt j hj; simpa using this
    exact ⟨i, hr, rfl, List.find?_eq_some_iff_getElem.2 ⟨hp, i, hr, rfl, fun j hj => by rw [h2 j hj]; rfl⟩, hp, h2⟩

theorem e_find_S {l : List Rwo} (hl : l.length ≤ 1000) (hs : l.Pairwise ltS) (c : Spt) : ∃ k : Nat, k ≤ l.length ∧ l.takeWhile (pS c) = l.take k ∧ l.dropWhile (pS c) = l.drop k ∧ f_slices_BinarySearchFunc_Row_Spot__table_bySpot l c () = some ((k : Int), headG (eS c) (l.drop k)) := by
  have K := keyS c
  obtain ⟨k, k1, k2, k3, k4⟩ := bsearch (t := fun q : List Rwo × (Unit × (Spt × (Int × (Int × Int)))) => tl_slices_BinarySearchFunc_Row_Spot__table_bySpot_l0 q.1 q.2.1 q.2.2.1 q.2.2.2.1 q.2.2.2.2.1 q.2.2.2.2.2) l.length (by unfold SM; omega)
    (fun i j => (l, (), c, (l.length : Int), (i : Int), (j : Int))) (fun i => (l, (), c, (l.length : Int), (i : Int))) (fun h => if hl : h < l.length then pS c l[h] else false)
    (fun a b hab hb h => by
      rw [dif_pos hb] at h
      rw [dif_pos (by omega)]
      by_cases e : a = b
      · subst e; exact h
      · exact K.p1 _ _ (List.pairwise_iff_getElem.1 hs a b (by omega) hb (by omega)) h)
    (fun i j hij hj => by
      have hh := halve i j (by omega)
      have hm : (i + j) / 2 < l.length := by omega
      have hw := wrS (i := (i + j) / 2) (by omega)
      have hcmp := e_bySpot l[(i + j) / 2] c
      simp only [tl_slices_BinarySearchFunc_Row_Spot__table_bySpot_l0]
      rw [run_iteT (by simp; omega), run_req (by decide)]
      simp only [hh]
      rw [run_req (inb hm)]
      simp only [getD_int hm]
      rw [run_bind hcmp, dif_pos hm]
      cases hp : pS c l[(i + j) / 2] with
      | true => rw [run_iteT (by rw [bySpot_neg, hp]), run_ret, hw, cond_true]
      | false => rw [run_iteF (by rw [bySpot_neg, hp]), run_ret, cond_false])
    (fun i hi => by
      simp only [tl_slices_BinarySearchFunc_Row_Spot__table_bySpot_l0]
      rw [run_iteF (by simp), run_ret])
  have k4 : L_slices_BinarySearchFunc_Row_Spot__table_bySpot_l0 (l, (), c, (l.length : Int), 0, (l.length : Int)) = some (l, (), c, (l.length : Int), (k : Int)) := k4
  obtain ⟨c1, c2⟩ := cut_at (p := pS c) k1 (fun h hk hl => by have := k2 h hk; rw [dif_pos hl] at this; exact this) (fun h hk hl => by have := k3 h hk hl; rw [dif_pos hl] at this; exact this)
  refine ⟨k, k1, c1, c2, ?_⟩
  simp only [f_slices_BinarySearchFunc_Row_Spot__table_bySpot, t_slices_BinarySearchFunc_Row_Spot__table_bySpot]
  rw [run_bind k4]
  by_cases hk : k < l.length
  · have hcmp := e_bySpot l[k] c
    rw [run_iteT (by simp; omega), run_req (inb hk)]
    simp only [getD_int hk]
    rw [run_bind hcmp, run_ret, bySpot_zero, List.drop_eq_getElem_cons hk]
    rfl
  · rw [run_iteF (by simp; omega), run_ret, List.drop_eq_nil_of_le (by omega)]
    rfl

theorem e_find_U {l : List Rwo} (hl : l.length ≤ 1000) (hs : l.Pairwise ltU) (c : Int) : ∃ k : Nat, k ≤ l.length ∧ l.takeWhile (pU c) = l.take k ∧ l.dropWhile (pU c) = l.drop k ∧ f_slices_BinarySearchFunc_Row_int64__table_byU l c () = some ((k : Int), headG (eU c) (l.drop k)) := by
  have K := keyU c
  obtain ⟨k, k1, k2, k3, k4⟩ := bsearch (t := fun q : List Rwo × (Int × (Unit × (Int × (Int × Int)))) => tl_slices_BinarySearchFunc_Row_int64__table_byU_l0 q.1 q.2.1 q.2.2.1 q.2.2.2.1 q.2.2.2.2.1 q.2.2.2.2.2) l.length (by unfold SM; omega)
    (fun i j => (l, c, (), (l.length : Int), (i : Int), (j : Int))) (fun i => (l, c, (), (l.length : Int), (i : Int))) (fun h => if hl : h < l.length then pU c l[h] else false)
    (fun a b hab hb h => by
      rw [dif_pos hb] at h
      rw [dif_pos (by omega)]
      by_cases e : a = b
      · subst e; exact h
      · exact K.p1 _ _ (List.pairwise_iff_getElem.1 hs a b (by omega) hb (by omega)) h)
    (fun i j hij hj => by
      have hh := halve i j (by omega)
      have hm : (i + j) / 2 < l.length := by omega
      have hw := wrS (i := (i + j) / 2) (by omega)
      have hcmp := e_byU l[(i + j) / 2] c
      simp only [tl_slices_BinarySearchFunc_Row_int64__table_byU_l0]
      rw [run_iteT (by simp; omega), run_req (by decide)]
      simp only [hh]
      rw [run_req (inb hm)]
      simp only [getD_int hm]
      rw [run_bind hcmp, dif_pos hm]
      cases hp : pU c l[(i + j) / 2] with
      | true => rw [run_iteT (by rw [byU_neg, hp]), run_ret, hw, cond_true]
      | false => rw [run_iteF (by rw [byU_neg, hp]), run_ret, cond_false])
    (fun i hi => by
      simp only [tl_slices_BinarySearchFunc_Row_int64__table_byU_l0]
      rw [run_iteF (by simp), run_ret])
  have k4 : L_slices_BinarySearchFunc_Row_int64__table_byU_l0 (l, c, (), (l.length : Int), 0, (l.length : Int)) = some (l, c, (), (l.length : Int), (k : Int)) := k4
  obtain ⟨c1, c2⟩ := cut_at (p := pU c) k1 (fun h hk hl => by have := k2 h hk; rw [dif_pos hl] at this; exact this) (fun h hk hl => by have := k3 h hk hl; rw [dif_pos hl] at this; exact this)
  refine ⟨k, k1, c1, c2, ?_⟩
  simp only [f_slices_BinarySearchFunc_Row_int64__table_byU, t_slices_BinarySearchFunc_Row_int64__table_byU]
  rw [run_bind k4]
  by_cases hk : k < l.length
  · have hcmp := e_byU l[k] c
    rw [run_iteT (by simp; omega), run_req (inb hk)]
    simp only [getD_int hk]
    rw [run_bind hcmp, run_ret, byU_zero, List.drop_eq_getElem_cons hk]
    rfl
  · rw [run_iteF (by simp; omega), run_ret, List.drop_eq_nil_of_le (by omega)]
    rfl

theorem e_pred_Lose (r : Rwo) (c : Spt) : f_table_Lose_1 r c = some (eS c r) := by
  simp only [f_table_Lose_1, t_table_Lose_1, run_ret]; rfl

theorem e_index_Lose {l : List Rwo} (hl : l.length ≤ 1000) (c : Spt) : f_slices_IndexFunc_Row__table_Lose_1 l c = some (match l.findIdx? (eS c) with | some i => (i : Int) | none => -1) := by
  have key := loop_find (t := fun q : List Rwo × (Spt × (Int × Int)) => tl_slices_IndexFunc_Row__table_Lose_1_l0 q.1 q.2.1 q.2.2.1 q.2.2.2) l (eS c) (fun i => (l, c, (l.length : Int), (i : Int))) (fun i _ => Sum.inl (i : Int)) (Sum.inr ())
    (fun i hi hp _ => by
      have hw := wrS (i := i) (by omega)
      simp only [tl_slices_IndexFunc_Row__table_Lose_1_l0]
      rw [run_iteT (by simp; omega), run_req (inb hi)]
      simp only [getD_int hi]
      rw [run_bind (e_pred_Lose _ _), hp, run_iteF (by rfl), run_ret, hw])
    (fun i hi hp _ => by
      simp only [tl_slices_IndexFunc_Row__table_Lose_1_l0]
      rw [run_iteT (by simp; omega), run_req (inb hi)]
      simp only [getD_int hi]
      rw [run_bind (e_pred_Lose _ _), hp, run_iteT (by rfl), run_ret])
    (fun _ => by
      simp only [tl_slices_IndexFunc_Row__table_Lose_1_l0]
      rw [run_iteF (by simp), run_ret])
  simp only [f_slices_IndexFunc_Row__table_Lose_1, t_slices_IndexFunc_Row__table_Lose_1]
  have key : L_slices_IndexFunc_Row__table_Lose_1_l0 (l, c, (l.length : Int), 0) = _ := key
  rcases find_two l (eS c) with ⟨f1, f2⟩ | ⟨i, hi, f1, f2, _⟩
  · rw [f1, f2] at key
    rw [run_bind key, run_caseR, run_ret, f1]
  · rw [f1, f2] at key
    rw [run_bind key, run_caseL, run_ret, f1]

theorem e_delete_Lose {l : List Rwo} (hl : l.length ≤ 1000) (c : Spt) : f_slices_DeleteFunc_Row__table_Lose_1 l c = some (l.filter fun x => !eS c x) := by
  simp only [f_slices_DeleteFunc_Row__table_Lose_1, t_slices_DeleteFunc_Row__table_Lose_1]
  rw [run_same, run_bind (e_index_Lose hl c)]
  cases hf : l.findIdx? (eS c) with
  | none =>
    rw [run_iteT (by rfl), run_same, run_ret]
    rw [List.findIdx?_eq_none_iff] at hf
    rw [List.filter_eq_self.2 fun a ha => by rw [hf a ha]; rfl]
  | some r0 =>
    obtain ⟨hr, hp, hlt⟩ := List.findIdx?_eq_some_iff_getElem.1 hf
    have hw0 := wrS (i := r0) (by omega)
    rw [run_iteF (by simp), run_same]
    simp only [hw0]
    have hloop : ∃ s, L_slices_DeleteFunc_Row__table_Lose_1_l0 (l, c, (r0 : Int), ((r0 + 1 : Nat) : Int)) = some s ∧ s.1.length = l.length ∧ ∃ i : Nat, s.2 = (i : Int) ∧ i < l.length ∧ s.1.take i = l.filter fun x => !eS c x := by
      have := loop_inv (t := fun q : List Rwo × (Spt × (Int × Int)) => tl_slices_DeleteFunc_Row__table_Lose_1_l0 q.1 q.2.1 q.2.2.1 q.2.2.2)
        (fun j q => ∃ (s : List Rwo) (i : Nat), q = (s, c, (i : Int), ((r0 + 1 + j : Nat) : Int)) ∧ s.length = l.length ∧ i < r0 + 1 + j ∧ s.take i = (l.take (r0 + 1 + j)).filter (fun x => !eS c x) ∧ s.drop (r0 + 1 + j) = l.drop (r0 + 1 + j))
        (fun s => s.1.length = l.length ∧ ∃ i : Nat, s.2 = (i : Int) ∧ i < l.length ∧ s.1.take i = l.filter fun x => !eS c x) (l.length - (r0 + 1)) (p := (l, c, (r0 : Int), ((r0 + 1 + 0 : Nat) : Int))) (fun j q hj hI => ?_) (fun q hI => ?_) ?_
      · exact this
      · obtain ⟨s, i, rfl, h1, h2, h3, h4⟩ := hI
        left
        have hjl : r0 + 1 + j < l.length := by omega
        have hjs : r0 + 1 + j < s.length := by omega
        have his : i < s.length := by omega
        have hs : s[r0 + 1 + j] = l[r0 + 1 + j] := by
          have e1 := List.getElem_drop (xs := s) (i := r0 + 1 + j) (j := 0) (h := by simp; omega)
          have e2 := List.getElem_drop (xs := l) (i := r0 + 1 + j) (j := 0) (h := by simp; omega)
          simp only [Nat.add_zero] at e1 e2
          rw [← e1, ← e2]
          simp only [h4]
        have hw1 := wrS (i := i) (by omega)
        have hw2 := wrS (i := r0 + 1 + j) (by omega)
        have htake : l.take (r0 + 1 + j + 1) = l.take (r0 + 1 + j) ++ [l[r0 + 1 + j]] := by rw [List.take_succ_eq_append_getElem hjl]
        simp only [tl_slices_DeleteFunc_Row__table_Lose_1_l0]
        rw [run_iteT (by simp; omega), run_req (inb hjs), run_req (by rw [Int.toNat_natCast]; exact hjs)]
        simp only [getD_int hjs]
        rw [run_bind (e_pred_Lose _ _), hs]
        cases hq : eS c l[r0 + 1 + j] with
        | false =>
          rw [run_iteT (by rfl), run_req (inb his), run_req (by rw [Int.toNat_natCast]; exact his), run_req (by simp)]
          simp only [Int.toNat_natCast]
          refine ⟨_, by rw [run_ret, hw1, hw2], s.set i l[r0 + 1 + j], i + 1, by rw [show r0 + 1 + j + 1 = r0 + 1 + (j + 1) by omega], by simp [h1], by omega, ?_, ?_⟩
          · rw [show r0 + 1 + (j + 1) = r0 + 1 + j + 1 by omega, htake, List.filter_append, ← h3, List.filter_cons, List.filter_nil, hq]
            rw [List.take_set]
            simp only [Bool.not_false, cond_true, if_true]
            have hz : i < (s.set i l[r0 + 1 + j]).length := by simp; exact his
            rw [← List.take_set, List.take_succ_eq_append_getElem hz, List.take_set, List.getElem_set_self]
            congr 1
            rw [List.set_eq_of_length_le (by simp; omega)]
          · rw [show r0 + 1 + (j + 1) = r0 + 1 + j + 1 by omega, List.drop_set_of_lt (by omega)]
            rw [← List.drop_drop, ← List.drop_drop (i := 1) (j := r0 + 1 + j), h4]
        | true =>
          rw [run_iteF (by rfl), run_same]
          refine ⟨_, by rw [run_ret, hw2], s, i, by rw [show r0 + 1 + j + 1 = r0 + 1 + (j + 1) by omega], h1, by omega, ?_, ?_⟩
          · rw [show r0 + 1 + (j + 1) = r0 + 1 + j + 1 by omega, htake, List.filter_append, ← h3, List.filter_cons, List.filter_nil, hq]
            simp
          · rw [show r0 + 1 + (j + 1) = r0 + 1 + j + 1 by omega, ← List.drop_drop, ← List.drop_drop (i := 1) (j := r0 + 1 + j), h4]
      · obtain ⟨s, i, rfl, h1, h2, h3, h4⟩ := hI
        have e : r0 + 1 + (l.length - (r0 + 1)) = l.length := by omega
        rw [e] at h2 h3 h4 ⊢
        simp only [tl_slices_DeleteFunc_Row__table_Lose_1_l0]
        rw [run_iteF (by simp; omega), run_same, run_ret]
        rw [List.take_length] at h3
        exact ⟨_, rfl, h1, i, rfl, h2, h3⟩
      · refine ⟨l, r0, rfl, rfl, by omega, ?_, rfl⟩
        rw [Nat.add_zero, List.take_succ_eq_append_getElem hr, List.filter_append, List.filter_cons, List.filter_nil, hp]
        rw [List.filter_eq_self.2 fun a ha => ?_]
        · simp
        · obtain ⟨k, hk, rfl⟩ := List.getElem_of_mem ha
          rw [List.length_take] at hk
          have := hlt k (by omega)
          rw [List.getElem_take]
          simpa using this
    obtain ⟨⟨s, si⟩, h1, h2, i, rfl, h3, h4⟩ := hloop
    simp only at h2 h4
    rw [run_bind h1]
    simp only [Int.toNat_natCast]
    have ha : s.take i ++ List.replicate (s.length - i) (Rwo.mk (Spt.mk 0 0) 0) ++ s.drop (i + (s.length - i)) = s.take i ++ List.replicate (s.length - i) (Rwo.mk (Spt.mk 0 0) 0) := by
      rw [List.drop_eq_nil_of_le (by omega), List.append_nil]
    have hb : (s.take i ++ List.replicate (s.length - i) (Rwo.mk (Spt.mk 0 0) 0)).take (i - Int.toNat 0) = s.take i := by
      rw [show i - Int.toNat 0 = i from rfl, List.take_append_of_le_length (by simp; omega), List.take_take, Nat.min_self]
    rw [run_req ⟨by omega, by omega, by omega, by omega⟩, run_req (by omega), run_req ⟨by omega, by decide, by omega, by omega⟩, ha, run_req (by simp; omega), hb, run_req (by simp; omega), run_ret, h4]

theorem e_pred_Gone (r : Rwo) (c : Int) : f_table_Gone_1 r c = some (eU c r) := by
  simp only [f_table_Gone_1, t_table_Gone_1, run_ret]; rfl

theorem e_index_Gone {l : List Rwo} (hl : l.length ≤ 1000) (c : Int) : f_slices_IndexFunc_Row__table_Gone_1 l c = some (match l.findIdx? (eU c) with | some i => (i : Int) | none => -1) := by
  have key := loop_find (t := fun q : List Rwo × (Int × (Int × Int)) => tl_slices_IndexFunc_Row__table_Gone_1_l0 q.1 q.2.1 q.2.2.1 q.2.2.2) l (eU c) (fun i => (l, c, (l.length : Int), (i : Int))) (fun i _ => Sum.inl (i : Int)) (Sum.inr ())
    (fun i hi hp _ => by
      have hw := wrS (i := i) (by omega)
      simp only [tl_slices_IndexFunc_Row__table_Gone_1_l0]
      rw [run_iteT (by simp; omega), run_req (inb hi)]
      simp only [getD_int hi]
      rw [run_bind (e_pred_Gone _ _), hp, run_iteF (by rfl), run_ret, hw])
    (fun i hi hp _ => by
      simp only [tl_slices_IndexFunc_Row__table_Gone_1_l0]
      rw [run_iteT (by simp; omega), run_req (inb hi)]
      simp only [getD_int hi]
      rw [run_bind (e_pred_Gone _ _), hp, run_iteT (by rfl), run_ret])
    (fun _ => by
      simp only [tl_slices_IndexFunc_Row__table_Gone_1_l0]
      rw [run_iteF (by simp), run_ret])
  simp only [f_slices_IndexFunc_Row__table_Gone_1, t_slices_IndexFunc_Row__table_Gone_1]
  have key : L_slices_IndexFunc_Row__table_Gone_1_l0 (l, c, (l.length : Int), 0) = _ := key
  rcases find_two l (eU c) with ⟨f1, f2⟩ | ⟨i, hi, f1, f2, _⟩
  · rw [f1, f2] at key
    rw [run_bind key, run_caseR, run_ret, f1]
  · rw [f1, f2] at key
    rw [run_bind key, run_caseL, run_ret, f1]

theorem e_delete_Gone {l : List Rwo} (hl : l.length ≤ 1000) (c : Int) : f_slices_DeleteFunc_Row__table_Gone_1 l c = some (l.filter fun x => !eU c x) := by
  simp only [f_slices_DeleteFunc_Row__table_Gone_1, t_slices_DeleteFunc_Row__table_Gone_1]
  rw [run_same, run_bind (e_index_Gone hl c)]
  cases hf : l.findIdx? (eU c) with
  | none =>
    rw [run_iteT (by rfl), run_same, run_ret]
    rw [List.findIdx?_eq_none_iff] at hf
    rw [List.filter_eq_self.2 fun a ha => by rw [hf a ha]; rfl]
  | some r0 =>
    obtain ⟨hr, hp, hlt⟩ := List.findIdx?_eq_some_iff_getElem.1 hf
    have hw0 := wrS (i := r0) (by omega)
    rw [run_iteF (by simp), run_same]
    simp only [hw0]
    have hloop : ∃ s, L_slices_DeleteFunc_Row__table_Gone_1_l0 (l, c, (r0 : Int), ((r0 + 1 : Nat) : Int)) = some s ∧ s.1.length = l.length ∧ ∃ i : Nat, s.2 = (i : Int) ∧ i < l.length ∧ s.1.take i = l.filter fun x => !eU c x := by
      have := loop_inv (t := fun q : List Rwo × (Int × (Int × Int)) => tl_slices_DeleteFunc_Row__table_Gone_1_l0 q.1 q.2.1 q.2.2.1 q.2.2.2)
        (fun j q => ∃ (s : List Rwo) (i : Nat), q = (s, c, (i : Int), ((r0 + 1 + j : Nat) : Int)) ∧ s.length = l.length ∧ i < r0 + 1 + j ∧ s.take i = (l.take (r0 + 1 + j)).filter (fun x => !eU c x) ∧ s.drop (r0 + 1 + j) = l.drop (r0 + 1 + j))
        (fun s => s.1.length = l.length ∧ ∃ i : Nat, s.2 = (i : Int) ∧ i < l.length ∧ s.1.take i = l.filter fun x => !eU c x) (l.length - (r0 + 1)) (p := (l, c, (r0 : Int), ((r0 + 1 + 0 : Nat) : Int))) (fun j q hj hI => ?_) (fun q hI => ?_) ?_
      · exact this
      · obtain ⟨s, i, rfl, h1, h2, h3, h4⟩ := hI
        left
        have hjl : r0 + 1 + j < l.length := by omega
        have hjs : r0 + 1 + j < s.length := by omega
        have his : i < s.length := by omega
        have hs : s[r0 + 1 + j] = l[r0 + 1 + j] := by
          have e1 := List.getElem_drop (xs := s) (i := r0 + 1 + j) (j := 0) (h := by simp; omega)
          have e2 := List.getElem_drop (xs := l) (i := r0 + 1 + j) (j := 0) (h := by simp; omega)
          simp only [Nat.add_zero] at e1 e2
          rw [← e1, ← e2]
          simp only [h4]
        have hw1 := wrS (i := i) (by omega)
        have hw2 := wrS (i := r0 + 1 + j) (by omega)
        have htake : l.take (r0 + 1 + j + 1) = l.take (r0 + 1 + j) ++ [l[r0 + 1 + j]] := by rw [List.take_succ_eq_append_getElem hjl]
        simp only [tl_slices_DeleteFunc_Row__table_Gone_1_l0]
        rw [run_iteT (by simp; omega), run_req (inb hjs), run_req (by rw [Int.toNat_natCast]; exact hjs)]
        simp only [getD_int hjs]
        rw [run_bind (e_pred_Gone _ _), hs]
        cases hq : eU c l[r0 + 1 + j] with
        | false =>
          rw [run_iteT (by rfl), run_req (inb his), run_req (by rw [Int.toNat_natCast]; exact his), run_req (by simp)]
          simp only [Int.toNat_natCast]
          refine ⟨_, by rw [run_ret, hw1, hw2], s.set i l[r0 + 1 + j], i + 1, by rw [show r0 + 1 + j + 1 = r0 + 1 + (j + 1) by omega], by simp [h1], by omega, ?_, ?_⟩
          · rw [show r0 + 1 + (j + 1) = r0 + 1 + j + 1 by omega, htake, List.filter_append, ← h3, List.filter_cons, List.filter_nil, hq]
            rw [List.take_set]
            simp only [Bool.not_false, cond_true, if_true]
            have hz : i < (s.set i l[r0 + 1 + j]).length := by simp; exact his
            rw [← List.take_set, List.take_succ_eq_append_getElem hz, List.take_set, List.getElem_set_self]
            congr 1
            rw [List.set_eq_of_length_le (by simp; omega)]
          · rw [show r0 + 1 + (j + 1) = r0 + 1 + j + 1 by omega, List.drop_set_of_lt (by omega)]
            rw [← List.drop_drop, ← List.drop_drop (i := 1) (j := r0 + 1 + j), h4]
        | true =>
          rw [run_iteF (by rfl), run_same]
          refine ⟨_, by rw [run_ret, hw2], s, i, by rw [show r0 + 1 + j + 1 = r0 + 1 + (j + 1) by omega], h1, by omega, ?_, ?_⟩
          · rw [show r0 + 1 + (j + 1) = r0 + 1 + j + 1 by omega, htake, List.filter_append, ← h3, List.filter_cons, List.filter_nil, hq]
            simp
          · rw [show r0 + 1 + (j + 1) = r0 + 1 + j + 1 by omega, ← List.drop_drop, ← List.drop_drop (i := 1) (j := r0 + 1 + j), h4]
      · obtain ⟨s, i, rfl, h1, h2, h3, h4⟩ := hI
        have e : r0 + 1 + (l.length - (r0 + 1)) = l.length := by omega
        rw [e] at h2 h3 h4 ⊢
        simp only [tl_slices_DeleteFunc_Row__table_Gone_1_l0]
        rw [run_iteF (by simp; omega), run_same, run_ret]
        rw [List.take_length] at h3
        exact ⟨_, rfl, h1, i, rfl, h2, h3⟩
      · refine ⟨l, r0, rfl, rfl, by omega, ?_, rfl⟩
        rw [Nat.add_zero, List.take_succ_eq_append_getElem hr, List.filter_append, List.filter_cons, List.filter_nil, hp]
        rw [List.filter_eq_self.2 fun a ha => ?_]
        · simp
        · obtain ⟨k, hk, rfl⟩ := List.getElem_of_mem ha
          rw [List.length_take] at hk
          have := hlt k (by omega)
          rw [List.getElem_take]
          simpa using this
    obtain ⟨⟨s, si⟩, h1, h2, i, rfl, h3, h4⟩ := hloop
    simp only at h2 h4
    rw [run_bind h1]
    simp only [Int.toNat_natCast]
    have ha : s.take i ++ List.replicate (s.length - i) (Rwo.mk (Spt.mk 0 0) 0) ++ s.drop (i + (s.length - i)) = s.take i ++ List.replicate (s.length - i) (Rwo.mk (Spt.mk 0 0) 0) := by
      rw [List.drop_eq_nil_of_le (by omega), List.append_nil]
    have hb : (s.take i ++ List.replicate (s.length - i) (Rwo.mk (Spt.mk 0 0) 0)).take (i - Int.toNat 0) = s.take i := by
      rw [show i - Int.toNat 0 = i from rfl, List.take_append_of_le_length (by simp; omega), List.take_take, Nat.min_self]
    rw [run_req ⟨by omega, by omega, by omega, by omega⟩, run_req (by omega), run_req ⟨by omega, by decide, by omega, by omega⟩, ha, run_req (by simp; omega), hb, run_req (by simp; omega), run_ret, h4]
end Go.Proofs.Ytkdcjfnmmmmocaa.VS
