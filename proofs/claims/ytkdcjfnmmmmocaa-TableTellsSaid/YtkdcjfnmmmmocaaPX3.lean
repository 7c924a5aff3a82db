/- Chapter 13: one more, one less. Conditions: none. -/
import Derived.Test.YtkdcjfnmmmmocaaPX2
namespace Go.Proofs.Ytkdcjfnmmmmocaa.VS
set_option maxRecDepth 100000
set_option linter.unusedVariables false
set_option linter.unusedSimpArgs false

/-! ### What the functions answer -/

def spot0 : Spt := ⟨0, 0⟩
def uL (l : List Rwo) (s : Spt) : Int × Bool := match l.find? (eS s) with | some r => (r.u, true) | none => (0, false)
def homeL (l : List Rwo) (u : Int) : Spt × Bool := match l.find? (eU u) with | some r => (r.spot, true) | none => (spot0, false)

theorem e_table_U {t : Tbl} (hl : t.rows.length ≤ 1000) (hs : t.rows.Pairwise ltS) (s : Spt) : f_table_U t s = some (uL t.rows s) := by
  obtain ⟨k, k1, k2, k3, k4⟩ := e_find_S hl hs s
  have hf := findG (keyS s) hs
  rw [k3] at hf
  simp only [f_table_U, t_table_U]
  rw [run_bind k4]
  unfold uL
  rw [hf]
  by_cases hk : k < t.rows.length
  · rw [List.drop_eq_getElem_cons hk]
    simp only [headG]
    cases hq : eS s t.rows[k] with
    | true =>
      rw [run_iteF (by rfl), run_req (inb hk)]
      simp only [getD_int hk]
      rw [run_ret]; rfl
    | false => rw [run_iteT (by rfl), run_ret]; rfl
  · rw [List.drop_eq_nil_of_le (by omega), run_iteT (by rfl), run_ret]

theorem e_table_Home {t : Tbl} (hl : t.homes.length ≤ 1000) (hs : t.homes.Pairwise ltU) (u : Int) : f_table_Home t u = some (homeL t.homes u) := by
  obtain ⟨k, k1, k2, k3, k4⟩ := e_find_U hl hs u
  have hf := findG (keyU u) hs
  rw [k3] at hf
  simp only [f_table_Home, t_table_Home]
  rw [run_bind k4]
  unfold homeL
  rw [hf]
  by_cases hk : k < t.homes.length
  · rw [List.drop_eq_getElem_cons hk]
    simp only [headG]
    cases hq : eU u t.homes[k] with
    | true =>
      rw [run_iteF (by rfl), run_req (inb hk)]
      simp only [getD_int hk]
      rw [run_ret]; rfl
    | false => rw [run_iteT (by rfl), run_ret]; rfl
  · rw [List.drop_eq_nil_of_le (by omega), run_iteT (by rfl), run_ret]; rfl

theorem e_r13_U {t : Tbl} (hl : t.rows.length ≤ 1000) (s : Spt) : f_r13_U t s = some (uL t.rows s) := by
  have key := loop_find (t := fun q : Tbl × (Spt × Int) => tl_r13_U_l0 q.1 q.2.1 q.2.2) t.rows (eS s) (fun i => (t, s, (i : Int))) (fun _ r => Sum.inl (r.u, true)) (Sum.inr ())
    (fun i hi hp _ => by
      have hw := wrS (i := i) (by omega)
      simp only [tl_r13_U_l0]
      rw [run_iteT (by simp; omega), run_req (inb hi)]
      simp only [getD_int hi]
      rw [run_iteF (by exact hp), run_ret, hw])
    (fun i hi hp _ => by
      simp only [tl_r13_U_l0]
      rw [run_iteT (by simp; omega), run_req (inb hi)]
      simp only [getD_int hi]
      rw [run_iteT (by exact hp), run_req (inb hi), run_ret])
    (fun _ => by
      simp only [tl_r13_U_l0]
      rw [run_iteF (by simp), run_ret])
  have key : L_r13_U_l0 (t, s, 0) = _ := key
  simp only [f_r13_U, t_r13_U]
  unfold uL
  rcases find_two t.rows (eS s) with ⟨f1, f2⟩ | ⟨i, hi, f1, f2, _⟩
  · rw [f1, f2] at key
    rw [run_bind key, run_caseR, run_ret, f2]
  · rw [f1, f2] at key
    rw [run_bind key, run_caseL, run_ret, f2]

theorem e_r13_Home {t : Tbl} (hl : t.homes.length ≤ 1000) (u : Int) : f_r13_Home t u = some (homeL t.homes u) := by
  have key := loop_find (t := fun q : Int × (Tbl × (Spt × Int)) => tl_r13_Home_l0 q.1 q.2.1 q.2.2.1 q.2.2.2) t.homes (eU u) (fun i => (u, t, spot0, (i : Int))) (fun _ r => Sum.inl (r.spot, true)) (Sum.inr spot0)
    (fun i hi hp _ => by
      have hw := wrS (i := i) (by omega)
      simp only [tl_r13_Home_l0]
      rw [run_iteT (by simp; omega), run_req (inb hi)]
      simp only [getD_int hi]
      rw [run_iteF (by exact hp), run_ret, hw])
    (fun i hi hp _ => by
      simp only [tl_r13_Home_l0]
      rw [run_iteT (by simp; omega), run_req (inb hi)]
      simp only [getD_int hi]
      rw [run_iteT (by exact hp), run_req (inb hi), run_ret])
    (fun _ => by
      simp only [tl_r13_Home_l0]
      rw [run_iteF (by simp), run_ret])
  have key : L_r13_Home_l0 (u, t, spot0, 0) = _ := key
  simp only [f_r13_Home, t_r13_Home]
  unfold homeL
  rcases find_two t.homes (eU u) with ⟨f1, f2⟩ | ⟨i, hi, f1, f2, _⟩
  · rw [f1, f2] at key
    refine (run_bind key).trans ?_
    rw [run_caseR, run_ret, f2]; rfl
  · rw [f1, f2] at key
    refine (run_bind key).trans ?_
    rw [run_caseL, run_ret, f2]

theorem e_copied {t : Tbl} (h1 : t.rows.length ≤ 1000) (h2 : t.homes.length ≤ 1000) : f_table_copied t = some t := by
  have c1 : f_slices_Clone_Row t.rows = some t.rows := e_clone (by unfold SM; omega) (by omega)
  have c2 : f_slices_Clone_Row t.homes = some t.homes := e_clone (by unfold SM; omega) (by omega)
  simp only [f_table_copied, t_table_copied]
  rw [run_bind c1, run_bind c2, run_same, run_same, run_ret]

/-! ### One more, one less -/

theorem room24' {n : Nat} (h : n ≤ 10000) : roomP n 24 := by unfold roomP; omega

theorem set_put {α : Type} {p eq : α → Bool} {x : α} {l : List α} {k : Nat} (hk : k < l.length) (h1 : l.takeWhile p = l.take k) (h2 : l.dropWhile p = l.drop k) (he : eq l[k] = true) : l.set k x = putG p eq x l := by
  unfold putG
  rw [h1, h2, List.set_eq_take_append_cons_drop, if_pos hk, List.drop_eq_getElem_cons hk]
  simp only [restG, he, if_true]

theorem ins_put {α : Type} {p eq : α → Bool} {x : α} {l : List α} {k : Nat} (h1 : l.takeWhile p = l.take k) (h2 : l.dropWhile p = l.drop k) (he : headG eq (l.drop k) = false) : l.take k ++ [x] ++ l.drop k = putG p eq x l := by
  unfold putG
  rw [h1, h2]
  cases hd : l.drop k with
  | nil => simp [restG]
  | cons b r =>
    rw [hd] at he
    simp only [headG] at he
    simp [restG, he]

theorem e_table_Put {t : Tbl} (h1 : t.rows.length ≤ 900) (h2 : t.homes.length ≤ 900) (hs : t.rows.Pairwise ltS) (s : Spt) (u : Int) : f_table_Put t s u = some ⟨t.next, putG (pS s) (eS s) ⟨s, u⟩ t.rows, t.homes, t.cursor⟩ := by
  obtain ⟨k, k1, k2, k3, k4⟩ := e_find_S (by omega) hs s
  simp only [f_table_Put, t_table_Put]
  rw [run_bind (e_copied (by omega) (by omega)), run_same, run_bind k4]
  cases hq : headG (eS s) (t.rows.drop k) with
  | true =>
    have hk : k < t.rows.length := by
      by_cases h : k < t.rows.length
      · exact h
      · rw [List.drop_eq_nil_of_le (by omega)] at hq; cases hq
    have he : eS s t.rows[k] = true := by rw [List.drop_eq_getElem_cons hk] at hq; exact hq
    have hsp : t.rows[k].spot = s := (eS_iff s _).1 he
    rw [run_iteT (by rfl), run_req (inb hk), run_req (by rw [Int.toNat_natCast]; exact hk), run_same]
    simp only [Int.toNat_natCast, getD_at hk, hsp]
    rw [run_req (by simp), run_ret, set_put hk k2 k3 he]
  | false =>
    rw [run_iteF (by rfl), run_same, run_req ⟨by omega, by omega, room24' (by simp; omega)⟩, run_same]
    simp only [Int.toNat_natCast]
    rw [run_req (by simp; omega), run_ret, ins_put k2 k3 hq]

theorem e_table_Move {t : Tbl} (h1 : t.rows.length ≤ 900) (h2 : t.homes.length ≤ 900) (hs : t.homes.Pairwise ltU) (u : Int) (s : Spt) : f_table_Move t u s = some ⟨t.next, t.rows, putG (pU u) (eU u) ⟨s, u⟩ t.homes, t.cursor⟩ := by
  obtain ⟨k, k1, k2, k3, k4⟩ := e_find_U (by omega) hs u
  simp only [f_table_Move, t_table_Move]
  rw [run_bind (e_copied (by omega) (by omega)), run_same, run_bind k4]
  cases hq : headG (eU u) (t.homes.drop k) with
  | true =>
    have hk : k < t.homes.length := by
      by_cases h : k < t.homes.length
      · exact h
      · rw [List.drop_eq_nil_of_le (by omega)] at hq; cases hq
    have he : eU u t.homes[k] = true := by rw [List.drop_eq_getElem_cons hk] at hq; exact hq
    have hsp : t.homes[k].u = u := by simpa [eU] using he
    rw [run_iteT (by rfl), run_req (inb hk), run_req (by rw [Int.toNat_natCast]; exact hk)]
    simp only [Int.toNat_natCast, getD_at hk, hsp]
    rw [run_req (by simp), run_same, run_ret, set_put hk k2 k3 he]
  | false =>
    rw [run_iteF (by rfl), run_same, run_req ⟨by omega, by omega, room24' (by simp; omega)⟩]
    simp only [Int.toNat_natCast]
    rw [run_req (by simp; omega), run_same, run_ret, ins_put k2 k3 hq]

theorem e_table_Lose {t : Tbl} (h1 : t.rows.length ≤ 1000) (h2 : t.homes.length ≤ 1000) (s : Spt) : f_table_Lose t s = some ⟨t.next, t.rows.filter fun x => !eS s x, t.homes, t.cursor⟩ := by
  simp only [f_table_Lose, t_table_Lose]
  rw [run_bind (e_copied h1 h2), run_same, run_bind (e_delete_Lose h1 s), run_same, run_same, run_ret]

theorem e_table_Gone {t : Tbl} (h1 : t.rows.length ≤ 1000) (h2 : t.homes.length ≤ 1000) (u : Int) : f_table_Gone t u = some ⟨t.next, t.rows.filter fun x => !eU u x, t.homes.filter fun x => !eU u x, t.cursor⟩ := by
  simp only [f_table_Gone, t_table_Gone]
  rw [run_bind (e_copied h1 h2), run_same, run_bind (e_delete_Gone h1 u), run_same, run_bind (e_delete_Gone h2 u), run_same, run_same, run_ret]

/-! ### The reference -/

def tbl0 : Tbl := ⟨0, [], [], 0⟩

theorem filter_step {l : List Rwo} {q : Rwo → Bool} {i : Nat} (hi : i < l.length) : (l.take (i + 1)).filter q = (l.take i).filter q ++ if q l[i] = true then [l[i]] else [] := by
  rw [List.take_succ_eq_append_getElem hi, List.filter_append, List.filter_cons, List.filter_nil]

theorem e_r13_Lose {t : Tbl} (h1 : t.rows.length ≤ 1000) (s : Spt) : f_r13_Lose t s = some ⟨t.next, t.rows.filter fun x => !eS s x, t.homes, t.cursor⟩ := by
  have hl : L_r13_Lose_l0 (t, s, tbl0, [], 0) = some (t, tbl0, t.rows.filter fun x => !eS s x) := by
    have := loop_to (t := fun q : Tbl × (Spt × (Tbl × (List Rwo × Int))) => tl_r13_Lose_l0 q.1 q.2.1 q.2.2.1 q.2.2.2.1 q.2.2.2.2) (fun i => (t, s, tbl0, (t.rows.take i).filter fun x => !eS s x, (i : Int))) t.rows.length (out := (t, tbl0, t.rows.filter fun x => !eS s x)) (fun i hi => ?_) ?_
    · exact this
    · have hw := wrS (i := i) (by omega)
      have hlen := List.length_filter_le (fun x => !eS s x) (t.rows.take i)
      rw [List.length_take] at hlen
      simp only [tl_r13_Lose_l0]
      rw [run_iteT (by simp; omega), run_req (inb hi)]
      simp only [getD_int hi]
      rw [filter_step hi]
      cases hq : eS s t.rows[i] with
      | false =>
        have hq' : (t.rows[i].spot.branch == s.branch && t.rows[i].spot.ino == s.ino) = false := hq
        rw [run_iteT (by rw [hq']; rfl), run_req (inb hi), run_req ⟨trivial, room24' (by simp; omega)⟩, run_same, run_ret, hw]
        simp
      | true =>
        have hq' : (t.rows[i].spot.branch == s.branch && t.rows[i].spot.ino == s.ino) = true := hq
        rw [run_iteF (by rw [hq']; rfl), run_same, run_ret, hw]
        simp
    · simp only [tl_r13_Lose_l0]
      rw [run_iteF (by simp), run_same, run_ret, List.take_length]
  simp only [f_r13_Lose, t_r13_Lose]
  refine (run_bind hl).trans ?_
  rw [run_same, run_ret]

theorem e_homeless {t : Tbl} (h1 : t.homes.length ≤ 1000) (u : Int) : f_r13_homeless t u = some ⟨t.next, t.rows, t.homes.filter fun x => !eU u x, t.cursor⟩ := by
  have hl : L_r13_homeless_l0 (u, t, tbl0, [], 0) = some (t, tbl0, t.homes.filter fun x => !eU u x) := by
    have := loop_to (t := fun q : Int × (Tbl × (Tbl × (List Rwo × Int))) => tl_r13_homeless_l0 q.1 q.2.1 q.2.2.1 q.2.2.2.1 q.2.2.2.2) (fun i => (u, t, tbl0, (t.homes.take i).filter fun x => !eU u x, (i : Int))) t.homes.length (out := (t, tbl0, t.homes.filter fun x => !eU u x)) (fun i hi => ?_) ?_
    · exact this
    · have hw := wrS (i := i) (by omega)
      have hlen := List.length_filter_le (fun x => !eU u x) (t.homes.take i)
      rw [List.length_take] at hlen
      simp only [tl_r13_homeless_l0]
      rw [run_iteT (by simp; omega), run_req (inb hi)]
      simp only [getD_int hi]
      rw [filter_step hi]
      cases hq : eU u t.homes[i] with
      | false =>
        have hq' : (t.homes[i].u == u) = false := hq
        rw [run_iteT (by unfold bne; rw [hq']; rfl), run_req (inb hi), run_req ⟨trivial, room24' (by simp; omega)⟩, run_same, run_ret, hw]
        simp
      | true =>
        have hq' : (t.homes[i].u == u) = true := hq
        rw [run_iteF (by unfold bne; rw [hq']; rfl), run_same, run_ret, hw]
        simp
    · simp only [tl_r13_homeless_l0]
      rw [run_iteF (by simp), run_same, run_ret, List.take_length]
  simp only [f_r13_homeless, t_r13_homeless]
  refine (run_bind hl).trans ?_
  rw [run_same, run_ret]

theorem e_r13_Gone {t : Tbl} (h1 : t.rows.length ≤ 1000) (h2 : t.homes.length ≤ 1000) (u : Int) : f_r13_Gone t u = some ⟨t.next, t.rows.filter fun x => !eU u x, t.homes.filter fun x => !eU u x, t.cursor⟩ := by
  simp only [f_r13_Gone, t_r13_Gone]
  rw [run_bind (e_homeless h2 u)]
  generalize ht : (⟨t.next, t.rows, t.homes.filter fun x => !eU u x, t.cursor⟩ : Tbl) = t'
  have hr : t'.rows = t.rows := by rw [← ht]
  have hl : L_r13_Gone_l0 (u, t', tbl0, [], 0) = some (t', tbl0, t.rows.filter fun x => !eU u x) := by
    have := loop_to (t := fun q : Int × (Tbl × (Tbl × (List Rwo × Int))) => tl_r13_Gone_l0 q.1 q.2.1 q.2.2.1 q.2.2.2.1 q.2.2.2.2) (fun i => (u, t', tbl0, (t.rows.take i).filter fun x => !eU u x, (i : Int))) t.rows.length (out := (t', tbl0, t.rows.filter fun x => !eU u x)) (fun i hi => ?_) ?_
    · exact this
    · have hw := wrS (i := i) (by omega)
      have hlen := List.length_filter_le (fun x => !eU u x) (t.rows.take i)
      rw [List.length_take] at hlen
      simp only [tl_r13_Gone_l0, hr]
      rw [run_iteT (by simp; omega), run_req (inb hi)]
      simp only [getD_int hi]
      rw [filter_step hi]
      cases hq : eU u t.rows[i] with
      | false =>
        have hq' : (t.rows[i].u == u) = false := hq
        rw [run_iteT (by unfold bne; rw [hq']; rfl), run_req (inb hi), run_req ⟨trivial, room24' (by simp; omega)⟩, run_same, run_ret, hw]
        simp
      | true =>
        have hq' : (t.rows[i].u == u) = true := hq
        rw [run_iteF (by unfold bne; rw [hq']; rfl), run_same, run_ret, hw]
        simp
    · simp only [tl_r13_Gone_l0, hr]
      rw [run_iteF (by simp), run_same, run_ret, List.take_length]
  refine (run_bind hl).trans ?_
  rw [run_same, run_ret, ← ht]

/-- The first that is not ahead, by a loop. -/
theorem to_first {π ρ : Type} {t : π → T (π ⊕ ρ)} {l : List Rwo} {p : Rwo → Bool} {st : Nat → π} {out : Nat → ρ} (hs : ∀ i (h : i < l.length), p l[i] = true → (t (st i)).run = some (.inl (st (i + 1)))) (hn : ∀ i (h : i < l.length), p l[i] = false → (t (st i)).run = some (.inr (out i))) (he : (t (st l.length)).run = some (.inr (out l.length))) :
    fixT t (st 0) = some (out (l.takeWhile p).length) := by
  have : ∀ k i, i + k = l.length → (∀ j (h : j < i) (hl : j < l.length), p l[j] = true) → fixT t (st i) = some (out (l.takeWhile p).length) := by
    intro k
    induction k with
    | zero =>
      intro i h hb
      obtain rfl : i = l.length := by omega
      have := (cut_at (p := p) (k := l.length) (Nat.le_refl _) (fun j h1 h2 => hb j h1 h2) (fun j h1 h2 => by omega)).1
      rw [this, List.take_length]
      exact fixT_out he
    | succ k ih =>
      intro i h hb
      have hi : i < l.length := by omega
      cases hp : p l[i] with
      | true =>
        refine (fixT_next (hs i hi hp)).trans (ih (i + 1) (by omega) fun j h1 h2 => ?_)
        by_cases e : j = i
        · subst e; exact hp
        · exact hb j (by omega) h2
      | false =>
        have e1 : l.takeWhile p = l.take i := by
          conv => lhs; rw [← List.take_append_drop i l]
          rw [List.takeWhile_append_of_pos (fun a ha => by
            obtain ⟨j, hj, rfl⟩ := List.getElem_of_mem ha
            rw [List.getElem_take]
            rw [List.length_take] at hj
            exact hb j (by omega) (by omega)), List.drop_eq_getElem_cons hi, List.takeWhile_cons, hp]
          simp
        rw [e1, List.length_take, Nat.min_eq_left (by omega)]
        exact fixT_out (hn i hi hp)
  exact this l.length 0 (by omega) fun j h => by omega

theorem take_while {l : List Rwo} {p : Rwo → Bool} : l.take (l.takeWhile p).length = l.takeWhile p ∧ l.drop (l.takeWhile p).length = l.dropWhile p := by
  have h := List.takeWhile_append_dropWhile (p := p) (l := l)
  have g1 : ∀ A B : List Rwo, (A ++ B).take A.length = A := fun A B => by simp
  have g2 : ∀ A B : List Rwo, (A ++ B).drop A.length = B := fun A B => by simp
  have k1 := g1 (l.takeWhile p) (l.dropWhile p)
  have k2 := g2 (l.takeWhile p) (l.dropWhile p)
  rw [h] at k1 k2
  exact ⟨k1, k2⟩

theorem tw_len {l : List Rwo} {p : Rwo → Bool} : (l.takeWhile p).length ≤ l.length := (List.takeWhile_sublist p).length_le

theorem e_r13_Put {t : Tbl} (h1 : t.rows.length ≤ 900) (hs : t.rows.Pairwise ltS) (s : Spt) (u : Int) : f_r13_Put t s u = some ⟨t.next, putG (pS s) (eS s) ⟨s, u⟩ t.rows, t.homes, t.cursor⟩ := by
  simp only [f_r13_Put, t_r13_Put]
  rw [run_bind (e_r13_Lose (by omega) s)]
  have hcut := cutG (p := pS s) (A := t.rows.takeWhile (pS s)) (B := restG (eS s) (t.rows.dropWhile (pS s))) (fun a ha => take_p a ha) (rest_p (keyS s) hs)
  rw [← filterG (keyS s) hs] at hcut
  have hlen := List.length_filter_le (fun x => !eS s x) t.rows
  unfold putG
  rw [← hcut.1, ← hcut.2]
  generalize hr : t.rows.filter (fun x => !eS s x) = R at hlen ⊢
  generalize ht : (⟨t.next, R, t.homes, t.cursor⟩ : Tbl) = t'
  have hr' : t'.rows = R := by rw [← ht]
  have hk := tw_len (l := R) (p := pS s)
  have hl : L_r13_Put_l0 (u, t', s, tbl0, 0) = some (u, t', s, tbl0, ((R.takeWhile (pS s)).length : Int)) := by
    have := to_first (t := fun q : Int × (Tbl × (Spt × (Tbl × Int))) => tl_r13_Put_l0 q.1 q.2.1 q.2.2.1 q.2.2.2.1 q.2.2.2.2) (l := R) (p := pS s) (st := fun i => (u, t', s, tbl0, (i : Int))) (out := fun i => (u, t', s, tbl0, (i : Int))) (fun i hi hp => ?_) (fun i hi hp => ?_) ?_
    · exact this
    · have hw := wrS (i := i) (by omega)
      simp only [tl_r13_Put_l0, hr']
      rw [run_iteT (by simp; omega), run_req (inb hi)]
      simp only [getD_int hi]
      rw [run_bind (e_ahead _ _), run_iteT (by exact hp), run_ret, hw]
    · simp only [tl_r13_Put_l0, hr']
      rw [run_iteT (by simp; omega), run_req (inb hi)]
      simp only [getD_int hi]
      rw [run_bind (e_ahead _ _), run_iteF (by exact hp), run_ret]
    · simp only [tl_r13_Put_l0, hr']
      rw [run_iteF (by simp), run_ret]
  refine (run_bind hl).trans ?_
  simp only [hr', Int.toNat_natCast, Int.toNat_zero, List.drop_zero, List.take_length, take_while.1, take_while.2]
  rw [run_req ⟨by omega, by omega, by omega⟩, run_req (room24' (by omega)), run_req ⟨trivial, room24' (by simp; omega)⟩, run_req ⟨by omega, by omega, by omega⟩, run_req ⟨trivial, room24' (by
    rw [List.append_assoc, List.length_append, List.length_append, List.length_singleton]
    have := congrArg List.length (List.takeWhile_append_dropWhile (p := pS s) (l := R))
    rw [List.length_append] at this
    omega)⟩, run_same, run_ret, ← ht]
  simp

theorem e_r13_Move {t : Tbl} (h1 : t.homes.length ≤ 900) (hs : t.homes.Pairwise ltU) (u : Int) (s : Spt) : f_r13_Move t u s = some ⟨t.next, t.rows, putG (pU u) (eU u) ⟨s, u⟩ t.homes, t.cursor⟩ := by
  simp only [f_r13_Move, t_r13_Move]
  rw [run_bind (e_homeless (by omega) u)]
  have hcut := cutG (p := pU u) (A := t.homes.takeWhile (pU u)) (B := restG (eU u) (t.homes.dropWhile (pU u))) (fun a ha => take_p a ha) (rest_p (keyU u) hs)
  rw [← filterG (keyU u) hs] at hcut
  have hlen := List.length_filter_le (fun x => !eU u x) t.homes
  unfold putG
  rw [← hcut.1, ← hcut.2]
  generalize hr : t.homes.filter (fun x => !eU u x) = R at hlen ⊢
  generalize ht : (⟨t.next, t.rows, R, t.cursor⟩ : Tbl) = t'
  have hr' : t'.homes = R := by rw [← ht]
  have hk := tw_len (l := R) (p := pU u)
  have hl : L_r13_Move_l0 (u, t', s, tbl0, 0) = some (u, t', s, tbl0, ((R.takeWhile (pU u)).length : Int)) := by
    have := to_first (t := fun q : Int × (Tbl × (Spt × (Tbl × Int))) => tl_r13_Move_l0 q.1 q.2.1 q.2.2.1 q.2.2.2.1 q.2.2.2.2) (l := R) (p := pU u) (st := fun i => (u, t', s, tbl0, (i : Int))) (out := fun i => (u, t', s, tbl0, (i : Int))) (fun i hi hp => ?_) (fun i hi hp => ?_) ?_
    · exact this
    · have hw := wrS (i := i) (by omega)
      simp only [tl_r13_Move_l0, hr']
      rw [run_iteT (by simp; omega), run_req (inb hi)]
      simp only [getD_int hi]
      rw [run_iteT (by exact hp), run_ret, hw]
    · simp only [tl_r13_Move_l0, hr']
      rw [run_iteT (by simp; omega), run_req (inb hi)]
      simp only [getD_int hi]
      rw [run_iteF (by exact hp), run_ret]
    · simp only [tl_r13_Move_l0, hr']
      rw [run_iteF (by simp), run_ret]
  refine (run_bind hl).trans ?_
  simp only [hr', Int.toNat_natCast, Int.toNat_zero, List.drop_zero, List.take_length, take_while.1, take_while.2]
  rw [run_req ⟨by omega, by omega, by omega⟩, run_req (room24' (by omega)), run_req ⟨trivial, room24' (by simp; omega)⟩, run_req ⟨by omega, by omega, by omega⟩, run_req ⟨trivial, room24' (by
    rw [List.append_assoc, List.length_append, List.length_append, List.length_singleton]
    have := congrArg List.length (List.takeWhile_append_dropWhile (p := pU u) (l := R))
    rw [List.length_append] at this
    omega)⟩, run_same, run_ret, ← ht]
  simp
end Go.Proofs.Ytkdcjfnmmmmocaa.VS
