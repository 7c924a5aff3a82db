/- Chapter 5: paths, in plain words. Conditions: none. -/
import Derived.Test.YtjihnbjdclobgaaPD4
namespace Go.Proofs.Ytjihnbjdclobgaa.VS
set_option maxRecDepth 100000
set_option linter.unusedVariables false
set_option linter.unusedSimpArgs false

structure GoodD (d : Dsk) : Prop where
  sm : SmD d
  sort : SortI d.nodes
  names : ∀ n ∈ d.nodes, SortN n.names

theorem GoodD.namesN {d : Dsk} (h : GoodD d) (ino : Int) : SortN (getN d.nodes ino).1.names := by
  unfold getN
  split
  · rename_i n hn; exact h.names n (List.mem_of_find?_eq_some hn)
  · intro i j hij hj; simp at hj

theorem DskOK.good {d : Dsk} (h : DskOK d) (hs : SmD d) : GoodD d :=
  ⟨hs, h.sortI, fun n hn => sorted_of (lt := fun a b : Nam => bytesLt a.name b.name = true) (fun h k => bl_trans h k) (h.nodes n hn).sorted⟩

/-- Along a path: the node, the error's number. -/
def walkN (nodes : List Nod) : Nod → List Str → Nod × Int
  | n, [] => (n, 0)
  | n, s :: r => if n.kind ≠ 2 then (nodZ, 4) else
    match getS n.names s with
    | (ino, true) => walkN nodes (getN nodes ino).1 r
    | (_, false) => (nodZ, 2)

theorem walk_snoc {nodes : List Nod} : ∀ {l : List Str} {n m : Nod} {s : Str}, walkN nodes n l = (m, 0) → walkN nodes n (l ++ [s]) = walkN nodes m [s]
  | [], n, m, s, h => by cases h; rfl
  | a :: l, n, m, s, h => by
    rw [walkN] at h
    rw [List.cons_append, walkN]
    by_cases hk : n.kind ≠ 2
    · rw [if_pos hk] at h; cases h
    · rw [if_neg hk] at h ⊢
      cases hg : getS n.names a with
      | mk ino b =>
        rw [hg] at h
        cases b with
        | true => exact walk_snoc (l := l) h
        | false => cases h

theorem e_find_Node {d : Dsk} (hd : GoodD d) (l : List Str) (hl : l.length ≤ SM) : f_find_Node d l = some (walkN d.nodes (getN d.nodes 1).1 l) := by
  have hloop : ∃ r, L_find_Node_l0 (d, nodZ, (getN d.nodes 1).1, l, (l.length : Int), 0) = some r ∧ (match r with | .inl q => (q.1, q.2) | .inr q => (q.2, (0 : Int))) = walkN d.nodes (getN d.nodes 1).1 l := by
    refine loop_inv (fun i p => ∃ n, p = (d, nodZ, n, l, (l.length : Int), (i : Int)) ∧ n.names.length ≤ SM ∧ SortN n.names ∧ walkN d.nodes n (l.drop i) = walkN d.nodes (getN d.nodes 1).1 l) (fun r : (Nod × Int) ⊕ (Nod × Nod) => (match r with | .inl q => (q.1, q.2) | .inr q => (q.2, (0 : Int))) = walkN d.nodes (getN d.nodes 1).1 l) l.length (fun i p hi hp => ?_) (fun p hp => ?_) ⟨_, rfl, (getN_sm hd.sm.2 1).1, hd.namesN 1, by simp⟩
    · obtain ⟨n, rfl, hsm, hso, he⟩ := hp
      have hw := wrS (i := i) (by unfold SM at hl; omega)
      rw [List.drop_eq_getElem_cons hi, walkN] at he
      simp only [tl_find_Node_l0]
      rw [run_iteT (by simp; omega), run_req (inb hi)]
      simp only [getD_int hi]
      by_cases hk : n.kind = 2
      · rw [if_neg (by simpa using hk)] at he
        rw [run_iteF (by simpa using hk), run_bind (e_find_Name hsm hso _)]
        cases hg : getS n.names l[i] with
        | mk ino b =>
          rw [hg] at he
          cases b with
          | true =>
            simp only at he
            exact .inl ⟨_, by rw [run_iteF (by rfl), run_bind (e_disk_Get hd.sm hd.sort _), run_ret, hw], _, rfl, (getN_sm hd.sm.2 ino).1, hd.namesN ino, he⟩
          | false =>
            simp only at he
            exact .inr ⟨.inl (nodZ, 2), by rw [run_iteT (by rfl), run_ret], he⟩
      · rw [if_pos (by simpa using hk)] at he
        exact .inr ⟨.inl (nodZ, 4), by rw [run_iteT (by simpa using hk), run_ret], he⟩
    · obtain ⟨n, rfl, hsm, hso, he⟩ := hp
      rw [List.drop_length, walkN] at he
      refine ⟨.inr (nodZ, n), ?_, he⟩
      simp only [tl_find_Node_l0]
      rw [run_iteF (by simp), run_ret]
  obtain ⟨r, h1, h2⟩ := hloop
  simp only [f_find_Node, t_find_Node]
  rw [run_bind (e_disk_Get hd.sm hd.sort _), run_bind h1, ← h2]
  cases r with
  | inl q => rw [run_caseL, run_ret]
  | inr q => rw [run_caseR, run_ret]

/-! ### All paths -/

def underN (nodes : List Nod) : Nat → List Str → Nod → List (List Str)
  | 0, _, _ => []
  | k + 1, l, n => n.names.flatMap fun x => (l ++ [x.name]) :: (if (getN nodes x.ino).1.kind = 2 then underN nodes k (l ++ [x.name]) (getN nodes x.ino).1 else [])

/-- So deep at most lie directories in one another. -/
def Deep (nodes : List Nod) : Nat → Nod → Prop
  | 0, _ => False
  | k + 1, n => ∀ x ∈ n.names, (getN nodes x.ino).1.kind = 2 → Deep nodes k (getN nodes x.ino).1

theorem mono_under : Mono P_find_under := by
  intro s s' h x r hr
  have h : ∀ x, Le (s x) (s' x) := h
  revert r
  show Le _ _
  simp only [P_find_under, t_find_under, L_find_under_l0]
  have hl : ∀ p, Le (fixT (fun q : (List Str) × Dsk × (List (List Str)) × (List Nam) × Int × Int => tl_find_under_l0 s q.1 q.2.1 q.2.2.1 q.2.2.2.1 q.2.2.2.2.1 q.2.2.2.2.2) p) (fixT (fun q => tl_find_under_l0 s' q.1 q.2.1 q.2.2.1 q.2.2.2.1 q.2.2.2.2.1 q.2.2.2.2.2) p) := by
    refine fun p => le_fix (fun q => ?_) p
    simp only [tl_find_under_l0]
    repeat' first | exact h _ | exact Le.refl _ | apply le_bind | apply le_ite | apply le_req | apply le_same | apply le_case | intro _
  repeat' first | exact hl _ | exact Le.refl _ | apply le_bind | apply le_ite | apply le_req | apply le_same | apply le_case | intro _

theorem len_flat_take {α β : Type} (l : List α) (f : α → List β) (i : Nat) : ((l.take i).flatMap f).length ≤ (l.flatMap f).length := by
  have := congrArg List.length (congrArg (fun x => List.flatMap f x) (List.take_append_drop i l))
  simp only [List.flatMap_append, List.length_append] at this
  omega

theorem e_under {d : Dsk} (hd : GoodD d) (M : Nat) (hM : M ≤ SM) : ∀ (k : Nat) (l : List Str) (n : Nod), n.names.length ≤ SM → Deep d.nodes k n → (underN d.nodes k l n).length ≤ M → l.length + k ≤ SM → recN P_find_under k (d, l, n) = some (underN d.nodes k l n) := by
  intro k
  induction k with
  | zero => intro l n _ h; exact h.elim
  | succ k ih =>
    intro l n hn hdeep hlen hl
    show P_find_under (recN P_find_under k) _ = _
    simp only [P_find_under, t_find_under]
    have hloop : L_find_under_l0 (recN P_find_under k) (l, d, [], n.names, (n.names.length : Int), 0) = some (underN d.nodes (k + 1) l n) := by
      refine loop_to (fun i => (l, d, (n.names.take i).flatMap (fun x => (l ++ [x.name]) :: (if (getN d.nodes x.ino).1.kind = 2 then underN d.nodes k (l ++ [x.name]) (getN d.nodes x.ino).1 else [])), n.names, (n.names.length : Int), (i : Int))) n.names.length (fun i hi => ?_) ?_
      · have hw := wrS (i := i) (by unfold SM at hn; omega)
        have hc : f_slices_Clone_string l = some l := e_clone (by omega) (by omega)
        have hat : (l ++ [n.names[i].name]).length ≤ SM := by simp; omega
        have hle := len_flat_take n.names (fun x => (l ++ [x.name]) :: (if (getN d.nodes x.ino).1.kind = 2 then underN d.nodes k (l ++ [x.name]) (getN d.nodes x.ino).1 else [])) (i + 1)
        rw [List.take_add_one, List.getElem?_eq_getElem hi, Option.toList_some, List.flatMap_append] at hle ⊢
        simp only [List.flatMap_cons, List.flatMap_nil, List.append_nil] at hle ⊢
        have hle : ((n.names.take i).flatMap (fun x => (l ++ [x.name]) :: (if (getN d.nodes x.ino).1.kind = 2 then underN d.nodes k (l ++ [x.name]) (getN d.nodes x.ino).1 else [])) ++ (l ++ [n.names[i].name]) :: (if (getN d.nodes n.names[i].ino).1.kind = 2 then underN d.nodes k (l ++ [n.names[i].name]) (getN d.nodes n.names[i].ino).1 else [])).length ≤ SM := Nat.le_trans hle (Nat.le_trans hlen hM)
        simp only [tl_find_under_l0]
        rw [run_iteT (by simp; omega), run_req (inb hi), run_bind hc]
        simp only [getD_int hi]
        generalize (n.names.take i).flatMap _ = acc at hle ⊢
        rw [run_req ⟨trivial, rmM hat (by omega)⟩, run_same, run_req ⟨trivial, rmM (by simp at hle ⊢; omega) (by omega)⟩, run_bind (e_disk_Get hd.sm hd.sort _)]
        by_cases hk : (getN d.nodes n.names[i].ino).1.kind = 2
        · rw [if_pos hk] at hle ⊢
          have hi2 := ih (l ++ [n.names[i].name]) (getN d.nodes n.names[i].ino).1 (getN_sm hd.sm.2 _).1 (hdeep _ (List.getElem_mem hi) hk) (by
            have h3 : (underN d.nodes k (l ++ [n.names[i].name]) (getN d.nodes n.names[i].ino).1).length ≤ (underN d.nodes (k + 1) l n).length := by
              rw [underN]
              have := List.take_append_drop i n.names
              conv => rhs; rw [← this, List.drop_eq_getElem_cons hi]
              rw [List.flatMap_append, List.flatMap_cons, if_pos hk]
              simp only [List.length_append, List.length_cons]
              omega
            omega) (by simp; omega)
          have hr : (acc ++ [l ++ [n.names[i].name]] ++ underN d.nodes k (l ++ [n.names[i].name]) (getN d.nodes n.names[i].ino).1).length ≤ SM := by simp at hle ⊢; omega
          rw [run_iteT (by simpa using hk), run_same, run_bind hi2, run_req ⟨trivial, rmM hr (by omega)⟩, run_same, run_ret, hw]
          simp
        · rw [if_neg hk]
          rw [run_iteF (by simpa using hk), run_same, run_ret, hw]
      · simp only [tl_find_under_l0]
        rw [run_iteF (by simp), run_same, run_ret, List.take_length]
        rfl
    rw [run_bind hloop, run_same, run_ret]

end Go.Proofs.Ytjihnbjdclobgaa.VS
