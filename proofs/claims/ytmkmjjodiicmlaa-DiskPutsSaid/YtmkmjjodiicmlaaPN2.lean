/- Chapter 3: puts and drops. Conditions: none. -/
import Derived.Test.YtmkmjjodiicmlaaPN1
namespace Go.Proofs.Ytmkmjjodiicmlaa.VS
set_option maxRecDepth 100000
set_option linter.unusedVariables false
set_option linter.unusedSimpArgs false

/-- A node that holds nothing. -/
structure BareN (n : Nod) : Prop where
  names : n.names = []
  file : n.file = ⟨0, []⟩

theorem BareN.sm {n : Nod} (h : BareN n) : SmN n := ⟨by rw [h.names]; simp, by rw [h.file]; simp, by rw [h.file]; simp⟩

theorem e_r3_Nodes {n : Nod} (h : BareN n) : f_r3_Nodes n n = some true := by
  obtain ⟨i, k, m, c, f, t, l⟩ := n
  obtain ⟨rfl, rfl⟩ := h
  have h1 : f_r3_names [] [] = some true := by
    have hL : L_r3_names_l0 ([], [], 0) = some (.inr ()) := fixT_out (by rfl)
    simp only [f_r3_names, t_r3_names]
    rw [run_iteF (by rfl), run_bind hL, run_caseR, run_ret]
  have h2 : f_r2_Read ⟨0, []⟩ 0 0 = some [] := by
    have hL : L_r2_Read_l0 (0, 0, ⟨0, []⟩, [], 0) = some [] := fixT_out (by rfl)
    simp only [f_r2_Read, t_r2_Read]
    rw [run_bind hL, run_same, run_ret]
  have h3 : f_r2_Same ⟨0, []⟩ ⟨0, []⟩ = some true := by
    simp only [f_r2_Same, t_r2_Same]
    rw [run_iteT (by rfl), run_bind h2, run_bind h2, run_ret]
    rfl
  simp only [f_r3_Nodes, t_r3_Nodes]
  rw [run_iteT (by simp), run_iteT (by simp), run_iteT (by simp), run_iteT (by simp), run_iteT (by simp), run_bind h1, run_iteT (by rfl), run_bind h3, run_ret]

abbrev bareN (k m : Int) : Nod := Nod.mk k 0 m 0 (Fil.mk 0 []) [] []
theorem bareN_ok (k m : Int) : BareN (bareN k m) := ⟨rfl, rfl⟩

structure PutsOK (a : List Int) (l : List Nod) (i : Nat) : Prop where
  sort : SortI l
  bare : ∀ x ∈ l, BareN x
  len : l.length ≤ i
  all : ∀ h (hh : h < i) (hl : h < a.length), ∃ n, l.find? (fun x => x.ino == a[h]) = some n

theorem law_DiskPuts (a : List Int) (ino m : Int) : f_law3_DiskPuts a ino m = some true := by
  simp only [f_law3_DiskPuts, t_law3_DiskPuts]
  by_cases c1 : (a.length : Int) > 20
  · rw [run_iteT (by simpa using c1), run_ret]
  rw [run_iteF (by simpa using c1)]
  by_cases c2 : ino < 1
  · rw [run_iteT (by simpa using c2), run_ret]
  rw [run_iteF (by simpa using c2)]
  have hsm : 1000 ≤ SM := by unfold SM; omega
  have hloop : ∃ r, L_law3_DiskPuts_l0 (a, ino, m, ⟨5, 50, 0, []⟩, 0) = some r ∧ (r = .inl true ∨ ∃ l, r = .inr (a, ino, m, ⟨5, 50, 0, l⟩) ∧ PutsOK a l a.length) := by
    refine loop_inv (t := fun q : List Int × Int × Int × Dsk × Int => tl_law3_DiskPuts_l0 q.1 q.2.1 q.2.2.1 q.2.2.2.1 q.2.2.2.2) (fun i p => ∃ l, p = (a, ino, m, (⟨5, 50, 0, l⟩ : Dsk), (i : Int)) ∧ PutsOK a l i)
      (fun r => r = .inl true ∨ ∃ l, r = .inr (a, ino, m, (⟨5, 50, 0, l⟩ : Dsk)) ∧ PutsOK a l a.length) a.length (fun i p hi hp => ?_) (fun p hp => ?_) ⟨[], rfl, sortI_nil, fun x hx => by simp at hx, by simp, fun h hh => by omega⟩
    · obtain ⟨l, rfl, hl⟩ := hp
      have hw := wrS (i := i) (by omega)
      have hlen := hl.len
      simp only [tl_law3_DiskPuts_l0]
      rw [run_iteT (by simp; omega), run_req (inb hi)]
      simp only [getD_int hi]
      by_cases c : a[i] < 1
      · exact .inr ⟨_, by rw [run_iteT (by simpa using c), run_ret], .inl rfl⟩
      · have hput := e_disk_Put (d := ⟨5, 50, 0, l⟩) (n := bareN a[i] (i : Int)) (show l.length + 1 ≤ SM by omega) hl.sort (bareN_ok _ _).sm
        refine .inl ⟨_, by rw [run_iteF (by simpa using c), run_req (inb hi), run_bind hput, run_ret, hw], putN l (bareN a[i] (i : Int)), rfl, putN_sort hl.sort _, fun x hx => ?_, ?_, fun h hh hhl => ?_⟩
        · rcases putN_mem hx with rfl | hx
          · exact bareN_ok _ _
          · exact hl.bare x hx
        · have := putN_len l (bareN a[i] (i : Int)); omega
        · rw [putN_find hl.sort]
          by_cases e : a[h] = a[i]
          · exact ⟨_, by rw [if_pos e]⟩
          · obtain ⟨n, hn⟩ := hl.all h (by
              by_cases q : h = i
              · subst q; exact absurd rfl e
              · omega) hhl
            exact ⟨n, by rw [if_neg e, hn]⟩
    · obtain ⟨l, rfl, hl⟩ := hp
      refine ⟨_, ?_, .inr ⟨l, rfl, hl⟩⟩
      simp only [tl_law3_DiskPuts_l0]
      rw [run_iteF (by simp), run_ret]
  obtain ⟨r, h1, rfl | ⟨l, rfl, hl⟩⟩ := hloop
  · rw [run_bind h1, run_caseL, run_ret]
  rw [run_bind h1, run_caseR]
  dsimp only
  have hlen := hl.len
  have smD : ∀ {l : List Nod}, (∀ x ∈ l, BareN x) → l.length ≤ 1000 → SmD ⟨5, 50, 0, l⟩ := fun h1 h2 => ⟨Nat.le_trans h2 hsm, fun n hn => (h1 n hn).sm⟩
  have hput := e_disk_Put (d := ⟨5, 50, 0, l⟩) (n := bareN ino m) (show l.length + 1 ≤ SM by omega) hl.sort (bareN_ok _ _).sm
  generalize hx : putN l (bareN ino m) = x at hput
  have xs : SortI x := by rw [← hx]; exact putN_sort hl.sort _
  have xb : ∀ y ∈ x, BareN y := fun y hy => by
    rw [← hx] at hy
    rcases putN_mem hy with rfl | hy
    · exact bareN_ok _ _
    · exact hl.bare y hy
  have xl : x.length ≤ 21 := by have := putN_len l (bareN ino m); rw [hx] at this; omega
  have xf : ∀ j, x.find? (fun n => n.ino == j) = if j = ino then some (bareN ino m) else l.find? (fun n => n.ino == j) := fun j => by rw [← hx]; exact putN_find hl.sort _ _
  have hget := e_disk_Get (smD xb (by omega)) xs ino
  have hgx : getN x ino = (bareN ino m, true) := by unfold getN; rw [xf, if_pos rfl]
  dsimp only at hget
  rw [hgx] at hget
  have hdrop := e_disk_Drop (d := ⟨5, 50, 0, x⟩) (show x.length ≤ SM by omega) xs ino
  have yl := dropN_len xs (k := ino) (n := bareN ino m) (by rw [xf, if_pos rfl])
  have yf := dropN_find x ino
  have ys := dropN_sort xs ino
  have yb : ∀ n ∈ dropN x ino, BareN n := fun n hn => xb n (List.mem_filter.1 hn).1
  dsimp only at hdrop
  generalize hy : dropN x ino = y at *
  have hgety := e_disk_Get (smD yb (by omega)) ys ino
  have hgy : getN y ino = (nodZ, false) := by unfold getN; rw [yf, if_pos rfl]
  dsimp only at hgety
  rw [hgy] at hgety
  have hL1 : L_law3_DiskPuts_l1 (a, ino, m, ⟨5, 50, 0, l⟩, ⟨5, 50, 0, x⟩, bareN ino m, true, ⟨5, 50, 0, y⟩, false, 1) = some (.inr (a, ino, m, ⟨5, 50, 0, l⟩, ⟨5, 50, 0, x⟩, bareN ino m, true, ⟨5, 50, 0, y⟩, false)) := by
    refine loop_to (fun i => (a, ino, m, (⟨5, 50, 0, l⟩ : Dsk), (⟨5, 50, 0, x⟩ : Dsk), bareN ino m, true, (⟨5, 50, 0, y⟩ : Dsk), false, ((i + 1 : Nat) : Int))) (x.length - 1) (fun i hi => ?_) ?_
    · have w1 : IntKind.i64.wrap (((i + 1 : Nat) : Int) - 1) = (i : Int) := by rw [wr (by omega) (by omega)]; omega
      have w2 := wrS (i := i + 1) (by omega)
      have hs := xs i (i + 1) (by omega) (by omega)
      simp only at hs
      simp only [tl_law3_DiskPuts_l1]
      rw [w1, run_iteT (by simp; omega), run_req (inb (by omega)), run_req (inb (by omega))]
      simp only [getD_int (show i < x.length by omega), getD_int (show i + 1 < x.length by omega)]
      rw [run_iteF (by simpa using hs), run_ret, w2]
    · simp only [tl_law3_DiskPuts_l1]
      rw [run_iteF (by simp; omega), run_ret]
  have hL2 : L_law3_DiskPuts_l2 (a, ino, m, ⟨5, 50, 0, l⟩, ⟨5, 50, 0, x⟩, bareN ino m, true, ⟨5, 50, 0, y⟩, false, 0) = some (.inr (m, ⟨5, 50, 0, x⟩, bareN ino m, true, ⟨5, 50, 0, y⟩, false)) := by
    refine loop_to (fun i => (a, ino, m, (⟨5, 50, 0, l⟩ : Dsk), (⟨5, 50, 0, x⟩ : Dsk), bareN ino m, true, (⟨5, 50, 0, y⟩ : Dsk), false, (i : Int))) a.length (fun i hi => ?_) ?_
    · have hw := wrS (i := i) (by omega)
      obtain ⟨p, hp⟩ := hl.all i hi hi
      have g1 := e_disk_Get (smD hl.bare (by omega)) hl.sort a[i]
      have g2 := e_disk_Get (smD yb (by omega)) ys a[i]
      have e1 : getN l a[i] = (p, true) := by unfold getN; rw [hp]
      dsimp only at g1 g2
      rw [e1] at g1
      simp only [tl_law3_DiskPuts_l2]
      rw [run_iteT (by simp; omega), run_req (inb hi)]
      simp only [getD_int hi]
      rw [run_bind g1, run_req (inb hi), run_bind g2, run_req (inb hi)]
      by_cases c : a[i] = ino
      · rw [run_iteF (by simpa using c), run_ret, hw]
      · have e2 : getN y a[i] = (p, true) := by unfold getN; rw [yf, if_neg c, xf, if_neg c, hp]
        rw [e2, run_iteT (by simpa using c), run_iteF (by rfl), run_iteF (by rfl), run_bind (e_r3_Nodes (hl.bare p (List.mem_of_find?_eq_some hp))), run_iteF (by rfl), run_ret, hw]
    · simp only [tl_law3_DiskPuts_l2]
      rw [run_iteF (by simp), run_ret]
  have hw : IntKind.i64.wrap ((x.length : Int) - 1) = (y.length : Int) := by rw [wr (by omega) (by omega)]; omega
  rw [run_bind hput, run_bind hget, run_bind hdrop, run_bind hgety]
  refine (run_bind hL1).trans ?_
  rw [run_caseR]
  refine (run_bind hL2).trans ?_
  rw [run_caseR]
  dsimp only
  rw [run_iteT (by rfl), run_iteT (by simp), run_iteT (by rfl), hw, run_iteT (by simp)]
  exact (run_bind (show f_law3_known = some true from rfl)).trans rfl

end Go.Proofs.Ytmkmjjodiicmlaa.VS
