/- FindAll, in plain words. Conditions: none. -/
import Derived.Test.YtjihnbjdclobgaaPD6
namespace Go.Proofs.Ytjihnbjdclobgaa.VS
set_option maxRecDepth 100000
set_option linter.unusedVariables false
set_option linter.unusedSimpArgs false

theorem e_heavy5 {d : Dsk} (hd : SmD d) : ∃ b, f_law5_heavy [d] = some b := by
  have hin : ∀ n : Int, ∃ r, L_law5_heavy_l0_0 ([d], n, 0, 0) = some r ∧ ∃ m : Int, r = ([d], m, 0) := by
    intro n
    refine loop_inv (fun i p => ∃ m : Int, p = ([d], m, 0, (i : Int))) (fun r => ∃ m : Int, r = ([d], m, 0)) d.nodes.length (fun i p hi hp => ?_) (fun p hp => ?_) ⟨n, rfl⟩
    · obtain ⟨m, rfl⟩ := hp
      have hw := wrS (i := i) (by have := hd.1; unfold SM at this; omega)
      simp only [tl_law5_heavy_l0_0]
      rw [run_req (by simp), run_iteT (by simp; omega)]
      by_cases c : (i : Int) < 200
      · exact .inl ⟨_, by rw [run_iteT (by simpa using c), run_req (by simp), run_req (by simp; omega), run_req (by simp), run_req (by simp; omega), run_ret, hw], _, rfl⟩
      · right
        exact ⟨_, by rw [run_iteF (by simpa using c), run_ret], _, rfl⟩
    · obtain ⟨m, rfl⟩ := hp
      simp only [tl_law5_heavy_l0_0]
      exact ⟨_, by rw [run_req (by simp), run_iteF (by simp), run_ret], _, rfl⟩
  obtain ⟨r, h1, m, rfl⟩ := hin 0
  have hl : ∃ m : Int, L_law5_heavy_l0 ([d], 0, 0) = some ([d], m) := by
    refine ⟨m, ?_⟩
    have h0 : (tl_law5_heavy_l0 [d] 0 0).run = some (.inl ([d], m, 1)) := by
      simp only [tl_law5_heavy_l0]
      rw [run_iteT (by simp), run_iteT (by decide), run_bind h1, run_ret]
      rfl
    refine (fixT_next (q := ([d], m, 1)) h0).trans (fixT_out ?_)
    simp only [tl_law5_heavy_l0]
    rw [run_iteF (by simp), run_ret]
  obtain ⟨m, hm⟩ := hl
  simp only [f_law5_heavy, t_law5_heavy]
  rw [run_bind hm, run_iteF (by simp), run_ret]
  exact ⟨_, rfl⟩

theorem e_find_All {d : Dsk} (hd : SmD d) (ok : DskOK d) (ht : totN d.nodes ≤ SM) : f_find_All d = some (underN d.nodes 4097 [] (getN d.nodes 1).1) := by
  have hg := ok.good hd
  have hc : Chain d.nodes [1] := rfl
  have hlen := ok.len
  have hn1 := ok.n1
  have hu : f_find_under d [] (getN d.nodes 1).1 = some (underN d.nodes 4097 [] (getN d.nodes 1).1) :=
    recN_rec mono_under (e_under hg SM (Nat.le_refl _) 4097 [] _ (getN_sm hd.2 1).1 (deep_of ok 4097 1 [] hc (by simp; omega)) (Nat.le_trans (under_le ok 4097 []) ht) (by simp [SM]))
  simp only [f_find_All, t_find_All]
  rw [run_bind (e_disk_Get hd ok.sortI 1), run_bind hu, run_ret]

theorem e_known5 : f_law5_known = some true := by
  let r : Nod := Nod.mk 1 2 493 1 (Fil.mk 0 []) [] []
  let d : Dsk := Dsk.mk 5 5 2 [r]
  have hn : f_r3_New 5 5 = some d := by
    simp only [f_r3_New, t_r3_New]; rw [run_ret]
  have hsm : SmD d := ⟨by simp [d, SM], fun n hn => by simp [d] at hn; subst hn; exact ⟨by simp [r, SM], by simp [r, SM], by simp [r]⟩⟩
  have hg : GoodD d := ⟨hsm, fun i j hij hj => by simp [d] at hj; omega, fun n hn => by simp [d] at hn; subst hn; intro i j hij hj; simp [r] at hj⟩
  have e1 : getN d.nodes 1 = (r, true) := rfl
  have h1 : f_find_Node d [] = some (r, 0) := by rw [e_find_Node hg [] (by simp)]; rw [e1]; rfl
  have h2 : f_find_Node d [[97]] = some (nodZ, 2) := by rw [e_find_Node hg [[97]] (by simp [SM])]; rw [e1]; rfl
  have h3 : f_find_All d = some [] := by
    have hu : f_find_under d [] r = some [] := by
      have := e_under hg SM (Nat.le_refl _) 1 [] r (by simp [r]) (fun x hx => by simp [r] at hx) (by simp [underN, r]) (by simp [SM])
      exact recN_rec mono_under this
    simp only [f_find_All, t_find_All]
    rw [run_bind (e_disk_Get hsm hg.sort 1), e1, run_bind hu, run_ret]
  simp only [f_law5_known, t_law5_known]
  rw [run_bind hn, run_bind h1, run_bind h2, run_iteT (by rfl), run_iteT (by rfl), run_iteT (by rfl), run_bind h3, run_ret]
  rfl

/-! Counts -/

def manyN (nodes : List Nod) (root : Nod) (s : Str) (P : List (List Str)) : Nat := P.countP fun p => (walkN nodes root (p ++ [s])).2 == 0
def sameN (s : Str) (P : List (List Str)) : Nat := P.countP fun p => decide (1 < p.length) && p.getD (p.length - 1) [] == s

theorem cnt_name {l : List Nam} (h : SortN l) (s : Str) : l.countP (fun x => x.name == s) = if (getS l s).2 then 1 else 0 := by
  unfold getS
  cases hf : l.find? (fun x => x.name == s) with
  | none =>
    have := List.find?_eq_none.1 hf
    simp only [Bool.false_eq_true, if_false]
    exact List.countP_eq_zero.2 fun x hx => this x hx
  | some y =>
    simp only [if_true]
    obtain ⟨h2, k, hk, e, h1⟩ := List.find?_eq_some_iff_getElem.1 hf
    have hsplit : l = l.take k ++ l[k] :: l.drop (k + 1) := by
      rw [← List.drop_eq_getElem_cons hk, List.take_append_drop]
    rw [hsplit, List.countP_append, List.countP_cons_of_pos (by rw [e]; exact h2)]
    have z1 : (l.take k).countP (fun x => x.name == s) = 0 := List.countP_eq_zero.2 fun x hx => by
      obtain ⟨i, hi, rfl⟩ := List.mem_iff_getElem.1 hx
      rw [List.length_take] at hi
      rw [List.getElem_take]
      simpa using h1 i (by omega)
    have z2 : (l.drop (k + 1)).countP (fun x => x.name == s) = 0 := List.countP_eq_zero.2 fun x hx => by
      obtain ⟨i, hi, rfl⟩ := List.mem_iff_getElem.1 hx
      rw [List.length_drop] at hi
      rw [List.getElem_drop]
      have := h k (k + 1 + i) (by omega) (by omega)
      simp only at this
      simp only [beq_iff_eq] at h2 ⊢
      intro e2
      rw [e2, e, h2, bl_irrefl] at this; cases this
    omega

theorem walk_step {nodes : List Nod} {n : Nod} (s : Str) : (walkN nodes n [s]).2 = 0 ↔ n.kind = 2 ∧ (getS n.names s).2 = true := by
  rw [walkN]
  by_cases h : n.kind = 2
  · rw [if_neg (by simpa using h)]
    cases hg : getS n.names s with
    | mk ino b =>
      cases b with
      | true => simp [h, walkN]
      | false => simp
  · rw [if_pos h]; simp [h]

theorem getS_mem {l : List Nam} (h : SortN l) {x : Nam} (hx : x ∈ l) : getS l x.name = (x.ino, true) := by
  obtain ⟨i, hi, rfl⟩ := List.mem_iff_getElem.1 hx
  have : l.find? (fun y => y.name == l[i].name) = some l[i] := find_place (fun j hj hl => by
    have := h j i hj hi
    simp only at this
    simp only [beq_eq_false_iff_ne]
    intro e; rw [e, bl_irrefl] at this; cases this) hi (by simp)
  unfold getS; rw [this]

theorem count_all {d : Dsk} (hg : GoodD d) (s : Str) (root : Nod) : ∀ (k : Nat) (l : List Str) (n : Nod), SortN n.names → n.kind = 2 → Deep d.nodes k n → walkN d.nodes root l = (n, 0) →
    manyN d.nodes root s (underN d.nodes k l n) + (if l = [] then 0 else n.names.countP fun x => x.name == s) = sameN s (underN d.nodes k l n)
  | 0, l, n, _, _, h, _ => h.elim
  | k + 1, l, n, hs, hk2, hdeep, hw => by
    rw [underN]
    have key : ∀ (ns : List Nam), (∀ x ∈ ns, x ∈ n.names) →
        manyN d.nodes root s (ns.flatMap fun x => (l ++ [x.name]) :: (if (getN d.nodes x.ino).1.kind = 2 then underN d.nodes k (l ++ [x.name]) (getN d.nodes x.ino).1 else [])) + (if l = [] then 0 else ns.countP fun x => x.name == s) =
        sameN s (ns.flatMap fun x => (l ++ [x.name]) :: (if (getN d.nodes x.ino).1.kind = 2 then underN d.nodes k (l ++ [x.name]) (getN d.nodes x.ino).1 else [])) := by
      intro ns
      induction ns with
      | nil => intro _; simp [manyN, sameN]
      | cons x ns ih =>
        intro hsub
        have ih := ih fun y hy => hsub y (List.mem_cons_of_mem _ hy)
        have hx := hsub x List.mem_cons_self
        have hwx : walkN d.nodes root (l ++ [x.name]) = ((getN d.nodes x.ino).1, 0) := by
          rw [walk_snoc hw, walkN, if_neg (by simpa using hk2), getS_mem hs hx]; rfl
        have hm : (walkN d.nodes root (l ++ [x.name] ++ [s])).2 = 0 ↔ (getN d.nodes x.ino).1.kind = 2 ∧ (getS (getN d.nodes x.ino).1.names s).2 = true := by
          rw [walk_snoc hwx]; exact walk_step s
        have hlast : (l ++ [x.name]).getD ((l ++ [x.name]).length - 1) [] = x.name := by simp
        have hlen : (1 < (l ++ [x.name]).length) ↔ l ≠ [] := by
          cases l <;> simp
        simp only [manyN, sameN, List.flatMap_cons, List.countP_append] at ih ⊢
        rw [List.countP_cons, List.countP_cons, List.countP_cons]
        simp only [hlast]
        by_cases hd2 : (getN d.nodes x.ino).1.kind = 2
        · rw [if_pos hd2]
          have i2 := count_all hg s root k (l ++ [x.name]) (getN d.nodes x.ino).1 (hg.namesN _) hd2 (hdeep x hx hd2) hwx
          rw [cnt_name (hg.namesN _), if_neg (by simp)] at i2
          simp only [manyN, sameN] at i2
          have e1 : (if ((walkN d.nodes root (l ++ [x.name] ++ [s])).2 == 0) = true then 1 else 0) = if (getS (getN d.nodes x.ino).1.names s).2 = true then 1 else 0 := by
            by_cases q : (getS (getN d.nodes x.ino).1.names s).2 = true
            · rw [if_pos (by simpa using hm.2 ⟨hd2, q⟩), if_pos q]
            · rw [if_neg (by simpa using fun h => q (hm.1 h).2), if_neg q]
          rw [e1]
          by_cases hl : l = []
          · rw [if_pos hl] at ih ⊢
            have : ¬ (1 < (l ++ [x.name]).length) := fun h => hlen.1 h hl
            rw [decide_eq_false this]
            simp only [Bool.false_and, Bool.false_eq_true, if_false]
            omega
          · rw [if_neg hl] at ih ⊢
            have : 1 < (l ++ [x.name]).length := hlen.2 hl
            rw [decide_eq_true this]
            simp only [Bool.true_and]
            omega
        · rw [if_neg hd2]
          have e1 : (if ((walkN d.nodes root (l ++ [x.name] ++ [s])).2 == 0) = true then 1 else 0) = 0 := by
            rw [if_neg]; simpa using fun h => hd2 (hm.1 h).1
          rw [e1]
          simp only [List.countP_nil]
          by_cases hl : l = []
          · rw [if_pos hl] at ih ⊢
            have : ¬ (1 < (l ++ [x.name]).length) := fun h => hlen.1 h hl
            rw [decide_eq_false this]
            simp only [Bool.false_and, Bool.false_eq_true, if_false]
            omega
          · rw [if_neg hl] at ih ⊢
            have : 1 < (l ++ [x.name]).length := hlen.2 hl
            rw [decide_eq_true this]
            simp only [Bool.true_and]
            omega
    exact key n.names fun x hx => hx

/-- Each path of all leads to a node, not the root. -/
theorem all_lead {d : Dsk} (ok : DskOK d) (hg : GoodD d) (root : Nod) : ∀ (k : Nat) (l : List Str) (n : Nod), n ∈ d.nodes → n.kind = 2 → walkN d.nodes root l = (n, 0) →
    ∀ p ∈ underN d.nodes k l n, (walkN d.nodes root p).2 = 0 ∧ 1 < (walkN d.nodes root p).1.ino ∧ p.length ≤ l.length + k
  | 0, l, n, _, _, _, p, hp => by simp [underN] at hp
  | k + 1, l, n, hn, hk2, hw, p, hp => by
    rw [underN] at hp
    obtain ⟨x, hx, hp⟩ := List.mem_flatMap.1 hp
    have hwx : walkN d.nodes root (l ++ [x.name]) = ((getN d.nodes x.ino).1, 0) := by
      rw [walk_snoc hw, walkN, if_neg (by simpa using hk2), getS_mem (hg.names n hn) hx]; rfl
    obtain ⟨i, hi, rfl⟩ := List.mem_iff_getElem.1 hx
    have hfound := ((ok.nodes n hn).named i hi).1
    obtain ⟨g1, g2⟩ := getN_mem hfound
    rcases List.mem_cons.1 hp with rfl | hp
    · rw [hwx]
      refine ⟨rfl, ?_, by simp⟩
      rw [g2]
      have h1 : n.names[i].ino ≠ 1 := root_unnamed ok hn (List.getElem_mem hi)
      obtain ⟨j, hj, e⟩ := List.mem_iff_getElem.1 g1
      obtain ⟨h0, r1, _⟩ := ok.root
      have hge : 1 ≤ n.names[i].ino := by
        rw [← g2, ← e, ← r1]
        by_cases c : j = 0
        · subst c; exact Int.le_refl _
        · have := ok.sortI 0 j (by omega) hj
          simp only at this; omega
      omega
    · split at hp
      · rename_i hk
        have := all_lead ok hg root k _ _ g1 hk hwx p hp
        exact ⟨this.1, this.2.1, by have := this.2.2; simp at this; omega⟩
      · simp at hp

theorem count_snoc {α : Type} (l : List α) (p : α → Bool) (i : Nat) (h : i < l.length) : (l.take (i + 1)).countP p = (l.take i).countP p + if p l[i] = true then 1 else 0 := by
  rw [List.take_add_one, List.getElem?_eq_getElem h, Option.toList_some, List.countP_append, List.countP_singleton]

theorem law_FindAll (d : Dsk) (s : Str) (hd : SmD d) (hs : ∀ n ∈ d.nodes, ∀ x ∈ n.names, x.name.length ≤ SM) (ht : totN d.nodes ≤ SM) : f_law5_FindAll d s = some true := by
  obtain ⟨b, hb⟩ := e_heavy5 hd
  simp only [f_law5_FindAll, t_law5_FindAll]
  rw [run_bind hb]
  cases b with
  | true => rw [run_iteT (by rfl), run_ret]
  | false =>
    rw [run_iteF (by rfl)]
    by_cases c1 : (s.length : Int) > 30
    · rw [run_iteT (by simpa using c1), run_ret]
    rw [run_iteF (by simpa using c1)]
    obtain ⟨b, hb, hok⟩ := e_r3_Is hd hs
    rw [run_bind hb]
    cases b with
    | false => rw [run_iteT (by rfl), run_ret]
    | true =>
      have ok := hok rfl
      have hg := ok.good hd
      rw [run_iteF (by rfl), run_bind (e_find_All hd ok ht)]
      obtain ⟨r, hr1, hr2, hr3, hr4⟩ := root_node ok
      have e1 : (getN d.nodes 1).1 = r := by rw [hr1]
      rw [e1]
      have hn1 := ok.n1
      have hlen := ok.len
      have hdeep : Deep d.nodes 4097 r := by rw [← e1]; exact deep_of ok 4097 1 [] rfl (by simp; omega)
      have hcount := count_all hg s r 4097 [] r (hg.names r hr2) hr4 hdeep rfl
      rw [if_pos rfl, Nat.add_zero] at hcount
      have hlead := all_lead ok hg r 4097 [] r hr2 hr4 rfl
      have hPl : (underN d.nodes 4097 [] r).length ≤ SM := by
        have := under_le ok 4097 []
        rw [e1] at this
        exact Nat.le_trans this ht
      generalize hP : underN d.nodes 4097 [] r = P at hcount hlead hPl ⊢
      have hl0 : L_law5_FindAll_l0 (s, d, P, 0, 0) = some (.inr (s, P, (manyN d.nodes r s P : Int))) := by
        refine loop_to (fun i => (s, d, P, (manyN d.nodes r s (P.take i) : Int), (i : Int))) P.length (fun i hi => ?_) ?_
        · have hw := wrS (i := i) (by unfold SM at hPl; omega)
          obtain ⟨a1, a2, a3⟩ := hlead P[i] (List.getElem_mem hi)
          have hpl : (P[i] ++ [s]).length ≤ SM := by simp [SM] at a3 ⊢; omega
          have hpl0 : P[i].length ≤ SM := by simp [SM] at a3 ⊢; omega
          have hand : f_r1_And P[i] s = some (P[i] ++ [s]) := by
            simp only [f_r1_And, t_r1_And]
            rw [run_req (rmM hpl0 (by omega)), run_req ⟨trivial, rmM hpl (by omega)⟩, run_same, run_ret]
          have hml : manyN d.nodes r s (P.take i) ≤ 4611686018427387904 := by
            have : manyN d.nodes r s (P.take i) ≤ (P.take i).length := List.countP_le_length
            rw [List.length_take] at this
            unfold SM at hPl; omega
          simp only [tl_law5_FindAll_l0]
          rw [run_iteT (by simp; omega), run_req (inb hi)]
          simp only [getD_int hi]
          rw [run_bind (e_find_Node hg P[i] hpl0), e1, run_iteF (by simpa using a1), run_iteF (by simp; omega), run_req (inb hi), run_bind hand, run_bind (e_find_Node hg _ hpl), e1]
          have hsn : manyN d.nodes r s (P.take (i + 1)) = manyN d.nodes r s (P.take i) + if ((walkN d.nodes r (P[i] ++ [s])).2 == 0) = true then 1 else 0 := count_snoc P _ i hi
          rw [hsn]
          cases hq : ((walkN d.nodes r (P[i] ++ [s])).2 == 0) with
          | true => rw [run_iteT (by rfl), run_ret, hw, wrS hml]; rfl
          | false => rw [run_iteF (by rfl), run_ret, hw]; rfl
        · simp only [tl_law5_FindAll_l0]
          rw [run_iteF (by simp), run_ret, List.take_length]
      have hl1 : L_law5_FindAll_l1 (s, P, (manyN d.nodes r s P : Int), 0, 0) = some ((manyN d.nodes r s P : Int), (sameN s P : Int)) := by
        refine loop_to (fun i => (s, P, (manyN d.nodes r s P : Int), (sameN s (P.take i) : Int), (i : Int))) P.length (fun i hi => ?_) ?_
        · have hw := wrS (i := i) (by unfold SM at hPl; omega)
          obtain ⟨a1, a2, a3⟩ := hlead P[i] (List.getElem_mem hi)
          have hml : sameN s (P.take i) ≤ 4611686018427387904 := by
            have : sameN s (P.take i) ≤ (P.take i).length := List.countP_le_length
            rw [List.length_take] at this
            unfold SM at hPl; omega
          have hsn : sameN s (P.take (i + 1)) = sameN s (P.take i) + if (decide (1 < P[i].length) && P[i].getD (P[i].length - 1) [] == s) = true then 1 else 0 := count_snoc P _ i hi
          simp only [tl_law5_FindAll_l1]
          rw [run_iteT (by simp; omega), run_req (inb hi), hsn]
          simp only [getD_int hi]
          by_cases c : 1 < P[i].length
          · have hp := wrP (i := P[i].length) (by omega) (by simp at a3; omega)
            rw [run_iteT (by simp; omega), run_req (inb hi), run_req (inb hi)]
            simp only [hp]
            rw [run_req (by omega), decide_eq_true c, Bool.true_and]
            have e2 : List.getD P[i] (((P[i].length - 1 : Nat) : Int)).toNat GT.str.nought = P[i].getD (P[i].length - 1) [] := rfl
            rw [e2]
            cases hq : (P[i].getD (P[i].length - 1) [] == s) with
            | true => rw [run_iteT (by rfl), run_ret, hw, wrS hml]; rfl
            | false => rw [run_iteF (by rfl), run_ret, hw]; rfl
          · rw [run_iteF (by simp; omega), run_ret, hw, decide_eq_false c]
            rfl
        · simp only [tl_law5_FindAll_l1]
          rw [run_iteF (by simp), run_ret, List.take_length]
      rw [run_bind hl0, run_caseR, run_bind hl1, run_iteT (by simp [hcount]), run_bind e_known5, run_ret]

end Go.Proofs.Ytjihnbjdclobgaa.VS
