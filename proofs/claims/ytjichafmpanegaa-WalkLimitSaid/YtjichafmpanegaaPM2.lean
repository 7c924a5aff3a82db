/- Chapter 11, the program alone: what is seen of a name. Conditions: none. -/
import Derived.Test.YtjichafmpanegaaPM1
namespace Go.Proofs.Ytjichafmpanegaa.VS
set_option maxRecDepth 100000
set_option linter.unusedVariables false
set_option linter.unusedSimpArgs false

theorem e_seen_place {d : Dsk} (hl : d.nodes.length ≤ SM) (hs : SortI d.nodes) (ino : Int) : ∃ k : Nat, k ≤ d.nodes.length ∧ (∀ h (hk : h < k) (hl : h < d.nodes.length), d.nodes[h].ino < ino) ∧ (∀ h (hk : k ≤ h) (hl : h < d.nodes.length), ino ≤ d.nodes[h].ino) ∧
    f_slices_BinarySearchFunc_Node_int64__seen_node_1 d.nodes ino () = some ((k : Int), decide (∃ h : k < d.nodes.length, d.nodes[k].ino = ino)) := by
  obtain ⟨k, k1, k2, k3, k4⟩ := bsearch (t := fun q : (List Nod) × (Int × (Unit × (Int × (Int × Int)))) => tl_slices_BinarySearchFunc_Node_int64__seen_node_1_l0 q.1 q.2.1 q.2.2.1 q.2.2.2.1 q.2.2.2.2.1 q.2.2.2.2.2) d.nodes.length hl
    (fun i j => (d.nodes, ino, (), (d.nodes.length : Int), (i : Int), (j : Int))) (fun i => (d.nodes, ino, (), (d.nodes.length : Int), (i : Int))) (fun h => if hl : h < d.nodes.length then decide (d.nodes[h].ino < ino) else false)
    (fun a b hab hb h => by
      rw [dif_pos hb] at h
      rw [dif_pos (by omega)]
      simp only [decide_eq_true_eq] at h ⊢
      by_cases e : a = b
      · subst e; exact h
      · have := hs a b (by omega) hb; omega)
    (fun i j hij hj => by
      have hh := halve i j (by unfold SM at hl; omega)
      have hm : (i + j) / 2 < d.nodes.length := by omega
      have hw := wrS (i := (i + j) / 2) (by unfold SM at hl; omega)
      have hcmp : f_seen_node_1 d.nodes[(i + j) / 2] ino = some (cmpI d.nodes[(i + j) / 2].ino ino) := by
        simp only [f_seen_node_1, t_seen_node_1]; rw [run_bind (e_cmp64 _ _), run_ret]
      simp only [tl_slices_BinarySearchFunc_Node_int64__seen_node_1_l0]
      rw [run_iteT (by simp; omega), run_req (by decide)]
      simp only [hh]
      rw [run_req (inb hm)]
      simp only [getD_int hm]
      rw [run_bind hcmp, dif_pos hm]
      cases hp : decide (d.nodes[(i + j) / 2].ino < ino) with
      | true => rw [run_iteT (by rw [cmpI_neg, hp]), run_ret, hw, cond_true]
      | false => rw [run_iteF (by rw [cmpI_neg, hp]), run_ret, cond_false])
    (fun i hi => by
      simp only [tl_slices_BinarySearchFunc_Node_int64__seen_node_1_l0]
      rw [run_iteF (by simp), run_ret])
  have k4 : L_slices_BinarySearchFunc_Node_int64__seen_node_1_l0 (d.nodes, ino, (), (d.nodes.length : Int), 0, (d.nodes.length : Int)) = some (d.nodes, ino, (), (d.nodes.length : Int), (k : Int)) := k4
  refine ⟨k, k1, fun h hk hl => by have := k2 h hk; rw [dif_pos hl] at this; simpa using this, fun h hk hl => by have := k3 h hk hl; rw [dif_pos hl] at this; simpa using this, ?_⟩
  have : f_slices_BinarySearchFunc_Node_int64__seen_node_1 d.nodes ino () = some ((k : Int), decide (∃ h : k < d.nodes.length, d.nodes[k].ino = ino)) := by
    simp only [f_slices_BinarySearchFunc_Node_int64__seen_node_1, t_slices_BinarySearchFunc_Node_int64__seen_node_1]
    rw [run_bind k4]
    by_cases hk : k < d.nodes.length
    · have hcmp : f_seen_node_1 d.nodes[k] ino = some (cmpI d.nodes[k].ino ino) := by
        simp only [f_seen_node_1, t_seen_node_1]; rw [run_bind (e_cmp64 _ _), run_ret]
      rw [run_iteT (by simp; omega), run_req (inb hk)]
      simp only [getD_int hk]
      rw [run_bind hcmp, run_ret, cmpI_zero]
      by_cases e : d.nodes[k].ino = ino
      · simp [e, hk]
      · simp [e, hk]
    · rw [run_iteF (by simp; omega), run_ret]
      have : ¬ ∃ h : k < d.nodes.length, d.nodes[k].ino = ino := fun ⟨h, _⟩ => hk h
      simp [this]
  exact this


/-- A disk that can be looked at. -/
structure GDk (d : Dsk) : Prop where
  sm : SmD d
  sort : SortI d.nodes
  names : ∀ ino, SortN (getN d.nodes ino).1.names

structure GW (w : Wld) : Prop where
  few : w.disks.length ≤ 8
  disk : ∀ d ∈ w.disks, GDk d

/-- A spot's disk is there. -/
def InW (w : Wld) (s : Spt) : Prop := 0 ≤ s.branch ∧ s.branch < (w.disks.length : Int)

def dkW (w : Wld) (s : Spt) : Dsk := w.disks.getD s.branch.toNat GT.dsk.nought
def ndW (w : Wld) (s : Spt) : Nod := (getN (dkW w s).nodes s.ino).1

theorem GW.dk {w : Wld} (h : GW w) {s : Spt} (hs : InW w s) : GDk (dkW w s) := by
  obtain ⟨a, b⟩ := hs
  unfold dkW
  rw [getD_at (show s.branch.toNat < w.disks.length by omega)]
  exact h.disk _ (List.getElem_mem _)
theorem GW.sm {w : Wld} (h : GW w) {s : Spt} (hs : InW w s) : SmN (ndW w s) := getN_sm (h.dk hs).sm.2 _

theorem e_seen_node {w : Wld} (h : GW w) {s : Spt} (hs : InW w s) : f_seen_node w s = some (ndW w s) := by
  have g := h.dk hs
  obtain ⟨k, k1, k2, k3, k4⟩ := e_seen_place g.sm.1 g.sort s.ino
  unfold ndW
  simp only [f_seen_node, t_seen_node]
  rw [run_req ⟨hs.1, hs.2⟩]
  change (T.bind (f_slices_BinarySearchFunc_Node_int64__seen_node_1 (dkW w s).nodes s.ino ()) _).run = _
  rw [run_bind k4]
  change (T.ite _ _ (T.req (_ ∧ _ < (((dkW w s).nodes.length : Nat) : Int)) (T.ret ((dkW w s).nodes.getD _ _)))).run = _
  by_cases hk : ∃ h : k < (dkW w s).nodes.length, (dkW w s).nodes[k].ino = s.ino
  · obtain ⟨hk, he⟩ := hk
    have hf : (dkW w s).nodes.find? (fun n => n.ino == s.ino) = some (dkW w s).nodes[k] := find_place (fun h hk hl => by have := k2 h hk hl; simp; omega) hk (by simpa using he)
    rw [run_iteF (by simp [hk, he]), run_req (inb hk)]
    simp only [getD_int hk]
    rw [run_ret]
    unfold getN; rw [hf]
  · have hf : (dkW w s).nodes.find? (fun n => n.ino == s.ino) = none := by
      rw [List.find?_eq_none]
      intro n hn
      obtain ⟨i, hi, rfl⟩ := List.mem_iff_getElem.1 hn
      simp only [beq_iff_eq]
      intro e
      rcases Nat.lt_trichotomy i k with q | q | q
      · have := k2 i q hi; omega
      · subst q; exact hk ⟨hi, e⟩
      · have h1 := g.sort k i q hi
        have h2 := k3 k (Nat.le_refl k) (by omega)
        simp only at h1; omega
    rw [run_iteT (by simpa using fun a b => hk ⟨a, b⟩), run_ret]
    unfold getN; rw [hf]

/-! ### Signs -/

def heedsC (c : Cnf) (b : Int) : Bool := if 0 ≤ b ∧ b < (c.ways.length : Int) then (c.ways.getD b.toNat 0 == 1 || c.ways.getD b.toNat 0 == 3) else false

theorem e_conf_is (c : Cnf) (b way : Int) : f_conf_is c b way = some (if 0 ≤ b ∧ b < (c.ways.length : Int) then c.ways.getD b.toNat 0 == way else false) := by
  simp only [f_conf_is, t_conf_is]
  by_cases h1 : b ≥ 0
  · rw [run_iteT (by simpa using h1)]
    by_cases h2 : b < (c.ways.length : Int)
    · rw [run_iteT (by simpa using h2), run_req ⟨h1, h2⟩, run_ret, if_pos ⟨h1, h2⟩]; rfl
    · rw [run_iteF (by simpa using h2), run_ret, if_neg (by omega)]
  · rw [run_iteF (by simpa using h1), run_ret, if_neg (by omega)]

theorem e_conf_Heeds (c : Cnf) (b : Int) : f_conf_Heeds c b = some (heedsC c b) := by
  simp only [f_conf_Heeds, t_conf_Heeds]
  rw [run_bind (e_conf_is c b 1)]
  unfold heedsC
  by_cases h : 0 ≤ b ∧ b < (c.ways.length : Int)
  · rw [if_pos h]
    cases hb : (c.ways.getD b.toNat 0 == 1) with
    | true => rw [run_iteT (by rfl), run_ret, if_pos h]; rfl
    | false => rw [run_iteF (by rfl), run_bind (e_conf_is c b 3), run_ret, if_pos h, if_pos h]; rfl
  · rw [if_neg h, run_iteF (by rfl), run_bind (e_conf_is c b 3), run_ret, if_neg h, if_neg h]

abbrev opq : Str := [46, 119, 104, 46, 46, 119, 104, 46, 46, 111, 112, 113]
def whiteS (s : Str) : Str := [46, 119, 104, 46] ++ s

theorem e_mark_White (s : Str) (h : s.length ≤ SM) : f_mark_White s = some (whiteS s) := by
  simp only [f_mark_White, t_mark_White]
  rw [run_req (by simp; unfold SM at h; omega), run_ret]; rfl
def hasW (w : Wld) (s : Spt) (sign : Str) : Bool := (getS (ndW w s).names sign).2 && ((ndW w s).kind == 2 && heedsC w.conf s.branch)

theorem e_seen_has {w : Wld} (h : GW w) {s : Spt} (hs : InW w s) (sign : Str) : f_seen_has w s sign = some (hasW w s sign) := by
  have g := h.dk hs
  simp only [f_seen_has, t_seen_has]
  rw [run_bind (e_seen_node h hs), run_bind (e_find_Name (h.sm hs).1 (g.names _) sign)]
  unfold hasW
  cases h1 : (getS (ndW w s).names sign).2 with
  | false => rw [run_iteF rfl, run_ret]; rfl
  | true =>
    rw [run_iteT rfl]
    cases h2 : ((ndW w s).kind == 2) with
    | false => rw [run_iteF rfl, run_ret]; rfl
    | true => rw [run_iteT rfl, run_bind (e_conf_Heeds _ _), run_ret]; rfl

/-! ### What is seen of a name -/

def lookW (w : Wld) (name : Str) : List Spt → List Spt → List Spt × Int
  | acc, [] => (acc, (w.disks.length : Int) - 1)
  | acc, d :: r =>
    match getS (ndW w d).names name with
    | (ino, true) =>
      if (ndW w ⟨d.branch, ino⟩).kind = 2 then
        if hasW w ⟨d.branch, ino⟩ opq = true then (acc ++ [⟨d.branch, ino⟩], d.branch)
        else if hasW w d (whiteS name) = true then (acc ++ [⟨d.branch, ino⟩], d.branch)
        else lookW w name (acc ++ [⟨d.branch, ino⟩]) r
      else (if acc = [] then [⟨d.branch, ino⟩] else acc, d.branch - 1)
    | (_, false) => if hasW w d (whiteS name) = true then (acc, d.branch) else lookW w name acc r

theorem lookW_in {w : Wld} {name : Str} : ∀ {dirs acc : List Spt}, (∀ s ∈ dirs, InW w s) → (∀ s ∈ acc, InW w s) → (∀ s ∈ (lookW w name acc dirs).1, InW w s) ∧ (lookW w name acc dirs).1.length ≤ acc.length + dirs.length
  | [], acc, hd, ha => ⟨ha, by simp [lookW]⟩
  | d :: r, acc, hd, ha => by
    have hdd := hd d List.mem_cons_self
    have hr := fun s hs => hd s (List.mem_cons_of_mem _ hs)
    have hin : ∀ ino, InW w ⟨d.branch, ino⟩ := fun ino => hdd
    have happ : ∀ ino, ∀ s ∈ acc ++ [⟨d.branch, ino⟩], InW w s := fun ino s hs => by
      rcases List.mem_append.1 hs with hs | hs
      · exact ha s hs
      · rw [List.mem_singleton] at hs; subst hs; exact hin ino
    unfold lookW
    split
    · rename_i ino _
      split
      · split
        · exact ⟨happ ino, by simp⟩
        · split
          · exact ⟨happ ino, by simp⟩
          · have := lookW_in (name := name) hr (happ ino)
            exact ⟨this.1, by have := this.2; simp at this ⊢; omega⟩
      · dsimp only
        split
        · exact ⟨fun s hs => by rw [List.mem_singleton] at hs; subst hs; exact hin ino, by simp; omega⟩
        · exact ⟨ha, by simp⟩
    · split
      · exact ⟨ha, by simp⟩
      · have := lookW_in (name := name) hr ha
        exact ⟨this.1, by have := this.2; simp at this ⊢; omega⟩

theorem e_scan_loop {w : Wld} (h : GW w) (name : Str) (hn : name.length ≤ SM) (dirs : List Spt) (hd : ∀ s ∈ dirs, InW w s) (hl : dirs.length ≤ 8) : ∀ (k i : Nat) (acc : List Spt), i + k = dirs.length → acc.length ≤ i →
    ∃ r, L_seen_scan_l0 (name, w, acc, dirs, (dirs.length : Int), (i : Int)) = some r ∧ (match r with | .inl p => p | .inr q => (q.2, IntKind.i64.wrap ((q.1.disks.length : Int) - 1))) = lookW w name acc (dirs.drop i)
  | 0, i, acc, hi, ha => by
    refine ⟨.inr (w, acc), fixT_out ?_, ?_⟩
    · simp only [tl_seen_scan_l0]
      rw [run_iteF (by simp; omega), run_same, run_ret]
    · have hw : IntKind.i64.wrap ((w.disks.length : Int) - 1) = (w.disks.length : Int) - 1 := by have := h.few; rw [wr (by omega) (by omega)]
      rw [List.drop_eq_nil_of_le (by omega)]
      dsimp only
      rw [hw]; rfl
  | k + 1, i, acc, hi, ha => by
    have hil : i < dirs.length := by omega
    have hw := wrS (i := i) (by omega)
    have hds := hd _ (List.getElem_mem hil)
    have g := h.dk hds
    have hnode := e_seen_node h hds
    have hname := e_find_Name (h.sm hds).1 (g.names _) name
    have hwh := e_mark_White name hn
    have hhas := e_seen_has h hds (whiteS name)
    have hb1 : IntKind.i64.wrap (dirs[i].branch - 1) = dirs[i].branch - 1 := by
      have h1 := hds.1; have h2 := hds.2; have h3 := h.few
      rw [wr (by omega) (by omega)]
    rw [List.drop_eq_getElem_cons hil, lookW]
    have hroom : ∀ x : Spt, roomP (acc ++ [x]).length 16 := fun x => rmM (by simp [SM]; omega) (by omega)
    generalize hg : getS (ndW w dirs[i]).names name = p at *
    obtain ⟨ino, b⟩ := p
    cases b with
    | false =>
      dsimp only
      cases hb : hasW w dirs[i] (whiteS name) with
      | true =>
        refine ⟨.inl (acc, dirs[i].branch), fixT_out ?_, by rw [if_pos rfl]⟩
        simp only [tl_seen_scan_l0]
        rw [run_iteT (by simp; omega), run_req (inb hil)]
        simp only [getD_int hil]
        rw [run_bind hnode, run_bind hname, run_iteF rfl, run_bind hwh, run_bind hhas, run_iteT hb, run_same, run_ret]
      | false =>
        obtain ⟨r, h1, h2⟩ := e_scan_loop h name hn dirs hd hl k (i + 1) acc (by omega) (by omega)
        refine ⟨r, (fixT_next (q := (name, w, acc, dirs, (dirs.length : Int), ((i + 1 : Nat) : Int))) ?_).trans h1, by rw [if_neg Bool.false_ne_true]; exact h2⟩
        simp only [tl_seen_scan_l0]
        rw [run_iteT (by simp; omega), run_req (inb hil)]
        simp only [getD_int hil]
        rw [run_bind hnode, run_bind hname, run_iteF rfl, run_bind hwh, run_bind hhas, run_iteF hb, run_same, run_ret, hw]
    | true =>
      dsimp only
      have hin2 : InW w ⟨dirs[i].branch, ino⟩ := hds
      have hnode2 := e_seen_node h hin2
      have hhas2 := e_seen_has h hin2 opq
      by_cases ck : (ndW w ⟨dirs[i].branch, ino⟩).kind = 2
      · rw [if_pos ck]
        cases hb2 : hasW w ⟨dirs[i].branch, ino⟩ opq with
        | true =>
          refine ⟨.inl (acc ++ [⟨dirs[i].branch, ino⟩], dirs[i].branch), fixT_out ?_, by rw [if_pos rfl]⟩
          simp only [tl_seen_scan_l0]
          rw [run_iteT (by simp; omega), run_req (inb hil)]
          simp only [getD_int hil]
          rw [run_bind hnode, run_bind hname, run_iteT rfl, run_bind hnode2, run_iteT (by simpa using ck), run_req ⟨trivial, hroom _⟩, run_iteF (by simpa using ck), run_bind hhas2, run_iteT hb2, run_same, run_ret]
        | false =>
          rw [if_neg Bool.false_ne_true]
          cases hb : hasW w dirs[i] (whiteS name) with
          | true =>
            refine ⟨.inl (acc ++ [⟨dirs[i].branch, ino⟩], dirs[i].branch), fixT_out ?_, by rw [if_pos rfl]⟩
            simp only [tl_seen_scan_l0]
            rw [run_iteT (by simp; omega), run_req (inb hil)]
            simp only [getD_int hil]
            rw [run_bind hnode, run_bind hname, run_iteT rfl, run_bind hnode2, run_iteT (by simpa using ck), run_req ⟨trivial, hroom _⟩, run_iteF (by simpa using ck), run_bind hhas2, run_iteF hb2, run_bind hwh, run_bind hhas, run_iteT hb, run_same, run_ret]
          | false =>
            obtain ⟨r, h1, h2⟩ := e_scan_loop h name hn dirs hd hl k (i + 1) (acc ++ [⟨dirs[i].branch, ino⟩]) (by omega) (by simp; omega)
            refine ⟨r, (fixT_next (q := (name, w, acc ++ [(⟨dirs[i].branch, ino⟩ : Spt)], dirs, (dirs.length : Int), ((i + 1 : Nat) : Int))) ?_).trans h1, by rw [if_neg Bool.false_ne_true]; exact h2⟩
            simp only [tl_seen_scan_l0]
            rw [run_iteT (by simp; omega), run_req (inb hil)]
            simp only [getD_int hil]
            rw [run_bind hnode, run_bind hname, run_iteT rfl, run_bind hnode2, run_iteT (by simpa using ck), run_req ⟨trivial, hroom _⟩, run_iteF (by simpa using ck), run_bind hhas2, run_iteF hb2, run_bind hwh, run_bind hhas, run_iteF hb, run_same, run_ret, hw]
      · rw [if_neg ck]
        by_cases ca : acc = []
        · refine ⟨.inl ([⟨dirs[i].branch, ino⟩], dirs[i].branch - 1), fixT_out ?_, by rw [if_pos ca]⟩
          subst ca
          simp only [tl_seen_scan_l0]
          rw [run_iteT (by simp; omega), run_req (inb hil)]
          simp only [getD_int hil]
          rw [run_bind hnode, run_bind hname, run_iteT rfl, run_bind hnode2, run_iteF (by simpa using ck), run_iteT (by rfl), run_req ⟨trivial, hroom _⟩, run_iteT (by simpa using ck), run_same, run_ret, hb1]
          rfl
        · refine ⟨.inl (acc, dirs[i].branch - 1), fixT_out ?_, by rw [if_neg ca]⟩
          simp only [tl_seen_scan_l0]
          rw [run_iteT (by simp; omega), run_req (inb hil)]
          simp only [getD_int hil]
          rw [run_bind hnode, run_bind hname, run_iteT rfl, run_bind hnode2, run_iteF (by simpa using ck), run_iteF (by simp; exact ca), run_iteT (by simpa using ck), run_same, run_ret, hb1]

theorem e_seen_scan {w : Wld} (h : GW w) (name : Str) (hn : name.length ≤ SM) (dirs : List Spt) (hd : ∀ s ∈ dirs, InW w s) (hl : dirs.length ≤ 8) : f_seen_scan w dirs name = some (lookW w name [] dirs) := by
  obtain ⟨r, h1, h2⟩ := e_scan_loop h name hn dirs hd hl dirs.length 0 [] (by omega) (by simp)
  have hw : IntKind.i64.wrap ((w.disks.length : Int) - 1) = (w.disks.length : Int) - 1 := by have := h.few; rw [wr (by omega) (by omega)]
  simp only [f_seen_scan, t_seen_scan]
  refine (run_bind h1).trans ?_
  rw [List.drop_zero] at h2
  cases r with
  | inl p => rw [run_caseL, run_same, run_ret, ← h2]
  | inr q => rw [run_caseR, run_same, run_ret, ← h2]

theorem e_seen_Seen {w : Wld} (h : GW w) (name : Str) (hn : name.length ≤ SM) (dirs : List Spt) (hd : ∀ s ∈ dirs, InW w s) (hl : dirs.length ≤ 8) : f_seen_Seen w dirs name = some (lookW w name [] dirs).1 := by
  simp only [f_seen_Seen, t_seen_Seen]
  rw [run_bind (e_seen_scan h name hn dirs hd hl), run_ret]
theorem e_seen_Limit {w : Wld} (h : GW w) (name : Str) (hn : name.length ≤ SM) (dirs : List Spt) (hd : ∀ s ∈ dirs, InW w s) (hl : dirs.length ≤ 8) : f_seen_Limit w dirs name = some (lookW w name [] dirs).2 := by
  simp only [f_seen_Limit, t_seen_Limit]
  rw [run_bind (e_seen_scan h name hn dirs hd hl), run_ret]

/-! ### By the document -/


end Go.Proofs.Ytjichafmpanegaa.VS
