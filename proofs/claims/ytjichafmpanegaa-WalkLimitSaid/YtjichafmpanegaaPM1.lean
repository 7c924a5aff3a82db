/- Chapters 3, 5: what stands under a number, a name: the program alone. Conditions: none. -/
import Derived.Test.YtjichafmpanegaaYBZ
namespace Go.Proofs.Ytjichafmpanegaa.VS
set_option maxRecDepth 100000
set_option linter.unusedVariables false
set_option linter.unusedSimpArgs false
/-- Not too large. -/
def SmF (f : Fil) : Prop := f.blocks.length ≤ SM ∧ ∀ b ∈ f.blocks, b.data.length ≤ SM
def SmN (n : Nod) : Prop := n.names.length ≤ SM ∧ SmF n.file
def SmD (d : Dsk) : Prop := d.nodes.length ≤ SM ∧ ∀ n ∈ d.nodes, SmN n

abbrev nodZ : Nod := Nod.mk (0 : Int) (0 : Int) (0 : Int) (0 : Int) (Fil.mk (0 : Int) []) [] []
theorem smN_z : SmN nodZ := ⟨by simp [nodZ, SM], by simp [nodZ, SM], by simp [nodZ]⟩

/-- What stands under a number. -/
def getN (l : List Nod) (ino : Int) : Nod × Bool :=
  match l.find? fun n => n.ino == ino with
  | some n => (n, true)
  | none => (nodZ, false)

theorem getN_sm {l : List Nod} (h : ∀ n ∈ l, SmN n) (ino : Int) : SmN (getN l ino).1 := by
  unfold getN
  split
  · rename_i n hn; exact h n (List.mem_of_find?_eq_some hn)
  · exact smN_z

def cmpI (a b : Int) : Int := if a < b then -1 else if b < a then 1 else 0
def cmpS (a b : Str) : Int := if bytesLt a b = true then -1 else if bytesLt b a = true then 1 else 0

theorem e_nan64 (a : Int) : f_cmp_isNaN_int64 a = some false := by simp [f_cmp_isNaN_int64, t_cmp_isNaN_int64, T.run]
theorem e_nanS (a : Str) : f_cmp_isNaN_string a = some false := by simp [f_cmp_isNaN_string, t_cmp_isNaN_string, T.run]
theorem e_cmp64 (a b : Int) : f_cmp_Compare_int64 a b = some (cmpI a b) := by
  simp only [f_cmp_Compare_int64, t_cmp_Compare_int64, T.run, e_nan64, Option.bind_some, cmpI, gt_iff_lt, decide_eq_true_eq, Bool.false_eq_true, if_false]
  split
  · rfl
  · split <;> rfl
theorem e_cmpS (a b : Str) : f_cmp_Compare_string a b = some (cmpS a b) := by
  simp only [f_cmp_Compare_string, t_cmp_Compare_string, T.run, e_nanS, Option.bind_some, cmpS, gt_iff_lt, decide_eq_true_eq, Bool.false_eq_true, if_false]
  split
  · rfl
  · by_cases h : bytesLt b a = true
    · rename_i hn
      have : (bytesLt a b || a == b) = false := bl_not.2 h
      simp_all
    · rename_i hn
      rcases bl_total a b with k | k | k
      · exact absurd k hn
      · subst k; simp_all [bl_irrefl]
      · exact absurd k h

theorem cmpI_neg (a b : Int) : decide (cmpI a b < 0) = decide (a < b) := by
  unfold cmpI
  by_cases h : a < b
  · simp [h]
  · by_cases k : b < a <;> simp [h, k]
theorem cmpI_zero (a b : Int) : (cmpI a b == 0) = (a == b) := by
  unfold cmpI
  by_cases h : a < b
  · have : a ≠ b := by omega
    simp [h, this]
  · by_cases k : b < a
    · have : a ≠ b := by omega
      simp [h, k, this]
    · have : a = b := by omega
      simp [this]
theorem cmpS_neg (a b : Str) : decide (cmpS a b < 0) = bytesLt a b := by
  unfold cmpS
  cases h : bytesLt a b with
  | true => simp
  | false => cases k : bytesLt b a <;> simp
theorem cmpS_zero (a b : Str) : (cmpS a b == 0) = (a == b) := by
  unfold cmpS
  cases h : bytesLt a b with
  | true =>
    have : a ≠ b := by rintro rfl; rw [bl_irrefl] at h; cases h
    simp [this]
  | false =>
    cases k : bytesLt b a with
    | true =>
      have : a ≠ b := by rintro rfl; rw [bl_irrefl] at k; cases k
      simp [this]
    | false =>
      rcases bl_total a b with q | q | q
      · rw [h] at q; cases q
      · simp [q]
      · rw [k] at q; cases q

/-! ### Copies -/

theorem e_disk_file {f : Fil} (h : SmF f) : f_disk_file f = some f := by
  obtain ⟨s, bs⟩ := f
  obtain ⟨h1, h2⟩ := h
  simp only at h1 h2
  have hc : f_slices_Clone_Block bs = some bs := e_clone h1 (by omega)
  have hl : L_disk_file_l0 (Fil.mk s bs, Fil.mk 0 [], (bs.length : Int), 0) = some (Fil.mk s bs, Fil.mk 0 []) := by
    refine loop_to (fun i => (Fil.mk s bs, Fil.mk 0 [], (bs.length : Int), (i : Int))) bs.length (fun i hi => ?_) ?_
    · have hw := wrS (i := i) (by unfold SM at h1; omega)
      have hd : f_slices_Clone_byte bs[i].data = some bs[i].data := e_clone (h2 _ (List.getElem_mem hi)) (by omega)
      have hset : bs.set i (Blk.mk bs[i].pos bs[i].data) = bs := by
        have : Blk.mk bs[i].pos bs[i].data = bs[i] := rfl
        rw [this, List.set_getElem_self]
      simp only [tl_disk_file_l0]
      rw [run_iteT (by simp; omega), run_req (inb hi), run_req (by simpa using hi)]
      simp only [getD_int hi]
      rw [run_bind hd, run_same, run_req (inb hi), run_req (by simpa using hi)]
      simp only [Int.toNat_natCast, hset]
      rw [run_req trivial, run_ret, hw]
    · simp only [tl_disk_file_l0]
      rw [run_iteF (by simp), run_same, run_ret]
  simp only [f_disk_file, t_disk_file]
  rw [run_bind hc, run_same, run_bind hl, run_same, run_ret]

theorem e_disk_node {n : Nod} (h : SmN n) : f_disk_node n = some n := by
  have hc : f_slices_Clone_Name n.names = some n.names := e_clone h.1 (by omega)
  simp only [f_disk_node, t_disk_node]
  rw [run_bind (e_disk_file h.2), run_bind hc, run_same, run_ret]

/-! ### Under a number -/

abbrev SortI (l : List Nod) : Prop := Sorted (fun a b : Nod => a.ino < b.ino) l


theorem e_disk_place {d : Dsk} (hl : d.nodes.length ≤ SM) (hs : SortI d.nodes) (ino : Int) : ∃ k : Nat, k ≤ d.nodes.length ∧ (∀ h (hk : h < k) (hl : h < d.nodes.length), d.nodes[h].ino < ino) ∧ (∀ h (hk : k ≤ h) (hl : h < d.nodes.length), ino ≤ d.nodes[h].ino) ∧
    f_disk_place d ino = some ((k : Int), decide (∃ h : k < d.nodes.length, d.nodes[k].ino = ino)) := by
  obtain ⟨k, k1, k2, k3, k4⟩ := bsearch (t := fun q : (List Nod) × (Int × (Unit × (Int × (Int × Int)))) => tl_slices_BinarySearchFunc_Node_int64__disk_place_1_l0 q.1 q.2.1 q.2.2.1 q.2.2.2.1 q.2.2.2.2.1 q.2.2.2.2.2) d.nodes.length hl
    (fun i j => (d.nodes, ino, (), (d.nodes.length : Int), (i : Int), (j : Int))) (fun i => (d.nodes, ino, (), (d.nodes.length : Int), (i : Int))) (fun h => if hl : h < d.nodes.length then decide (d.nodes[h].ino < ino) else false)
    (fun a b hab hb h => by
      rw [dif_pos hb] at h
      rw [dif_pos (by omega)]
      simp only [decide_eq_true_eq] at h ⊢
      by_cases e : a = b
      · subst e; exact h
      · have := hs a b (by omega) hb; omega)
    (fun i j hij hj => by
      have hh := halve i j (by unfold SM at hl; omega)
      have hm : (i + j) / 2 < d.nodes.length := by omega
      have hw := wrS (i := (i + j) / 2) (by unfold SM at hl; omega)
      have hcmp : f_disk_place_1 d.nodes[(i + j) / 2] ino = some (cmpI d.nodes[(i + j) / 2].ino ino) := by
        simp only [f_disk_place_1, t_disk_place_1]; rw [run_bind (e_cmp64 _ _), run_ret]
      simp only [tl_slices_BinarySearchFunc_Node_int64__disk_place_1_l0]
      rw [run_iteT (by simp; omega), run_req (by decide)]
      simp only [hh]
      rw [run_req (inb hm)]
      simp only [getD_int hm]
      rw [run_bind hcmp, dif_pos hm]
      cases hp : decide (d.nodes[(i + j) / 2].ino < ino) with
      | true => rw [run_iteT (by rw [cmpI_neg, hp]), run_ret, hw, cond_true]
      | false => rw [run_iteF (by rw [cmpI_neg, hp]), run_ret, cond_false])
    (fun i hi => by
      simp only [tl_slices_BinarySearchFunc_Node_int64__disk_place_1_l0]
      rw [run_iteF (by simp), run_ret])
  have k4 : L_slices_BinarySearchFunc_Node_int64__disk_place_1_l0 (d.nodes, ino, (), (d.nodes.length : Int), 0, (d.nodes.length : Int)) = some (d.nodes, ino, (), (d.nodes.length : Int), (k : Int)) := k4
  refine ⟨k, k1, fun h hk hl => by have := k2 h hk; rw [dif_pos hl] at this; simpa using this, fun h hk hl => by have := k3 h hk hl; rw [dif_pos hl] at this; simpa using this, ?_⟩
  have : f_slices_BinarySearchFunc_Node_int64__disk_place_1 d.nodes ino () = some ((k : Int), decide (∃ h : k < d.nodes.length, d.nodes[k].ino = ino)) := by
    simp only [f_slices_BinarySearchFunc_Node_int64__disk_place_1, t_slices_BinarySearchFunc_Node_int64__disk_place_1]
    rw [run_bind k4]
    by_cases hk : k < d.nodes.length
    · have hcmp : f_disk_place_1 d.nodes[k] ino = some (cmpI d.nodes[k].ino ino) := by
        simp only [f_disk_place_1, t_disk_place_1]; rw [run_bind (e_cmp64 _ _), run_ret]
      rw [run_iteT (by simp; omega), run_req (inb hk)]
      simp only [getD_int hk]
      rw [run_bind hcmp, run_ret, cmpI_zero]
      by_cases e : d.nodes[k].ino = ino
      · simp [e, hk]
      · simp [e, hk]
    · rw [run_iteF (by simp; omega), run_ret]
      have : ¬ ∃ h : k < d.nodes.length, d.nodes[k].ino = ino := fun ⟨h, _⟩ => hk h
      simp [this]
  simp only [f_disk_place, t_disk_place]
  rw [run_bind this, run_ret]

/-- What is found by halves is the first that is such. -/
theorem find_place {α : Type} {l : List α} {p : α → Bool} {k : Nat} (h1 : ∀ h (hk : h < k) (hl : h < l.length), p l[h] = false) (hk : k < l.length) (h2 : p l[k] = true) : l.find? p = some l[k] := by
  rw [List.find?_eq_some_iff_getElem]
  exact ⟨h2, k, hk, rfl, fun j hj => by simpa using h1 j hj (by omega)⟩

theorem e_disk_Get {d : Dsk} (hd : SmD d) (hs : SortI d.nodes) (ino : Int) : f_disk_Get d ino = some (getN d.nodes ino) := by
  obtain ⟨k, k1, k2, k3, k4⟩ := e_disk_place hd.1 hs ino
  simp only [f_disk_Get, t_disk_Get]
  rw [run_bind k4]
  by_cases h : ∃ h : k < d.nodes.length, d.nodes[k].ino = ino
  · obtain ⟨hk, he⟩ := h
    have hf : d.nodes.find? (fun n => n.ino == ino) = some d.nodes[k] := find_place (fun h hk hl => by have := k2 h hk hl; simp; omega) hk (by simpa using he)
    rw [run_iteF (by simp [hk, he]), run_req (inb hk)]
    simp only [getD_int hk]
    rw [run_bind (e_disk_node (hd.2 _ (List.getElem_mem hk))), run_ret]
    unfold getN; rw [hf]
  · have hf : d.nodes.find? (fun n => n.ino == ino) = none := by
      rw [List.find?_eq_none]
      intro n hn
      obtain ⟨i, hi, rfl⟩ := List.mem_iff_getElem.1 hn
      simp only [beq_iff_eq]
      intro e
      rcases Nat.lt_trichotomy i k with q | q | q
      · have := k2 i q hi; omega
      · subst q; exact h ⟨hi, e⟩
      · have h1 := hs k i q hi
        have h2 := k3 k (Nat.le_refl k) (by omega)
        simp only at h1; omega
    rw [run_iteT (by simpa using fun a b => h ⟨a, b⟩), run_ret]
    unfold getN; rw [hf]

/-! ### Under a name -/

abbrev SortN (l : List Nam) : Prop := Sorted (fun a b : Nam => bytesLt a.name b.name = true) l

def getS (l : List Nam) (s : Str) : Int × Bool :=
  match l.find? fun x => x.name == s with
  | some x => (x.ino, true)
  | none => (0, false)

theorem e_find_place {n : Nod} (hl : n.names.length ≤ SM) (hs : SortN n.names) (s : Str) : ∃ k : Nat, k ≤ n.names.length ∧ (∀ h (hk : h < k) (hl : h < n.names.length), bytesLt n.names[h].name s = true) ∧ (∀ h (hk : k ≤ h) (hl : h < n.names.length), bytesLt n.names[h].name s = false) ∧
    f_find_place n s = some ((k : Int), decide (∃ h : k < n.names.length, n.names[k].name = s)) := by
  obtain ⟨k, k1, k2, k3, k4⟩ := bsearch (t := fun q : (List Nam) × (Str × (Unit × (Int × (Int × Int)))) => tl_slices_BinarySearchFunc_Name_string__find_place_1_l0 q.1 q.2.1 q.2.2.1 q.2.2.2.1 q.2.2.2.2.1 q.2.2.2.2.2) n.names.length hl
    (fun i j => (n.names, s, (), (n.names.length : Int), (i : Int), (j : Int))) (fun i => (n.names, s, (), (n.names.length : Int), (i : Int))) (fun h => if hl : h < n.names.length then bytesLt n.names[h].name s else false)
    (fun a b hab hb h => by
      rw [dif_pos hb] at h
      rw [dif_pos (by omega)]
      by_cases e : a = b
      · subst e; exact h
      · exact bl_trans (hs a b (by omega) hb) h)
    (fun i j hij hj => by
      have hh := halve i j (by unfold SM at hl; omega)
      have hm : (i + j) / 2 < n.names.length := by omega
      have hw := wrS (i := (i + j) / 2) (by unfold SM at hl; omega)
      have hcmp : f_find_place_1 n.names[(i + j) / 2] s = some (cmpS n.names[(i + j) / 2].name s) := by
        simp only [f_find_place_1, t_find_place_1]; rw [run_bind (e_cmpS _ _), run_ret]
      simp only [tl_slices_BinarySearchFunc_Name_string__find_place_1_l0]
      rw [run_iteT (by simp; omega), run_req (by decide)]
      simp only [hh]
      rw [run_req (inb hm)]
      simp only [getD_int hm]
      rw [run_bind hcmp, dif_pos hm]
      cases hp : bytesLt n.names[(i + j) / 2].name s with
      | true => rw [run_iteT (by rw [cmpS_neg, hp]), run_ret, hw, cond_true]
      | false => rw [run_iteF (by rw [cmpS_neg, hp]), run_ret, cond_false])
    (fun i hi => by
      simp only [tl_slices_BinarySearchFunc_Name_string__find_place_1_l0]
      rw [run_iteF (by simp), run_ret])
  have k4 : L_slices_BinarySearchFunc_Name_string__find_place_1_l0 (n.names, s, (), (n.names.length : Int), 0, (n.names.length : Int)) = some (n.names, s, (), (n.names.length : Int), (k : Int)) := k4
  refine ⟨k, k1, fun h hk hl => by have := k2 h hk; rw [dif_pos hl] at this; exact this, fun h hk hl => by have := k3 h hk hl; rw [dif_pos hl] at this; exact this, ?_⟩
  have : f_slices_BinarySearchFunc_Name_string__find_place_1 n.names s () = some ((k : Int), decide (∃ h : k < n.names.length, n.names[k].name = s)) := by
    simp only [f_slices_BinarySearchFunc_Name_string__find_place_1, t_slices_BinarySearchFunc_Name_string__find_place_1]
    rw [run_bind k4]
    by_cases hk : k < n.names.length
    · have hcmp : f_find_place_1 n.names[k] s = some (cmpS n.names[k].name s) := by
        simp only [f_find_place_1, t_find_place_1]; rw [run_bind (e_cmpS _ _), run_ret]
      rw [run_iteT (by simp; omega), run_req (inb hk)]
      simp only [getD_int hk]
      rw [run_bind hcmp, run_ret, cmpS_zero]
      by_cases e : n.names[k].name = s
      · simp [e, hk]
      · simp [e, hk]
    · rw [run_iteF (by simp; omega), run_ret]
      have : ¬ ∃ h : k < n.names.length, n.names[k].name = s := fun ⟨h, _⟩ => hk h
      simp [this]
  simp only [f_find_place, t_find_place]
  rw [run_bind this, run_ret]

theorem e_find_Name {n : Nod} (hl : n.names.length ≤ SM) (hs : SortN n.names) (s : Str) : f_find_Name n s = some (getS n.names s) := by
  obtain ⟨k, k1, k2, k3, k4⟩ := e_find_place hl hs s
  simp only [f_find_Name, t_find_Name]
  rw [run_bind k4]
  by_cases h : ∃ h : k < n.names.length, n.names[k].name = s
  · obtain ⟨hk, he⟩ := h
    have hf : n.names.find? (fun x => x.name == s) = some n.names[k] := find_place (fun h hk hl => by
      have := k2 h hk hl
      simp only [beq_eq_false_iff_ne]
      intro e; rw [e, bl_irrefl] at this; cases this) hk (by simpa using he)
    rw [run_iteF (by simp [hk, he]), run_req (inb hk)]
    simp only [getD_int hk]
    rw [run_ret]
    unfold getS; rw [hf]
  · have hf : n.names.find? (fun x => x.name == s) = none := by
      rw [List.find?_eq_none]
      intro x hx
      obtain ⟨i, hi, rfl⟩ := List.mem_iff_getElem.1 hx
      simp only [beq_iff_eq]
      intro e
      rcases Nat.lt_trichotomy i k with q | q | q
      · have := k2 i q hi; rw [e, bl_irrefl] at this; cases this
      · subst q; exact h ⟨hi, e⟩
      · have h1 := hs k i q hi
        have h2 := k3 k (Nat.le_refl k) (by omega)
        simp only at h1
        rw [e, h2] at h1; cases h1
    rw [run_iteT (by simpa using fun a b => h ⟨a, b⟩), run_ret]
    unfold getS; rw [hf]

end Go.Proofs.Ytjichafmpanegaa.VS
