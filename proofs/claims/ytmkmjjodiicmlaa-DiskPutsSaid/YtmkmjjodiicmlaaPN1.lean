/- Chapter 3: what stands under a number, what is put there. Conditions: none. -/
import Derived.Test.YtmkmjjodiicmlaaYBZ
namespace Go.Proofs.Ytmkmjjodiicmlaa.VS
set_option maxRecDepth 100000
set_option linter.unusedVariables false
set_option linter.unusedSimpArgs false

/-- Not too large. -/
def SmF (f : Fil) : Prop := f.blocks.length ≤ SM ∧ ∀ b ∈ f.blocks, b.data.length ≤ SM
def SmN (n : Nod) : Prop := n.names.length ≤ SM ∧ SmF n.file
def SmD (d : Dsk) : Prop := d.nodes.length ≤ SM ∧ ∀ n ∈ d.nodes, SmN n

abbrev nodZ : Nod := Nod.mk (0 : Int) (0 : Int) (0 : Int) (0 : Int) (Fil.mk (0 : Int) []) [] []
theorem smN_z : SmN nodZ := ⟨by simp [nodZ, SM], by simp [nodZ, SM], by simp [nodZ]⟩

/-- What stands under a number. -/
def getN (l : List Nod) (ino : Int) : Nod × Bool :=
  match l.find? fun n => n.ino == ino with
  | some n => (n, true)
  | none => (nodZ, false)

theorem getN_sm {l : List Nod} (h : ∀ n ∈ l, SmN n) (ino : Int) : SmN (getN l ino).1 := by
  unfold getN
  split
  · rename_i n hn; exact h n (List.mem_of_find?_eq_some hn)
  · exact smN_z

def cmpI (a b : Int) : Int := if a < b then -1 else if b < a then 1 else 0

theorem e_nan64 (a : Int) : f_cmp_isNaN_int64 a = some false := by simp [f_cmp_isNaN_int64, t_cmp_isNaN_int64, T.run]
theorem e_cmp64 (a b : Int) : f_cmp_Compare_int64 a b = some (cmpI a b) := by
  simp only [f_cmp_Compare_int64, t_cmp_Compare_int64, T.run, e_nan64, Option.bind_some, cmpI, gt_iff_lt, decide_eq_true_eq, Bool.false_eq_true, if_false]
  split
  · rfl
  · split <;> rfl
theorem cmpI_neg (a b : Int) : decide (cmpI a b < 0) = decide (a < b) := by
  unfold cmpI
  by_cases h : a < b
  · simp [h]
  · by_cases k : b < a <;> simp [h, k]
theorem cmpI_zero (a b : Int) : (cmpI a b == 0) = (a == b) := by
  unfold cmpI
  by_cases h : a < b
  · have : a ≠ b := by omega
    simp [h, this]
  · by_cases k : b < a
    · have : a ≠ b := by omega
      simp [h, k, this]
    · have : a = b := by omega
      simp [this]
/-! ### Copies -/

theorem e_disk_file {f : Fil} (h : SmF f) : f_disk_file f = some f := by
  obtain ⟨s, bs⟩ := f
  obtain ⟨h1, h2⟩ := h
  simp only at h1 h2
  have hc : f_slices_Clone_Block bs = some bs := e_clone h1 (by omega)
  have hl : L_disk_file_l0 (Fil.mk s bs, Fil.mk 0 [], (bs.length : Int), 0) = some (Fil.mk s bs, Fil.mk 0 []) := by
    refine loop_to (fun i => (Fil.mk s bs, Fil.mk 0 [], (bs.length : Int), (i : Int))) bs.length (fun i hi => ?_) ?_
    · have hw := wrS (i := i) (by unfold SM at h1; omega)
      have hd : f_slices_Clone_byte bs[i].data = some bs[i].data := e_clone (h2 _ (List.getElem_mem hi)) (by omega)
      have hset : bs.set i (Blk.mk bs[i].pos bs[i].data) = bs := by
        have : Blk.mk bs[i].pos bs[i].data = bs[i] := rfl
        rw [this, List.set_getElem_self]
      simp only [tl_disk_file_l0]
      rw [run_iteT (by simp; omega), run_req (inb hi), run_req (by simpa using hi)]
      simp only [getD_int hi]
      rw [run_bind hd, run_same, run_req (inb hi), run_req (by simpa using hi)]
      simp only [Int.toNat_natCast, hset]
      rw [run_req trivial, run_ret, hw]
    · simp only [tl_disk_file_l0]
      rw [run_iteF (by simp), run_same, run_ret]
  simp only [f_disk_file, t_disk_file]
  rw [run_bind hc, run_same, run_bind hl, run_same, run_ret]

theorem e_disk_node {n : Nod} (h : SmN n) : f_disk_node n = some n := by
  have hc : f_slices_Clone_Name n.names = some n.names := e_clone h.1 (by omega)
  simp only [f_disk_node, t_disk_node]
  rw [run_bind (e_disk_file h.2), run_bind hc, run_same, run_ret]

/-! ### Under a number -/

abbrev SortI (l : List Nod) : Prop := Sorted (fun a b : Nod => a.ino < b.ino) l


theorem e_disk_place {d : Dsk} (hl : d.nodes.length ≤ SM) (hs : SortI d.nodes) (ino : Int) : ∃ k : Nat, k ≤ d.nodes.length ∧ (∀ h (hk : h < k) (hl : h < d.nodes.length), d.nodes[h].ino < ino) ∧ (∀ h (hk : k ≤ h) (hl : h < d.nodes.length), ino ≤ d.nodes[h].ino) ∧
    f_disk_place d ino = some ((k : Int), decide (∃ h : k < d.nodes.length, d.nodes[k].ino = ino)) := by
  obtain ⟨k, k1, k2, k3, k4⟩ := bsearch (t := fun q : (List Nod) × (Int × (Unit × (Int × (Int × Int)))) => tl_slices_BinarySearchFunc_Node_int64__disk_place_1_l0 q.1 q.2.1 q.2.2.1 q.2.2.2.1 q.2.2.2.2.1 q.2.2.2.2.2) d.nodes.length hl
    (fun i j => (d.nodes, ino, (), (d.nodes.length : Int), (i : Int), (j : Int))) (fun i => (d.nodes, ino, (), (d.nodes.length : Int), (i : Int))) (fun h => if hl : h < d.nodes.length then decide (d.nodes[h].ino < ino) else false)
    (fun a b hab hb h => by
      rw [dif_pos hb] at h
      rw [dif_pos (by omega)]
      simp only [decide_eq_true_eq] at h ⊢
      by_cases e : a = b
      · subst e; exact h
      · have := hs a b (by omega) hb; omega)
    (fun i j hij hj => by
      have hh := halve i j (by unfold SM at hl; omega)
      have hm : (i + j) / 2 < d.nodes.length := by omega
      have hw := wrS (i := (i + j) / 2) (by unfold SM at hl; omega)
      have hcmp : f_disk_place_1 d.nodes[(i + j) / 2] ino = some (cmpI d.nodes[(i + j) / 2].ino ino) := by
        simp only [f_disk_place_1, t_disk_place_1]; rw [run_bind (e_cmp64 _ _), run_ret]
      simp only [tl_slices_BinarySearchFunc_Node_int64__disk_place_1_l0]
      rw [run_iteT (by simp; omega), run_req (by decide)]
      simp only [hh]
      rw [run_req (inb hm)]
      simp only [getD_int hm]
      rw [run_bind hcmp, dif_pos hm]
      cases hp : decide (d.nodes[(i + j) / 2].ino < ino) with
      | true => rw [run_iteT (by rw [cmpI_neg, hp]), run_ret, hw, cond_true]
      | false => rw [run_iteF (by rw [cmpI_neg, hp]), run_ret, cond_false])
    (fun i hi => by
      simp only [tl_slices_BinarySearchFunc_Node_int64__disk_place_1_l0]
      rw [run_iteF (by simp), run_ret])
  have k4 : L_slices_BinarySearchFunc_Node_int64__disk_place_1_l0 (d.nodes, ino, (), (d.nodes.length : Int), 0, (d.nodes.length : Int)) = some (d.nodes, ino, (), (d.nodes.length : Int), (k : Int)) := k4
  refine ⟨k, k1, fun h hk hl => by have := k2 h hk; rw [dif_pos hl] at this; simpa using this, fun h hk hl => by have := k3 h hk hl; rw [dif_pos hl] at this; simpa using this, ?_⟩
  have : f_slices_BinarySearchFunc_Node_int64__disk_place_1 d.nodes ino () = some ((k : Int), decide (∃ h : k < d.nodes.length, d.nodes[k].ino = ino)) := by
    simp only [f_slices_BinarySearchFunc_Node_int64__disk_place_1, t_slices_BinarySearchFunc_Node_int64__disk_place_1]
    rw [run_bind k4]
    by_cases hk : k < d.nodes.length
    · have hcmp : f_disk_place_1 d.nodes[k] ino = some (cmpI d.nodes[k].ino ino) := by
        simp only [f_disk_place_1, t_disk_place_1]; rw [run_bind (e_cmp64 _ _), run_ret]
      rw [run_iteT (by simp; omega), run_req (inb hk)]
      simp only [getD_int hk]
      rw [run_bind hcmp, run_ret, cmpI_zero]
      by_cases e : d.nodes[k].ino = ino
      · simp [e, hk]
      · simp [e, hk]
    · rw [run_iteF (by simp; omega), run_ret]
      have : ¬ ∃ h : k < d.nodes.length, d.nodes[k].ino = ino := fun ⟨h, _⟩ => hk h
      simp [this]
  simp only [f_disk_place, t_disk_place]
  rw [run_bind this, run_ret]

/-- What is found by halves is the first that is such. -/
theorem find_place {α : Type} {l : List α} {p : α → Bool} {k : Nat} (h1 : ∀ h (hk : h < k) (hl : h < l.length), p l[h] = false) (hk : k < l.length) (h2 : p l[k] = true) : l.find? p = some l[k] := by
  rw [List.find?_eq_some_iff_getElem]
  exact ⟨h2, k, hk, rfl, fun j hj => by simpa using h1 j hj (by omega)⟩

theorem e_disk_Get {d : Dsk} (hd : SmD d) (hs : SortI d.nodes) (ino : Int) : f_disk_Get d ino = some (getN d.nodes ino) := by
  obtain ⟨k, k1, k2, k3, k4⟩ := e_disk_place hd.1 hs ino
  simp only [f_disk_Get, t_disk_Get]
  rw [run_bind k4]
  by_cases h : ∃ h : k < d.nodes.length, d.nodes[k].ino = ino
  · obtain ⟨hk, he⟩ := h
    have hf : d.nodes.find? (fun n => n.ino == ino) = some d.nodes[k] := find_place (fun h hk hl => by have := k2 h hk hl; simp; omega) hk (by simpa using he)
    rw [run_iteF (by simp [hk, he]), run_req (inb hk)]
    simp only [getD_int hk]
    rw [run_bind (e_disk_node (hd.2 _ (List.getElem_mem hk))), run_ret]
    unfold getN; rw [hf]
  · have hf : d.nodes.find? (fun n => n.ino == ino) = none := by
      rw [List.find?_eq_none]
      intro n hn
      obtain ⟨i, hi, rfl⟩ := List.mem_iff_getElem.1 hn
      simp only [beq_iff_eq]
      intro e
      rcases Nat.lt_trichotomy i k with q | q | q
      · have := k2 i q hi; omega
      · subst q; exact h ⟨hi, e⟩
      · have h1 := hs k i q hi
        have h2 := k3 k (Nat.le_refl k) (by omega)
        simp only at h1; omega
    rw [run_iteT (by simpa using fun a b => h ⟨a, b⟩), run_ret]
    unfold getN; rw [hf]

/-! ### Puts -/

def putN : List Nod → Nod → List Nod
  | [], n => [n]
  | b :: r, n => if b.ino < n.ino then b :: putN r n else if b.ino = n.ino then n :: r else n :: b :: r

theorem putN_set : ∀ {l : List Nod} {n : Nod} {i : Nat}, (∀ h (hi : h < i) (hl : h < l.length), l[h].ino < n.ino) → (hi : i < l.length) → l[i].ino = n.ino → putN l n = l.set i n
  | [], n, i, _, hi, _ => by simp at hi
  | b :: r, n, 0, _, hi, he => by
    have he : b.ino = n.ino := he
    rw [putN, if_neg (by omega), if_pos he]
    simp
  | b :: r, n, i + 1, h, hi, he => by
    have hb : b.ino < n.ino := h 0 (by omega) (by simp)
    rw [putN, if_pos hb, putN_set (i := i) (fun j hj hl => h (j + 1) (by omega) (by simpa using hl)) (by simpa using hi) he]
    simp

theorem putN_ins : ∀ {l : List Nod} {n : Nod} {i : Nat}, (∀ h (hi : h < i) (hl : h < l.length), l[h].ino < n.ino) → i ≤ l.length → (∀ hi : i < l.length, n.ino < l[i].ino) → putN l n = l.take i ++ [n] ++ l.drop i
  | [], n, i, _, hi, _ => by simp at hi; subst hi; rfl
  | b :: r, n, 0, _, hi, he => by
    have he : n.ino < b.ino := he (by simp)
    rw [putN, if_neg (by omega), if_neg (by omega)]
    rfl
  | b :: r, n, i + 1, h, hi, he => by
    have hb : b.ino < n.ino := h 0 (by omega) (by simp)
    rw [putN, if_pos hb, putN_ins (i := i) (fun j hj hl => h (j + 1) (by omega) (by simpa using hl)) (by simpa using hi) (fun hi => he (by simpa using hi))]
    simp

theorem putN_len : ∀ (l : List Nod) (n : Nod), (putN l n).length ≤ l.length + 1
  | [], n => by simp [putN]
  | b :: r, n => by
    rw [putN]
    split
    · have := putN_len r n; simp; omega
    · split <;> simp

theorem sortI_cons {b : Nod} {r : List Nod} (h : SortI (b :: r)) : SortI r ∧ ∀ c ∈ r, b.ino < c.ino := by
  refine ⟨fun i j hij hj => h (i + 1) (j + 1) (by omega) (by simpa using hj), fun c hc => ?_⟩
  obtain ⟨i, hi, rfl⟩ := List.mem_iff_getElem.1 hc
  exact h 0 (i + 1) (by omega) (by simpa using hi)

theorem sortI_mk {b : Nod} {r : List Nod} (h : SortI r) (hb : ∀ c ∈ r, b.ino < c.ino) : SortI (b :: r) := by
  intro i j hij hj
  cases i with
  | zero =>
    obtain ⟨j, rfl⟩ : ∃ k, j = k + 1 := ⟨j - 1, by omega⟩
    exact hb _ (List.getElem_mem (by simpa using hj))
  | succ i =>
    obtain ⟨j, rfl⟩ : ∃ k, j = k + 1 := ⟨j - 1, by omega⟩
    exact h i j (by omega) (by simpa using hj)

theorem sortI_nil : SortI [] := fun i j hij hj => by simp at hj

theorem putN_mem : ∀ {l : List Nod} {n c : Nod}, c ∈ putN l n → c = n ∨ c ∈ l
  | [], n, c, h => by simp [putN] at h; exact .inl h
  | b :: r, n, c, h => by
    rw [putN] at h
    split at h
    · rcases List.mem_cons.1 h with rfl | h
      · exact .inr List.mem_cons_self
      · rcases putN_mem h with h | h
        · exact .inl h
        · exact .inr (List.mem_cons_of_mem _ h)
    · split at h
      · rcases List.mem_cons.1 h with rfl | h
        · exact .inl rfl
        · exact .inr (List.mem_cons_of_mem _ h)
      · rcases List.mem_cons.1 h with rfl | h
        · exact .inl rfl
        · exact .inr h

theorem putN_sort : ∀ {l : List Nod} (h : SortI l) (n : Nod), SortI (putN l n)
  | [], _, n => by intro i j hij hj; simp [putN] at hj; omega
  | b :: r, h, n => by
    obtain ⟨h1, h2⟩ := sortI_cons h
    rw [putN]
    split
    · rename_i c
      refine sortI_mk (putN_sort h1 n) fun x hx => ?_
      rcases putN_mem hx with rfl | hx
      · exact c
      · exact h2 x hx
    · split
      · rename_i c
        exact sortI_mk h1 fun x hx => by have := h2 x hx; omega
      · refine sortI_mk h fun x hx => ?_
        rcases List.mem_cons.1 hx with rfl | hx
        · omega
        · have := h2 x hx; omega

theorem find_none {l : List Nod} {k : Int} (h : ∀ c ∈ l, k < c.ino) : l.find? (fun n => n.ino == k) = none := List.find?_eq_none.2 fun c hc => by have := h c hc; simp; omega

theorem find_consN (b : Nod) (r : List Nod) (k : Int) : (b :: r).find? (fun n => n.ino == k) = if b.ino = k then some b else r.find? (fun n => n.ino == k) := by
  rw [List.find?_cons]
  by_cases h : b.ino = k
  · simp [h]
  · have : (b.ino == k) = false := by simpa using h
    rw [this, if_neg h]

theorem putN_find : ∀ {l : List Nod} (h : SortI l) (n : Nod) (j : Int), (putN l n).find? (fun x => x.ino == j) = if j = n.ino then some n else l.find? (fun x => x.ino == j)
  | [], _, n, j => by
    rw [putN, find_consN]
    by_cases e : j = n.ino
    · rw [if_pos e.symm, if_pos e]
    · rw [if_neg fun h => e h.symm, if_neg e]
  | b :: r, h, n, j => by
    obtain ⟨h1, h2⟩ := sortI_cons h
    rw [putN]
    split
    · rename_i c
      rw [find_consN, putN_find h1, find_consN]
      by_cases e : b.ino = j
      · rw [if_pos e, if_neg (by omega), if_pos e]
      · rw [if_neg e, if_neg e]
    · split
      · rename_i c
        rw [find_consN, find_consN]
        by_cases e : j = n.ino
        · rw [if_pos e.symm, if_pos e]
        · rw [if_neg fun h => e h.symm, if_neg e, if_neg (by omega)]
      · rename_i c1 c2
        rw [find_consN]
        by_cases e : j = n.ino
        · rw [if_pos e.symm, if_pos e]
        · rw [if_neg fun h => e h.symm, if_neg e]

theorem putN_sm {l : List Nod} {n : Nod} (h : ∀ x ∈ l, SmN x) (hn : SmN n) : ∀ x ∈ putN l n, SmN x := fun x hx => by
  rcases putN_mem hx with rfl | hx
  · exact hn
  · exact h x hx

theorem e_disk_Put {d : Dsk} (hl : d.nodes.length + 1 ≤ SM) (hs : SortI d.nodes) {n : Nod} (hn : SmN n) : f_disk_Put d n = some ⟨d.blocks, d.inodes, d.next, putN d.nodes n⟩ := by
  obtain ⟨k, k1, k2, k3, k4⟩ := e_disk_place (d := d) (by omega) hs n.ino
  have hc : f_slices_Clone_Node d.nodes = some d.nodes := e_clone (by omega) (by omega)
  simp only [f_disk_Put, t_disk_Put]
  rw [run_bind k4, run_bind hc]
  by_cases h : ∃ h : k < d.nodes.length, d.nodes[k].ino = n.ino
  · obtain ⟨hk, he⟩ := h
    rw [run_iteT (by simp [hk, he]), run_bind (e_disk_node hn), run_req (inb hk), run_req (by simpa using hk)]
    simp only [Int.toNat_natCast]
    rw [run_req (by simp), run_ret, putN_set k2 hk he]
  · have hlt : ∀ hi : k < d.nodes.length, n.ino < d.nodes[k].ino := fun hi => by
      have := k3 k (Nat.le_refl _) hi
      have : ¬ d.nodes[k].ino = n.ino := fun e => h ⟨hi, e⟩
      omega
    rw [run_iteF (by simpa using fun a b => h ⟨a, b⟩), run_bind (e_disk_node hn), run_same, run_req ⟨by omega, by omega, rmM (by simp; omega) (by omega)⟩]
    simp only [Int.toNat_natCast]
    rw [run_req (by simp; omega), run_ret, putN_ins k2 k1 hlt]

/-! ### Drops -/

def dropN (l : List Nod) (k : Int) : List Nod := l.filter fun n => !(n.ino == k)

theorem e_disk_Drop {d : Dsk} (hl : d.nodes.length ≤ SM) (hs : SortI d.nodes) (ino : Int) : f_disk_Drop d ino = some ⟨d.blocks, d.inodes, d.next, dropN d.nodes ino⟩ := by
  obtain ⟨k, k1, k2, k3, k4⟩ := e_disk_place hl hs ino
  have hc : f_slices_Clone_Node d.nodes = some d.nodes := e_clone hl (by omega)
  simp only [f_disk_Drop, t_disk_Drop]
  rw [run_bind k4, run_bind hc]
  have hsplit : d.nodes = d.nodes.take k ++ d.nodes.drop k := (List.take_append_drop k d.nodes).symm
  have f1 : (d.nodes.take k).filter (fun n => !(n.ino == ino)) = d.nodes.take k := List.filter_eq_self.2 fun x hx => by
    obtain ⟨i, hi, rfl⟩ := List.mem_iff_getElem.1 hx
    rw [List.length_take] at hi
    rw [List.getElem_take]
    have := k2 i (by omega) (by omega)
    simp; omega
  by_cases h : ∃ h : k < d.nodes.length, d.nodes[k].ino = ino
  · obtain ⟨hk, he⟩ := h
    have hw := wrS (i := k) (by unfold SM at hl; omega)
    have f2 : (d.nodes.drop (k + 1)).filter (fun n => !(n.ino == ino)) = d.nodes.drop (k + 1) := List.filter_eq_self.2 fun x hx => by
      obtain ⟨i, hi, rfl⟩ := List.mem_iff_getElem.1 hx
      rw [List.length_drop] at hi
      rw [List.getElem_drop]
      have := hs k (k + 1 + i) (by omega) (by omega)
      simp only at this
      simp; omega
    have hd : dropN d.nodes ino = d.nodes.take k ++ d.nodes.drop (k + 1) := by
      unfold dropN
      rw [hsplit, List.filter_append, List.drop_eq_getElem_cons hk, List.filter_cons_of_neg (by simpa using he), ← List.drop_eq_getElem_cons hk, ← hsplit, f1, f2]
    rw [run_iteT (by simp [hk, he]), run_same]
    simp only [hw]
    rw [run_req ⟨by omega, by omega, by omega, by unfold SM at hl; omega⟩]
    simp only [Int.toNat_natCast]
    rw [run_req (by simp; omega), run_ret, hd]
  · have f2 : (d.nodes.drop k).filter (fun n => !(n.ino == ino)) = d.nodes.drop k := List.filter_eq_self.2 fun x hx => by
      obtain ⟨i, hi, rfl⟩ := List.mem_iff_getElem.1 hx
      rw [List.length_drop] at hi
      rw [List.getElem_drop]
      have h1 := k3 (k + i) (by omega) (by omega)
      have : ¬ d.nodes[k + i].ino = ino := fun e => by
        by_cases z : i = 0
        · subst z; exact h ⟨by omega, by simpa using e⟩
        · have h2 := k3 k (Nat.le_refl _) (by omega)
          have h3 := hs k (k + i) (by omega) (by omega)
          simp only at h3; omega
      simpa using this
    have hd : dropN d.nodes ino = d.nodes := by
      unfold dropN
      rw [hsplit, List.filter_append, f1, f2]
    rw [run_iteF (by simpa using fun a b => h ⟨a, b⟩), run_same, run_ret, hd]

theorem dropN_sort : ∀ {l : List Nod} (h : SortI l) (k : Int), SortI (dropN l k)
  | [], _, k => sortI_nil
  | b :: r, h, k => by
    obtain ⟨h1, h2⟩ := sortI_cons h
    unfold dropN
    rw [List.filter_cons]
    split
    · exact sortI_mk (dropN_sort h1 k) fun c hc => h2 c ((List.mem_filter.1 hc).1)
    · exact dropN_sort h1 k

theorem dropN_find : ∀ (l : List Nod) (k j : Int), (dropN l k).find? (fun x => x.ino == j) = if j = k then none else l.find? (fun x => x.ino == j)
  | [], k, j => by simp [dropN]
  | b :: r, k, j => by
    have ih := dropN_find r k j
    unfold dropN at ih ⊢
    rw [List.filter_cons, find_consN]
    by_cases e : b.ino = k
    · rw [if_neg (by simpa using e), ih]
      by_cases e2 : j = k
      · rw [if_pos e2, if_pos e2]
      · rw [if_neg e2, if_neg e2, if_neg (by omega)]
    · rw [if_pos (by simpa using e), find_consN, ih]
      by_cases e2 : j = k
      · rw [if_pos e2, if_neg (by omega), if_pos e2]
      · rw [if_neg e2, if_neg e2]

theorem dropN_len : ∀ {l : List Nod} (h : SortI l) {k : Int} {n : Nod}, l.find? (fun x => x.ino == k) = some n → (dropN l k).length + 1 = l.length
  | [], _, k, n, hf => by simp at hf
  | b :: r, h, k, n, hf => by
    obtain ⟨h1, h2⟩ := sortI_cons h
    rw [find_consN] at hf
    unfold dropN
    rw [List.filter_cons]
    by_cases e : b.ino = k
    · rw [if_neg (by simpa using e), List.filter_eq_self.2 fun x hx => by have := h2 x hx; simp; omega]
      simp
    · rw [if_neg e] at hf
      rw [if_pos (by simpa using e), List.length_cons]
      have := dropN_len h1 hf
      unfold dropN at this
      rw [this]; simp

end Go.Proofs.Ytmkmjjodiicmlaa.VS
