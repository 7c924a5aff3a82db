/- Rows in order: what stands at a key, what is put there. Conditions: none. -/
import Derived.Test.YtkdcjfnmmmmocaaPTF
namespace Go.Proofs.Ytkdcjfnmmmmocaa.VS
set_option maxRecDepth 100000
set_option linter.unusedVariables false
set_option linter.unusedSimpArgs false

/-- What is ahead of a key, what has it. -/
structure Key {α : Type} (lt : α → α → Prop) (p eq : α → Bool) : Prop where
  p1 : ∀ a b, lt a b → p b = true → p a = true
  e1 : ∀ a b, lt a b → eq b = true → p a = true
  pe : ∀ a, p a = true → eq a = false

def restG {α : Type} (eq : α → Bool) : List α → List α
  | [] => []
  | b :: r => if eq b = true then r else b :: r
def headG {α : Type} (eq : α → Bool) : List α → Bool
  | [] => false
  | b :: _ => eq b

/-- A row with something at a key. -/
def putG {α : Type} (p eq : α → Bool) (x : α) (l : List α) : List α := l.takeWhile p ++ x :: restG eq (l.dropWhile p)

section
variable {α : Type} {lt : α → α → Prop} {p eq : α → Bool}

theorem mem_rest : ∀ {L : List α} {b : α}, b ∈ restG eq L → b ∈ L
  | [], b, h => h
  | a :: r, b, h => by
    by_cases ha : eq a = true
    · simp only [restG, ha, if_true] at h; exact List.mem_cons_of_mem _ h
    · simp only [restG, ha] at h; exact h

theorem take_p : ∀ {l : List α}, ∀ a ∈ l.takeWhile p, p a = true
  | [], a, h => by simp at h
  | b :: l, a, h => by
    rw [List.takeWhile_cons] at h
    split at h
    · rcases List.mem_cons.1 h with rfl | h
      · assumption
      · exact take_p a h
    · simp at h

theorem drop_p (K : Key lt p eq) : ∀ {l : List α}, l.Pairwise lt → ∀ b ∈ l.dropWhile p, p b = false
  | [], _, b, h => by simp at h
  | a :: l, hl, b, h => by
    rw [List.dropWhile_cons] at h
    rw [List.pairwise_cons] at hl
    split at h
    · exact drop_p K hl.2 b h
    · rename_i hp
      rcases List.mem_cons.1 h with rfl | h
      · simpa using hp
      · cases hb : p b with
        | false => rfl
        | true => exact absurd (K.p1 a b (hl.1 b h) hb) hp

theorem drop_e (K : Key lt p eq) {l : List α} (hl : l.Pairwise lt) : ∀ b r, l.dropWhile p = b :: r → ∀ x ∈ r, eq x = false := by
  intro b r h x hx
  have h1 : (b :: r).Pairwise lt := by rw [← h]; exact hl.sublist (List.dropWhile_sublist p)
  have h2 := drop_p K hl b (by rw [h]; simp)
  rw [List.pairwise_cons] at h1
  cases hq : eq x with
  | false => rfl
  | true => rw [K.e1 b x (h1.1 x hx) hq] at h2; cases h2

theorem filterG (K : Key lt p eq) {l : List α} (hl : l.Pairwise lt) : l.filter (fun x => !eq x) = l.takeWhile p ++ restG eq (l.dropWhile p) := by
  conv => lhs; rw [← List.takeWhile_append_dropWhile (p := p) (l := l)]
  rw [List.filter_append]
  congr 1
  · exact List.filter_eq_self.2 fun a ha => by rw [K.pe a (take_p a ha)]; rfl
  · have he := drop_e K hl
    cases hd : l.dropWhile p with
    | nil => rfl
    | cons b r =>
      have hr : r.filter (fun x => !eq x) = r := List.filter_eq_self.2 fun a ha => by rw [he b r hd a ha]; rfl
      rw [List.filter_cons, hr]
      by_cases hb : eq b = true <;> simp [restG, hb]

theorem rest_p (K : Key lt p eq) {l : List α} (hl : l.Pairwise lt) : ∀ b ∈ restG eq (l.dropWhile p), p b = false := by
  exact fun b hb => drop_p K hl b (mem_rest hb)

theorem cutG {A B : List α} (hA : ∀ a ∈ A, p a = true) (hB : ∀ b ∈ B, p b = false) : (A ++ B).takeWhile p = A ∧ (A ++ B).dropWhile p = B := by
  induction A with
  | nil =>
    cases B with
    | nil => exact ⟨rfl, rfl⟩
    | cons b B =>
      have := hB b (by simp)
      exact ⟨by rw [List.nil_append, List.takeWhile_cons, this]; simp, by rw [List.nil_append, List.dropWhile_cons, this]; simp⟩
  | cons a A ih =>
    have ha := hA a (by simp)
    obtain ⟨h1, h2⟩ := ih fun x hx => hA x (by simp [hx])
    exact ⟨by rw [List.cons_append, List.takeWhile_cons, ha, if_pos rfl, h1], by rw [List.cons_append, List.dropWhile_cons, ha, if_pos rfl, h2]⟩

theorem cut_at {l : List α} {k : Nat} (hk : k ≤ l.length) (h1 : ∀ h (hk : h < k) (hl : h < l.length), p l[h] = true) (h2 : ∀ h (hk : k ≤ h) (hl : h < l.length), p l[h] = false) : l.takeWhile p = l.take k ∧ l.dropWhile p = l.drop k := by
  have := cutG (p := p) (A := l.take k) (B := l.drop k) (fun a ha => by
    obtain ⟨i, hi, rfl⟩ := List.getElem_of_mem ha
    rw [List.getElem_take]
    rw [List.length_take] at hi
    exact h1 i (by omega) (by omega)) (fun b hb => by
    obtain ⟨i, hi, rfl⟩ := List.getElem_of_mem hb
    rw [List.getElem_drop]
    rw [List.length_drop] at hi
    exact h2 (k + i) (by omega) (by omega))
  rw [List.take_append_drop] at this
  exact this

theorem findG (K : Key lt p eq) {l : List α} (hl : l.Pairwise lt) : l.find? eq = (match l.dropWhile p with | [] => none | b :: _ => if eq b = true then some b else none) := by
  conv => lhs; rw [← List.takeWhile_append_dropWhile (p := p) (l := l)]
  rw [List.find?_append]
  have h1 : (l.takeWhile p).find? eq = none := List.find?_eq_none.2 fun a ha => by rw [K.pe a (take_p a ha)]; simp
  rw [h1, Option.none_or]
  have he := drop_e K hl
  cases hd : l.dropWhile p with
  | nil => rfl
  | cons b r =>
    rw [List.find?_cons]
    by_cases hb : eq b = true
    · simp [hb]
    · have : r.find? eq = none := List.find?_eq_none.2 fun a ha => by rw [he b r hd a ha]; simp
      simp [hb, this]

theorem mem_restG {l : List α} {b : α} (h : b ∈ restG eq (l.dropWhile p)) : b ∈ l := by
  have : b ∈ l.dropWhile p := mem_rest h
  exact (List.dropWhile_sublist p).mem this

theorem mem_putG {x : α} {l : List α} {b : α} (h : b ∈ putG p eq x l) : b = x ∨ b ∈ l := by
  unfold putG at h
  rcases List.mem_append.1 h with h | h
  · exact .inr ((List.takeWhile_sublist p).mem h)
  · rcases List.mem_cons.1 h with h | h
    · exact .inl h
    · exact .inr (mem_restG h)

theorem putG_len {x : α} {l : List α} : (putG p eq x l).length ≤ l.length + 1 := by
  have h0 : (l.takeWhile p).length + (l.dropWhile p).length = l.length := by rw [← List.length_append, List.takeWhile_append_dropWhile]
  have h1 : (restG eq (l.dropWhile p)).length ≤ (l.dropWhile p).length := by
    generalize l.dropWhile p = L
    cases L with
    | nil => exact Nat.le_refl _
    | cons a r => by_cases ha : eq a = true <;> simp [restG, ha]
  unfold putG
  rw [List.length_append, List.length_cons]
  omega

theorem putG_sorted (K : Key lt p eq) {x : α} (ht : ∀ a b c, lt a b → lt b c → lt a c) (hx1 : ∀ a, p a = true → lt a x) (hx2 : ∀ b, p b = false → eq b = false → lt x b) {l : List α} (hl : l.Pairwise lt) : (putG p eq x l).Pairwise lt := by
  have hA : (l.takeWhile p).Pairwise lt := hl.sublist (List.takeWhile_sublist p)
  have hf : (l.takeWhile p ++ restG eq (l.dropWhile p)).Pairwise lt := by rw [← filterG K hl]; exact hl.filter _
  rw [List.pairwise_append] at hf
  have hne : ∀ b ∈ restG eq (l.dropWhile p), eq b = false := fun b hb => by
    have : b ∈ l.filter (fun x => !eq x) := by rw [filterG K hl]; exact List.mem_append_right _ hb
    simpa using (List.mem_filter.1 this).2
  unfold putG
  rw [List.pairwise_append, List.pairwise_cons]
  refine ⟨hA, ⟨fun b hb => hx2 b (rest_p K hl b hb) (hne b hb), hf.2.1⟩, fun a ha b hb => ?_⟩
  rcases List.mem_cons.1 hb with rfl | hb
  · exact hx1 a (take_p a ha)
  · exact hf.2.2 a ha b hb

theorem putG_find (K : Key lt p eq) {x : α} (hx : eq x = true) (q : α → Bool) {l : List α} (hl : l.Pairwise lt) (hqx : q x = false) (hqe : ∀ a, q a = true → eq a = false) : (putG p eq x l).find? q = l.find? q := by
  have h1 : (l.filter (fun x => !eq x)).find? q = l.find? q := by
    rw [List.find?_filter]
    congr 1
    funext a
    cases hq : q a with
    | false => simp
    | true => simp [hqe a hq]
  rw [← h1, filterG K hl]
  unfold putG
  rw [List.find?_append, List.find?_append, List.find?_cons, hqx]

theorem putG_eq (K : Key lt p eq) {x : α} (hx : eq x = true) {l : List α} : (putG p eq x l).find? eq = some x := by
  unfold putG
  rw [List.find?_append, List.find?_eq_none.2 (fun a ha => by rw [K.pe a (take_p a ha)]; simp), Option.none_or, List.find?_cons, hx]
end

/-! ### The orders of rows and of homes -/

def ltS (a b : Rwo) : Prop := fAhead a.spot b.spot = true
def ltU (a b : Rwo) : Prop := a.u < b.u
def pS (s : Spt) (r : Rwo) : Bool := fAhead r.spot s
def eS (s : Spt) (r : Rwo) : Bool := r.spot.branch == s.branch && r.spot.ino == s.ino
def pU (u : Int) (r : Rwo) : Bool := decide (r.u < u)
def eU (u : Int) (r : Rwo) : Bool := r.u == u

theorem ahead_iff (a b : Spt) : fAhead a b = true ↔ a.branch < b.branch ∨ (a.branch = b.branch ∧ a.ino < b.ino) := by
  unfold fAhead; simp [Bool.or_eq_true, Bool.and_eq_true]
theorem eS_iff (s : Spt) (r : Rwo) : eS s r = true ↔ r.spot = s := by
  obtain ⟨⟨a, b⟩, u⟩ := r
  obtain ⟨c, d⟩ := s
  simp [eS, Spt.mk.injEq]

theorem keyS (s : Spt) : Key ltS (pS s) (eS s) := by
  refine ⟨fun a b h k => ?_, fun a b h k => ?_, fun a h => ?_⟩
  · unfold ltS at h; unfold pS at k ⊢; rw [ahead_iff] at *; omega
  · rw [eS_iff] at k; unfold ltS at h; unfold pS; rw [← k]; exact h
  · cases hq : eS s a with
    | false => rfl
    | true => rw [eS_iff] at hq; unfold pS at h; rw [ahead_iff, hq] at h; omega
theorem keyU (u : Int) : Key ltU (pU u) (eU u) := by
  refine ⟨fun a b h k => ?_, fun a b h k => ?_, fun a h => ?_⟩
  · unfold ltU at h; simp only [pU, decide_eq_true_eq] at k ⊢; omega
  · unfold ltU at h; simp only [eU, pU, beq_iff_eq, decide_eq_true_eq] at k ⊢; omega
  · simp only [pU, decide_eq_true_eq] at h; simp only [eU, beq_eq_false_iff_ne]; omega

theorem ltS_trans (a b c : Rwo) (h : ltS a b) (k : ltS b c) : ltS a c := by unfold ltS at *; rw [ahead_iff] at *; omega
theorem ltU_trans (a b c : Rwo) (h : ltU a b) (k : ltU b c) : ltU a c := by unfold ltU at *; omega

theorem adj_pairwise {lt : Rwo → Rwo → Bool} (ht : ∀ a b c, lt a b = true → lt b c = true → lt a c = true) : ∀ (l : List Rwo) (o : Option Rwo), adjGo lt o l = true ↔ (l.Pairwise (fun a b => lt a b = true) ∧ ∀ x, o = some x → ∀ y ∈ l, lt x y = true)
  | [], o => by cases o <;> simp [adjGo]
  | a :: l, none => by
    rw [adjGo, adj_pairwise ht l (some a), List.pairwise_cons]
    constructor
    · rintro ⟨h1, h2⟩; exact ⟨⟨h2 a rfl, h1⟩, fun x hx => by cases hx⟩
    · rintro ⟨⟨h1, h2⟩, _⟩; exact ⟨h2, fun x hx => by cases hx; exact h1⟩
  | a :: l, some z => by
    rw [adjGo, Bool.and_eq_true, adj_pairwise ht l (some a), List.pairwise_cons]
    constructor
    · rintro ⟨h0, h1, h2⟩
      refine ⟨⟨h2 a rfl, h1⟩, fun x hx y hy => ?_⟩
      cases hx
      rcases List.mem_cons.1 hy with rfl | hy
      · exact h0
      · exact ht _ _ _ h0 (h2 a rfl y hy)
    · rintro ⟨⟨h1, h2⟩, h3⟩
      exact ⟨h3 z rfl a (by simp), h2, fun x hx => by cases hx; exact h1⟩

theorem rows_sorted (l : List Rwo) : adjGo rowsLt none l = true ↔ l.Pairwise ltS := by
  rw [adj_pairwise (lt := rowsLt) (fun a b c h k => ltS_trans a b c h k)]
  exact ⟨fun h => h.1, fun h => ⟨h, fun x hx => (by cases hx)⟩⟩
theorem homes_sorted (l : List Rwo) : adjGo homesLt none l = true ↔ l.Pairwise ltU := by
  rw [adj_pairwise (lt := homesLt) (fun a b c h k => by simp only [homesLt, decide_eq_true_eq] at *; omega)]
  constructor
  · exact fun h => h.1.imp fun h => by simpa [homesLt, ltU] using h
  · exact fun h => ⟨h.imp fun h => by simpa [homesLt, ltU] using h, fun x hx => by cases hx⟩
end Go.Proofs.Ytkdcjfnmmmmocaa.VS
