/- A library of an abstract machine, joined from 1 texts. Conditions: none. -/
import Derived.Test.YtjihnbjdclobgaaVM10
set_option linter.unusedVariables false
set_option linter.unusedSimpArgs false
/- Loops and rows in plain words. Conditions: none. -/
namespace Go.Proofs.Ytjihnbjdclobgaa.VS
set_option linter.unusedVariables false
set_option linter.unusedSimpArgs false

/-! ### One step -/

theorem run_req {ρ : Type} {c : Prop} {a : T ρ} (h : c) : (T.req c a).run = a.run := by simp [T.run, h]
theorem run_iteT {ρ : Type} {c : Bool} {a b : T ρ} (h : c = true) : (T.ite c a b).run = a.run := by simp [T.run, h]
theorem run_iteF {ρ : Type} {c : Bool} {a b : T ρ} (h : c = false) : (T.ite c a b).run = b.run := by simp [T.run, h]
theorem run_iteB {ρ : Type} {c : Bool} {a b : T ρ} : (T.ite c a b).run = if c = true then a.run else b.run := by simp [T.run]
theorem run_same {ρ α : Type} {x : α} {a : T ρ} : (T.same x a).run = a.run := rfl
theorem run_ret {ρ : Type} {x : ρ} : (T.ret x).run = some x := rfl
theorem run_bind {ρ α : Type} {o : Option α} {f : α → T ρ} {x : α} (h : o = some x) : (T.bind o f).run = (f x).run := by subst h; rfl
theorem run_caseL {ρ α β : Type} {x : α} {f : α → T ρ} {g : β → T ρ} : (T.case (.inl x) f g).run = (f x).run := rfl
theorem run_caseR {ρ α β : Type} {x : β} {f : α → T ρ} {g : β → T ρ} : (T.case (.inr x) f g).run = (g x).run := rfl

theorem getD_at {α : Type} {l : List α} {i : Nat} {z : α} (h : i < l.length) : l.getD i z = l[i] := by simp [h]
theorem getD_int {α : Type} {l : List α} {i : Nat} {z : α} (h : i < l.length) : l.getD ((i : Int).toNat) z = l[i] := by simp [h]

theorem wr {n : Int} (h1 : -9223372036854775808 ≤ n) (h2 : n ≤ 9223372036854775807) : IntKind.i64.wrap n = n := wrap64 h1 h2
theorem wrS {i : Nat} (h : i ≤ 4611686018427387904) : IntKind.i64.wrap ((i : Int) + 1) = ((i + 1 : Nat) : Int) := by rw [wr (by omega) (by omega)]; rfl
theorem wrP {i : Nat} (h0 : 0 < i) (h : i ≤ 4611686018427387904) : IntKind.i64.wrap ((i : Int) - 1) = ((i - 1 : Nat) : Int) := by rw [wr (by omega) (by omega)]; omega

theorem inb {i n : Nat} (h : i < n) : (0 : Int) ≤ (i : Int) ∧ (i : Int) < (n : Int) := by omega

/-- Far from what the machine bears. -/
def SM : Nat := 4194304
theorem rmM {n b : Nat} (h : n ≤ SM) (hb : b ≤ 4096) : roomP n b := by
  unfold roomP
  have : n * (b + 1) ≤ 4194304 * 4097 := Nat.mul_le_mul h (by omega)
  omega

/-! ### Loops -/

/-- A loop that goes on so many rounds, then out. -/
theorem loop_to {π ρ : Type} {t : π → T (π ⊕ ρ)} (st : Nat → π) (n : Nat) {out : ρ} (hs : ∀ i, i < n → (t (st i)).run = some (.inl (st (i + 1)))) (he : (t (st n)).run = some (.inr out)) : fixT t (st 0) = some out := by
  have : ∀ k i, i + k = n → fixT t (st i) = some out := by
    intro k
    induction k with
    | zero => intro i h; obtain rfl : i = n := by omega
              exact fixT_out he
    | succ k ih => intro i h; exact (fixT_next (hs i (by omega))).trans (ih (i + 1) (by omega))
  exact this n 0 (by omega)

/-- A loop that ends, whatever it answers: an invariant. -/
theorem loop_inv {π ρ : Type} {t : π → T (π ⊕ ρ)} (I : Nat → π → Prop) (R : ρ → Prop) (n : Nat) (hs : ∀ i p, i < n → I i p → (∃ q, (t p).run = some (.inl q) ∧ I (i + 1) q) ∨ (∃ r, (t p).run = some (.inr r) ∧ R r)) (he : ∀ p, I n p → ∃ r, (t p).run = some (.inr r) ∧ R r) {p : π} (h0 : I 0 p) :
    ∃ r, fixT t p = some r ∧ R r := by
  have : ∀ k i p, i + k = n → I i p → ∃ r, fixT t p = some r ∧ R r := by
    intro k
    induction k with
    | zero =>
      intro i p h hI
      obtain rfl : i = n := by omega
      obtain ⟨r, h1, h2⟩ := he p hI
      exact ⟨r, fixT_out h1, h2⟩
    | succ k ih =>
      intro i p h hI
      rcases hs i p (by omega) hI with ⟨q, h1, h2⟩ | ⟨r, h1, h2⟩
      · obtain ⟨r, h3, h4⟩ := ih (i + 1) q (by omega) h2
        exact ⟨r, (fixT_next h1).trans h3, h4⟩
      · exact ⟨r, fixT_out h1, h2⟩
  exact this n 0 p (by omega) h0

/-- A loop that asks something of each place. -/
theorem loop_all {π ρ : Type} {t : π → T (π ⊕ ρ)} (n : Nat) (ok : Nat → Prop) (st : Nat → π) (no yes : ρ)
    (hs : ∀ i, i < n → (∀ j, j < i → ok j) → (ok i ∧ (t (st i)).run = some (.inl (st (i + 1)))) ∨ (¬ ok i ∧ (t (st i)).run = some (.inr no))) (he : (∀ j, j < n → ok j) → (t (st n)).run = some (.inr yes)) :
    ((∀ i, i < n → ok i) ∧ fixT t (st 0) = some yes) ∨ ((¬ ∀ i, i < n → ok i) ∧ fixT t (st 0) = some no) := by
  have : ∀ k i, i + k = n → (∀ j, j < i → ok j) → ((∀ i, i < n → ok i) ∧ fixT t (st i) = some yes) ∨ ((¬ ∀ i, i < n → ok i) ∧ fixT t (st i) = some no) := by
    intro k
    induction k with
    | zero =>
      intro i h hb
      obtain rfl : i = n := by omega
      exact .inl ⟨hb, fixT_out (he hb)⟩
    | succ k ih =>
      intro i h hb
      rcases hs i (by omega) hb with ⟨h1, h2⟩ | ⟨h1, h2⟩
      · have := ih (i + 1) (by omega) fun j hj => by
          by_cases e : j = i
          · subst e; exact h1
          · exact hb j (by omega)
        rw [fixT_next h2]; exact this
      · exact .inr ⟨fun h => h1 (h i (by omega)), fixT_out h2⟩
  exact this n 0 (by omega) fun j hj => by omega

/-- A loop over the elements, out at the first that is such. -/
theorem loop_find {α π ρ : Type} {t : π → T (π ⊕ ρ)} (l : List α) (p : α → Bool) (st : Nat → π) (yes : Nat → α → ρ) (no : ρ)
    (hs : ∀ i (h : i < l.length), p l[i] = false → (∀ j (hj : j < i), p l[j] = false) → (t (st i)).run = some (.inl (st (i + 1)))) (hy : ∀ i (h : i < l.length), p l[i] = true → (∀ j (hj : j < i), p l[j] = false) → (t (st i)).run = some (.inr (yes i l[i])))
    (he : (∀ j (hj : j < l.length), p l[j] = false) → (t (st l.length)).run = some (.inr no)) :
    fixT t (st 0) = some (match l.findIdx? p, l.find? p with | some i, some x => yes i x | _, _ => no) := by
  have : ∀ k i, i + k = l.length → (∀ j (hj : j < i) (h : j < l.length), p l[j] = false) → fixT t (st i) = some (match (l.drop i).findIdx? p, (l.drop i).find? p with | some j, some x => yes (i + j) x | _, _ => no) := by
    intro k
    induction k with
    | zero =>
      intro i h hb
      obtain rfl : i = l.length := by omega
      rw [List.drop_length]
      exact fixT_out (he fun j hj => hb j hj hj)
    | succ k ih =>
      intro i h hb
      have hi : i < l.length := by omega
      rw [List.drop_eq_getElem_cons hi]
      cases hp : p l[i] with
      | true =>
        simp only [List.findIdx?_cons, List.find?_cons, hp, if_true]
        exact fixT_out (hy i hi hp fun j hj => hb j hj (by omega))
      | false =>
        refine (fixT_next (hs i hi hp fun j hj => hb j hj (by omega))).trans ((ih (i + 1) (by omega) ?_).trans ?_)
        · intro j hj hjl
          by_cases e : j = i
          · subst e; exact hp
          · exact hb j (by omega) hjl
        · simp only [List.findIdx?_cons, List.find?_cons, hp, Bool.false_eq_true, if_false]
          cases h1 : (l.drop (i + 1)).findIdx? p <;> cases h2 : (l.drop (i + 1)).find? p <;> simp [h1, h2]
          congr 1; omega
  have h := this l.length 0 (by omega) (fun j hj => by omega)
  simpa using h

/-- A loop that gathers. -/
theorem loop_fold {α β π ρ : Type} {t : π → T (π ⊕ ρ)} (l : List α) (st : β → Nat → π) (f : β → α → β) (z : β) {out : β → ρ}
    (hs : ∀ i (h : i < l.length), (t (st ((l.take i).foldl f z) i)).run = some (.inl (st (f ((l.take i).foldl f z) l[i]) (i + 1)))) (he : (t (st (l.foldl f z) l.length)).run = some (.inr (out (l.foldl f z)))) : fixT t (st z 0) = some (out (l.foldl f z)) := by
  refine loop_to (fun i => st ((l.take i).foldl f z) i) l.length (fun i hi => ?_) (by simpa using he)
  have : (l.take (i + 1)).foldl f z = f ((l.take i).foldl f z) l[i] := by
    rw [List.take_add_one, List.getElem?_eq_getElem hi, List.foldl_append]; simp
  simp only [this]
  exact hs i hi

/-- Halving. -/
theorem halve (a b : Nat) (h : a + b ≤ 4611686018427387904) : IntKind.i64.wrap ((IntKind.u64.wrap (IntKind.i64.wrap ((a : Int) + (b : Int)))).fdiv ((2 : Int) ^ min (Int.toNat (1 : Int)) IntKind.u64.bits)) = (((a + b) / 2 : Nat) : Int) := by
  have h0 : IntKind.i64.wrap ((a : Int) + (b : Int)) = (a : Int) + b := wr (by omega) (by omega)
  have h1 : IntKind.u64.wrap ((a : Int) + (b : Int)) = (a : Int) + b := by
    have hb : (2 : Int) ^ IntKind.u64.bits = 18446744073709551616 := by decide
    have hs : IntKind.u64.signed = false := rfl
    unfold IntKind.wrap
    simp only [hb, hs, Bool.false_and, Bool.false_eq_true, if_false]
    omega
  have h2 : min (Int.toNat (1 : Int)) IntKind.u64.bits = 1 := by decide
  rw [h0, h1, h2, Int.fdiv_eq_ediv_of_nonneg _ (by decide), wr (by omega) (by omega)]
  omega

/-- A search by halves: the first place from which on it is not before. -/
theorem bsearch {π ρ : Type} {t : π → T (π ⊕ ρ)} (n : Nat) (hn : n ≤ SM) (st : Nat → Nat → π) (out : Nat → ρ) (p : Nat → Bool) (hmono : ∀ a b, a ≤ b → b < n → p b = true → p a = true)
    (hs : ∀ i j, i < j → j ≤ n → (t (st i j)).run = some (.inl (bif p ((i + j) / 2) then st ((i + j) / 2 + 1) j else st i ((i + j) / 2)))) (he : ∀ i, i ≤ n → (t (st i i)).run = some (.inr (out i))) :
    ∃ k, k ≤ n ∧ (∀ h, h < k → p h = true) ∧ (∀ h, k ≤ h → h < n → p h = false) ∧ fixT t (st 0 n) = some (out k) := by
  have : ∀ m i j, j - i ≤ m → i ≤ j → j ≤ n → (∀ h, h < i → p h = true) → (∀ h, j ≤ h → h < n → p h = false) → ∃ k, k ≤ n ∧ (∀ h, h < k → p h = true) ∧ (∀ h, k ≤ h → h < n → p h = false) ∧ fixT t (st i j) = some (out k) := by
    intro m
    induction m with
    | zero =>
      intro i j h1 h2 h3 h4 h5
      obtain rfl : i = j := by omega
      exact ⟨i, h3, h4, h5, fixT_out (he i h3)⟩
    | succ m ih =>
      intro i j h1 h2 h3 h4 h5
      by_cases hij : i = j
      · subst hij; exact ⟨i, h3, h4, h5, fixT_out (he i h3)⟩
      · have hlt : i < j := by omega
        have h := hs i j hlt h3
        cases hp : p ((i + j) / 2) with
        | true =>
          rw [hp, cond_true] at h
          obtain ⟨k, k1, k2, k3, k4⟩ := ih ((i + j) / 2 + 1) j (by omega) (by omega) h3 (fun q hq => hmono q ((i + j) / 2) (by omega) (by omega) hp) h5
          exact ⟨k, k1, k2, k3, (fixT_next h).trans k4⟩
        | false =>
          rw [hp, cond_false] at h
          obtain ⟨k, k1, k2, k3, k4⟩ := ih i ((i + j) / 2) (by omega) (by omega) (by omega) h4 (fun q hq hqn => by
            cases hq2 : p q with
            | false => rfl
            | true => rw [hmono _ _ hq hqn hq2] at hp; cases hp)
          exact ⟨k, k1, k2, k3, (fixT_next h).trans k4⟩
  exact this n 0 n (by omega) (by omega) (Nat.le_refl _) (fun h hh => by omega) (fun h h1 h2 => by omega)

/-! ### Functions that call themselves -/

def Le {α : Type} (o o' : Option α) : Prop := ∀ x, o = some x → o' = some x
theorem Le.refl {α : Type} (o : Option α) : Le o o := fun _ h => h
theorem Le.trans {α : Type} {a b c : Option α} (h : Le a b) (k : Le b c) : Le a c := fun x hx => k x (h x hx)
section
variable {ρ : Type}
theorem le_bind {α : Type} {o o' : Option α} {f f' : α → T ρ} (h : Le o o') (k : ∀ x, Le (f x).run (f' x).run) : Le (T.bind o f).run (T.bind o' f').run := fun r hr => by
  cases o with
  | none => cases hr
  | some x => rw [run_bind (h x rfl)]; exact k x r hr
theorem le_ite {c : Bool} {a a' b b' : T ρ} (h : Le a.run a'.run) (k : Le b.run b'.run) : Le (T.ite c a b).run (T.ite c a' b').run := by
  cases c with
  | true => rw [run_iteT rfl, run_iteT rfl]; exact h
  | false => rw [run_iteF rfl, run_iteF rfl]; exact k
theorem le_iteP {c : Prop} {a a' b b' : T ρ} (h : Le a.run a'.run) (k : Le b.run b'.run) : Le (T.iteP c a b).run (T.iteP c a' b').run := by
  intro x hx
  simp only [T.run] at hx ⊢
  split at hx
  · rename_i hc; rw [if_pos hc]; exact h x hx
  · rename_i hc; rw [if_neg hc]; exact k x hx
theorem le_req {c : Prop} {a a' : T ρ} (h : Le a.run a'.run) : Le (T.req c a).run (T.req c a').run := by
  intro x hx
  simp only [T.run] at hx ⊢
  split at hx
  · rename_i hc; rw [if_pos hc]; exact h x hx
  · cases hx
theorem le_same {α : Type} {y : α} {a a' : T ρ} (h : Le a.run a'.run) : Le (T.same y a).run (T.same y a').run := h
theorem le_case {α β : Type} {r : α ⊕ β} {f f' : α → T ρ} {g g' : β → T ρ} (h : ∀ x, Le (f x).run (f' x).run) (k : ∀ x, Le (g x).run (g' x).run) : Le (T.case r f g).run (T.case r f' g').run := by
  cases r with
  | inl x => exact h x
  | inr x => exact k x
theorem le_fix {π : Type} {t t' : π → T (π ⊕ ρ)} (h : ∀ p, Le (t p).run (t' p).run) (p : π) : Le (fixT t p) (fixT t' p) := by
  have key : ∀ n p r, iterT t n p = some r → fixT t' p = some r := by
    intro n
    induction n with
    | zero => intro p r h; cases h
    | succ n ih =>
      intro p r hr
      rw [iterT] at hr
      split at hr
      · cases hr
      · rename_i q hq; exact (fixT_next (h p _ hq)).trans (ih _ _ hr)
      · rename_i q hq; cases hr; exact fixT_out (h p _ hq)
  intro r hr
  unfold fixT at hr
  split at hr
  · rename_i hx
    cases hr
    obtain ⟨n, hn⟩ := hx.choose_spec
    exact key n p _ hn
  · cases hr
end

def MonoR {α ρ : Type} (Φ : (α → Option ρ) → α → Option ρ) : Prop := ∀ s s' : α → Option ρ, (∀ x, Le (s x) (s' x)) → ∀ x, Le (Φ s x) (Φ s' x)

theorem recN_mono {α ρ : Type} {Φ : (α → Option ρ) → α → Option ρ} (hm : MonoR Φ) : ∀ n m, n ≤ m → ∀ x, Le (recN Φ n x) (recN Φ m x) := by
  intro n
  induction n with
  | zero => intro m _ x r h; cases h
  | succ n ih =>
    intro m h x
    obtain ⟨m, rfl⟩ : ∃ k, m = k + 1 := ⟨m - 1, by omega⟩
    exact hm _ _ (ih m (by omega)) x

theorem recT_some {α ρ : Type} {Φ : (α → Option ρ) → α → Option ρ} (hm : MonoR Φ) {n : Nat} {x : α} {r : ρ} (h : recN Φ n x = some r) : recT Φ x = some r := by
  refine recT_of (n := n) (fun m hn => recN_mono hm n m hn x r h) fun m s hs hlt => ?_
  have := recN_mono hm m n (Nat.le_of_lt hlt) x s hs
  rw [h] at this
  exact (Option.some.inj this).symm

/-! ### Rows of elements that differ -/

theorem len_of_nodup {α : Type} [DecidableEq α] : ∀ {l m : List α}, l.Nodup → (∀ x ∈ l, x ∈ m) → l.length ≤ m.length
  | [], m, _, _ => Nat.zero_le _
  | a :: l, m, hn, hs => by
    have ha : a ∈ m := hs a List.mem_cons_self
    have hn' := List.nodup_cons.1 hn
    have h1 : ∀ x ∈ l, x ∈ m.erase a := fun x hx => (List.mem_erase_of_ne (fun e => by subst e; exact hn'.1 hx)).2 (hs x (List.mem_cons_of_mem _ hx))
    have h2 := len_of_nodup hn'.2 h1
    have h3 := List.length_erase_of_mem ha
    have : 0 < m.length := List.length_pos_of_mem ha
    simp only [List.length_cons]
    omega

/-! ### Texts in order -/

theorem bl_irrefl : ∀ a : List UInt8, bytesLt a a = false
  | [] => rfl
  | a :: x => by simp [bytesLt, bl_irrefl x]
theorem bl_trans : ∀ {a b c : List UInt8}, bytesLt a b = true → bytesLt b c = true → bytesLt a c = true
  | a, [], _, h, _ => by cases a <;> simp [bytesLt] at h
  | _, _ :: _, [], _, h => by simp [bytesLt] at h
  | [], _ :: _, _ :: _, _, _ => by simp [bytesLt]
  | a :: x, b :: y, c :: z, h, k => by
    simp only [bytesLt, Bool.or_eq_true, decide_eq_true_eq, Bool.and_eq_true, beq_iff_eq] at h k ⊢
    rcases h with h | ⟨h1, h2⟩
    · rcases k with k | ⟨k1, k2⟩
      · exact .inl (UInt8.lt_trans h k)
      · subst k1; exact .inl h
    · subst h1
      rcases k with k | ⟨k1, k2⟩
      · exact .inl k
      · exact .inr ⟨k1, bl_trans h2 k2⟩
theorem bl_total : ∀ a b : List UInt8, bytesLt a b = true ∨ a = b ∨ bytesLt b a = true
  | [], [] => .inr (.inl rfl)
  | [], _ :: _ => .inl (by simp [bytesLt])
  | _ :: _, [] => .inr (.inr (by simp [bytesLt]))
  | a :: x, b :: y => by
    simp only [bytesLt, Bool.or_eq_true, decide_eq_true_eq, Bool.and_eq_true, beq_iff_eq]
    rcases Nat.lt_trichotomy a.toNat b.toNat with h | h | h
    · exact .inl (.inl (UInt8.lt_iff_toNat_lt.2 h))
    · have e : a = b := UInt8.toNat_inj.1 h
      subst e
      rcases bl_total x y with k | k | k
      · exact .inl (.inr ⟨rfl, k⟩)
      · subst k; exact .inr (.inl rfl)
      · exact .inr (.inr (.inr ⟨rfl, k⟩))
    · exact .inr (.inr (.inl (UInt8.lt_iff_toNat_lt.2 h)))
theorem bl_asymm {a b : List UInt8} (h : bytesLt a b = true) : bytesLt b a = false := by
  cases k : bytesLt b a with
  | false => rfl
  | true => have := bl_trans h k; rw [bl_irrefl] at this; cases this
theorem bl_not {a b : List UInt8} : (bytesLt a b || a == b) = false ↔ bytesLt b a = true := by
  constructor
  · intro h
    simp only [Bool.or_eq_false_iff, beq_eq_false_iff_ne] at h
    rcases bl_total a b with k | k | k
    · rw [h.1] at k; cases k
    · exact absurd k h.2
    · exact k
  · intro h
    simp only [Bool.or_eq_false_iff, beq_eq_false_iff_ne]
    refine ⟨bl_asymm h, ?_⟩
    rintro rfl
    rw [bl_irrefl] at h; cases h

theorem e_clone {α : Type} {b : Nat} {l : List α} (h : l.length ≤ SM) (hb : b ≤ 4096) : fClone b l = some l := by
  unfold fClone
  rw [if_pos (rmM h hb)]

/-! ### Rows in order -/

/-- Each is before those behind it. -/
def Sorted {α : Type} (lt : α → α → Prop) (l : List α) : Prop := ∀ i j (h : i < j) (hj : j < l.length), lt (l[i]'(by omega)) l[j]

theorem sorted_of {α : Type} {lt : α → α → Prop} (ht : ∀ {a b c}, lt a b → lt b c → lt a c) {l : List α} (h : ∀ i (hi : i + 1 < l.length), lt (l[i]'(by omega)) l[i + 1]) : Sorted lt l := by
  intro i j hij hj
  induction j with
  | zero => omega
  | succ j ih =>
    by_cases e : i = j
    · subst e; exact h i hj
    · exact ht (ih (by omega) (by omega)) (h j hj)

end Go.Proofs.Ytjihnbjdclobgaa.VS

