/- Tables held against a program, row by row. Conditions: none. -/
import Derived.Test.YtopkeglpafdlfaaGreatVS26
namespace Go.Proofs.YtopkeglpafdlfaaGreat.VS

/-- One type's row is the program's. -/
def TyOne (P : Program) (t : TypeId) (i : TI) : Prop :=
  tiOf P t = some ⟨i.size, i.bytes, i.zero, i.ag, i.k, true⟩ ∧ (i.cmp = true → P.eqGuardType P.depth t = false ∧ P.stoodInHeld t = false)

def FnOne (P : Program) (f : FuncId) (fn : Func) : Prop :=
  P.funcs[f]? = some fn ∧ fnOk fn = true ∧ (fn.name == "runtime.NumGoroutine") = false

/-- Each thing of a tree is so; 'p', 'q': its numbers are p, p + q, p + 2 q, .. -/
def allT {α : Type} (R : Nat → α → Prop) : Nat → Nat → Tr α → Prop
  | _, _, .nil => True
  | p, q, .nd v l r => (match v with
      | some a => R p a
      | none => True) ∧ allT R (p + q) (2 * q) l ∧ allT R (p + 2 * q) (2 * q) r

theorem Tr.get_nd {α : Type} (v : Option α) (l r : Tr α) (k : Nat) : (Tr.nd v l r).get k = if k = 0 then v else if k % 2 = 1 then l.get (k / 2) else r.get (k / 2 - 1) := by
  rw [Tr.get]
  change (bif k.beq 0 then v else bif (k % 2).beq 1 then l.get (k / 2) else r.get (k / 2 - 1)) = _
  by_cases h : k = 0
  · subst h; rfl
  · rw [beq_ne h, if_neg h, cond_false]
    by_cases h1 : k % 2 = 1
    · rw [h1]; rfl
    · rw [beq_ne h1, if_neg h1, cond_false]

theorem allT_get {α : Type} {R : Nat → α → Prop} : ∀ {t : Tr α} {p q : Nat}, allT R p q t → ∀ k a, t.get k = some a → R (p + q * k) a
  | .nil, p, q, _, k, a, h => by simp [Tr.get] at h
  | .nd v l r, p, q, h, k, a, hk => by
    obtain ⟨h1, h2, h3⟩ := h
    rw [Tr.get_nd] at hk
    split at hk
    · rename_i h0
      subst h0; subst hk
      exact h1
    · split at hk
      · rename_i h0 hodd
        have := allT_get h2 (k / 2) a hk
        have e : p + q + 2 * q * (k / 2) = p + q * k := by
          have : k = 2 * (k / 2) + 1 := by omega
          conv => rhs; rw [this]
          rw [Nat.mul_add, Nat.mul_one, ← Nat.mul_assoc, Nat.mul_comm q 2]
          omega
        rw [e] at this; exact this
      · rename_i h0 hodd
        have := allT_get h3 (k / 2 - 1) a hk
        have e : p + 2 * q + 2 * q * (k / 2 - 1) = p + q * k := by
          have : k = 2 * (k / 2 - 1) + 2 := by omega
          conv => rhs; rw [this]
          rw [Nat.mul_add, ← Nat.mul_assoc, Nat.mul_comm q 2]
          omega
        rw [e] at this; exact this

theorem tyOK_of {P : Program} {T : Tabs} (h : allT (TyOne P) 0 1 T.ty) : TyOK P T := by
  intro t i hi
  have := allT_get h t i hi
  rw [Nat.zero_add, Nat.one_mul] at this
  obtain ⟨h1, h2⟩ := this
  unfold tiOf at h1
  split at h1
  · rename_i j d hj hd
    simp only [Option.some.injEq, TI.mk.injEq] at h1
    exact ⟨j, d, hj, hd, h1.1.symm, h1.2.1.symm, h1.2.2.1.symm, h1.2.2.2.1.symm, h1.2.2.2.2.1.symm, h2⟩
  · cases h1

theorem fnOK_of {P : Program} {T : Tabs} (h : allT (FnOne P) 0 1 T.fn) : FnOK P T := by
  intro f fn hf
  have := allT_get h f fn hf
  rw [Nat.zero_add, Nat.one_mul] at this
  exact this

end Go.Proofs.YtopkeglpafdlfaaGreat.VS
