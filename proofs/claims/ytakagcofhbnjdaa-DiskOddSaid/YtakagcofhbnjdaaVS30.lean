/- Answers that were found once, told again: a row of calls with what the machine answers, held against the functions' texts. Conditions: none. -/
import Derived.Test.YtakagcofhbnjdaaVS29
namespace Go.Proofs.Ytakagcofhbnjdaa.VS

/-- A call that was run: the function, its arguments, its answer. -/
structure Ran where
  f : FuncId
  args : List AV
  v : AV
  H : Heap

def sameInts : List AV → List AV → Bool
  | [], [] => true
  | .int k a :: r, .int k' b :: s => bif decide (k = k') then (bif decide (a = b) then sameInts r s else false) else false
  | .bool a :: r, .bool b :: s => bif a == b then sameInts r s else false
  | _, _ => false

theorem sameInts_eq : ∀ {l l' : List AV}, sameInts l l' = true → l = l'
  | [], [], _ => rfl
  | .int k a :: r, .int k' b :: s, h => by
    rw [sameInts] at h
    cases hk : decide (k = k') with
    | false => simp [hk] at h
    | true =>
      cases ha : decide (a = b) with
      | false => simp [hk, ha] at h
      | true =>
        simp only [hk, ha, cond_true] at h
        rw [of_decide_eq_true hk, of_decide_eq_true ha, sameInts_eq h]
  | .bool a :: r, .bool b :: s, h => by
    rw [sameInts] at h
    cases hk : a == b with
    | false => simp [hk] at h
    | true =>
      simp only [hk, cond_true] at h
      rw [eq_of_beq hk, sameInts_eq h]

/-- What was told of a function, by its arguments. -/
def ranOf (f : FuncId) : List Ran → List AV → Option (AV × Heap)
  | [], _ => none
  | t :: r, args => bif t.f.beq f then (bif sameInts args t.args then some (t.v, t.H) else ranOf f r args) else ranOf f r args

def hasRan (f : FuncId) : List Ran → Bool
  | [] => false
  | t :: r => bif t.f.beq f then true else hasRan f r

def withRan (l : List Ran) (prim : FuncId → Option (List AV → Option (AV × Heap))) : FuncId → Option (List AV → Option (AV × Heap)) := fun f => bif hasRan f l then some (ranOf f l) else prim f

/-- The calls were run so. -/
def RanOK (T : Tabs) (cfg : Cfg) (N : Nat) (l : List Ran) : Prop :=
  ∀ t ∈ l, ∃ n, acallK T cfg N t.f t.args [] [] 0 = .ok t.v t.H [] n ∧ n ≤ WIDE

theorem ranOK_nil {T : Tabs} {cfg : Cfg} {N : Nat} : RanOK T cfg N [] := fun t ht => by cases ht
theorem ranOK_cons {T : Tabs} {cfg : Cfg} {N : Nat} {t : Ran} {l : List Ran} {n : Nat} (h : acallK T cfg N t.f t.args [] [] 0 = .ok t.v t.H [] n) (hn : n.ble WIDE = true) (hl : RanOK T cfg N l) : RanOK T cfg N (t :: l) := fun u hu => by
  rcases List.mem_cons.1 hu with rfl | hu
  · exact ⟨n, h, Nat.le_of_ble_eq_true hn⟩
  · exact hl u hu

theorem ranOf_mem {f : FuncId} {args : List AV} {r : AV × Heap} : ∀ {l : List Ran}, ranOf f l args = some r → ∃ t ∈ l, t.f = f ∧ t.args = args ∧ r = (t.v, t.H)
  | [], h => by cases h
  | t :: l, h => by
    rw [ranOf] at h
    cases hf : t.f.beq f with
    | false =>
      rw [hf, cond_false] at h
      obtain ⟨u, h1, h2⟩ := ranOf_mem h
      exact ⟨u, List.mem_cons_of_mem _ h1, h2⟩
    | true =>
      rw [hf, cond_true] at h
      cases ha : sameInts args t.args with
      | false =>
        rw [ha, cond_false] at h
        obtain ⟨u, h1, h2⟩ := ranOf_mem h
        exact ⟨u, List.mem_cons_of_mem _ h1, h2⟩
      | true =>
        rw [ha, cond_true] at h
        cases h
        exact ⟨t, List.mem_cons_self, Nat.eq_of_beq_eq_true hf, (sameInts_eq ha).symm, rfl⟩

variable [Syms]

theorem prim_ran {P : Program} {T : Tabs} {cfg cfg' : Cfg} {N : Nat} {l : List Ran} (hT : TyOK P T) (hF : FnOK P T) (hp : PrimOK P cfg') (hmx : P.follows .mixedOrders = true) (h : RanOK T cfg' N l) (he : cfg.prim = withRan l cfg'.prim) : PrimOK P cfg := by
  intro f p hf args r hr c m w cargs hs hc hsz hb
  rw [he] at hf
  unfold withRan at hf
  cases hi : hasRan f l with
  | false =>
    rw [hi, cond_false] at hf
    exact hp f p hf args r hr c m w cargs hs hc hsz hb
  | true =>
    rw [hi, cond_true] at hf
    cases hf
    obtain ⟨t, h1, h2, h3, h4⟩ := ranOf_mem hr
    obtain ⟨n, hq, hn⟩ := h t h1
    subst h2; subst h3; subst h4
    rw [acallK_eq] at hq
    have key := acall_ok hT hF hp hmx N t.f t.args [] [] 0 _ _ _ _ hq c m w cargs hs hc hsz (fun b _ => hb b)
    have up : ∀ cv w', (∃ m', After c m [] [] w 0 t.v t.H [] n cv m' w') → ∃ m', After c m [] [] w 0 t.v t.H [] WIDE cv m' w' := fun cv w' ⟨m', ha⟩ =>
      ⟨m', ha.ext, ha.sr, ha.vr, Nat.zero_le _, fun b hb => (ha.dom b hb).imp id fun h => ⟨h.1, by omega⟩⟩
    rcases key with ⟨cv, w', g1, g2⟩ | ⟨g1, g2⟩
    · exact .inl ⟨cv, w', g1, up _ _ g2⟩
    · exact .inr ⟨g1, g2.mono fun e w' ⟨v, he, hh⟩ => ⟨v, he, up _ _ hh⟩⟩

end Go.Proofs.Ytakagcofhbnjdaa.VS
