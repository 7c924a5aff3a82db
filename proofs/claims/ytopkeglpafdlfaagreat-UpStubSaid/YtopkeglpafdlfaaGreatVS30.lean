/- Answers that were found once, told again: a row of calls with what the machine answers, held against the functions' texts. Conditions: none. -/
import Derived.Test.YtopkeglpafdlfaaGreatVS29
namespace Go.Proofs.YtopkeglpafdlfaaGreat.VS

/-- A call that was run: the function, its arguments, its answer; each a tree. -/
structure Ran where
  f : FuncId
  args : List AV
  v : AV

def all2 (p : AV → AV → Bool) : List AV → List AV → Bool
  | [], [] => true
  | a :: r, b :: s => bif p a b then all2 p r s else false
  | _, _ => false

/-- Two trees are one. -/
def sameAV : Nat → AV → AV → Bool
  | 0, _, _ => false
  | d + 1, a, b =>
    match a, b with
    | .bool x, .bool y => x == y
    | .int k x, .int l y => decide (k = l) && decide (x = y)
    | .str x, .str y => x == y
    | .nilp, .nilp => true
    | .nilf, .nilf => true
    | .nili, .nili => true
    | .nilm, .nilm => true
    | .nils, .nils => true
    | .emp, .emp => true
    | .ifc t x, .ifc u y => Nat.beq t u && sameAV d x y
    | .fn f x, .fn g y => Nat.beq f g && all2 (sameAV d) x y
    | .agg x, .agg y => all2 (sameAV d) x y
    | .tup x, .tup y => all2 (sameAV d) x y
    | .sl x, .sl y => all2 (sameAV d) x y
    | .rng i k lo hi, .rng j l lo' hi' => (Nat.beq i j && decide (k = l)) && (decide (lo = lo') && decide (hi = hi'))
    | _, _ => false

theorem all2_eq {p : AV → AV → Bool} (hp : ∀ a b, p a b = true → a = b) : ∀ {l l' : List AV}, all2 p l l' = true → l = l'
  | [], [], _ => rfl
  | a :: r, b :: s, h => by
    rw [all2] at h
    cases hab : p a b with
    | false => rw [hab, cond_false] at h; cases h
    | true => rw [hab, cond_true] at h; rw [hp a b hab, all2_eq hp h]

theorem sameAV_eq : ∀ (d : Nat) (a b : AV), sameAV d a b = true → a = b
  | 0, a, b, h => by simp [sameAV] at h
  | d + 1, a, b, h => by
    have ih := sameAV_eq d
    unfold sameAV at h
    split at h
    · rw [eq_of_beq h]
    · rw [Bool.and_eq_true] at h
      rw [of_decide_eq_true h.1, of_decide_eq_true h.2]
    · rw [eq_of_beq h]
    · rfl
    · rfl
    · rfl
    · rfl
    · rfl
    · rfl
    · rw [Bool.and_eq_true] at h
      rw [Nat.eq_of_beq_eq_true h.1, ih _ _ h.2]
    · rw [Bool.and_eq_true] at h
      rw [Nat.eq_of_beq_eq_true h.1, all2_eq ih h.2]
    · rw [all2_eq ih h]
    · rw [all2_eq ih h]
    · rw [all2_eq ih h]
    · rw [Bool.and_eq_true, Bool.and_eq_true, Bool.and_eq_true] at h
      rw [Nat.eq_of_beq_eq_true h.1.1, of_decide_eq_true h.1.2, of_decide_eq_true h.2.1, of_decide_eq_true h.2.2]
    · cases h

/-- What was told of a function, by its arguments. -/
def ranOf (f : FuncId) : List Ran → List AV → Option (AV × Heap)
  | [], _ => none
  | t :: r, args => bif t.f.beq f then (bif all2 (sameAV 40) t.args args then some (t.v, []) else ranOf f r args) else ranOf f r args

def hasRan (f : FuncId) : List Ran → Bool
  | [] => false
  | t :: r => bif t.f.beq f then true else hasRan f r

/-- Beside what was run another contract may tell of the function. -/
def orP (p : Option (List AV → Option (AV × Heap))) (q : List AV → Option (AV × Heap)) : List AV → Option (AV × Heap) := fun args =>
  match q args with
  | some r => some r
  | none => match p with
    | some p => p args
    | none => none

def withRan (l : List Ran) (prim : FuncId → Option (List AV → Option (AV × Heap))) : FuncId → Option (List AV → Option (AV × Heap)) := fun f => bif hasRan f l then some (orP (prim f) (ranOf f l)) else prim f

/-- The answer as a tree. -/
def treeAns : Ans → Option AV
  | .ok v H _ n => bif n.ble WIDE then (match resolve true H DEEP v with
    | some r => some r.1
    | none => none) else none
  | .no => none

/-- The calls were run so. -/
def RanOK (T : Tabs) (cfg : Cfg) (l : List Ran) : Prop :=
  ∀ t ∈ l, ∃ N, treeAns (acallK T cfg N t.f t.args [] [] 0) = some t.v

theorem ranOK_nil {T : Tabs} {cfg : Cfg} : RanOK T cfg [] := fun t ht => by cases ht
theorem ranOK_cons {T : Tabs} {cfg : Cfg} {N : Nat} {t : Ran} {l : List Ran} (h : treeAns (acallK T cfg N t.f t.args [] [] 0) = some t.v) (hl : RanOK T cfg l) : RanOK T cfg (t :: l) := fun u hu => by
  rcases List.mem_cons.1 hu with rfl | hu
  · exact ⟨N, h⟩
  · exact hl u hu

theorem ranOf_mem {f : FuncId} {args : List AV} {r : AV × Heap} : ∀ {l : List Ran}, ranOf f l args = some r → ∃ t ∈ l, t.f = f ∧ t.args = args ∧ r = (t.v, [])
  | [], h => by cases h
  | t :: l, h => by
    rw [ranOf] at h
    cases hf : t.f.beq f with
    | false =>
      rw [hf, cond_false] at h
      obtain ⟨u, h1, h2⟩ := ranOf_mem h
      exact ⟨u, List.mem_cons_of_mem _ h1, h2⟩
    | true =>
      rw [hf, cond_true] at h
      cases ha : all2 (sameAV 40) t.args args with
      | false =>
        rw [ha, cond_false] at h
        obtain ⟨u, h1, h2⟩ := ranOf_mem h
        exact ⟨u, List.mem_cons_of_mem _ h1, h2⟩
      | true =>
        rw [ha, cond_true] at h
        cases h
        exact ⟨t, List.mem_cons_self, Nat.eq_of_beq_eq_true hf, all2_eq (sameAV_eq 40) ha, rfl⟩

variable [Syms]

/-- What a call leaves, its answer taken as a tree. -/
theorem After.tree {c : Ctx} {m m' : Map} {w w' : World} {v t : AV} {H' : Heap} {F' ids : List Nat} {n : Nat} {cv : Value} (ha : After c m [] [] w 0 v H' F' n cv m' w') (hr : resolve true H' DEEP v = some (t, ids)) (hn : n ≤ WIDE) : After c m [] [] w 0 t [] [] WIDE cv m' w' := by
  have hok : ∀ β, okB c.X m' H' F' β → okB c.X m' [] [] β := fun β h => ⟨h.1, fun b o L hb => by cases hb⟩
  refine ⟨⟨ha.ext.mm, fun β C e z ho hh => ?_⟩, ?_, ?_, Nat.zero_le _, fun b hb => (ha.dom b hb).imp id fun h => ⟨h.1, by omega⟩⟩
  · obtain ⟨h1, h2⟩ := ha.ext.kk β C e z ho hh
    exact ⟨hok β h1, h2⟩
  · exact ⟨ha.sr.xlt, fun b o hb => (by cases hb), fun b o _ _ _ _ hb => (by cases hb), fun b o L hb => (by cases hb), fun b o L hb => (by cases hb), ha.sr.keep⟩
  · refine (resolve_vr (I := fun b => b ∈ ids) hok ha.sr.arrs (fun b L hb hm hg => ?_) DEEP v t ids cv hr (fun b hb => hb) ha.vr).mono (fun β C e z h1 h2 => ⟨h1, h2⟩) (fun b L hb => by cases hb)
    cases hgo : hget H' b with
    | none => exact absurd hgo hg
    | some o => exact ⟨ha.sr.nox b o L hgo hm, fun b o L hb => by cases hb⟩

theorem prim_ran {P : Program} {T : Tabs} {cfg cfg' : Cfg} {l : List Ran} (hT : TyOK P T) (hF : FnOK P T) (hp : PrimOK P cfg') (hmx : P.follows .mixedOrders = true) (h : RanOK T cfg' l) (he : cfg.prim = withRan l cfg'.prim) (hh : cfg.primH = cfg'.primH := by rfl) : PrimOK P cfg := by
  refine ⟨?_, fun f p hf => hp.heap f p (by rw [← hh]; exact hf)⟩
  intro f p hf args r hr c m w cargs hs hc hsz hb
  rw [he] at hf
  unfold withRan at hf
  cases hi : hasRan f l with
  | false =>
    rw [hi, cond_false] at hf
    exact hp.prim f p hf args r hr c m w cargs hs hc hsz hb
  | true =>
    rw [hi, cond_true] at hf
    cases hf
    unfold orP at hr
    split at hr
    · rename_i r' hq0
      cases hr
      obtain ⟨t, h1, h2, h3, h4⟩ := ranOf_mem hq0
      clear hq0
      obtain ⟨N, hq⟩ := h t h1
      subst h2; subst h3; subst h4
      unfold treeAns at hq
      split at hq
      · rename_i v H F n hacc
        cases hn : n.ble WIDE with
        | false => rw [hn, cond_false] at hq; cases hq
        | true =>
          rw [hn, cond_true] at hq
          split at hq
          · rename_i r hres
            have hq := Option.some.inj hq
            rw [acallK_eq] at hacc
            have key := acall_ok hT hF hp hmx N t.f t.args [] [] 0 _ _ _ _ hacc c m w cargs hs hc hsz (fun b _ => hb b)
            refine key.mono fun cv w' ⟨m', ha⟩ => ⟨m', ?_⟩
            show After c m [] [] w 0 t.v [] [] WIDE cv m' w'
            rw [← hq]
            exact ha.tree hres (Nat.le_of_ble_eq_true hn)
          · cases hq
      · cases hq
    · split at hr
      · rename_i q hq
        exact hp.prim f q hq args r hr c m w cargs hs hc hsz hb
      · cases hr

end Go.Proofs.YtopkeglpafdlfaaGreat.VS
