/- A contract for a function of an empty slice, held against its text for the slice that is nil and for the one that is not. Conditions: none. -/
import Derived.Test.YtopkeglpafdlfaaGreatVS28
namespace Go.Proofs.YtopkeglpafdlfaaGreat.VS
variable [Syms]

/-- What is told of a copy of an empty slice: empty. -/
def emptyP : List AV → Option (AV × Heap)
  | [.sl []] => some (.emp, [])
  | _ => none

def emptyOf (l : List FuncId) : FuncId → Option (List AV → Option (AV × Heap)) := fun f => bif isIn f l then some emptyP else none

def isEmptyAns : Ans → Bool
  | .ok .nils [] [] n => n.ble WIDE
  | .ok .emp [] [] n => n.ble WIDE
  | _ => false

noncomputable def emptyOk (T : Tabs) (cfg : Cfg) (N : Nat) (l : List FuncId) : Bool :=
  l.all fun f => isEmptyAns (acallK T cfg N f [.nils] [] [] 0) && isEmptyAns (acallK T cfg N f [.nev] [] [] 0)

omit [Syms] in
theorem isIn_mem {f : FuncId} : ∀ {l : List FuncId}, isIn f l = true → f ∈ l
  | [], h => by simp [isIn] at h
  | a :: l, h => by
    unfold isIn at h
    cases hb : a.beq f with
    | true => rw [Nat.eq_of_beq_eq_true hb]; exact List.mem_cons_self
    | false => rw [hb, cond_false] at h; exact List.mem_cons_of_mem _ (isIn_mem h)

omit [Syms] in
theorem isEmptyAns_elim {q : Ans} (h : isEmptyAns q = true) : ∃ v n, q = .ok v [] [] n ∧ (v = .nils ∨ v = .emp) ∧ n ≤ WIDE := by
  unfold isEmptyAns at h
  split at h
  · exact ⟨_, _, rfl, .inl rfl, Nat.le_of_ble_eq_true h⟩
  · exact ⟨_, _, rfl, .inr rfl, Nat.le_of_ble_eq_true h⟩
  · cases h

theorem prim_empty {P : Program} {T : Tabs} {cfg cfg' : Cfg} {N : Nat} {l : List FuncId} (hT : TyOK P T) (hF : FnOK P T) (hp : PrimOK P cfg') (hmx : P.follows .mixedOrders = true) (h : emptyOk T cfg' N l = true) (he : cfg.prim = emptyOf l) (hh : cfg.primH = cfg'.primH := by rfl) : PrimOK P cfg := by
  refine ⟨?_, fun f p hf => hp.heap f p (by rw [← hh]; exact hf)⟩
  intro f p hf args r hr c m w cargs hs hc hsz hb
  rw [he] at hf
  unfold emptyOf at hf
  cases hi : isIn f l with
  | false => simp [hi] at hf
  | true =>
    simp only [hi, cond_true, Option.some.injEq] at hf
    subst hf
    unfold emptyP at hr
    split at hr
    · cases hr
      have hall := List.all_eq_true.1 h f (isIn_mem hi)
      simp only [Bool.and_eq_true] at hall
      obtain ⟨v, hv, hvr⟩ := hc 0 _ rfl
      have hcv : CR (okB c.X m [] []) w.heap m [.nils] cargs 0 ∨ CR (okB c.X m [] []) w.heap m [.nev] cargs 0 := by
        have one : ∀ a, VR (okB c.X m [] []) w.heap m a v → CR (okB c.X m [] []) w.heap m [a] cargs 0 := fun a ha j x hx => by
          match j with
          | 0 => simp at hx; subst hx; exact ⟨v, hv, ha⟩
          | j + 1 => simp at hx
        cases hvr with
        | @slE _ a cp h1 =>
          cases a with
          | none => exact .inl (one _ (by rw [h1 rfl]; exact .nils))
          | some a => exact .inr (one _ .nev)
        | sl g h1 => exact absurd rfl h1
      have fin : ∀ a, CR (okB c.X m [] []) w.heap m [a] cargs 0 → isEmptyAns (acallK T cfg' N f [a] [] [] 0) = true → CallsTo P f cargs w fun cv w' => ∃ m', After c m [] [] w 0 .emp [] [] WIDE cv m' w' := by
        intro a ha hq
        obtain ⟨u, n, hq, hu, hn⟩ := isEmptyAns_elim hq
        rw [acallK_eq] at hq
        have key := acall_ok hT hF hp hmx N f [a] [] [] 0 _ _ _ _ hq c m w cargs hs ha hsz (fun b _ => hb b)
        have up : ∀ cv w', (∃ m', After c m [] [] w 0 u [] [] n cv m' w') → ∃ m', After c m [] [] w 0 .emp [] [] WIDE cv m' w' := fun cv w' ⟨m', ha⟩ => by
          refine ⟨m', ha.ext, ha.sr, ?_, Nat.zero_le _, fun b hb => ?_⟩
          · have := ha.vr
            rcases hu with rfl | rfl
            · cases this; exact .emp
            · exact this
          · rcases ha.dom b hb with h | h
            · exact .inl h
            · exact .inr ⟨h.1, by omega⟩
        rcases key with ⟨cv, w', h1, h2⟩ | ⟨h1, h2⟩
        · exact .inl ⟨cv, w', h1, up _ _ h2⟩
        · exact .inr ⟨h1, h2.mono fun e w' ⟨v, he, hh⟩ => ⟨v, he, up _ _ hh⟩⟩
      rcases hcv with hh | hh
      · exact fin _ hh hall.1
      · exact fin _ hh hall.2
    · cases hr

end Go.Proofs.YtopkeglpafdlfaaGreat.VS
