/- A call by trees: what it leaves to its caller. Conditions: none. -/
import Derived.Test.YtopkeglpafdlfaaGreatVS17
namespace Go.Proofs.YtopkeglpafdlfaaGreat.VS
variable [Syms]

/-- A call of a function, by a contract or by its text. -/
def CallsTo (P : Program) (f : FuncId) (args : Array Value) (w : World) (R : Value → World → Prop) : Prop :=
  (∃ v w', (callFunc f args).run P w = .ok (.value v) w' ∧ R v w') ∨
  ((callFunc f args).run P w = .ok (.enter f args) w ∧ Calls P f args w fun e w' => ∃ v, e = .returned v ∧ R v w')

omit [Syms] in
theorem CallsTo.mono {P : Program} {f : FuncId} {args : Array Value} {w : World} {R R' : Value → World → Prop} (h : CallsTo P f args w R) (hr : ∀ v w', R v w' → R' v w') : CallsTo P f args w R' := by
  rcases h with ⟨v, w', h1, h2⟩ | ⟨h1, h2⟩
  · exact .inl ⟨v, w', h1, hr _ _ h2⟩
  · exact .inr ⟨h1, h2.mono fun e w' ⟨v, hv, hw⟩ => ⟨v, hv, hr _ _ hw⟩⟩

/-- What a call leaves. -/
structure After (c : Ctx) (m : Map) (H : Heap) (F : List Nat) (w : World) (nx : Nat) (v : AV) (H' : Heap) (F' : List Nat) (nx' : Nat) (cv : Value) (m' : Map) (w' : World) : Prop where
  ext : Ext c m H F w m' H' F' w'
  sr : SR c m' H' F' w'
  vr : VR (okB c.X m' H' F') w'.heap m' v cv
  le : nx ≤ nx'
  dom : ∀ b, m' b ≠ none → m b ≠ none ∨ (nx ≤ b ∧ b < nx')

/-- What the abstract machine answers, the model's functions answer. -/
def CallOK (P : Program) (call : FuncId → List AV → Heap → List Nat → Nat → Ans) : Prop :=
  ∀ f args H F nx v H' F' nx', call f args H F nx = .ok v H' F' nx' → ∀ (c : Ctx) (m : Map) (w : World) (cargs : Array Value), SR c m H F w → CR (okB c.X m H F) w.heap m args cargs 0 → cargs.size = args.length →
    (∀ b, nx ≤ b → m b = none) → CallsTo P f cargs w fun cv w' => ∃ m', After c m H F w nx v H' F' nx' cv m' w'

theorem resolveAll_vr {ok ok' : Nat → Prop} {h : Array Obj} {m : Map} {H : Heap} {nz : Bool} {I : Nat → Prop} (hok : ∀ β, ok β → ok' β) (hA : ArrsR ok h m H) (hI : ∀ b L, I b → m b = some L → hget H b ≠ none → ok' L.blk) :
    ∀ {args : List AV} {p : List AV × List Nat}, resolveAll nz H args = some p → (∀ b ∈ p.2, I b) → ∀ {C : Array Value} {o : Nat}, CR ok h m args C o → p.1.length = args.length ∧ CR ok' h noMap p.1 C o
  | [], p, hp, _, C, o, _ => by simp [resolveAll] at hp; subst hp; exact ⟨rfl, fun j x hx => by simp at hx⟩
  | a :: l, p, hp, hi, C, o, hc => by
    rw [resolveAll] at hp
    split at hp
    · rename_i x y hx hy
      cases hp
      obtain ⟨h1, h2⟩ := resolveAll_vr hok hA hI hy (fun b hb => hi b (List.mem_append.2 (.inr hb))) (C := C) (o := o + 1) (fun j z hz => by
        obtain ⟨v, hv, hr⟩ := hc (j + 1) z (by simpa using hz)
        exact ⟨v, by rw [← hv]; congr 1; omega, hr⟩)
      refine ⟨by simp [h1], fun j z hz => ?_⟩
      cases j with
      | zero =>
        simp at hz; subst hz
        obtain ⟨v, hv, hr⟩ := hc 0 a rfl
        exact ⟨v, hv, resolve_vr hok hA hI _ _ _ _ v hx (fun b hb => hi b (List.mem_append.2 (.inl hb))) hr⟩
      | succ j =>
        obtain ⟨v, hv, hr⟩ := h2 j z (by simpa using hz)
        exact ⟨v, by rw [← hv]; congr 1; omega, hr⟩
    · cases hp

omit [Syms] in
theorem placeIn_some {b : Nat} : ∀ {l : List Nat} {id x : Nat}, placeIn id l b = some x → id ≤ x ∧ x < id + l.length ∧ l[x - id]? = some b
  | [], id, x, h => by simp [placeIn] at h
  | a :: r, id, x, h => by
    rw [placeIn] at h
    cases hc : a.beq b with
    | true =>
      simp only [hc, cond_true, Option.some.injEq] at h
      subst h
      exact ⟨Nat.le_refl _, by simp, by simp [Nat.eq_of_beq_eq_true hc]⟩
    | false =>
      simp only [hc, cond_false] at h
      obtain ⟨h1, h2, h3⟩ := placeIn_some h
      refine ⟨by omega, by simp; omega, ?_⟩
      rw [show x - id = (x - (id + 1)) + 1 by omega]
      simpa using h3

omit [Syms] in
theorem happ_get : ∀ (R : Eff) {H : Heap} {x : Nat} {o : AObj}, hget (happ H R) x = some o → hget H x = some o ∨ (x, some o) ∈ R
  | [], H, x, o, h => .inl h
  | (k, q) :: R, H, x, o, h => by
    rw [happ] at h
    rcases happ_get R h with g | g
    · cases q with
      | some q =>
        simp only [hput] at g
        rw [hget_hset] at g
        split at g
        · rename_i hk
          subst hk
          have := Option.some.inj g
          subst this
          exact .inr (by simp)
        · exact .inl g
      | none =>
        simp only [hput] at g
        rw [hget_hdel] at g
        split at g
        · cases g
        · exact .inl g
    · exact .inr (by simp [g])

omit [Syms] in
theorem happ_keep : ∀ (R : Eff) {H : Heap} {x : Nat} {o : AObj}, hget (happ H R) x = some o → (hget H x = some o ∧ ∀ q, (x, q) ∉ R) ∨ (x, some o) ∈ R
  | [], H, x, o, h => .inl ⟨h, fun q hq => by cases hq⟩
  | (k, q) :: R, H, x, o, h => by
    rw [happ] at h
    rcases happ_keep R h with ⟨g, g'⟩ | g
    · cases q with
      | some q =>
        simp only [hput] at g
        rw [hget_hset] at g
        split at g
        · rename_i hk
          subst hk
          have := Option.some.inj g
          subst this
          exact .inr (by simp)
        · rename_i hk
          refine .inl ⟨g, fun q' hq => ?_⟩
          rcases List.mem_cons.1 hq with e | hq
          · cases e; exact hk rfl
          · exact g' _ hq
      | none =>
        simp only [hput] at g
        rw [hget_hdel] at g
        split at g
        · cases g
        · rename_i hk
          refine .inl ⟨g, fun q' hq => ?_⟩
          rcases List.mem_cons.1 hq with e | hq
          · cases e; exact hk rfl
          · exact g' _ hq
    · exact .inr (by simp [g])

omit [Syms] in
theorem renHeap_dom {ρ : Nat → Option Nat} {H' : Heap} : ∀ {l : List Nat} {R : Eff}, renHeap ρ H' l = some R → ∀ b ∈ l, ∀ x, ρ b = some x → ∃ q, (x, q) ∈ R
  | [], _, _, b, hb, _, _ => by cases hb
  | a :: r, R, h, b, hb, x, hx => by
    rw [renHeap] at h
    split at h
    · rename_i c s xs R' h1 h2 h3
      split at h
      · cases h
        rcases List.mem_cons.1 hb with rfl | hb
        · rw [hx] at h1; cases h1; exact ⟨_, List.mem_cons_self⟩
        · obtain ⟨q, hq⟩ := renHeap_dom h3 b hb x hx
          exact ⟨q, List.mem_cons_of_mem _ hq⟩
      · cases h
    · rename_i c t xs R' h1 h2 h3
      cases h
      rcases List.mem_cons.1 hb with rfl | hb
      · rw [hx] at h1; cases h1; exact ⟨_, List.mem_cons_self⟩
      · obtain ⟨q, hq⟩ := renHeap_dom h3 b hb x hx
        exact ⟨q, List.mem_cons_of_mem _ hq⟩
    · cases h

/-- An array under other numbers. -/
inductive RenO (ρ : Nat → Option Nat) : AObj → AObj → Prop
  | arr {s xs ys} : renAll ρ DEEP xs = some ys → RenO ρ (.arr s xs) (.arr s ys)
  | tarr {t xs} : RenO ρ (.tarr t xs) (.tarr t xs)

omit [Syms] in
theorem renHeap_mem {ρ : Nat → Option Nat} {H' : Heap} : ∀ {l : List Nat} {R : Eff}, renHeap ρ H' l = some R → ∀ {x : Nat} {q : Option AObj}, (x, q) ∈ R →
    ∃ b o o', ρ b = some x ∧ hget H' b = some o ∧ RenO ρ o o' ∧ q = some o'
  | [], R, h, x, q, hm => by simp [renHeap] at h; subst h; simp at hm
  | b :: r, R, h, x, q, hm => by
    rw [renHeap] at h
    split at h
    · rename_i c s xs R' h1 h2 h3
      split at h
      · rename_i ys h4
        cases h
        rcases List.mem_cons.1 hm with e | hm
        · cases e; exact ⟨b, _, _, h1, h2, .arr h4, rfl⟩
        · exact renHeap_mem h3 hm
      · cases h
    · rename_i c t xs R' h1 h2 h3
      cases h
      rcases List.mem_cons.1 hm with e | hm
      · cases e; exact ⟨b, _, _, h1, h2, .tarr, rfl⟩
      · exact renHeap_mem h3 hm
    · cases h

omit [Syms] in
theorem still_mem {ρ : Nat → Option Nat} {F' : List Nat} {b x : Nat} (hρ : ρ b = some x) (hF : b ∈ F') : ∀ {l : List Nat}, b ∈ l → x ∈ still ρ F' l
  | [], h => by simp at h
  | a :: r, h => by
    rw [still]
    rcases List.mem_cons.1 h with rfl | h
    · rw [(isIn_iff b F').2 hF]
      simp [hρ]
    · have := still_mem hρ hF h
      cases isIn a F' with
      | false => exact this
      | true =>
        simp only [cond_true]
        split
        · simp [this]
        · exact this

section
variable {P : Program} {c : Ctx} {m : Map} {H : Heap} {F : List Nat} {w : World}

/-- Where all that was there is as it was, all that was told is told still. -/
theorem SR.away (hs : SR c m H F w) {w' : World} (hk : Keep (fun _ => False) w w') : Ext c m H F w m H F w' ∧ SR c m H F w' := by
  have hb : ∀ β, β < w.heap.size → w'.heap[β]? = w.heap[β]? := fun β h => hk.block β h (fun h => h)
  have hx : Ext c m H F w m H F w' := ⟨MLe.refl m, fun β C e z ho hh => ⟨ho, by rw [hb β (lt_of_some hh)]; exact hh⟩⟩
  refine ⟨hx, hs.xlt, fun b1 o1 hb1 => ?_, hs.inj, hs.nox, hs.own, ?_⟩
  · exact (hs.all b1 o1 hb1).imp (fun ⟨L, h1, h2⟩ => ⟨L, h1, ObjR.mono h2 hx.kk hx.mm (hb _ (ObjR.lt h2))⟩) (fun h => h)
  · have k := hs.keep
    exact ⟨hk.os.trans k.os, hk.tape.trans k.tape, hk.output.trans k.output, by have := hk.size; have := k.size; omega, fun β h1 h2 => by
      rw [hb β (by have := k.size; omega)]; exact k.block β h1 h2⟩

/-- Some numbers are forgotten. -/
theorem SR.sub (hs : SR c m H F w) {H2 : Heap} (hsub : ∀ b o, hget H2 b = some o → hget H b = some o) : Ext c m H F w m H2 F w ∧ SR c m H2 F w := by
  have hx : Ext c m H F w m H2 F w :=
    ⟨MLe.refl m, fun β C e z ho hh => ⟨⟨ho.1, fun b1 o1 L1 hb1 hf1 hm1 => ho.2 b1 o1 L1 (hsub _ _ hb1) hf1 hm1⟩, hh⟩⟩
  exact ⟨hx, hs.xlt, fun b1 o1 hb1 => (hs.all b1 o1 (hsub _ _ hb1)).imp (fun ⟨L, h1, h2⟩ => ⟨L, h1, ObjR.mono h2 hx.kk hx.mm rfl⟩) (fun h => h),
    fun b1 o1 b2 o2 L1 L2 h1 h2 h3 h4 h5 => hs.inj b1 o1 b2 o2 L1 L2 (hsub _ _ h1) (hsub _ _ h2) h3 h4 h5,
    fun b1 o1 L1 h1 h2 => hs.nox b1 o1 L1 (hsub _ _ h1) h2, fun b1 o1 L1 h1 h2 => hs.own b1 o1 L1 (hsub _ _ h1) h2, hs.keep⟩

omit [Syms] in
theorem hget_below (nx : Nat) : ∀ (H : Heap) (b : Nat) (o : AObj), hget (below nx H) b = some o → hget H b = some o
  | [], b, o, h => h
  | (k, q) :: r, b, o, h => by
    have hb : ∀ (H : Heap) (b : Nat) (o : AObj), hget (below nx H) b = some o → b < nx := by
      intro H
      induction H with
      | nil => intro b o h; simp [below, hget] at h
      | cons p r ih =>
        intro b o h
        rw [below] at h
        cases hc : p.1.blt nx with
        | true =>
          simp only [hc, cond_true] at h
          obtain ⟨k, q⟩ := p
          rw [hget_cons] at h
          split at h
          · rename_i hk; subst hk; exact blt_lt hc
          · exact ih b o h
        | false =>
          simp only [hc, cond_false] at h
          exact ih b o h
    rw [below] at h
    cases hc : k.blt nx with
    | true =>
      simp only [hc, cond_true] at h
      rw [hget_cons] at h ⊢
      split
      · rename_i hk; rw [if_pos hk] at h; exact h
      · rename_i hk; rw [if_neg hk] at h; exact hget_below nx r b o h
    | false =>
      simp only [hc, cond_false] at h
      rw [hget_cons]
      split
      · rename_i hk
        subst hk
        have := hb r _ _ h
        have hc' : ¬ k < nx := fun hlt => by
          have : k.blt nx = true := Nat.ble_eq_true_of_le hlt
          rw [hc] at this; cases this
        exact absurd this hc'
      · exact hget_below nx r b o h

/-- The rows that a callee by trees must not know: what is its caller's own, and not handed in. -/
def ownX (c : Ctx) (m : Map) (H : Heap) (F ids : List Nat) (β : Nat) : Prop :=
  c.X β ∨ ∃ b o L, hget H b = some o ∧ b ∉ F ∧ b ∉ ids ∧ m b = some L ∧ L.blk = β

theorem SR.callee (hs : SR c m H F w) (ids : List Nat) : SR ⟨ownX c m H F ids, fun _ => False, w⟩ noMap [] [] w := by
  refine ⟨fun β hβ => ?_, fun b o hb => (by cases hb), fun b o _ _ _ _ hb => (by cases hb), fun b o L hb => (by cases hb), fun b o L hb => (by cases hb), Keep.refl _ _⟩
  rcases hβ with h | ⟨b, o, L, h1, h2, h3, h4, rfl⟩
  · have := hs.xlt _ h; have := hs.keep.size; show β < w.heap.size; omega
  · exact hs.blt h1 h4

theorem SR.toCallee (hs : SR c m H F w) {nz : Bool} {args : List AV} {p : List AV × List Nat} (hp : resolveAll nz H args = some p) {C : Array Value} (hc : CR (okB c.X m H F) w.heap m args C 0) :
    p.1.length = args.length ∧ CR (okB (ownX c m H F p.2) noMap [] []) w.heap noMap p.1 C 0 := by
  refine resolveAll_vr (I := fun b => b ∈ p.2) ?_ hs.arrs ?_ hp (fun b hb => hb) hc
  · intro β ho
    refine ⟨?_, fun b o L hb => by cases hb⟩
    rintro (h | ⟨b, o, L, h1, h2, h3, h4, h5⟩)
    · exact ho.1 h
    · exact ho.2 b o L h1 h2 h4 h5
  · intro b L hb hm hn
    refine ⟨?_, fun b o L hb => by cases hb⟩
    cases hg : hget H b with
    | none => exact absurd hg hn
    | some o =>
      rintro (h | ⟨b', o', L', h1, h2, h3, h4, h5⟩)
      · exact hs.nox b o L hg hm h
      · have := hs.inj b' o' b o L' L h1 hg h4 hm h5
        subst this
        exact h3 hb

end
end Go.Proofs.YtopkeglpafdlfaaGreat.VS
