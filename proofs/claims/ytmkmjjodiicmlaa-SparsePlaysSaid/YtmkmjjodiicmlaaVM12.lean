/- A library of an abstract machine, joined from 6 texts. Conditions: none. -/
import Derived.Test.YtmkmjjodiicmlaaVM11
set_option linter.unusedVariables false
set_option linter.unusedSimpArgs false
set_option linter.unusedSectionVars false
/- Trees, loops by their trees, functions by their trees: what they answer. Conditions: none. -/
namespace Go.Proofs.Ytmkmjjodiicmlaa.VS

/-! ### Trees -/

theorem T.wp_ite {ρ : Type} (c : Bool) (a b : T ρ) (K : ρ → Prop) : (T.ite c a b).wp K = ((c = true → a.wp K) ∧ (c = false → b.wp K)) := rfl
theorem T.wp_iteP {ρ : Type} (c : Prop) (a b : T ρ) (K : ρ → Prop) : (T.iteP c a b).wp K = ((c → a.wp K) ∧ (¬ c → b.wp K)) := rfl
theorem T.wp_req {ρ : Type} (c : Prop) (a : T ρ) (K : ρ → Prop) : (T.req c a).wp K = (c ∧ a.wp K) := rfl
theorem T.wp_same {ρ α : Type} (x : α) (a : T ρ) (K : ρ → Prop) : (T.same x a).wp K = (x = x ∧ a.wp K) := rfl
theorem T.wp_bind {ρ α : Type} (o : Option α) (f : α → T ρ) (K : ρ → Prop) : (T.bind o f).wp K = ∃ x, o = some x ∧ (f x).wp K := rfl

/-- What a tree answers is what it asks. -/
theorem T.run_wp {ρ : Type} : ∀ (t : T ρ) {r : ρ} {K : ρ → Prop}, t.run = some r → K r → t.wp K := by
  intro t
  induction t with
  | fail => intro r K h _; cases h
  | ret x => intro r K h hk; cases h; exact hk
  | ite c a b iha ihb =>
    intro r K h hk
    rw [T.run] at h
    refine ⟨fun hc => ?_, fun hc => ?_⟩
    · rw [if_pos hc] at h; exact iha h hk
    · rw [if_neg (by simp [hc])] at h; exact ihb h hk
  | iteP c a b iha ihb =>
    intro r K h hk
    rw [T.run] at h
    refine ⟨fun hc => ?_, fun hc => ?_⟩
    · rw [if_pos hc] at h; exact iha h hk
    · rw [if_neg hc] at h; exact ihb h hk
  | req c a iha =>
    intro r K h hk
    rw [T.run] at h
    split at h
    · rename_i hc; exact ⟨hc, iha h hk⟩
    · cases h
  | same x a iha =>
    intro r K h hk
    exact ⟨rfl, iha h hk⟩
  | bind o f ih =>
    intro r K h hk
    rw [T.run] at h
    cases o with
    | none => cases h
    | some x => exact ⟨x, rfl, ih x h hk⟩
  | case s f g ihf ihg =>
    intro r K h hk
    cases s with
    | inl x => exact ihf x (by rw [T.run] at h; exact h) hk
    | inr y => exact ihg y (by rw [T.run] at h; exact h) hk

/-! The answers, step by step. -/

theorem T.run_ite {ρ : Type} (c : Bool) (a b : T ρ) : (T.ite c a b).run = bif c then a.run else b.run := by rw [T.run]; cases c <;> simp
theorem T.run_ret {ρ : Type} (x : ρ) : (T.ret x).run = some x := rfl
theorem T.run_fail {ρ : Type} : (T.fail : T ρ).run = none := rfl
theorem T.run_same {ρ α : Type} (x : α) (a : T ρ) : (T.same x a).run = a.run := rfl
theorem T.run_bind {ρ α : Type} (o : Option α) (f : α → T ρ) : (T.bind o f).run = o.bind fun x => (f x).run := rfl
theorem T.run_some {ρ α : Type} (x : α) (f : α → T ρ) : (T.bind (some x) f).run = (f x).run := rfl
theorem T.run_inl {ρ α β : Type} (x : α) (f : α → T ρ) (g : β → T ρ) : (T.case (.inl x) f g).run = (f x).run := rfl
theorem T.run_inr {ρ α β : Type} (x : β) (f : α → T ρ) (g : β → T ρ) : (T.case (.inr x) f g).run = (g x).run := rfl
theorem T.run_req {ρ : Type} {c : Prop} (h : c) (a : T ρ) : (T.req c a).run = a.run := by rw [T.run, if_pos h]
theorem T.run_pos {ρ : Type} {c : Prop} (h : c) (a b : T ρ) : (T.iteP c a b).run = a.run := by rw [T.run, if_pos h]
theorem T.run_neg {ρ : Type} {c : Prop} (h : ¬ c) (a b : T ρ) : (T.iteP c a b).run = b.run := by rw [T.run, if_neg h]
theorem T.run_tt {ρ : Type} {c : Bool} (h : c = true) (a b : T ρ) : (T.ite c a b).run = a.run := by rw [T.run, if_pos h]
theorem T.run_ff {ρ : Type} {c : Bool} (h : c = false) (a b : T ρ) : (T.ite c a b).run = b.run := by rw [T.run, if_neg (by simp [h])]

/-! ### Rounds -/

section
variable {π ρ : Type} {t : π → T (π ⊕ ρ)}

theorem iterT_succ : ∀ (n : Nat) (p : π) (r : ρ), iterT t n p = some r → iterT t (n + 1) p = some r
  | 0, _, _, h => by cases h
  | n + 1, p, r, h => by
    rw [iterT] at h ⊢
    split at h
    · cases h
    · rename_i q hq
      exact iterT_succ n q r h
    · rename_i r' hq
      exact h

theorem iterT_le {n m : Nat} (h : n ≤ m) {p : π} {r : ρ} (hr : iterT t n p = some r) : iterT t m p = some r := by
  induction h with
  | refl => exact hr
  | step _ ih => exact iterT_succ _ _ _ ih

theorem fixT_iter {p : π} {r : ρ} (h : fixT t p = some r) : ∃ n, iterT t n p = some r := by
  unfold fixT at h
  split at h
  · rename_i hx
    cases h
    exact hx.choose_spec
  · cases h

theorem iter_fixT {p : π} {r : ρ} {n : Nat} (h : iterT t n p = some r) : fixT t p = some r := by
  have hx : ∃ r n, iterT t n p = some r := ⟨r, n, h⟩
  unfold fixT
  rw [dif_pos hx]
  obtain ⟨m, hm⟩ := hx.choose_spec
  have h1 := iterT_le (Nat.le_max_left n m) h
  have h2 := iterT_le (Nat.le_max_right n m) hm
  rw [h1] at h2
  exact h2.symm

/-- A loop is its first round, and the others. -/
theorem fixT_eq (p : π) : fixT t p = match (t p).run with
    | none => none
    | some (.inl q) => fixT t q
    | some (.inr r) => some r := by
  cases hf : fixT t p with
  | some r =>
    obtain ⟨n, hn⟩ := fixT_iter hf
    cases n with
    | zero => cases hn
    | succ n =>
      rw [iterT] at hn
      split at hn
      · cases hn
      · rename_i q hq; rw [hq]; exact (iter_fixT hn).symm
      · rename_i r' hq; rw [hq]; exact hn.symm
  | none =>
    cases hr : (t p).run with
    | none => rfl
    | some x =>
      cases x with
      | inl q =>
        show none = fixT t q
        cases hq : fixT t q with
        | none => rfl
        | some r =>
          obtain ⟨n, hn⟩ := fixT_iter hq
          have : iterT t (n + 1) p = some r := by rw [iterT, hr]; exact hn
          rw [iter_fixT this] at hf; cases hf
      | inr r =>
        have : iterT t 1 p = some r := by rw [iterT, hr]
        rw [iter_fixT this] at hf; cases hf

theorem fixT_next {p q : π} (h : (t p).run = some (.inl q)) : fixT t p = fixT t q := by rw [fixT_eq, h]
theorem fixT_out {p : π} {r : ρ} (h : (t p).run = some (.inr r)) : fixT t p = some r := by rw [fixT_eq, h]

/-- A loop by a measure: what holds of each state. -/
theorem fixT_ind (I : π → Prop) (f : π → ρ) (μ : π → Nat) (h : ∀ p, I p → (∃ q, (t p).run = some (.inl q) ∧ I q ∧ μ q < μ p ∧ f q = f p) ∨ (t p).run = some (.inr (f p))) : ∀ p, I p → fixT t p = some (f p) := by
  intro p
  generalize hn : μ p = n
  induction n using Nat.strongRecOn generalizing p with
  | _ n ih =>
    intro hI
    rcases h p hI with ⟨q, h1, h2, h3, h4⟩ | h1
    · rw [fixT_next h1, ← h4]
      exact ih (μ q) (by omega) q rfl h2
    · exact fixT_out h1

end

variable [Syms]

/-! ### Loops -/

section
variable {P : Program} {S : SE}

theorem codeC_sem (hT : TyOK P S.T) (hC : ConOK P S) (hmx : P.follows .mixedOrders = true) {n : Nat} (hn : n ≤ 1023) : ∀ (code : Code) {s : St} {K : AX → St → Prop}, codeC S code s K → codeOk n code = true → drawsOk code = true → LoopsOK P S n code → Sem P n code s K := by
  intro code
  induction code with
  | skip =>
    intro s K h _ _ _ c wE m a w Q hg hd hQ
    exact wp_skip (hQ .normal s m a w h hg hd)
  | label l =>
    intro s K h _ _ _ c wE m a w Q hg hd hQ
    exact wp_label (hQ .normal s m a w h hg hd)
  | region id ops draw =>
    intro s K h hc hdr _ c wE m a w Q hg hd hQ
    exact regC_sem hT hC hmx hc hdr h c wE m a w Q hg hd fun x s' m' a' w' ⟨hx, hk⟩ hg' hd' => by
      subst hx; exact hQ .normal s' m' a' w' hk hg' hd'
  | seq c1 c2 ih1 ih2 =>
    intro s K h hc hdr hl c wE m a w Q hg hd hQ
    simp only [codeOk, drawsOk, Bool.and_eq_true] at hc hdr
    have hl1 : LoopsOK P S n c1 := fun b hb => hl b (List.mem_append.2 (.inl hb))
    have hl2 : LoopsOK P S n c2 := fun b hb => hl b (List.mem_append.2 (.inr hb))
    refine wp_seq (ih1 h hc.1 hdr.1 hl1 c wE m a w _ hg hd fun x s' m' a' w' hk hg' hd' => ?_)
    cases x with
    | normal =>
      show Code.wp P c2 Q a' w'
      exact ih2 hk hc.2 hdr.2 hl2 c wE m' a' w' Q hg' hd' hQ
    | exit id => exact hQ (.exit id) s' m' a' w' hk hg' hd'
    | ret => exact hQ .ret s' m' a' w' hk hg' hd'
  | cond cd c1 c2 ih1 ih2 =>
    intro s K h hc hdr hl c wE m a w Q hg hd hQ
    simp only [codeOk, drawsOk, Bool.and_eq_true] at hc hdr
    have hl1 : LoopsOK P S n c1 := fun b hb => hl b (List.mem_append.2 (.inl hb))
    have hl2 : LoopsOK P S n c2 := fun b hb => hl b (List.mem_append.2 (.inr hb))
    have h : (match opndK cd s.fr with
      | .bool b => @Bool.rec (fun _ => Prop) (codeC S c2 s K) (codeC S c1 s K) b
      | .ub b => (b = true → codeC S c1 s K) ∧ (b = false → codeC S c2 s K)
      | _ => False) := h
    have hv := opnd_vr hg.here.fr cd
    rw [opndK_eq] at h
    split at h
    · rename_i b hb
      rw [hb] at hv
      have : a.eval cd = .bool b := by cases hh : a.eval cd <;> rw [hh] at hv <;> cases hv; rfl
      cases b with
      | true => exact wp_cond_true this (ih1 h hc.1 hdr.1 hl1 c wE m a w Q hg hd hQ)
      | false => exact wp_cond_false this (ih2 h hc.2 hdr.2 hl2 c wE m a w Q hg hd hQ)
    · rename_i b hb
      rw [hb] at hv
      have : a.eval cd = .bool b := by cases hh : a.eval cd <;> rw [hh] at hv <;> cases hv; rfl
      cases b with
      | true => exact wp_cond_true this (ih1 (h.1 rfl) hc.1 hdr.1 hl1 c wE m a w Q hg hd hQ)
      | false => exact wp_cond_false this (ih2 (h.2 rfl) hc.2 hdr.2 hl2 c wE m a w Q hg hd hQ)
    · exact h.elim
  | block id b ih =>
    intro s K h hc hdr hl c wE m a w Q hg hd hQ
    refine wp_block (ih h (by simpa [codeOk] using hc) (by simpa [drawsOk] using hdr) hl c wE m a w _ hg hd fun x s' m' a' w' hk hg' hd' => ?_)
    cases x with
    | normal => exact hQ .normal s' m' a' w' hk hg' hd'
    | ret => exact hQ .ret s' m' a' w' hk hg' hd'
    | exit k =>
      have hk : bK (Nat.beq k id) (K .normal s') (K (.exit k) s') := hk
      show (if k = id then Q .normal a' w' else Q (.exit k) a' w')
      by_cases e : k = id
      · subst e
        rw [beq_same] at hk
        rw [if_pos rfl]
        exact hQ .normal s' m' a' w' hk hg' hd'
      · rw [beq_ne e] at hk
        rw [if_neg e]
        exact hQ (.exit k) s' m' a' w' hk hg' hd'
  | loop b ih =>
    intro s K h hc hdr hl c wE m a w Q hg hd hQ
    have h : optC (fun L => L s K) (S.loop (keyOf b)) := h
    obtain ⟨L, h1, h2⟩ := optC_some h
    exact hl b (by simp [loopsOf]) L h1 s K h2 c wE m a w Q hg hd hQ
  | exit id =>
    intro s K h _ _ _ c wE m a w Q hg hd hQ
    exact wp_exit (hQ (.exit id) s m a w h hg hd)
  | ret =>
    intro s K h _ _ _ c wE m a w Q hg hd hQ
    exact wp_ret (hQ .ret s m a w h hg hd)
  | _ =>
    intro s K h
    exact h.elim


theorem exitV_ok {n : Nat} (hn : n ≤ 1023) : ∀ {ex : List Exi}, (ex.all fun e => e.vt.cnt.ble MANY && e.live.length.ble 1023) = true → ∀ {ax : AX} {s : St} {k : ExT ex → Prop}, exitV ex ax s k → ∀ {c : Ctx} {wE : World} {m : Map} {a : Act} {w : World}, Good n c wE m s a w →
    ∃ r, k r ∧ ∀ K : AX → St → Prop, outK ex r K → ∃ s', K ax s' ∧ ∃ m', Good n c wE m' s' a w
  | [], _, ax, s, k, h, _, _, _, _, _, _ => h.elim
  | [e], hx, ax, s, k, h, c, wE, m, a, w, hg => by
    simp only [List.all_cons, List.all_nil, Bool.and_true, Bool.and_eq_true] at hx
    obtain ⟨h1, h2⟩ := must_and (h : must (AX.same ax e.ax) (view (slots e.live s) e.vt s k))
    have hax : ax = e.ax := by
      revert h1
      cases ax <;> cases he : e.ax <;> simp [AX.same]
    obtain ⟨x, h3, m', h4⟩ := view_ent hn (ble_le hx.1) (ble_le hx.2) h2 hg
    exact ⟨x, h3, fun K hK => ⟨_, by rw [hax]; exact hK, m', h4⟩⟩
  | e :: f :: r, hx, ax, s, k, h, c, wE, m, a, w, hg => by
    rw [List.all_cons, Bool.and_eq_true] at hx
    obtain ⟨hx1, hx2⟩ := hx
    simp only [Bool.and_eq_true] at hx1
    have h : bK (AX.same ax e.ax) (view (slots e.live s) e.vt s fun x => k (.inl x)) (exitV (f :: r) ax s fun y => k (.inr y)) := h
    cases hs : AX.same ax e.ax with
    | true =>
      rw [hs] at h
      have hax : ax = e.ax := by
        revert hs
        cases ax <;> cases he : e.ax <;> simp [AX.same]
      obtain ⟨x, h3, m', h4⟩ := view_ent hn (ble_le hx1.1) (ble_le hx1.2) h hg
      exact ⟨.inl x, h3, fun K hK => ⟨_, by rw [hax]; exact hK, m', h4⟩⟩
    | false =>
      rw [hs] at h
      obtain ⟨y, h3, h4⟩ := exitV_ok hn hx2 (ax := ax) (s := s) (k := fun y => k (.inr y)) h hg
      exact ⟨.inr y, h3, fun K hK => h4 K hK⟩

/-- A loop by its rounds. -/
theorem loopT_ok (hT : TyOK P S.T) (hC : ConOK P S) (hmx : P.follows .mixedOrders = true) {n : Nat} (hn : n.ble 1023 = true) {b : Code} (hc : codeOk n b = true) (hdr : drawsOk b = true) (hl : LoopsOK P S n b)
    {live : List Nat} {vt : VT} {ex : List Exi} {t : vt.T → T (vt.T ⊕ ExT ex)} (hx : (vt.cnt.ble MANY && live.length.ble 1023 && ex.all fun e => e.vt.cnt.ble MANY && e.live.length.ble 1023) = true)
    (w : ∀ p K, roundT S live vt ex b p K = (t p).wp K) : LoopOK P n (loopT live vt ex (fixT t)) b := by
  have hn := ble_le hn
  simp only [Bool.and_eq_true] at hx
  obtain ⟨⟨hx1, hx2⟩, hx3⟩ := hx
  intro s K hL c wE m a w0 Q hg hd hQ
  have hL : view (slots live s) vt s fun p => ∃ r, fixT t p = some r ∧ outK ex r K := hL
  obtain ⟨p, ⟨r, h1, h2⟩, m1, hg1⟩ := view_ent hn (ble_le hx1) (ble_le hx2) hL hg
  obtain ⟨N, hN⟩ := fixT_iter h1
  refine wp_loop_rounds N ?_
  have key : ∀ (N : Nat) (p : vt.T), iterT t N p = some r → ∀ {m : Map} {a : Act} {w0 : World}, Good n c wE m (stOf live vt p) a w0 → a.defers = [] → Code.rounds P b Q N a w0 := by
    intro N
    induction N with
    | zero => intro p h; cases h
    | succ N ih =>
      intro p h m a w0 hg hd
      rw [rounds_succ]
      rw [iterT] at h
      have hw : ∃ x, (t p).run = some x ∧ (x = .inr r ∨ ∃ q, x = .inl q ∧ iterT t N q = some r) := by
        split at h
        · cases h
        · rename_i q hq; exact ⟨_, hq, .inr ⟨q, rfl, h⟩⟩
        · rename_i r' hq; cases h; exact ⟨_, hq, .inl rfl⟩
      obtain ⟨x, hx0, hx1'⟩ := hw
      have hr : roundT S live vt ex b p (fun y => y = x) := by rw [w]; exact T.run_wp _ hx0 rfl
      refine codeC_sem hT hC hmx hn b hr hc hdr hl c wE m a w0 _ hg hd fun ax s' m' a' w' hk hg' hd' => ?_
      cases ax with
      | normal =>
        have hk : view (slots live s') vt s' fun q => Sum.inl q = x := hk
        obtain ⟨q, h3, m2, hg2⟩ := view_ent hn (ble_le hx1) (ble_le hx2) hk hg'
        rcases hx1' with e | ⟨q', e, h4⟩
        · rw [e] at h3; cases h3
        · rw [e] at h3; cases h3
          exact ih q h4 hg2 hd'
      | exit id =>
        have hk : exitV ex (.exit id) s' fun y => Sum.inr y = x := hk
        obtain ⟨y, h3, h4⟩ := exitV_ok hn hx3 hk hg'
        rcases hx1' with e | ⟨q', e, _⟩
        · rw [e] at h3; cases h3
          obtain ⟨s2, k1, m2, k2⟩ := h4 K h2
          exact hQ (.exit id) s2 m2 a' w' k1 k2 hd'
        · rw [e] at h3; cases h3
      | ret =>
        have hk : exitV ex .ret s' fun y => Sum.inr y = x := hk
        obtain ⟨y, h3, h4⟩ := exitV_ok hn hx3 hk hg'
        rcases hx1' with e | ⟨q', e, _⟩
        · rw [e] at h3; cases h3
          obtain ⟨s2, k1, m2, k2⟩ := h4 K h2
          exact hQ .ret s2 m2 a' w' k1 k2 hd'
        · rw [e] at h3; cases h3
  exact key N p hN hg1 hd

end

/-! ### Functions -/

section
variable {P : Program} {S : SE}

theorem cr_tup {ok : Nat → Prop} {h : Array Obj} {m : Map} {vs : List AV} {cv : Value} (hv : VR ok h m (oneOf vs) cv) : ∃ C : Array Value, CR ok h m vs C 0 ∧ ∀ (ok' : Nat → Prop) (m' : Map) (ws : List AV), ws.length = vs.length → CR ok' h m' ws C 0 → VR ok' h m' (oneOf ws) cv := by
  match vs, hv with
  | [a], hv =>
    refine ⟨#[cv], cr_of1 rfl hv, fun ok' m' ws hl hc => ?_⟩
    match ws, hl, hc with
    | [b], _, hc =>
      obtain ⟨v, h1, h2⟩ := cr_to1 hc
      simp at h1; subst h1
      exact h2
  | [], hv =>
    obtain ⟨us, rfl, h1, h2⟩ := VR.tup_inv (hv : VR ok h m (.tup []) cv)
    refine ⟨us, h2, fun ok' m' ws hl hc => ?_⟩
    match ws, hl with
    | [], _ => exact .tup' h1 hc
  | a :: b :: r, hv =>
    obtain ⟨us, rfl, h1, h2⟩ := VR.tup_inv (hv : VR ok h m (.tup (a :: b :: r)) cv)
    refine ⟨us, h2, fun ok' m' ws hl hc => ?_⟩
    match ws, hl with
    | c :: d :: q, hl => exact .tup' (by rw [h1]; exact hl.symm) hc

/-- What a function answers, by its text. -/
theorem fun_A (hT : TyOK P S.T) (hC : ConOK P S) (hmx : P.follows .mixedOrders = true) {f : FuncId} {fn : Func} (hf : FnOne P f fn)
    (hl : ∀ code, fn.body = some code → LoopsOK P S fn.ntmps code) {r : VT} (hr : r.cnt.ble MANY = true) {args' : List AV} {y : r.T} {args : List AV} (h : funA S fn args' r fun z => z = y) (hle : CLe args args') {cx : Ctx} {m : Map} {w : World} {cargs : Array Value} (hs : SR cx m [] [] w) (hca : CR (okB cx.X m [] []) w.heap m args cargs 0) (hsz : cargs.size = args.length)
    (hm : ∀ b, m b = none) : CallsTo P f cargs w fun cv w' => ∃ m', After cx m [] [] w 0 (oneOf (r.en y 0)) (r.hp y 0) [] WIDE cv m' w' := by
  unfold funA at h
  obtain ⟨code, hb, h⟩ := optC_some h
  obtain ⟨hlen, h⟩ := must_and h
  right
  refine ⟨run_callFunc hf.1 hb hf.2.2 cargs w, ?_⟩
  have hok := hf.2.1
  unfold fnOk at hok
  rw [hb] at hok
  simp only [Bool.and_eq_true] at hok
  have hat := entered (fn := fn) (nx := 0) hs (hca.le hle) (by rw [hsz, hle.1]) (fun b _ => hm b) (ble_le hlen) (ble_le hok.1)
  refine calls_of_wp hf.1 hb ?_
  have hg : Good fn.ntmps cx w m ⟨Fr.args args' 0 (Fr.full 10), [], [], 0⟩ { tmps := cargs ++ Array.replicate (fn.ntmps - cargs.size) undef, defers := [] } w :=
    ⟨hat, fun β C e z h1 h2 => ⟨⟨h1, fun b o L hb => by cases hb⟩, h2⟩⟩
  refine codeC_sem hT hC hmx (ble_le hok.1) code h hok.2.1 hok.2.2 (hl code hb) cx w m _ w _ hg rfl fun ax s' m' a' w' hk hg' hd' => ?_
  obtain ⟨hnx, hk⟩ := must_and (hk : must (s'.nx.ble WIDE) (@AX.rec (fun _ => Prop) (endA S.T fn.results.toList r s' fun z => z = y) (fun _ => False) (endA S.T fn.results.toList r s' fun z => z = y) ax))
  have fin : endA S.T fn.results.toList r s' (fun z => z = y) → a'.defers = [] ∧ ∃ cv, (results fn a'.tmps).run P w' = .ok cv w' ∧ ∃ u, Ending.returned cv = .returned u ∧ ∃ m', After cx m [] [] w 0 (oneOf (r.en y 0)) (r.hp y 0) [] WIDE u m' w' := by
    intro h
    obtain ⟨vs, h1, h2⟩ := optC_some h
    have hans : ansOf S.T fn.results.toList s' = .ok (oneOf vs) s'.H s'.F s'.nx := by unfold ansOf; rw [h1]
    obtain ⟨_, _, _, cv, g1, g2⟩ := sim_ans hT hg'.here hans
    obtain ⟨z, rfl, m2, k1, k2, k3, k4, k5⟩ := view_core h2 hg'.here.sr
    obtain ⟨C, q1, q2⟩ := cr_tup g2
    refine ⟨hd', cv, g1, cv, rfl, m2, ⟨⟨fun b L hb => (by rw [hm b] at hb; cases hb), fun β C e z' ho hh => ?_⟩, k1, q2 _ _ _ k4.symm (k3 C 0 q1), Nat.zero_le _, fun b hb => .inr ⟨Nat.zero_le b, ?_⟩⟩⟩
    · obtain ⟨e1, e2⟩ := hg'.old β C e z' ho.1 hh
      exact ⟨k2 β e1, e2⟩
    · rcases Nat.lt_or_ge b MANY with hlt | hge
      · exact Nat.lt_of_lt_of_le hlt (by decide)
      · exact absurd (k5 b (Nat.le_trans (ble_le hr) hge)) hb
  cases ax with
  | normal => exact fin hk
  | ret => exact fin hk
  | exit k => exact hk.elim

/-! Contracts in a row. -/

abbrev Cons := List (FuncId × (List AV → Option Con))

def conOf : Cons → FuncId → Option (List AV → Option Con)
  | [], _ => none
  | p :: r, f => bif p.1.beq f then some p.2 else conOf r f

/-- A contract of one function, by what is known of others. -/
def ConOne (P : Program) (f : FuncId) (g : List AV → Option Con) : Prop :=
  ∀ args c r, g args = some c → preP c.pre → c.o = some r → ∀ (cx : Ctx) (m : Map) (w : World) (cargs : Array Value), SR cx m [] [] w → CR (okB cx.X m [] []) w.heap m args cargs 0 → cargs.size = args.length →
    (∀ b, m b = none) → CallsTo P f cargs w fun cv w' => ∃ m', After cx m [] [] w 0 (c.v r) (c.H r) [] WIDE cv m' w'

def ConsOK (P : Program) (l : Cons) : Prop := ∀ p ∈ l, ConOne P p.1 p.2

theorem consOK_nil {P : Program} : ConsOK P [] := fun p hp => by cases hp
theorem consOK_cons {P : Program} {f : FuncId} {g : List AV → Option Con} {l : Cons} (h : ConOne P f g) (hl : ConsOK P l) : ConsOK P ((f, g) :: l) := fun p hp => by
  rcases List.mem_cons.1 hp with rfl | hp
  · exact h
  · exact hl p hp
theorem conOne_or {P : Program} {f : FuncId} {g h : List AV → Option Con} (h1 : ConOne P f g) (h2 : ConOne P f h) : ConOne P f (conOr g h) := fun args c r hc hp => by
  unfold conOr at hc
  split at hc
  · rename_i c' hc'
    cases hc
    exact h1 args c r hc' hp
  · exact h2 args c r hc hp

omit [Syms] in
theorem conOf_mem {f : FuncId} {g : List AV → Option Con} : ∀ {l : Cons}, conOf l f = some g → (f, g) ∈ l
  | [], h => by cases h
  | p :: r, h => by
    rw [conOf] at h
    cases hf : p.1.beq f with
    | true =>
      rw [hf, cond_true] at h
      have := beq_eq' hf
      subst this
      cases h
      exact List.mem_cons_self
    | false =>
      rw [hf, cond_false] at h
      exact List.mem_cons_of_mem _ (conOf_mem h)

theorem conOK_of {P : Program} {S : SE} {l : Cons} (h : ConsOK P l) (hS : S.con = conOf l) (hh : HookOK P S := by exact fun _ _ h => nomatch h) : ConOK P S := ⟨hh, fun f g args c r h1 => by
  rw [hS] at h1
  exact h (f, g) (conOf_mem h1) args c r⟩

/-- A function's contract, by its tree. -/
theorem con_T (hT : TyOK P S.T) (hC : ConOK P S) (hmx : P.follows .mixedOrders = true) {f : FuncId} {fn : Func} (hf : FnOne P f fn) (hl : ∀ code, fn.body = some code → LoopsOK P S fn.ntmps code) {a : DT} {r : VT} (hr : r.cnt.ble MANY = true) {t : a.T → T r.T}
    (w : ∀ x K, funT S fn a r x K = (t x).wp K) : ConOne P f (conT a r fun x => (t x).run) := by
  intro args c y hc hp ho cx m w0 cargs hs hca hsz hm
  unfold conT at hc
  split at hc
  · rename_i x hx
    cases hc
    exact fun_A hT hC hmx hf hl hr (args' := a.en x) (y := y) (show funT S fn a r x (fun z => z = y) by rw [w]; exact T.run_wp _ ho rfl) (DT.deW_le hx hp) hs hca hsz hm
  · cases hc

/-- A contract told in other words. -/
theorem con_eq {f : FuncId} {a : DT} {r : VT} {F G : a.T → Option r.T} (h : ConOne P f (conT a r F)) (e : ∀ x y, G x = some y → F x = some y) : ConOne P f (conT a r G) := by
  intro args c y hc hp ho
  unfold conT at hc
  split at hc
  · rename_i x hx
    cases hc
    exact h args ⟨_, _, F x, _, _⟩ y (by unfold conT; rw [hx]) hp (e x y ho)
  · cases hc

/-! The loops of a function. -/

theorem loops_nil {n : Nat} {code : Code} (h : (loopsOf code).length.beq 0 = true) : LoopsOK P S n code := fun b hb => by
  have : loopsOf code = [] := List.length_eq_zero_iff.1 (beq_eq' h)
  rw [this] at hb; cases hb

/-- Each of some loops is known. -/
def LoopsIn (P : Program) (S : SE) (n : Nat) : List Code → Prop
  | [] => True
  | b :: r => (∀ L, S.loop (keyOf b) = some L → LoopOK P n L b) ∧ LoopsIn P S n r

theorem loopsIn_ok {n : Nat} : ∀ {l : List Code}, LoopsIn P S n l → ∀ b ∈ l, ∀ L, S.loop (keyOf b) = some L → LoopOK P n L b
  | b :: r, h, b', hb, L, hL => by
    rcases List.mem_cons.1 hb with rfl | hb
    · exact h.1 L hL
    · exact loopsIn_ok h.2 b' hb L hL

theorem loopsIn_at {n : Nat} : ∀ {l : List Code}, (∀ i, i < l.length → ∀ L, S.loop (keyOf (l.getD i .skip)) = some L → LoopOK P n L (l.getD i .skip)) → LoopsIn P S n l
  | [], _ => trivial
  | b :: r, h => ⟨fun L hL => h 0 (by simp) L hL, loopsIn_at fun i hi L hL => h (i + 1) (by simpa using hi) L hL⟩

/-- The loops of a text, by their places; a loop's meaning by its key. -/
def lpOf : List (Nat × (St → (AX → St → Prop) → Prop)) → Nat → Option (St → (AX → St → Prop) → Prop)
  | [], _ => none
  | p :: r, k => bif p.1.beq k then some p.2 else lpOf r k

theorem loops_of {n : Nat} {code : Code} (h : LoopsIn P S n (loopsOf code)) : LoopsOK P S n code := fun b hb => loopsIn_ok h b hb

/-- One loop by its key. -/
theorem loopIn_cons {n : Nat} {b : Code} {r : List Code} {L : St → (AX → St → Prop) → Prop} (hk : S.loop (keyOf b) = some L) (h : LoopOK P n L b) (hr : LoopsIn P S n r) : LoopsIn P S n (b :: r) := ⟨fun L' hL' => by
  rw [hk] at hL'; cases hL'; exact h, hr⟩

end

/-! ### A call without arguments that was run -/

theorem con_ran {P : Program} {T : Tabs} (hT : TyOK P T) (hF : FnOK P T) (hmx : P.follows .mixedOrders = true) {cfg : Cfg} (hp : PrimOK P cfg) {N : Nat} {f : FuncId} {r : VT} {y : r.T} {v : AV} (h : treeAns (acallK T cfg N f [] [] [] 0) = some v) (hv : VLe v (oneOf (r.en y 0))) (hh : r.hp y 0 = []) : ConOne P f (conT .nil r fun _ => some y) := by
  intro args c z hc _ ho cx m w cargs hs hr hsz hm
  unfold conT at hc
  split at hc
  · rename_i x hx
    cases hc
    cases ho
    obtain ⟨h1, _⟩ := DT.deW_le hx trivial
    obtain rfl : args = [] := List.length_eq_zero_iff.1 h1
    unfold treeAns at h
    split at h
    · rename_i v' H' F' n hacc
      cases hn : n.ble WIDE with
      | false => rw [hn, cond_false] at h; cases h
      | true =>
        rw [hn, cond_true] at h
        split at h
        · rename_i r' hres
          have h := Option.some.inj h
          rw [acallK_eq] at hacc
          have key := acall_ok hT hF hp hmx N f [] [] [] 0 _ _ _ _ hacc cx m w cargs hs hr hsz (fun b _ => hm b)
          refine key.mono fun cv w' ⟨m', ha⟩ => ⟨m', ?_⟩
          have ht := ha.tree hres (Nat.le_of_ble_eq_true hn)
          rw [h] at ht
          show After cx m [] [] w 0 (oneOf (r.en y 0)) (r.hp y 0) [] WIDE cv m' w'
          rw [hh]
          exact ⟨ht.ext, ht.sr, hv _ _ _ _ ht.vr, ht.le, ht.dom⟩
        · cases h
    · cases h
  · cases hc

/-! ### Numbers -/

omit [Syms] in
theorem wrap64 {n : Int} (h1 : -9223372036854775808 ≤ n) (h2 : n ≤ 9223372036854775807) : IntKind.wrap .i64 n = n := by
  have hb : (2 : Int) ^ IntKind.i64.bits = 18446744073709551616 := by decide
  have hc : (2 : Int) ^ (IntKind.i64.bits - 1) = 9223372036854775808 := by decide
  have hs : IntKind.i64.signed = true := rfl
  unfold IntKind.wrap
  simp only [hb, hc, hs, Bool.true_and, decide_eq_true_eq]
  split <;> omega

/-! ### A law's call -/

theorem law_T {P : Program} {S : SE} (hT : TyOK P S.T) (hC : ConOK P S) (hmx : P.follows .mixedOrders = true) {f : FuncId} {fn : Func} (hf : FnOne P f fn) {a : DT} {F : a.T → Option Bool} (hc : ConOne P f (conT a (.dt .bool) F)) {x : a.T} (hx : F x = some true) {args : List AV} (he : whole (a.de args) = some x) (hck : preP (a.chk args))
    {w : World} {cargs : Array Value} (hcr : CR (fun _ => True) w.heap noMap args cargs 0) (hsz : cargs.size = args.length) (hcall : (callFunc f cargs).run P w = .ok (.enter f cargs) w) :
    Calls P f cargs w fun e w' => e = .returned (.bool true) ∧ Kept w w' := by
  have hs : SR ⟨fun _ => False, fun _ => False, w⟩ noMap [] [] w :=
    ⟨fun β h => h.elim, fun b o hb => (by cases hb), fun b o _ _ _ _ _ hb => (by cases hb), fun b o L _ hb => (by cases hb), fun b o L _ hb => (by cases hb), Keep.refl _ _⟩
  have key := hc args ⟨_, _, F x, _, _⟩ true (by unfold conT; rw [he]) hck hx _ _ _ _ hs
    (hcr.mono (fun β C e z _ hh => ⟨⟨fun h => h, fun b o L hb => (by cases hb)⟩, hh⟩) (MLe.refl _)) hsz (fun _ => rfl)
  rcases key with ⟨v, w', h1, _⟩ | ⟨_, h2⟩
  · rw [hcall] at h1; cases h1
  · refine h2.mono fun e w' ⟨v, he, m', ha⟩ => ?_
    have hv : VR _ _ _ (.ub true) v := ha.vr
    cases hv
    exact ⟨he, ha.sr.keep⟩

/-- A row of one argument, of more. -/
theorem cr_one {h : Array Obj} {a : AV} {v : Value} (ha : VR (fun _ => True) h noMap a v) : CR (fun _ => True) h noMap [a] #[v] 0 := cr_cons rfl ha cr_nil
theorem cr_two {h : Array Obj} {a b : AV} {v u : Value} (ha : VR (fun _ => True) h noMap a v) (hb : VR (fun _ => True) h noMap b u) : CR (fun _ => True) h noMap [a, b] #[v, u] 0 := cr_cons rfl ha (cr_cons rfl hb cr_nil)

end Go.Proofs.Ytmkmjjodiicmlaa.VS

/- Functions that call themselves; hooks in a row; the loops of a text. Conditions: none. -/
namespace Go.Proofs.Ytmkmjjodiicmlaa.VS

/-! ### Functions that call themselves -/

def recN {α ρ : Type} (Φ : (α → Option ρ) → α → Option ρ) : Nat → α → Option ρ
  | 0 => fun _ => none
  | n + 1 => Φ (recN Φ n)

open Classical in
noncomputable def recT {α ρ : Type} (Φ : (α → Option ρ) → α → Option ρ) (x : α) : Option ρ :=
  if h : ∃ r n, recN Φ n x = some r then some h.choose else none

theorem recT_iter {α ρ : Type} {Φ : (α → Option ρ) → α → Option ρ} {x : α} {r : ρ} (h : recT Φ x = some r) : ∃ n, recN Φ n x = some r := by
  unfold recT at h
  split at h
  · rename_i hx
    cases h
    exact hx.choose_spec
  · cases h

/-- What is answered to a depth, and to each greater one. -/
theorem recT_of {α ρ : Type} {Φ : (α → Option ρ) → α → Option ρ} {x : α} {r : ρ} {n : Nat} (h : ∀ m, n ≤ m → recN Φ m x = some r) (hm : ∀ m s, recN Φ m x = some s → m < n → s = r) : recT Φ x = some r := by
  have hx : ∃ r n, recN Φ n x = some r := ⟨r, n, h n (Nat.le_refl n)⟩
  unfold recT
  rw [dif_pos hx]
  obtain ⟨m, hm'⟩ := hx.choose_spec
  rcases Nat.lt_or_ge m n with hlt | hge
  · rw [hm m _ hm' hlt]
  · rw [h m hge] at hm'
    exact hm'.symm

/-- What asks no more of what it calls than it answers. -/
def Mono {α ρ : Type} (Φ : (α → Option ρ) → α → Option ρ) : Prop := ∀ f g : α → Option ρ, (∀ x r, f x = some r → g x = some r) → ∀ x r, Φ f x = some r → Φ g x = some r

theorem recN_succ {α ρ : Type} {Φ : (α → Option ρ) → α → Option ρ} (hΦ : Mono Φ) : ∀ (n : Nat) (x : α) (r : ρ), recN Φ n x = some r → recN Φ (n + 1) x = some r
  | 0, _, _, h => by cases h
  | n + 1, x, r, h => hΦ _ _ (recN_succ hΦ n) x r h

theorem recN_le {α ρ : Type} {Φ : (α → Option ρ) → α → Option ρ} (hΦ : Mono Φ) {n m : Nat} (h : n ≤ m) {x : α} {r : ρ} (hr : recN Φ n x = some r) : recN Φ m x = some r := by
  induction h with
  | refl => exact hr
  | step _ ih => exact recN_succ hΦ _ _ _ ih

theorem recN_rec {α ρ : Type} {Φ : (α → Option ρ) → α → Option ρ} (hΦ : Mono Φ) {n : Nat} {x : α} {r : ρ} (h : recN Φ n x = some r) : recT Φ x = some r := by
  have hx : ∃ r n, recN Φ n x = some r := ⟨r, n, h⟩
  unfold recT
  rw [dif_pos hx]
  obtain ⟨m, hm⟩ := hx.choose_spec
  have h1 := recN_le hΦ (Nat.le_max_left n m) h
  have h2 := recN_le hΦ (Nat.le_max_right n m) hm
  rw [h1] at h2
  exact h2.symm

variable [Syms]

theorem con_rec {P : Program} {f : FuncId} {a : DT} {r : VT} {Φ : (a.T → Option r.T) → a.T → Option r.T} (h : ∀ self, ConOne P f (conT a r self) → ConOne P f (conT a r (Φ self))) : ConOne P f (conT a r (recT Φ)) := by
  have key : ∀ n, ConOne P f (conT a r (recN Φ n)) := by
    intro n
    induction n with
    | zero =>
      intro args c y hc _ ho
      unfold conT at hc
      split at hc
      · cases hc; cases ho
      · cases hc
    | succ n ih => exact h _ ih
  intro args c y hc hp ho
  unfold conT at hc
  split at hc
  · rename_i x hx
    cases hc
    obtain ⟨n, hn⟩ := recT_iter ho
    exact key n args ⟨_, _, recN Φ n x, _, _⟩ y (by unfold conT; rw [hx]) hp hn
  · cases hc

/-! ### Hooks -/

abbrev Hook := List AV → Heap → List Nat → Nat → Kont → Prop

def hookOf : List (FuncId × Hook) → FuncId → Option Hook
  | [], _ => none
  | p :: r, f => bif p.1.beq f then some p.2 else hookOf r f

def HookOne (P : Program) (f : FuncId) (h : Hook) : Prop :=
  ∀ args H F id k, h args H F id k → ∀ (c : Ctx) (m : Map) (w : World) (cargs : Array Value), SR c m H F w → CR (okB c.X m H F) w.heap m args cargs 0 → cargs.size = args.length →
    (∀ b, id ≤ b → b < id + STRIDE → m b = none) → CallsTo P f cargs w fun cv w' => ∃ v e rd fz m', k v e rd fz ∧ Done c m H F w id v e fz cv m' w'

def HooksOK (P : Program) (l : List (FuncId × Hook)) : Prop := ∀ p ∈ l, HookOne P p.1 p.2

theorem hooks_nil {P : Program} : HooksOK P [] := fun p hp => by cases hp
theorem hooks_cons {P : Program} {f : FuncId} {g : Hook} {l : List (FuncId × Hook)} (h : HookOne P f g) (hl : HooksOK P l) : HooksOK P ((f, g) :: l) := fun p hp => by
  rcases List.mem_cons.1 hp with rfl | hp
  · exact h
  · exact hl p hp

omit [Syms] in
theorem hookOf_mem {f : FuncId} {g : Hook} : ∀ {l : List (FuncId × Hook)}, hookOf l f = some g → (f, g) ∈ l
  | [], h => by cases h
  | p :: r, h => by
    rw [hookOf] at h
    cases hf : p.1.beq f with
    | true =>
      rw [hf, cond_true] at h
      have := beq_eq' hf
      subst this
      cases h
      exact List.mem_cons_self
    | false =>
      rw [hf, cond_false] at h
      exact List.mem_cons_of_mem _ (hookOf_mem h)

theorem hookOK_of {P : Program} {S : SE} {l : List (FuncId × Hook)} (h : HooksOK P l) (hS : S.hook = hookOf l) : HookOK P S := fun f g h1 => by
  rw [hS] at h1
  exact h (f, g) (hookOf_mem h1)

/-! ### The loops of a text -/

theorem loopsIn_nil {P : Program} {S : SE} {n : Nat} : LoopsIn P S n [] := trivial

theorem loops_code {P : Program} {S : SE} {fn : Func} {l : List Code} (h : (fn.body.map loopsOf).getD [] = l) (hl : LoopsIn P S fn.ntmps l) : ∀ code, fn.body = some code → LoopsOK P S fn.ntmps code := fun code hb => by
  rw [hb] at h
  have h : loopsOf code = l := h
  rw [← h] at hl
  exact loops_of hl

theorem loops_none {P : Program} {S : SE} {fn : Func} (h : ((fn.body.map loopsOf).getD []).length.beq 0 = true) : ∀ code, fn.body = some code → LoopsOK P S fn.ntmps code := fun code hb => by
  rw [hb] at h
  exact loops_nil h

theorem loops_sub {P : Program} {S : SE} {n : Nat} {b : Code} {l : List Code} (h : loopsOf b = l) (hl : LoopsIn P S n l) : LoopsOK P S n b := by
  rw [← h] at hl
  exact loops_of hl

end Go.Proofs.Ytmkmjjodiicmlaa.VS

/- slices.Clone, by its text, at elements of any type. Conditions: none. -/
namespace Go.Proofs.Ytmkmjjodiicmlaa.VS
variable [Syms]

omit [Syms] in
theorem decP_enc : ∀ (g : GT) (x : g.T) {k : g.T → Prop}, k x → decP g (enc g x) k
  | .u8, x, k, h => by
    have hx := x.toNat_lt
    show (0 ≤ (x.toNat : Int) ∧ (x.toNat : Int) < 256) ∧ k (UInt8.ofNat (x.toNat : Int).toNat)
    rw [Int.toNat_natCast, UInt8.ofNat_toNat]
    exact ⟨⟨by omega, by omega⟩, h⟩
  | .bool, x, k, h => by show optC k (dec .bool (enc .bool x)); rw [dec_enc]; exact h
  | .int, x, k, h => by show optC k (dec .int (enc .int x)); rw [dec_enc]; exact h
  | .str, x, k, h => by show optC k (dec .str (enc .str x)); rw [dec_enc]; exact h
  | .strs, x, k, h => by show optC k (dec .strs (enc .strs x)); rw [dec_enc]; exact h
  | .nam, x, k, h => by show optC k (dec .nam (enc .nam x)); rw [dec_enc]; exact h
  | .blk, x, k, h => by show optC k (dec .blk (enc .blk x)); rw [dec_enc]; exact h
  | .nod, x, k, h => by show optC k (dec .nod (enc .nod x)); rw [dec_enc]; exact h
  | .dsk, x, k, h => by show optC k (dec .dsk (enc .dsk x)); rw [dec_enc]; exact h
  | .opn, x, k, h => by show optC k (dec .opn (enc .opn x)); rw [dec_enc]; exact h
  | .opns, x, k, h => by show optC k (dec .opns (enc .opns x)); rw [dec_enc]; exact h
  | .spt, x, k, h => by show optC k (dec .spt (enc .spt x)); rw [dec_enc]; exact h
  | .row, x, k, h => by show optC k (dec .row (enc .row x)); rw [dec_enc]; exact h
  | .akt, x, k, h => by show optC k (dec .akt (enc .akt x)); rw [dec_enc]; exact h
  | .bss, x, k, h => by show optC k (dec .bss (enc .bss x)); rw [dec_enc]; exact h
  | .rss, x, k, h => by show optC k (dec .rss (enc .rss x)); rw [dec_enc]; exact h

omit [Syms] in
theorem decAllP_encs {g : GT} : ∀ {l : List g.T} {k : List g.T → Prop}, k l → decAllP g (encs g l) k
  | [], k, h => by cases g <;> exact h
  | x :: r, k, h => by
    have e : encs g (x :: r) = enc g x :: encs g r := by cases g <;> rfl
    rw [e]
    exact decP_enc g x (decAllP_encs (g := g) (l := r) (k := fun l => k (x :: l)) h)

omit [Syms] in
theorem optC_mono {α : Type} {k k' : α → Prop} (h : ∀ x, k x → k' x) {o : Option α} (hk : optC k o) : optC k' o := by
  cases o with
  | none => exact hk
  | some x => exact h x hk

omit [Syms] in
theorem decB_mono {k k' : UInt8 → Prop} (h : ∀ x, k x → k' x) {a : AV} (hk : decB k a) : decB k' a := by
  unfold decB at hk ⊢
  split at hk
  · exact ⟨hk.1, h _ hk.2⟩
  · exact hk

omit [Syms] in
theorem decP_mono : ∀ (g : GT) {a : AV} {k k' : g.T → Prop}, (∀ x, k x → k' x) → decP g a k → decP g a k'
  | .u8, a, k, k', h, hk => decB_mono h hk
  | .bool, a, k, k', h, hk => optC_mono h hk
  | .int, a, k, k', h, hk => optC_mono h hk
  | .str, a, k, k', h, hk => optC_mono h hk
  | .strs, a, k, k', h, hk => optC_mono h hk
  | .nam, a, k, k', h, hk => optC_mono h hk
  | .blk, a, k, k', h, hk => optC_mono h hk
  | .nod, a, k, k', h, hk => optC_mono h hk
  | .dsk, a, k, k', h, hk => optC_mono h hk
  | .opn, a, k, k', h, hk => optC_mono h hk
  | .opns, a, k, k', h, hk => optC_mono h hk
  | .spt, a, k, k', h, hk => optC_mono h hk
  | .row, a, k, k', h, hk => optC_mono h hk
  | .akt, a, k, k', h, hk => optC_mono h hk
  | .bss, a, k, k', h, hk => optC_mono h hk
  | .rss, a, k, k', h, hk => optC_mono h hk

omit [Syms] in
theorem decAllP_mono {g : GT} : ∀ {l : List AV} {k k' : List g.T → Prop}, (∀ xs, k xs → k' xs) → decAllP g l k → decAllP g l k'
  | [], k, k', h, hk => h _ hk
  | a :: r, k, k', h, hk => decP_mono g (fun x hx => decAllP_mono (g := g) (l := r) (fun l => h (x :: l)) hx) hk

open Classical in
/-- What slices.Clone answers. -/
noncomputable def fClone (by_ : Nat) {α : Type} (l : List α) : Option (List α) := if roomP l.length by_ then some l else none

theorem con_clone {P : Program} {S : SE} (hT : TyOK P S.T) (hC : ConOK P S) (hmx : P.follows .mixedOrders = true) {f : FuncId} {fn : Func} (hf : FnOne P f fn) (hl : ((fn.body.map loopsOf).getD []).length.beq 0 = true) {g : GT} {by_ : Nat}
    (h1 : ∀ K : List g.T → Prop, (roomP 0 by_ → K []) → funA S fn [.nils] (.gs g) K) (h2 : ∀ K : List g.T → Prop, (roomP 0 by_ → K []) → funA S fn [.nev] (.gs g) K)
    (h3 : ∀ (x : g.T) (xs : List g.T) (K : List g.T → Prop), (decAllP g (encs g (x :: xs)) fun ys => roomP ys.length by_ ∧ K ys) → funA S fn [.sl (encs g (x :: xs))] (.gs g) K) : ConOne P f (conT (.L g) (.gs g) (fClone by_)) := by
  intro args c y hc hp ho cx m w cargs hs hca hsz hm
  unfold conT at hc
  split at hc
  · rename_i l hx
    cases hc
    have ho : fClone by_ l = some y := ho
    unfold fClone at ho
    split at ho
    · rename_i hroom
      cases ho
      have hle : CLe args [.tl g l] := DT.deW_le hx hp
      have hca' := hca.le hle
      obtain ⟨v, hv, hvr⟩ := hca' 0 _ rfl
      have hlen : cargs.size = 1 := by rw [hsz, hle.1]; rfl
      have one : ∀ a, VR (okB cx.X m [] []) w.heap m a v → CR (okB cx.X m [] []) w.heap m [a] cargs 0 := fun a ha => cr_of1 hv ha
      have go : ∀ a, VR (okB cx.X m [] []) w.heap m a v → funA S fn [a] (.gs g) (fun z => z = l) → CallsTo P f cargs w fun cv w' => ∃ m', After cx m [] [] w 0 (oneOf ((VT.gs g).en l 0)) ((VT.gs g).hp l 0) [] WIDE cv m' w' := fun a ha hfn =>
        fun_A hT hC hmx hf (loops_none hl) rfl hfn (CLe.refl [a]) hs (one a ha) hlen hm
      cases l with
      | nil =>
        have hvr := VR.tl_iff.1 hvr
        have hvr : VR (okB cx.X m [] []) w.heap m (.sl []) v := by cases g <;> exact hvr
        cases hvr with
        | @slE _ a cp h0 =>
          cases a with
          | none => rw [h0 rfl] at *; exact go .nils .nils (h1 _ fun _ => rfl)
          | some a => exact go .nev .nev (h2 _ fun _ => rfl)
        | sl _ hne _ _ _ _ _ _ _ => exact absurd rfl hne
      | cons x xs => exact go _ (VR.tl_iff.1 hvr) (h3 x xs _ (decAllP_encs ⟨hroom, rfl⟩))
    · cases ho
  · cases hc

end Go.Proofs.Ytmkmjjodiicmlaa.VS

/- Functions that take rows of their caller's own: given up, or lent. Conditions: none. -/
namespace Go.Proofs.Ytmkmjjodiicmlaa.VS

/-! ### Definitions -/

noncomputable section

/-- A function, called with values that hold rows of their own. -/
def funO (S : SE) (fn : Func) (a r : VT) (x : a.T) (K : r.T → Prop) : Prop :=
  optC (fun code => must ((a.en x 0).length.ble fn.ntmps) (codeC S code ⟨Fr.args (a.en x 0) 0 (Fr.full 10), a.hp x 0, [], MANY⟩ (endT S.T fn.results.toList r K))) fn.body

/-- A row of data that is as it was. -/
def objP (p : Prop) : AObj → AObj → Prop
  | .tarr g l, .tarr g' l' => optC (fun l2 => l2 = l' ∧ p) (listOf g' (dec g') (.tl g l))
  | _, _ => False

def keptP (H : Heap) (F : List Nat) (p : Prop) : Heap → Prop :=
  @List.rec (Nat × AObj) (fun _ => Prop) p (fun q _ ih => match hlive H F q.1 with
    | some o => objP ih o q.2
    | none => False)

def endK (T : Tabs) (rs : List ResultVar) (r : VT) (H0 : Heap) (s : St) (K : r.T → Prop) : Prop :=
  optC (fun vs => vw s.H s.F r vs fun y src is rest => must (rest.isEmpty && src.isEmpty && (H0.all fun p => !(isIn p.1 is))) (keptP s.H s.F (K y) H0)) (aresult T s.fr s.H rs)

def endL (T : Tabs) (rs : List ResultVar) (r : VT) (H0 : Heap) (K : r.T → Prop) (x : AX) (s : St) : Prop :=
  must (s.nx.ble WIDE) (@AX.rec (fun _ => Prop) (endK T rs r H0 s K) (fun _ => False) (endK T rs r H0 s K) x)

/-- A function that is lent rows: it leaves them as they are, and answers data. -/
def funL (S : SE) (fn : Func) (a r : VT) (x : a.T) (K : r.T → Prop) : Prop :=
  optC (fun code => must ((a.en x 0).length.ble fn.ntmps) (codeC S code ⟨Fr.args (a.en x 0) 0 (Fr.full 10), a.hp x 0, [], MANY⟩ (endL S.T fn.results.toList r (a.hp x 0) K))) fn.body

/-- No row lies under these numbers. -/
def freshB (H : Heap) (id : Nat) : Bool := H.all fun p => !(id.ble p.1 && p.1.blt (Nat.add id 64))

def giveE (H2 : Heap) (l : List Nat) : Eff := (H2.reverse.map fun p => (p.1, some p.2)) ++ l.map fun b => (b, none)

/-- A call: rows are given up. -/
def giveK (a r : VT) (F : a.T → Option r.T) (args : List AV) (H : Heap) (Fz : List Nat) (id : Nat) (k : Kont) : Prop :=
  vw H Fz a args fun x src is rest => must (rest.isEmpty && onceB (somes src) && disj is (somes src) && freshB H id && r.cnt.ble 64)
    (∃ y, F x = some y ∧ k (oneOf (r.en y id)) (giveE (r.hp y id) (somes src)) [] is)

def lendE (H1 : Heap) : List (Option Nat) → Nat → Eff
  | [], _ => []
  | some b :: r, i => (match hget H1 i with
    | some o => (b, some o) :: lendE H1 r (Nat.succ i)
    | none => lendE H1 r (Nat.succ i))
  | none :: r, i => lendE H1 r (Nat.succ i)

def lendAll (H1 : Heap) : List (Option Nat) → Nat → Bool
  | [], _ => true
  | some _ :: r, i => (match hget H1 i with
    | some _ => lendAll H1 r (Nat.succ i)
    | none => false)
  | none :: r, i => lendAll H1 r (Nat.succ i)

/-- A call: rows are lent. -/
def lendK (a r : VT) (F : a.T → Option r.T) (args : List AV) (H : Heap) (Fz : List Nat) (_id : Nat) (k : Kont) : Prop :=
  vw H Fz a args fun x src is rest => must (rest.isEmpty && onceB (somes src) && disj is (somes src) && lendAll (a.hp x 0) src 0)
    (∃ y, F x = some y ∧ k (oneOf (r.en y 0)) (lendE (a.hp x 0) src 0) [] is)

end

variable [Syms]

section
variable {c : Ctx} {m : Map} {H : Heap} {F : List Nat} {w : World}

/-- What the callee knows: not what is its caller's own, but for what is handed in. -/
def ctxO (c : Ctx) (m : Map) (H : Heap) (F is src : List Nat) (w : World) : Ctx :=
  ⟨ownX c m H F (is ++ src), fun β => ∃ b ∈ src, ∃ o L, hget H b = some o ∧ m b = some L ∧ fp o L β, w⟩

structure Enter (c : Ctx) (m : Map) (H : Heap) (F : List Nat) (w : World) (src : List (Option Nat)) (is : List Nat) (cnt : Nat) (H1 : Heap) (l1 l2 : List AV) (m1 : Map) : Prop where
  sr : SR (ctxO c m H F is (somes src) w) m1 H1 [] w
  ok : ∀ β, okB c.X m H F β → okB (ctxO c m H F is (somes src) w).X m1 H1 [] β
  cr : ∀ (C : Array Value) (o : Nat), CR (okB c.X m H F) w.heap m l1 C o → CR (okB (ctxO c m H F is (somes src) w).X m1 H1 []) w.heap m1 l2 C o
  len : l1.length = l2.length
  far : ∀ b, cnt ≤ b → m1 b = none
  at_ : ∀ i b, src[i]? = some (some b) → m1 i = m b
  inv : ∀ q L, m1 q = some L → ∃ b, src[q]? = some (some b) ∧ m b = some L
  live : ∀ b ∈ somes src, ∃ o, hget H b = some o ∧ b ∉ F
  row : ∀ q o, hget H1 q = some o → q < cnt ∧ (src[q]? = some none ∨ ∃ b, src[q]? = some (some b))
  fps : ∀ q o L, hget H1 q = some o → m1 q = some L → ∃ b p, src[q]? = some (some b) ∧ hget H b = some p ∧ b ∉ F ∧ m b = some L ∧ ∀ β, fp o L β → fp p L β

theorem vw_enter (hs : SR c m H F w) {cnt : Nat} {en : Nat → List AV} {hp : Nat → Heap} {src : List (Option Nat)} {is : List Nat} {l1 : List AV} (h3 : VwG c m H F w cnt en hp src is l1) (hnd : (somes src).Nodup) (hdj : ∀ x ∈ is, x ∉ somes src) :
    ∃ m1, Enter c m H F w src is cnt (hp 0) l1 (en 0) m1 := by
  refine ⟨fun q => (src[q]?.join).bind m, ?_⟩
  generalize hm' : (fun q => (src[q]?.join).bind m : Map) = m'
  have mAt : ∀ i b, src[i]? = some (some b) → m' i = m b := fun i b hb => by rw [← hm']; simp [hb]
  have mInv : ∀ q L, m' q = some L → ∃ b, src[q]? = some (some b) ∧ m b = some L := fun q L hq => by
    rw [← hm'] at hq
    cases hsq : src[q]? with
    | none => simp [hsq] at hq
    | some o =>
      cases o with
      | none => simp [hsq] at hq
      | some b => exact ⟨b, rfl, by simpa [hsq] using hq⟩
  have mNone : ∀ q, src[q]? = some none → m' q = none := fun q hq => by rw [← hm']; simp [hq]
  have xok : ∀ β, okB c.X m H F β → ¬ ownX c m H F (is ++ somes src) β := fun β ho hx => by
    rcases hx with h | ⟨b, o, L, h1, h2, h3, h4, h5⟩
    · exact ho.1 h
    · exact ho.2 b o L h1 h2 h4 h5
  have hfp : ∀ q o L, hget (hp 0) q = some o → m' q = some L → ∃ b p, src[q]? = some (some b) ∧ hget H b = some p ∧ b ∉ F ∧ m b = some L ∧ ∀ β, fp o L β → fp p L β := fun q o L hq hL => by
    obtain ⟨_, _, v⟩ := (h3.vals (fun _ => True) m' 0 (fun _ _ => trivial) (fun i b hb => by rw [Nat.zero_add]; exact mAt i b hb) (fun _ _ _ _ _ _ _ _ => trivial)).2.2 q o hq
    rw [Nat.sub_zero] at v
    rcases v with ⟨g1, _⟩ | ⟨b, p, g1, g2, g3, _⟩
    · rw [mNone q g1] at hL; cases hL
    · obtain ⟨p', g4, g5⟩ := h3.live b (somes_mem.2 (List.mem_of_getElem? g1))
      exact ⟨b, p, g1, g2, g5, by rw [← mAt q b g1]; exact hL, g3 L⟩
  have hok : ∀ β, okB c.X m H F β → okB (ctxO c m H F is (somes src) w).X m' (hp 0) [] β := fun β ho => ⟨xok β ho, fun q o L hq _ hL hf => by
    obtain ⟨b, p, g1, g2, g3, g4, g5⟩ := hfp q o L hq hL
    exact ho.2 b p L g2 g3 g4 (g5 β hf)⟩
  -- a row that is handed in is none of those that are kept
  have xin : ∀ b o L β, hget H b = some o → m b = some L → fp o L β → b ∈ is ++ somes src → ¬ ownX c m H F (is ++ somes src) β := fun b o L β g1 g2 gf g3 hx => by
    rcases hx with h | ⟨b', o', L', h1, h2, h3, h4, h5⟩
    · exact hs.noxf b o L β g1 g2 gf h
    · have := hs.injf b' o' b o L' L β h1 g1 h4 g2 h5 gf
      subst this
      exact h3 g3
  have his : ∀ b ∈ is, ∀ o L β, hget H b = some o → m b = some L → fp o L β → okB (ctxO c m H F is (somes src) w).X m' (hp 0) [] β := fun b hb o L β g1 g2 g3 => ⟨xin b o L β g1 g2 g3 (List.mem_append_left _ hb), fun q o' L' hq _ hL e => by
    obtain ⟨b', p, k1, k2, _, k4, k5⟩ := hfp q o' L' hq hL
    have := hs.injf b' p b o L' L β k2 g1 k4 g2 (k5 β e) g3
    subst this
    exact hdj b' hb (somes_mem.2 (List.mem_of_getElem? k1))⟩
  obtain ⟨v1, v2, v3⟩ := h3.vals (okB (ctxO c m H F is (somes src) w).X m' (hp 0) []) m' 0 hok (fun i b hb => by rw [Nat.zero_add]; exact mAt i b hb) his
  refine ⟨⟨fun β hβ => ?_, fun q o hq => ?_, fun q1 o1 q2 o2 L1 L2 β g1 g2 k1 k2 k3 k4 => ?_, fun q o L β hq hm hf => ?_, fun q o L β hq hm hf => ?_, Keep.refl _ _⟩, hok, v2, v1, fun b hb => ?_, mAt, mInv, h3.live, fun q o hq => ?_, hfp⟩
  · rcases hβ with h | ⟨b, o, L, h1, h2, h3, h4, h5⟩
    · have := hs.xlt _ h; have := hs.keep.size; show β < w.heap.size; omega
    · exact hs.fplt h1 h4 h5
  · obtain ⟨_, _, g⟩ := v3 q o hq
    rw [Nat.sub_zero] at g
    rcases g with ⟨g1, g2⟩ | ⟨b, p, g1, g2, _, g3⟩
    · exact .inr ⟨mNone q g1, g2⟩
    · rcases g3 with ⟨g4, g5⟩ | ⟨L, g4, g5⟩
      · exact .inr ⟨by rw [mAt q b g1]; exact g4, g5⟩
      · exact .inl ⟨L, by rw [mAt q b g1]; exact g4, g5⟩
  · obtain ⟨b1, p1, g3, g7, _, g4, f1⟩ := hfp q1 o1 L1 g1 k1
    obtain ⟨b2, p2, g5, g8, _, g6, f2⟩ := hfp q2 o2 L2 g2 k2
    have := hs.injf b1 p1 b2 p2 L1 L2 β g7 g8 g4 g6 (f1 β k3) (f2 β k4)
    subst this
    exact somes_inj hnd q1 q2 b1 g3 g5
  · obtain ⟨b, p, g1, g3, _, g2, f1⟩ := hfp q o L hq hm
    exact xin b p L β g3 g2 (f1 β hf) (List.mem_append_right _ (somes_mem.2 (List.mem_of_getElem? g1)))
  · obtain ⟨b, p, g1, g3, _, g2, f1⟩ := hfp q o L hq hm
    exact .inl ⟨b, somes_mem.2 (List.mem_of_getElem? g1), p, L, g3, g2, f1 β hf⟩
  · rw [← hm']
    have : src[b]? = none := List.getElem?_eq_none (by rw [h3.len]; exact hb)
    simp [this]
  · obtain ⟨_, g1, g⟩ := v3 q o hq
    rw [Nat.sub_zero] at g
    refine ⟨by omega, ?_⟩
    rcases g with ⟨g1, _⟩ | ⟨b, _, g1, _⟩
    · exact .inl g1
    · exact .inr ⟨b, g1⟩

omit [Syms] in
theorem happ_append (H : Heap) (e1 e2 : Eff) : happ H (e1 ++ e2) = happ (happ H e1) e2 := by
  induction e1 generalizing H with
  | nil => rfl
  | cons p r ih => rw [List.cons_append, happ, happ, ih]

omit [Syms] in
theorem give_news : ∀ (H2 : Heap) (H : Heap) (b : Nat), hget (happ H (H2.reverse.map fun p => (p.1, some p.2))) b = match hget H2 b with
    | some o => some o
    | none => hget H b
  | [], H, b => rfl
  | (k, o) :: r, H, b => by
    rw [List.reverse_cons, List.map_append, happ_append]
    show hget (hset (happ H (r.reverse.map fun p => (p.1, some p.2))) k o) b = _
    rw [hget_hset, give_news r H b, hget_cons]
    by_cases e : k = b
    · rw [if_pos e, if_pos e]
    · rw [if_neg e, if_neg e]

omit [Syms] in
theorem give_dels : ∀ (l : List Nat) (H : Heap) (b : Nat), hget (happ H (l.map fun b => (b, none))) b = if b ∈ l then none else hget H b
  | [], H, b => by simp [happ]
  | a :: r, H, b => by
    show hget (happ (hdel H a) (r.map fun b => (b, none))) b = _
    rw [give_dels r, hget_hdel]
    by_cases e1 : b ∈ r
    · rw [if_pos e1, if_pos (List.mem_cons_of_mem _ e1)]
    · rw [if_neg e1]
      by_cases e : a = b
      · subst e; rw [if_pos rfl, if_pos List.mem_cons_self]
      · rw [if_neg e, if_neg (by simp [e1]; exact fun h => e h.symm)]

omit [Syms] in
theorem give_get (H2 : Heap) (l : List Nat) (H : Heap) (b : Nat) : hget (happ H (giveE H2 l)) b = if b ∈ l then none else match hget H2 b with
    | some o => some o
    | none => hget H b := by
  unfold giveE
  rw [happ_append, give_dels, give_news]

omit [Syms] in
theorem freshB_spec {H : Heap} {id : Nat} (h : freshB H id = true) : ∀ b o, hget H b = some o → ¬ (id ≤ b ∧ b < id + STRIDE) := by
  intro b o hb ⟨h1, h2⟩
  induction H with
  | nil => cases hb
  | cons p r ih =>
    obtain ⟨q, a⟩ := p
    unfold freshB at h
    rw [List.all_cons, Bool.and_eq_true] at h
    rw [hget_cons] at hb
    split at hb
    · rename_i e
      subst e
      have h3 := h.1
      have e1 : id.ble q = true := Nat.ble_eq_true_of_le h1
      have e2 : q.blt (Nat.add id 64) = true := Nat.ble_eq_true_of_le h2
      rw [e1, e2] at h3
      cases h3
    · exact ih h.2 hb

/-- Behind a call that was given rows. -/
theorem give_done (hs : SR c m H F w) {src : List (Option Nat)} {is : List Nat} {cnt : Nat} {H1 : Heap} {l1 l2 : List AV} {m1 : Map} (he : Enter c m H F w src is cnt H1 l1 l2 m1) {id : Nat} (hid : ∀ b, id ≤ b → b < id + STRIDE → m b = none)
    (hfr : ∀ b o, hget H b = some o → ¬ (id ≤ b ∧ b < id + STRIDE)) {m2 : Map} {H2 : Heap} {w' : World} {v : AV} {cv : Value} (h2 : SR (ctxO c m H F is (somes src) w) m2 H2 [] w') (hv : VR (okB (ctxO c m H F is (somes src) w).X m2 H2 []) w'.heap m2 v cv)
    (hkk : ∀ β C e z, okB (ctxO c m H F is (somes src) w).X m1 H1 [] β → w.heap[β]? = some (.cells C e z) → okB (ctxO c m H F is (somes src) w).X m2 H2 [] β ∧ w'.heap[β]? = some (.cells C e z)) (hdom : ∀ b, m2 b ≠ none → id ≤ b ∧ b < id + STRIDE) (hkey : ∀ b o, hget H2 b = some o → id ≤ b ∧ b < id + STRIDE) :
    ∃ m', Done c m H F w id v (giveE H2 (somes src)) is cv m' w' := by
  refine ⟨fun b => if id ≤ b ∧ b < id + STRIDE then m2 b else m b, ?_⟩
  generalize hm' : (fun b => if id ≤ b ∧ b < id + STRIDE then m2 b else m b : Map) = m'
  have mIn : ∀ b, id ≤ b ∧ b < id + STRIDE → m' b = m2 b := fun b hb => by rw [← hm']; exact if_pos hb
  have mOut : ∀ b, ¬ (id ≤ b ∧ b < id + STRIDE) → m' b = m b := fun b hb => by rw [← hm']; exact if_neg hb
  have get : ∀ b o, hget (happ H (giveE H2 (somes src))) b = some o → (hget H2 b = some o ∧ (id ≤ b ∧ b < id + STRIDE)) ∨ (hget H b = some o ∧ b ∉ somes src ∧ ¬ (id ≤ b ∧ b < id + STRIDE)) := fun b o hb => by
    rw [give_get] at hb
    split at hb
    · cases hb
    · rename_i hn
      split at hb
      · rename_i o' ho'
        cases hb
        exact .inl ⟨ho', hkey b _ ho'⟩
      · exact .inr ⟨hb, hn, hfr b o hb⟩
  have mm : MLe m m' := fun b L hb => by
    rw [mOut b (fun h => by rw [hid b h.1 h.2] at hb; cases hb)]; exact hb
  have mm2 : MLe m2 m' := fun b L hb => by rw [mIn b (hdom b (by rw [hb]; simp))]; exact hb
  have A : ∀ β, okB (ctxO c m H F is (somes src) w).X m2 H2 [] β → okB c.X m' (happ H (giveE H2 (somes src))) (is ++ F) β := fun β ho => ⟨fun h => ho.1 (.inl h), fun b o L hb hf hL => by
    rcases get b o hb with ⟨g1, g2⟩ | ⟨g1, g2, g3⟩
    · rw [mIn b g2] at hL
      exact ho.2 b o L g1 (by simp) hL
    · rw [mOut b g3] at hL
      intro e
      exact ho.1 (.inr ⟨b, o, L, g1, fun h => hf (List.mem_append_right _ h), fun h => (List.mem_append.1 h).elim (fun h => hf (List.mem_append_left _ h)) g2, hL, e⟩)⟩
  have B : ∀ β C e z, okB c.X m H F β → w.heap[β]? = some (.cells C e z) → okB c.X m' (happ H (giveE H2 (somes src))) (is ++ F) β ∧ w'.heap[β]? = some (.cells C e z) := fun β C e z h1 h3 => by
    obtain ⟨k1, k2⟩ := hkk β C e z (he.ok β h1) h3
    exact ⟨A β k1, k2⟩
  -- rows that were not handed in
  have blk : ∀ b o L β, hget H b = some o → b ∉ somes src → m b = some L → fp o L β → w'.heap[β]? = w.heap[β]? ∧ β < w.heap.size ∧ ¬ (ctxO c m H F is (somes src) w).O β := fun b o L β g1 g2 g3 gf => by
    have hno : ¬ (ctxO c m H F is (somes src) w).O β := fun ⟨b', hb', o', L', h4, h1, h3⟩ => by
      have := hs.injf b' o' b o L' L β h4 g1 h1 g3 h3 gf
      subst this
      exact g2 hb'
    exact ⟨h2.keep.block β (hs.fplt g1 g3 gf) hno, hs.fplt g1 g3 gf, hno⟩
  refine ⟨⟨mm, B⟩, ⟨hs.xlt, fun b o hb => ?_, fun b1 o1 b2 o2 L1 L2 β g1 g2 k1 k2 k3 k4 => ?_, fun b o L β hb hL hf => ?_, fun b o L β hb hL hf => ?_, ?_⟩, hv.mono (fun β C e z h1 h3 => ⟨A β h1, h3⟩) mm2, fun b hb => ?_⟩
  · rcases get b o hb with ⟨g1, g2⟩ | ⟨g1, g2, g3⟩
    · rw [mIn b g2]
      exact (h2.all b o g1).imp (fun ⟨L, k1, k2⟩ => ⟨L, k1, ObjR.mono k2 (fun β C e z h1 h3 => ⟨A β h1, h3⟩) mm2 (fun _ _ => rfl)⟩) (fun h => h)
    · rw [mOut b g3]
      refine (hs.all b o g1).imp (fun ⟨L, k1, k2⟩ => ⟨L, k1, ObjR.mono k2 B mm (fun β hβ => (blk b o L β g1 g2 k1 hβ).1)⟩) (fun h => h)
  · have cross : ∀ b1 o1 b2 o2 L1 L2, hget H2 b1 = some o1 → m2 b1 = some L1 → hget H b2 = some o2 → b2 ∉ somes src → m b2 = some L2 → fp o1 L1 β → fp o2 L2 β → False := fun b1 o1 b2 o2 L1 L2 q1 q2 q3 q4 q5 q6 q7 => by
      obtain ⟨_, p2, p3⟩ := blk b2 o2 L2 β q3 q4 q5 q7
      rcases h2.ownf b1 o1 L1 β q1 q2 q6 with h | h
      · exact p3 h
      · have h : w.heap.size ≤ β := h
        omega
    rcases get b1 o1 g1 with ⟨q1, q2⟩ | ⟨q1, q2, q3⟩
    · rw [mIn b1 q2] at k1
      rcases get b2 o2 g2 with ⟨p1, p2⟩ | ⟨p1, p2, p3⟩
      · rw [mIn b2 p2] at k2
        exact h2.injf b1 o1 b2 o2 L1 L2 β q1 p1 k1 k2 k3 k4
      · rw [mOut b2 p3] at k2
        exact (cross b1 o1 b2 o2 L1 L2 q1 k1 p1 p2 k2 k3 k4).elim
    · rw [mOut b1 q3] at k1
      rcases get b2 o2 g2 with ⟨p1, p2⟩ | ⟨p1, p2, p3⟩
      · rw [mIn b2 p2] at k2
        exact (cross b2 o2 b1 o1 L2 L1 p1 k2 q1 q2 k1 k4 k3).elim
      · rw [mOut b2 p3] at k2
        exact hs.injf b1 o1 b2 o2 L1 L2 β q1 p1 k1 k2 k3 k4
  · rcases get b o hb with ⟨g1, g2⟩ | ⟨g1, g2, g3⟩
    · rw [mIn b g2] at hL
      exact fun h => h2.noxf b o L β g1 hL hf (.inl h)
    · rw [mOut b g3] at hL
      exact hs.noxf b o L β g1 hL hf
  · rcases get b o hb with ⟨g1, g2⟩ | ⟨g1, g2, g3⟩
    · rw [mIn b g2] at hL
      rcases h2.ownf b o L β g1 hL hf with ⟨b', hb', o', L', h4, h1, h3⟩ | h
      · exact hs.ownf b' o' L' β h4 h1 h3
      · exact .inr (Nat.le_trans hs.keep.size h)
    · rw [mOut b g3] at hL
      exact hs.ownf b o L β g1 hL hf
  · have k := hs.keep
    have k2 := h2.keep
    refine ⟨k2.os.trans k.os, k2.tape.trans k.tape, k2.output.trans k.output, Nat.le_trans k.size k2.size, fun β h1 h3 => ?_⟩
    refine (k2.block β (Nat.lt_of_lt_of_le h1 k.size) fun ⟨b', hb', o', L', h6, h4, h5⟩ => ?_).trans (k.block β h1 h3)
    rcases hs.ownf b' o' L' β h6 h4 h5 with h | h
    · exact h3 h
    · omega
  · by_cases h : id ≤ b ∧ b < id + STRIDE
    · exact .inr h
    · rw [mOut b h] at hb; exact .inl hb

omit [Syms] in
theorem lendE_mem {H1 : Heap} {b : Nat} {q : Option AObj} : ∀ {src : List (Option Nat)} {i : Nat}, (b, q) ∈ lendE H1 src i → ∃ j o, src[j]? = some (some b) ∧ hget H1 (i + j) = some o ∧ q = some o
  | [], i, h => by simp [lendE] at h
  | none :: r, i, h => by
    rw [lendE] at h
    obtain ⟨j, o, h1, h2, h3⟩ := lendE_mem h
    exact ⟨j + 1, o, by simpa using h1, by rw [← h2]; congr 1; simp only [Nat.succ_eq_add_one]; omega, h3⟩
  | some a :: r, i, h => by
    rw [lendE] at h
    split at h
    · rename_i o ho
      rcases List.mem_cons.1 h with e | h
      · cases e; exact ⟨0, o, rfl, ho, rfl⟩
      · obtain ⟨j, o, h1, h2, h3⟩ := lendE_mem h
        exact ⟨j + 1, o, by simpa using h1, by rw [← h2]; congr 1; simp only [Nat.succ_eq_add_one]; omega, h3⟩
    · obtain ⟨j, o, h1, h2, h3⟩ := lendE_mem h
      exact ⟨j + 1, o, by simpa using h1, by rw [← h2]; congr 1; simp only [Nat.succ_eq_add_one]; omega, h3⟩

omit [Syms] in
theorem lendAll_mem {H1 : Heap} {b : Nat} : ∀ {src : List (Option Nat)} {i : Nat}, lendAll H1 src i = true → some b ∈ src → ∃ q, (b, q) ∈ lendE H1 src i
  | [], i, _, h => by simp at h
  | none :: r, i, ha, h => by
    rw [lendAll] at ha
    rw [lendE]
    exact lendAll_mem ha (by simpa using h)
  | some a :: r, i, ha, h => by
    rw [lendAll] at ha
    split at ha
    · rename_i o ho
      rw [lendE, ho]
      rcases List.mem_cons.1 h with e | h
      · cases e; exact ⟨_, List.mem_cons_self⟩
      · obtain ⟨q, hq⟩ := lendAll_mem ha h
        exact ⟨q, List.mem_cons_of_mem _ hq⟩
    · cases ha

/-- Behind a call that was lent rows. -/
theorem lend_done (hs : SR c m H F w) {src : List (Option Nat)} {is : List Nat} {cnt : Nat} {H1 : Heap} {l1 l2 : List AV} {m1 : Map} (he : Enter c m H F w src is cnt H1 l1 l2 m1) (hall : lendAll H1 src 0 = true) {id : Nat} {m2 : Map} {Hf : Heap} {Ff : List Nat} {w' : World} {vs : List AV} {v : AV} {cv : Value}
    (h2 : SR (ctxO c m H F is (somes src) w) m2 Hf Ff w') (hx : Ext (ctxO c m H F is (somes src) w) m1 H1 [] w m2 Hf Ff w') (hkept : ∀ q o, hget H1 q = some o → hget Hf q = some o ∧ q ∉ Ff ∧ ∃ g l, o = .tarr g l)
    (hv : ∀ (ok' : Nat → Prop), (∀ β, okB (ctxO c m H F is (somes src) w).X m2 Hf Ff β → ok' β) → VR ok' w'.heap m v cv) : Done c m H F w id v (lendE H1 src 0) is cv m w' := by
  have mAt : ∀ q b L, src[q]? = some (some b) → m b = some L → m2 q = some L := fun q b L h1 h3 => hx.mm q L (by rw [he.at_ q b h1]; exact h3)
  have get : ∀ b o, hget (happ H (lendE H1 src 0)) b = some o → (∃ q, src[q]? = some (some b) ∧ hget H1 q = some o) ∨ (hget H b = some o ∧ b ∉ somes src) := fun b o hb => by
    rcases happ_keep _ hb with ⟨g1, g2⟩ | g
    · refine .inr ⟨g1, fun h => ?_⟩
      obtain ⟨q, hq⟩ := lendAll_mem hall (somes_mem.1 h)
      exact g2 q hq
    · obtain ⟨j, o', k1, k2, k3⟩ := lendE_mem g
      cases k3
      rw [Nat.zero_add] at k2
      exact .inl ⟨j, k1, k2⟩
  have old : ∀ b o, hget (happ H (lendE H1 src 0)) b = some o → ∃ p, hget H b = some p ∧ ∀ L β, fp o L β → fp p L β := fun b o hb => by
    rcases get b o hb with ⟨q, g1, g2⟩ | ⟨g1, _⟩
    · obtain ⟨p, hp, _⟩ := he.live b (somes_mem.2 (List.mem_of_getElem? g1))
      obtain ⟨_, _, g, l, rfl⟩ := hkept q o g2
      exact ⟨p, hp, fun L β hf => .inl ((flat_tarr _ _).fp hf)⟩
    · exact ⟨o, g1, fun _ _ hf => hf⟩
  have A : ∀ β, okB (ctxO c m H F is (somes src) w).X m2 Hf Ff β → okB c.X m (happ H (lendE H1 src 0)) (is ++ F) β := fun β ho => ⟨fun h => ho.1 (.inl h), fun b o L hb hf hL e => by
    rcases get b o hb with ⟨q, g1, g2⟩ | ⟨g1, g2⟩
    · obtain ⟨k1, k2, _⟩ := hkept q o g2
      exact ho.2 q o L k1 k2 (mAt q b L g1 hL) e
    · exact ho.1 (.inr ⟨b, o, L, g1, fun h => hf (List.mem_append_right _ h), fun h => (List.mem_append.1 h).elim (fun h => hf (List.mem_append_left _ h)) g2, hL, e⟩)⟩
  have B : ∀ β C e z, okB c.X m H F β → w.heap[β]? = some (.cells C e z) → okB c.X m (happ H (lendE H1 src 0)) (is ++ F) β ∧ w'.heap[β]? = some (.cells C e z) := fun β C e z h1 h3 => by
    obtain ⟨k1, k2⟩ := hx.kk β C e z (he.ok β h1) h3
    exact ⟨A β k1, k2⟩
  have blk : ∀ b o L β, hget H b = some o → b ∉ somes src → m b = some L → fp o L β → w'.heap[β]? = w.heap[β]? := fun b o L β g1 g2 g3 gf => by
    refine h2.keep.block β (hs.fplt g1 g3 gf) fun ⟨b', hb', o', L', h4, h1, h3⟩ => ?_
    have := hs.injf b' o' b o L' L β h4 g1 h1 g3 h3 gf
    subst this
    exact g2 hb'
  refine ⟨⟨MLe.refl m, B⟩, ⟨hs.xlt, fun b o hb => ?_, fun b1 o1 b2 o2 L1 L2 β g1 g2 k1 k2 k3 k4 => ?_, fun b o L β hb hL hf => ?_, fun b o L β hb hL hf => ?_, ?_⟩, hv _ A, fun b hb => .inl hb⟩
  · rcases get b o hb with ⟨q, g1, g2⟩ | ⟨g1, g2⟩
    · obtain ⟨k1, k2, g, l, rfl⟩ := hkept q o g2
      cases hmb : m b with
      | none =>
        refine .inr ⟨rfl, ?_⟩
        rcases he.sr.all q _ g2 with ⟨L, h1, _⟩ | ⟨_, h1⟩
        · rw [he.at_ q b g1, hmb] at h1; cases h1
        · exact h1
      | some L =>
        refine .inl ⟨L, rfl, ?_⟩
        obtain ⟨j1, j2, j3, j4, C, e, z, j5, j6, j7, j8, j9⟩ := h2.objm k1 (mAt q b L g1 hmb)
        have j9 : CR (okB (ctxO c m H F is (somes src) w).X m2 Hf Ff) w'.heap m2 (flat (encs g l)) C L.off := j9
        exact ⟨j1, j2, j3, j4, C, e, z, j5, j6, j7, j8, encs_flat_vr A j9⟩
    · exact (hs.all b o g1).imp (fun ⟨L, k1, k2⟩ => ⟨L, k1, ObjR.mono k2 B (MLe.refl m) (fun β hβ => blk b o L β g1 g2 k1 hβ)⟩) (fun h => h)
  · obtain ⟨p1, q1, f1⟩ := old b1 o1 g1
    obtain ⟨p2, q2, f2⟩ := old b2 o2 g2
    exact hs.injf b1 p1 b2 p2 L1 L2 β q1 q2 k1 k2 (f1 _ _ k3) (f2 _ _ k4)
  · obtain ⟨p, q, f1⟩ := old b o hb
    exact hs.noxf b p L β q hL (f1 _ _ hf)
  · obtain ⟨p, q, f1⟩ := old b o hb
    exact hs.ownf b p L β q hL (f1 _ _ hf)
  · have k := hs.keep
    have k2 := h2.keep
    refine ⟨k2.os.trans k.os, k2.tape.trans k.tape, k2.output.trans k.output, Nat.le_trans k.size k2.size, fun β h1 h3 => ?_⟩
    refine (k2.block β (Nat.lt_of_lt_of_le h1 k.size) fun ⟨b', hb', o', L', h6, h4, h5⟩ => ?_).trans (k.block β h1 h3)
    rcases hs.ownf b' o' L' β h6 h4 h5 with h | h
    · exact h3 h
    · omega

end

section
variable {P : Program} {S : SE}

/-- A text without loops: what was told at its beginning is told at its end. -/
theorem codeX_sem (hT : TyOK P S.T) (hC : ConOK P S) (hmx : P.follows .mixedOrders = true) {n : Nat} (hn : n ≤ 1023) : ∀ (code : Code) {s : St} {K : AX → St → Prop}, codeC S code s K → codeOk n code = true → drawsOk code = true → loopsOf code = [] →
    ∀ (c : Ctx) (wE : World) (m : Map) (a : Act) (w : World) (Q : Exit → Act → World → Prop), Good n c wE m s a w → a.defers = [] → (∀ x s' m' a' w', K x s' → Good n c wE m' s' a' w' → a'.defers = [] → Ext c m s.H s.F w m' s'.H s'.F w' → Q x.out a' w') → code.wp P Q a w := by
  intro code
  induction code with
  | skip =>
    intro s K h _ _ _ c wE m a w Q hg hd hQ
    exact wp_skip (hQ .normal s m a w h hg hd (Ext.refl _ _ _ _ _))
  | label l =>
    intro s K h _ _ _ c wE m a w Q hg hd hQ
    exact wp_label (hQ .normal s m a w h hg hd (Ext.refl _ _ _ _ _))
  | region id ops draw =>
    intro s K h hc hdr _ c wE m a w Q hg hd hQ
    exact regC_semX hT hC hmx hc hdr h c wE m a w Q hg hd fun s' m' a' w' hk hg' hd' hx => hQ .normal s' m' a' w' hk hg' hd' hx
  | seq c1 c2 ih1 ih2 =>
    intro s K h hc hdr hl c wE m a w Q hg hd hQ
    simp only [codeOk, drawsOk, Bool.and_eq_true] at hc hdr
    obtain ⟨hl1, hl2⟩ := List.append_eq_nil_iff.1 (show loopsOf c1 ++ loopsOf c2 = [] from hl)
    refine wp_seq (ih1 h hc.1 hdr.1 hl1 c wE m a w _ hg hd fun x s' m' a' w' hk hg' hd' hx => ?_)
    cases x with
    | normal =>
      show Code.wp P c2 Q a' w'
      exact ih2 hk hc.2 hdr.2 hl2 c wE m' a' w' Q hg' hd' fun x s2 m2 a2 w2 hk2 hg2 hd2 hx2 => hQ x s2 m2 a2 w2 hk2 hg2 hd2 (hx.trans hx2)
    | exit id => exact hQ (.exit id) s' m' a' w' hk hg' hd' hx
    | ret => exact hQ .ret s' m' a' w' hk hg' hd' hx
  | cond cd c1 c2 ih1 ih2 =>
    intro s K h hc hdr hl c wE m a w Q hg hd hQ
    simp only [codeOk, drawsOk, Bool.and_eq_true] at hc hdr
    obtain ⟨hl1, hl2⟩ := List.append_eq_nil_iff.1 (show loopsOf c1 ++ loopsOf c2 = [] from hl)
    have h : (match opndK cd s.fr with
      | .bool b => @Bool.rec (fun _ => Prop) (codeC S c2 s K) (codeC S c1 s K) b
      | .ub b => (b = true → codeC S c1 s K) ∧ (b = false → codeC S c2 s K)
      | _ => False) := h
    have hv := opnd_vr hg.here.fr cd
    rw [opndK_eq] at h
    split at h
    · rename_i b hb
      rw [hb] at hv
      have : a.eval cd = .bool b := by cases hh : a.eval cd <;> rw [hh] at hv <;> cases hv; rfl
      cases b with
      | true => exact wp_cond_true this (ih1 h hc.1 hdr.1 hl1 c wE m a w Q hg hd hQ)
      | false => exact wp_cond_false this (ih2 h hc.2 hdr.2 hl2 c wE m a w Q hg hd hQ)
    · rename_i b hb
      rw [hb] at hv
      have : a.eval cd = .bool b := by cases hh : a.eval cd <;> rw [hh] at hv <;> cases hv; rfl
      cases b with
      | true => exact wp_cond_true this (ih1 (h.1 rfl) hc.1 hdr.1 hl1 c wE m a w Q hg hd hQ)
      | false => exact wp_cond_false this (ih2 (h.2 rfl) hc.2 hdr.2 hl2 c wE m a w Q hg hd hQ)
    · exact h.elim
  | block id b ih =>
    intro s K h hc hdr hl c wE m a w Q hg hd hQ
    refine wp_block (ih h (by simpa [codeOk] using hc) (by simpa [drawsOk] using hdr) hl c wE m a w _ hg hd fun x s' m' a' w' hk hg' hd' hx => ?_)
    cases x with
    | normal => exact hQ .normal s' m' a' w' hk hg' hd' hx
    | ret => exact hQ .ret s' m' a' w' hk hg' hd' hx
    | exit k =>
      have hk : bK (Nat.beq k id) (K .normal s') (K (.exit k) s') := hk
      show (if k = id then Q .normal a' w' else Q (.exit k) a' w')
      by_cases e : k = id
      · subst e
        rw [beq_same] at hk
        rw [if_pos rfl]
        exact hQ .normal s' m' a' w' hk hg' hd' hx
      · rw [beq_ne e] at hk
        rw [if_neg e]
        exact hQ (.exit k) s' m' a' w' hk hg' hd' hx
  | loop b ih =>
    intro s K h _ _ hl
    exact absurd (show [b] = [] from hl) (by simp)
  | exit id =>
    intro s K h _ _ _ c wE m a w Q hg hd hQ
    exact wp_exit (hQ (.exit id) s m a w h hg hd (Ext.refl _ _ _ _ _))
  | ret =>
    intro s K h _ _ _ c wE m a w Q hg hd hQ
    exact wp_ret (hQ .ret s m a w h hg hd (Ext.refl _ _ _ _ _))
  | _ =>
    intro s K h
    exact h.elim

omit [Syms] in
/-- All that is no row of one's own, at the beginning. -/
theorem enter_world {c : Ctx} {m : Map} {H : Heap} {w : World} : ∃ wE : World, (∀ β C e z, ¬ c.X β → wE.heap[β]? = some (.cells C e z) → okB c.X m H [] β ∧ w.heap[β]? = some (.cells C e z)) ∧ ∀ β C e z, okB c.X m H [] β → w.heap[β]? = some (.cells C e z) → wE.heap[β]? = some (.cells C e z) := by
  classical
  refine ⟨{ w with heap := w.heap.mapIdx fun β o => if okB c.X m H [] β then o else .map #[] 0 }, fun β C e z h1 h2 => ?_, fun β C e z h1 h2 => ?_⟩
  · simp only [Array.getElem?_mapIdx, Option.map_eq_some_iff] at h2
    obtain ⟨o, h3, h4⟩ := h2
    split at h4
    · rename_i h5; subst h4; exact ⟨h5, h3⟩
    · cases h4
  · simp only [Array.getElem?_mapIdx, h2, Option.map_some, if_pos h1]

/-- What a function answers that is given rows. -/
def GaveOK (P : Program) (f : FuncId) (a r : VT) (F : a.T → Option r.T) : Prop :=
  ∀ x y, F x = some y → ∀ (c : Ctx) (m : Map) (w : World) (cargs : Array Value) (id : Nat), SR c m (a.hp x 0) [] w → CR (okB c.X m (a.hp x 0) []) w.heap m (a.en x 0) cargs 0 → cargs.size = (a.en x 0).length → (∀ b, a.cnt ≤ b → m b = none) →
    CallsTo P f cargs w fun cv w' => ∃ m', SR c m' (r.hp y id) [] w' ∧ VR (okB c.X m' (r.hp y id) []) w'.heap m' (oneOf (r.en y id)) cv ∧
      (∀ β C e z, okB c.X m (a.hp x 0) [] β → w.heap[β]? = some (.cells C e z) → okB c.X m' (r.hp y id) [] β ∧ w'.heap[β]? = some (.cells C e z)) ∧ (∀ b, m' b ≠ none → id ≤ b ∧ b < id + r.cnt) ∧ ∀ b o, hget (r.hp y id) b = some o → id ≤ b ∧ b < id + r.cnt

/-- What a function answers that is lent rows. -/
def LentOK (P : Program) (f : FuncId) (a r : VT) (F : a.T → Option r.T) : Prop :=
  ∀ x y, F x = some y → ∀ (c : Ctx) (m : Map) (w : World) (cargs : Array Value), SR c m (a.hp x 0) [] w → CR (okB c.X m (a.hp x 0) []) w.heap m (a.en x 0) cargs 0 → cargs.size = (a.en x 0).length → (∀ b, a.cnt ≤ b → m b = none) →
    CallsTo P f cargs w fun cv w' => ∃ m' Hf Ff, SR c m' Hf Ff w' ∧ Ext c m (a.hp x 0) [] w m' Hf Ff w' ∧ (∀ q o, hget (a.hp x 0) q = some o → hget Hf q = some o ∧ q ∉ Ff ∧ ∃ g l, o = .tarr g l) ∧
      ∀ (ok' : Nat → Prop) (m0 : Map), (∀ β, okB c.X m' Hf Ff β → ok' β) → VR ok' w'.heap m0 (oneOf (r.en y 0)) cv

/-- A state told by a code, from any number on. -/
theorem vw_at {c : Ctx} {m : Map} {H : Heap} {F : List Nat} {w : World} (hs : SR c m H F w) {cnt : Nat} {en : Nat → List AV} {hp : Nat → Heap} {src : List (Option Nat)} {is : List Nat} {l1 : List AV} (h3 : VwG c m H F w cnt en hp src is l1) (hnd : (somes src).Nodup) (hdj : ∀ x ∈ is, x ∉ somes src) (n : Nat) :
    ∃ m', SR c m' (hp n) [] w ∧ (∀ β, okB c.X m H F β → okB c.X m' (hp n) [] β) ∧ (∀ (C : Array Value) (o : Nat), CR (okB c.X m H F) w.heap m l1 C o → CR (okB c.X m' (hp n) []) w.heap m' (en n) C o) ∧ l1.length = (en n).length ∧ (∀ b, m' b ≠ none → n ≤ b ∧ b < n + cnt) ∧ ∀ b o, hget (hp n) b = some o → n ≤ b ∧ b < n + cnt := by
  refine ⟨fun q => if n ≤ q then (src[q - n]?.join).bind m else none, ?_⟩
  generalize hm' : (fun q => if n ≤ q then (src[q - n]?.join).bind m else none : Map) = m'
  have mAt : ∀ i b, src[i]? = some (some b) → m' (n + i) = m b := fun i b hb => by
    rw [← hm']
    show (if n ≤ n + i then (src[n + i - n]?.join).bind m else none) = _
    rw [if_pos (Nat.le_add_right _ _), Nat.add_sub_cancel_left]; simp [hb]
  have mInv : ∀ q L, m' q = some L → n ≤ q ∧ ∃ b, src[q - n]? = some (some b) ∧ m b = some L := fun q L hq => by
    rw [← hm'] at hq
    have hq : (if n ≤ q then (src[q - n]?.join).bind m else none) = some L := hq
    split at hq
    · rename_i hn
      refine ⟨hn, ?_⟩
      cases hsq : src[q - n]? with
      | none => simp [hsq] at hq
      | some o =>
        cases o with
        | none => simp [hsq] at hq
        | some b => exact ⟨b, rfl, by simpa [hsq] using hq⟩
    · cases hq
  have hfp : ∀ q o L, hget (hp n) q = some o → m' q = some L → n ≤ q ∧ ∃ b p, src[q - n]? = some (some b) ∧ hget H b = some p ∧ b ∉ F ∧ m b = some L ∧ ∀ β, fp o L β → fp p L β := fun q o L hq hL => by
    obtain ⟨hn, _, v⟩ := (h3.vals (fun _ => True) m' n (fun _ _ => trivial) (fun i b hb => mAt i b hb) (fun _ _ _ _ _ _ _ _ => trivial)).2.2 q o hq
    refine ⟨hn, ?_⟩
    obtain ⟨_, b', k1, k2⟩ := mInv q L hL
    rcases v with ⟨g1, _⟩ | ⟨b, p, g1, g2, g3, _⟩
    · rw [g1] at k1; cases k1
    · obtain rfl : b = b' := by rw [g1] at k1; exact Option.some.inj (Option.some.inj k1)
      obtain ⟨p', g4, g5⟩ := h3.live b (somes_mem.2 (List.mem_of_getElem? g1))
      exact ⟨b, p, g1, g2, g5, k2, g3 L⟩
  have hok : ∀ β, okB c.X m H F β → okB c.X m' (hp n) [] β := fun β ho => ⟨ho.1, fun q o L hq _ hL hf => by
    obtain ⟨_, b, p, g1, g2, g3, g4, g5⟩ := hfp q o L hq hL
    exact ho.2 b p L g2 g3 g4 (g5 β hf)⟩
  have his : ∀ b ∈ is, ∀ o L β, hget H b = some o → m b = some L → fp o L β → okB c.X m' (hp n) [] β := fun b hb o L β g1 g2 g3 => ⟨hs.noxf b o L β g1 g2 g3, fun q o' L' hq _ hL e => by
    obtain ⟨_, b', p, k1, k2, _, k4, k5⟩ := hfp q o' L' hq hL
    have := hs.injf b' p b o L' L β k2 g1 k4 g2 (k5 β e) g3
    subst this
    exact hdj b' hb (somes_mem.2 (List.mem_of_getElem? k1))⟩
  obtain ⟨v1, v2, v3⟩ := h3.vals (okB c.X m' (hp n) []) m' n hok (fun i b hb => mAt i b hb) his
  refine ⟨⟨hs.xlt, fun q o hq => ?_, fun q1 o1 q2 o2 L1 L2 β g1 g2 k1 k2 k3 k4 => ?_, fun q o L β hq hm hf => ?_, fun q o L β hq hm hf => ?_, hs.keep⟩, hok, v2, v1, fun b hb => ?_, fun b o hb => ⟨(v3 b o hb).1, (v3 b o hb).2.1⟩⟩
  · obtain ⟨hn, _, g⟩ := v3 q o hq
    rcases g with ⟨g1, g2⟩ | ⟨b, p, g1, g2, _, g3⟩
    · refine .inr ⟨?_, g2⟩
      cases hmq : m' q with
      | none => rfl
      | some L => obtain ⟨_, b, k1, _⟩ := mInv q L hmq; rw [g1] at k1; cases k1
    · have hq' : m' q = m b := by have := mAt (q - n) b g1; rw [show n + (q - n) = q by omega] at this; exact this
      rcases g3 with ⟨g4, g5⟩ | ⟨L, g4, g5⟩
      · exact .inr ⟨by rw [hq']; exact g4, g5⟩
      · exact .inl ⟨L, by rw [hq']; exact g4, g5⟩
  · obtain ⟨n1, b1, p1, g3, g7, _, g4, f1⟩ := hfp q1 o1 L1 g1 k1
    obtain ⟨n2, b2, p2, g5, g8, _, g6, f2⟩ := hfp q2 o2 L2 g2 k2
    have := hs.injf b1 p1 b2 p2 L1 L2 β g7 g8 g4 g6 (f1 β k3) (f2 β k4)
    subst this
    have := somes_inj hnd (q1 - n) (q2 - n) b1 g3 g5
    omega
  · obtain ⟨_, b, p, _, g3, _, g2, f1⟩ := hfp q o L hq hm
    exact hs.noxf b p L β g3 g2 (f1 β hf)
  · obtain ⟨_, b, p, _, g3, _, g2, f1⟩ := hfp q o L hq hm
    exact hs.ownf b p L β g3 g2 (f1 β hf)
  · cases hmb : m' b with
    | none => exact absurd hmb hb
    | some L =>
      obtain ⟨hn, b', g1, _⟩ := mInv b L hmb
      have := (List.getElem?_eq_some_iff.1 g1).1
      rw [h3.len] at this
      omega

theorem fun_O (hT : TyOK P S.T) (hC : ConOK P S) (hmx : P.follows .mixedOrders = true) {f : FuncId} {fn : Func} (hf : FnOne P f fn) (hl : ∀ code, fn.body = some code → LoopsOK P S fn.ntmps code) {a r : VT} (ha : a.cnt.ble MANY = true)
    {t : a.T → T r.T} (h : ∀ x K, funO S fn a r x K = (t x).wp K) : GaveOK P f a r fun x => (t x).run := by
  intro x y hy c m w cargs id hs hca hsz hm
  have h : funO S fn a r x (fun z => z = y) := by rw [h]; exact T.run_wp _ hy rfl
  unfold funO at h
  obtain ⟨code, hb, h⟩ := optC_some h
  obtain ⟨hlen, h⟩ := must_and h
  right
  refine ⟨run_callFunc hf.1 hb hf.2.2 cargs w, ?_⟩
  have hok := hf.2.1
  unfold fnOk at hok
  rw [hb] at hok
  simp only [Bool.and_eq_true] at hok
  have hat := entered (fn := fn) (nx := MANY) hs hca hsz (fun b hb => hm b (Nat.le_trans (ble_le ha) hb)) (ble_le hlen) (ble_le hok.1)
  refine calls_of_wp hf.1 hb ?_
  obtain ⟨wE, he1, he2⟩ := enter_world (c := c) (m := m) (H := a.hp x 0) (w := w)
  have hg : Good fn.ntmps c wE m ⟨Fr.args (a.en x 0) 0 (Fr.full 10), a.hp x 0, [], MANY⟩ { tmps := cargs ++ Array.replicate (fn.ntmps - cargs.size) undef, defers := [] } w := ⟨hat, he1⟩
  refine codeC_sem hT hC hmx (ble_le hok.1) code h hok.2.1 hok.2.2 (hl code hb) c wE m _ w _ hg rfl fun ax s' m' a' w' hk hg' hd' => ?_
  obtain ⟨hnx, hk⟩ := must_and (hk : must (s'.nx.ble WIDE) (@AX.rec (fun _ => Prop) (endA S.T fn.results.toList r s' fun z => z = y) (fun _ => False) (endA S.T fn.results.toList r s' fun z => z = y) ax))
  have fin : endA S.T fn.results.toList r s' (fun z => z = y) → a'.defers = [] ∧ ∃ cv, (results fn a'.tmps).run P w' = .ok cv w' ∧ ∃ u, Ending.returned cv = .returned u ∧ ∃ m', SR c m' (r.hp y id) [] w' ∧ VR (okB c.X m' (r.hp y id) []) w'.heap m' (oneOf (r.en y id)) u ∧
      (∀ β C e z, okB c.X m (a.hp x 0) [] β → w.heap[β]? = some (.cells C e z) → okB c.X m' (r.hp y id) [] β ∧ w'.heap[β]? = some (.cells C e z)) ∧ (∀ b, m' b ≠ none → id ≤ b ∧ b < id + r.cnt) ∧ ∀ b o, hget (r.hp y id) b = some o → id ≤ b ∧ b < id + r.cnt := by
    intro h
    obtain ⟨vs, h1, h2⟩ := optC_some h
    have hans : ansOf S.T fn.results.toList s' = .ok (oneOf vs) s'.H s'.F s'.nx := by unfold ansOf; rw [h1]
    obtain ⟨_, _, _, cv, g1, g2⟩ := sim_ans hT hg'.here hans
    obtain ⟨z, src, is, l1, rest, rfl, h3, h4⟩ := vw_ok hg'.here.sr r h2
    obtain ⟨h5, rfl⟩ := must_and h3
    simp only [Bool.and_eq_true] at h5
    obtain ⟨⟨e1, e2⟩, e3⟩ := h5
    obtain rfl : rest = [] := by simpa using e1
    rw [List.append_nil] at g2
    obtain ⟨m2, k1, k2, k3, k4, k5, k6⟩ := vw_at hg'.here.sr h4 (onceB_nodup e2) (fun x h1 h2 => disj_spec e3 h1 h2) id
    obtain ⟨C, q1, q2⟩ := cr_tup g2
    refine ⟨hd', cv, g1, cv, rfl, m2, k1, q2 _ _ _ k4.symm (k3 C 0 q1), fun β C e z' ho hh => ?_, k5, k6⟩
    obtain ⟨e1, e2⟩ := hg'.old β C e z' ho.1 (he2 β C e z' ho hh)
    exact ⟨k2 β e1, e2⟩
  cases ax with
  | normal => exact fin hk
  | ret => exact fin hk
  | exit k => exact hk.elim

omit [Syms] in
theorem keptP_spec {H : Heap} {F : List Nat} {p : Prop} : ∀ {H0 : Heap}, keptP H F p H0 → p ∧ ∀ q o, hget H0 q = some o → hget H q = some o ∧ q ∉ F ∧ ∃ g l, o = .tarr g l
  | [], h => ⟨h, fun q o hq => by cases hq⟩
  | (b, o0) :: r, h => by
    have h : (match hlive H F b with
      | some o => objP (keptP H F p r) o o0
      | none => False) := h
    split at h
    · rename_i o ho
      obtain ⟨h1, h2⟩ := hlive_some ho
      unfold objP at h
      split at h
      · rename_i g l g' l'
        obtain ⟨l2, h3, h4, h5⟩ := optC_some h
        obtain ⟨e, rfl⟩ := listOf_tl h3
        subst e
        subst h4
        obtain ⟨k1, k2⟩ := keptP_spec h5
        refine ⟨k1, fun q o hq => ?_⟩
        rw [hget_cons] at hq
        split at hq
        · rename_i e
          subst e
          cases hq
          exact ⟨h1, h2, _, _, rfl⟩
        · exact k2 q o hq
      · exact h.elim
    · exact h.elim

theorem fun_L (hT : TyOK P S.T) (hC : ConOK P S) (hmx : P.follows .mixedOrders = true) {f : FuncId} {fn : Func} (hf : FnOne P f fn) (hl : ((fn.body.map loopsOf).getD []).length.beq 0 = true) {a r : VT} (ha : a.cnt.ble MANY = true)
    {t : a.T → T r.T} (h : ∀ x K, funL S fn a r x K = (t x).wp K) : LentOK P f a r fun x => (t x).run := by
  intro x y hy c m w cargs hs hca hsz hm
  have h : funL S fn a r x (fun z => z = y) := by rw [h]; exact T.run_wp _ hy rfl
  unfold funL at h
  obtain ⟨code, hb, h⟩ := optC_some h
  obtain ⟨hlen, h⟩ := must_and h
  right
  refine ⟨run_callFunc hf.1 hb hf.2.2 cargs w, ?_⟩
  have hok := hf.2.1
  unfold fnOk at hok
  rw [hb] at hok
  simp only [Bool.and_eq_true] at hok
  have hlo : loopsOf code = [] := by
    rw [hb] at hl
    exact List.length_eq_zero_iff.1 (beq_eq' hl)
  have hat := entered (fn := fn) (nx := MANY) hs hca hsz (fun b hb => hm b (Nat.le_trans (ble_le ha) hb)) (ble_le hlen) (ble_le hok.1)
  refine calls_of_wp hf.1 hb ?_
  obtain ⟨wE, he1, he2⟩ := enter_world (c := c) (m := m) (H := a.hp x 0) (w := w)
  have hg : Good fn.ntmps c wE m ⟨Fr.args (a.en x 0) 0 (Fr.full 10), a.hp x 0, [], MANY⟩ { tmps := cargs ++ Array.replicate (fn.ntmps - cargs.size) undef, defers := [] } w := ⟨hat, he1⟩
  refine codeX_sem hT hC hmx (ble_le hok.1) code h hok.2.1 hok.2.2 hlo c wE m _ w _ hg rfl fun ax s' m' a' w' hk hg' hd' hx => ?_
  obtain ⟨hnx, hk⟩ := must_and (hk : must (s'.nx.ble WIDE) (@AX.rec (fun _ => Prop) (endK S.T fn.results.toList r (a.hp x 0) s' fun z => z = y) (fun _ => False) (endK S.T fn.results.toList r (a.hp x 0) s' fun z => z = y) ax))
  have fin : endK S.T fn.results.toList r (a.hp x 0) s' (fun z => z = y) → a'.defers = [] ∧ ∃ cv, (results fn a'.tmps).run P w' = .ok cv w' ∧ ∃ u, Ending.returned cv = .returned u ∧ ∃ m' Hf Ff, SR c m' Hf Ff w' ∧ Ext c m (a.hp x 0) [] w m' Hf Ff w' ∧ (∀ q o, hget (a.hp x 0) q = some o → hget Hf q = some o ∧ q ∉ Ff ∧ ∃ g l, o = .tarr g l) ∧
      ∀ (ok' : Nat → Prop) (m0 : Map), (∀ β, okB c.X m' Hf Ff β → ok' β) → VR ok' w'.heap m0 (oneOf (r.en y 0)) u := by
    intro h
    obtain ⟨vs, h1, h2⟩ := optC_some h
    have hans : ansOf S.T fn.results.toList s' = .ok (oneOf vs) s'.H s'.F s'.nx := by unfold ansOf; rw [h1]
    obtain ⟨_, _, _, cv, g1, g2⟩ := sim_ans hT hg'.here hans
    obtain ⟨z, src, is, l1, rest, rfl, h3, h4⟩ := vw_ok hg'.here.sr r h2
    obtain ⟨h5, h6⟩ := must_and h3
    simp only [Bool.and_eq_true] at h5
    obtain ⟨⟨e1, e2⟩, e3⟩ := h5
    obtain rfl : rest = [] := by simpa using e1
    obtain rfl : src = [] := by simpa using e2
    obtain ⟨rfl, h7⟩ := keptP_spec h6
    rw [List.append_nil] at g2
    obtain ⟨C, q1, q2⟩ := cr_tup g2
    -- what is told of rows: of some that are thought of no more
    have hin : ∀ b ∈ is, ∀ q o, hget (a.hp x 0) q = some o → q ≠ b := fun b hb q o hq e => by
      subst e
      have : ∀ (H0 : Heap), (H0.all fun p => !(isIn p.1 is)) = true → hget H0 q = some o → False := by
        intro H0
        induction H0 with
        | nil => intro _ h; cases h
        | cons p r ih =>
          obtain ⟨p1, p2⟩ := p
          intro hA hG
          rw [List.all_cons, Bool.and_eq_true] at hA
          rw [hget_cons] at hG
          split at hG
          · rename_i e
            subst e
            have := hA.1
            rw [(isIn_iff _ _).2 hb] at this
            cases this
          · exact ih hA.2 hG
      exact this _ e3 hq
    obtain ⟨F2, hF2⟩ : ∃ F2 : List Nat, F2 = is ++ s'.F := ⟨_, rfl⟩
    obtain ⟨hfx, hfs⟩ := hg'.here.sr.freeze is
    refine ⟨hd', cv, g1, cv, rfl, m', s'.H, is ++ s'.F, hfs, hx.trans hfx, fun q o hq => ?_, fun ok' m0 hok' => ?_⟩
    · obtain ⟨k1, k2, k3⟩ := h7 q o hq
      refine ⟨k1, fun h => ?_, k3⟩
      rcases List.mem_append.1 h with h | h
      · exact hin q h q o hq rfl
      · exact k2 h
    · obtain ⟨v1, v2, _⟩ := h4.vals ok' m0 0 (fun β ho => hok' β ⟨ho.1, fun q p L h1 h2 h3 => ho.2 q p L h1 (fun h => h2 (List.mem_append_right _ h)) h3⟩) (fun i b hb => by simp at hb) (fun b hb o L β g1 g2 gf => hok' _ ⟨hg'.here.sr.noxf b o L β g1 g2 gf, fun q p L' h1 h2 h3 e => h2 (List.mem_append_left _ (by
        have := hg'.here.sr.injf q p b o L' L β h1 g1 h3 g2 e gf
        rw [this]; exact hb))⟩)
      exact q2 _ _ _ v1.symm (v2 C 0 q1)
  cases ax with
  | normal => exact fin hk
  | ret => exact fin hk
  | exit k => exact hk.elim

theorem give_ok {f : FuncId} {a r : VT} {F : a.T → Option r.T} (h : GaveOK P f a r F) (ha : a.cnt.ble MANY = true) : HookOne P f (giveK a r F) := by
  intro args H Fz id k hk c m w cargs hs hcr hsz hid
  unfold giveK at hk
  obtain ⟨x, src, is, l1, rest, rfl, h2, h3⟩ := vw_ok hs a hk
  obtain ⟨h4, y, hy, h5⟩ := must_and h2
  simp only [Bool.and_eq_true] at h4
  obtain ⟨⟨⟨⟨e1, e2⟩, e3⟩, e4⟩, e5⟩ := h4
  obtain rfl : rest = [] := by simpa using e1
  rw [List.append_nil] at hcr hsz
  obtain ⟨m1, he⟩ := vw_enter hs h3 (onceB_nodup e2) (fun x h1 h2 => disj_spec e3 h1 h2)
  have hc := ble_le e5
  refine (h x y hy _ m1 w cargs id he.sr (he.cr cargs 0 hcr) (by rw [hsz, he.len]) he.far).mono fun cv w' ⟨m2, k1, k2, k3, k4, k5⟩ => ?_
  obtain ⟨m', hd⟩ := give_done hs he hid (freshB_spec e4) k1 k2 k3 (fun b hb => by have := k4 b hb; unfold STRIDE; omega) (fun b o hb => by have := k5 b o hb; unfold STRIDE; omega)
  exact ⟨_, _, _, _, m', h5, hd⟩

theorem lend_ok {f : FuncId} {a r : VT} {F : a.T → Option r.T} (h : LentOK P f a r F) : HookOne P f (lendK a r F) := by
  intro args H Fz id k hk c m w cargs hs hcr hsz hid
  unfold lendK at hk
  obtain ⟨x, src, is, l1, rest, rfl, h2, h3⟩ := vw_ok hs a hk
  obtain ⟨h4, y, hy, h5⟩ := must_and h2
  simp only [Bool.and_eq_true] at h4
  obtain ⟨⟨⟨e1, e2⟩, e3⟩, e4⟩ := h4
  obtain rfl : rest = [] := by simpa using e1
  rw [List.append_nil] at hcr hsz
  obtain ⟨m1, he⟩ := vw_enter hs h3 (onceB_nodup e2) (fun x h1 h2 => disj_spec e3 h1 h2)
  refine (h x y hy _ m1 w cargs he.sr (he.cr cargs 0 hcr) (by rw [hsz, he.len]) he.far).mono fun cv w' ⟨m2, Hf, Ff, k1, k2, k3, k4⟩ => ?_
  exact ⟨_, _, _, _, m, h5, lend_done (vs := []) hs he e4 k1 k2 k3 fun ok' hok => k4 ok' m hok⟩

end
end Go.Proofs.Ytmkmjjodiicmlaa.VS

/- Functions whose answer is the first part of a row of their own. Conditions: none. -/
namespace Go.Proofs.Ytmkmjjodiicmlaa.VS

noncomputable section

/-- An answer that is a row's first part: the row is given up, its part is a row. -/
def shrK (H : Heap) (F : List Nat) (nx : Nat) (r : VT) (vs : List AV) (k : Heap → List AV → Prop) : Prop :=
  match r, vs with
  | .gs _, [.osl n b 0 len] => (match hlive H F b with
    | some (.tarr g l) => must (n.beq g.size) (len ≤ l.length ∧ k (hdel (hset H nx (.tarr g (l.take len))) b) [.gs g nx len])
    | _ => k H vs)
  | _, _ => k H vs

def endB (T : Tabs) (rs : List ResultVar) (r : VT) (s : St) (K : r.T → Prop) : Prop :=
  optC (fun vs => shrK s.H s.F s.nx r vs fun H' vs' => view vs' r ⟨s.fr, H', s.F, s.nx⟩ K) (aresult T s.fr s.H rs)

def endS (T : Tabs) (rs : List ResultVar) (r : VT) (K : r.T → Prop) (x : AX) (s : St) : Prop :=
  must (s.nx.ble WIDE) (@AX.rec (fun _ => Prop) (endB T rs r s K) (fun _ => False) (endB T rs r s K) x)

/-- A function, called with values that hold rows of their own; its answer may be a row's first part. -/
def funS (S : SE) (fn : Func) (a r : VT) (x : a.T) (K : r.T → Prop) : Prop :=
  optC (fun code => must ((a.en x 0).length.ble fn.ntmps) (codeC S code ⟨Fr.args (a.en x 0) 0 (Fr.full 10), a.hp x 0, [], MANY⟩ (endS S.T fn.results.toList r K))) fn.body

end

variable [Syms]
section
variable {P : Program} {S : SE} {c : Ctx} {m : Map} {H : Heap} {F : List Nat} {w : World}

theorem fun_S (hT : TyOK P S.T) (hC : ConOK P S) (hmx : P.follows .mixedOrders = true) {f : FuncId} {fn : Func} (hf : FnOne P f fn) (hl : ∀ code, fn.body = some code → LoopsOK P S fn.ntmps code) {a r : VT} (ha : a.cnt.ble MANY = true)
    {t : a.T → T r.T} (h : ∀ x K, funS S fn a r x K = (t x).wp K) : GaveOK P f a r fun x => (t x).run := by
  intro x y hy c m w cargs id hs hca hsz hm
  have h : funS S fn a r x (fun z => z = y) := by rw [h]; exact T.run_wp _ hy rfl
  unfold funS at h
  obtain ⟨code, hb, h⟩ := optC_some h
  obtain ⟨hlen, h⟩ := must_and h
  right
  refine ⟨run_callFunc hf.1 hb hf.2.2 cargs w, ?_⟩
  have hok := hf.2.1
  unfold fnOk at hok
  rw [hb] at hok
  simp only [Bool.and_eq_true] at hok
  have hat := entered (fn := fn) (nx := MANY) hs hca hsz (fun b hb => hm b (Nat.le_trans (ble_le ha) hb)) (ble_le hlen) (ble_le hok.1)
  refine calls_of_wp hf.1 hb ?_
  obtain ⟨wE, he1, he2⟩ := enter_world (c := c) (m := m) (H := a.hp x 0) (w := w)
  have hg : Good fn.ntmps c wE m ⟨Fr.args (a.en x 0) 0 (Fr.full 10), a.hp x 0, [], MANY⟩ { tmps := cargs ++ Array.replicate (fn.ntmps - cargs.size) undef, defers := [] } w := ⟨hat, he1⟩
  refine codeC_sem hT hC hmx (ble_le hok.1) code h hok.2.1 hok.2.2 (hl code hb) c wE m _ w _ hg rfl fun ax s' m' a' w' hk hg' hd' => ?_
  obtain ⟨hnx, hk⟩ := must_and (hk : must (s'.nx.ble WIDE) (@AX.rec (fun _ => Prop) (endB S.T fn.results.toList r s' fun z => z = y) (fun _ => False) (endB S.T fn.results.toList r s' fun z => z = y) ax))
  have fin : endB S.T fn.results.toList r s' (fun z => z = y) → a'.defers = [] ∧ ∃ cv, (results fn a'.tmps).run P w' = .ok cv w' ∧ ∃ u, Ending.returned cv = .returned u ∧ ∃ m', SR c m' (r.hp y id) [] w' ∧ VR (okB c.X m' (r.hp y id) []) w'.heap m' (oneOf (r.en y id)) u ∧
      (∀ β C e z, okB c.X m (a.hp x 0) [] β → w.heap[β]? = some (.cells C e z) → okB c.X m' (r.hp y id) [] β ∧ w'.heap[β]? = some (.cells C e z)) ∧ (∀ b, m' b ≠ none → id ≤ b ∧ b < id + r.cnt) ∧ ∀ b o, hget (r.hp y id) b = some o → id ≤ b ∧ b < id + r.cnt := by
    intro h
    obtain ⟨vs, h1, h2⟩ := optC_some h
    have hans : ansOf S.T fn.results.toList s' = .ok (oneOf vs) s'.H s'.F s'.nx := by unfold ansOf; rw [h1]
    obtain ⟨_, _, _, cv, g1, g2⟩ := sim_ans hT hg'.here hans
    have fin2 : ∀ (mX : Map) (HX : Heap) (vs' : List AV), SR c mX HX s'.F w' → VR (okB c.X mX HX s'.F) w'.heap mX (oneOf vs') cv → (∀ β C e z, okB c.X m' s'.H s'.F β → w'.heap[β]? = some (.cells C e z) → okB c.X mX HX s'.F β) → view vs' r ⟨s'.fr, HX, s'.F, s'.nx⟩ (fun z => z = y) →
        a'.defers = [] ∧ ∃ cv, (results fn a'.tmps).run P w' = .ok cv w' ∧ ∃ u, Ending.returned cv = .returned u ∧ ∃ m', SR c m' (r.hp y id) [] w' ∧ VR (okB c.X m' (r.hp y id) []) w'.heap m' (oneOf (r.en y id)) u ∧
      (∀ β C e z, okB c.X m (a.hp x 0) [] β → w.heap[β]? = some (.cells C e z) → okB c.X m' (r.hp y id) [] β ∧ w'.heap[β]? = some (.cells C e z)) ∧ (∀ b, m' b ≠ none → id ≤ b ∧ b < id + r.cnt) ∧ ∀ b o, hget (r.hp y id) b = some o → id ≤ b ∧ b < id + r.cnt := by
      intro mX HX vs' hsX g2 hkX h2
      obtain ⟨z, src, is, l1, rest, rfl, h3, h4⟩ := vw_ok hsX r h2
      obtain ⟨h5, rfl⟩ := must_and h3
      simp only [Bool.and_eq_true] at h5
      obtain ⟨⟨e1, e2⟩, e3⟩ := h5
      obtain rfl : rest = [] := by simpa using e1
      rw [List.append_nil] at g2
      obtain ⟨m2, k1, k2, k3, k4, k5, k6⟩ := vw_at hsX h4 (onceB_nodup e2) (fun x h1 h2 => disj_spec e3 h1 h2) id
      obtain ⟨C, q1, q2⟩ := cr_tup g2
      refine ⟨hd', cv, g1, cv, rfl, m2, k1, q2 _ _ _ k4.symm (k3 C 0 q1), fun β C e z' ho hh => ?_, k5, k6⟩
      obtain ⟨e1, e2⟩ := hg'.old β C e z' ho.1 (he2 β C e z' ho hh)
      exact ⟨k2 β (hkX β C e z' e1 e2), e2⟩
    have plain : view vs r ⟨s'.fr, s'.H, s'.F, s'.nx⟩ (fun z => z = y) → _ := fin2 m' s'.H vs hg'.here.sr g2 fun β C e z h _ => h
    unfold shrK at h2
    split at h2
    · rename_i g0 n b len
      split at h2
      · rename_i g l hl
        obtain ⟨hb', hbF⟩ := hlive_some hl
        obtain ⟨hn, hlen', h3⟩ := must_and h2
        have hn := beq_eq' hn
        subst hn
        obtain ⟨mX, x1, x2, x3⟩ := hg'.here.sr.shrink hb' hbF (hg'.here.nx _ (Nat.le_refl _)) hlen' (cv := cv) g2
        exact fin2 mX _ [_] x2 x3 (fun β C e z h1 h2 => (x1.kk β C e z h1 h2).1) h3
      · exact plain h2
    · exact plain h2
  cases ax with
  | normal => exact fin hk
  | ret => exact fin hk
  | exit k => exact hk.elim

end
end Go.Proofs.Ytmkmjjodiicmlaa.VS

/- Calls with data that were run: what a function answers to some arguments, found by a run of the machine. Conditions: none. -/
namespace Go.Proofs.Ytmkmjjodiicmlaa.VS

/-- A run, its arguments and its answer as data. -/
noncomputable def runD (T : Tabs) (cfg : Cfg) (N : Nat) (f : FuncId) (a d : DT) (x : a.T) : Option d.T :=
  match treeAns (acallK T cfg N f (a.en x) [] [] 0) with
  | some v => whole (d.de [v])
  | none => none

variable [Syms]

theorem con_ranD {P : Program} {T : Tabs} (hT : TyOK P T) (hF : FnOK P T) (hmx : P.follows .mixedOrders = true) {cfg : Cfg} (hp : PrimOK P cfg) {N : Nat} {f : FuncId} {a d : DT} {F : a.T → Option d.T} (hd : ∀ v, d.chk [v] = none) (h : ∀ x y, F x = some y → runD T cfg N f a d x = some y) :
    ConOne P f (conT a (.dt d) F) := by
  intro args c z hc hpre ho cx m w cargs hs hr hsz hm
  unfold conT at hc
  split at hc
  · rename_i x hx
    cases hc
    have hle := DT.deW_le hx hpre
    have hrun := h x z ho
    unfold runD at hrun
    split at hrun
    · rename_i v hv
      have h := hv
      unfold treeAns at h
      split at h
      · rename_i v' H' F' n hacc
        cases hn : n.ble WIDE with
        | false => rw [hn, cond_false] at h; cases h
        | true =>
          rw [hn, cond_true] at h
          split at h
          · rename_i r' hres
            have h := Option.some.inj h
            rw [acallK_eq] at hacc
            have key := acall_ok hT hF hp hmx N f (a.en x) [] [] 0 _ _ _ _ hacc cx m w cargs hs (hr.le hle) (by rw [hsz, hle.1]) (fun b _ => hm b)
            refine key.mono fun cv w' ⟨m', ha⟩ => ⟨m', ?_⟩
            have ht := ha.tree hres (Nat.le_of_ble_eq_true hn)
            rw [h] at ht
            show After cx m [] [] w 0 (oneOf (d.en z)) [] [] WIDE cv m' w'
            have hcl := DT.deW_le hrun (by rw [hd]; trivial)
            obtain ⟨C, q1, q2⟩ := cr_tup (vs := [v]) ht.vr
            exact ⟨ht.ext, ht.sr, q2 _ _ _ hcl.1.symm (q1.le hcl), ht.le, ht.dom⟩
          · cases h
      · cases h
    · cases hrun
  · cases hc

end Go.Proofs.Ytmkmjjodiicmlaa.VS

