/- A library of an abstract machine, joined from 7 texts. Conditions: none. -/
import Derived.Test.YtjihnbjdclobgaaVM9
import Derived.ReadAgain
import Derived.Deep.Slices
import Derived.ProofKit
import Derived.OpenShut
import Derived.ChangeReads
set_option linter.unusedVariables false
set_option linter.unusedSimpArgs false
/- Trees, loops by their trees, functions by their trees: what they answer. Conditions: none. -/
namespace Go.Proofs.Ytjihnbjdclobgaa.VS

/-! ### Trees -/

theorem T.wp_ite {ρ : Type} (c : Bool) (a b : T ρ) (K : ρ → Prop) : (T.ite c a b).wp K = ((c = true → a.wp K) ∧ (c = false → b.wp K)) := rfl
theorem T.wp_iteP {ρ : Type} (c : Prop) (a b : T ρ) (K : ρ → Prop) : (T.iteP c a b).wp K = ((c → a.wp K) ∧ (¬ c → b.wp K)) := rfl
theorem T.wp_req {ρ : Type} (c : Prop) (a : T ρ) (K : ρ → Prop) : (T.req c a).wp K = (c ∧ a.wp K) := rfl
theorem T.wp_same {ρ α : Type} (x : α) (a : T ρ) (K : ρ → Prop) : (T.same x a).wp K = (x = x ∧ a.wp K) := rfl
theorem T.wp_bind {ρ α : Type} (o : Option α) (f : α → T ρ) (K : ρ → Prop) : (T.bind o f).wp K = ∃ x, o = some x ∧ (f x).wp K := rfl

/-- What a tree answers is what it asks. -/
theorem T.run_wp {ρ : Type} : ∀ (t : T ρ) {r : ρ} {K : ρ → Prop}, t.run = some r → K r → t.wp K := by
  intro t
  induction t with
  | fail => intro r K h _; cases h
  | ret x => intro r K h hk; cases h; exact hk
  | ite c a b iha ihb =>
    intro r K h hk
    rw [T.run] at h
    refine ⟨fun hc => ?_, fun hc => ?_⟩
    · rw [if_pos hc] at h; exact iha h hk
    · rw [if_neg (by simp [hc])] at h; exact ihb h hk
  | iteP c a b iha ihb =>
    intro r K h hk
    rw [T.run] at h
    refine ⟨fun hc => ?_, fun hc => ?_⟩
    · rw [if_pos hc] at h; exact iha h hk
    · rw [if_neg hc] at h; exact ihb h hk
  | req c a iha =>
    intro r K h hk
    rw [T.run] at h
    split at h
    · rename_i hc; exact ⟨hc, iha h hk⟩
    · cases h
  | same x a iha =>
    intro r K h hk
    exact ⟨rfl, iha h hk⟩
  | bind o f ih =>
    intro r K h hk
    rw [T.run] at h
    cases o with
    | none => cases h
    | some x => exact ⟨x, rfl, ih x h hk⟩
  | case s f g ihf ihg =>
    intro r K h hk
    cases s with
    | inl x => exact ihf x (by rw [T.run] at h; exact h) hk
    | inr y => exact ihg y (by rw [T.run] at h; exact h) hk

/-! The answers, step by step. -/

theorem T.run_ite {ρ : Type} (c : Bool) (a b : T ρ) : (T.ite c a b).run = bif c then a.run else b.run := by rw [T.run]; cases c <;> simp
theorem T.run_ret {ρ : Type} (x : ρ) : (T.ret x).run = some x := rfl
theorem T.run_fail {ρ : Type} : (T.fail : T ρ).run = none := rfl
theorem T.run_same {ρ α : Type} (x : α) (a : T ρ) : (T.same x a).run = a.run := rfl
theorem T.run_bind {ρ α : Type} (o : Option α) (f : α → T ρ) : (T.bind o f).run = o.bind fun x => (f x).run := rfl
theorem T.run_some {ρ α : Type} (x : α) (f : α → T ρ) : (T.bind (some x) f).run = (f x).run := rfl
theorem T.run_inl {ρ α β : Type} (x : α) (f : α → T ρ) (g : β → T ρ) : (T.case (.inl x) f g).run = (f x).run := rfl
theorem T.run_inr {ρ α β : Type} (x : β) (f : α → T ρ) (g : β → T ρ) : (T.case (.inr x) f g).run = (g x).run := rfl
theorem T.run_req {ρ : Type} {c : Prop} (h : c) (a : T ρ) : (T.req c a).run = a.run := by rw [T.run, if_pos h]
theorem T.run_pos {ρ : Type} {c : Prop} (h : c) (a b : T ρ) : (T.iteP c a b).run = a.run := by rw [T.run, if_pos h]
theorem T.run_neg {ρ : Type} {c : Prop} (h : ¬ c) (a b : T ρ) : (T.iteP c a b).run = b.run := by rw [T.run, if_neg h]
theorem T.run_tt {ρ : Type} {c : Bool} (h : c = true) (a b : T ρ) : (T.ite c a b).run = a.run := by rw [T.run, if_pos h]
theorem T.run_ff {ρ : Type} {c : Bool} (h : c = false) (a b : T ρ) : (T.ite c a b).run = b.run := by rw [T.run, if_neg (by simp [h])]

/-! ### Rounds -/

section
variable {π ρ : Type} {t : π → T (π ⊕ ρ)}

theorem iterT_succ : ∀ (n : Nat) (p : π) (r : ρ), iterT t n p = some r → iterT t (n + 1) p = some r
  | 0, _, _, h => by cases h
  | n + 1, p, r, h => by
    rw [iterT] at h ⊢
    split at h
    · cases h
    · rename_i q hq
      exact iterT_succ n q r h
    · rename_i r' hq
      exact h

theorem iterT_le {n m : Nat} (h : n ≤ m) {p : π} {r : ρ} (hr : iterT t n p = some r) : iterT t m p = some r := by
  induction h with
  | refl => exact hr
  | step _ ih => exact iterT_succ _ _ _ ih

theorem fixT_iter {p : π} {r : ρ} (h : fixT t p = some r) : ∃ n, iterT t n p = some r := by
  unfold fixT at h
  split at h
  · rename_i hx
    cases h
    exact hx.choose_spec
  · cases h

theorem iter_fixT {p : π} {r : ρ} {n : Nat} (h : iterT t n p = some r) : fixT t p = some r := by
  have hx : ∃ r n, iterT t n p = some r := ⟨r, n, h⟩
  unfold fixT
  rw [dif_pos hx]
  obtain ⟨m, hm⟩ := hx.choose_spec
  have h1 := iterT_le (Nat.le_max_left n m) h
  have h2 := iterT_le (Nat.le_max_right n m) hm
  rw [h1] at h2
  exact h2.symm

/-- A loop is its first round, and the others. -/
theorem fixT_eq (p : π) : fixT t p = match (t p).run with
    | none => none
    | some (.inl q) => fixT t q
    | some (.inr r) => some r := by
  cases hf : fixT t p with
  | some r =>
    obtain ⟨n, hn⟩ := fixT_iter hf
    cases n with
    | zero => cases hn
    | succ n =>
      rw [iterT] at hn
      split at hn
      · cases hn
      · rename_i q hq; rw [hq]; exact (iter_fixT hn).symm
      · rename_i r' hq; rw [hq]; exact hn.symm
  | none =>
    cases hr : (t p).run with
    | none => rfl
    | some x =>
      cases x with
      | inl q =>
        show none = fixT t q
        cases hq : fixT t q with
        | none => rfl
        | some r =>
          obtain ⟨n, hn⟩ := fixT_iter hq
          have : iterT t (n + 1) p = some r := by rw [iterT, hr]; exact hn
          rw [iter_fixT this] at hf; cases hf
      | inr r =>
        have : iterT t 1 p = some r := by rw [iterT, hr]
        rw [iter_fixT this] at hf; cases hf

theorem fixT_next {p q : π} (h : (t p).run = some (.inl q)) : fixT t p = fixT t q := by rw [fixT_eq, h]
theorem fixT_out {p : π} {r : ρ} (h : (t p).run = some (.inr r)) : fixT t p = some r := by rw [fixT_eq, h]

/-- A loop by a measure: what holds of each state. -/
theorem fixT_ind (I : π → Prop) (f : π → ρ) (μ : π → Nat) (h : ∀ p, I p → (∃ q, (t p).run = some (.inl q) ∧ I q ∧ μ q < μ p ∧ f q = f p) ∨ (t p).run = some (.inr (f p))) : ∀ p, I p → fixT t p = some (f p) := by
  intro p
  generalize hn : μ p = n
  induction n using Nat.strongRecOn generalizing p with
  | _ n ih =>
    intro hI
    rcases h p hI with ⟨q, h1, h2, h3, h4⟩ | h1
    · rw [fixT_next h1, ← h4]
      exact ih (μ q) (by omega) q rfl h2
    · exact fixT_out h1

end

variable [Syms]

/-! ### Loops -/

section
variable {P : Program} {S : SE}

theorem codeC_sem (hT : TyOK P S.T) (hC : ConOK P S) (hmx : P.follows .mixedOrders = true) {n : Nat} (hn : n ≤ 1023) : ∀ (code : Code) {s : St} {K : AX → St → Prop}, codeC S code s K → codeOk n code = true → drawsOk code = true → LoopsOK P S n code → Sem P n code s K := by
  intro code
  induction code with
  | skip =>
    intro s K h _ _ _ c wE m a w Q hg hd hQ
    exact wp_skip (hQ .normal s m a w h hg hd)
  | label l =>
    intro s K h _ _ _ c wE m a w Q hg hd hQ
    exact wp_label (hQ .normal s m a w h hg hd)
  | region id ops draw =>
    intro s K h hc hdr _ c wE m a w Q hg hd hQ
    exact regC_sem hT hC hmx hc hdr h c wE m a w Q hg hd fun x s' m' a' w' ⟨hx, hk⟩ hg' hd' => by
      subst hx; exact hQ .normal s' m' a' w' hk hg' hd'
  | seq c1 c2 ih1 ih2 =>
    intro s K h hc hdr hl c wE m a w Q hg hd hQ
    simp only [codeOk, drawsOk, Bool.and_eq_true] at hc hdr
    have hl1 : LoopsOK P S n c1 := fun b hb => hl b (List.mem_append.2 (.inl hb))
    have hl2 : LoopsOK P S n c2 := fun b hb => hl b (List.mem_append.2 (.inr hb))
    refine wp_seq (ih1 h hc.1 hdr.1 hl1 c wE m a w _ hg hd fun x s' m' a' w' hk hg' hd' => ?_)
    cases x with
    | normal =>
      show Code.wp P c2 Q a' w'
      exact ih2 hk hc.2 hdr.2 hl2 c wE m' a' w' Q hg' hd' hQ
    | exit id => exact hQ (.exit id) s' m' a' w' hk hg' hd'
    | ret => exact hQ .ret s' m' a' w' hk hg' hd'
  | cond cd c1 c2 ih1 ih2 =>
    intro s K h hc hdr hl c wE m a w Q hg hd hQ
    simp only [codeOk, drawsOk, Bool.and_eq_true] at hc hdr
    have hl1 : LoopsOK P S n c1 := fun b hb => hl b (List.mem_append.2 (.inl hb))
    have hl2 : LoopsOK P S n c2 := fun b hb => hl b (List.mem_append.2 (.inr hb))
    have h : (match opndK cd s.fr with
      | .bool b => @Bool.rec (fun _ => Prop) (codeC S c2 s K) (codeC S c1 s K) b
      | .ub b => (b = true → codeC S c1 s K) ∧ (b = false → codeC S c2 s K)
      | _ => False) := h
    have hv := opnd_vr hg.here.fr cd
    rw [opndK_eq] at h
    split at h
    · rename_i b hb
      rw [hb] at hv
      have : a.eval cd = .bool b := by cases hh : a.eval cd <;> rw [hh] at hv <;> cases hv; rfl
      cases b with
      | true => exact wp_cond_true this (ih1 h hc.1 hdr.1 hl1 c wE m a w Q hg hd hQ)
      | false => exact wp_cond_false this (ih2 h hc.2 hdr.2 hl2 c wE m a w Q hg hd hQ)
    · rename_i b hb
      rw [hb] at hv
      have : a.eval cd = .bool b := by cases hh : a.eval cd <;> rw [hh] at hv <;> cases hv; rfl
      cases b with
      | true => exact wp_cond_true this (ih1 (h.1 rfl) hc.1 hdr.1 hl1 c wE m a w Q hg hd hQ)
      | false => exact wp_cond_false this (ih2 (h.2 rfl) hc.2 hdr.2 hl2 c wE m a w Q hg hd hQ)
    · exact h.elim
  | block id b ih =>
    intro s K h hc hdr hl c wE m a w Q hg hd hQ
    refine wp_block (ih h (by simpa [codeOk] using hc) (by simpa [drawsOk] using hdr) hl c wE m a w _ hg hd fun x s' m' a' w' hk hg' hd' => ?_)
    cases x with
    | normal => exact hQ .normal s' m' a' w' hk hg' hd'
    | ret => exact hQ .ret s' m' a' w' hk hg' hd'
    | exit k =>
      have hk : bK (Nat.beq k id) (K .normal s') (K (.exit k) s') := hk
      show (if k = id then Q .normal a' w' else Q (.exit k) a' w')
      by_cases e : k = id
      · subst e
        rw [beq_same] at hk
        rw [if_pos rfl]
        exact hQ .normal s' m' a' w' hk hg' hd'
      · rw [beq_ne e] at hk
        rw [if_neg e]
        exact hQ (.exit k) s' m' a' w' hk hg' hd'
  | loop b ih =>
    intro s K h hc hdr hl c wE m a w Q hg hd hQ
    have h : optC (fun L => L s K) (S.loop (keyOf b)) := h
    obtain ⟨L, h1, h2⟩ := optC_some h
    exact hl b (by simp [loopsOf]) L h1 s K h2 c wE m a w Q hg hd hQ
  | exit id =>
    intro s K h _ _ _ c wE m a w Q hg hd hQ
    exact wp_exit (hQ (.exit id) s m a w h hg hd)
  | ret =>
    intro s K h _ _ _ c wE m a w Q hg hd hQ
    exact wp_ret (hQ .ret s m a w h hg hd)
  | _ =>
    intro s K h
    exact h.elim


theorem exitV_ok {n : Nat} (hn : n ≤ 1023) : ∀ {ex : List Exi}, (ex.all fun e => e.vt.cnt.ble MANY && e.live.length.ble 1023) = true → ∀ {ax : AX} {s : St} {k : ExT ex → Prop}, exitV ex ax s k → ∀ {c : Ctx} {wE : World} {m : Map} {a : Act} {w : World}, Good n c wE m s a w →
    ∃ r, k r ∧ ∀ K : AX → St → Prop, outK ex r K → ∃ s', K ax s' ∧ ∃ m', Good n c wE m' s' a w
  | [], _, ax, s, k, h, _, _, _, _, _, _ => h.elim
  | [e], hx, ax, s, k, h, c, wE, m, a, w, hg => by
    simp only [List.all_cons, List.all_nil, Bool.and_true, Bool.and_eq_true] at hx
    obtain ⟨h1, h2⟩ := must_and (h : must (AX.same ax e.ax) (view (slots e.live s) e.vt s k))
    have hax : ax = e.ax := by
      revert h1
      cases ax <;> cases he : e.ax <;> simp [AX.same]
    obtain ⟨x, h3, m', h4⟩ := view_ent hn (ble_le hx.1) (ble_le hx.2) h2 hg
    exact ⟨x, h3, fun K hK => ⟨_, by rw [hax]; exact hK, m', h4⟩⟩
  | e :: f :: r, hx, ax, s, k, h, c, wE, m, a, w, hg => by
    rw [List.all_cons, Bool.and_eq_true] at hx
    obtain ⟨hx1, hx2⟩ := hx
    simp only [Bool.and_eq_true] at hx1
    have h : bK (AX.same ax e.ax) (view (slots e.live s) e.vt s fun x => k (.inl x)) (exitV (f :: r) ax s fun y => k (.inr y)) := h
    cases hs : AX.same ax e.ax with
    | true =>
      rw [hs] at h
      have hax : ax = e.ax := by
        revert hs
        cases ax <;> cases he : e.ax <;> simp [AX.same]
      obtain ⟨x, h3, m', h4⟩ := view_ent hn (ble_le hx1.1) (ble_le hx1.2) h hg
      exact ⟨.inl x, h3, fun K hK => ⟨_, by rw [hax]; exact hK, m', h4⟩⟩
    | false =>
      rw [hs] at h
      obtain ⟨y, h3, h4⟩ := exitV_ok hn hx2 (ax := ax) (s := s) (k := fun y => k (.inr y)) h hg
      exact ⟨.inr y, h3, fun K hK => h4 K hK⟩

/-- A loop by its rounds. -/
theorem loopT_ok (hT : TyOK P S.T) (hC : ConOK P S) (hmx : P.follows .mixedOrders = true) {n : Nat} (hn : n.ble 1023 = true) {b : Code} (hc : codeOk n b = true) (hdr : drawsOk b = true) (hl : LoopsOK P S n b)
    {live : List Nat} {vt : VT} {ex : List Exi} {t : vt.T → T (vt.T ⊕ ExT ex)} (hx : (vt.cnt.ble MANY && live.length.ble 1023 && ex.all fun e => e.vt.cnt.ble MANY && e.live.length.ble 1023) = true)
    (w : ∀ p K, roundT S live vt ex b p K = (t p).wp K) : LoopOK P n (loopT live vt ex (fixT t)) b := by
  have hn := ble_le hn
  simp only [Bool.and_eq_true] at hx
  obtain ⟨⟨hx1, hx2⟩, hx3⟩ := hx
  intro s K hL c wE m a w0 Q hg hd hQ
  have hL : view (slots live s) vt s fun p => ∃ r, fixT t p = some r ∧ outK ex r K := hL
  obtain ⟨p, ⟨r, h1, h2⟩, m1, hg1⟩ := view_ent hn (ble_le hx1) (ble_le hx2) hL hg
  obtain ⟨N, hN⟩ := fixT_iter h1
  refine wp_loop_rounds N ?_
  have key : ∀ (N : Nat) (p : vt.T), iterT t N p = some r → ∀ {m : Map} {a : Act} {w0 : World}, Good n c wE m (stOf live vt p) a w0 → a.defers = [] → Code.rounds P b Q N a w0 := by
    intro N
    induction N with
    | zero => intro p h; cases h
    | succ N ih =>
      intro p h m a w0 hg hd
      rw [rounds_succ]
      rw [iterT] at h
      have hw : ∃ x, (t p).run = some x ∧ (x = .inr r ∨ ∃ q, x = .inl q ∧ iterT t N q = some r) := by
        split at h
        · cases h
        · rename_i q hq; exact ⟨_, hq, .inr ⟨q, rfl, h⟩⟩
        · rename_i r' hq; cases h; exact ⟨_, hq, .inl rfl⟩
      obtain ⟨x, hx0, hx1'⟩ := hw
      have hr : roundT S live vt ex b p (fun y => y = x) := by rw [w]; exact T.run_wp _ hx0 rfl
      refine codeC_sem hT hC hmx hn b hr hc hdr hl c wE m a w0 _ hg hd fun ax s' m' a' w' hk hg' hd' => ?_
      cases ax with
      | normal =>
        have hk : view (slots live s') vt s' fun q => Sum.inl q = x := hk
        obtain ⟨q, h3, m2, hg2⟩ := view_ent hn (ble_le hx1) (ble_le hx2) hk hg'
        rcases hx1' with e | ⟨q', e, h4⟩
        · rw [e] at h3; cases h3
        · rw [e] at h3; cases h3
          exact ih q h4 hg2 hd'
      | exit id =>
        have hk : exitV ex (.exit id) s' fun y => Sum.inr y = x := hk
        obtain ⟨y, h3, h4⟩ := exitV_ok hn hx3 hk hg'
        rcases hx1' with e | ⟨q', e, _⟩
        · rw [e] at h3; cases h3
          obtain ⟨s2, k1, m2, k2⟩ := h4 K h2
          exact hQ (.exit id) s2 m2 a' w' k1 k2 hd'
        · rw [e] at h3; cases h3
      | ret =>
        have hk : exitV ex .ret s' fun y => Sum.inr y = x := hk
        obtain ⟨y, h3, h4⟩ := exitV_ok hn hx3 hk hg'
        rcases hx1' with e | ⟨q', e, _⟩
        · rw [e] at h3; cases h3
          obtain ⟨s2, k1, m2, k2⟩ := h4 K h2
          exact hQ .ret s2 m2 a' w' k1 k2 hd'
        · rw [e] at h3; cases h3
  exact key N p hN hg1 hd

end

/-! ### Functions -/

section
variable {P : Program} {S : SE}

theorem cr_tup {ok : Nat → Prop} {h : Array Obj} {m : Map} {vs : List AV} {cv : Value} (hv : VR ok h m (oneOf vs) cv) : ∃ C : Array Value, CR ok h m vs C 0 ∧ ∀ (ok' : Nat → Prop) (m' : Map) (ws : List AV), ws.length = vs.length → CR ok' h m' ws C 0 → VR ok' h m' (oneOf ws) cv := by
  match vs, hv with
  | [a], hv =>
    refine ⟨#[cv], cr_of1 rfl hv, fun ok' m' ws hl hc => ?_⟩
    match ws, hl, hc with
    | [b], _, hc =>
      obtain ⟨v, h1, h2⟩ := cr_to1 hc
      simp at h1; subst h1
      exact h2
  | [], hv =>
    obtain ⟨us, rfl, h1, h2⟩ := VR.tup_inv (hv : VR ok h m (.tup []) cv)
    refine ⟨us, h2, fun ok' m' ws hl hc => ?_⟩
    match ws, hl with
    | [], _ => exact .tup' h1 hc
  | a :: b :: r, hv =>
    obtain ⟨us, rfl, h1, h2⟩ := VR.tup_inv (hv : VR ok h m (.tup (a :: b :: r)) cv)
    refine ⟨us, h2, fun ok' m' ws hl hc => ?_⟩
    match ws, hl with
    | c :: d :: q, hl => exact .tup' (by rw [h1]; exact hl.symm) hc

/-- What a function answers, by its text. -/
theorem fun_A (hT : TyOK P S.T) (hC : ConOK P S) (hmx : P.follows .mixedOrders = true) {f : FuncId} {fn : Func} (hf : FnOne P f fn)
    (hl : ∀ code, fn.body = some code → LoopsOK P S fn.ntmps code) {r : VT} (hr : r.cnt.ble MANY = true) {args' : List AV} {y : r.T} {args : List AV} (h : funA S fn args' r fun z => z = y) (hle : CLe args args') {cx : Ctx} {m : Map} {w : World} {cargs : Array Value} (hs : SR cx m [] [] w) (hca : CR (okB cx.X m [] []) w.heap m args cargs 0) (hsz : cargs.size = args.length)
    (hm : ∀ b, m b = none) : CallsTo P f cargs w fun cv w' => ∃ m', After cx m [] [] w 0 (oneOf (r.en y 0)) (r.hp y 0) [] WIDE cv m' w' := by
  unfold funA at h
  obtain ⟨code, hb, h⟩ := optC_some h
  obtain ⟨hlen, h⟩ := must_and h
  right
  refine ⟨run_callFunc hf.1 hb hf.2.2 cargs w, ?_⟩
  have hok := hf.2.1
  unfold fnOk at hok
  rw [hb] at hok
  simp only [Bool.and_eq_true] at hok
  have hat := entered (fn := fn) (nx := 0) hs (hca.le hle) (by rw [hsz, hle.1]) (fun b _ => hm b) (ble_le hlen) (ble_le hok.1)
  refine calls_of_wp hf.1 hb ?_
  have hg : Good fn.ntmps cx w m ⟨Fr.args args' 0 (Fr.full 10), [], [], 0⟩ { tmps := cargs ++ Array.replicate (fn.ntmps - cargs.size) undef, defers := [] } w :=
    ⟨hat, fun β C e z h1 h2 => ⟨⟨h1, fun b o L hb => by cases hb⟩, h2⟩⟩
  refine codeC_sem hT hC hmx (ble_le hok.1) code h hok.2.1 hok.2.2 (hl code hb) cx w m _ w _ hg rfl fun ax s' m' a' w' hk hg' hd' => ?_
  obtain ⟨hnx, hk⟩ := must_and (hk : must (s'.nx.ble WIDE) (@AX.rec (fun _ => Prop) (endA S.T fn.results.toList r s' fun z => z = y) (fun _ => False) (endA S.T fn.results.toList r s' fun z => z = y) ax))
  have fin : endA S.T fn.results.toList r s' (fun z => z = y) → a'.defers = [] ∧ ∃ cv, (results fn a'.tmps).run P w' = .ok cv w' ∧ ∃ u, Ending.returned cv = .returned u ∧ ∃ m', After cx m [] [] w 0 (oneOf (r.en y 0)) (r.hp y 0) [] WIDE u m' w' := by
    intro h
    obtain ⟨vs, h1, h2⟩ := optC_some h
    have hans : ansOf S.T fn.results.toList s' = .ok (oneOf vs) s'.H s'.F s'.nx := by unfold ansOf; rw [h1]
    obtain ⟨_, _, _, cv, g1, g2⟩ := sim_ans hT hg'.here hans
    obtain ⟨z, rfl, m2, k1, k2, k3, k4, k5⟩ := view_core h2 hg'.here.sr
    obtain ⟨C, q1, q2⟩ := cr_tup g2
    refine ⟨hd', cv, g1, cv, rfl, m2, ⟨⟨fun b L hb => (by rw [hm b] at hb; cases hb), fun β C e z' ho hh => ?_⟩, k1, q2 _ _ _ k4.symm (k3 C 0 q1), Nat.zero_le _, fun b hb => .inr ⟨Nat.zero_le b, ?_⟩⟩⟩
    · obtain ⟨e1, e2⟩ := hg'.old β C e z' ho.1 hh
      exact ⟨k2 β e1, e2⟩
    · rcases Nat.lt_or_ge b MANY with hlt | hge
      · exact Nat.lt_of_lt_of_le hlt (by decide)
      · exact absurd (k5 b (Nat.le_trans (ble_le hr) hge)) hb
  cases ax with
  | normal => exact fin hk
  | ret => exact fin hk
  | exit k => exact hk.elim

/-! Contracts in a row. -/

abbrev Cons := List (FuncId × (List AV → Option Con))

def conOf : Cons → FuncId → Option (List AV → Option Con)
  | [], _ => none
  | p :: r, f => bif p.1.beq f then some p.2 else conOf r f

/-- A contract of one function, by what is known of others. -/
def ConOne (P : Program) (f : FuncId) (g : List AV → Option Con) : Prop :=
  ∀ args c r, g args = some c → preP c.pre → c.o = some r → ∀ (cx : Ctx) (m : Map) (w : World) (cargs : Array Value), SR cx m [] [] w → CR (okB cx.X m [] []) w.heap m args cargs 0 → cargs.size = args.length →
    (∀ b, m b = none) → CallsTo P f cargs w fun cv w' => ∃ m', After cx m [] [] w 0 (c.v r) (c.H r) [] WIDE cv m' w'

def ConsOK (P : Program) (l : Cons) : Prop := ∀ p ∈ l, ConOne P p.1 p.2

theorem consOK_nil {P : Program} : ConsOK P [] := fun p hp => by cases hp
theorem consOK_cons {P : Program} {f : FuncId} {g : List AV → Option Con} {l : Cons} (h : ConOne P f g) (hl : ConsOK P l) : ConsOK P ((f, g) :: l) := fun p hp => by
  rcases List.mem_cons.1 hp with rfl | hp
  · exact h
  · exact hl p hp
theorem conOne_or {P : Program} {f : FuncId} {g h : List AV → Option Con} (h1 : ConOne P f g) (h2 : ConOne P f h) : ConOne P f (conOr g h) := fun args c r hc hp => by
  unfold conOr at hc
  split at hc
  · rename_i c' hc'
    cases hc
    exact h1 args c r hc' hp
  · exact h2 args c r hc hp

omit [Syms] in
theorem conOf_mem {f : FuncId} {g : List AV → Option Con} : ∀ {l : Cons}, conOf l f = some g → (f, g) ∈ l
  | [], h => by cases h
  | p :: r, h => by
    rw [conOf] at h
    cases hf : p.1.beq f with
    | true =>
      rw [hf, cond_true] at h
      have := beq_eq' hf
      subst this
      cases h
      exact List.mem_cons_self
    | false =>
      rw [hf, cond_false] at h
      exact List.mem_cons_of_mem _ (conOf_mem h)

theorem conOK_of {P : Program} {S : SE} {l : Cons} (h : ConsOK P l) (hS : S.con = conOf l) (hh : HookOK P S := by exact fun _ _ h => nomatch h) : ConOK P S := ⟨hh, fun f g args c r h1 => by
  rw [hS] at h1
  exact h (f, g) (conOf_mem h1) args c r⟩

/-- A function's contract, by its tree. -/
theorem con_T (hT : TyOK P S.T) (hC : ConOK P S) (hmx : P.follows .mixedOrders = true) {f : FuncId} {fn : Func} (hf : FnOne P f fn) (hl : ∀ code, fn.body = some code → LoopsOK P S fn.ntmps code) {a : DT} {r : VT} (hr : r.cnt.ble MANY = true) {t : a.T → T r.T}
    (w : ∀ x K, funT S fn a r x K = (t x).wp K) : ConOne P f (conT a r fun x => (t x).run) := by
  intro args c y hc hp ho cx m w0 cargs hs hca hsz hm
  unfold conT at hc
  split at hc
  · rename_i x hx
    cases hc
    exact fun_A hT hC hmx hf hl hr (args' := a.en x) (y := y) (show funT S fn a r x (fun z => z = y) by rw [w]; exact T.run_wp _ ho rfl) (DT.deW_le hx hp) hs hca hsz hm
  · cases hc

/-- A contract told in other words. -/
theorem con_eq {f : FuncId} {a : DT} {r : VT} {F G : a.T → Option r.T} (h : ConOne P f (conT a r F)) (e : ∀ x y, G x = some y → F x = some y) : ConOne P f (conT a r G) := by
  intro args c y hc hp ho
  unfold conT at hc
  split at hc
  · rename_i x hx
    cases hc
    exact h args ⟨_, _, F x, _, _⟩ y (by unfold conT; rw [hx]) hp (e x y ho)
  · cases hc

/-! The loops of a function. -/

theorem loops_nil {n : Nat} {code : Code} (h : (loopsOf code).length.beq 0 = true) : LoopsOK P S n code := fun b hb => by
  have : loopsOf code = [] := List.length_eq_zero_iff.1 (beq_eq' h)
  rw [this] at hb; cases hb

/-- Each of some loops is known. -/
def LoopsIn (P : Program) (S : SE) (n : Nat) : List Code → Prop
  | [] => True
  | b :: r => (∀ L, S.loop (keyOf b) = some L → LoopOK P n L b) ∧ LoopsIn P S n r

theorem loopsIn_ok {n : Nat} : ∀ {l : List Code}, LoopsIn P S n l → ∀ b ∈ l, ∀ L, S.loop (keyOf b) = some L → LoopOK P n L b
  | b :: r, h, b', hb, L, hL => by
    rcases List.mem_cons.1 hb with rfl | hb
    · exact h.1 L hL
    · exact loopsIn_ok h.2 b' hb L hL

theorem loopsIn_at {n : Nat} : ∀ {l : List Code}, (∀ i, i < l.length → ∀ L, S.loop (keyOf (l.getD i .skip)) = some L → LoopOK P n L (l.getD i .skip)) → LoopsIn P S n l
  | [], _ => trivial
  | b :: r, h => ⟨fun L hL => h 0 (by simp) L hL, loopsIn_at fun i hi L hL => h (i + 1) (by simpa using hi) L hL⟩

/-- The loops of a text, by their places; a loop's meaning by its key. -/
def lpOf : List (Nat × (St → (AX → St → Prop) → Prop)) → Nat → Option (St → (AX → St → Prop) → Prop)
  | [], _ => none
  | p :: r, k => bif p.1.beq k then some p.2 else lpOf r k

theorem loops_of {n : Nat} {code : Code} (h : LoopsIn P S n (loopsOf code)) : LoopsOK P S n code := fun b hb => loopsIn_ok h b hb

/-- One loop by its key. -/
theorem loopIn_cons {n : Nat} {b : Code} {r : List Code} {L : St → (AX → St → Prop) → Prop} (hk : S.loop (keyOf b) = some L) (h : LoopOK P n L b) (hr : LoopsIn P S n r) : LoopsIn P S n (b :: r) := ⟨fun L' hL' => by
  rw [hk] at hL'; cases hL'; exact h, hr⟩

end

/-! ### A call without arguments that was run -/

theorem con_ran {P : Program} {T : Tabs} (hT : TyOK P T) (hF : FnOK P T) (hmx : P.follows .mixedOrders = true) {cfg : Cfg} (hp : PrimOK P cfg) {N : Nat} {f : FuncId} {r : VT} {y : r.T} {v : AV} (h : treeAns (acallK T cfg N f [] [] [] 0) = some v) (hv : VLe v (oneOf (r.en y 0))) (hh : r.hp y 0 = []) : ConOne P f (conT .nil r fun _ => some y) := by
  intro args c z hc _ ho cx m w cargs hs hr hsz hm
  unfold conT at hc
  split at hc
  · rename_i x hx
    cases hc
    cases ho
    obtain ⟨h1, _⟩ := DT.deW_le hx trivial
    obtain rfl : args = [] := List.length_eq_zero_iff.1 h1
    unfold treeAns at h
    split at h
    · rename_i v' H' F' n hacc
      cases hn : n.ble WIDE with
      | false => rw [hn, cond_false] at h; cases h
      | true =>
        rw [hn, cond_true] at h
        split at h
        · rename_i r' hres
          have h := Option.some.inj h
          rw [acallK_eq] at hacc
          have key := acall_ok hT hF hp hmx N f [] [] [] 0 _ _ _ _ hacc cx m w cargs hs hr hsz (fun b _ => hm b)
          refine key.mono fun cv w' ⟨m', ha⟩ => ⟨m', ?_⟩
          have ht := ha.tree hres (Nat.le_of_ble_eq_true hn)
          rw [h] at ht
          show After cx m [] [] w 0 (oneOf (r.en y 0)) (r.hp y 0) [] WIDE cv m' w'
          rw [hh]
          exact ⟨ht.ext, ht.sr, hv _ _ _ _ ht.vr, ht.le, ht.dom⟩
        · cases h
    · cases h
  · cases hc

/-! ### Numbers -/

omit [Syms] in
theorem wrap64 {n : Int} (h1 : -9223372036854775808 ≤ n) (h2 : n ≤ 9223372036854775807) : IntKind.wrap .i64 n = n := by
  have hb : (2 : Int) ^ IntKind.i64.bits = 18446744073709551616 := by decide
  have hc : (2 : Int) ^ (IntKind.i64.bits - 1) = 9223372036854775808 := by decide
  have hs : IntKind.i64.signed = true := rfl
  unfold IntKind.wrap
  simp only [hb, hc, hs, Bool.true_and, decide_eq_true_eq]
  split <;> omega

/-! ### A law's call -/

theorem law_T {P : Program} {S : SE} (hT : TyOK P S.T) (hC : ConOK P S) (hmx : P.follows .mixedOrders = true) {f : FuncId} {fn : Func} (hf : FnOne P f fn) {a : DT} {F : a.T → Option Bool} (hc : ConOne P f (conT a (.dt .bool) F)) {x : a.T} (hx : F x = some true) {args : List AV} (he : whole (a.de args) = some x) (hck : preP (a.chk args))
    {w : World} {cargs : Array Value} (hcr : CR (fun _ => True) w.heap noMap args cargs 0) (hsz : cargs.size = args.length) (hcall : (callFunc f cargs).run P w = .ok (.enter f cargs) w) :
    Calls P f cargs w fun e w' => e = .returned (.bool true) ∧ Kept w w' := by
  have hs : SR ⟨fun _ => False, fun _ => False, w⟩ noMap [] [] w :=
    ⟨fun β h => h.elim, fun b o hb => (by cases hb), fun b o _ _ _ _ hb => (by cases hb), fun b o L hb => (by cases hb), fun b o L hb => (by cases hb), Keep.refl _ _⟩
  have key := hc args ⟨_, _, F x, _, _⟩ true (by unfold conT; rw [he]) hck hx _ _ _ _ hs
    (hcr.mono (fun β C e z _ hh => ⟨⟨fun h => h, fun b o L hb => (by cases hb)⟩, hh⟩) (MLe.refl _)) hsz (fun _ => rfl)
  rcases key with ⟨v, w', h1, _⟩ | ⟨_, h2⟩
  · rw [hcall] at h1; cases h1
  · refine h2.mono fun e w' ⟨v, he, m', ha⟩ => ?_
    have hv : VR _ _ _ (.ub true) v := ha.vr
    cases hv
    exact ⟨he, ha.sr.keep⟩

/-- A row of one argument, of more. -/
theorem cr_one {h : Array Obj} {a : AV} {v : Value} (ha : VR (fun _ => True) h noMap a v) : CR (fun _ => True) h noMap [a] #[v] 0 := cr_cons rfl ha cr_nil
theorem cr_two {h : Array Obj} {a b : AV} {v u : Value} (ha : VR (fun _ => True) h noMap a v) (hb : VR (fun _ => True) h noMap b u) : CR (fun _ => True) h noMap [a, b] #[v, u] 0 := cr_cons rfl ha (cr_cons rfl hb cr_nil)

end Go.Proofs.Ytjihnbjdclobgaa.VS

/- Functions that call themselves; hooks in a row; the loops of a text. Conditions: none. -/
namespace Go.Proofs.Ytjihnbjdclobgaa.VS

/-! ### Functions that call themselves -/

def recN {α ρ : Type} (Φ : (α → Option ρ) → α → Option ρ) : Nat → α → Option ρ
  | 0 => fun _ => none
  | n + 1 => Φ (recN Φ n)

open Classical in
noncomputable def recT {α ρ : Type} (Φ : (α → Option ρ) → α → Option ρ) (x : α) : Option ρ :=
  if h : ∃ r n, recN Φ n x = some r then some h.choose else none

theorem recT_iter {α ρ : Type} {Φ : (α → Option ρ) → α → Option ρ} {x : α} {r : ρ} (h : recT Φ x = some r) : ∃ n, recN Φ n x = some r := by
  unfold recT at h
  split at h
  · rename_i hx
    cases h
    exact hx.choose_spec
  · cases h

/-- What is answered to a depth, and to each greater one. -/
theorem recT_of {α ρ : Type} {Φ : (α → Option ρ) → α → Option ρ} {x : α} {r : ρ} {n : Nat} (h : ∀ m, n ≤ m → recN Φ m x = some r) (hm : ∀ m s, recN Φ m x = some s → m < n → s = r) : recT Φ x = some r := by
  have hx : ∃ r n, recN Φ n x = some r := ⟨r, n, h n (Nat.le_refl n)⟩
  unfold recT
  rw [dif_pos hx]
  obtain ⟨m, hm'⟩ := hx.choose_spec
  rcases Nat.lt_or_ge m n with hlt | hge
  · rw [hm m _ hm' hlt]
  · rw [h m hge] at hm'
    exact hm'.symm

/-- What asks no more of what it calls than it answers. -/
def Mono {α ρ : Type} (Φ : (α → Option ρ) → α → Option ρ) : Prop := ∀ f g : α → Option ρ, (∀ x r, f x = some r → g x = some r) → ∀ x r, Φ f x = some r → Φ g x = some r

theorem recN_succ {α ρ : Type} {Φ : (α → Option ρ) → α → Option ρ} (hΦ : Mono Φ) : ∀ (n : Nat) (x : α) (r : ρ), recN Φ n x = some r → recN Φ (n + 1) x = some r
  | 0, _, _, h => by cases h
  | n + 1, x, r, h => hΦ _ _ (recN_succ hΦ n) x r h

theorem recN_le {α ρ : Type} {Φ : (α → Option ρ) → α → Option ρ} (hΦ : Mono Φ) {n m : Nat} (h : n ≤ m) {x : α} {r : ρ} (hr : recN Φ n x = some r) : recN Φ m x = some r := by
  induction h with
  | refl => exact hr
  | step _ ih => exact recN_succ hΦ _ _ _ ih

theorem recN_rec {α ρ : Type} {Φ : (α → Option ρ) → α → Option ρ} (hΦ : Mono Φ) {n : Nat} {x : α} {r : ρ} (h : recN Φ n x = some r) : recT Φ x = some r := by
  have hx : ∃ r n, recN Φ n x = some r := ⟨r, n, h⟩
  unfold recT
  rw [dif_pos hx]
  obtain ⟨m, hm⟩ := hx.choose_spec
  have h1 := recN_le hΦ (Nat.le_max_left n m) h
  have h2 := recN_le hΦ (Nat.le_max_right n m) hm
  rw [h1] at h2
  exact h2.symm

variable [Syms]

theorem con_rec {P : Program} {f : FuncId} {a : DT} {r : VT} {Φ : (a.T → Option r.T) → a.T → Option r.T} (h : ∀ self, ConOne P f (conT a r self) → ConOne P f (conT a r (Φ self))) : ConOne P f (conT a r (recT Φ)) := by
  have key : ∀ n, ConOne P f (conT a r (recN Φ n)) := by
    intro n
    induction n with
    | zero =>
      intro args c y hc _ ho
      unfold conT at hc
      split at hc
      · cases hc; cases ho
      · cases hc
    | succ n ih => exact h _ ih
  intro args c y hc hp ho
  unfold conT at hc
  split at hc
  · rename_i x hx
    cases hc
    obtain ⟨n, hn⟩ := recT_iter ho
    exact key n args ⟨_, _, recN Φ n x, _, _⟩ y (by unfold conT; rw [hx]) hp hn
  · cases hc

/-! ### Hooks -/

abbrev Hook := List AV → Heap → List Nat → Nat → Kont → Prop

def hookOf : List (FuncId × Hook) → FuncId → Option Hook
  | [], _ => none
  | p :: r, f => bif p.1.beq f then some p.2 else hookOf r f

def HookOne (P : Program) (f : FuncId) (h : Hook) : Prop :=
  ∀ args H F id k, h args H F id k → ∀ (c : Ctx) (m : Map) (w : World) (cargs : Array Value), SR c m H F w → CR (okB c.X m H F) w.heap m args cargs 0 → cargs.size = args.length →
    (∀ b, id ≤ b → b < id + STRIDE → m b = none) → CallsTo P f cargs w fun cv w' => ∃ v e rd fz m', k v e rd fz ∧ Done c m H F w id v e fz cv m' w'

def HooksOK (P : Program) (l : List (FuncId × Hook)) : Prop := ∀ p ∈ l, HookOne P p.1 p.2

theorem hooks_nil {P : Program} : HooksOK P [] := fun p hp => by cases hp
theorem hooks_cons {P : Program} {f : FuncId} {g : Hook} {l : List (FuncId × Hook)} (h : HookOne P f g) (hl : HooksOK P l) : HooksOK P ((f, g) :: l) := fun p hp => by
  rcases List.mem_cons.1 hp with rfl | hp
  · exact h
  · exact hl p hp

omit [Syms] in
theorem hookOf_mem {f : FuncId} {g : Hook} : ∀ {l : List (FuncId × Hook)}, hookOf l f = some g → (f, g) ∈ l
  | [], h => by cases h
  | p :: r, h => by
    rw [hookOf] at h
    cases hf : p.1.beq f with
    | true =>
      rw [hf, cond_true] at h
      have := beq_eq' hf
      subst this
      cases h
      exact List.mem_cons_self
    | false =>
      rw [hf, cond_false] at h
      exact List.mem_cons_of_mem _ (hookOf_mem h)

theorem hookOK_of {P : Program} {S : SE} {l : List (FuncId × Hook)} (h : HooksOK P l) (hS : S.hook = hookOf l) : HookOK P S := fun f g h1 => by
  rw [hS] at h1
  exact h (f, g) (hookOf_mem h1)

/-! ### The loops of a text -/

theorem loopsIn_nil {P : Program} {S : SE} {n : Nat} : LoopsIn P S n [] := trivial

theorem loops_code {P : Program} {S : SE} {fn : Func} {l : List Code} (h : (fn.body.map loopsOf).getD [] = l) (hl : LoopsIn P S fn.ntmps l) : ∀ code, fn.body = some code → LoopsOK P S fn.ntmps code := fun code hb => by
  rw [hb] at h
  have h : loopsOf code = l := h
  rw [← h] at hl
  exact loops_of hl

theorem loops_none {P : Program} {S : SE} {fn : Func} (h : ((fn.body.map loopsOf).getD []).length.beq 0 = true) : ∀ code, fn.body = some code → LoopsOK P S fn.ntmps code := fun code hb => by
  rw [hb] at h
  exact loops_nil h

theorem loops_sub {P : Program} {S : SE} {n : Nat} {b : Code} {l : List Code} (h : loopsOf b = l) (hl : LoopsIn P S n l) : LoopsOK P S n b := by
  rw [← h] at hl
  exact loops_of hl

end Go.Proofs.Ytjihnbjdclobgaa.VS

/- slices.Clone, by its text, at elements of any type. Conditions: none. -/
namespace Go.Proofs.Ytjihnbjdclobgaa.VS
variable [Syms]

omit [Syms] in
theorem decP_enc : ∀ (g : GT) (x : g.T) {k : g.T → Prop}, k x → decP g (enc g x) k
  | .u8, x, k, h => by
    have hx := x.toNat_lt
    show (0 ≤ (x.toNat : Int) ∧ (x.toNat : Int) < 256) ∧ k (UInt8.ofNat (x.toNat : Int).toNat)
    rw [Int.toNat_natCast, UInt8.ofNat_toNat]
    exact ⟨⟨by omega, by omega⟩, h⟩
  | .bool, x, k, h => by show optC k (dec .bool (enc .bool x)); rw [dec_enc]; exact h
  | .int, x, k, h => by show optC k (dec .int (enc .int x)); rw [dec_enc]; exact h
  | .str, x, k, h => by show optC k (dec .str (enc .str x)); rw [dec_enc]; exact h
  | .strs, x, k, h => by show optC k (dec .strs (enc .strs x)); rw [dec_enc]; exact h
  | .nam, x, k, h => by show optC k (dec .nam (enc .nam x)); rw [dec_enc]; exact h
  | .blk, x, k, h => by show optC k (dec .blk (enc .blk x)); rw [dec_enc]; exact h
  | .nod, x, k, h => by show optC k (dec .nod (enc .nod x)); rw [dec_enc]; exact h
  | .dsk, x, k, h => by show optC k (dec .dsk (enc .dsk x)); rw [dec_enc]; exact h
  | .opn, x, k, h => by show optC k (dec .opn (enc .opn x)); rw [dec_enc]; exact h
  | .opns, x, k, h => by show optC k (dec .opns (enc .opns x)); rw [dec_enc]; exact h
  | .spt, x, k, h => by show optC k (dec .spt (enc .spt x)); rw [dec_enc]; exact h
  | .row, x, k, h => by show optC k (dec .row (enc .row x)); rw [dec_enc]; exact h
  | .akt, x, k, h => by show optC k (dec .akt (enc .akt x)); rw [dec_enc]; exact h
  | .bss, x, k, h => by show optC k (dec .bss (enc .bss x)); rw [dec_enc]; exact h
  | .rss, x, k, h => by show optC k (dec .rss (enc .rss x)); rw [dec_enc]; exact h

omit [Syms] in
theorem decAllP_encs {g : GT} : ∀ {l : List g.T} {k : List g.T → Prop}, k l → decAllP g (encs g l) k
  | [], k, h => by cases g <;> exact h
  | x :: r, k, h => by
    have e : encs g (x :: r) = enc g x :: encs g r := by cases g <;> rfl
    rw [e]
    exact decP_enc g x (decAllP_encs (g := g) (l := r) (k := fun l => k (x :: l)) h)

omit [Syms] in
theorem optC_mono {α : Type} {k k' : α → Prop} (h : ∀ x, k x → k' x) {o : Option α} (hk : optC k o) : optC k' o := by
  cases o with
  | none => exact hk
  | some x => exact h x hk

omit [Syms] in
theorem decB_mono {k k' : UInt8 → Prop} (h : ∀ x, k x → k' x) {a : AV} (hk : decB k a) : decB k' a := by
  unfold decB at hk ⊢
  split at hk
  · exact ⟨hk.1, h _ hk.2⟩
  · exact hk

omit [Syms] in
theorem decP_mono : ∀ (g : GT) {a : AV} {k k' : g.T → Prop}, (∀ x, k x → k' x) → decP g a k → decP g a k'
  | .u8, a, k, k', h, hk => decB_mono h hk
  | .bool, a, k, k', h, hk => optC_mono h hk
  | .int, a, k, k', h, hk => optC_mono h hk
  | .str, a, k, k', h, hk => optC_mono h hk
  | .strs, a, k, k', h, hk => optC_mono h hk
  | .nam, a, k, k', h, hk => optC_mono h hk
  | .blk, a, k, k', h, hk => optC_mono h hk
  | .nod, a, k, k', h, hk => optC_mono h hk
  | .dsk, a, k, k', h, hk => optC_mono h hk
  | .opn, a, k, k', h, hk => optC_mono h hk
  | .opns, a, k, k', h, hk => optC_mono h hk
  | .spt, a, k, k', h, hk => optC_mono h hk
  | .row, a, k, k', h, hk => optC_mono h hk
  | .akt, a, k, k', h, hk => optC_mono h hk
  | .bss, a, k, k', h, hk => optC_mono h hk
  | .rss, a, k, k', h, hk => optC_mono h hk

omit [Syms] in
theorem decAllP_mono {g : GT} : ∀ {l : List AV} {k k' : List g.T → Prop}, (∀ xs, k xs → k' xs) → decAllP g l k → decAllP g l k'
  | [], k, k', h, hk => h _ hk
  | a :: r, k, k', h, hk => decP_mono g (fun x hx => decAllP_mono (g := g) (l := r) (fun l => h (x :: l)) hx) hk

open Classical in
/-- What slices.Clone answers. -/
noncomputable def fClone (by_ : Nat) {α : Type} (l : List α) : Option (List α) := if roomP l.length by_ then some l else none

theorem con_clone {P : Program} {S : SE} (hT : TyOK P S.T) (hC : ConOK P S) (hmx : P.follows .mixedOrders = true) {f : FuncId} {fn : Func} (hf : FnOne P f fn) (hl : ((fn.body.map loopsOf).getD []).length.beq 0 = true) {g : GT} {by_ : Nat}
    (h1 : ∀ K : List g.T → Prop, (roomP 0 by_ → K []) → funA S fn [.nils] (.gs g) K) (h2 : ∀ K : List g.T → Prop, (roomP 0 by_ → K []) → funA S fn [.nev] (.gs g) K)
    (h3 : ∀ (x : g.T) (xs : List g.T) (K : List g.T → Prop), (decAllP g (encs g (x :: xs)) fun ys => roomP ys.length by_ ∧ K ys) → funA S fn [.sl (encs g (x :: xs))] (.gs g) K) : ConOne P f (conT (.L g) (.gs g) (fClone by_)) := by
  intro args c y hc hp ho cx m w cargs hs hca hsz hm
  unfold conT at hc
  split at hc
  · rename_i l hx
    cases hc
    have ho : fClone by_ l = some y := ho
    unfold fClone at ho
    split at ho
    · rename_i hroom
      cases ho
      have hle : CLe args [.tl g l] := DT.deW_le hx hp
      have hca' := hca.le hle
      obtain ⟨v, hv, hvr⟩ := hca' 0 _ rfl
      have hlen : cargs.size = 1 := by rw [hsz, hle.1]; rfl
      have one : ∀ a, VR (okB cx.X m [] []) w.heap m a v → CR (okB cx.X m [] []) w.heap m [a] cargs 0 := fun a ha => cr_of1 hv ha
      have go : ∀ a, VR (okB cx.X m [] []) w.heap m a v → funA S fn [a] (.gs g) (fun z => z = l) → CallsTo P f cargs w fun cv w' => ∃ m', After cx m [] [] w 0 (oneOf ((VT.gs g).en l 0)) ((VT.gs g).hp l 0) [] WIDE cv m' w' := fun a ha hfn =>
        fun_A hT hC hmx hf (loops_none hl) rfl hfn (CLe.refl [a]) hs (one a ha) hlen hm
      cases l with
      | nil =>
        have hvr := VR.tl_iff.1 hvr
        have hvr : VR (okB cx.X m [] []) w.heap m (.sl []) v := by cases g <;> exact hvr
        cases hvr with
        | @slE _ a cp h0 =>
          cases a with
          | none => rw [h0 rfl] at *; exact go .nils .nils (h1 _ fun _ => rfl)
          | some a => exact go .nev .nev (h2 _ fun _ => rfl)
        | sl _ hne _ _ _ _ _ _ _ => exact absurd rfl hne
      | cons x xs => exact go _ (VR.tl_iff.1 hvr) (h3 x xs _ (decAllP_encs ⟨hroom, rfl⟩))
    · cases ho
  · cases hc

end Go.Proofs.Ytjihnbjdclobgaa.VS

/- Functions that work on their caller's own rows, for values that are not known: slices.Insert, slices.Delete. Conditions: none. -/
namespace Go.Proofs.Ytjihnbjdclobgaa.VS

/-- A row of one's own, whole. -/
def rowK (H : Heap) (F : List Nat) (g : GT) (k : Nat → Nat → List g.T → Prop) : AV → Prop
  | .gs g1 b n => must (g1.size.beq g.size) (match hlive H F b with
    | some (.tarr g' l) => optC (fun l => n = l.length ∧ k b n l) (listOf g (dec g) (.tl g' l))
    | _ => False)
  | .osl m b lo n => must (m.beq g.size && lo.beq 0) (match hlive H F b with
    | some (.tarr g' l) => optC (fun l => n = l.length ∧ k b n l) (listOf g (dec g) (.tl g' l))
    | some (.arr m' xs) => must (m'.beq g.size) (decAllP g xs fun l => n = l.length ∧ k b n l)
    | _ => False)
  | _ => False

/-- What is put in: a row that was just laid. -/
def laidK (H : Heap) (g : GT) (k : Nat → List g.T → Prop) : AV → Prop
  | .osl m2 b2 lo2 n2 => must (m2.beq g.size && Nat.blt 0 n2) (match hget H b2 with
    | some (.arr m3 ys0) => must (m3.beq g.size && (lo2 + n2).ble ys0.length && ys0.all (fitsN g.size)) (decAllP g ((ys0.drop lo2).take n2) (k b2))
    | _ => False)
  | _ => False

def insRowK (by_ : Nat) (g : GT) (H : Heap) (F : List Nat) (id : Nat) (k : Kont) (i : Int) (b2 : Nat) (ys : List g.T) (s : AV) : Prop :=
  rowK H F g (fun b n l => must (!(b.beq b2) && !(b.beq id)) ((0 ≤ i ∧ i ≤ n ∧ roomP (l.length + ys.length) by_) ∧ k (.gs g id (n + ys.length)) [(id, some (.tarr g (l.take i.toNat ++ ys ++ l.drop i.toNat))), (b, none)] [] [])) s

def insNilK (by_ : Nat) (g : GT) (id : Nat) (k : Kont) (i : Int) (ys : List g.T) : Prop :=
  (i = 0 ∧ roomP ys.length by_) ∧ k (.gs g id ys.length) [(id, some (.tarr g ys))] [] []

def insSK (by_ : Nat) (g : GT) (H : Heap) (F : List Nat) (id : Nat) (k : Kont) (i : Int) (b2 : Nat) (ys : List g.T) (s : AV) : Prop :=
  match s with
  | .nils => insNilK by_ g id k i ys
  | .emp => insNilK by_ g id k i ys
  | s => insRowK by_ g H F id k i b2 ys s

/-- slices.Insert. -/
def insK (T : Tabs) (S : TypeId) (g : GT) (args : List AV) (H : Heap) (F : List Nat) (id : Nat) (k : Kont) : Prop :=
  match args with
  | [s, .int .i64 i, v] => optC (fun e => optC (fun by_ => must (e.2.1.beq g.size && Nat.blt 1 g.size) (laidK H g (fun b2 ys => insSK by_ g H F id k i b2 ys s) v)) (bytesOf T e.1)) (elemT T S)
  | _ => False

variable [Syms]
section
variable {P : Program} {T : Tabs} {c : Ctx} {m : Map} {H : Heap} {F : List Nat} {w : World}

omit [Syms] in
theorem aappend_eq {S : TypeId} {e : TypeId × Nat × AV} {by_ id : Nat} {s x : AV} {ps : List AV} (he : elemT T S = some e) (hby : bytesOf T e.1 = some by_) (hps : elems H x = some ps) (hf : ps.all (fitsN e.2.1) = true) :
    aappend T H F id [S, S] s x = appendV H F id e.2.1 by_ (idOf s ++ idOf x) s ps := by
  have hk : kindOf T S = .slice e.1 := by
    unfold elemT elemOf at he
    split at he
    · rename_i e0 h0
      split at h0
      · cases h0
        rename_i hk
        split at he
        · rename_i s' z' _ _
          cases hq : fitsN s' z' && Nat.blt 0 s' with
          | false => rw [hq, cond_false] at he; cases he
          | true => rw [hq, cond_true] at he; cases he; exact hk
        · cases he
      · cases h0
    · cases he
  unfold aappend
  simp only [he, hby, appended, hk, hps, hf, cond_true]

/-- From a call that was made over rows of trees. -/
theorem hook_fin {f : FuncId} {cargs : Array Value} {id : Nat} {k : Kont} {H1 : Heap} (hH : HLe H H1) {v1 v : AV} {e1 e : Eff} {nx : Nat} (hk : k v e [] []) (hv : VLe v1 v) (hx : HLe (happ H1 e1) (happ H e)) (hnx : nx ≤ id + STRIDE)
    (h : CallsTo P f cargs w fun cv w' => ∃ m', After c m H1 F w id v1 (happ H1 e1) F nx cv m' w') : CallsTo P f cargs w fun cv w' => ∃ v e rd fz m', k v e rd fz ∧ Done c m H F w id v e fz cv m' w' := by
  refine h.mono fun cv w' ⟨m', ha⟩ => ⟨v, e, [], [], m', hk, ?_, ?_, ?_, fun b hb => (ha.dom b hb).imp (fun h => h) fun h => ⟨h.1, Nat.lt_of_lt_of_le h.2 hnx⟩⟩
  · exact (Ext.trans ⟨MLe.refl m, fun β C e z ho hh => ⟨okB_le hH ho, hh⟩⟩ ha.ext).trans ⟨MLe.refl m', fun β C e z ho hh => ⟨okB_le hx ho, hh⟩⟩
  · exact ha.sr.le hx
  · exact (hv _ _ _ _ ha.vr).mono (fun β C e z ho hh => ⟨okB_le hx ho, hh⟩) (MLe.refl _)

omit [Syms] in
theorem gs_up [Syms] {g : GT} {b n : Nat} : VLe (.osl g.size b 0 n) (.gs g b n) := fun _ _ _ v hv => by
  cases hv with
  | oslE h1 h2 h3 h4 => exact .gs (.oslE h1 h2 h3 h4)
  | osl h1 h2 h3 h4 h5 h6 h7 h8 => exact .gs (.osl h1 h2 h3 h4 h5 h6 h7 h8)

omit [Syms] in
theorem insL_row [Syms] {g : GT} {ps qs : List AV} {l ys : List g.T} (h : DRow g ps l) (k : DRow g qs ys) (i : Nat) : DRow g (insL ps qs i) (l.take i ++ ys ++ l.drop i) := ((h.take i).append k).append (h.drop i)

theorem insK_ok (hT : TyOK P T) {f : FuncId} {S : TypeId} {g : GT} (hp : HOK1 P f (insH T S)) : ∀ args H F id k, insK T S g args H F id k → ∀ (c : Ctx) (m : Map) (w : World) (cargs : Array Value), SR c m H F w → CR (okB c.X m H F) w.heap m args cargs 0 → cargs.size = args.length →
    (∀ b, id ≤ b → b < id + STRIDE → m b = none) → CallsTo P f cargs w fun cv w' => ∃ v e rd fz m', k v e rd fz ∧ Done c m H F w id v e fz cv m' w' := by
  intro args H F id k h c m w cargs hs hc hsz hid
  have hid0 : m id = none := hid id (Nat.le_refl _) (by unfold STRIDE; omega)
  unfold insK at h
  split at h
  · rename_i s i v
    have hqq := optC_some h
    clear h
    obtain ⟨e, he, h⟩ := hqq
    have hqq := optC_some h
    clear h
    obtain ⟨by_, hby, h⟩ := hqq
    have hqq := must_and h
    clear h
    obtain ⟨he1, h⟩ := hqq
    simp only [Bool.and_eq_true] at he1
    have he2 := beq_eq' he1.1
    obtain ⟨m2, b2, lo2, n2, rfl⟩ : ∃ m2 b2 lo2 n2, v = .osl m2 b2 lo2 n2 := by
      cases v <;> first | exact ⟨_, _, _, _, rfl⟩ | exact h.elim
    · replace h : must (m2.beq g.size && Nat.blt 0 n2) (match hget H b2 with
        | some (.arr m3 ys0) => must (m3.beq g.size && (lo2 + n2).ble ys0.length && ys0.all (fitsN g.size)) (decAllP g ((ys0.drop lo2).take n2) fun ys => insSK by_ g H F id k i b2 ys s)
        | _ => False) := h
      have hqq := must_and h
      clear h
      obtain ⟨hm2, h⟩ := hqq
      simp only [Bool.and_eq_true] at hm2
      have hm2s := beq_eq' hm2.1
      subst hm2s
      split at h
      · rename_i m3 ys0 hb2
        have hqq := must_and h
        clear h
        obtain ⟨hm3, h⟩ := hqq
        simp only [Bool.and_eq_true] at hm3
        have hm3 : (m3.beq g.size = true ∧ (lo2 + n2).ble ys0.length = true) ∧ ys0.all (fitsN g.size) = true := by simpa [and_assoc] using hm3
        have hm3s := beq_eq' hm3.1.1
        subst hm3s
        have hle2 := Nat.le_of_ble_eq_true hm3.1.2
        have hqq := decAllP_some h
        clear h
        obtain ⟨ys, hys, h⟩ := hqq
        have hyl := hys.length
        have hYl : ((ys0.drop lo2).take n2).length = n2 := by rw [List.length_take, List.length_drop]; omega
        obtain ⟨n2', rfl⟩ : ∃ q, n2 = q + 1 := ⟨n2 - 1, by have := Nat.le_of_ble_eq_true hm2.2; omega⟩
        have hel : ∀ {H1 : Heap}, hget H1 b2 = some (.arr g.size ys0) → elems H1 (.osl g.size b2 lo2 (n2' + 1)) = some ((ys0.drop lo2).take (n2' + 1)) := fun {H1} hb => by
          simp only [elems, hb, hm3.1.2, cond_true]
        have hne : ∃ a r, (ys0.drop lo2).take (n2' + 1) = a :: r := by
          cases hq : (ys0.drop lo2).take (n2' + 1) with
          | nil => rw [hq] at hYl; cases hYl
          | cons a r => exact ⟨a, r, rfl⟩
        have hfit : ((ys0.drop lo2).take (n2' + 1)).all (fitsN g.size) = true := hys.fits
        -- onto nothing
        have nil_ : ∀ (b0 : Option Nat), (∀ q, b0 = some q → q ≠ id ∧ q ≠ b2) → ∀ s', (s' = .nils ∨ s' = .emp) → i = 0 → roomP ys.length by_ → CR (okB c.X m H F) w.heap m [s', .int .i64 0, .osl g.size b2 lo2 (n2' + 1)] cargs 0 → cargs.size = 3 →
            k (.gs g id ys.length) ((id, some (.tarr g ys)) :: (match b0 with | some q => [(q, none)] | none => [])) [] [] → CallsTo P f cargs w fun cv w' => ∃ v e rd fz m', k v e rd fz ∧ Done c m H F w id v e fz cv m' w' := by
          intro b0 hb0 s' hs' hi hroom hcr hcz hk
          obtain ⟨a, r, hq⟩ := hne
          have hlen' : n2' + 1 = ys.length := by omega
          have hap : aappend T H F id [S, S] s' (.osl g.size b2 lo2 (n2' + 1)) = .ok (.osl g.size id 0 (n2' + 1)) [(id, some (.arr g.size ((ys0.drop lo2).take (n2' + 1))))] (idOf s' ++ idOf (.osl g.size b2 lo2 (n2' + 1))) [] := by
            rw [aappend_eq he hby (hel hb2) (by rw [he2]; exact hfit), hq, he2]
            have hl : (a :: r).length = n2' + 1 := by rw [← hq]; exact hYl
            have hr : room (n2' + 1) by_ = true := room_of (by rw [hlen']; exact hroom)
            rcases hs' with rfl | rfl <;> simp only [appendV, hl, hr, cond_true, newArr]
          have hins : insH T S [s', .int .i64 0, .osl g.size b2 lo2 (n2' + 1)] H F id = some (.osl g.size id 0 (n2' + 1), happ H [(id, some (.arr g.size ((ys0.drop lo2).take (n2' + 1))))], F, id + STRIDE) := by
            have e0 : insH T S [s', .int .i64 0, .osl g.size b2 lo2 (n2' + 1)] H F id = insS T S 0 g.size b2 lo2 (n2' + 1) H F id s' := rfl
            rw [e0]
            rcases hs' with rfl | rfl <;> (unfold insS; simp only [Nat.beq_refl, cond_true, insEnd, hap])
          have hcall := hp _ _ _ _ _ hins c m w cargs hs hcr hcz hid0
          have hrow := hys.obj
          cases b0 with
          | none =>
            have hk : k (.gs g id ys.length) [(id, some (.tarr g ys))] [] [] := hk
            exact hook_fin (e1 := [(id, some (.arr g.size ((ys0.drop lo2).take (n2' + 1))))]) (HLe.refl H) hk (by rw [← hlen']; exact gs_up) ((HLe.refl H).set hrow id) (Nat.le_refl _) hcall
          | some q =>
            have hk : k (.gs g id ys.length) [(id, some (.tarr g ys)), (q, none)] [] [] := hk
            refine hook_fin (e1 := [(id, some (.arr g.size ((ys0.drop lo2).take (n2' + 1)))), (q, none)]) (HLe.refl H) hk (by rw [← hlen']; exact gs_up) (((HLe.refl H).set hrow id).del q) (Nat.le_refl _) (hcall.mono fun cv w' ⟨m', ha⟩ => ⟨m', ?_⟩)
            obtain ⟨hx, hsr⟩ := ha.sr.del q
            exact ⟨ha.ext.trans hx, hsr, hx.vr ha.vr, ha.le, ha.dom⟩
        have hsplit : ∀ {s' : AV}, CR (okB c.X m H F) w.heap m [s', .int .i64 i, .osl g.size b2 lo2 (n2' + 1)] cargs 0 → ∃ v0, cargs[0]? = some v0 ∧ VR (okB c.X m H F) w.heap m s' v0 := fun hcr => by
          obtain ⟨v0, h0, g0⟩ := hcr 0 _ rfl
          exact ⟨v0, by rw [Nat.zero_add] at h0; exact h0, g0⟩
        have hswap : ∀ {s' s'' : AV} {v0 : Value}, cargs[0]? = some v0 → (∀ H1, HLe H H1 → VR (okB c.X m H1 F) w.heap m s'' v0) → CR (okB c.X m H F) w.heap m [s', .int .i64 i, .osl g.size b2 lo2 (n2' + 1)] cargs 0 → ∀ {H1}, HLe H H1 → CR (okB c.X m H1 F) w.heap m [s'', .int .i64 i, .osl g.size b2 lo2 (n2' + 1)] cargs 0 := by
          intro s' s'' v0 h0 hv hcr H1 hH j x hx
          match j with
          | 0 => simp at hx; subst hx; exact ⟨v0, by rw [Nat.zero_add]; exact h0, hv H1 hH⟩
          | j + 1 =>
            obtain ⟨u, hu, hr⟩ := hcr (j + 1) x (by simpa using hx)
            exact ⟨u, hu, hr.mono (fun β C e z ho hh => ⟨okB_le hH ho, hh⟩) (MLe.refl _)⟩
        -- onto a row of one's own
        have own_ : ∀ (b n : Nat) (l : List g.T) (ps : List AV) (H1 : Heap), HLe H H1 → hlive H1 F b = some (.arr g.size ps) → hget H1 b2 = some (.arr g.size ys0) → DRow g ps l → n = l.length → b.beq b2 = false → (0 ≤ i ∧ i ≤ n ∧ roomP (l.length + ys.length) by_) →
            (∀ H2, HLe H1 H2 → HLe H2 H → True) → CR (okB c.X m H1 F) w.heap m [.osl g.size b 0 n, .int .i64 i, .osl g.size b2 lo2 (n2' + 1)] cargs 0 → HLe (happ H1 [(id, some (.tarr g (l.take i.toNat ++ ys ++ l.drop i.toNat))), (b, none)]) (happ H [(id, some (.tarr g (l.take i.toNat ++ ys ++ l.drop i.toNat))), (b, none)]) →
            k (.gs g id (n + ys.length)) [(id, some (.tarr g (l.take i.toNat ++ ys ++ l.drop i.toNat))), (b, none)] [] [] → CallsTo P f cargs w fun cv w' => ∃ v e rd fz m', k v e rd fz ∧ Done c m H F w id v e fz cv m' w' := by
          intro b n l ps H1 hH hb hb2' hr hn hbb hi _ hcr hback hk
          obtain ⟨hi0, hin, hroom⟩ := hi
          obtain ⟨i, rfl⟩ := Int.eq_ofNat_of_zero_le hi0
          have hpl := hr.length
          simp only [Int.toNat_natCast] at hback hk
          have hin : i ≤ n := by omega
          obtain ⟨a, r, hq⟩ := hne
          have hl : (a :: r).length = n2' + 1 := by rw [← hq]; exact hYl
          have hr2 : room (n + (n2' + 1)) by_ = true := room_of (by rw [hn, ← hYl, hyl]; exact hroom)
          have hrow := insL_row hr hys i
          have hlen : n + (n2' + 1) = n + ys.length := by omega
          have hins : ∃ nx, insH T S [.osl g.size b 0 n, .int .i64 i, .osl g.size b2 lo2 (n2' + 1)] H1 F id = some (.osl g.size id 0 (n + (n2' + 1)), happ H1 [(id, some (.arr g.size (insL ps ((ys0.drop lo2).take (n2' + 1)) i))), (b, none)], F, nx) ∧ nx ≤ id + STRIDE := by
            have e0 : insH T S [.osl g.size b 0 n, .int .i64 i, .osl g.size b2 lo2 (n2' + 1)] H1 F id = insS T S i g.size b2 lo2 (n2' + 1) H1 F id (.osl g.size b 0 n) := rfl
            rw [e0]
            unfold insS
            simp only
            cases hbi : i.beq n with
            | true =>
              have hbi := Nat.eq_of_beq_eq_true hbi
              subst hbi
              refine ⟨id + STRIDE, ?_, Nat.le_refl _⟩
              have e3 : (0 + i + (n2' + 1)).ble ps.length = false := by
                cases hz : (0 + i + (n2' + 1)).ble ps.length with
                | false => rfl
                | true => have := Nat.le_of_ble_eq_true hz; omega
              have hap : aappend T H1 F id [S, S] (.osl g.size b 0 i) (.osl g.size b2 lo2 (n2' + 1)) = .ok (.osl g.size id 0 (i + (n2' + 1))) [(id, some (.arr g.size (insL ps ((ys0.drop lo2).take (n2' + 1)) i))), (b, none)] (idOf (.osl g.size b 0 i) ++ idOf (.osl g.size b2 lo2 (n2' + 1))) [] := by
                rw [aappend_eq he hby (hel hb2') (by rw [he2]; exact hfit), hq, he2]
                have e2 : (0 + i).ble ps.length = true := Nat.ble_eq_true_of_le (by omega)
                simp only [appendV, appendTo, hb, beq_same, Bool.and_self, Bool.true_and, e2, hl, hr2, cond_true, e3, cond_false, newArr, List.drop_zero]
                have : insL ps (a :: r) i = ps.take i ++ a :: r := by
                  unfold insL
                  rw [List.drop_eq_nil_of_le (by omega), List.append_nil]
                rw [this]
              simp only [cond_true, insEnd, hap]
            | false =>
              refine ⟨id + 1, ?_, by unfold STRIDE; omega⟩
              have hlt : i < n := by
                rcases Nat.lt_or_ge i n with h | h
                · exact h
                · have : i = n := by omega
                  rw [this, beq_same] at hbi; cases hbi
              simp only [cond_false, insMid, he, hby, hb, hb2', he2]
              have hcond : (!(b.beq b2) && (Nat.blt 1 g.size && (g.size.beq g.size && (g.size.beq g.size && (g.size.beq g.size && (g.size.beq g.size && ((0 + n).ble ps.length && (i.blt n && ((lo2 + (n2' + 1)).ble ys0.length && (Nat.blt 0 (n2' + 1) && (room (n + (n2' + 1)) by_ && (ps.all (fitsN g.size) && ys0.all (fitsN g.size))))))))))))) = true := by
                have a1 : (0 + n).ble ps.length = true := Nat.ble_eq_true_of_le (by omega)
                have a2 : i.blt n = true := Nat.ble_eq_true_of_le hlt
                have a3 : Nat.blt 0 (n2' + 1) = true := Nat.ble_eq_true_of_le (by omega)
                rw [hbb, he1.2, beq_same, a1, a2, hm3.1.2, a3, hr2, hr.fits, hm3.2]; rfl
              unfold insMid2
              rw [hcond, cond_true]
              have e1 : (ps.drop 0).take n = ps := by rw [List.drop_zero, List.take_of_length_le (by omega)]
              rw [e1]
              rfl
          obtain ⟨nx, hins, hnx⟩ := hins
          have hcall := hp _ _ _ _ _ hins c m w cargs (hs.le hH) hcr hsz hid0
          exact hook_fin (e1 := [(id, some (.arr g.size (insL ps ((ys0.drop lo2).take (n2' + 1)) i))), (b, none)]) hH hk (by rw [hlen]; exact gs_up) ((((HLe.refl H1).set hrow.obj id).del b).trans hback) hnx hcall
        unfold insSK at h
        have row_ : insRowK by_ g H F id k i b2 ys s → CallsTo P f cargs w fun cv w' => ∃ v e rd fz m', k v e rd fz ∧ Done c m H F w id v e fz cv m' w' := by
          intro hq0
          clear h
          have h := hq0
          clear hq0
          have tarr : ∀ {b n : Nat} {g' : GT} {l0 : List g'.T} {l : List g.T}, hlive H F b = some (.tarr g' l0) → listOf g (dec g) (.tl g' l0) = some l → n = l.length → (!(b.beq b2) && !(b.beq id)) = true → (0 ≤ i ∧ i ≤ n ∧ roomP (l.length + ys.length) by_) →
              k (.gs g id (n + ys.length)) [(id, some (.tarr g (l.take i.toNat ++ ys ++ l.drop i.toNat))), (b, none)] [] [] → (∀ H1, HLe H H1 → CR (okB c.X m H1 F) w.heap m [.osl g.size b 0 n, .int .i64 i, .osl g.size b2 lo2 (n2' + 1)] cargs 0) →
              CallsTo P f cargs w fun cv w' => ∃ v e rd fz m', k v e rd fz ∧ Done c m H F w id v e fz cv m' w' := by
            intro b n g' l0 l hb hl hn hbb hi hk hcr
            obtain ⟨rfl, hl⟩ := listOf_tl hl
            simp only at hl
            subst hl
            obtain ⟨hb', hbF⟩ := hlive_some hb
            simp only [Bool.and_eq_true, Bool.not_eq_true'] at hbb
            have hne2 : b ≠ b2 := fun e => by subst e; rw [beq_same] at hbb; cases hbb.1
            have hH : HLe H (hset H b (.arr g'.size (encs g' l))) := HLe.put hb' (tarr_le g' l)
            have hH2 : HLe (hset H b (.arr g'.size (encs g' l))) H := HLe.back hb' (arr_le g' l)
            refine own_ b n l (encs g' l) _ hH ?_ ?_ (DRow.encs g' l) hn hbb.1 hi (fun _ _ _ => trivial) (hcr _ hH) ((hH2.set (ObjLe.refl _) id).del b) hk
            · unfold hlive
              rw [(isIn_false b F).2 hbF, cond_false, hget_hset, if_pos rfl]
            · rw [hget_hset, if_neg hne2]; exact hb2
          cases s with
          | gs g1 b n =>
            simp only [insRowK, rowK] at h
            have hqq := must_and h
            clear h
            obtain ⟨hg1, h⟩ := hqq
            have hg1 := beq_eq' hg1
            split at h
            · rename_i g' l0 hb
              have hqq := optC_some h
              clear h
              obtain ⟨l, hl, hn, h⟩ := hqq
              have hqq := must_and h
              clear h
              obtain ⟨hbb, hi, hk⟩ := hqq
              obtain ⟨v0, h0, g0⟩ := hsplit hc
              generalize hsv : AV.gs g1 b n = sv at g0
              cases g0 with
              | gsE =>
                cases hsv
                have hl0 : l = [] := List.length_eq_zero_iff.1 hn.symm
                subst hl0
                have hi0 : i = 0 := by have := hi.1; have := hi.2.1; omega
                subst hi0
                simp only [Bool.and_eq_true, Bool.not_eq_true'] at hbb
                refine nil_ (some b) (fun q hq => ?_) .emp (.inr rfl) rfl (by have := hi.2.2; simpa using this) (hswap h0 (fun H1 _ => .emp) hc (HLe.refl H)) hsz (by simpa using hk)
                cases hq
                exact ⟨fun e => (by rw [e, beq_same] at hbb; cases hbb.2), fun e => (by rw [e, beq_same] at hbb; cases hbb.1)⟩
              | gs hv =>
                cases hsv
                rw [hg1] at hv
                exact tarr hb hl hn hbb hi hk fun H1 hH => hswap h0 (fun H1 hH => hv.mono (fun β C e z ho hh => ⟨okB_le hH ho, hh⟩) (MLe.refl _)) hc hH
              | _ => cases hsv
            · exact h.elim
          | osl m1 b lo n =>
            simp only [insRowK, rowK] at h
            have hqq := must_and h
            clear h
            obtain ⟨hg1, h⟩ := hqq
            simp only [Bool.and_eq_true] at hg1
            have hg2 := beq_eq' hg1.1
            have hg3 := beq_eq' hg1.2
            subst hg2; subst hg3
            obtain ⟨v0, h0, g0⟩ := hsplit hc
            have hcr : ∀ H1, HLe H H1 → CR (okB c.X m H1 F) w.heap m [.osl g.size b 0 n, .int .i64 i, .osl g.size b2 lo2 (n2' + 1)] cargs 0 := fun H1 hH => hswap h0 (fun H1 hH => g0.mono (fun β C e z ho hh => ⟨okB_le hH ho, hh⟩) (MLe.refl _)) hc hH
            split at h
            · rename_i g' l0 hb
              have hqq := optC_some h
              clear h
              obtain ⟨l, hl, hn, h⟩ := hqq
              have hqq := must_and h
              clear h
              obtain ⟨hbb, hi, hk⟩ := hqq
              exact tarr hb hl hn hbb hi hk hcr
            · rename_i m' xs hb
              have hqq := must_and h
              clear h
              obtain ⟨hm', h⟩ := hqq
              have hm' := beq_eq' hm'
              subst hm'
              have hqq := decAllP_some h
              clear h
              obtain ⟨l, hr, hn, h⟩ := hqq
              have hqq := must_and h
              clear h
              obtain ⟨hbb, hi, hk⟩ := hqq
              simp only [Bool.and_eq_true, Bool.not_eq_true'] at hbb
              exact own_ b n l xs H (HLe.refl H) hb hb2 hr hn hbb.1 hi (fun _ _ _ => trivial) (hcr H (HLe.refl H)) (HLe.refl _) hk
            · exact h.elim
          | _ => exact h.elim
        split at h
        · obtain ⟨⟨hi, hroom⟩, hk⟩ := h
          subst hi
          exact nil_ none (fun q hq => by cases hq) .nils (.inl rfl) rfl hroom hc hsz hk
        · obtain ⟨⟨hi, hroom⟩, hk⟩ := h
          subst hi
          exact nil_ none (fun q hq => by cases hq) .emp (.inr rfl) rfl hroom hc hsz hk
        · exact row_ h
      · exact h.elim
  · exact h.elim

end
end Go.Proofs.Ytjihnbjdclobgaa.VS

/- Functions that work on their caller's own rows, for values that are not known: slices.Delete; slices.Grow of none. Conditions: none. -/
namespace Go.Proofs.Ytjihnbjdclobgaa.VS
open Go.Shelf Go.RowKit

/-- slices.Grow of no slice. -/
def growK (T : Tabs) (S : TypeId) (g : GT) (args : List AV) (_H : Heap) (_F : List Nat) (id : Nat) (k : Kont) : Prop :=
  match args with
  | [.nils, .int .i64 n] => optC (fun e => optC (fun by_ => must (e.2.1.beq g.size) ((0 ≤ n ∧ roomP n.toNat by_) ∧ k (.gs g id 0) [(id, some (.tarr g []))] [] [])) (bytesOf T e.1)) (elemT T S)
  | _ => False

/-- slices.Delete. -/
def delK (T : Tabs) (S : TypeId) (g : GT) (args : List AV) (H : Heap) (F : List Nat) (id : Nat) (k : Kont) : Prop :=
  match args with
  | [s, .int .i64 i, .int .i64 j] => optC (fun e => must (e.2.1.beq g.size) (rowK H F g (fun b n l => must (!(b.beq id)) ((0 ≤ i ∧ i < j ∧ j ≤ n ∧ n ≤ 1099511627776) ∧ k (.gs g id (n - (j - i).toNat)) [(id, some (.tarr g (l.take i.toNat ++ l.drop j.toNat))), (b, none)] [] [])) s)) (elemT T S)
  | _ => False

variable [Syms]
section
variable {P : Program} {T : Tabs} {c : Ctx} {m : Map} {H : Heap} {F : List Nat} {w : World}

theorem growK_ok (hT : TyOK P T) {ρ : Ren} {f : FuncId} (A : GrowP P ρ f) {S : TypeId} {g : GT} (hS : ρ.t 22 = S) (hen : ∀ args w, (callFunc f args).run P w = .ok (.enter f args) w) : ∀ args H F id k, growK T S g args H F id k → ∀ (c : Ctx) (m : Map) (w : World) (cargs : Array Value), SR c m H F w → CR (okB c.X m H F) w.heap m args cargs 0 → cargs.size = args.length →
    (∀ b, id ≤ b → b < id + STRIDE → m b = none) → CallsTo P f cargs w fun cv w' => ∃ v e rd fz m', k v e rd fz ∧ Done c m H F w id v e fz cv m' w' := by
  subst hS
  intro args H F id k h c m w cargs hs hc hsz hid
  have hid0 : m id = none := hid id (Nat.le_refl _) (by unfold STRIDE; omega)
  unfold growK at h
  split at h
  · rename_i n
    obtain ⟨e, he, h1⟩ := optC_some h
    obtain ⟨by_, hby, h2⟩ := optC_some h1
    obtain ⟨hg, ⟨hn, hroom⟩, hk⟩ := must_and h2
    have hg := beq_eq' hg
    obtain ⟨n, rfl⟩ := Int.eq_ofNat_of_zero_le hn
    simp only [Int.toNat_natCast] at hroom
    obtain ⟨i0, z, hu, hi, hsz0, hz, hza, hzf, hpos⟩ := elemT_some hT he
    obtain ⟨i', hi', hbb⟩ := bytesOf_some hT hby
    rw [hi] at hi'; cases hi'
    have z9 : ∀ w, (Go.sizeOf e.1).run P w = .ok e.2.1 w := fun w => by simp [Go.sizeOf, typeInfo, hi, hsz0]
    obtain ⟨v0, q0, g0⟩ := hc 0 _ rfl
    obtain ⟨v1, q1, g1⟩ := hc 1 _ rfl
    cases g0; cases g1
    have hargs : cargs = #[.slice none 0 0, .int .i64 n] := by
      apply Array.ext
      · simpa using hsz
      · intro q hj1 hj2
        have hj : q = 0 ∨ q = 1 := by simp at hj2; omega
        rcases hj with rfl | rfl
        · rw [Nat.zero_add, Array.getElem?_eq_getElem hj1] at q0; simpa using q0
        · rw [Nat.zero_add, Array.getElem?_eq_getElem hj1] at q1; simpa using q1
    subst hargs
    refine .inr ⟨hen _ w, ?_⟩
    by_cases hn0 : n = 0
    · subst hn0
      refine (grow_none A hu w).mono ?_
      rintro e' w' ⟨rfl, rfl⟩
      obtain ⟨hx, hsr⟩ := hs.void hid0 g
      exact ⟨_, rfl, _, _, [], [], m, hk, hx, hsr, .gsE, fun b hb => .inl hb⟩
    · have hrm : room n by_ = true := room_of hroom
      obtain ⟨r1, r2, r3⟩ := room_facts (cp := 0) hrm (by omega)
      have hle : n ≤ 1099511627776 := Nat.le_trans (Nat.le_mul_of_pos_right _ (Nat.succ_pos by_)) hroom
      have hap := run_append_make_grow (P := P) (w := w) (ts := #[ρ.t 22, ρ.t 3]) (ty := ρ.t 22) rfl rfl hu A.tI hi hz (base := none) (sLen := 0) (sCap := 0) (n := n) (kx := .i64) (old := #[])
        (fun w' _ => by simp [Builtin.firstCells, loadCells, loadCellsFrom]) (by omega) (by simpa using r1) (by rw [hbb]; exact r3) (by rw [hbb, Nat.zero_add]; exact r2) (by rw [hsz0]; exact hpos) (by omega)
      rw [Nat.zero_add] at hap
      generalize hG : grownCap w n 0 e.1 = G at hap
      have hGn : n ≤ G := by rw [← hG]; exact grownCap_ge w _ _ _
      have hzf' : fitsN e.2.1 (ofV z) = true := by rw [← hza]; exact hzf
      obtain ⟨zc1, zc2, zc3⟩ := zero_cells hzf'
      generalize hROW : #[] ++ Builtin.zeroCells z.cells n ++ Builtin.zeroCells z.cells (G - n) = ROW at hap
      have hzs : ∀ n, (Builtin.zeroCells z.cells n).size = n * e.2.1 := fun n => by simp [Builtin.zeroCells, zc1]
      have hRs : ROW.size = G * e.2.1 := by
        rw [← hROW, Array.size_append, Array.size_append, hzs, hzs, Array.size_empty, Nat.zero_add, ← Nat.add_mul]
        congr 1; omega
      obtain ⟨f1, f2, f3, f4⟩ := alloc_facts w.drew (.cells ROW e.1)
      refine (grow_some A hu z9 n w.heap.size G w _ (by omega) hGn hle hap).mono ?_
      rintro e' w' ⟨rfl, rfl⟩
      obtain ⟨hx, hsr⟩ := hs.newArr hid0 (w' := w.drew.alloc (.cells ROW e.1)) ⟨f4.os, f4.tape, f4.output⟩ f1 f2 f3 (NoFz_zero _) hpos (s := e.2.1) (xs := []) (fun x hx => by cases hx) (by simp) (fun j x hx => by simp [flat] at hx)
      have hle' : HLe (hset H id (.arr e.2.1 [])) (hset H id (.tarr g [])) := (HLe.refl H).set (by rw [hg]; exact (DRow.nil (g := g)).obj) id
      refine ⟨_, rfl, _, _, [], [], _, hk, hx.trans ⟨MLe.refl _, fun β C e z ho hh => ⟨okB_le hle' ho, hh⟩⟩, hsr.le hle', .gs ?_, dom_upd⟩
      rw [← hg]
      refine .osl (upd_same _ _ _) (by simp) hpos rfl rfl (by simp) (by simp) ?_
      show 0 + (0 + G) * e.2.1 ≤ ROW.size
      rw [hRs, Nat.zero_add, Nat.zero_add]; exact Nat.le_refl _
  · exact h.elim

theorem delK_ok {f : FuncId} {S : TypeId} {g : GT} (hp : HOK1 P f (delH T S)) : ∀ args H F id k, delK T S g args H F id k → ∀ (c : Ctx) (m : Map) (w : World) (cargs : Array Value), SR c m H F w → CR (okB c.X m H F) w.heap m args cargs 0 → cargs.size = args.length →
    (∀ b, id ≤ b → b < id + STRIDE → m b = none) → CallsTo P f cargs w fun cv w' => ∃ v e rd fz m', k v e rd fz ∧ Done c m H F w id v e fz cv m' w' := by
  intro args H F id k h c m w cargs hs hc hsz hid
  have hid0 : m id = none := hid id (Nat.le_refl _) (by unfold STRIDE; omega)
  unfold delK at h
  split at h
  · rename_i s i j
    obtain ⟨e, he, h1⟩ := optC_some h
    obtain ⟨hg, h2⟩ := must_and h1
    have hg := beq_eq' hg
    clear h h1
    have own_ : ∀ (b n : Nat) (l : List g.T) (ps : List AV) (H1 : Heap), HLe H H1 → hlive H1 F b = some (.arr g.size ps) → DRow g ps l → n = l.length → (0 ≤ i ∧ i < j ∧ j ≤ n ∧ n ≤ 1099511627776) →
        CR (okB c.X m H1 F) w.heap m [.osl g.size b 0 n, .int .i64 i, .int .i64 j] cargs 0 → HLe (happ H1 [(id, some (.tarr g (l.take i.toNat ++ l.drop j.toNat))), (b, none)]) (happ H [(id, some (.tarr g (l.take i.toNat ++ l.drop j.toNat))), (b, none)]) →
        k (.gs g id (n - (j - i).toNat)) [(id, some (.tarr g (l.take i.toNat ++ l.drop j.toNat))), (b, none)] [] [] → CallsTo P f cargs w fun cv w' => ∃ v e rd fz m', k v e rd fz ∧ Done c m H F w id v e fz cv m' w' := by
      intro b n l ps H1 hH hb hr hn hi hcr hback hk
      obtain ⟨hi0, hij, hjn, hn40⟩ := hi
      obtain ⟨i, rfl⟩ := Int.eq_ofNat_of_zero_le hi0
      obtain ⟨j, rfl⟩ := Int.eq_ofNat_of_zero_le (a := j) (by omega)
      have hpl := hr.length
      simp only [Int.toNat_natCast] at hback hk
      have hrow : DRow g (ps.take i ++ ps.drop j) (l.take i ++ l.drop j) := (hr.take i).append (hr.drop j)
      have hlen : i + (n - j) = n - ((j : Int) - (i : Int)).toNat := by omega
      have hins : delH T S [.osl g.size b 0 n, .int .i64 i, .int .i64 j] H1 F id = some (.osl g.size id 0 (i + (n - j)), happ H1 [(id, some (.arr g.size (ps.take i ++ ps.drop j))), (b, none)], F, id + 1) := by
        have hcond : (g.size.beq g.size && (g.size.beq g.size && ((0 + n).ble ps.length && (i.blt j && (j.ble n && (n.ble 1099511627776 && ps.all (fitsN g.size))))))) = true := by
          have a1 : (0 + n).ble ps.length = true := Nat.ble_eq_true_of_le (by omega)
          have a2 : i.blt j = true := Nat.ble_eq_true_of_le (by omega)
          have a3 : j.ble n = true := Nat.ble_eq_true_of_le (by omega)
          have a4 : n.ble 1099511627776 = true := Nat.ble_eq_true_of_le hn40
          rw [beq_same, a1, a2, a3, a4, hr.fits]; rfl
        have e1 : (ps.drop 0).take n = ps := by rw [List.drop_zero, List.take_of_length_le (by omega)]
        unfold delH
        simp only [he, hb, hg, hcond, cond_true, e1]
        rfl
      have hcall := hp _ _ _ _ _ hins c m w cargs (hs.le hH) hcr hsz hid0
      exact hook_fin (nx := id + 1) (e1 := [(id, some (.arr g.size (ps.take i ++ ps.drop j))), (b, none)]) hH hk (by rw [← hlen]; exact gs_up) ((((HLe.refl H1).set hrow.obj id).del b).trans hback) (by unfold STRIDE; omega) hcall
    have tarr : ∀ {b n : Nat} {g' : GT} {l0 : List g'.T} {l : List g.T}, hlive H F b = some (.tarr g' l0) → listOf g (dec g) (.tl g' l0) = some l → n = l.length → (0 ≤ i ∧ i < j ∧ j ≤ n ∧ n ≤ 1099511627776) →
        k (.gs g id (n - (j - i).toNat)) [(id, some (.tarr g (l.take i.toNat ++ l.drop j.toNat))), (b, none)] [] [] → (∀ H1, HLe H H1 → CR (okB c.X m H1 F) w.heap m [.osl g.size b 0 n, .int .i64 i, .int .i64 j] cargs 0) →
        CallsTo P f cargs w fun cv w' => ∃ v e rd fz m', k v e rd fz ∧ Done c m H F w id v e fz cv m' w' := by
      intro b n g' l0 l hb hl hn hi hk hcr
      obtain ⟨rfl, hl⟩ := listOf_tl hl
      simp only at hl
      subst hl
      obtain ⟨hb', hbF⟩ := hlive_some hb
      have hH : HLe H (hset H b (.arr g'.size (encs g' l))) := HLe.put hb' (tarr_le g' l)
      have hH2 : HLe (hset H b (.arr g'.size (encs g' l))) H := HLe.back hb' (arr_le g' l)
      refine own_ b n l (encs g' l) _ hH ?_ (DRow.encs g' l) hn hi (hcr _ hH) ((hH2.set (ObjLe.refl _) id).del b) hk
      unfold hlive
      rw [(isIn_false b F).2 hbF, cond_false, hget_hset, if_pos rfl]
    obtain ⟨v0, h0, g0⟩ := hc 0 _ rfl
    rw [Nat.zero_add] at h0
    have hswap : ∀ {s'' : AV}, (∀ H1, HLe H H1 → VR (okB c.X m H1 F) w.heap m s'' v0) → ∀ {H1}, HLe H H1 → CR (okB c.X m H1 F) w.heap m [s'', .int .i64 i, .int .i64 j] cargs 0 := by
      intro s'' hv H1 hH q x hx
      match q with
      | 0 => simp at hx; subst hx; exact ⟨v0, by rw [Nat.zero_add]; exact h0, hv H1 hH⟩
      | q + 1 =>
        obtain ⟨u, hu, hr⟩ := hc (q + 1) x (by simpa using hx)
        exact ⟨u, hu, hr.mono (fun β C e z ho hh => ⟨okB_le hH ho, hh⟩) (MLe.refl _)⟩
    cases s with
    | gs g1 b n =>
      simp only [rowK] at h2
      obtain ⟨hg1, h⟩ := must_and h2
      have hg1 := beq_eq' hg1
      clear h2
      split at h
      · rename_i g' l0 hb
        obtain ⟨l, hl, hn, h3⟩ := optC_some h
        obtain ⟨_, hi, hk⟩ := must_and h3
        generalize hsv : AV.gs g1 b n = sv at g0
        cases g0 with
        | gsE => cases hsv; omega
        | gs hv =>
          cases hsv
          rw [hg1] at hv
          exact tarr hb hl hn hi hk fun H1 hH => hswap (fun H1 hH => hv.mono (fun β C e z ho hh => ⟨okB_le hH ho, hh⟩) (MLe.refl _)) hH
        | _ => cases hsv
      · exact h.elim
    | osl m1 b lo n =>
      simp only [rowK] at h2
      obtain ⟨hg1, h⟩ := must_and h2
      clear h2
      simp only [Bool.and_eq_true] at hg1
      have hg2 := beq_eq' hg1.1
      have hg3 := beq_eq' hg1.2
      subst hg2; subst hg3
      have hcr : ∀ H1, HLe H H1 → CR (okB c.X m H1 F) w.heap m [.osl g.size b 0 n, .int .i64 i, .int .i64 j] cargs 0 := fun H1 hH => hswap (fun H1 hH => g0.mono (fun β C e z ho hh => ⟨okB_le hH ho, hh⟩) (MLe.refl _)) hH
      split at h
      · rename_i g' l0 hb
        obtain ⟨l, hl, hn, h3⟩ := optC_some h
        obtain ⟨_, hi, hk⟩ := must_and h3
        exact tarr hb hl hn hi hk hcr
      · rename_i m' xs hb
        obtain ⟨hm', h3⟩ := must_and h
        have hm' := beq_eq' hm'
        subst hm'
        obtain ⟨l, hr, hn, h4⟩ := decAllP_some h3
        obtain ⟨_, hi, hk⟩ := must_and h4
        exact own_ b n l xs H (HLe.refl H) hb hr hn hi (hcr H (HLe.refl H)) (HLe.refl _) hk
      · exact h.elim
    | _ => exact h2.elim
  · exact h.elim

end
end Go.Proofs.Ytjihnbjdclobgaa.VS

/- Arguments that read as data, told as the machine's values. Conditions: none. -/
namespace Go.Proofs.Ytjihnbjdclobgaa.VS
open Go.ChangeShapes
variable [Syms]

section
variable {H : Type} {enc : TypeId × Value → H} {P : Program} {W : World} {sp : Nat → Bool}

/-- A type whose values read so. -/
structure RdT {H : Type} (enc : TypeId × Value → H) (P : Program) (W : World) (sp : Nat → Bool) {α : Type} (n : Nat) (ec : α → List AV) (fit : α → Prop) (t : TypeId) : Prop where
  cells : P.cellsOf t = n
  rd : ∀ (fuel : Nat) (cs : List Value) (x : DataW H × List MemPlace), DataW.trod enc P W 0 sp true fuel t cs = some x → cs.length = n ∧ ∃ y, (ec y).length = n ∧ CR (fun _ => True) W.heap noMap (ec y) cs.toArray 0 ∧ fit y

omit [Syms] in
theorem cr_single [Syms] {ok : Nat → Prop} {h : Array Obj} {m : Map} {a : AV} {c : Value} (H : VR ok h m a c) : CR ok h m [a] [c].toArray 0 := fun j x hx => by
  cases j with
  | zero => simp at hx; subst hx; exact ⟨c, rfl, H⟩
  | succ j => simp at hx

theorem rd_int {t : TypeId} {k : IntKind} (ht : P.underlying t = some (.int k)) (hc : P.cellsOf t = 1) : RdT enc P W sp 1 (fun n : Int => [.int k n]) (fun n => (Lit.int k n).wf = true) t := by
  refine ⟨hc, fun fuel cs x h => ?_⟩
  cases fuel with
  | zero => simp [DataW.trod] at h
  | succ fuel =>
    have : ∃ n, cs = [.int k n] ∧ (Lit.int k n).wf = true := by
      unfold DataW.trod at h
      rw [ht] at h
      split at h <;> simp_all
    obtain ⟨n, rfl, hw⟩ := this
    exact ⟨rfl, n, rfl, cr_single (.int _ _), hw⟩

theorem rd_bool {t : TypeId} (ht : P.underlying t = some .bool) (hc : P.cellsOf t = 1) : RdT enc P W sp 1 (fun b : Bool => [.ub b]) (fun _ => True) t := by
  refine ⟨hc, fun fuel cs x h => ?_⟩
  cases fuel with
  | zero => simp [DataW.trod] at h
  | succ fuel =>
    have : ∃ n, cs = [.bool n] := by
      unfold DataW.trod at h
      rw [ht] at h
      split at h <;> simp_all
    obtain ⟨b, rfl⟩ := this
    exact ⟨rfl, b, rfl, cr_single (.ub _), trivial⟩

theorem rd_str {t : TypeId} (ht : P.underlying t = some .string) (hc : P.cellsOf t = 1) : RdT enc P W sp 1 (fun s : Str => [.str s]) (fun s => s.length ≤ maxLen) t := by
  refine ⟨hc, fun fuel cs x h => ?_⟩
  cases fuel with
  | zero => simp [DataW.trod] at h
  | succ fuel =>
    have : ∃ s : ByteArray, cs = [.string s] ∧ s.size ≤ maxLen := by
      unfold DataW.trod at h
      rw [ht] at h
      split at h <;> simp_all
    obtain ⟨s, rfl, hs⟩ := this
    exact ⟨rfl, s.data.toList, rfl, cr_single (.str _ _ rfl), hs⟩

/-- A byte. -/
theorem rd_u8 {t : TypeId} (ht : P.underlying t = some (.int .u8)) (hc : P.cellsOf t = 1) : RdT enc P W sp 1 (fun b : UInt8 => [.int .u8 b.toNat]) (fun _ => True) t :=
  ⟨hc, fun fuel cs x h => by
    obtain ⟨h1, n, _, h3, h4⟩ := (rd_int ht hc).rd fuel cs x h
    have h4 : 0 ≤ n ∧ n ≤ 255 := by
      simp only [Lit.wf, Bool.and_eq_true, decide_eq_true_eq] at h4
      exact h4
    have e : (((UInt8.ofNat n.toNat).toNat : Nat) : Int) = n := by rw [UInt8.toNat_ofNat']; omega
    exact ⟨h1, UInt8.ofNat n.toNat, rfl, by rw [e]; exact h3, trivial⟩⟩

/-- What fits a row's elements. -/
def fitL {α : Type} (fit : α → Prop) (l : List α) : Prop := l.length ≤ maxLen ∧ ∀ x ∈ l, fit x

omit [Syms] in
theorem cells?_some {w : World} {a : Addr} {n : Nat} {cs : List Value} (h : w.cells? 0 a n = some cs) : cs.length = n ∧ ∀ (j : Nat) (v : Value), cs[j]? = some v → w.cell? (a.add j) = some v := by
  unfold World.cells? at h
  rw [if_pos (Nat.zero_le _)] at h
  have hl : cs.length = n := by simpa using mapM_some_length h
  refine ⟨hl, fun j v hj => ?_⟩
  have hjl : j < n := by rw [← hl]; exact (List.getElem?_eq_some_iff.1 hj).1
  rw [mapM_some_get h j j (by simp [hjl]), hj]

omit [Syms] in
/-- A row of things, each there. -/
theorem row_of {α : Type} (n : Nat) {p : Nat → α → Prop} (h : ∀ i, i < n → ∃ x, p i x) : ∃ xs : List α, xs.length = n ∧ ∀ i x, xs[i]? = some x → p i x := by
  induction n with
  | zero => exact ⟨[], rfl, fun i x hx => by simp at hx⟩
  | succ n ih =>
    obtain ⟨xs, h1, h2⟩ := ih fun i hi => h i (by omega)
    obtain ⟨x, hx⟩ := h n (by omega)
    refine ⟨xs ++ [x], by simp [h1], fun i y hy => ?_⟩
    rcases Nat.lt_or_ge i xs.length with hi | hi
    · rw [List.getElem?_append_left hi] at hy; exact h2 i y hy
    · rw [List.getElem?_append_right hi] at hy
      have : i = n := by
        have := (List.getElem?_eq_some_iff.1 hy).1
        simp at this; omega
      subst this
      rw [h1, Nat.sub_self] at hy
      simp at hy; subst hy; exact hx

theorem rd_slice {g : GT} {t e : TypeId} {fit : g.T → Prop} (ht : P.underlying t = some (.slice e)) (hc : P.cellsOf t = 1) (he : RdT enc P W sp g.size (fun x : g.T => (Go.Proofs.Ytjihnbjdclobgaa.VS.enc g x).cells) fit e) :
    RdT enc P W sp 1 (fun l : List g.T => [.tl g l]) (fitL fit) t := by
  refine ⟨hc, fun fuel cs x h => ?_⟩
  rcases Go.Deep.open_slice ht h with ⟨rfl, _⟩ | ⟨a, len, cap, m, n, D, Pl, rfl, _, h2, h3, h4, _, h6⟩
  · exact ⟨rfl, [], rfl, cr_single (.tl (.slE fun _ => rfl)), Nat.zero_le _, fun x hx => by simp at hx⟩
  · have hm : len ≤ m := by rw [h4]; split <;> omega
    have hall : ∀ i, i < len → ∃ y : g.T, (∃ cs', W.cells? 0 (a.add (i * g.size)) g.size = some cs' ∧ CR (fun _ => True) W.heap noMap (Go.Proofs.Ytjihnbjdclobgaa.VS.enc g y).cells cs'.toArray 0) ∧ fit y := by
      intro i hi
      obtain ⟨cs', k1, k2⟩ := h6 i (by omega)
      obtain ⟨q1, y, q2, q3, q4⟩ := he.rd _ _ _ k2
      rw [he.cells] at k1
      exact ⟨y, ⟨cs', k1, q3⟩, q4⟩
    obtain ⟨ys, r1, r2⟩ := row_of len hall
    refine ⟨rfl, ys, rfl, cr_single (.tl ?_), by show ys.length ≤ maxLen; omega, fun y hy => ?_⟩
    · by_cases h0 : len = 0
      · subst h0
        obtain rfl : ys = [] := List.length_eq_zero_iff.1 r1
        exact .slE nofun
      · have hpos := g.size_pos
        have cell : ∀ i y, ys[i]? = some y → ∀ j b, (Go.Proofs.Ytjihnbjdclobgaa.VS.enc g y).cells[j]? = some b → ∃ v, W.cell? ((a.add (i * g.size)).add j) = some v ∧ VR (fun _ => True) W.heap noMap b v := by
          intro i y hy j b hb
          obtain ⟨⟨cs', q1, q2⟩, _⟩ := r2 i y hy
          obtain ⟨v, hv, hr⟩ := q2 j b hb
          obtain ⟨_, q4⟩ := cells?_some q1
          exact ⟨v, q4 j v (by simpa using hv), hr⟩
        have hy0 : ys[0]? = some (ys[0]'(by omega)) := List.getElem?_eq_getElem _
        have hlen0 := enc_size g (ys[0]'(by omega))
        obtain ⟨v0, hv0, _⟩ := cell 0 _ hy0 0 _ (List.getElem?_eq_getElem (by rw [hlen0]; exact hpos))
        rw [Nat.zero_mul] at hv0
        have ha0 : (a.add 0).add 0 = a := rfl
        rw [ha0] at hv0
        unfold World.cell? at hv0
        split at hv0
        · rename_i C e' z hC
          split at hv0
          · cases hv0
          · rename_i hspot
            obtain ⟨β, o, spot⟩ := a
            have : spot = none := by cases spot <;> simp_all
            subst this
            have hcellC : ∀ j, W.cell? ⟨β, j, none⟩ = C[j]? := fun j => by unfold World.cell?; rw [show W.heap[(⟨β, j, none⟩ : Addr).block]? = some (.cells C e' z) from hC]; rfl
            have hcr : CR (fun _ => True) W.heap noMap (flat (encs g ys)) C o := by
              intro j b hb
              have hfl := flat_length (encs_size g ys)
              rw [encs_length] at hfl
              have hj : j < ys.length * g.size := by rw [← hfl]; exact (List.getElem?_eq_some_iff.1 hb).1
              have hi : j / g.size < ys.length := (Nat.div_lt_iff_lt_mul hpos).2 hj
              have hr : j % g.size < g.size := Nat.mod_lt j hpos
              have hjd : j / g.size * g.size + j % g.size = j := Nat.div_add_mod' j g.size
              have hyi : ys[j / g.size]? = some (ys[j / g.size]'hi) := List.getElem?_eq_getElem hi
              have hei : (encs g ys)[j / g.size]? = some (Go.Proofs.Ytjihnbjdclobgaa.VS.enc g (ys[j / g.size]'hi)) := by simp [encs, hyi]
              have := flat_getElem? (encs_size g ys) hei hr
              rw [hjd, hb] at this
              obtain ⟨v, hv, hvr⟩ := cell _ _ hyi _ _ this.symm
              rw [add_none, add_none, hcellC] at hv
              exact ⟨v, by rw [← hv]; congr 1; omega, hvr⟩
            exact .sl' (fun e0 => by have := congrArg List.length e0; rw [encs_length, List.length_nil] at this; omega) (by rw [encs_length, r1]) trivial hC hpos (encs_size g ys) h2 hcr
        · cases hv0
    · obtain ⟨i, hi, rfl⟩ := List.mem_iff_getElem.1 hy
      exact (r2 i _ (List.getElem?_eq_getElem hi)).2

/-- Fields in a row. -/
def RdF {H : Type} (enc : TypeId × Value → H) (P : Program) (W : World) (sp : Nat → Bool) {α : Type} (off n : Nat) (ec : α → List AV) (fit : α → Prop) (fs : List Field) : Prop :=
  ∀ (fuel : Nat) (cs : List Value), (∀ (i : Nat) (f : Field), fs[i]? = some f → ∃ x, DataW.trod enc P W 0 sp true fuel f.type ((cs.drop f.offset).take (P.cellsOf f.type)) = some x) →
    ∃ y, (ec y).length = n ∧ CR (fun _ => True) W.heap noMap (ec y) cs.toArray off ∧ fit y

theorem rdF_nil {off : Nat} : RdF enc P W sp off 0 (fun _ : Unit => []) (fun _ => True) [] := fun fuel cs _ => ⟨(), rfl, fun j x hx => by simp at hx, trivial⟩

theorem rdF_cons {α β : Type} {off n1 n2 : Nat} {e1 : α → List AV} {e2 : β → List AV} {p1 : α → Prop} {p2 : β → Prop} {f : Field} {fs : List Field} (h0 : f.offset = off) (h1 : RdT enc P W sp n1 e1 p1 f.type) (h2 : RdF enc P W sp (off + n1) n2 e2 p2 fs) :
    RdF enc P W sp off (n1 + n2) (fun y : α × β => e1 y.1 ++ e2 y.2) (fun y => p1 y.1 ∧ p2 y.2) (f :: fs) := by
  intro fuel cs h
  obtain ⟨x, hx⟩ := h 0 f rfl
  obtain ⟨_, y1, k1, k2, k3⟩ := h1.rd _ _ _ hx
  obtain ⟨y2, q1, q2, q3⟩ := h2 fuel cs fun i f' hf' => h (i + 1) f' (by simpa using hf')
  refine ⟨(y1, y2), by simp [k1, q1], fun j b hb => ?_, k3, q3⟩
  rcases Nat.lt_or_ge j (e1 y1).length with hj | hj
  · rw [List.getElem?_append_left hj] at hb
    obtain ⟨v, hv, hr⟩ := k2 j b hb
    refine ⟨v, ?_, hr⟩
    rw [Nat.zero_add, List.getElem?_toArray, h1.cells, h0, List.getElem?_take, if_pos (by omega), List.getElem?_drop] at hv
    rw [List.getElem?_toArray]; exact hv
  · rw [List.getElem?_append_right hj] at hb
    obtain ⟨v, hv, hr⟩ := q2 _ b hb
    exact ⟨v, by rw [← hv]; congr 1; omega, hr⟩

theorem rd_struct {α : Type} {n : Nat} {ec : α → List AV} {fit : α → Prop} {t : TypeId} {fs : Array Field} (ht : P.underlying t = some (.struct fs)) (hc : P.cellsOf t = n) (h : RdF enc P W sp 0 n ec fit fs.toList) : RdT enc P W sp n ec fit t := by
  refine ⟨hc, fun fuel cs x hx => ?_⟩
  obtain ⟨xs, m, rfl, _, h3, h4, h5⟩ := DataW.trod_struct ht hx
  refine ⟨by rw [h3, hc], h m cs fun i f hf => ?_⟩
  have hf' : fs[i]? = some f := by rw [← Array.getElem?_toList]; exact hf
  have hi : i < xs.length := by rw [h4]; exact (Array.getElem?_eq_some_iff.1 hf').1
  exact ⟨xs[i], by rw [h5 i f hf', List.getElem?_eq_getElem hi]⟩

theorem RdT.map {α β : Type} {n : Nat} {ec : α → List AV} {fit : α → Prop} {t : TypeId} (h : RdT enc P W sp n ec fit t) (f : α → β) {ec' : β → List AV} {fit' : β → Prop} (h1 : ∀ a, ec' (f a) = ec a) (h2 : ∀ a, fit a → fit' (f a)) : RdT enc P W sp n ec' fit' t :=
  ⟨h.cells, fun fuel cs x hx => by
    obtain ⟨k1, y, k2, k3, k4⟩ := h.rd fuel cs x hx
    exact ⟨k1, f y, by rw [h1]; exact k2, by rw [h1]; exact k3, h2 y k4⟩⟩

/-- An argument whose cells lie in the value: a struct. -/
theorem rd_agg {α : Type} {n : Nat} {ec : α → List AV} {fit : α → Prop} {t : TypeId} (h : RdT enc P W sp n ec fit t) {v : Value} {d : DataW H} {ps : List MemPlace} (hv : DataW.Trod enc P W 0 sp true t v d ps) (hok : ∃ cs, v = .agg cs ∧ cs.size = P.cellsOf t) :
    ∃ y, VR (fun _ => True) W.heap noMap (.agg (ec y)) v ∧ fit y := by
  obtain ⟨fuel, hx⟩ := hv
  obtain ⟨cs, rfl, hs⟩ := hok
  obtain ⟨k1, y, k2, k3, k4⟩ := h.rd fuel _ _ hx
  have k3 : CR (fun _ => True) W.heap noMap (ec y) cs 0 := by simpa [Value.cells] using k3
  exact ⟨y, .agg' (by rw [k2, hs, h.cells]) k3, k4⟩

/-- An argument of one cell. -/
theorem rd_one {α : Type} {ec : α → AV} {fit : α → Prop} {t : TypeId} (h : RdT enc P W sp 1 (fun a => [ec a]) fit t) {v : Value} {d : DataW H} {ps : List MemPlace} (hv : DataW.Trod enc P W 0 sp true t v d ps) (hok : v.cells = #[v]) :
    ∃ y, VR (fun _ => True) W.heap noMap (ec y) v ∧ fit y := by
  obtain ⟨fuel, hx⟩ := hv
  rw [hok] at hx
  obtain ⟨k1, y, k2, k3, k4⟩ := h.rd fuel _ _ hx
  obtain ⟨u, hu, hr⟩ := k3 0 (ec y) rfl
  simp at hu; subst hu
  exact ⟨y, hr, k4⟩

end
end Go.Proofs.Ytjihnbjdclobgaa.VS

/- The row of a law that answers true and leaves all as it was, whatever its arguments' types; structs by their fields' places. Conditions: none. -/
namespace Go.Proofs.Ytjihnbjdclobgaa.VS
open Go.ChangeShapes Go.WideShapes Go.RowKit

section
variable {H : Type} {enc : TypeId × Value → H} {P : Program} {W W' : World}

theorem sameAt_kept (hk : Kept W W') {p : MemPlace} (hp : p.block < W.heap.size) : W.sameAt W' p := by
  cases p with
  | cell b off =>
    show W'.cell? ⟨b, off, none⟩ = W.cell? ⟨b, off, none⟩
    unfold World.cell?
    rw [show W'.heap[(⟨b, off, none⟩ : Addr).block]? = W.heap[(⟨b, off, none⟩ : Addr).block]? from hk.block b hp fun h => h]
  | map b => exact hk.block b hp fun h => h

theorem trodAll_kept {sp : Nat → Bool} (hk : Kept W W') : ∀ {ts : List TypeId} {vs : List Value} {ds : List (DataW H)} {ps : List MemPlace}, DataW.TrodAll enc P W 0 sp true ts vs ds ps → (∀ p ∈ ps, p.block < W.heap.size) → DataW.TrodAll enc P W' 0 sp true ts vs ds ps
  | [], [], [], _, h, _ => h
  | _ :: _, _ :: _, _ :: _, _, ⟨p, q, ⟨n, h1⟩, h2, e⟩, hs =>
    ⟨p, q, ⟨n, DataW.trod_carry n _ _ _ h1 fun x hx => sameAt_kept hk (hs x (by rw [e]; exact List.mem_append_left _ hx))⟩, trodAll_kept hk h2 (fun x hx => hs x (by rw [e]; exact List.mem_append_right _ hx)), e⟩

/-- The post of a law that answers true, changes nothing, and has no variables. -/
theorem post_law (K : Kids P (· < P.types.size)) (hz : ∀ t e, t < P.types.size → P.underlying t = some (.slice e) → 0 < P.cellsOf e) {f : Func} {s : ChangeSpec} {apart fresh handsOn again : Bool} {args : Array Value} {ds gs : List (DataW H)} {before : List MemPlace} {tb : TypeId}
    (hW : DataW.Whole enc P f.params.toList s.vars apart W args.toList ds gs before) (hT : ∀ t ∈ f.params.toList, t < P.types.size) (hv : s.vars = []) (hrt : f.resultTypes = #[tb]) (hb : P.underlying tb = some .bool)
    (hres : (s.fn H (ds ++ gs)).results = [.lit (.bool true)]) (hargs : (s.fn H (ds ++ gs)).args = ds) (hvars : (s.fn H (ds ++ gs)).vars = []) (hk : Kept W W') :
    s.post enc P f apart fresh handsOn again W args (.bool true) W' := by
  have hlt : ∀ p ∈ before, p.block < W.heap.size := fun p hp => hW.lt p hp
  have hA := hW
  obtain ⟨p, q, hA0, hV, e, _, _⟩ := hA
  rw [hv] at hV
  obtain ⟨rfl, rfl⟩ := trodVars_none hV
  rw [List.append_nil] at e
  subst e
  refine post_kept (pa := before) (pv := []) hW (fun b sp hd => ?_) (fun sp hsp => ?_) (fun sp _ => ?_) (by rw [List.append_nil]) hk (ok_one hrt rfl (okWide_bool_mk hb _))
  · rw [hrt, hres]; exact trodAll_cons_mk (shut_bool hb _) trodAll_mk0
  · rw [hargs]
    exact trodAll_kept hk (DataW.TrodAll.respare K hz hT hA0 hsp) hlt
  · rw [hv, hvars]; exact rfl

/-- An argument that is a row. -/
theorem slice_cells {base : Nat} {t e : TypeId} (ht : P.underlying t = some (.slice e)) {v : Value} (h : Value.okWide P W .any base t v) : v.cells = #[v] := by
  unfold Value.okWide at h
  rw [ht] at h
  cases v with
  | agg cs =>
    exfalso
    have h : Cell.okWide P W .any base t (.agg cs) := h
    unfold Cell.okWide at h
    rw [ht] at h
    simp only at h
    unfold Cell.ok at h
    rw [ht] at h
    exact h
  | _ => rfl

theorem agg_of {base : Nat} {t : TypeId} {v : Value} (h : Value.okWide P W .any base t v) {fs : Array Field} (ht : P.underlying t = some (.struct fs)) : ∃ cs, v = .agg cs ∧ cs.size = P.cellsOf t := by
  unfold Value.okWide at h
  rw [ht] at h
  obtain ⟨cs, h1, h2, _⟩ := h
  exact ⟨cs, h1, h2⟩

def fieldsOf (P : Program) (t : TypeId) : Option (List (Nat × TypeId)) :=
  match P.underlying t with
  | some (.struct fs) => some (fs.toList.map fun f => (f.offset, f.type))
  | _ => none

theorem fieldsOf_some {t : TypeId} {l : List (Nat × TypeId)} (h : fieldsOf P t = some l) : ∃ fs, P.underlying t = some (.struct fs) ∧ fs.toList.map (fun f => (f.offset, f.type)) = l := by
  unfold fieldsOf at h
  split at h
  · rename_i fs hfs
    exact ⟨fs, hfs, Option.some.inj h⟩
  · cases h

section
variable [Syms] {sp : Nat → Bool}

/-- Fields by their places and types. -/
def RdG {H : Type} (enc : TypeId × Value → H) (P : Program) (W : World) (sp : Nat → Bool) {α : Type} (off n : Nat) (ec : α → List AV) (fit : α → Prop) (l : List (Nat × TypeId)) : Prop :=
  ∀ fs : List Field, fs.map (fun f => (f.offset, f.type)) = l → RdF enc P W sp off n ec fit fs

theorem rdG_nil {off : Nat} : RdG enc P W sp off 0 (fun _ : Unit => []) (fun _ => True) [] := fun fs h => by
  obtain rfl : fs = [] := by simpa using h
  exact rdF_nil

theorem rdG_cons {α β : Type} {off n1 n2 : Nat} {e1 : α → List AV} {e2 : β → List AV} {p1 : α → Prop} {p2 : β → Prop} {t : TypeId} {l : List (Nat × TypeId)} (h1 : RdT enc P W sp n1 e1 p1 t) (h2 : RdG enc P W sp (off + n1) n2 e2 p2 l) :
    RdG enc P W sp off (n1 + n2) (fun y : α × β => e1 y.1 ++ e2 y.2) (fun y => p1 y.1 ∧ p2 y.2) ((off, t) :: l) := fun fs h => by
  cases fs with
  | nil => cases h
  | cons f fs =>
    rw [List.map_cons] at h
    injection h with h3 h4
    injection h3 with h5 h6
    subst h6
    exact rdF_cons h5 h1 (h2 fs h4)

theorem rd_fields {α : Type} {n : Nat} {ec : α → List AV} {fit : α → Prop} {t : TypeId} {l : List (Nat × TypeId)} (ht : fieldsOf P t = some l) (hc : P.cellsOf t = n) (h : RdG enc P W sp 0 n ec fit l) : RdT enc P W sp n ec fit t := by
  obtain ⟨fs, h1, h2⟩ := fieldsOf_some ht
  exact rd_struct h1 hc (h _ h2)

/-- A struct argument. -/
theorem rd_arg {base : Nat} {α : Type} {n : Nat} {ec : α → List AV} {fit : α → Prop} {t : TypeId} {l : List (Nat × TypeId)} (ht : fieldsOf P t = some l) (h : RdT enc P W sp n ec fit t) {v : Value} {d : DataW H} {ps : List MemPlace} (hv : DataW.Trod enc P W 0 sp true t v d ps) (hok : Value.okWide P W .any base t v) :
    ∃ y, VR (fun _ => True) W.heap noMap (.agg (ec y)) v ∧ fit y := by
  obtain ⟨fs, h1, _⟩ := fieldsOf_some ht
  exact rd_agg h hv (agg_of hok h1)

/-! ### The program's structs -/

theorem rd_spt {t tb ti : TypeId} {p1 p2 : Int → Prop} (ht : fieldsOf P t = some [(0, tb), (1, ti)]) (hc : P.cellsOf t = 2) (h1 : RdT enc P W sp 1 (fun n : Int => [.int .i64 n]) p1 tb) (h2 : RdT enc P W sp 1 (fun n : Int => [.int .i64 n]) p2 ti) :
    RdT enc P W sp 2 (fun c : Spt => [.int .i64 c.branch, .int .i64 c.ino]) (fun c => p1 c.branch ∧ p2 c.ino) t :=
  (rd_fields ht hc (rdG_cons h1 (rdG_cons h2 rdG_nil))).map (fun y => ⟨y.1, y.2.1⟩) (fun _ => rfl) (fun _ h => ⟨h.1, h.2.1⟩)
theorem rd_rwo {t ts tu : TypeId} {p1 : Spt → Prop} {p2 : Int → Prop} (ht : fieldsOf P t = some [(0, ts), (2, tu)]) (hc : P.cellsOf t = 3) (h1 : RdT enc P W sp 2 (fun c : Spt => [.int .i64 c.branch, .int .i64 c.ino]) p1 ts) (h2 : RdT enc P W sp 1 (fun n : Int => [.int .i64 n]) p2 tu) :
    RdT enc P W sp 3 (fun c : Rwo => [.int .i64 c.spot.branch, .int .i64 c.spot.ino, .int .i64 c.u]) (fun c => p1 c.spot ∧ p2 c.u) t :=
  (rd_fields ht hc (rdG_cons h1 (rdG_cons h2 rdG_nil))).map (fun y => ⟨y.1, y.2.1⟩) (fun _ => rfl) (fun _ h => ⟨h.1, h.2.1⟩)
theorem rd_tbl {t tn tr tc : TypeId} {p1 p3 : Int → Prop} {p2 : List Rwo → Prop} (ht : fieldsOf P t = some [(0, tn), (1, tr), (2, tr), (3, tc)]) (hc : P.cellsOf t = 4) (h1 : RdT enc P W sp 1 (fun n : Int => [.int .i64 n]) p1 tn) (h2 : RdT enc P W sp 1 (fun l : List Rwo => [.tl .row l]) p2 tr) (h3 : RdT enc P W sp 1 (fun n : Int => [.int .i64 n]) p3 tc) :
    RdT enc P W sp 4 (fun c : Tbl => [.int .i64 c.next, .tl .row c.rows, .tl .row c.homes, .int .i64 c.cursor]) (fun c => p1 c.next ∧ p2 c.rows ∧ p2 c.homes ∧ p3 c.cursor) t :=
  (rd_fields ht hc (rdG_cons h1 (rdG_cons h2 (rdG_cons h2 (rdG_cons h3 rdG_nil))))).map (fun y => ⟨y.1, y.2.1, y.2.2.1, y.2.2.2.1⟩) (fun _ => rfl) (fun _ h => ⟨h.1, h.2.1, h.2.2.1, h.2.2.2.1⟩)


theorem rd_cnf {t tw ti : TypeId} {p1 : List Int → Prop} {p2 : Int → Prop} (ht : fieldsOf P t = some [(0, tw), (1, ti)]) (hc : P.cellsOf t = 2) (h1 : RdT enc P W sp 1 (fun l : List Int => [.tl .int l]) p1 tw) (h2 : RdT enc P W sp 1 (fun n : Int => [.int .i64 n]) p2 ti) :
    RdT enc P W sp 2 (fun c : Cnf => [.tl .int c.ways, .int .i64 c.policy]) (fun c => p1 c.ways ∧ p2 c.policy) t :=
  (rd_fields ht hc (rdG_cons h1 (rdG_cons h2 rdG_nil))).map (fun y => ⟨y.1, y.2.1⟩) (fun _ => rfl) (fun _ h => ⟨h.1, h.2.1⟩)

end
end
end Go.Proofs.Ytjihnbjdclobgaa.VS

