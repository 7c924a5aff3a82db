/- Texts with loops; functions by their texts; the row of contracts. Conditions: none. -/
import Derived.Test.YtjihnbjdclobgaaVW6
namespace Go.Proofs.Ytjihnbjdclobgaa.VS
variable [Syms]

section
variable {P : Program} {S : SE}

theorem codeC_sem (hT : TyOK P S.T) (hC : ConOK P S) (hmx : P.follows .mixedOrders = true) {n : Nat} (hn : n ≤ 1023) : ∀ (code : Code) {s : St} {K : AX → St → Prop}, codeC S code s K → codeOk n code = true → drawsOk code = true → LoopsOK P S n code → Sem P n code s K := by
  intro code
  induction code with
  | skip =>
    intro s K h _ _ _ c wE m a w Q hg hd hQ
    exact wp_skip (hQ .normal s m a w h hg hd)
  | label l =>
    intro s K h _ _ _ c wE m a w Q hg hd hQ
    exact wp_label (hQ .normal s m a w h hg hd)
  | region id ops draw =>
    intro s K h hc hdr _ c wE m a w Q hg hd hQ
    exact regC_sem hT hC hmx hc hdr h c wE m a w Q hg hd fun x s' m' a' w' ⟨hx, hk⟩ hg' hd' => by
      subst hx; exact hQ .normal s' m' a' w' hk hg' hd'
  | seq c1 c2 ih1 ih2 =>
    intro s K h hc hdr hl c wE m a w Q hg hd hQ
    simp only [codeOk, drawsOk, Bool.and_eq_true] at hc hdr
    have hl1 : LoopsOK P S n c1 := fun b hb => hl b (List.mem_append.2 (.inl hb))
    have hl2 : LoopsOK P S n c2 := fun b hb => hl b (List.mem_append.2 (.inr hb))
    refine wp_seq (ih1 h hc.1 hdr.1 hl1 c wE m a w _ hg hd fun x s' m' a' w' hk hg' hd' => ?_)
    cases x with
    | normal =>
      show Code.wp P c2 Q a' w'
      exact ih2 hk hc.2 hdr.2 hl2 c wE m' a' w' Q hg' hd' hQ
    | exit id => exact hQ (.exit id) s' m' a' w' hk hg' hd'
    | ret => exact hQ .ret s' m' a' w' hk hg' hd'
  | cond cd c1 c2 ih1 ih2 =>
    intro s K h hc hdr hl c wE m a w Q hg hd hQ
    simp only [codeOk, drawsOk, Bool.and_eq_true] at hc hdr
    have hl1 : LoopsOK P S n c1 := fun b hb => hl b (List.mem_append.2 (.inl hb))
    have hl2 : LoopsOK P S n c2 := fun b hb => hl b (List.mem_append.2 (.inr hb))
    have h : (match opndK cd s.fr with
      | .bool b => @Bool.rec (fun _ => Prop) (codeC S c2 s K) (codeC S c1 s K) b
      | .ub b => (b = true → codeC S c1 s K) ∧ (b = false → codeC S c2 s K)
      | _ => False) := h
    have hv := opnd_vr hg.here.fr cd
    rw [opndK_eq] at h
    split at h
    · rename_i b hb
      rw [hb] at hv
      have : a.eval cd = .bool b := by cases hh : a.eval cd <;> rw [hh] at hv <;> cases hv; rfl
      cases b with
      | true => exact wp_cond_true this (ih1 h hc.1 hdr.1 hl1 c wE m a w Q hg hd hQ)
      | false => exact wp_cond_false this (ih2 h hc.2 hdr.2 hl2 c wE m a w Q hg hd hQ)
    · rename_i b hb
      rw [hb] at hv
      have : a.eval cd = .bool b := by cases hh : a.eval cd <;> rw [hh] at hv <;> cases hv; rfl
      cases b with
      | true => exact wp_cond_true this (ih1 (h.1 rfl) hc.1 hdr.1 hl1 c wE m a w Q hg hd hQ)
      | false => exact wp_cond_false this (ih2 (h.2 rfl) hc.2 hdr.2 hl2 c wE m a w Q hg hd hQ)
    · exact h.elim
  | block id b ih =>
    intro s K h hc hdr hl c wE m a w Q hg hd hQ
    refine wp_block (ih h (by simpa [codeOk] using hc) (by simpa [drawsOk] using hdr) hl c wE m a w _ hg hd fun x s' m' a' w' hk hg' hd' => ?_)
    cases x with
    | normal => exact hQ .normal s' m' a' w' hk hg' hd'
    | ret => exact hQ .ret s' m' a' w' hk hg' hd'
    | exit k =>
      have hk : bK (Nat.beq k id) (K .normal s') (K (.exit k) s') := hk
      show (if k = id then Q .normal a' w' else Q (.exit k) a' w')
      by_cases e : k = id
      · subst e
        rw [beq_same] at hk
        rw [if_pos rfl]
        exact hQ .normal s' m' a' w' hk hg' hd'
      · rw [beq_ne e] at hk
        rw [if_neg e]
        exact hQ (.exit k) s' m' a' w' hk hg' hd'
  | loop b ih =>
    intro s K h hc hdr hl c wE m a w Q hg hd hQ
    have h : optC (fun lc => must ((canonIds lc.live s).length.ble MANY) (lc.fn (canonVals lc.live s) (canonHeap lc.live s) fun x vs H => K x (cutSt (lc.out.map (·.1)) vs H))) (S.loop (keyOf b)) := h
    obtain ⟨lc, h1, h2⟩ := optC_some h
    obtain ⟨h3, h4⟩ := must_and h2
    have := hl b (by simp [loopsOf]) lc h1 _ _ _ h4
    refine (this.weaken (canon_ent hn lc.live s (ble_le h3)) fun x t ⟨vs, H', k1, k2⟩ => ⟨_, k1, k2⟩) c wE m a w Q hg hd hQ
  | exit id =>
    intro s K h _ _ _ c wE m a w Q hg hd hQ
    exact wp_exit (hQ (.exit id) s m a w h hg hd)
  | ret =>
    intro s K h _ _ _ c wE m a w Q hg hd hQ
    exact wp_ret (hQ .ret s m a w h hg hd)
  | _ =>
    intro s K h
    exact h.elim

/-- A loop by its rounds. 'Φ': what holds ahead of each, by a measure. -/
theorem loop_ok (hT : TyOK P S.T) (hC : ConOK P S) (hmx : P.follows .mixedOrders = true) {n : Nat} (hn : n ≤ 1023) {lc : LoopC} {b : Code} (hc : codeOk n b = true) (hdr : drawsOk b = true) (hl : LoopsOK P S n b)
    (Φ : Nat → List AV → Heap → (AX → List AV → Heap → Prop) → Prop) (entry : ∀ vals H K, lc.fn vals H K → ∃ N, Φ N vals H K)
    (step : ∀ N vals H K, Φ N vals H K → roundC S lc b vals H (fun vals' H' => ∃ N', N' < N ∧ Φ N' vals' H' K) K) : LoopOK P n lc b := by
  intro vals H K hfn c wE m a w Q hg hd hQ
  obtain ⟨N, hΦ⟩ := entry vals H K hfn
  refine wp_loop_rounds (N + 1) ?_
  have key : ∀ (N : Nat) (vals : List AV) (H : Heap), Φ N vals H K → ∀ k, N < k → ∀ {m : Map} {a : Act} {w : World}, Good n c wE m (cutSt (lc.live.map (·.1)) vals H) a w → a.defers = [] → Code.rounds P b Q k a w := by
    intro N
    induction N using Nat.strongRecOn with
    | _ N ih =>
      intro vals H hΦ k hk m a w hg hd
      cases k with
      | zero => omega
      | succ k =>
        rw [rounds_succ]
        have h : codeC S b (cutSt (lc.live.map (·.1)) vals H) fun x s =>
            @AX.rec (fun _ => Prop) (must ((canonIds lc.live s).length.ble MANY) (∃ N', N' < N ∧ Φ N' (canonVals lc.live s) (canonHeap lc.live s) K))
              (fun id => must ((canonIds lc.out s).length.ble MANY) (K (.exit id) (canonVals lc.out s) (canonHeap lc.out s)))
              (must ((canonIds lc.out s).length.ble MANY) (K .ret (canonVals lc.out s) (canonHeap lc.out s))) x := step N vals H K hΦ
        refine codeC_sem hT hC hmx hn b h hc hdr hl c wE m a w _ hg hd fun x s' m' a' w' hk' hg' hd' => ?_
        cases x with
        | normal =>
          obtain ⟨h3, N', h4, h5⟩ := must_and hk'
          obtain ⟨m2, hg2⟩ := canon_ent hn lc.live s' (ble_le h3) c wE m' a' w' hg'
          exact ih N' h4 _ _ h5 k (by omega) hg2 hd'
        | exit id =>
          obtain ⟨h3, h4⟩ := must_and hk'
          exact hQ (.exit id) s' m' a' w' ⟨_, _, h4, canon_ent hn lc.out s' (ble_le h3)⟩ hg' hd'
        | ret =>
          obtain ⟨h3, h4⟩ := must_and hk'
          exact hQ .ret s' m' a' w' ⟨_, _, h4, canon_ent hn lc.out s' (ble_le h3)⟩ hg' hd'
  exact key N vals H hΦ (N + 1) (by omega) hg hd

/-- What a function answers, by its text. -/
theorem fun_calls (hT : TyOK P S.T) (hC : ConOK P S) (hmx : P.follows .mixedOrders = true) {f : FuncId} {fn : Func} (hf : P.funcs[f]? = some fn) (hok : fnOk fn = true) (hnm : (fn.name == "runtime.NumGoroutine") = false)
    (hl : ∀ code, fn.body = some code → LoopsOK P S fn.ntmps code) {args : List AV} {v : AV} (h : funC S fn args fun y => VLe y v) {cx : Ctx} {m : Map} {w : World} {cargs : Array Value} (hs : SR cx m [] [] w) (hr : CR (okB cx.X m [] []) w.heap m args cargs 0) (hsz : cargs.size = args.length)
    (hm : ∀ b, m b = none) : CallsTo P f cargs w fun cv w' => ∃ m', After cx m [] [] w 0 v [] [] WIDE cv m' w' := by
  unfold funC at h
  obtain ⟨code, hb, h⟩ := optC_some h
  obtain ⟨hle, h⟩ := must_and h
  right
  refine ⟨run_callFunc hf hb hnm cargs w, ?_⟩
  unfold fnOk at hok
  rw [hb] at hok
  simp only [Bool.and_eq_true] at hok
  have hat := entered (fn := fn) (nx := 0) hs hr hsz (fun b _ => hm b) (ble_le hle) (ble_le hok.1)
  refine calls_of_wp hf hb ?_
  have hg : Good fn.ntmps cx w m ⟨Fr.args args 0 (Fr.full 10), [], [], 0⟩ { tmps := cargs ++ Array.replicate (fn.ntmps - cargs.size) undef, defers := [] } w :=
    ⟨hat, fun β C e z h1 h2 => ⟨⟨h1, fun b o L hb => by cases hb⟩, h2⟩⟩
  refine codeC_sem hT hC hmx (ble_le hok.1) code h hok.2.1 hok.2.2 (hl code hb) cx w m _ w _ hg rfl fun x s' m' a' w' hk hg' hd' => ?_
  have hk : must (s'.nx.ble WIDE) (@AX.rec (fun _ => Prop) (ansC S.T fn.results.toList (fun y => VLe y v) s') (fun _ => False) (ansC S.T fn.results.toList (fun y => VLe y v) s') x) := hk
  obtain ⟨hnx, hk⟩ := must_and hk
  have fin : ansC S.T fn.results.toList (fun y => VLe y v) s' → a'.defers = [] ∧ ∃ cv, (results fn a'.tmps).run P w' = .ok cv w' ∧ ∃ u, Ending.returned cv = .returned u ∧ ∃ m', After cx m [] [] w 0 v [] [] WIDE u m' w' := by
    intro h
    unfold ansC at h
    obtain ⟨vs, h1, h2⟩ := optC_some h
    obtain ⟨y, is, h3, h4⟩ := resC_some _ _ _ h2
    have hans : ansOf S.T fn.results.toList s' = .ok (oneOf vs) s'.H s'.F s'.nx := by unfold ansOf; rw [h1]
    obtain ⟨_, _, _, cv, g1, g2⟩ := sim_ans hT hg'.here hans
    have haf : After cx m [] [] w 0 (oneOf vs) s'.H s'.F s'.nx cv m' w' := by
      refine ⟨⟨fun b L hb => (by rw [hm b] at hb; cases hb), fun β C e z ho hh => hg'.old β C e z ho.1 hh⟩, hg'.here.sr, g2, Nat.zero_le _, fun b hb => .inr ⟨Nat.zero_le b, ?_⟩⟩
      rcases Nat.lt_or_ge b s'.nx with hlt | hge
      · exact hlt
      · exact absurd (hg'.here.nx b hge) hb
    have hat := haf.tree h3 (ble_le hnx)
    exact ⟨hd', cv, g1, cv, rfl, m', ⟨hat.ext, hat.sr, h4 _ _ _ _ hat.vr, hat.le, hat.dom⟩⟩
  cases x with
  | normal => exact fin hk
  | ret => exact fin hk
  | exit k => exact hk.elim

end

/-- Contracts in a row. -/
abbrev Cons := List (FuncId × (List AV → Option Con))

def conOf : Cons → FuncId → Option (List AV → Option Con)
  | [], _ => none
  | p :: r, f => bif p.1.beq f then some p.2 else conOf r f

/-- A contract of one function, by what is known of others. -/
def ConOne (P : Program) (f : FuncId) (g : List AV → Option Con) : Prop :=
  ∀ args c, g args = some c → c.pre → ∀ (cx : Ctx) (m : Map) (w : World) (cargs : Array Value), SR cx m [] [] w → CR (okB cx.X m [] []) w.heap m args cargs 0 → cargs.size = args.length →
    (∀ b, m b = none) → CallsTo P f cargs w fun cv w' => ∃ m', After cx m [] [] w 0 c.v c.H [] WIDE cv m' w'

def ConsOK (P : Program) (l : Cons) : Prop := ∀ p ∈ l, ConOne P p.1 p.2

theorem consOK_nil {P : Program} : ConsOK P [] := fun p hp => by cases hp
theorem consOK_cons {P : Program} {f : FuncId} {g : List AV → Option Con} {l : Cons} (h : ConOne P f g) (hl : ConsOK P l) : ConsOK P ((f, g) :: l) := fun p hp => by
  rcases List.mem_cons.1 hp with rfl | hp
  · exact h
  · exact hl p hp
theorem consOK_append {P : Program} {l l' : Cons} (h : ConsOK P l) (h' : ConsOK P l') : ConsOK P (l ++ l') := fun p hp => (List.mem_append.1 hp).elim (h p) (h' p)

omit [Syms] in
theorem conOf_mem {f : FuncId} {g : List AV → Option Con} : ∀ {l : Cons}, conOf l f = some g → (f, g) ∈ l
  | [], h => by cases h
  | p :: r, h => by
    rw [conOf] at h
    cases hf : p.1.beq f with
    | true =>
      rw [hf, cond_true] at h
      have := beq_eq' hf
      subst this
      cases h
      exact List.mem_cons_self
    | false =>
      rw [hf, cond_false] at h
      exact List.mem_cons_of_mem _ (conOf_mem h)

theorem conOK_of {P : Program} {S : SE} {l : Cons} (h : ConsOK P l) (hS : S.con = conOf l) : ConOK P S := fun f g args c h1 => by
  rw [hS] at h1
  exact h (f, g) (conOf_mem h1) args c

/-- What a contract tells of a call by trees. -/
theorem conOne_calls {P : Program} {S : SE} (hT : TyOK P S.T) (hC : ConOK P S) (hmx : P.follows .mixedOrders = true) {f : FuncId} {fn : Func} (hf : FnOne P f fn) {g : List AV → Option Con}
    (hl : ∀ code, fn.body = some code → LoopsOK P S fn.ntmps code) (h : ∀ args c, g args = some c → c.pre → c.H = [] ∧ ∃ args', CLe args args' ∧ funC S fn args' fun y => VLe y c.v) : ConOne P f g := by
  intro args c h1 h2 cx m w cargs hs hr hsz hm
  obtain ⟨h3, args', h4, h5⟩ := h args c h1 h2
  rw [h3]
  exact fun_calls hT hC hmx hf.1 hf.2.1 hf.2.2 hl h5 hs (hr.le h4) (by rw [hsz, h4.1]) hm

end Go.Proofs.Ytjihnbjdclobgaa.VS
