/- A library of an abstract machine, joined from 1 texts. Conditions: none. -/
import Derived.Test.YtmkmjjodiicmlaaVM9
set_option linter.unusedVariables false
set_option linter.unusedSimpArgs false
set_option linter.unusedSectionVars false
/- The text of a function, for values that are not known: what its proposition asks is what it leaves. Conditions: none. -/
namespace Go.Proofs.Ytmkmjjodiicmlaa.VS
variable [Syms]

omit [Syms] in
theorem Fr.set_not : ∀ (t : Fr) (k : Nat) (a : AV), t.has k = false → t.set k a = t
  | .nil, k, a, _ => rfl
  | .nd v l r, k, a, h => by
    rw [Fr.has] at h
    rw [Fr.set_nd]
    by_cases h0 : k = 0
    · rw [if_pos h0] at h; cases h
    · rw [if_neg h0] at h ⊢
      by_cases h1 : k % 2 = 1
      · rw [if_pos h1] at h ⊢; rw [Fr.set_not l _ a h]
      · rw [if_neg h1] at h ⊢; rw [Fr.set_not r _ a h]

omit [Syms] in
theorem Fr.get_set_or' (t : Fr) (k j : Nat) (a : AV) : (t.set k a).get j = t.get j ∨ (j = k ∧ (t.set k a).get j = a) := by
  cases h : t.has k with
  | false => rw [Fr.set_not t k a h]; exact .inl rfl
  | true =>
    rw [Fr.get_set _ _ _ _ h]
    split
    · rename_i e; exact .inr ⟨e, rfl⟩
    · exact .inl rfl


/-- A state, and that all that was there at the call is as it was. -/
structure Good (n : Nat) (c : Ctx) (wE : World) (m : Map) (s : St) (a : Act) (w : World) : Prop where
  here : At n c m s a w
  old : ∀ β C e z, ¬ c.X β → wE.heap[β]? = some (.cells C e z) → okB c.X m s.H s.F β ∧ w.heap[β]? = some (.cells C e z)

theorem Good.moves {n : Nat} {c : Ctx} {wE w w' : World} {m m' : Map} {s s' : St} {a a' : Act} (h : Good n c wE m s a w) (ha : At n c m' s' a' w') (hx : Ext c m s.H s.F w m' s'.H s'.F w') : Good n c wE m' s' a' w' :=
  ⟨ha, fun β C e z h1 h2 => by
    obtain ⟨k1, k2⟩ := h.old β C e z h1 h2
    exact hx.kk β C e z k1 k2⟩

theorem Good.le {n : Nat} {c : Ctx} {wE w : World} {m : Map} {s : St} {a : Act} (h : Good n c wE m s a w) {H1 : Heap} (hl : HLe s.H H1) : Good n c wE m { s with H := H1 } a w :=
  ⟨h.here.le hl, fun β C e z h1 h2 => let ⟨k1, k2⟩ := h.old β C e z h1 h2; ⟨okB_le hl k1, k2⟩⟩

theorem Good.step {n : Nat} {c : Ctx} {wE w : World} {m : Map} {s : St} {a : Act} (h : Good n c wE m s a w) {fr1 : Fr} {H1 : Heap} (hf : FEq s.fr fr1) (hl : HLe s.H H1) : Good n c wE m ⟨fr1, H1, s.F, s.nx⟩ a w :=
  ⟨⟨h.here.sr.le hl, fun t => hf.to t _ _ _ _ ((h.here.fr t).mono (fun β C e z ho hh => ⟨okB_le hl ho, hh⟩) (MLe.refl m)), fun k hk => by rw [hf.has]; exact h.here.has k hk, h.here.sz, h.here.nx⟩,
    fun β C e z h1 h2 => let ⟨k1, k2⟩ := h.old β C e z h1 h2; ⟨okB_le hl k1, k2⟩⟩

theorem Good.set {n : Nat} {c : Ctx} {wE w : World} {m : Map} {s : St} {a : Act} (h : Good n c wE m s a w) {d : Nat} {v : AV} (hv : VLe (s.fr.get d) v) : Good n c wE m ⟨s.fr.set d v, s.H, s.F, s.nx⟩ a w :=
  ⟨⟨h.here.sr, fun t => by
    cases hd : s.fr.has d with
    | false => rw [Fr.set_not _ _ _ hd]; exact h.here.fr t
    | true =>
      show VR _ _ _ ((s.fr.set d v).get t) _
      rw [Fr.get_set _ _ _ _ hd]
      by_cases e : t = d
      · rw [if_pos e]; subst e; exact hv _ _ _ _ (h.here.fr t)
      · rw [if_neg e]; exact h.here.fr t, fun k hk => by rw [Fr.has_set]; exact h.here.has k hk, h.here.sz, h.here.nx⟩, h.old⟩

theorem Good.slot {n : Nat} {c : Ctx} {wE w : World} {m : Map} {fr : Fr} {H : Heap} {F : List Nat} {nx : Nat} {dst : Option Tmp} {v1 v : AV} {a : Act} {fr1 : Fr} (h : Good n c wE m ⟨put fr1 dst v1, H, F, nx⟩ a w) (hh : ∀ k, k < n → fr.has k = true) (hd : ∀ d, dst = some d → d < n) (hf : FEq fr fr1) (hv : VLe v1 v) :
    Good n c wE m ⟨put fr dst v, H, F, nx⟩ a w := by
  refine ⟨⟨h.here.sr, ?_, put_has hh dst v, h.here.sz, h.here.nx⟩, h.old⟩
  cases dst with
  | none => exact fun t => hf.from_ t _ _ _ _ (h.here.fr t)
  | some d =>
    intro t
    have := h.here.fr t
    show VR _ _ _ ((fr.set d v).get t) _
    change VR _ _ _ ((fr1.set d v1).get t) _ at this
    rw [Fr.get_set _ _ _ _ (by rw [hf.has]; exact hh d (hd d rfl))] at this
    rw [Fr.get_set _ _ _ _ (hh d (hd d rfl))]
    by_cases e : t = d
    · rw [if_pos e] at this ⊢; exact hv _ _ _ _ this
    · rw [if_neg e] at this ⊢; exact hf.from_ t _ _ _ _ this

/-- Behind an operation that was told over another frame. -/
theorem Good.slot2 {n : Nat} {c : Ctx} {wE w w' : World} {m m' : Map} {s : St} {H' : Heap} {F' : List Nat} {nx' : Nat} {dst : Option Tmp} {v1 v : AV} {a : Act} {cv : Value} {fr1 : Fr} (h : Good n c wE m' ⟨put fr1 dst v1, H', F', nx'⟩ (a.put dst cv) w') (h0 : Good n c wE m s a w) (hx : Ext c m s.H s.F w m' H' F' w')
    (hd : ∀ d, dst = some d → d < n) (hf : ∀ k, fr1.has k = s.fr.has k) (hv : VLe v1 v) : Good n c wE m' ⟨put s.fr dst v, H', F', nx'⟩ (a.put dst cv) w' := by
  refine ⟨⟨h.here.sr, ?_, put_has h0.here.has dst v, h.here.sz, h.here.nx⟩, h.old⟩
  have hold := FrR.ext hx h0.here.fr
  cases dst with
  | none => exact hold
  | some d =>
    have hhd := h0.here.has d (hd d rfl)
    intro t
    have := h.here.fr t
    show VR _ _ _ ((s.fr.set d v).get t) _
    change VR _ _ _ ((fr1.set d v1).get t) _ at this
    rw [Fr.get_set _ _ _ _ (by rw [hf]; exact hhd)] at this
    rw [Fr.get_set _ _ _ _ hhd]
    by_cases e : t = d
    · rw [if_pos e] at this ⊢; exact hv _ _ _ _ this
    · rw [if_neg e]
      have ht := hold t
      show VR _ _ _ _ ((a.tmps.setIfInBounds d cv).getD t undef)
      simpa [Array.getElem?_setIfInBounds_ne (Ne.symm e)] using ht

/-- A row of data that may be none, under a new number. -/
theorem Good.void {n : Nat} {c : Ctx} {wE w : World} {m : Map} {s : St} {a : Act} (h : Good n c wE m s a w) {b : Nat} (hb : m b = none) (g : GT) : Good n c wE m { s with H := hset s.H b (.tarr g []) } a w := by
  obtain ⟨x1, x2⟩ := h.here.sr.void hb g
  exact h.moves (s' := { s with H := hset s.H b (.tarr g []) }) ⟨x2, fun t => x1.vr (h.here.fr t), h.here.has, h.here.sz, h.here.nx⟩ x1

section
variable {P : Program} {S : SE}

theorem guardU_some {n : Nat} {c : Ctx} {wE w : World} {m : Map} {s : St} {a : Act} (hg : Good n c wE m s a w) {ops : List Oper} {go skip : St → Prop} {g : Option (Nat × Bool)} (h : guardU ops s go skip g) :
    ∃ s', Good n c wE m s' a w ∧ (s'.nx = s.nx ∧ s'.H = s.H ∧ s'.F = s.F) ∧ ((awanted ops g s'.fr = some true ∧ go s') ∨ (awanted ops g s'.fr = some false ∧ skip s')) := by
  cases g with
  | none => exact ⟨s, hg, ⟨rfl, rfl, rfl⟩, .inl ⟨rfl, h⟩⟩
  | some p =>
    obtain ⟨j, q⟩ := p
    have h : (match guardTmp ops j with
      | some d => (match getK s.fr d with
        | .bool b => @Bool.rec (fun _ => Prop) (bK q (skip s) (go s)) (bK q (go s) (skip s)) b
        | .ub b => (b = true → bK q (go ⟨setK s.fr d (.bool true), s.H, s.F, s.nx⟩) (skip ⟨setK s.fr d (.bool true), s.H, s.F, s.nx⟩)) ∧ (b = false → bK q (skip ⟨setK s.fr d (.bool false), s.H, s.F, s.nx⟩) (go ⟨setK s.fr d (.bool false), s.H, s.F, s.nx⟩))
        | .tup [] => skip s
        | _ => False)
      | none => False) := h
    have lit : ∀ {d : Nat} {s' : St} {b : Bool}, guardTmp ops j = some d → s'.fr.get d = .bool b → Good n c wE m s' a w → (s'.nx = s.nx ∧ s'.H = s.H ∧ s'.F = s.F) → (@Bool.rec (fun _ => Prop) (bK q (skip s') (go s')) (bK q (go s') (skip s')) b) →
        ∃ s', Good n c wE m s' a w ∧ (s'.nx = s.nx ∧ s'.H = s.H ∧ s'.F = s.F) ∧ ((awanted ops (some (j, q)) s'.fr = some true ∧ go s') ∨ (awanted ops (some (j, q)) s'.fr = some false ∧ skip s')) := by
      intro d s' b hd hb hgd hnx hh
      refine ⟨s', hgd, hnx, ?_⟩
      have : awanted ops (some (j, q)) s'.fr = some (b == q) := by rw [awanted, hd]; simp only [hb, guardIs]
      rw [this]
      cases b <;> cases q <;> first | exact .inl ⟨rfl, hh⟩ | exact .inr ⟨rfl, hh⟩
    have two : ∀ {d : Nat} {b : Bool} (b' : Bool), guardTmp ops j = some d → s.fr.get d = .ub b → b = b' → Good n c wE m ⟨s.fr.set d (.bool b'), s.H, s.F, s.nx⟩ a w ∧ (s.fr.has d = true → (s.fr.set d (.bool b')).get d = .bool b') := by
      intro d b b' hd hb e
      subst e
      exact ⟨hg.set (by rw [hb]; exact bool_le b), fun hh => by rw [Fr.get_set _ _ _ _ hh, if_pos rfl]⟩
    split at h
    · rename_i d hd
      rw [getK_eq] at h
      simp only [setK_eq] at h
      have hasd : ∀ {b}, s.fr.get d = .ub b → s.fr.has d = true := by
        intro b hb
        cases hh : s.fr.has d with
        | true => rfl
        | false =>
          have : ∀ (t : Fr) (k : Nat), t.has k = false → t.get k = und := by
            intro t
            induction t with
            | nil => intro k _; rfl
            | nd v l r ihl ihr =>
              intro k hk
              rw [Fr.has] at hk
              rw [Fr.get_nd]
              split
              · rename_i h0; rw [if_pos h0] at hk; cases hk
              · rename_i h0
                rw [if_neg h0] at hk
                split
                · rename_i h1; rw [if_pos h1] at hk; exact ihl _ hk
                · rename_i h1; rw [if_neg h1] at hk; exact ihr _ hk
          rw [this s.fr d hh] at hb
          cases hb
      split at h
      · rename_i b hb
        exact lit hd hb hg ⟨rfl, rfl, rfl⟩ h
      · rename_i b hb
        cases hbb : b with
        | true =>
          obtain ⟨k1, k2⟩ := two true hd hb hbb
          exact lit hd (k2 (hasd hb)) k1 ⟨rfl, rfl, rfl⟩ (h.1 hbb)
        | false =>
          obtain ⟨k1, k2⟩ := two false hd hb hbb
          exact lit hd (k2 (hasd hb)) k1 ⟨rfl, rfl, rfl⟩ (h.2 hbb)
      · rename_i hb
        refine ⟨s, hg, ⟨rfl, rfl, rfl⟩, .inr ⟨?_, h⟩⟩
        rw [awanted, hd]; simp only [hb, guardIs]
      · exact h.elim
    · exact h.elim

/-- A call of a function that works on its caller's own rows, as a step. -/
theorem hook_step {n : Nat} {c : Ctx} {m : Map} {s : St} {a : Act} {w : World} (ha : At n c m s a w) {id : Nat} (hid : ∀ b, id ≤ b → b < id + STRIDE → m b = none) (hlt : id + STRIDE ≤ s.nx) {ops : Array Oper} {i : Nat} {o : Oper} (ho : ops[i]? = some o)
    (hd : dstOk n o) (hw : awanted ops.toList o.guard s.fr = some true) {f : Operand} {args : Array Operand} {ts : Array TypeId} (hop : o.op = .call ⟨.value f, args, ts⟩) {g : FuncId} {caps : List AV} (hf : opnd s.fr f = .fn g caps) {k : Kont}
    (hcalls : ∀ cargs : Array Value, CR (okB c.X m s.H s.F) w.heap m (opnds s.fr args.toList ++ caps) cargs 0 → cargs.size = (opnds s.fr args.toList ++ caps).length → CallsTo P g cargs w fun cv w' => ∃ v e rd fz m', k v e rd fz ∧ Done c m s.H s.F w id v e fz cv m' w')
    {Q : Exit → Act → World → Prop} {K : Act → World → Prop}
    (hK : ∀ v e rd fz cv m' w', k v e rd fz → At n c m' ⟨put s.fr o.dst v, happ s.H e, fz ++ s.F, s.nx⟩ (a.put o.dst cv) w' → Ext c m s.H s.F w m' (happ s.H e) (fz ++ s.F) w' → (∀ b, m' b ≠ none → m b ≠ none ∨ (id ≤ b ∧ b < id + STRIDE)) → K (a.put o.dst cv) w') : wpOp P ops Q i K a w := by
  unfold wpOp
  rw [ho]
  simp only
  rw [wanted_eq ha.fr hw, if_pos rfl]
  left
  obtain ⟨dst, op, oty, pos, after, guard⟩ := o
  simp only at hop
  subst hop
  have hfv := opnd_vr ha.fr f
  rw [hf] at hfv
  obtain ⟨vs, hvs, hsz, hcr⟩ := hfv.fn_inv
  have hargs := opnds_vr ha.fr args.toList
  have key := hcalls (args.map a.eval ++ vs) (fun j x hx => by
    rcases Nat.lt_or_ge j (opnds s.fr args.toList).length with hj | hj
    · rw [List.getElem?_append_left hj] at hx
      obtain ⟨v, hv, hr⟩ := hargs j x hx
      refine ⟨v, ?_, hr⟩
      rw [Nat.zero_add] at hv ⊢
      rw [map_eval, Array.getElem?_append_left (by simpa [opnds_length] using hj)]
      exact hv
    · rw [List.getElem?_append_right hj] at hx
      obtain ⟨v, hv, hr⟩ := hcr _ x hx
      refine ⟨v, ?_, hr⟩
      rw [Nat.zero_add] at hv ⊢
      have hl : (args.map a.eval).size = (opnds s.fr args.toList).length := by simp [opnds_length]
      rw [Array.getElem?_append_right (by omega), hl]
      exact hv) (by simp [opnds_length, hsz])
  have hrun : (execOp a.eval ⟨dst, .call ⟨.value f, args, ts⟩, oty, pos, after, guard⟩).run P w = (callFunc g (args.map a.eval ++ vs)).run P w := by
    simp only [execOp, Go.resolve, hvs, Deferred.ofValue, Sem.run_bind, Sem.run_pure, Result.andThen_ok, invoke]
    simp
  have hop : OpWp P a ⟨dst, .call ⟨.value f, args, ts⟩, oty, pos, after, guard⟩ w fun cv w' => ∃ v e rd fz m', k v e rd fz ∧ Done c m s.H s.F w id v e fz cv m' w' := by
    rcases key with ⟨v, w', h1, h2⟩ | ⟨h1, h2⟩
    · exact .inl ⟨v, w', .inl (by rw [hrun]; exact h1), h2⟩
    · exact .inr ⟨g, _, by rw [hrun]; exact h1, h2⟩
  refine hop.wp (fun cv w' ⟨v, e, rd, fz, m', hk, hp⟩ => ?_) Q
  refine hK v e rd fz cv m' w' hk ⟨hp.sr, put_vr (FrR.ext hp.ext ha.fr) ha.has ha.sz hd hp.vr, put_has ha.has _ _, by rw [put_size]; exact ha.sz, fun b hb => ?_⟩ hp.ext hp.dom
  cases hm : m' b with
  | none => rfl
  | some L =>
    exfalso
    rcases hp.dom b (by rw [hm]; simp) with h1 | ⟨h1, h2⟩
    · exact h1 (ha.nx b hb)
    · have hb : s.nx ≤ b := hb
      omega

omit [Syms] in
theorem ownC_not {v : AV} (h : ownV v = true) : (∀ b, v ≠ .bool b) ∧ v ≠ .tup [] := by
  constructor
  · rintro b rfl; cases h
  · rintro rfl; cases h

/-- An operation on a row whose elements' rows are one's own, as a step. -/
theorem deep_step {n : Nat} {c : Ctx} {m : Map} {s : St} {a : Act} {w : World} (ha : At n c m s a w) {id : Nat} (hid : ∀ b, id ≤ b → b < id + STRIDE → m b = none) (hlt : id + STRIDE ≤ s.nx) {ops : Array Oper} {i : Nat} {o : Oper} (ho : ops[i]? = some o)
    (hd : dstOk n o) (hw : awanted ops.toList o.guard s.fr = some true) {v : AV} {e : Eff} (hst : DStep P s id o.op v e) {Q : Exit → Act → World → Prop} {K : Act → World → Prop}
    (hK : ∀ cv m' w', At n c m' ⟨put s.fr o.dst v, happ s.H e, s.F, s.nx⟩ (a.put o.dst cv) w' → Ext c m s.H s.F w m' (happ s.H e) s.F w' → (∀ b, m' b ≠ none → m b ≠ none ∨ (id ≤ b ∧ b < id + STRIDE)) → K (a.put o.dst cv) w') : wpOp P ops Q i K a w := by
  unfold wpOp
  rw [ho]
  simp only
  rw [wanted_eq ha.fr hw, if_pos rfl]
  left
  obtain ⟨cv, m', w', h1, hp⟩ := hst c m w a o rfl ha.sr hid ha.fr
  have hop : OpWp P a o w fun cv w' => ∃ m', Done c m s.H s.F w id v e [] cv m' w' := .inl ⟨cv, w', h1, m', hp⟩
  refine hop.wp (fun cv w' ⟨m', hp⟩ => ?_) Q
  refine hK cv m' w' ⟨hp.sr, put_vr (FrR.ext hp.ext ha.fr) ha.has ha.sz hd hp.vr, put_has ha.has _ _, by rw [put_size]; exact ha.sz, fun b hb => ?_⟩ hp.ext hp.dom
  cases hm : m' b with
  | none => rfl
  | some L =>
    exfalso
    rcases hp.dom b (by rw [hm]; simp) with h1 | ⟨h1, h2⟩
    · exact h1 (ha.nx b hb)
    · have hb : s.nx ≤ b := hb
      omega

/-- Rows that are taken whole ahead of an operation. -/
theorem preC_some {n : Nat} {c : Ctx} {wE w : World} {m : Map} {s : St} {a : Act} (hg : Good n c wE m s a w) {op : Op} {k : St → Prop} (h : preC op s k) : ∃ s1, k s1 ∧ Good n c wE m s1 a w ∧ (s1.nx = s.nx ∧ Ext c m s.H s.F w m s1.H s1.F w) ∧ ∀ (ops : List Oper) g, awanted ops g s.fr = some true → awanted ops g s1.fr = some true := by
  have same : k s → ∃ s1, k s1 ∧ Good n c wE m s1 a w ∧ (s1.nx = s.nx ∧ Ext c m s.H s.F w m s1.H s1.F w) ∧ ∀ (ops : List Oper) g, awanted ops g s.fr = some true → awanted ops g s1.fr = some true := fun h => ⟨s, h, hg, ⟨rfl, Ext.refl _ _ _ _ _⟩, fun _ _ h => h⟩
  -- numbers that are written no more: their rows lie where they lay
  have frz : ∀ is : List Nat, Good n c wE m ⟨s.fr, s.H, is ++ s.F, s.nx⟩ a w := fun is => by
    obtain ⟨hx, hsr⟩ := hg.here.sr.freeze is
    exact hg.moves (s' := ⟨s.fr, s.H, is ++ s.F, s.nx⟩) ⟨hsr, fun t => hx.vr (hg.here.fr t), hg.here.has, hg.here.sz, hg.here.nx⟩ hx
  have tok : ∀ is : List Nat, ∀ b ∈ is, ∀ o L β, hget s.H b = some o → m b = some L → fp o L β → okB c.X m s.H (is ++ s.F) β := fun is b hb o L β h1 h2 hβ =>
    ⟨hg.here.sr.noxf b o L β h1 h2 hβ, fun q p L' h3 h4 h5 e => h4 (List.mem_append_left _ (by
      have := hg.here.sr.injf q p b o L' L β h3 h1 h5 h2 e hβ
      rw [this]; exact hb))⟩
  have hokF : ∀ is : List Nat, ∀ β, okB c.X m s.H s.F β → okB c.X m s.H (is ++ s.F) β := fun is β ho => ⟨ho.1, fun q p L h1 h2 h3 => ho.2 q p L h1 (fun h => h2 (List.mem_append_right _ h)) h3⟩
  have val : ∀ {v y : AV} {is : List Nat} {u : Value} {d : Nat}, resolve true s.H d v = some (y, is) → VR (okB c.X m s.H s.F) w.heap m v u → VR (okB c.X m s.H (is ++ s.F)) w.heap m y u := fun {v y is u d} hr hv =>
    (resolve_vr (I := fun b => b ∈ is) (hokF is) hg.here.sr.arrs (fun b o L β hb hgo hm hβ => tok is b hb o L β hgo hm hβ) d v y is u hr (fun b hb => hb) hv).mono (fun β C e z h1 h2 => ⟨h1, h2⟩) (fun b L hb => by cases hb)
  unfold preC at h
  split at h
  · split at h
    · rename_i x _
      rw [opndK_eq] at h
      unfold preApp at h
      split at h
      · rename_i nn b lo len _
        split at h
        · rename_i mm xs hb
          obtain ⟨hb, hbF⟩ := hlive_some hb
          cases ho : xs.any ownV with
          | false => rw [ho] at h; exact same h
          | true =>
            rw [ho] at h
            obtain ⟨p, h1, h2⟩ := resAllC_some _ _ h
            have hgf := frz p.2
            have hxf := (hg.here.sr.freeze p.2).1
            have hra : resAll true s.H DEEP xs = some p := resAll_of h1
            have hlen := (resAll_some hra).1
            have hobj : ∀ L, m b = some L → ObjR (okB c.X m s.H (p.2 ++ s.F)) w.heap m L (.arr mm p.1) := fun L hL => by
              obtain ⟨j1, j2, j3, j4, C, e, z, j5, j6, j7, j8, j9⟩ := hg.here.sr.objm hb hL
              have ihs : ∀ d', d' ≤ DEEP → ∀ a y is v, resolve true s.H d' a = some (y, is) → (∀ b ∈ is, b ∈ p.2) → VR (okB c.X m s.H s.F) w.heap m a v → VR (okB c.X m s.H (p.2 ++ s.F)) w.heap noMap y v := fun d' _ a y is v hr hi hv =>
                resolve_vr (I := fun b => b ∈ p.2) (hokF p.2) hg.here.sr.arrs (fun b o L β hb hgo hm hβ => tok p.2 b hb o L β hgo hm hβ) d' a y is v hr hi hv
              obtain ⟨q1, q2⟩ := resAll_flat (I := fun b => b ∈ p.2) ihs hra (fun b hb => hb) j4 j9
              refine ⟨j1, j2, by rw [hlen]; exact j3, q1, C, e, z, j5, j6, j7, by rw [hlen]; exact j8, ?_⟩
              intro j x hx
              obtain ⟨v, k1, k2⟩ := q2 j x hx
              exact ⟨v, k1, k2.mono (fun β C e z h1 h2 => ⟨h1, h2⟩) (fun b L hb => by cases hb)⟩
            have hsr := hgf.here.sr.retell (o1 := .arr mm p.1) hb hobj (fun hv => by
              rcases hv with ⟨t, hv⟩ | ⟨t, hv⟩ | ⟨t, hv⟩
              · cases hv
              · cases hv
                have : p.1 = [] := List.length_eq_zero_iff.1 (by rw [hlen]; rfl)
                rw [this]; exact .inr (.inl ⟨_, rfl⟩)
              · cases hv)
            have hkk : ∀ β C e z, okB c.X m s.H (p.2 ++ s.F) β → w.heap[β]? = some (.cells C e z) → okB c.X m (hset s.H b (.arr mm p.1)) (p.2 ++ s.F) β ∧ w.heap[β]? = some (.cells C e z) := fun β C e z h1 h2 => ⟨okB_set hb h1 (flat_arr _ _), h2⟩
            exact ⟨_, h2, hgf.moves (s' := ⟨s.fr, hset s.H b (.arr mm p.1), p.2 ++ s.F, s.nx⟩) ⟨hsr, fun t => (hgf.here.fr t).mono hkk (MLe.refl m), hg.here.has, hg.here.sz, hg.here.nx⟩ ⟨MLe.refl m, hkk⟩, ⟨rfl, hxf.trans ⟨MLe.refl m, hkk⟩⟩, fun _ _ h => h⟩
        · exact same h
      · exact same h
    · exact same h
  · rename_i ty ad t
    rw [opndK_eq, getK_eq] at h
    unfold preSto at h
    split at h
    · rename_i b i off _
      split at h
      · rename_i g l hb
        cases ho : ownV (s.fr.get t) with
        | false => rw [ho] at h; exact same h
        | true =>
          rw [ho] at h
          obtain ⟨y, is, h1, h2⟩ := resC_some _ _ _ h
          rw [setK_eq] at h2
          refine ⟨_, h2, ?_, ⟨rfl, (hg.here.sr.freeze is).1⟩, fun ops g hgw => ?_⟩
          · have hgf := frz is
            refine ⟨⟨hgf.here.sr, fun j => ?_, fun k hk => ?_, hgf.here.sz, hgf.here.nx⟩, hgf.old⟩
            · show VR (okB c.X m s.H (is ++ s.F)) w.heap m ((s.fr.set t y).get j) _
              rcases Fr.get_set_or' s.fr t j y with e | ⟨rfl, e⟩
              · rw [e]; exact hgf.here.fr j
              · rw [e]; exact val h1 (hg.here.fr j)
            · show (s.fr.set t y).has k = true
              rw [Fr.has_set]; exact hg.here.has k hk
          · obtain ⟨q1, q2⟩ := ownC_not ho
            cases g with
            | none => rfl
            | some p =>
              rw [awanted] at hgw ⊢
              split at hgw
              · rename_i d hd
                have : (s.fr.set t y).get d = s.fr.get d := by
                  rcases Fr.get_set_or' s.fr t d y with e | ⟨rfl, e⟩
                  · exact e
                  · exfalso
                    unfold guardIs at hgw
                    split at hgw
                    · rename_i b0 hb0; exact q1 b0 hb0
                    · rename_i hb0; exact q2 hb0
                    · cases hgw
                show guardIs p.2 ((s.fr.set t y).get d) = _
                rw [this]; exact hgw
              · cases hgw
      · exact same h
    · exact same h
  · exact same h

theorem opsC_wp (hT : TyOK P S.T) (hC : CallOK P (S.env false).call) (hH : HookOK P S) {n : Nat} {c : Ctx} {wE : World} {ops : Array Oper} {base : Nat} (hd : ∀ (i : Nat) (o : Oper), ops[i]? = some o → dstOk n o) {Q : Exit → Act → World → Prop} {k : St → Prop} :
    ∀ (r : List Oper) (i : Nat), ops.toList.drop i = r → ∀ {m : Map} {s : St} {a : Act} {w : World}, Good n c wE m s a w → (∀ j, i ≤ j → j < ops.size → ∀ b, base + STRIDE * j ≤ b → b < base + STRIDE * j + STRIDE → m b = none) →
    base + STRIDE * ops.size ≤ s.nx → opsC S ops.toList r (base + STRIDE * i) s k → (∀ s' m' a' w', k s' → Good n c wE m' s' a' w' → a'.defers = a.defers → Ext c m s.H s.F w m' s'.H s'.F w' → Q .normal a' w') → wpOps P ops Q (List.range' i r.length) a w
  | [], i, _, m, s, a, w, hg, _, _, h, hQ => hQ s m a w h hg rfl (Ext.refl _ _ _ _ _)
  | o :: r, i, hr, m, s, a, w, hg, hfree, hlt, h, hQ => by
    have ho : ops[i]? = some o := by
      rw [← Array.getElem?_toList]
      have : (ops.toList.drop i)[0]? = some o := by rw [hr]; rfl
      simpa using this
    have hi : i < ops.size := (Array.getElem?_eq_some_iff.1 ho).1
    have hr' : ops.toList.drop (i + 1) = r := by rw [← List.drop_drop, hr]; rfl
    have hmul : STRIDE * i + STRIDE ≤ STRIDE * ops.size := by
      rw [← Nat.mul_succ]; exact Nat.mul_le_mul_left _ hi
    rw [List.length_cons, List.range'_succ, wpOps_cons]
    have next : ∀ {m1 : Map} {s1 : St} {a1 : Act} {w1 : World}, Good n c wE m1 s1 a1 w1 → a1.defers = a.defers → s1.nx = s.nx → (∀ b, m1 b ≠ none → m b ≠ none ∨ (base + STRIDE * i ≤ b ∧ b < base + STRIDE * i + STRIDE) ∨ (s.nx ≤ b ∧ b < s1.nx)) →
        opsC S ops.toList r (Nat.add (base + STRIDE * i) (nat_lit 64)) s1 k → Ext c m s.H s.F w m1 s1.H s1.F w1 → wpOps P ops Q (List.range' (i + 1) r.length) a1 w1 := by
      intro m1 s1 a1 w1 hg1 hd1 hnx hdom h1 hxx
      refine opsC_wp hT hC hH hd r (i + 1) hr' hg1 (fun j hj hjs b hb1 hb2 => ?_) (by rw [hnx]; exact hlt) (by rw [Nat.mul_succ, ← Nat.add_assoc]; exact h1) fun s' m' a' w' hk hgood hdef hxr => hQ s' m' a' w' hk hgood (hdef.trans hd1) (hxx.trans hxr)
      cases hm : m1 b with
      | none => rfl
      | some L =>
        exfalso
        rcases hdom b (by rw [hm]; simp) with h2 | ⟨h2, h3⟩ | ⟨h2, h3⟩
        · exact h2 (hfree j (by omega) hjs b hb1 hb2)
        · unfold STRIDE at *; omega
        · omega
    have h : guardU ops.toList s (fun s => deepC S o.op s (base + STRIDE * i) (fun v e _ fz => opsC S ops.toList r (Nat.add (base + STRIDE * i) (nat_lit 64)) ⟨putK o.dst s.fr v, happ s.H e, fz ++ s.F, s.nx⟩ k) (preC o.op s fun s => opC S o.op s (base + STRIDE * i) fun v e _ fz => opsC S ops.toList r (Nat.add (base + STRIDE * i) (nat_lit 64)) ⟨putK o.dst s.fr v, happ s.H e, fz ++ s.F, s.nx⟩ k))
      (fun s => opsC S ops.toList r (Nat.add (base + STRIDE * i) (nat_lit 64)) ⟨putK o.dst s.fr und, s.H, s.F, s.nx⟩ k) o.guard := h
    obtain ⟨s00, hg00, ⟨hnx00, hH00, hF00⟩, hw0⟩ := guardU_some hg h
    have hx00 : Ext c m s.H s.F w m s00.H s00.F w := by rw [hH00, hF00]; exact Ext.refl _ _ _ _ _
    simp only [putK_eq] at hw0
    rcases hw0 with ⟨hw0, hgo0⟩ | ⟨hw, hskip⟩
    · rcases deepC_some (P := P) hT hgo0 with hgo0 | ⟨v, e, rd, hk, hst⟩
      case inr =>
        refine deep_step hg00.here (hfree i (Nat.le_refl _) hi) (Nat.le_trans (by rw [Nat.add_assoc]; exact Nat.add_le_add_left hmul base) (by rw [hnx00]; exact hlt)) ho (hd i o ho) hw0 hst fun cv m' w' ha' hx hdom => ?_
        exact next (hg00.moves ha' hx) (put_defers _ _ _) hnx00 (fun b hb => (hdom b hb).imp id fun h => .inl h) hk (hx00.trans hx)
      obtain ⟨s0, hgo, hg0, ⟨hnx01, hx01⟩, hwt⟩ := preC_some hg00 hgo0
      have hx0 := hx00.trans hx01
      have hnx0 := hnx01.trans hnx00
      have hw := hwt _ _ hw0
      rcases opC_some hgo with ⟨v, e, rd, fz, ⟨H0, fr1, H1, v1, e1, rd1, kz, k0, k1, k2, k3, k4⟩, k5⟩ | ⟨f, args, ts, g, caps, hk, g1, g2, g3, g4⟩
      case inr =>
        refine hook_step hg0.here (hfree i (Nat.le_refl _) hi) (Nat.le_trans (by rw [Nat.add_assoc]; exact Nat.add_le_add_left hmul base) (by rw [hnx0]; exact hlt)) ho (hd i o ho) hw g1 g2 (fun cargs hcr hsz => hH g hk g3 _ _ _ _ _ g4 c m w cargs hg0.here.sr hcr hsz (hfree i (Nat.le_refl _) hi))
          fun v e rd fz cv m' w' hk' ha' hx hdom => ?_
        exact next (hg0.moves ha' hx) (put_defers _ _ _) hnx0 (fun b hb => (hdom b hb).imp id fun h => .inl h) hk' (hx0.trans hx)
      have hgv : Good n c wE m ⟨s0.fr, H0, s0.F, s0.nx⟩ a w ∧ Ext c m s0.H s0.F w m H0 s0.F w := by
        rcases kz with rfl | ⟨g, rfl⟩
        · exact ⟨hg0, Ext.refl _ _ _ _ _⟩
        · have hfree1 := hfree i (Nat.le_refl _) hi (Nat.succ (base + STRIDE * i)) (by omega) (by unfold STRIDE; omega)
          exact ⟨hg0.void hfree1 g, (hg0.here.sr.void hfree1 g).1⟩
      have hg1 : Good n c wE m ⟨fr1, H1, s0.F, s0.nx⟩ a w := by
        refine ⟨⟨hgv.1.here.sr.le k1, fun t => k0.to t _ _ _ _ ((hgv.1.here.fr t).mono (fun β C e z ho hh => ⟨okB_le k1 ho, hh⟩) (MLe.refl m)), fun k hk => by rw [k0.has]; exact hg0.here.has k hk, hg0.here.sz, hg0.here.nx⟩,
          fun β C e z h1 h2 => let ⟨k1', k2'⟩ := hgv.1.old β C e z h1 h2; ⟨okB_le k1 k1', k2'⟩⟩
      have hx1 : Ext c m s0.H s0.F w m H1 s0.F w := hgv.2.trans ⟨MLe.refl m, fun β C e z ho hh => ⟨okB_le k1 ho, hh⟩⟩
      have hw1 : awanted ops.toList o.guard fr1 = some true := by
        cases hgd : o.guard with
        | none => rfl
        | some p =>
          rw [hgd] at hw
          rw [awanted] at hw ⊢
          split at hw
          · rename_i d hd
            unfold guardIs at hw ⊢
            split at hw
            · rename_i b hb
              rw [k0.keeps d (.inl ⟨b, hb⟩), hb]; exact hw
            · rename_i hb
              rw [k0.keeps d (.inr hb), hb]; exact hw
            · cases hw
          · cases hw
      have hstep : stepOp (S.env false) ops.toList (base + STRIDE * i) o ⟨fr1, H1, s0.F, s0.nx⟩ = .at ⟨put fr1 o.dst v1, happ H1 e1, fz ++ s0.F, s0.nx⟩ := by
        unfold stepOp
        simp only [hw1, k2, behind]
      refine sim_step hT rfl hC hg1.here (hfree i (Nat.le_refl _) hi) (Nat.le_trans (by rw [Nat.add_assoc]; exact Nat.add_le_add_left hmul base) (by rw [hnx0]; exact hlt)) ho (hd i o ho) hstep fun cv m' w' ha' hmv hdom => ?_
      have hg2 := hg1.moves ha' hmv.ext
      have hg3 := hg2.slot2 hg0 (hx1.trans hmv.ext) (hd i o ho) k0.has k4
      exact next (hg3.le k3) (put_defers _ _ _) hnx0 (by simpa [hnx0] using hdom) k5 (hx0.trans ((hx1.trans hmv.ext).trans ⟨MLe.refl m', fun β C e z ho hh => ⟨okB_le k3 ho, hh⟩⟩))
    · have hg0 := hg00
      have hnx0 := hnx00
      have hstep : stepOp (S.env false) ops.toList (base + STRIDE * i) o s00 = .at ⟨put s00.fr o.dst und, s00.H, s00.F, s00.nx⟩ := by
        unfold stepOp
        simp only [hw]
      refine sim_step hT rfl hC hg0.here (hfree i (Nat.le_refl _) hi) (Nat.le_trans (by rw [Nat.add_assoc]; exact Nat.add_le_add_left hmul base) (by rw [hnx0]; exact hlt)) ho (hd i o ho) hstep fun cv m' w' ha' hmv hdom => ?_
      exact next (hg0.moves ha' hmv.ext) (put_defers _ _ _) hnx0 (by simpa [hnx0] using hdom) hskip (hx00.trans hmv.ext)

omit [Syms] in
theorem Fr.set_get : ∀ (t : Fr) (k : Nat), t.set k (t.get k) = t
  | .nil, k => rfl
  | .nd v l r, k => by
    rw [Fr.set_nd, Fr.get_nd]
    by_cases h0 : k = 0
    · simp [h0]
    · rw [if_neg h0, if_neg h0]
      by_cases h1 : k % 2 = 1
      · rw [if_pos h1, if_pos h1, Fr.set_get l]
      · rw [if_neg h1, if_neg h1, Fr.set_get r]

/-- What is told as known is so. -/
def KN (_ : Nat) (kn : List (Nat × Bool)) (fr : Fr) : Prop := ∀ d b, knOf kn d = some b → fr.get d = .bool b

omit [Syms] in
theorem knOf_del (d x : Nat) : ∀ kn : List (Nat × Bool), knOf (knDel d kn) x = if d = x then none else knOf kn x
  | [] => by simp [knDel, knOf]
  | p :: r => by
    rw [knDel]
    by_cases h : p.1 = d
    · rw [h, beq_same, cond_true, knOf_del d x r, knOf, h]
      by_cases e : d = x
      · simp [e]
      · rw [if_neg e, beq_ne e, if_neg e]; rfl
    · rw [beq_ne h, cond_false, knOf, knOf, knOf_del d x r]
      by_cases e : d = x
      · subst e; rw [if_pos rfl, if_pos rfl, beq_ne h]; rfl
      · simp [e]

omit [Syms] in
theorem KN.put {n : Nat} {kn : List (Nat × Bool)} {fr : Fr} (h : KN n kn fr) (hh : ∀ k, k < n → fr.has k = true) {dst : Option Tmp} (hd : ∀ d, dst = some d → d < n) {v : AV} {q : Option Bool} (hq : ∀ b, q = some b → v = .bool b) : KN n (knPut kn dst q) (put fr dst v) := by
  intro x b hx
  cases dst with
  | none => exact h x b hx
  | some d =>
    have hd := hd d rfl
    show (fr.set d v).get x = .bool b
    rw [Fr.get_set _ _ _ _ (hh d hd)]
    by_cases e : x = d
    · subst e
      rw [if_pos rfl]
      cases q with
      | none =>
        have hx : knOf (knDel x kn) x = some b := hx
        rw [knOf_del, if_pos rfl] at hx; cases hx
      | some c =>
        have hx : knOf ((x, c) :: knDel x kn) x = some b := hx
        rw [knOf, beq_same, cond_true] at hx
        cases hx
        exact hq _ rfl
    · rw [if_neg e]
      refine h x b ?_
      cases q with
      | none =>
        have hx : knOf (knDel d kn) x = some b := hx
        rw [knOf_del, if_neg (fun e' => e e'.symm)] at hx; exact hx
      | some c =>
        have hx : knOf ((d, c) :: knDel d kn) x = some b := hx
        rw [knOf, beq_ne (fun e' => e e'.symm), cond_false, knOf_del, if_neg (fun e' => e e'.symm)] at hx; exact hx

omit [Syms] in
theorem kb_some {n : Nat} {kn : List (Nat × Bool)} {fr : Fr} (h : KN n kn fr) {x : Operand} {b : Bool} (hx : kb kn x = some b) : opnd fr x = .bool b := by
  unfold kb at hx
  split at hx
  · exact h _ b hx
  · cases hx; rfl
  · cases hx

omit [Syms] in
theorem knOp_some {n : Nat} {E : Env} {kn : List (Nat × Bool)} {s : St} (h : KN n kn s.fr) {id : Nat} {op : Op} {b : Bool} (hb : knOp kn op = some b) {v : AV} {e : Eff} {rd fz : List Nat} (ha : aop E s id op = .ok v e rd fz) : v = .bool b := by
  unfold knOp at hb
  split at hb
  · simp only [aop, kb_some h hb, rv, Res.ok.injEq] at ha; exact ha.1.symm
  · simp only [aop, kb_some h hb, rv, Res.ok.injEq] at ha; exact ha.1.symm
  · rename_i c x y
    unfold knPick at hb
    split at hb
    · rename_i hc
      simp only [aop, kb_some h hc, kb_some h hb, opPick, rv, cond_true, Res.ok.injEq] at ha; exact ha.1.symm
    · rename_i hc
      simp only [aop, kb_some h hc, kb_some h hb, opPick, rv, cond_false, Res.ok.injEq] at ha; exact ha.1.symm
    · cases hb
  · rename_i t x
    unfold knNot at hb
    split at hb
    · rename_i c hc
      cases hb
      simp only [aop, kb_some h hc, aun, ro, Res.ok.injEq] at ha; exact ha.1.symm
    · cases hb
  · cases hb

omit [Syms] in
theorem guardD_some {n : Nat} {ops : List Oper} {s : St} {kn : List (Nat × Bool)} (hkn : KN n kn s.fr) {go skip : DK} {g : Option (Nat × Bool)} (h : guardD ops s kn go skip g) :
    ∃ kn', KN n kn' s.fr ∧ ((awanted ops g s.fr = some true ∧ go s kn') ∨ (awanted ops g s.fr = some false ∧ skip s kn')) := by
  cases g with
  | none => exact ⟨kn, hkn, .inl ⟨rfl, h⟩⟩
  | some p =>
    obtain ⟨j, q⟩ := p
    have h : (match guardTmp ops j with
      | some d => (match knOf kn d with
        | some b => bK b (bK q (go s kn) (skip s kn)) (bK q (skip s kn) (go s kn))
        | none => (match getK s.fr d with
          | .bool b => (b = true → bK q (go ⟨setK s.fr d (.bool true), s.H, s.F, s.nx⟩ ((d, true) :: kn)) (skip ⟨setK s.fr d (.bool true), s.H, s.F, s.nx⟩ ((d, true) :: kn))) ∧
            (b = false → bK q (skip ⟨setK s.fr d (.bool false), s.H, s.F, s.nx⟩ ((d, false) :: kn)) (go ⟨setK s.fr d (.bool false), s.H, s.F, s.nx⟩ ((d, false) :: kn)))
          | .tup [] => skip s kn
          | _ => False))
      | none => False) := h
    have lit : ∀ {d : Nat} {b : Bool} {kn' : List (Nat × Bool)}, guardTmp ops j = some d → s.fr.get d = .bool b → KN n kn' s.fr → (bK b (bK q (go s kn') (skip s kn')) (bK q (skip s kn') (go s kn'))) →
        ∃ kn', KN n kn' s.fr ∧ ((awanted ops (some (j, q)) s.fr = some true ∧ go s kn') ∨ (awanted ops (some (j, q)) s.fr = some false ∧ skip s kn')) := by
      intro d b kn' hd hb hk hh
      refine ⟨kn', hk, ?_⟩
      have : awanted ops (some (j, q)) s.fr = some (b == q) := by rw [awanted, hd]; simp only [hb, guardIs]
      rw [this]
      cases b <;> cases q <;> first | exact .inl ⟨rfl, hh⟩ | exact .inr ⟨rfl, hh⟩
    split at h
    · rename_i d hd
      split at h
      · rename_i b hb
        exact lit hd (hkn d b hb) hkn h
      · rename_i hnone
        rw [getK_eq] at h
        simp only [setK_eq] at h
        have cons : ∀ {b : Bool}, s.fr.get d = .bool b → KN n ((d, b) :: kn) s.fr := by
          intro b hb x c hx
          rw [knOf] at hx
          by_cases e : d = x
          · subst e; rw [beq_same, cond_true] at hx; cases hx; exact hb
          · rw [beq_ne e, cond_false] at hx; exact hkn x c hx
        split at h
        · rename_i b hb
          cases hbb : b with
          | true =>
            rw [hbb] at hb
            have hs : s.fr.set d (.bool true) = s.fr := by rw [← hb]; exact Fr.set_get _ _
            have h1 := h.1 hbb
            rw [hs] at h1
            exact lit hd hb (cons hb) h1
          | false =>
            rw [hbb] at hb
            have hs : s.fr.set d (.bool false) = s.fr := by rw [← hb]; exact Fr.set_get _ _
            have h1 := h.2 hbb
            rw [hs] at h1
            exact lit hd hb (cons hb) h1
        · rename_i hb
          refine ⟨kn, hkn, .inr ⟨?_, h⟩⟩
          rw [awanted, hd]; simp only [hb, guardIs]
        · exact h.elim
    · exact h.elim

omit [Syms] in
theorem opDk_some {n : Nat} {s : St} {kn : List (Nat × Bool)} (hkn : KN n kn s.fr) {op : Op} {id : Nat} {k : Kont} (h : opDk S kn op s id k) : ∃ v e rd fz, aop (S.env true) s id op = .ok v e rd fz ∧ k v e rd fz := by
  unfold opDk at h
  split at h
  · rename_i c a b
    simp only [opndK_eq] at h
    split at h
    · rename_i hc
      have := kb_some hkn hc
      exact ⟨_, _, _, _, by simp only [aop, this, opPick, cond_true]; rfl, h⟩
    · rename_i hc
      have := kb_some hkn hc
      exact ⟨_, _, _, _, by simp only [aop, this, opPick, cond_false]; rfl, h⟩
    · exact opD_some h
  · exact opD_some h

omit [Syms] in
theorem opsD_some {n : Nat} {ops : List Oper} : ∀ (r : List Oper), (∀ o ∈ r, dstOk n o) → ∀ (id : Nat) (s : St) (kn : List (Nat × Bool)) (fs : List Foot) (k : St → List (Nat × Bool) → List Foot → Prop), KN n kn s.fr → (∀ k, k < n → s.fr.has k = true) →
    opsD S ops r id s kn fs k → ∃ s' kn' fs', seqD (S.env true) ops r id s fs = .at s' fs' ∧ k s' kn' fs' ∧ KN n kn' s'.fr
  | [], _, id, s, kn, fs, k, hkn, _, h => ⟨s, kn, fs, rfl, h, hkn⟩
  | o :: r, hd, id, s, kn, fs, k, hkn, hh, h => by
    have h : guardD ops s kn (fun s kn => opDk S kn o.op s id fun v e rd fz => must (fz.all (isIn · s.F)) (opsD S ops r (Nat.add id (nat_lit 64)) ⟨putK o.dst s.fr v, happ s.H e, s.F, s.nx⟩ (knPut kn o.dst (knOp kn o.op)) (fs ++ [⟨rd, e.map (·.1), false⟩]) k))
      (fun s kn => opsD S ops r (Nat.add id (nat_lit 64)) ⟨putK o.dst s.fr und, s.H, s.F, s.nx⟩ (knPut kn o.dst none) (fs ++ [⟨[], [], false⟩]) k) o.guard := h
    simp only [putK_eq] at h
    have ho := hd o List.mem_cons_self
    have hr : ∀ o ∈ r, dstOk n o := fun o h => hd o (List.mem_cons_of_mem _ h)
    obtain ⟨kn1, hkn1, hw⟩ := guardD_some hkn h
    rcases hw with ⟨hw, hgo⟩ | ⟨hw, hskip⟩
    · obtain ⟨v, e, rd, fz, h1, h2⟩ := opDk_some hkn1 hgo
      obtain ⟨h3, h4⟩ := must_and h2
      obtain ⟨s', kn', fs', h5, h6, h7⟩ := opsD_some r hr _ _ _ _ _ (hkn1.put hh ho fun b hb => knOp_some hkn1 hb h1) (put_has hh _ _) h4
      refine ⟨s', kn', fs', ?_, h6, h7⟩
      rw [seqD]
      have : stepD (S.env true) ops id o s = .at ⟨put s.fr o.dst v, happ s.H e, s.F, s.nx⟩ [⟨rd, e.map (·.1), false⟩] := by
        unfold stepD
        simp only [hw, h1, behindD, h3, cond_true]
      rw [this]
      exact h5
    · obtain ⟨s', kn', fs', h5, h6, h7⟩ := opsD_some r hr _ _ _ _ _ (hkn1.put hh ho (q := none) (v := und) fun b hb => by cases hb) (put_has hh _ _) hskip
      refine ⟨s', kn', fs', ?_, h6, h7⟩
      rw [seqD]
      have : stepD (S.env true) ops id o s = .at ⟨put s.fr o.dst und, s.H, s.F, s.nx⟩ [⟨[], [], false⟩] := by
        unfold stepD
        simp only [hw]
      rw [this]
      exact h5

/-- From a state that is told so a text leads to states that are told so. -/
def Sem (P : Program) (n : Nat) (code : Code) (s : St) (K : AX → St → Prop) : Prop :=
  ∀ (c : Ctx) (wE : World) (m : Map) (a : Act) (w : World) (Q : Exit → Act → World → Prop), Good n c wE m s a w → a.defers = [] →
    (∀ x s' m' a' w', K x s' → Good n c wE m' s' a' w' → a'.defers = [] → Q x.out a' w') → code.wp P Q a w

/-- What tells a state tells another one. -/
def SEnt (n : Nat) (s s' : St) : Prop := ∀ (c : Ctx) (wE : World) (m : Map) (a : Act) (w : World), Good n c wE m s a w → ∃ m', Good n c wE m' s' a w

theorem Sem.weaken {n : Nat} {code : Code} {s s' : St} {K K' : AX → St → Prop} (h : Sem P n code s' K') (hs : SEnt n s s') (hK : ∀ x t, K' x t → ∃ t', K x t' ∧ SEnt n t t') : Sem P n code s K := by
  intro c wE m a w Q hg hd hQ
  obtain ⟨m', hg'⟩ := hs c wE m a w hg
  refine h c wE m' a w Q hg' hd fun x t m1 a1 w1 hk hg1 hd1 => ?_
  obtain ⟨t', h1, h2⟩ := hK x t hk
  obtain ⟨m2, hg2⟩ := h2 c wE m1 a1 w1 hg1
  exact hQ x t' m2 a1 w1 h1 hg2 hd1

omit [Syms] in
theorem SEnt.refl [Syms] (n : Nat) (s : St) : SEnt n s s := fun _ _ m _ _ h => ⟨m, h⟩

theorem SEnt.trans {n : Nat} {a b c : St} (h : SEnt n a b) (k : SEnt n b c) : SEnt n a c := fun x wE m y w hg => by
  obtain ⟨m1, h1⟩ := h x wE m y w hg
  exact k x wE m1 y w h1

theorem Good.nxt {n : Nat} {c : Ctx} {wE : World} {m : Map} {s : St} {a : Act} {w : World} (h : Good n c wE m s a w) (k : Nat) : Good n c wE m (withF s s.F k) a w := ⟨h.here.nxt k, h.old⟩

theorem ubAll_good {n : Nat} {c : Ctx} {wE w : World} {m : Map} {a : Act} {kn : List (Nat × Bool)} {H : Heap} {F : List Nat} {nx : Nat} : ∀ (ops : List Oper) {fr : Fr}, Good n c wE m ⟨fr, H, F, nx⟩ a w → Good n c wE m ⟨ubAll kn ops fr, H, F, nx⟩ a w
  | [], fr, h => h
  | o :: r, fr, h => by
    rw [ubAll]
    split
    · rename_i d hd
      split
      · exact ubAll_good r h
      · rw [setK_eq, getK_eq]
        exact ubAll_good r (h.set (d := d) (toUb_le _))
    · exact ubAll_good r h

omit [Syms] in
theorem Fr.reub_get : ∀ (f0 f : Fr) (k : Nat), (f0.reub f).get k = f.get k ∨ ∃ b, f.get k = .bool b ∧ (f0.reub f).get k = .ub b
  | .nil, f, k => .inl rfl
  | .nd v l r, .nil, k => .inl rfl
  | .nd v l r, .nd v' l' r', k => by
    rw [Fr.reub, Fr.get_nd, Fr.get_nd]
    split
    · unfold reubV
      split
      · exact .inr ⟨_, rfl, rfl⟩
      · exact .inl rfl
    · split
      · exact Fr.reub_get l l' _
      · exact Fr.reub_get r r' _

omit [Syms] in
theorem Fr.reub_has : ∀ (f0 f : Fr) (k : Nat), (f0.reub f).has k = f.has k
  | .nil, f, k => rfl
  | .nd v l r, .nil, k => rfl
  | .nd v l r, .nd v' l' r', k => by
    rw [Fr.reub, Fr.has, Fr.has]
    split
    · rfl
    · split
      · exact Fr.reub_has l l' _
      · exact Fr.reub_has r r' _

omit [Syms] in
theorem knOf_cons_ne {p : Nat × Bool} {r : List (Nat × Bool)} {d : Nat} (h : p.1 ≠ d) : knOf (p :: r) d = knOf r d := by rw [knOf, beq_ne h]; rfl

/-- A frame, some of whose bools are told as not known. -/
theorem Good.frame {n : Nat} {c : Ctx} {wE w : World} {m : Map} {s : St} {a : Act} (h : Good n c wE m s a w) {fr1 : Fr} (hf : ∀ k, VLe (s.fr.get k) (fr1.get k)) (hh : ∀ k, fr1.has k = s.fr.has k) : Good n c wE m ⟨fr1, s.H, s.F, s.nx⟩ a w :=
  ⟨⟨h.here.sr, fun t => hf t _ _ _ _ (h.here.fr t), fun k hk => by rw [hh]; exact h.here.has k hk, h.here.sz, h.here.nx⟩, h.old⟩

omit [Syms] in
theorem knSet_has (kn : List (Nat × Bool)) : ∀ (l : List (Nat × Bool)) (fr : Fr) (k : Nat), (knSet kn l fr).has k = fr.has k
  | [], fr, k => rfl
  | p :: r, fr, k => by
    rw [knSet]
    split
    · rw [setK_eq, Fr.has_set]; exact knSet_has kn r fr k
    · exact knSet_has kn r fr k

/-- What a slot was told as, or as a bool that is the same. -/
theorem knSet_at (kn : List (Nat × Bool)) : ∀ (l : List (Nat × Bool)) (fr fr0 : Fr), (∀ p ∈ l, ∀ b, knOf kn p.1 = some b → fr0.get p.1 = .bool b) → (∀ k, VLe (fr0.get k) (fr.get k)) → ∀ k, VLe (fr0.get k) ((knSet kn l fr).get k)
  | [], fr, fr0, _, h, k => h k
  | p :: r, fr, fr0, hp, h, k => by
    have ih := knSet_at kn r fr fr0 (fun q hq => hp q (List.mem_cons_of_mem _ hq)) h k
    rw [knSet]
    split
    · rename_i b hb
      rw [setK_eq]
      rcases Fr.get_set_or' (knSet kn r fr) p.1 k (.bool b) with e | ⟨rfl, e⟩
      · rw [e]; exact ih
      · rw [e, hp p List.mem_cons_self b hb]; exact .refl _
    · exact ih

theorem ubAll_at (kn : List (Nat × Bool)) : ∀ (ops : List Oper) (fr : Fr) (k : Nat), VLe (fr.get k) ((ubAll kn ops fr).get k) ∧ (ubAll kn ops fr).has k = fr.has k
  | [], fr, k => ⟨.refl _, rfl⟩
  | o :: r, fr, k => by
    rw [ubAll]
    split
    · rename_i d hd
      split
      · exact ubAll_at kn r fr k
      · rw [setK_eq, getK_eq]
        obtain ⟨h1, h2⟩ := ubAll_at kn r (fr.set d (toUb (fr.get d))) k
        refine ⟨VLe.trans ?_ h1, h2.trans (Fr.has_set _ _ _ _)⟩
        rcases Fr.get_set_or' fr d k (toUb (fr.get d)) with e | ⟨rfl, e⟩
        · rw [e]; exact .refl _
        · rw [e]; exact toUb_le _
    · exact ubAll_at kn r fr k

theorem backF_good {n : Nat} {c : Ctx} {wE w : World} {m : Map} {a : Act} {kn : List (Nat × Bool)} {H : Heap} {F : List Nat} {nx : Nat} (fr0 : Fr) (ops : List Oper) {fr : Fr} (h : Good n c wE m ⟨fr, H, F, nx⟩ a w) (hkn : KN n kn fr) : Good n c wE m ⟨backF fr0 kn ops fr, H, F, nx⟩ a w := by
  refine h.frame (fr1 := backF fr0 kn ops fr) (fun k => ?_) (fun k => ?_)
  · unfold backF
    refine knSet_at kn kn _ fr (fun p _ b hb => hkn p.1 b hb) (fun k => ?_) k
    · refine VLe.trans (ubAll_at kn ops fr k).1 ?_
      rcases Fr.reub_get fr0 (ubAll kn ops fr) k with e | ⟨b, e1, e2⟩
      · rw [e]; exact .refl _
      · rw [e1, e2]; exact ub_le b
  · unfold backF
    rw [knSet_has, Fr.reub_has]
    exact (ubAll_at kn ops fr k).2

omit [Syms] in
theorem allBits_bit {k b : Nat} (h : allBits k b = true) {j : Nat} (hj : j < k) : b.testBit j = true := by
  have : b = 2 ^ k - 1 := Nat.eq_of_beq_eq_true h
  rw [this, Nat.testBit_two_pow_sub_one]
  exact decide_eq_true hj

omit [Syms] in
theorem cutGo_ok : ∀ (bs : List Nat) (n : Nat), bs.length = n → cutGo bs n ≤ n ∧ ∀ i j, cutGo bs n ≤ i → i < n → j < i → (bs.reverse.getD i 0).testBit j = true
  | [], n, h => ⟨Nat.zero_le _, fun i j _ h2 => by simp at h; omega⟩
  | b :: r, n, h => by
    obtain ⟨n, rfl⟩ : ∃ k, n = k + 1 := ⟨n - 1, by simp at h; omega⟩
    have hr : r.length = n := by simpa using h
    obtain ⟨i1, i2⟩ := cutGo_ok r n hr
    rw [cutGo]
    cases hb : allBits (Nat.pred (n + 1)) b with
    | false => exact ⟨Nat.le_refl _, fun i j h1 h2 => by simp only [cond_false] at h1; omega⟩
    | true =>
      simp only [cond_true, Nat.pred_succ] at hb ⊢
      refine ⟨by omega, fun i j h1 h2 h3 => ?_⟩
      rw [List.reverse_cons]
      by_cases e : i = n
      · subst e
        have : (r.reverse ++ [b]).getD i 0 = b := by
          simp only [List.getD_eq_getElem?_getD]
          rw [List.getElem?_append_right (by simp [hr])]
          simp [hr]
        rw [this]
        exact allBits_bit hb h3
      · have : (r.reverse ++ [b]).getD i 0 = r.reverse.getD i 0 := by
          simp only [List.getD_eq_getElem?_getD]
          rw [List.getElem?_append_left (by simp [hr]; omega)]
        rw [this]
        exact i2 i j h1 (by omega) h3

omit [Syms] in
theorem cutOf_ok (ops : Array Oper) : cutOf ops.toList ≤ ops.size ∧ CutOK ops (cutOf ops.toList) := by
  obtain ⟨⟨t, h1, h2⟩, _⟩ := befL_spec ops.toList []
  have hl : (befL ops.toList []).reverse.length = ops.toList.length := by rw [List.length_reverse, h1]; simpa using h2
  obtain ⟨k1, k2⟩ := cutGo_ok _ _ hl
  refine ⟨by simpa [cutOf] using k1, fun i j h3 h4 h5 => ?_⟩
  have := k2 i j h3 (by simpa using h4) h5
  rw [List.reverse_reverse] at this
  exact this

omit [Syms] in
theorem read_foot {E : Env} {s s' : St} {id id' : Nat} {op : Op} {v : AV} {e : Eff} {rd fz : List Nat} (hr : isRead op = true) (h : aop E s id op = .ok v e rd fz) (hop : ∀ x ∈ op.operands, opnd s'.fr x = opnd s.fr x) (hA : Agree s.H s'.H rd) :
    e = [] ∧ fz = [] ∧ aop E s' id' op = .ok v e rd fz := by
  have hH : aop E ⟨s'.fr, s'.H, s.F, s'.nx⟩ id op = .ok v e rd fz := aop_foot (s' := ⟨s'.fr, s'.H, s.F, s'.nx⟩) h hop (fun _ => rfl) hA
  cases op <;> simp only [isRead] at hr <;> try (cases hr; done)
  case move x =>
    simp only [aop, rv, Res.ok.injEq] at h hH ⊢
    exact ⟨h.2.1.symm, h.2.2.2.symm, hH⟩
  case fieldAddr t x f =>
    simp only [aop] at h hH ⊢
    refine ⟨?_, ?_, hH⟩ <;> (unfold ro at h; split at h <;> simp only [Res.ok.injEq, reduceCtorEq] at h; first | exact h.2.1.symm | exact h.2.2.2.symm)
  case load t x =>
    simp only [aop] at h hH ⊢
    refine ⟨?_, ?_, hH⟩ <;> (unfold rr at h; split at h <;> simp only [Res.ok.injEq, reduceCtorEq] at h; first | exact h.2.1.symm | exact h.2.2.2.symm)

omit [Syms] in
theorem noDst_spec {d : Nat} : ∀ {r : List Oper}, noDst d r = true → ∀ o ∈ r, o.dst ≠ some d
  | [], _, o, ho => by simp at ho
  | a :: r, h, o, ho => by
    rw [noDst, Bool.and_eq_true] at h
    rcases List.mem_cons.1 ho with rfl | ho
    · intro e
      have := h.1
      unfold isDst at this
      rw [e] at this
      simp at this
    · exact noDst_spec h.2 o ho

omit [Syms] in
theorem noDsts_spec {r : List Oper} : ∀ {l : List Nat}, noDsts r l = true → ∀ d ∈ l, ∀ o ∈ r, o.dst ≠ some d
  | [], _, d, hd => by simp at hd
  | a :: l, h, d, hd => by
    rw [noDsts, Bool.and_eq_true] at h
    rcases List.mem_cons.1 hd with rfl | hd
    · exact noDst_spec h.1
    · exact noDsts_spec h.2 d hd

omit [Syms] in
theorem chDsts_mem : ∀ {r : List Oper} {o : Oper} {d : Nat}, o ∈ r → isRead o.op = false → o.dst = some d → d ∈ chDsts r
  | [], _, _, h, _, _ => by simp at h
  | a :: r, o, d, h, h1, h2 => by
    rw [chDsts]
    rcases List.mem_cons.1 h with rfl | h
    · rw [h1, cond_false, h2]; simp [optL]
    · have := chDsts_mem h h1 h2
      cases isRead a.op with
      | true => exact this
      | false => exact List.mem_append_right _ this

omit [Syms] in
theorem chOps_spec {cd : List Nat} : ∀ {r : List Oper} {bs : List Nat} {pv : Option Nat} {i : Nat}, chOps cd r bs pv i = true → ∀ (j : Nat) (o : Oper), r[j]? = some o →
    o.guard = none ∧ (∀ d, o.dst = some d → ∀ (q : Nat) (o' : Oper), j < q → r[q]? = some o' → o'.dst ≠ some d) ∧ (isRead o.op = true → ∀ t ∈ tmpsOf o.op.operands.toList, t ∉ cd) ∧
    (isRead o.op = false → (∀ t ∈ tmpsOf o.op.operands.toList, ∀ (q : Nat) (o' : Oper), j < q → r[q]? = some o' → o'.dst ≠ some t) ∧
      (∀ q o', q < j → r[q]? = some o' → isRead o'.op = false → (∀ p o'', q < p → p < j → r[p]? = some o'' → isRead o''.op = true) → (bs.getD j 0).testBit (i + q) = true) ∧
      (∀ p, pv = some p → (∀ q o'', q < j → r[q]? = some o'' → isRead o''.op = true) → (bs.getD j 0).testBit p = true))
  | [], _, _, _, _, j, o, ho => by simp at ho
  | a :: r, [], _, i, hh, j, o, ho => by simp [chOps] at hh
  | a :: r, b :: bs, pv, i, hh, j, o, ho => by
    unfold chOps at hh
    rw [Bool.and_eq_true, Bool.and_eq_true] at hh
    obtain ⟨⟨h1, h2⟩, h3⟩ := hh
    cases j with
    | zero =>
      simp at ho; subst ho
      refine ⟨?_, fun d hd q o' hq ho' => ?_, fun hr => ?_, fun hr => ?_⟩
      · cases hg : a.guard with
        | none => rfl
        | some _ => rw [hg] at h1; cases h1
      · rw [hd] at h2
        obtain ⟨q, rfl⟩ : ∃ k, q = k + 1 := ⟨q - 1, by omega⟩
        exact noDst_spec h2 o' (List.mem_of_getElem? (by simpa using ho'))
      · rw [hr, cond_true, Bool.and_eq_true] at h3
        exact fun t ht hc => disj_spec h3.1 ht hc
      · rw [hr, cond_false, Bool.and_eq_true, Bool.and_eq_true] at h3
        refine ⟨fun t ht q o' hq ho' => ?_, fun q o' hq => by omega, fun p hp _ => ?_⟩
        · obtain ⟨q, rfl⟩ : ∃ k, q = k + 1 := ⟨q - 1, by omega⟩
          exact noDsts_spec h3.1.2 t ht o' (List.mem_of_getElem? (by simpa using ho'))
        · rw [hp] at h3; exact h3.1.1
    | succ j =>
      have ho : r[j]? = some o := by simpa using ho
      have lift : ∀ {pv' : Option Nat}, chOps cd r bs pv' (i + 1) = true → _ := fun h => chOps_spec h j o ho
      have base : ∀ {pv' : Option Nat}, chOps cd r bs pv' (i + 1) = true → o.guard = none ∧ (∀ d, o.dst = some d → ∀ (q : Nat) (o' : Oper), j + 1 < q → (a :: r)[q]? = some o' → o'.dst ≠ some d) ∧ (isRead o.op = true → ∀ t ∈ tmpsOf o.op.operands.toList, t ∉ cd) ∧
          (isRead o.op = false → ∀ t ∈ tmpsOf o.op.operands.toList, ∀ (q : Nat) (o' : Oper), j + 1 < q → (a :: r)[q]? = some o' → o'.dst ≠ some t) := fun h => by
        obtain ⟨k1, k2, k3, k4⟩ := chOps_spec h j o ho
        refine ⟨k1, fun d hd q o' hq ho' => ?_, k3, fun hr t ht q o' hq ho' => ?_⟩
        · obtain ⟨q, rfl⟩ : ∃ k, q = k + 1 := ⟨q - 1, by omega⟩
          exact k2 d hd q o' (by omega) (by simpa using ho')
        · obtain ⟨q, rfl⟩ : ∃ k, q = k + 1 := ⟨q - 1, by omega⟩
          exact (k4 hr).1 t ht q o' (by omega) (by simpa using ho')
      cases hra : isRead a.op with
      | true =>
        rw [hra, cond_true, Bool.and_eq_true] at h3
        obtain ⟨b1, b2, b3, b4⟩ := base h3.2
        refine ⟨b1, b2, b3, fun hr => ⟨b4 hr, fun q o' hq ho' hn hbet => ?_, fun p hp hall => ?_⟩⟩
        · cases q with
          | zero => simp at ho'; subst ho'; rw [hra] at hn; cases hn
          | succ q =>
            have := ((chOps_spec h3.2 j o ho).2.2.2 hr).2.1 q o' (by omega) (by simpa using ho') hn fun p o'' h1 h2 h3 => hbet (p + 1) o'' (by omega) (by omega) (by simpa using h3)
            rw [show i + (q + 1) = i + 1 + q by omega]
            simpa using this
        · have := ((chOps_spec h3.2 j o ho).2.2.2 hr).2.2 p hp fun q o'' h1 h2 => hall (q + 1) o'' (by omega) (by simpa using h2)
          simpa using this
      | false =>
        rw [hra, cond_false, Bool.and_eq_true, Bool.and_eq_true] at h3
        obtain ⟨b1, b2, b3, b4⟩ := base h3.2
        refine ⟨b1, b2, b3, fun hr => ⟨b4 hr, fun q o' hq ho' hn hbet => ?_, fun p hp hall => ?_⟩⟩
        · cases q with
          | zero =>
            have := ((chOps_spec h3.2 j o ho).2.2.2 hr).2.2 i rfl fun q o'' h1 h2 => hbet (q + 1) o'' (by omega) (by omega) (by simpa using h2)
            simpa using this
          | succ q =>
            have := ((chOps_spec h3.2 j o ho).2.2.2 hr).2.1 q o' (by omega) (by simpa using ho') hn fun p o'' h1 h2 h3 => hbet (p + 1) o'' (by omega) (by omega) (by simpa using h3)
            rw [show i + (q + 1) = i + 1 + q by omega]
            simpa using this
        · exact absurd (hall 0 a (by omega) rfl) (by rw [hra]; simp)

omit [Syms] in
theorem safeG_spec {b : Nat} {es : List Nat} : ∀ {rs : List (List Nat)} {i : Nat}, safeG b es rs i = true → ∀ (j : Nat) (rd : List Nat), rs[j]? = some rd → b.testBit (i + j) = true ∨ ∀ x ∈ rd, x ∉ es
  | [], _, _, j, rd, h => by simp at h
  | a :: r, i, hh, j, rd, h => by
    rw [safeG, Bool.and_eq_true, Bool.or_eq_true] at hh
    cases j with
    | zero =>
      simp at h; subst h
      exact hh.1.imp id fun h x h1 h2 => disj_spec h h1 h2
    | succ j =>
      have := safeG_spec hh.2 j rd (by simpa using h)
      rw [show i + (j + 1) = i + 1 + j by omega]; exact this

omit [Syms] in
theorem readsC_some {H : Heap} {F : List Nat} {nx : Nat} : ∀ (r : List Oper) (fr : Fr) (rs : List (List Nat)) (k : Fr → List (List Nat) → Prop), readsC S H F nx r fr rs k →
    ∃ (vals : Nat → AV) (rds : Nat → List Nat) (fs : Nat → Fr) (rs' : List (List Nat)), fs 0 = fr ∧ k (fs r.length) (rs ++ rs') ∧
      ∀ j o, r[j]? = some o → (isRead o.op = false → fs (j + 1) = fs j) ∧ (isRead o.op = true → fs (j + 1) = put (fs j) o.dst (vals j) ∧ (∃ e fz, aop (S.env false) ⟨fs j, H, F, nx⟩ 0 o.op = .ok (vals j) e (rds j) fz) ∧ rs'[j]? = some (rds j))
  | [], fr, rs, k, h0 => ⟨fun _ => und, fun _ => [], fun _ => fr, [], rfl, by rw [List.append_nil]; exact h0, fun j o ho => by simp at ho⟩
  | o :: r, fr, rs, k, h0 => by
    have h0 : @Bool.rec (fun _ => Prop) (readsC S H F nx r fr (rs ++ [[]]) k) (resK (fun v _ rd _ => readsC S H F nx r (putK o.dst fr v) (rs ++ [rd]) k) (aopK o.op (S.env false) ⟨fr, H, F, nx⟩ 0)) (isRead o.op) := h0
    cases hb : isRead o.op with
    | false =>
      rw [hb] at h0
      obtain ⟨vals, rds, fs, rs', h1, h2, h3⟩ := readsC_some r fr (rs ++ [[]]) k h0
      refine ⟨fun j => match j with | 0 => und | j + 1 => vals j, fun j => match j with | 0 => [] | j + 1 => rds j, fun j => match j with | 0 => fr | j + 1 => fs j, [] :: rs', rfl, by simpa [List.append_assoc] using h2, fun j o' ho' => ?_⟩
      cases j with
      | zero =>
        simp at ho'; subst ho'
        exact ⟨fun _ => h1, fun h => (by rw [hb] at h; cases h)⟩
      | succ j =>
        obtain ⟨g1, g2⟩ := h3 j o' (by simpa using ho')
        exact ⟨g1, fun h => by
          obtain ⟨k1, k2, k3⟩ := g2 h
          exact ⟨k1, k2, by simpa using k3⟩⟩
    | true =>
      rw [hb] at h0
      have h0 : resK (fun v _ rd _ => readsC S H F nx r (putK o.dst fr v) (rs ++ [rd]) k) (aopK o.op (S.env false) ⟨fr, H, F, nx⟩ 0) := h0
      rw [aopK_eq] at h0
      generalize hq : aop (S.env false) ⟨fr, H, F, nx⟩ 0 o.op = q at h0
      cases q with
      | no => exact (h0 : False).elim
      | all v H' F' nx' => exact (h0 : False).elim
      | ok v e' rd fz =>
        have h0 : readsC S H F nx r (putK o.dst fr v) (rs ++ [rd]) k := h0
        rw [putK_eq] at h0
        obtain ⟨vals, rds, fs, rs', h1, h2, h3⟩ := readsC_some r _ _ k h0
        refine ⟨fun j => match j with | 0 => v | j + 1 => vals j, fun j => match j with | 0 => rd | j + 1 => rds j, fun j => match j with | 0 => fr | j + 1 => fs j, rd :: rs', rfl, by simpa [List.append_assoc] using h2, fun j o' ho' => ?_⟩
        cases j with
        | zero =>
          simp at ho'; subst ho'
          exact ⟨fun h => (by rw [hb] at h; cases h), fun _ => ⟨h1, ⟨e', fz, hq⟩, rfl⟩⟩
        | succ j =>
          obtain ⟨g1, g2⟩ := h3 j o' (by simpa using ho')
          exact ⟨g1, fun h => by
            obtain ⟨k1, k2, k3⟩ := g2 h
            exact ⟨k1, k2, by simpa using k3⟩⟩

omit [Syms] in
theorem chainC_skip {bits : List Nat} {rs : List (List Nat)} {nx base : Nat} {fr : Fr} {H : Heap} {F : List Nat} {k : Fr → Heap → List Nat → Prop} (ops : List Oper) : ∀ (d p : Nat), p + d ≤ ops.length → (∀ j o, p ≤ j → j < p + d → ops[j]? = some o → isRead o.op = true) →
    chainC S bits rs nx base (ops.drop p) p fr H F k → chainC S bits rs nx base (ops.drop (p + d)) (p + d) fr H F k
  | 0, p, _, _, h => h
  | d + 1, p, hl, hr, h => by
    have hp : p < ops.length := by omega
    rw [List.drop_eq_getElem_cons hp] at h
    have h : @Bool.rec (fun _ => Prop) (stepH S ops[p].op fr H F nx (base + STRIDE * p) fun v e _ fz => must (safeG (bits.getD p 0) (e.map (·.1)) rs 0) (chainC S bits rs nx base (ops.drop (p + 1)) (Nat.succ p) (putK ops[p].dst fr v) (happ H e) (fz ++ F) k)) (chainC S bits rs nx base (ops.drop (p + 1)) (Nat.succ p) fr H F k) (isRead ops[p].op) := h
    rw [hr p _ (Nat.le_refl _) (by omega) (List.getElem?_eq_getElem hp)] at h
    have := chainC_skip ops d (p + 1) (by omega) (fun j o h1 h2 => hr j o (by omega) (by omega)) h
    rw [show p + (d + 1) = p + 1 + d by omega]; exact this

/-- What a slot holds, by the operations that were done. -/
def SlotsBy (ops : Array Oper) (N : Nat) (fr0 : Fr) (vals : Nat → AV) (done : Nat → Prop) (fr : Fr) : Prop :=
  ∀ t, (∀ j o, j < N → ops[j]? = some o → done j → o.dst = some t → fr.get t = vals j) ∧ ((∀ j o, j < N → ops[j]? = some o → done j → o.dst ≠ some t) → fr.get t = fr0.get t)

omit [Syms] in
theorem SlotsBy.put {ops : Array Oper} {N : Nat} {fr0 fr : Fr} {vals : Nat → AV} {done done' : Nat → Prop} (h : SlotsBy ops N fr0 vals done fr) {i : Nat} {o : Oper} {d : Nat} (hi : i < N) (ho : ops[i]? = some o) (hd : o.dst = some d) (hh : fr.has d = true)
    (hu : ∀ j o', j < N → ops[j]? = some o' → o'.dst = some d → j = i) (hdone : ∀ j, done' j ↔ (done j ∨ j = i)) : SlotsBy ops N fr0 vals done' (put fr o.dst (vals i)) := by
  intro t
  rw [hd]
  show (∀ j o, j < N → ops[j]? = some o → done' j → o.dst = some t → (fr.set d (vals i)).get t = vals j) ∧ _
  by_cases e : t = d
  · subst e
    refine ⟨fun j o' hj ho' _ hdj => ?_, fun hno => absurd hd (hno i o hi ho ((hdone i).2 (.inr rfl)))⟩
    rw [hu j o' hj ho' hdj, Fr.get_set _ _ _ _ hh, if_pos rfl]
  · obtain ⟨h1, h2⟩ := h t
    have hg : (fr.set d (vals i)).get t = fr.get t := Fr.get_set_ne _ _ _ _ e
    refine ⟨fun j o' hj ho' hdn hdj => ?_, fun hno => ?_⟩
    · rw [hg]
      rcases (hdone j).1 hdn with h3 | rfl
      · exact h1 j o' hj ho' h3 hdj
      · rw [ho] at ho'; cases ho'
        rw [hd] at hdj; cases hdj; exact absurd rfl e
    · show (fr.set d (vals i)).get t = _
      rw [hg]
      exact h2 fun j o' hj ho' hdn => hno j o' hj ho' ((hdone j).2 (.inl hdn))

omit [Syms] in
theorem SlotsBy.same {ops : Array Oper} {N : Nat} {fr0 fr fr' : Fr} {vals : Nat → AV} {done done' : Nat → Prop} (h : SlotsBy ops N fr0 vals done fr) (h' : SlotsBy ops N fr0 vals done' fr') {t : Nat}
    (hdone : ∀ j o, j < N → ops[j]? = some o → o.dst = some t → (done j ↔ done' j)) : fr.get t = fr'.get t := by
  by_cases hx : ∃ j o, j < N ∧ ops[j]? = some o ∧ o.dst = some t ∧ done j
  · obtain ⟨j, o, h1, h2, h3, h4⟩ := hx
    rw [(h t).1 j o h1 h2 h4 h3, (h' t).1 j o h1 h2 ((hdone j o h1 h2 h3).1 h4) h3]
  · rw [(h t).2 fun j o h1 h2 h4 h3 => hx ⟨j, o, h1, h2, h3, h4⟩, (h' t).2 fun j o h1 h2 h4 h3 => hx ⟨j, o, h1, h2, h3, (hdone j o h1 h2 h3).2 h4⟩]

/-- What the operations of a region leave in their slots. -/
def slotV (ops : Array Oper) (vals vc : Nat → AV) (j : Nat) : AV :=
  match ops[j]? with
  | some o => bif isRead o.op then vals j else vc j
  | none => und

omit [Syms] in
theorem SlotsBy.congr {ops : Array Oper} {N : Nat} {fr0 fr : Fr} {vals : Nat → AV} {done done' : Nat → Prop} (h : SlotsBy ops N fr0 vals done fr) (hd : ∀ j, j < N → (done j ↔ done' j)) : SlotsBy ops N fr0 vals done' fr := fun t => by
  obtain ⟨h1, h2⟩ := h t
  exact ⟨fun j o hj ho hl => h1 j o hj ho ((hd j hj).2 hl), fun hno => h2 fun j o hj ho hl => hno j o hj ho ((hd j hj).1 hl)⟩

omit [Syms] in
/-- The frames of the reads, in the text's order. -/
theorem sim_reads {n : Nat} {ops : Array Oper} (hk : chOps (chDsts ops.toList) ops.toList (befL ops.toList []) none 0 = true) (hds : ∀ (i : Nat) (o : Oper), ops[i]? = some o → dstOk n o) {fr0 : Fr} {vals : Nat → AV} {fs : Nat → Fr} (hf0 : fs 0 = fr0)
    (hfs : ∀ j o, ops[j]? = some o → (isRead o.op = false → fs (j + 1) = fs j) ∧ (isRead o.op = true → fs (j + 1) = put (fs j) o.dst (vals j))) (hh0 : ∀ k, k < n → fr0.has k = true) :
    ∀ (vc : Nat → AV) k, k ≤ ops.size → SlotsBy ops ops.size fr0 (slotV ops vals vc) (fun j => j < k ∧ ∃ o, ops[j]? = some o ∧ isRead o.op = true) (fs k) := by
  have tl : ∀ j o, ops[j]? = some o → ops.toList[j]? = some o := fun j o ho => by rw [Array.getElem?_toList]; exact ho
  have spec := fun j o ho => chOps_spec hk j o (tl j o ho)
  have uniq : ∀ (j j' : Nat) (o o' : Oper) (d : Tmp), ops[j]? = some o → ops[j']? = some o' → o.dst = some d → o'.dst = some d → j = j' := by
    intro j j' o o' d ho ho' hd hd'
    rcases Nat.lt_trichotomy j j' with hlt | he | hlt
    · exact absurd hd' ((spec j o ho).2.1 d hd j' o' hlt (tl j' o' ho'))
    · exact he
    · exact absurd hd ((spec j' o' ho').2.1 d hd' j o hlt (tl j o ho))
  have hfhas : ∀ k, k ≤ ops.size → ∀ t, (fs k).has t = fr0.has t := by
    intro k
    induction k with
    | zero => intro _ t; rw [hf0]
    | succ k ih =>
      intro hk' t
      have ho := Array.getElem?_eq_getElem (xs := ops) (show k < ops.size by omega)
      obtain ⟨k1, k2⟩ := hfs k _ ho
      cases e : isRead ops[k].op with
      | false => rw [k1 e]; exact ih (by omega) t
      | true => rw [k2 e, put_has_eq]; exact ih (by omega) t
  intro vc k
  induction k with
  | zero => intro _ t; rw [hf0]; exact ⟨fun j o _ _ hd => by omega, fun _ => rfl⟩
  | succ k ih =>
    intro hk'
    have ho := Array.getElem?_eq_getElem (xs := ops) (show k < ops.size by omega)
    obtain ⟨k1, k2⟩ := hfs k _ ho
    cases e : isRead ops[k].op with
    | false =>
      rw [k1 e]
      intro t
      obtain ⟨i1, i2⟩ := ih (by omega) t
      refine ⟨fun j o hj ho' ⟨hd1, o2, hd2, hd3⟩ => i1 j o hj ho' ⟨?_, o2, hd2, hd3⟩, fun hno => i2 fun j o hj ho' hd => hno j o hj ho' ⟨by omega, hd.2⟩⟩
      by_cases ejk : j = k
      · subst ejk; rw [ho] at hd2; cases hd2; rw [e] at hd3; cases hd3
      · omega
    | true =>
      have hv : slotV ops vals vc k = vals k := by unfold slotV; rw [ho]; simp only [e, cond_true]
      have hh := k2 e
      cases hd : ops[k].dst with
      | none =>
        rw [hh, hd]
        intro t
        obtain ⟨i1, i2⟩ := ih (by omega) t
        refine ⟨fun j o hj ho' ⟨hd1, o2, hd2, hd3⟩ hdt => ?_, fun hno => i2 fun j o hj ho' hd => hno j o hj ho' ⟨by omega, hd.2⟩⟩
        by_cases ejk : j = k
        · subst ejk; rw [ho] at ho'; cases ho'; rw [hd] at hdt; cases hdt
        · exact i1 j o hj ho' ⟨by omega, o2, hd2, hd3⟩ hdt
      | some d =>
        have := (ih (by omega)).put (show k < ops.size by omega) ho hd (by rw [hfhas k (by omega)]; exact hh0 d (hds k _ ho d hd)) (fun j o' hj ho' hdj => uniq j k o' _ d ho' ho hdj hd) (done' := fun j => j < k + 1 ∧ ∃ o, ops[j]? = some o ∧ isRead o.op = true) (fun j => by
          constructor
          · rintro ⟨g1, g2⟩
            by_cases ejk : j = k
            · exact .inr ejk
            · exact .inl ⟨by omega, g2⟩
          · rintro (⟨g1, g2⟩ | rfl)
            · exact ⟨by omega, g2⟩
            · exact ⟨by omega, _, ho, e⟩)
        rw [hv, ← hh] at this
        exact this

/-- Reads in each order, other operations between them, one behind the other. -/
theorem sim_chain (hT : TyOK P S.T) (hC : CallOK P (S.env false).call) (hH : HookOK P S) {n : Nat} {c : Ctx} {ops : Array Oper} {base nx : Nat} (hlow : edgesLow ops.toList 0 = true) (hslots : feetOk (ops.toList.map (slotsOf ops.toList)) (befL ops.toList []) 0 = true)
    (hds : ∀ (i : Nat) (o : Oper), ops[i]? = some o → dstOk n o) (hk : chOps (chDsts ops.toList) ops.toList (befL ops.toList []) none 0 = true) {H0 : Heap} {F0 : List Nat} {fr0 : Fr} (hnx : base + STRIDE * ops.size ≤ nx)
    {vals : Nat → AV} {rds : Nat → List Nat} {fs : Nat → Fr} {rs : List (List Nat)} (hf0 : fs 0 = fr0) (hfs : ∀ j o, ops[j]? = some o → (isRead o.op = false → fs (j + 1) = fs j) ∧ (isRead o.op = true → fs (j + 1) = put (fs j) o.dst (vals j) ∧ (∃ e fz, aop (S.env false) ⟨fs j, H0, F0, nx⟩ 0 o.op = .ok (vals j) e (rds j) fz) ∧ rs[j]? = some (rds j)))
    {K : Fr → Heap → List Nat → Prop} {Q : Exit → Act → World → Prop} {m0 : Map} {w0 : World} {d0 : List Deferred}
    (hQ : ∀ fr H F a' w' m', K fr H F → At n c m' ⟨fr, H, F, nx⟩ a' w' → a'.defers = d0 → Ext c m0 H0 F0 w0 m' H F w' → Q .normal a' w')
    (hh0 : ∀ k, k < n → fr0.has k = true) :
    ∀ (fuel : Nat) (listed : Array Bool) (m : Map) (w : World) (fr fc : Fr) (H : Heap) (F : List Nat) (vc : Nat → AV) (p : Nat) (a : Act), listed.size = ops.size → (List.range ops.size).countP (fun i => !listed.getD i false) ≤ fuel → (∀ j, listedIn listed j → j < ops.size) → (∀ i, i < ops.size → listedIn listed i → ∀ j, bf ops i j → listedIn listed j) →
      p ≤ ops.size → (∀ j o, ops[j]? = some o → isRead o.op = false → (listedIn listed j ↔ j < p)) → (∀ k, fc.has k = fr0.has k) →
      SlotsBy ops ops.size fr0 (slotV ops vals vc) (listedIn listed) fr → SlotsBy ops ops.size fr0 (slotV ops vals vc) (fun j => ∃ o, ops[j]? = some o ∧ (isRead o.op = true ∨ j < p)) fc →
      (∀ j o, ops[j]? = some o → isRead o.op = true → ¬ listedIn listed j → ∀ b ∈ rds j, hget H b = hget H0 b) → chainC S (befL ops.toList []) rs nx base (ops.toList.drop p) p fc H F K →
      At n c m ⟨fr, H, F, nx⟩ a w → a.defers = d0 → (∀ i, i < ops.size → ¬ listedIn listed i → ∀ b, base + STRIDE * i ≤ b → b < base + STRIDE * i + STRIDE → m b = none) → Ext c m0 H0 F0 w0 m H F w → wpAny P .any ops Q fuel listed a w := by
  have tl : ∀ j o, ops[j]? = some o → ops.toList[j]? = some o := fun j o ho => by rw [Array.getElem?_toList]; exact ho
  have spec := fun j o ho => chOps_spec hk j o (tl j o ho)
  have szOf : ∀ {j o}, ops[j]? = some o → j < ops.size := fun ho => (Array.getElem?_eq_some_iff.1 ho).1
  have uniq : ∀ (j j' : Nat) (o o' : Oper) (d : Tmp), ops[j]? = some o → ops[j']? = some o' → o.dst = some d → o'.dst = some d → j = j' := by
    intro j j' o o' d ho ho' hd hd'
    rcases Nat.lt_trichotomy j j' with hlt | he | hlt
    · exact absurd hd' ((spec j o ho).2.1 d hd j' o' hlt (tl j' o' ho'))
    · exact he
    · exact absurd hd ((spec j' o' ho').2.1 d hd' j o hlt (tl j o ho))
  have slotFoot : ∀ {p q : Nat} {op oq : Oper}, p < q → ops[p]? = some op → ops[q]? = some oq → bf ops q p ∨ footOk (slotsOf ops.toList op) (slotsOf ops.toList oq) = true := by
    intro p q op oq hpq hp hq
    have := feetOk_spec hslots p q (slotsOf ops.toList op) (slotsOf ops.toList oq) hpq (by simp [hp]) (by simp [hq])
    rw [Nat.zero_add, Bool.or_eq_true] at this
    exact this
  -- what is no read is behind all that is none, ahead of it
  have chain : ∀ i o, ops[i]? = some o → isRead o.op = false → ∀ (A : Nat → Prop), (∀ q, q < ops.size → A q → ∀ j, bf ops q j → A j) → (∀ j, bf ops i j → A j) → ∀ d j o', j + d + 1 = i → ops[j]? = some o' → isRead o'.op = false → A j := by
    intro i o ho hr A hA hb d
    induction d using Nat.strongRecOn with
    | _ d ihd =>
      intro j o' hj ho' hr'
      by_cases hbet : ∃ q o'', j < q ∧ q < i ∧ ops[q]? = some o'' ∧ isRead o''.op = false
      · -- the next one behind j
        obtain ⟨q, o'', h1, h2, h3, h4, h5⟩ : ∃ q o'', j < q ∧ q < i ∧ ops[q]? = some o'' ∧ isRead o''.op = false ∧ ∀ p o3, j < p → p < q → ops[p]? = some o3 → isRead o3.op = true := by
          have key : ∀ k, (∃ q o'', j < q ∧ q ≤ j + k ∧ q < i ∧ ops[q]? = some o'' ∧ isRead o''.op = false) → ∃ q o'', j < q ∧ q < i ∧ ops[q]? = some o'' ∧ isRead o''.op = false ∧ ∀ p o3, j < p → p < q → ops[p]? = some o3 → isRead o3.op = true := by
            intro k
            induction k with
            | zero => rintro ⟨q, o'', g1, g2, _⟩; omega
            | succ k ihk =>
              rintro ⟨q, o'', g1, g2, g3, g4, g5⟩
              by_cases hlow : ∃ q o'', j < q ∧ q ≤ j + k ∧ q < i ∧ ops[q]? = some o'' ∧ isRead o''.op = false
              · exact ihk hlow
              · refine ⟨q, o'', g1, g3, g4, g5, fun p o3 p1 p2 p3 => ?_⟩
                cases hp : isRead o3.op with
                | true => rfl
                | false => exact absurd ⟨p, o3, p1, by omega, by omega, p3, hp⟩ hlow
          obtain ⟨q, o'', g1, g2, g3, g4⟩ := hbet
          exact key (q - j) ⟨q, o'', g1, by omega, g2, g3, g4⟩
        have hbit := ((spec q o'' h3).2.2.2 h4).2.1 j o' h1 (tl j o' ho') hr' fun p o3 p1 p2 p3 => h5 p o3 p1 p2 (by rw [← Array.getElem?_toList]; exact p3)
        rw [Nat.zero_add] at hbit
        exact hA q (szOf h3) (ihd (i - q - 1) (by omega) q o'' (by omega) h3 h4) j hbit
      · have hbit := ((spec i o ho).2.2.2 hr).2.1 j o' (by omega) (tl j o' ho') hr' fun p o3 p1 p2 p3 => by
          cases hp : isRead o3.op with
          | true => rfl
          | false => exact absurd ⟨p, o3, p1, p2, by rw [← Array.getElem?_toList]; exact p3, hp⟩ hbet
        rw [Nat.zero_add] at hbit
        exact hb j hbit
  -- the frames of the reads, in the text's order
  have hfhas : ∀ k, k ≤ ops.size → ∀ t, (fs k).has t = fr0.has t := by
    intro k
    induction k with
    | zero => intro _ t; rw [hf0]
    | succ k ih =>
      intro hk' t
      have ho := Array.getElem?_eq_getElem (xs := ops) (show k < ops.size by omega)
      obtain ⟨k1, k2⟩ := hfs k _ ho
      cases e : isRead ops[k].op with
      | false => rw [k1 e]; exact ih (by omega) t
      | true => rw [(k2 e).1, put_has_eq]; exact ih (by omega) t
  have hfsBy := fun vc k (hk' : k ≤ ops.size) => sim_reads (ops := ops) (vals := vals) hk hds hf0 (fun j o ho => ⟨(hfs j o ho).1, fun h => ((hfs j o ho).2 h).1⟩) hh0 vc k hk'
  intro fuel
  have final : ∀ (listed : Array Bool) (m : Map) (w : World) (fr fc : Fr) (H : Heap) (F : List Nat) (vc : Nat → AV) (p : Nat) (a : Act), (∀ j, j < ops.size → listedIn listed j) → p ≤ ops.size → (∀ j o, ops[j]? = some o → isRead o.op = false → (listedIn listed j ↔ j < p)) → (∀ k, fc.has k = fr0.has k) →
      SlotsBy ops ops.size fr0 (slotV ops vals vc) (listedIn listed) fr → SlotsBy ops ops.size fr0 (slotV ops vals vc) (fun j => ∃ o, ops[j]? = some o ∧ (isRead o.op = true ∨ j < p)) fc →
      chainC S (befL ops.toList []) rs nx base (ops.toList.drop p) p fc H F K → At n c m ⟨fr, H, F, nx⟩ a w → a.defers = d0 → Ext c m0 H0 F0 w0 m H F w → Q .normal a w := by
    intro listed m w fr fc H F vc p a hall hp hch hfc hby hbyc hK ha hd hx
    have hr : ∀ j o, ops[j]? = some o → isRead o.op = true ∨ j < p := fun j o ho => by
      cases h : isRead o.op with
      | true => exact .inl rfl
      | false => exact .inr ((hch j o ho h).1 (hall j (szOf ho)))
    have hend := chainC_skip ops.toList (ops.size - p) p (by simp; omega) (fun j o h1 h2 ho => (hr j o (by rw [← Array.getElem?_toList]; exact ho)).resolve_right (by omega)) hK
    rw [show p + (ops.size - p) = ops.size by omega, ← Array.length_toList, List.drop_length] at hend
    have hend : K fc H F := hend
    have hpw : ∀ t, fr.get t = fc.get t := fun t => hby.same hbyc fun j o hj ho _ => ⟨fun _ => ⟨o, ho, hr j o ho⟩, fun _ => hall j hj⟩
    exact hQ fc H F a w m hend ⟨ha.sr, fun t => by
      show VR _ _ _ (fc.get t) _
      rw [← hpw t]; exact ha.fr t, fun k hk => by
      show fc.has k = true
      rw [hfc]; exact hh0 k hk, ha.sz, ha.nx⟩ hd hx
  have noReady : ∀ (listed : Array Bool), listed.size = ops.size → (∀ j, j < ops.size → listedIn listed j) → Region.ready .any ops listed = [] := fun listed hsz hall => by
    cases hr : Region.ready .any ops listed with
    | nil => rfl
    | cons q r =>
      exfalso
      have hm : q ∈ Region.ready .any ops listed := by rw [hr]; simp
      obtain ⟨h0, o, ho, _⟩ := mem_ready.1 hm
      have hq := szOf ho
      have := hall q hq
      unfold listedIn at this
      simp [hsz, hq] at h0 this
      rw [h0] at this; cases this
  induction fuel with
  | zero =>
    intro listed m w fr fc H F vc p a hsz hcnt hsub hcl hp hch hfc hby hbyc hrd hK ha hd hfree hx
    have hall : ∀ j, j < ops.size → listedIn listed j := by
      intro j hj
      have h0 : (List.range ops.size).countP (fun i => !listed.getD i false) = 0 := by omega
      have := List.countP_eq_zero.1 h0 j (List.mem_range.2 hj)
      unfold listedIn
      cases h : listed.getD j false with
      | true => rfl
      | false => rw [h] at this; simp at this
    exact ⟨noReady listed hsz hall, final listed m w fr fc H F vc p a hall hp hch hfc hby hbyc hK ha hd hx⟩
  | succ fuel ih =>
    intro listed m w fr fc H F vc p a hsz hcnt hsub hcl hp hch hfc hby hbyc hrd hK ha hd hfree hx
    refine ⟨fun hr => final listed m w fr fc H F vc p a (fun j hj => ready_all hlow hsz hr j hj) hp hch hfc hby hbyc hK ha hd hx, fun i hi => ?_⟩
    obtain ⟨h0, o, ho, hedge⟩ := mem_ready.1 hi
    have hilt := szOf ho
    have hnot : ¬ listedIn listed i := by
      unfold listedIn
      simp [hsz, hilt] at h0 ⊢
      exact h0
    have hbefore : ∀ j, bf ops i j → listedIn listed j := by
      intro j hj
      obtain ⟨e, k1, k2, k3, k4⟩ := (befL_spec ops.toList []).2 i j o (by rw [Array.getElem?_toList]; exact ho) (by simpa [bf] using hj)
      have hon : listedIn listed e.on := hedge e (by simpa using k1) k2
      rcases k4 with k4 | k4
      · rw [← k4]; exact hon
      · exact hcl e.on (by simp at k3; omega) hon j k4
    have hset : ∀ j, listedIn (listed.setIfInBounds i true) j ↔ (listedIn listed j ∨ j = i) := by
      intro j
      unfold listedIn
      by_cases hji : j = i
      · subst hji; simp [hsz, hilt]
      · rw [getD_set_ne false (Ne.symm hji)]
        exact ⟨.inl, fun h => h.resolve_right hji⟩
    have hsub' : ∀ j, listedIn (listed.setIfInBounds i true) j → j < ops.size := fun j hj => by
      rcases (hset j).1 hj with h | rfl
      · exact hsub j h
      · exact hilt
    have hcl' : ∀ q, q < ops.size → listedIn (listed.setIfInBounds i true) q → ∀ j, bf ops q j → listedIn (listed.setIfInBounds i true) j := fun q hq hl j hj => by
      rcases (hset q).1 hl with h1 | rfl
      · exact (hset j).2 (.inl (hcl q hq h1 j hj))
      · exact (hset j).2 (.inl (hbefore j hj))
    have hmul : STRIDE * i + STRIDE ≤ STRIDE * ops.size := by
      rw [← Nat.mul_succ]; exact Nat.mul_le_mul_left _ hilt
    have hlenx : base + STRIDE * i + STRIDE ≤ nx := by omega
    have hless := countP_less (p := fun j => !listed.getD j false) (q := fun j => !(listed.setIfInBounds i true).getD j false) (i := i) (List.range ops.size) (List.mem_range.2 hilt)
        (by unfold listedIn at hnot; simpa using hnot) (by have := (hset i).2 (.inr rfl); unfold listedIn at this; rw [this]; rfl) (fun j hj => by
          cases hl : listed.getD j false with
          | false => rfl
          | true =>
            have := (hset j).2 (.inl hl)
            unfold listedIn at this
            rw [this] at hj; exact hj)
    obtain ⟨hg, _, hrdT, hchT⟩ := spec i o ho
    have hopd : ∀ (fr' : Fr), (∀ t, t ∈ tmpsOf o.op.operands.toList → fr.get t = fr'.get t) → ∀ x ∈ o.op.operands, opnd fr x = opnd fr' x := by
      intro fr' hs x hx
      cases x with
      | tmp t => exact hs t (mem_tmpsOf (by simpa using hx))
      | _ => rfl
    -- where another operation writes a slot that this one looks at, their order is known
    have ord : ∀ t, t ∈ tmpsOf o.op.operands.toList → ∀ j oj, ops[j]? = some oj → oj.dst = some t → (j < i ∧ bf ops i j) ∨ j = i ∨ (i < j ∧ bf ops j i) := by
      intro t ht j oj hoj hdj
      have htr : t ∈ (slotsOf ops.toList o).rd := List.mem_append.2 (.inl ht)
      rcases Nat.lt_trichotomy j i with hji | rfl | hji
      · rcases slotFoot hji hoj ho with h1 | h1
        · exact .inl ⟨hji, h1⟩
        · exact absurd htr ((footOk_spec h1).1 t (by simp [slotsOf, hdj, optL]))
      · exact .inr (.inl rfl)
      · rcases slotFoot hji ho hoj with h1 | h1
        · exact .inr (.inr ⟨hji, h1⟩)
        · exact absurd htr ((footOk_spec h1).2.2 t (by simp [slotsOf, hdj, optL]))
    have hfree' : ∀ {m1 : Map}, (∀ b, m1 b ≠ none → m b ≠ none ∨ (base + STRIDE * i ≤ b ∧ b < base + STRIDE * i + STRIDE)) → ∀ q, q < ops.size → ¬ listedIn (listed.setIfInBounds i true) q → ∀ b, base + STRIDE * q ≤ b → b < base + STRIDE * q + STRIDE → m1 b = none := by
      intro m1 hdom q hq hnq b hb1 hb2
      cases hm : m1 b with
      | none => rfl
      | some L =>
        exfalso
        have hqi : q ≠ i := fun e => hnq ((hset q).2 (.inr e))
        have hnq' : ¬ listedIn listed q := fun h => hnq ((hset q).2 (.inl h))
        rcases hdom b (by rw [hm]; simp) with h1 | ⟨h1, h2⟩
        · exact h1 (hfree q hq hnq' b hb1 hb2)
        · unfold STRIDE at *; omega
    -- a slot of its own, written
    have putBy : ∀ {vc' : Nat → AV} {fr1 : Fr} {v : AV} {done done' : Nat → Prop}, (∀ k, k < n → fr1.has k = true) → SlotsBy ops ops.size fr0 (slotV ops vals vc') done fr1 → slotV ops vals vc' i = v → (∀ j, done' j ↔ (done j ∨ j = i)) → SlotsBy ops ops.size fr0 (slotV ops vals vc') done' (put fr1 o.dst v) := by
      intro vc' fr1 v done done' hhas hb1 hv hdn
      cases hdo : o.dst with
      | none =>
        intro t
        obtain ⟨i1, i2⟩ := hb1 t
        refine ⟨fun j o' hj ho' hl hdt => ?_, fun hno => i2 fun j o' hj ho' hl => hno j o' hj ho' ((hdn j).2 (.inl hl))⟩
        rcases (hdn j).1 hl with hl | rfl
        · exact i1 j o' hj ho' hl hdt
        · rw [ho] at ho'; cases ho'; rw [hdo] at hdt; cases hdt
      | some d =>
        have := hb1.put hilt ho hdo (hhas d (hds i o ho d hdo)) (fun j o' hj ho' hdj => uniq j i o' _ d ho' ho hdj hdo) hdn
        rw [hv, hdo] at this
        exact this
    cases hread : isRead o.op with
    | true =>
      -- a read
      obtain ⟨k1, ⟨e0, fz0, k2⟩, k3⟩ := (hfs i o ho).2 hread
      have hopi := hopd (fs i) fun t ht => hby.same (hfsBy vc i (by omega)) fun j oj hj hoj hdj => by
        have hrj : isRead oj.op = true := by
          cases h : isRead oj.op with
          | true => rfl
          | false => exact absurd (chDsts_mem (List.mem_of_getElem? (tl j oj hoj)) h hdj) (hrdT hread t ht)
        rcases ord t ht j oj hoj hdj with ⟨h1, h2⟩ | rfl | ⟨h1, h2⟩
        · exact ⟨fun _ => ⟨h1, oj, hoj, hrj⟩, fun _ => hbefore j h2⟩
        · exact ⟨fun h => absurd h hnot, fun h => absurd h.1 (Nat.lt_irrefl _)⟩
        · exact ⟨fun h => absurd (hcl j hj h i h2) hnot, fun h => absurd h.1 (by omega)⟩
      obtain ⟨rfl, rfl, k4⟩ := read_foot (s' := ⟨fr, H, F, nx⟩) (id' := base + STRIDE * i) hread k2 hopi (fun b hb => hrd i o ho hread hnot b hb)
      have hstep : stepOp (S.env false) ops.toList (base + STRIDE * i) o ⟨fr, H, F, nx⟩ = .at ⟨put fr o.dst (vals i), H, F, nx⟩ := by
        unfold stepOp
        rw [hg]
        simp only [awanted, k4, behind, happ, List.nil_append]
      refine sim_step hT rfl hC ha (hfree i hilt hnot) hlenx ho (hds i o ho) hstep fun cv m1 w1 ha1 hmv1 hdom => ?_
      have hv : slotV ops vals vc i = vals i := by unfold slotV; rw [ho]; simp only [hread, cond_true]
      refine ih _ m1 w1 _ fc H F vc p _ (by simpa using hsz) (by omega) hsub' hcl' hp (fun j oj hoj hr => ?_) hfc (putBy ha.has hby hv hset) hbyc (fun j oj hoj hr hl => hrd j oj hoj hr fun h => hl ((hset j).2 (.inl h))) hK ha1 (by rw [put_defers]; exact hd)
        (hfree' fun b hb => (hdom b hb).imp id fun h1 => h1.resolve_right (fun h2 => by simp at h2; omega)) (hx.trans hmv1.ext)
      rw [hset j, ← hch j oj hoj hr]
      exact ⟨fun h => h.resolve_right fun e => (by subst e; rw [ho] at hoj; cases hoj; rw [hread] at hr; cases hr), .inl⟩
    | false =>
      -- the next one that is no read
      have hpi : p ≤ i := by
        by_cases h : i < p
        · exact absurd ((hch i o ho hread).2 h) hnot
        · omega
      have hbet : ∀ j oj, p ≤ j → j < i → ops[j]? = some oj → isRead oj.op = true := by
        intro j oj h1 h2 hoj
        cases h : isRead oj.op with
        | true => rfl
        | false =>
          have := chain i o ho hread (listedIn listed) (fun q hq hl j hj => hcl q hq hl j hj) hbefore (i - j - 1) j oj (by omega) hoj h
          exact absurd ((hch j oj hoj h).1 this) (by omega)
      have hK1 := chainC_skip ops.toList (i - p) p (by simp; omega) (fun j oj h1 h2 hoj => hbet j oj h1 (by omega) (by rw [← Array.getElem?_toList]; exact hoj)) hK
      rw [show p + (i - p) = i by omega, List.drop_eq_getElem_cons (show i < ops.toList.length by simpa using hilt)] at hK1
      have hgo : ops.toList[i]'(by simpa using hilt) = o := by
        have := tl i o ho
        rw [List.getElem?_eq_getElem (by simpa using hilt)] at this
        exact Option.some.inj this
      rw [hgo] at hK1
      have hK2 : @Bool.rec (fun _ => Prop) (stepH S o.op fc H F nx (base + STRIDE * i) fun v e _ fz => must (safeG ((befL ops.toList []).getD i 0) (e.map (·.1)) rs 0) (chainC S (befL ops.toList []) rs nx base (ops.toList.drop (i + 1)) (Nat.succ i) (putK o.dst fc v) (happ H e) (fz ++ F) K)) (chainC S (befL ops.toList []) rs nx base (ops.toList.drop (i + 1)) (Nat.succ i) fc H F K) (isRead o.op) := hK1
      rw [hread] at hK2
      have hK2 : stepH S o.op fc H F nx (base + STRIDE * i) fun v e _ fz => must (safeG ((befL ops.toList []).getD i 0) (e.map (·.1)) rs 0) (chainC S (befL ops.toList []) rs nx base (ops.toList.drop (i + 1)) (Nat.succ i) (putK o.dst fc v) (happ H e) (fz ++ F) K) := hK2
      simp only [putK_eq] at hK2
      have hopi := hopd fc fun t ht => hby.same hbyc fun j oj hj hoj hdj => by
        rcases ord t ht j oj hoj hdj with ⟨h1, h2⟩ | rfl | ⟨h1, h2⟩
        · have hl := hbefore j h2
          refine ⟨fun _ => ⟨oj, hoj, ?_⟩, fun _ => hl⟩
          cases h : isRead oj.op with
          | true => exact .inl rfl
          | false => exact .inr ((hch j oj hoj h).1 hl)
        · refine ⟨fun h => absurd h hnot, fun ⟨o', ho', h⟩ => ?_⟩
          rw [ho] at ho'; cases ho'
          rcases h with h | h
          · rw [hread] at h; cases h
          · omega
        · exact absurd hdj ((hchT hread).1 t ht j oj h1 (tl j oj hoj))
      -- behind it
      have next : ∀ (v : AV) (e : Eff) (fz : List Nat) (cv : Value) (m1 : Map) (w1 : World), must (safeG ((befL ops.toList []).getD i 0) (e.map (·.1)) rs 0) (chainC S (befL ops.toList []) rs nx base (ops.toList.drop (i + 1)) (Nat.succ i) (put fc o.dst v) (happ H e) (fz ++ F) K) →
          At n c m1 ⟨put fr o.dst v, happ H e, fz ++ F, nx⟩ (a.put o.dst cv) w1 → Ext c m H F w m1 (happ H e) (fz ++ F) w1 → (∀ b, m1 b ≠ none → m b ≠ none ∨ (base + STRIDE * i ≤ b ∧ b < base + STRIDE * i + STRIDE)) → wpAny P .any ops Q fuel (listed.setIfInBounds i true) (a.put o.dst cv) w1 := by
        intro v e fz cv m1 w1 hk1 ha1 hx1 hdom
        obtain ⟨hs1, hs2⟩ := must_and hk1
        have hsame : ∀ j, j ≠ i → slotV ops vals (fun q => if q = i then v else vc q) j = slotV ops vals vc j := fun j hj => by
          unfold slotV
          cases ops[j]? with
          | none => rfl
          | some oj => simp [hj]
        have hvi : slotV ops vals (fun q => if q = i then v else vc q) i = v := by unfold slotV; rw [ho]; simp [hread]
        have hby0 : SlotsBy ops ops.size fr0 (slotV ops vals (fun q => if q = i then v else vc q)) (listedIn listed) fr := fun t => by
          obtain ⟨i1, i2⟩ := hby t
          exact ⟨fun j oj hj hoj hl hdt => by rw [hsame j (fun e => hnot (by rw [← e]; exact hl))]; exact i1 j oj hj hoj hl hdt, i2⟩
        have hbyc0 : SlotsBy ops ops.size fr0 (slotV ops vals (fun q => if q = i then v else vc q)) (fun j => ∃ o, ops[j]? = some o ∧ (isRead o.op = true ∨ j < p)) fc := fun t => by
          obtain ⟨i1, i2⟩ := hbyc t
          refine ⟨fun j oj hj hoj hl hdt => ?_, i2⟩
          rw [hsame j fun e => ?_]
          · exact i1 j oj hj hoj hl hdt
          · subst e
            obtain ⟨o', ho', h⟩ := hl
            rw [ho] at ho'; cases ho'
            rcases h with h | h
            · rw [hread] at h; cases h
            · omega
        refine ih _ m1 w1 _ (put fc o.dst v) (happ H e) (fz ++ F) (fun q => if q = i then v else vc q) (i + 1) _ (by simpa using hsz) (by omega) hsub' hcl' hilt (fun j oj hoj hr => ?_) (fun k => by rw [put_has_eq, hfc])
          (putBy ha.has hby0 hvi hset) (putBy (fun k hk => by rw [hfc]; exact hh0 k hk) hbyc0 hvi fun j => ?_) (fun j oj hoj hr hl b hb => ?_) hs2 ha1 (by rw [put_defers]; exact hd) (hfree' hdom) (hx.trans hx1)
        · rw [hset j, hch j oj hoj hr]
          constructor
          · rintro (h | rfl)
            · omega
            · omega
          · intro h
            by_cases e : j = i
            · exact .inr e
            · left
              by_cases hjp : j < p
              · exact hjp
              · have := hbet j oj (by omega) (by omega) hoj
                rw [hr] at this; cases this
        · constructor
          · rintro ⟨oj, hoj, h⟩
            by_cases e : j = i
            · exact .inr e
            · left
              refine ⟨oj, hoj, ?_⟩
              cases hr : isRead oj.op with
              | true => exact .inl rfl
              | false =>
                right
                rcases h with h | h
                · rw [hr] at h; cases h
                · by_cases hjp : j < p
                  · exact hjp
                  · have := hbet j oj (by omega) (by omega) hoj
                    rw [hr] at this; cases this
          · rintro (⟨oj, hoj, h⟩ | rfl)
            · exact ⟨oj, hoj, h.imp id fun h => by omega⟩
            · exact ⟨o, ho, .inr (by omega)⟩
        · have hlj : ¬ listedIn listed j := fun h => hl ((hset j).2 (.inl h))
          have hsp := safeG_spec hs1 j (rds j) (((hfs j oj hoj).2 hr).2.2)
          rw [Nat.zero_add] at hsp
          rcases hsp with h | h
          · exact absurd (hbefore j h) hlj
          · rw [happ_ne e H b (h b hb)]
            exact hrd j oj hoj hr hlj b hb
      -- a call, or one of the machine's own
      unfold stepH at hK2
      split at hK2
      · rename_i f args ts hop
        rw [opndK_eq, opndsK_eq] at hK2
        unfold hookH at hK2
        split at hK2
        case h_2 => exact hK2.elim
        rename_i g caps hfv
        split at hK2
        case h_2 => exact hK2.elim
        rename_i hkf hhook
        have e1 : opnd fr f = opnd fc f := hopi f (by rw [hop]; simp [Op.operands, Call.operands])
        have e2 : opnds fr args.toList = opnds fc args.toList := opnds_congr fun x hx' => hopi x (by rw [hop]; simp only [Op.operands, Call.operands]; simp; exact .inr (by simpa using hx'))
        refine hook_step (s := ⟨fr, H, F, nx⟩) ha (hfree i hilt hnot) hlenx ho (hds i _ ho) (by rw [hg]; rfl) hop (e1.trans hfv)
          (fun cargs hcr hsz' => hH g hkf hhook _ _ _ _ _ (by rw [← e2] at hK2; exact hK2) c m w cargs ha.sr hcr hsz' (hfree i hilt hnot)) fun v e rd fz cv m1 w1 hk1 ha1 hx1 hdom => ?_
        exact next v e fz cv m1 w1 hk1 ha1 hx1 hdom
      · rw [aopK_eq] at hK2
        generalize hq : aop (S.env false) ⟨fc, H, F, nx⟩ (base + STRIDE * i) o.op = q at hK2
        cases q with
        | no => exact (hK2 : False).elim
        | all v H' F' nx' => exact (hK2 : False).elim
        | ok v e rd fz =>
          have hq' := aop_foot (s' := ⟨fr, H, F, nx⟩) hq hopi (fun _ => rfl) (fun _ _ => rfl)
          have hstep : stepOp (S.env false) ops.toList (base + STRIDE * i) o ⟨fr, H, F, nx⟩ = .at ⟨put fr o.dst v, happ H e, fz ++ F, nx⟩ := by
            unfold stepOp
            rw [hg]
            simp only [awanted, hq', behind]
          exact sim_step hT rfl hC ha (hfree i hilt hnot) hlenx ho (hds i o ho) hstep fun cv m1 w1 ha1 hmv1 hdom => next v e fz cv m1 w1 hK2 ha1 hmv1.ext fun b hb => (hdom b hb).imp id fun h1 => h1.resolve_right (fun h2 => by simp at h2; omega)

theorem regH_wp (hT : TyOK P S.T) (hC : ConOK P S) (hmx : P.follows .mixedOrders = true) {n id : Nat} {ops : Array Oper} (hd : dstsOk n ops.toList = true) (hok : drawOk ops.toList = true) {s : St} {k : St → Prop}
    {c : Ctx} {wE : World} {m : Map} {a : Act} {w : World} {Q : Exit → Act → World → Prop} (hg : Good n c wE m s a w) (hdf : a.defers = []) (hr : regH S ops.toList s k)
    (hQ : ∀ s' m' a' w', k s' → Good n c wE m' s' a' w' → a'.defers = [] → Ext c m s.H s.F w m' s'.H s'.F w' → Q .normal a' w') : (Code.region id ops true).wp P Q a w := by
  unfold regH at hr
  obtain ⟨hk, h2⟩ := must_and hr
  obtain ⟨vals, rds, fs, rs', f0, f1, f2⟩ := readsC_some _ _ _ _ h2
  rw [List.nil_append] at f1
  unfold drawOk at hok
  rw [Bool.and_eq_true] at hok
  obtain ⟨hx1, hsr1⟩ := hg.here.sr.still (w' := { w with drawn := w.drawn + 1 }) ⟨rfl, rfl, rfl⟩ rfl
  have hnl : ∀ j, ¬ listedIn (Array.replicate ops.size false) j := fun j hj => by
    unfold listedIn at hj
    by_cases h : j < ops.size <;> simp [h] at hj
  have enx : (withF s s.F ops.toList.length).nx = s.nx + STRIDE * ops.size := by simp [withF]
  rw [enx] at f1 f2
  have hfs : ∀ j o, ops[j]? = some o → (isRead o.op = false → fs (j + 1) = fs j) ∧ (isRead o.op = true → fs (j + 1) = put (fs j) o.dst (vals j) ∧ (∃ e fz, aop (S.env false) ⟨fs j, s.H, s.F, s.nx + STRIDE * ops.size⟩ 0 o.op = .ok (vals j) e (rds j) fz) ∧ rs'[j]? = some (rds j)) :=
    fun j o ho => f2 j o (by rw [Array.getElem?_toList]; exact ho)
  have hfhas : ∀ k, k ≤ ops.size → ∀ t, (fs k).has t = s.fr.has t := by
    intro k
    induction k with
    | zero => intro _ t; rw [f0]
    | succ k ih =>
      intro hk' t
      have ho := Array.getElem?_eq_getElem (xs := ops) (show k < ops.size by omega)
      obtain ⟨k1, k2⟩ := hfs k _ ho
      cases e : isRead ops[k].op with
      | false => rw [k1 e]; exact ih (by omega) t
      | true => rw [(k2 e).1, put_has_eq]; exact ih (by omega) t
  refine wp_region_any hmx (sim_chain (P := P) (S := S) (n := n) (c := c) (base := s.nx) (nx := s.nx + STRIDE * ops.size) (H0 := s.H) (F0 := s.F) (fr0 := s.fr) (vals := vals) (rds := rds) (fs := fs) (rs := rs')
    (K := fun fr H F => k ⟨fr, H, F, s.nx + STRIDE * ops.size⟩) (m0 := m) (w0 := { w with drawn := w.drawn + 1 }) (d0 := []) hT (conCall_ok false hC) hC.hook hok.1 hok.2 (dsts_of hd) hk (Nat.le_refl _) f0 hfs ?_ hg.here.has ops.size _ m _ s.fr (fs ops.size) s.H s.F (fun _ => und) 0 a (by simp) ?_ (fun j hj => absurd hj (hnl j)) (fun i _ hi => absurd hi (hnl i))
    (Nat.zero_le _) (fun j o _ _ => ⟨fun h => absurd h (hnl j), fun h => absurd h (Nat.not_lt_zero _)⟩) (hfhas ops.size (Nat.le_refl _)) (fun t => ⟨fun j o _ _ hl => absurd hl (hnl j), fun _ => rfl⟩) ?_ (fun _ _ _ _ _ _ _ => rfl) ?_ ?_ hdf (fun i _ _ b hb _ => hg.here.nx b (by omega)) (Ext.refl _ _ _ _ _))
  · intro fr H F a' w' m' hK ha' hd' hx'
    exact hQ _ m' a' w' hK (hg.moves ha' (hx1.trans hx')) hd' (hx1.trans hx')
  · have := List.countP_le_length (p := fun i => !(Array.replicate ops.size false).getD i false) (l := List.range ops.size)
    simpa using this
  · exact (sim_reads hk (dsts_of hd) f0 (fun j o ho => ⟨(hfs j o ho).1, fun h => ((hfs j o ho).2 h).1⟩) hg.here.has (fun _ => und) ops.size (Nat.le_refl _)).congr fun j hj => ⟨fun ⟨_, o, h1, h2⟩ => ⟨o, h1, .inl h2⟩, fun ⟨o, h1, h2⟩ => ⟨hj, o, h1, h2.resolve_right (Nat.not_lt_zero _)⟩⟩
  · rw [List.drop_zero, ← Array.length_toList]
    rw [← Array.length_toList, enx] at *
    exact f1
  · exact ⟨hsr1, fun t => hx1.vr (hg.here.fr t), hg.here.has, hg.here.sz, fun b hb => hg.here.nx b (Nat.le_trans (Nat.le_add_right _ _) hb)⟩

theorem regC_semX (hT : TyOK P S.T) (hC : ConOK P S) (hmx : P.follows .mixedOrders = true) {n id : Nat} {ops : Array Oper} {draw : Bool} (hd : dstsOk n ops.toList = true) (hdr : drawsOk (.region id ops draw) = true) {s : St} {k : St → Prop} (h : regC S ops.toList draw s k) :
    ∀ (c : Ctx) (wE : World) (m : Map) (a : Act) (w : World) (Q : Exit → Act → World → Prop), Good n c wE m s a w → a.defers = [] →
      (∀ s' m' a' w', k s' → Good n c wE m' s' a' w' → a'.defers = [] → Ext c m s.H s.F w m' s'.H s'.F w' → Q .normal a' w') → (Code.region id ops draw).wp P Q a w := by
  intro c wE m a w Q hg hdf hQ
  cases draw with
  | false =>
    have h : opsC S ops.toList ops.toList s.nx (withF s s.F ops.toList.length) k := h
    refine wp_region ?_
    have := opsC_wp hT (conCall_ok false hC) hC.hook (base := s.nx) (dsts_of hd) (Q := Q) (k := k) ops.toList 0 rfl (hg.nxt ops.toList.length) (fun j _ _ b hb _ => hg.here.nx b (by omega)) (by simp [withF]) h fun s' m' a' w' hk hg' hd' hx' => hQ s' m' a' w' hk hg' (hd'.trans hdf) hx'
    rw [List.range_eq_range', ← Array.length_toList]
    exact this
  | true =>
    have hg1 : Good n c wE m ⟨s.fr.map unub, s.H, s.F, s.nx⟩ a w := hg.step (FEq.unub s.fr) (.refl _)
    have hok : drawOk ops.toList = true := by simpa [drawsOk] using hdr
    obtain ⟨hle0, hcut0⟩ := cutOf_ok ops
    cases hha : hookAt S (ops.toList.take (cutOf ops.toList)) 0 with
    | some hh =>
      have h : regH S ops.toList s k := by
        have h : @Option.rec Nat (fun _ => Prop) _ (fun _ => regH S ops.toList s k) (hookAt S (ops.toList.take (cutOf ops.toList)) 0) := h
        rw [hha] at h; exact h
      exact regH_wp hT hC hmx hd hok hg hdf h hQ
    | none =>
    have h : opsD S ops.toList (ops.toList.take (cutOf ops.toList)) s.nx (withF ⟨s.fr.map unub, s.H, s.F, s.nx⟩ (frzX S (ops.toList.take (cutOf ops.toList)) s ++ s.F) ops.toList.length) [] [] fun s' kn fs => must (feetOk fs (befL ops.toList []) 0)
      (opsC S ops.toList (ops.toList.drop (cutOf ops.toList)) (s.nx + STRIDE * cutOf ops.toList) ⟨backF s.fr kn (ops.toList.take (cutOf ops.toList)) s'.fr, s'.H, s'.F, s'.nx⟩ k) := by
      have h' : @Option.rec Nat (fun _ => Prop) (opsD S ops.toList (ops.toList.take (cutOf ops.toList)) s.nx (withF ⟨s.fr.map unub, s.H, s.F, s.nx⟩ (frzX S (ops.toList.take (cutOf ops.toList)) s ++ s.F) ops.toList.length) [] [] fun s' kn fs => must (feetOk fs (befL ops.toList []) 0)
      (opsC S ops.toList (ops.toList.drop (cutOf ops.toList)) (s.nx + STRIDE * cutOf ops.toList) ⟨backF s.fr kn (ops.toList.take (cutOf ops.toList)) s'.fr, s'.H, s'.F, s'.nx⟩ k)) (fun _ => regH S ops.toList s k) (hookAt S (ops.toList.take (cutOf ops.toList)) 0) := h
      rw [hha] at h'
      exact h'
    generalize hN : cutOf ops.toList = N at h
    obtain ⟨hle, hcut⟩ := cutOf_ok ops
    rw [hN] at hle hcut
    obtain ⟨s', kn, fs', h1, h2, h2k⟩ := opsD_some (n := n) (ops.toList.take N) (fun o ho => dstsOk_spec hd o (List.mem_of_mem_take ho)) _ _ _ _ _ (fun d b hb => by cases hb) (by intro q hq; exact hg1.here.has q hq) h
    obtain ⟨h3, h4⟩ := must_and h2
    refine sim_drawT hT rfl (conCall_ok true hC) hmx hd hok hle hcut h1 h3 hg1.here fun a' w' m' ha' hd' hmv hfr hlt => ?_
    have hg2 := backF_good s.fr (ops.toList.take N) (hg1.moves ha' hmv.ext) h2k
    have := opsC_wp hT (conCall_ok false hC) hC.hook (base := s.nx) (dsts_of hd) (Q := Q) (k := k) (ops.toList.drop N) N rfl hg2 hfr hlt h4 fun s1 m1 a1 w1 hk hg1 hd1 hx1 => hQ s1 m1 a1 w1 hk hg1 ((hd1.trans hd').trans hdf) (hmv.ext.trans hx1)
    rw [List.length_drop, Array.length_toList] at this
    exact this

theorem regC_sem (hT : TyOK P S.T) (hC : ConOK P S) (hmx : P.follows .mixedOrders = true) {n id : Nat} {ops : Array Oper} {draw : Bool} (hd : dstsOk n ops.toList = true) (hdr : drawsOk (.region id ops draw) = true) {s : St} {k : St → Prop} (h : regC S ops.toList draw s k) :
    Sem P n (.region id ops draw) s fun x s' => x = .normal ∧ k s' := fun c wE m a w Q hg hdf hQ =>
  regC_semX hT hC hmx hd hdr h c wE m a w Q hg hdf fun s' m' a' w' hk hg' hd' _ => hQ .normal s' m' a' w' ⟨rfl, hk⟩ hg' hd'

/-- The loops of a text. -/
def loopsOf : Code → List Code
  | .seq a b => loopsOf a ++ loopsOf b
  | .cond _ a b => loopsOf a ++ loopsOf b
  | .block _ b => loopsOf b
  | .loop b => [b]
  | _ => []

/-- What is known of a loop holds. -/
def LoopOK (P : Program) (n : Nat) (L : St → (AX → St → Prop) → Prop) (b : Code) : Prop :=
  ∀ (s : St) (K : AX → St → Prop), L s K → Sem P n (.loop b) s K

def LoopsOK (P : Program) (S : SE) (n : Nat) (code : Code) : Prop := ∀ b ∈ loopsOf code, ∀ L, S.loop (keyOf b) = some L → LoopOK P n L b

end
end Go.Proofs.Ytmkmjjodiicmlaa.VS

