/- A library of an abstract machine, joined from 2 texts. Conditions: none. -/
import Derived.Test.YtmkmjjodiicmlaaVM8
set_option linter.unusedVariables false
set_option linter.unusedSimpArgs false
/- The text of a function, for values that are not known: what its proposition asks is what it leaves. Conditions: none. -/
namespace Go.Proofs.Ytmkmjjodiicmlaa.VS
variable [Syms]

omit [Syms] in
theorem Fr.set_not : ∀ (t : Fr) (k : Nat) (a : AV), t.has k = false → t.set k a = t
  | .nil, k, a, _ => rfl
  | .nd v l r, k, a, h => by
    rw [Fr.has] at h
    rw [Fr.set_nd]
    by_cases h0 : k = 0
    · rw [if_pos h0] at h; cases h
    · rw [if_neg h0] at h ⊢
      by_cases h1 : k % 2 = 1
      · rw [if_pos h1] at h ⊢; rw [Fr.set_not l _ a h]
      · rw [if_neg h1] at h ⊢; rw [Fr.set_not r _ a h]

omit [Syms] in
theorem Fr.get_set_or' (t : Fr) (k j : Nat) (a : AV) : (t.set k a).get j = t.get j ∨ (j = k ∧ (t.set k a).get j = a) := by
  cases h : t.has k with
  | false => rw [Fr.set_not t k a h]; exact .inl rfl
  | true =>
    rw [Fr.get_set _ _ _ _ h]
    split
    · rename_i e; exact .inr ⟨e, rfl⟩
    · exact .inl rfl


/-- A state, and that all that was there at the call is as it was. -/
structure Good (n : Nat) (c : Ctx) (wE : World) (m : Map) (s : St) (a : Act) (w : World) : Prop where
  here : At n c m s a w
  old : ∀ β C e z, ¬ c.X β → wE.heap[β]? = some (.cells C e z) → okB c.X m s.H s.F β ∧ w.heap[β]? = some (.cells C e z)

theorem Good.moves {n : Nat} {c : Ctx} {wE w w' : World} {m m' : Map} {s s' : St} {a a' : Act} (h : Good n c wE m s a w) (ha : At n c m' s' a' w') (hx : Ext c m s.H s.F w m' s'.H s'.F w') : Good n c wE m' s' a' w' :=
  ⟨ha, fun β C e z h1 h2 => by
    obtain ⟨k1, k2⟩ := h.old β C e z h1 h2
    exact hx.kk β C e z k1 k2⟩

theorem Good.le {n : Nat} {c : Ctx} {wE w : World} {m : Map} {s : St} {a : Act} (h : Good n c wE m s a w) {H1 : Heap} (hl : HLe s.H H1) : Good n c wE m { s with H := H1 } a w :=
  ⟨h.here.le hl, fun β C e z h1 h2 => let ⟨k1, k2⟩ := h.old β C e z h1 h2; ⟨okB_le hl k1, k2⟩⟩

theorem Good.step {n : Nat} {c : Ctx} {wE w : World} {m : Map} {s : St} {a : Act} (h : Good n c wE m s a w) {fr1 : Fr} {H1 : Heap} (hf : FEq s.fr fr1) (hl : HLe s.H H1) : Good n c wE m ⟨fr1, H1, s.F, s.nx⟩ a w :=
  ⟨⟨h.here.sr.le hl, fun t => hf.to t _ _ _ _ ((h.here.fr t).mono (fun β C e z ho hh => ⟨okB_le hl ho, hh⟩) (MLe.refl m)), fun k hk => by rw [hf.has]; exact h.here.has k hk, h.here.sz, h.here.nx⟩,
    fun β C e z h1 h2 => let ⟨k1, k2⟩ := h.old β C e z h1 h2; ⟨okB_le hl k1, k2⟩⟩

theorem Good.set {n : Nat} {c : Ctx} {wE w : World} {m : Map} {s : St} {a : Act} (h : Good n c wE m s a w) {d : Nat} {v : AV} (hv : VLe (s.fr.get d) v) : Good n c wE m ⟨s.fr.set d v, s.H, s.F, s.nx⟩ a w :=
  ⟨⟨h.here.sr, fun t => by
    cases hd : s.fr.has d with
    | false => rw [Fr.set_not _ _ _ hd]; exact h.here.fr t
    | true =>
      show VR _ _ _ ((s.fr.set d v).get t) _
      rw [Fr.get_set _ _ _ _ hd]
      by_cases e : t = d
      · rw [if_pos e]; subst e; exact hv _ _ _ _ (h.here.fr t)
      · rw [if_neg e]; exact h.here.fr t, fun k hk => by rw [Fr.has_set]; exact h.here.has k hk, h.here.sz, h.here.nx⟩, h.old⟩

theorem Good.slot {n : Nat} {c : Ctx} {wE w : World} {m : Map} {fr : Fr} {H : Heap} {F : List Nat} {nx : Nat} {dst : Option Tmp} {v1 v : AV} {a : Act} {fr1 : Fr} (h : Good n c wE m ⟨put fr1 dst v1, H, F, nx⟩ a w) (hh : ∀ k, k < n → fr.has k = true) (hd : ∀ d, dst = some d → d < n) (hf : FEq fr fr1) (hv : VLe v1 v) :
    Good n c wE m ⟨put fr dst v, H, F, nx⟩ a w := by
  refine ⟨⟨h.here.sr, ?_, put_has hh dst v, h.here.sz, h.here.nx⟩, h.old⟩
  cases dst with
  | none => exact fun t => hf.from_ t _ _ _ _ (h.here.fr t)
  | some d =>
    intro t
    have := h.here.fr t
    show VR _ _ _ ((fr.set d v).get t) _
    change VR _ _ _ ((fr1.set d v1).get t) _ at this
    rw [Fr.get_set _ _ _ _ (by rw [hf.has]; exact hh d (hd d rfl))] at this
    rw [Fr.get_set _ _ _ _ (hh d (hd d rfl))]
    by_cases e : t = d
    · rw [if_pos e] at this ⊢; exact hv _ _ _ _ this
    · rw [if_neg e] at this ⊢; exact hf.from_ t _ _ _ _ this

/-- Behind an operation that was told over another frame. -/
theorem Good.slot2 {n : Nat} {c : Ctx} {wE w w' : World} {m m' : Map} {s : St} {H' : Heap} {F' : List Nat} {nx' : Nat} {dst : Option Tmp} {v1 v : AV} {a : Act} {cv : Value} {fr1 : Fr} (h : Good n c wE m' ⟨put fr1 dst v1, H', F', nx'⟩ (a.put dst cv) w') (h0 : Good n c wE m s a w) (hx : Ext c m s.H s.F w m' H' F' w')
    (hd : ∀ d, dst = some d → d < n) (hf : ∀ k, fr1.has k = s.fr.has k) (hv : VLe v1 v) : Good n c wE m' ⟨put s.fr dst v, H', F', nx'⟩ (a.put dst cv) w' := by
  refine ⟨⟨h.here.sr, ?_, put_has h0.here.has dst v, h.here.sz, h.here.nx⟩, h.old⟩
  have hold := FrR.ext hx h0.here.fr
  cases dst with
  | none => exact hold
  | some d =>
    have hhd := h0.here.has d (hd d rfl)
    intro t
    have := h.here.fr t
    show VR _ _ _ ((s.fr.set d v).get t) _
    change VR _ _ _ ((fr1.set d v1).get t) _ at this
    rw [Fr.get_set _ _ _ _ (by rw [hf]; exact hhd)] at this
    rw [Fr.get_set _ _ _ _ hhd]
    by_cases e : t = d
    · rw [if_pos e] at this ⊢; exact hv _ _ _ _ this
    · rw [if_neg e]
      have ht := hold t
      show VR _ _ _ _ ((a.tmps.setIfInBounds d cv).getD t undef)
      simpa [Array.getElem?_setIfInBounds_ne (Ne.symm e)] using ht

/-- A row of data that may be none, under a new number. -/
theorem Good.void {n : Nat} {c : Ctx} {wE w : World} {m : Map} {s : St} {a : Act} (h : Good n c wE m s a w) {b : Nat} (hb : m b = none) (g : GT) : Good n c wE m { s with H := hset s.H b (.tarr g []) } a w := by
  obtain ⟨x1, x2⟩ := h.here.sr.void hb g
  exact h.moves (s' := { s with H := hset s.H b (.tarr g []) }) ⟨x2, fun t => x1.vr (h.here.fr t), h.here.has, h.here.sz, h.here.nx⟩ x1

section
variable {P : Program} {S : SE}

theorem guardU_some {n : Nat} {c : Ctx} {wE w : World} {m : Map} {s : St} {a : Act} (hg : Good n c wE m s a w) {ops : List Oper} {go skip : St → Prop} {g : Option (Nat × Bool)} (h : guardU ops s go skip g) :
    ∃ s', Good n c wE m s' a w ∧ (s'.nx = s.nx ∧ s'.H = s.H ∧ s'.F = s.F) ∧ ((awanted ops g s'.fr = some true ∧ go s') ∨ (awanted ops g s'.fr = some false ∧ skip s')) := by
  cases g with
  | none => exact ⟨s, hg, ⟨rfl, rfl, rfl⟩, .inl ⟨rfl, h⟩⟩
  | some p =>
    obtain ⟨j, q⟩ := p
    have h : (match guardTmp ops j with
      | some d => (match getK s.fr d with
        | .bool b => @Bool.rec (fun _ => Prop) (bK q (skip s) (go s)) (bK q (go s) (skip s)) b
        | .ub b => (b = true → bK q (go ⟨setK s.fr d (.bool true), s.H, s.F, s.nx⟩) (skip ⟨setK s.fr d (.bool true), s.H, s.F, s.nx⟩)) ∧ (b = false → bK q (skip ⟨setK s.fr d (.bool false), s.H, s.F, s.nx⟩) (go ⟨setK s.fr d (.bool false), s.H, s.F, s.nx⟩))
        | .tup [] => skip s
        | _ => False)
      | none => False) := h
    have lit : ∀ {d : Nat} {s' : St} {b : Bool}, guardTmp ops j = some d → s'.fr.get d = .bool b → Good n c wE m s' a w → (s'.nx = s.nx ∧ s'.H = s.H ∧ s'.F = s.F) → (@Bool.rec (fun _ => Prop) (bK q (skip s') (go s')) (bK q (go s') (skip s')) b) →
        ∃ s', Good n c wE m s' a w ∧ (s'.nx = s.nx ∧ s'.H = s.H ∧ s'.F = s.F) ∧ ((awanted ops (some (j, q)) s'.fr = some true ∧ go s') ∨ (awanted ops (some (j, q)) s'.fr = some false ∧ skip s')) := by
      intro d s' b hd hb hgd hnx hh
      refine ⟨s', hgd, hnx, ?_⟩
      have : awanted ops (some (j, q)) s'.fr = some (b == q) := by rw [awanted, hd]; simp only [hb, guardIs]
      rw [this]
      cases b <;> cases q <;> first | exact .inl ⟨rfl, hh⟩ | exact .inr ⟨rfl, hh⟩
    have two : ∀ {d : Nat} {b : Bool} (b' : Bool), guardTmp ops j = some d → s.fr.get d = .ub b → b = b' → Good n c wE m ⟨s.fr.set d (.bool b'), s.H, s.F, s.nx⟩ a w ∧ (s.fr.has d = true → (s.fr.set d (.bool b')).get d = .bool b') := by
      intro d b b' hd hb e
      subst e
      exact ⟨hg.set (by rw [hb]; exact bool_le b), fun hh => by rw [Fr.get_set _ _ _ _ hh, if_pos rfl]⟩
    split at h
    · rename_i d hd
      rw [getK_eq] at h
      simp only [setK_eq] at h
      have hasd : ∀ {b}, s.fr.get d = .ub b → s.fr.has d = true := by
        intro b hb
        cases hh : s.fr.has d with
        | true => rfl
        | false =>
          have : ∀ (t : Fr) (k : Nat), t.has k = false → t.get k = und := by
            intro t
            induction t with
            | nil => intro k _; rfl
            | nd v l r ihl ihr =>
              intro k hk
              rw [Fr.has] at hk
              rw [Fr.get_nd]
              split
              · rename_i h0; rw [if_pos h0] at hk; cases hk
              · rename_i h0
                rw [if_neg h0] at hk
                split
                · rename_i h1; rw [if_pos h1] at hk; exact ihl _ hk
                · rename_i h1; rw [if_neg h1] at hk; exact ihr _ hk
          rw [this s.fr d hh] at hb
          cases hb
      split at h
      · rename_i b hb
        exact lit hd hb hg ⟨rfl, rfl, rfl⟩ h
      · rename_i b hb
        cases hbb : b with
        | true =>
          obtain ⟨k1, k2⟩ := two true hd hb hbb
          exact lit hd (k2 (hasd hb)) k1 ⟨rfl, rfl, rfl⟩ (h.1 hbb)
        | false =>
          obtain ⟨k1, k2⟩ := two false hd hb hbb
          exact lit hd (k2 (hasd hb)) k1 ⟨rfl, rfl, rfl⟩ (h.2 hbb)
      · rename_i hb
        refine ⟨s, hg, ⟨rfl, rfl, rfl⟩, .inr ⟨?_, h⟩⟩
        rw [awanted, hd]; simp only [hb, guardIs]
      · exact h.elim
    · exact h.elim

/-- A call of a function that works on its caller's own rows, as a step. -/
theorem hook_step {n : Nat} {c : Ctx} {m : Map} {s : St} {a : Act} {w : World} (ha : At n c m s a w) {id : Nat} (hid : ∀ b, id ≤ b → b < id + STRIDE → m b = none) (hlt : id + STRIDE ≤ s.nx) {ops : Array Oper} {i : Nat} {o : Oper} (ho : ops[i]? = some o)
    (hd : dstOk n o) (hw : awanted ops.toList o.guard s.fr = some true) {f : Operand} {args : Array Operand} {ts : Array TypeId} (hop : o.op = .call ⟨.value f, args, ts⟩) {g : FuncId} {caps : List AV} (hf : opnd s.fr f = .fn g caps) {k : Kont}
    (hcalls : ∀ cargs : Array Value, CR (okB c.X m s.H s.F) w.heap m (opnds s.fr args.toList ++ caps) cargs 0 → cargs.size = (opnds s.fr args.toList ++ caps).length → CallsTo P g cargs w fun cv w' => ∃ v e rd fz m', k v e rd fz ∧ Done c m s.H s.F w id v e fz cv m' w')
    {Q : Exit → Act → World → Prop} {K : Act → World → Prop}
    (hK : ∀ v e rd fz cv m' w', k v e rd fz → At n c m' ⟨put s.fr o.dst v, happ s.H e, fz ++ s.F, s.nx⟩ (a.put o.dst cv) w' → Ext c m s.H s.F w m' (happ s.H e) (fz ++ s.F) w' → (∀ b, m' b ≠ none → m b ≠ none ∨ (id ≤ b ∧ b < id + STRIDE)) → K (a.put o.dst cv) w') : wpOp P ops Q i K a w := by
  unfold wpOp
  rw [ho]
  simp only
  rw [wanted_eq ha.fr hw, if_pos rfl]
  left
  obtain ⟨dst, op, oty, pos, after, guard⟩ := o
  simp only at hop
  subst hop
  have hfv := opnd_vr ha.fr f
  rw [hf] at hfv
  obtain ⟨vs, hvs, hsz, hcr⟩ := hfv.fn_inv
  have hargs := opnds_vr ha.fr args.toList
  have key := hcalls (args.map a.eval ++ vs) (fun j x hx => by
    rcases Nat.lt_or_ge j (opnds s.fr args.toList).length with hj | hj
    · rw [List.getElem?_append_left hj] at hx
      obtain ⟨v, hv, hr⟩ := hargs j x hx
      refine ⟨v, ?_, hr⟩
      rw [Nat.zero_add] at hv ⊢
      rw [map_eval, Array.getElem?_append_left (by simpa [opnds_length] using hj)]
      exact hv
    · rw [List.getElem?_append_right hj] at hx
      obtain ⟨v, hv, hr⟩ := hcr _ x hx
      refine ⟨v, ?_, hr⟩
      rw [Nat.zero_add] at hv ⊢
      have hl : (args.map a.eval).size = (opnds s.fr args.toList).length := by simp [opnds_length]
      rw [Array.getElem?_append_right (by omega), hl]
      exact hv) (by simp [opnds_length, hsz])
  have hrun : (execOp a.eval ⟨dst, .call ⟨.value f, args, ts⟩, oty, pos, after, guard⟩).run P w = (callFunc g (args.map a.eval ++ vs)).run P w := by
    simp only [execOp, Go.resolve, hvs, Deferred.ofValue, Sem.run_bind, Sem.run_pure, Result.andThen_ok, invoke]
    simp
  have hop : OpWp P a ⟨dst, .call ⟨.value f, args, ts⟩, oty, pos, after, guard⟩ w fun cv w' => ∃ v e rd fz m', k v e rd fz ∧ Done c m s.H s.F w id v e fz cv m' w' := by
    rcases key with ⟨v, w', h1, h2⟩ | ⟨h1, h2⟩
    · exact .inl ⟨v, w', .inl (by rw [hrun]; exact h1), h2⟩
    · exact .inr ⟨g, _, by rw [hrun]; exact h1, h2⟩
  refine hop.wp (fun cv w' ⟨v, e, rd, fz, m', hk, hp⟩ => ?_) Q
  refine hK v e rd fz cv m' w' hk ⟨hp.sr, put_vr (FrR.ext hp.ext ha.fr) ha.has ha.sz hd hp.vr, put_has ha.has _ _, by rw [put_size]; exact ha.sz, fun b hb => ?_⟩ hp.ext hp.dom
  cases hm : m' b with
  | none => rfl
  | some L =>
    exfalso
    rcases hp.dom b (by rw [hm]; simp) with h1 | ⟨h1, h2⟩
    · exact h1 (ha.nx b hb)
    · have hb : s.nx ≤ b := hb
      omega

omit [Syms] in
theorem ownC_not {v : AV} (h : ownV v = true) : (∀ b, v ≠ .bool b) ∧ v ≠ .tup [] := by
  constructor
  · rintro b rfl; cases h
  · rintro rfl; cases h

/-- Rows that are taken whole ahead of an operation. -/
theorem preC_some {n : Nat} {c : Ctx} {wE w : World} {m : Map} {s : St} {a : Act} (hg : Good n c wE m s a w) {op : Op} {k : St → Prop} (h : preC op s k) : ∃ s1, k s1 ∧ Good n c wE m s1 a w ∧ (s1.nx = s.nx ∧ Ext c m s.H s.F w m s1.H s1.F w) ∧ ∀ (ops : List Oper) g, awanted ops g s.fr = some true → awanted ops g s1.fr = some true := by
  have same : k s → ∃ s1, k s1 ∧ Good n c wE m s1 a w ∧ (s1.nx = s.nx ∧ Ext c m s.H s.F w m s1.H s1.F w) ∧ ∀ (ops : List Oper) g, awanted ops g s.fr = some true → awanted ops g s1.fr = some true := fun h => ⟨s, h, hg, ⟨rfl, Ext.refl _ _ _ _ _⟩, fun _ _ h => h⟩
  -- numbers that are written no more: their rows lie where they lay
  have frz : ∀ is : List Nat, Good n c wE m ⟨s.fr, s.H, is ++ s.F, s.nx⟩ a w := fun is => by
    obtain ⟨hx, hsr⟩ := hg.here.sr.freeze is
    exact hg.moves (s' := ⟨s.fr, s.H, is ++ s.F, s.nx⟩) ⟨hsr, fun t => hx.vr (hg.here.fr t), hg.here.has, hg.here.sz, hg.here.nx⟩ hx
  have tok : ∀ is : List Nat, ∀ b ∈ is, ∀ o L, hget s.H b = some o → m b = some L → okB c.X m s.H (is ++ s.F) L.blk := fun is b hb o L h1 h2 =>
    ⟨hg.here.sr.nox b o L h1 h2, fun q p L' h3 h4 h5 e => h4 (List.mem_append_left _ (by
      have := hg.here.sr.inj q p b o L' L h3 h1 h5 h2 e
      rw [this]; exact hb))⟩
  have hokF : ∀ is : List Nat, ∀ β, okB c.X m s.H s.F β → okB c.X m s.H (is ++ s.F) β := fun is β ho => ⟨ho.1, fun q p L h1 h2 h3 => ho.2 q p L h1 (fun h => h2 (List.mem_append_right _ h)) h3⟩
  have val : ∀ {v y : AV} {is : List Nat} {u : Value} {d : Nat}, resolve true s.H d v = some (y, is) → VR (okB c.X m s.H s.F) w.heap m v u → VR (okB c.X m s.H (is ++ s.F)) w.heap m y u := fun {v y is u d} hr hv =>
    (resolve_vr (I := fun b => b ∈ is) (hokF is) hg.here.sr.arrs (fun b L hb hm hgo => by
      cases hgo' : hget s.H b with
      | none => exact absurd hgo' hgo
      | some o => exact tok is b hb o L hgo' hm) d v y is u hr (fun b hb => hb) hv).mono (fun β C e z h1 h2 => ⟨h1, h2⟩) (fun b L hb => by cases hb)
  unfold preC at h
  split at h
  · split at h
    · rename_i x _
      rw [opndK_eq] at h
      unfold preApp at h
      split at h
      · rename_i nn b lo len _
        split at h
        · rename_i mm xs hb
          obtain ⟨hb, hbF⟩ := hlive_some hb
          cases ho : xs.any ownV with
          | false => rw [ho] at h; exact same h
          | true =>
            rw [ho] at h
            obtain ⟨p, h1, h2⟩ := resAllC_some _ _ h
            have hgf := frz p.2
            have hxf := (hg.here.sr.freeze p.2).1
            have hra : resAll true s.H DEEP xs = some p := resAll_of h1
            have hlen := (resAll_some hra).1
            have hobj : ∀ L, m b = some L → ObjR (okB c.X m s.H (p.2 ++ s.F)) w.heap m L (.arr mm p.1) := fun L hL => by
              obtain ⟨j1, j2, j3, j4, C, e, z, j5, j6, j7, j8, j9⟩ := hg.here.sr.objm hb hL
              have ihs : ∀ d', d' ≤ DEEP → ∀ a y is v, resolve true s.H d' a = some (y, is) → (∀ b ∈ is, b ∈ p.2) → VR (okB c.X m s.H s.F) w.heap m a v → VR (okB c.X m s.H (p.2 ++ s.F)) w.heap noMap y v := fun d' _ a y is v hr hi hv =>
                resolve_vr (I := fun b => b ∈ p.2) (hokF p.2) hg.here.sr.arrs (fun b L hb hm hgo => by
                  cases hgo' : hget s.H b with
                  | none => exact absurd hgo' hgo
                  | some o => exact tok p.2 b hb o L hgo' hm) d' a y is v hr hi hv
              obtain ⟨q1, q2⟩ := resAll_flat (I := fun b => b ∈ p.2) ihs hra (fun b hb => hb) j4 j9
              refine ⟨j1, j2, by rw [hlen]; exact j3, q1, C, e, z, j5, j6, j7, by rw [hlen]; exact j8, ?_⟩
              intro j x hx
              obtain ⟨v, k1, k2⟩ := q2 j x hx
              exact ⟨v, k1, k2.mono (fun β C e z h1 h2 => ⟨h1, h2⟩) (fun b L hb => by cases hb)⟩
            have hsr := hgf.here.sr.retell (o1 := .arr mm p.1) hb hobj (fun hv => by
              rcases hv with ⟨t, hv⟩ | ⟨t, hv⟩
              · cases hv
              · cases hv
                have : p.1 = [] := List.length_eq_zero_iff.1 (by rw [hlen]; rfl)
                rw [this]; exact .inr ⟨_, rfl⟩)
            have hkk : ∀ β C e z, okB c.X m s.H (p.2 ++ s.F) β → w.heap[β]? = some (.cells C e z) → okB c.X m (hset s.H b (.arr mm p.1)) (p.2 ++ s.F) β ∧ w.heap[β]? = some (.cells C e z) := fun β C e z h1 h2 => ⟨(okB_set hb).1 h1, h2⟩
            exact ⟨_, h2, hgf.moves (s' := ⟨s.fr, hset s.H b (.arr mm p.1), p.2 ++ s.F, s.nx⟩) ⟨hsr, fun t => (hgf.here.fr t).mono hkk (MLe.refl m), hg.here.has, hg.here.sz, hg.here.nx⟩ ⟨MLe.refl m, hkk⟩, ⟨rfl, hxf.trans ⟨MLe.refl m, hkk⟩⟩, fun _ _ h => h⟩
        · exact same h
      · exact same h
    · exact same h
  · rename_i ty ad t
    rw [opndK_eq, getK_eq] at h
    unfold preSto at h
    split at h
    · rename_i b i off _
      split at h
      · rename_i g l hb
        cases ho : ownV (s.fr.get t) with
        | false => rw [ho] at h; exact same h
        | true =>
          rw [ho] at h
          obtain ⟨y, is, h1, h2⟩ := resC_some _ _ _ h
          rw [setK_eq] at h2
          refine ⟨_, h2, ?_, ⟨rfl, (hg.here.sr.freeze is).1⟩, fun ops g hgw => ?_⟩
          · have hgf := frz is
            refine ⟨⟨hgf.here.sr, fun j => ?_, fun k hk => ?_, hgf.here.sz, hgf.here.nx⟩, hgf.old⟩
            · show VR (okB c.X m s.H (is ++ s.F)) w.heap m ((s.fr.set t y).get j) _
              rcases Fr.get_set_or' s.fr t j y with e | ⟨rfl, e⟩
              · rw [e]; exact hgf.here.fr j
              · rw [e]; exact val h1 (hg.here.fr j)
            · show (s.fr.set t y).has k = true
              rw [Fr.has_set]; exact hg.here.has k hk
          · obtain ⟨q1, q2⟩ := ownC_not ho
            cases g with
            | none => rfl
            | some p =>
              rw [awanted] at hgw ⊢
              split at hgw
              · rename_i d hd
                have : (s.fr.set t y).get d = s.fr.get d := by
                  rcases Fr.get_set_or' s.fr t d y with e | ⟨rfl, e⟩
                  · exact e
                  · exfalso
                    unfold guardIs at hgw
                    split at hgw
                    · rename_i b0 hb0; exact q1 b0 hb0
                    · rename_i hb0; exact q2 hb0
                    · cases hgw
                show guardIs p.2 ((s.fr.set t y).get d) = _
                rw [this]; exact hgw
              · cases hgw
      · exact same h
    · exact same h
  · exact same h

theorem opsC_wp (hT : TyOK P S.T) (hC : CallOK P (S.env false).call) (hH : HookOK P S) {n : Nat} {c : Ctx} {wE : World} {ops : Array Oper} {base : Nat} (hd : ∀ (i : Nat) (o : Oper), ops[i]? = some o → dstOk n o) {Q : Exit → Act → World → Prop} {k : St → Prop} :
    ∀ (r : List Oper) (i : Nat), ops.toList.drop i = r → ∀ {m : Map} {s : St} {a : Act} {w : World}, Good n c wE m s a w → (∀ j, i ≤ j → j < ops.size → ∀ b, base + STRIDE * j ≤ b → b < base + STRIDE * j + STRIDE → m b = none) →
    base + STRIDE * ops.size ≤ s.nx → opsC S ops.toList r (base + STRIDE * i) s k → (∀ s' m' a' w', k s' → Good n c wE m' s' a' w' → a'.defers = a.defers → Ext c m s.H s.F w m' s'.H s'.F w' → Q .normal a' w') → wpOps P ops Q (List.range' i r.length) a w
  | [], i, _, m, s, a, w, hg, _, _, h, hQ => hQ s m a w h hg rfl (Ext.refl _ _ _ _ _)
  | o :: r, i, hr, m, s, a, w, hg, hfree, hlt, h, hQ => by
    have ho : ops[i]? = some o := by
      rw [← Array.getElem?_toList]
      have : (ops.toList.drop i)[0]? = some o := by rw [hr]; rfl
      simpa using this
    have hi : i < ops.size := (Array.getElem?_eq_some_iff.1 ho).1
    have hr' : ops.toList.drop (i + 1) = r := by rw [← List.drop_drop, hr]; rfl
    have hmul : STRIDE * i + STRIDE ≤ STRIDE * ops.size := by
      rw [← Nat.mul_succ]; exact Nat.mul_le_mul_left _ hi
    rw [List.length_cons, List.range'_succ, wpOps_cons]
    have next : ∀ {m1 : Map} {s1 : St} {a1 : Act} {w1 : World}, Good n c wE m1 s1 a1 w1 → a1.defers = a.defers → s1.nx = s.nx → (∀ b, m1 b ≠ none → m b ≠ none ∨ (base + STRIDE * i ≤ b ∧ b < base + STRIDE * i + STRIDE) ∨ (s.nx ≤ b ∧ b < s1.nx)) →
        opsC S ops.toList r (Nat.add (base + STRIDE * i) (nat_lit 64)) s1 k → Ext c m s.H s.F w m1 s1.H s1.F w1 → wpOps P ops Q (List.range' (i + 1) r.length) a1 w1 := by
      intro m1 s1 a1 w1 hg1 hd1 hnx hdom h1 hxx
      refine opsC_wp hT hC hH hd r (i + 1) hr' hg1 (fun j hj hjs b hb1 hb2 => ?_) (by rw [hnx]; exact hlt) (by rw [Nat.mul_succ, ← Nat.add_assoc]; exact h1) fun s' m' a' w' hk hgood hdef hxr => hQ s' m' a' w' hk hgood (hdef.trans hd1) (hxx.trans hxr)
      cases hm : m1 b with
      | none => rfl
      | some L =>
        exfalso
        rcases hdom b (by rw [hm]; simp) with h2 | ⟨h2, h3⟩ | ⟨h2, h3⟩
        · exact h2 (hfree j (by omega) hjs b hb1 hb2)
        · unfold STRIDE at *; omega
        · omega
    have h : guardU ops.toList s (fun s => preC o.op s fun s => opC S o.op s (base + STRIDE * i) fun v e _ fz => opsC S ops.toList r (Nat.add (base + STRIDE * i) (nat_lit 64)) ⟨putK o.dst s.fr v, happ s.H e, fz ++ s.F, s.nx⟩ k)
      (fun s => opsC S ops.toList r (Nat.add (base + STRIDE * i) (nat_lit 64)) ⟨putK o.dst s.fr und, s.H, s.F, s.nx⟩ k) o.guard := h
    obtain ⟨s00, hg00, ⟨hnx00, hH00, hF00⟩, hw0⟩ := guardU_some hg h
    have hx00 : Ext c m s.H s.F w m s00.H s00.F w := by rw [hH00, hF00]; exact Ext.refl _ _ _ _ _
    simp only [putK_eq] at hw0
    rcases hw0 with ⟨hw0, hgo0⟩ | ⟨hw, hskip⟩
    · obtain ⟨s0, hgo, hg0, ⟨hnx01, hx01⟩, hwt⟩ := preC_some hg00 hgo0
      have hx0 := hx00.trans hx01
      have hnx0 := hnx01.trans hnx00
      have hw := hwt _ _ hw0
      rcases opC_some hgo with ⟨v, e, rd, fz, ⟨H0, fr1, H1, v1, e1, rd1, kz, k0, k1, k2, k3, k4⟩, k5⟩ | ⟨f, args, ts, g, caps, hk, g1, g2, g3, g4⟩
      case inr =>
        refine hook_step hg0.here (hfree i (Nat.le_refl _) hi) (Nat.le_trans (by rw [Nat.add_assoc]; exact Nat.add_le_add_left hmul base) (by rw [hnx0]; exact hlt)) ho (hd i o ho) hw g1 g2 (fun cargs hcr hsz => hH g hk g3 _ _ _ _ _ g4 c m w cargs hg0.here.sr hcr hsz (hfree i (Nat.le_refl _) hi))
          fun v e rd fz cv m' w' hk' ha' hx hdom => ?_
        exact next (hg0.moves ha' hx) (put_defers _ _ _) hnx0 (fun b hb => (hdom b hb).imp id fun h => .inl h) hk' (hx0.trans hx)
      have hgv : Good n c wE m ⟨s0.fr, H0, s0.F, s0.nx⟩ a w ∧ Ext c m s0.H s0.F w m H0 s0.F w := by
        rcases kz with rfl | ⟨g, rfl⟩
        · exact ⟨hg0, Ext.refl _ _ _ _ _⟩
        · have hfree1 := hfree i (Nat.le_refl _) hi (Nat.succ (base + STRIDE * i)) (by omega) (by unfold STRIDE; omega)
          exact ⟨hg0.void hfree1 g, (hg0.here.sr.void hfree1 g).1⟩
      have hg1 : Good n c wE m ⟨fr1, H1, s0.F, s0.nx⟩ a w := by
        refine ⟨⟨hgv.1.here.sr.le k1, fun t => k0.to t _ _ _ _ ((hgv.1.here.fr t).mono (fun β C e z ho hh => ⟨okB_le k1 ho, hh⟩) (MLe.refl m)), fun k hk => by rw [k0.has]; exact hg0.here.has k hk, hg0.here.sz, hg0.here.nx⟩,
          fun β C e z h1 h2 => let ⟨k1', k2'⟩ := hgv.1.old β C e z h1 h2; ⟨okB_le k1 k1', k2'⟩⟩
      have hx1 : Ext c m s0.H s0.F w m H1 s0.F w := hgv.2.trans ⟨MLe.refl m, fun β C e z ho hh => ⟨okB_le k1 ho, hh⟩⟩
      have hw1 : awanted ops.toList o.guard fr1 = some true := by
        cases hgd : o.guard with
        | none => rfl
        | some p =>
          rw [hgd] at hw
          rw [awanted] at hw ⊢
          split at hw
          · rename_i d hd
            unfold guardIs at hw ⊢
            split at hw
            · rename_i b hb
              rw [k0.keeps d (.inl ⟨b, hb⟩), hb]; exact hw
            · rename_i hb
              rw [k0.keeps d (.inr hb), hb]; exact hw
            · cases hw
          · cases hw
      have hstep : stepOp (S.env false) ops.toList (base + STRIDE * i) o ⟨fr1, H1, s0.F, s0.nx⟩ = .at ⟨put fr1 o.dst v1, happ H1 e1, fz ++ s0.F, s0.nx⟩ := by
        unfold stepOp
        simp only [hw1, k2, behind]
      refine sim_step hT rfl hC hg1.here (hfree i (Nat.le_refl _) hi) (Nat.le_trans (by rw [Nat.add_assoc]; exact Nat.add_le_add_left hmul base) (by rw [hnx0]; exact hlt)) ho (hd i o ho) hstep fun cv m' w' ha' hmv hdom => ?_
      have hg2 := hg1.moves ha' hmv.ext
      have hg3 := hg2.slot2 hg0 (hx1.trans hmv.ext) (hd i o ho) k0.has k4
      exact next (hg3.le k3) (put_defers _ _ _) hnx0 (by simpa [hnx0] using hdom) k5 (hx0.trans ((hx1.trans hmv.ext).trans ⟨MLe.refl m', fun β C e z ho hh => ⟨okB_le k3 ho, hh⟩⟩))
    · have hg0 := hg00
      have hnx0 := hnx00
      have hstep : stepOp (S.env false) ops.toList (base + STRIDE * i) o s00 = .at ⟨put s00.fr o.dst und, s00.H, s00.F, s00.nx⟩ := by
        unfold stepOp
        simp only [hw]
      refine sim_step hT rfl hC hg0.here (hfree i (Nat.le_refl _) hi) (Nat.le_trans (by rw [Nat.add_assoc]; exact Nat.add_le_add_left hmul base) (by rw [hnx0]; exact hlt)) ho (hd i o ho) hstep fun cv m' w' ha' hmv hdom => ?_
      exact next (hg0.moves ha' hmv.ext) (put_defers _ _ _) hnx0 (by simpa [hnx0] using hdom) hskip (hx00.trans hmv.ext)

omit [Syms] in
theorem Fr.set_get : ∀ (t : Fr) (k : Nat), t.set k (t.get k) = t
  | .nil, k => rfl
  | .nd v l r, k => by
    rw [Fr.set_nd, Fr.get_nd]
    by_cases h0 : k = 0
    · simp [h0]
    · rw [if_neg h0, if_neg h0]
      by_cases h1 : k % 2 = 1
      · rw [if_pos h1, if_pos h1, Fr.set_get l]
      · rw [if_neg h1, if_neg h1, Fr.set_get r]

/-- What is told as known is so. -/
def KN (_ : Nat) (kn : List (Nat × Bool)) (fr : Fr) : Prop := ∀ d b, knOf kn d = some b → fr.get d = .bool b

omit [Syms] in
theorem knOf_del (d x : Nat) : ∀ kn : List (Nat × Bool), knOf (knDel d kn) x = if d = x then none else knOf kn x
  | [] => by simp [knDel, knOf]
  | p :: r => by
    rw [knDel]
    by_cases h : p.1 = d
    · rw [h, beq_same, cond_true, knOf_del d x r, knOf, h]
      by_cases e : d = x
      · simp [e]
      · rw [if_neg e, beq_ne e, if_neg e]; rfl
    · rw [beq_ne h, cond_false, knOf, knOf, knOf_del d x r]
      by_cases e : d = x
      · subst e; rw [if_pos rfl, if_pos rfl, beq_ne h]; rfl
      · simp [e]

omit [Syms] in
theorem KN.put {n : Nat} {kn : List (Nat × Bool)} {fr : Fr} (h : KN n kn fr) (hh : ∀ k, k < n → fr.has k = true) {dst : Option Tmp} (hd : ∀ d, dst = some d → d < n) {v : AV} {q : Option Bool} (hq : ∀ b, q = some b → v = .bool b) : KN n (knPut kn dst q) (put fr dst v) := by
  intro x b hx
  cases dst with
  | none => exact h x b hx
  | some d =>
    have hd := hd d rfl
    show (fr.set d v).get x = .bool b
    rw [Fr.get_set _ _ _ _ (hh d hd)]
    by_cases e : x = d
    · subst e
      rw [if_pos rfl]
      cases q with
      | none =>
        have hx : knOf (knDel x kn) x = some b := hx
        rw [knOf_del, if_pos rfl] at hx; cases hx
      | some c =>
        have hx : knOf ((x, c) :: knDel x kn) x = some b := hx
        rw [knOf, beq_same, cond_true] at hx
        cases hx
        exact hq _ rfl
    · rw [if_neg e]
      refine h x b ?_
      cases q with
      | none =>
        have hx : knOf (knDel d kn) x = some b := hx
        rw [knOf_del, if_neg (fun e' => e e'.symm)] at hx; exact hx
      | some c =>
        have hx : knOf ((d, c) :: knDel d kn) x = some b := hx
        rw [knOf, beq_ne (fun e' => e e'.symm), cond_false, knOf_del, if_neg (fun e' => e e'.symm)] at hx; exact hx

omit [Syms] in
theorem kb_some {n : Nat} {kn : List (Nat × Bool)} {fr : Fr} (h : KN n kn fr) {x : Operand} {b : Bool} (hx : kb kn x = some b) : opnd fr x = .bool b := by
  unfold kb at hx
  split at hx
  · exact h _ b hx
  · cases hx; rfl
  · cases hx

omit [Syms] in
theorem knOp_some {n : Nat} {E : Env} {kn : List (Nat × Bool)} {s : St} (h : KN n kn s.fr) {id : Nat} {op : Op} {b : Bool} (hb : knOp kn op = some b) {v : AV} {e : Eff} {rd fz : List Nat} (ha : aop E s id op = .ok v e rd fz) : v = .bool b := by
  unfold knOp at hb
  split at hb
  · simp only [aop, kb_some h hb, rv, Res.ok.injEq] at ha; exact ha.1.symm
  · simp only [aop, kb_some h hb, rv, Res.ok.injEq] at ha; exact ha.1.symm
  · rename_i c x y
    unfold knPick at hb
    split at hb
    · rename_i hc
      simp only [aop, kb_some h hc, kb_some h hb, opPick, rv, cond_true, Res.ok.injEq] at ha; exact ha.1.symm
    · rename_i hc
      simp only [aop, kb_some h hc, kb_some h hb, opPick, rv, cond_false, Res.ok.injEq] at ha; exact ha.1.symm
    · cases hb
  · rename_i t x
    unfold knNot at hb
    split at hb
    · rename_i c hc
      cases hb
      simp only [aop, kb_some h hc, aun, ro, Res.ok.injEq] at ha; exact ha.1.symm
    · cases hb
  · cases hb

omit [Syms] in
theorem guardD_some {n : Nat} {ops : List Oper} {s : St} {kn : List (Nat × Bool)} (hkn : KN n kn s.fr) {go skip : DK} {g : Option (Nat × Bool)} (h : guardD ops s kn go skip g) :
    ∃ kn', KN n kn' s.fr ∧ ((awanted ops g s.fr = some true ∧ go s kn') ∨ (awanted ops g s.fr = some false ∧ skip s kn')) := by
  cases g with
  | none => exact ⟨kn, hkn, .inl ⟨rfl, h⟩⟩
  | some p =>
    obtain ⟨j, q⟩ := p
    have h : (match guardTmp ops j with
      | some d => (match knOf kn d with
        | some b => bK b (bK q (go s kn) (skip s kn)) (bK q (skip s kn) (go s kn))
        | none => (match getK s.fr d with
          | .bool b => (b = true → bK q (go ⟨setK s.fr d (.bool true), s.H, s.F, s.nx⟩ ((d, true) :: kn)) (skip ⟨setK s.fr d (.bool true), s.H, s.F, s.nx⟩ ((d, true) :: kn))) ∧
            (b = false → bK q (skip ⟨setK s.fr d (.bool false), s.H, s.F, s.nx⟩ ((d, false) :: kn)) (go ⟨setK s.fr d (.bool false), s.H, s.F, s.nx⟩ ((d, false) :: kn)))
          | .tup [] => skip s kn
          | _ => False))
      | none => False) := h
    have lit : ∀ {d : Nat} {b : Bool} {kn' : List (Nat × Bool)}, guardTmp ops j = some d → s.fr.get d = .bool b → KN n kn' s.fr → (bK b (bK q (go s kn') (skip s kn')) (bK q (skip s kn') (go s kn'))) →
        ∃ kn', KN n kn' s.fr ∧ ((awanted ops (some (j, q)) s.fr = some true ∧ go s kn') ∨ (awanted ops (some (j, q)) s.fr = some false ∧ skip s kn')) := by
      intro d b kn' hd hb hk hh
      refine ⟨kn', hk, ?_⟩
      have : awanted ops (some (j, q)) s.fr = some (b == q) := by rw [awanted, hd]; simp only [hb, guardIs]
      rw [this]
      cases b <;> cases q <;> first | exact .inl ⟨rfl, hh⟩ | exact .inr ⟨rfl, hh⟩
    split at h
    · rename_i d hd
      split at h
      · rename_i b hb
        exact lit hd (hkn d b hb) hkn h
      · rename_i hnone
        rw [getK_eq] at h
        simp only [setK_eq] at h
        have cons : ∀ {b : Bool}, s.fr.get d = .bool b → KN n ((d, b) :: kn) s.fr := by
          intro b hb x c hx
          rw [knOf] at hx
          by_cases e : d = x
          · subst e; rw [beq_same, cond_true] at hx; cases hx; exact hb
          · rw [beq_ne e, cond_false] at hx; exact hkn x c hx
        split at h
        · rename_i b hb
          cases hbb : b with
          | true =>
            rw [hbb] at hb
            have hs : s.fr.set d (.bool true) = s.fr := by rw [← hb]; exact Fr.set_get _ _
            have h1 := h.1 hbb
            rw [hs] at h1
            exact lit hd hb (cons hb) h1
          | false =>
            rw [hbb] at hb
            have hs : s.fr.set d (.bool false) = s.fr := by rw [← hb]; exact Fr.set_get _ _
            have h1 := h.2 hbb
            rw [hs] at h1
            exact lit hd hb (cons hb) h1
        · rename_i hb
          refine ⟨kn, hkn, .inr ⟨?_, h⟩⟩
          rw [awanted, hd]; simp only [hb, guardIs]
        · exact h.elim
    · exact h.elim

omit [Syms] in
theorem opDk_some {n : Nat} {s : St} {kn : List (Nat × Bool)} (hkn : KN n kn s.fr) {op : Op} {id : Nat} {k : Kont} (h : opDk S kn op s id k) : ∃ v e rd fz, aop (S.env true) s id op = .ok v e rd fz ∧ k v e rd fz := by
  unfold opDk at h
  split at h
  · rename_i c a b
    simp only [opndK_eq] at h
    split at h
    · rename_i hc
      have := kb_some hkn hc
      exact ⟨_, _, _, _, by simp only [aop, this, opPick, cond_true]; rfl, h⟩
    · rename_i hc
      have := kb_some hkn hc
      exact ⟨_, _, _, _, by simp only [aop, this, opPick, cond_false]; rfl, h⟩
    · exact opD_some h
  · exact opD_some h

omit [Syms] in
theorem opsD_some {n : Nat} {ops : List Oper} : ∀ (r : List Oper), (∀ o ∈ r, dstOk n o) → ∀ (id : Nat) (s : St) (kn : List (Nat × Bool)) (fs : List Foot) (k : St → List (Nat × Bool) → List Foot → Prop), KN n kn s.fr → (∀ k, k < n → s.fr.has k = true) →
    opsD S ops r id s kn fs k → ∃ s' kn' fs', seqD (S.env true) ops r id s fs = .at s' fs' ∧ k s' kn' fs' ∧ KN n kn' s'.fr
  | [], _, id, s, kn, fs, k, hkn, _, h => ⟨s, kn, fs, rfl, h, hkn⟩
  | o :: r, hd, id, s, kn, fs, k, hkn, hh, h => by
    have h : guardD ops s kn (fun s kn => opDk S kn o.op s id fun v e rd fz => must (fz.all (isIn · s.F)) (opsD S ops r (Nat.add id (nat_lit 64)) ⟨putK o.dst s.fr v, happ s.H e, s.F, s.nx⟩ (knPut kn o.dst (knOp kn o.op)) (fs ++ [⟨rd, e.map (·.1), false⟩]) k))
      (fun s kn => opsD S ops r (Nat.add id (nat_lit 64)) ⟨putK o.dst s.fr und, s.H, s.F, s.nx⟩ (knPut kn o.dst none) (fs ++ [⟨[], [], false⟩]) k) o.guard := h
    simp only [putK_eq] at h
    have ho := hd o List.mem_cons_self
    have hr : ∀ o ∈ r, dstOk n o := fun o h => hd o (List.mem_cons_of_mem _ h)
    obtain ⟨kn1, hkn1, hw⟩ := guardD_some hkn h
    rcases hw with ⟨hw, hgo⟩ | ⟨hw, hskip⟩
    · obtain ⟨v, e, rd, fz, h1, h2⟩ := opDk_some hkn1 hgo
      obtain ⟨h3, h4⟩ := must_and h2
      obtain ⟨s', kn', fs', h5, h6, h7⟩ := opsD_some r hr _ _ _ _ _ (hkn1.put hh ho fun b hb => knOp_some hkn1 hb h1) (put_has hh _ _) h4
      refine ⟨s', kn', fs', ?_, h6, h7⟩
      rw [seqD]
      have : stepD (S.env true) ops id o s = .at ⟨put s.fr o.dst v, happ s.H e, s.F, s.nx⟩ [⟨rd, e.map (·.1), false⟩] := by
        unfold stepD
        simp only [hw, h1, behindD, h3, cond_true]
      rw [this]
      exact h5
    · obtain ⟨s', kn', fs', h5, h6, h7⟩ := opsD_some r hr _ _ _ _ _ (hkn1.put hh ho (q := none) (v := und) fun b hb => by cases hb) (put_has hh _ _) hskip
      refine ⟨s', kn', fs', ?_, h6, h7⟩
      rw [seqD]
      have : stepD (S.env true) ops id o s = .at ⟨put s.fr o.dst und, s.H, s.F, s.nx⟩ [⟨[], [], false⟩] := by
        unfold stepD
        simp only [hw]
      rw [this]
      exact h5

/-- From a state that is told so a text leads to states that are told so. -/
def Sem (P : Program) (n : Nat) (code : Code) (s : St) (K : AX → St → Prop) : Prop :=
  ∀ (c : Ctx) (wE : World) (m : Map) (a : Act) (w : World) (Q : Exit → Act → World → Prop), Good n c wE m s a w → a.defers = [] →
    (∀ x s' m' a' w', K x s' → Good n c wE m' s' a' w' → a'.defers = [] → Q x.out a' w') → code.wp P Q a w

/-- What tells a state tells another one. -/
def SEnt (n : Nat) (s s' : St) : Prop := ∀ (c : Ctx) (wE : World) (m : Map) (a : Act) (w : World), Good n c wE m s a w → ∃ m', Good n c wE m' s' a w

theorem Sem.weaken {n : Nat} {code : Code} {s s' : St} {K K' : AX → St → Prop} (h : Sem P n code s' K') (hs : SEnt n s s') (hK : ∀ x t, K' x t → ∃ t', K x t' ∧ SEnt n t t') : Sem P n code s K := by
  intro c wE m a w Q hg hd hQ
  obtain ⟨m', hg'⟩ := hs c wE m a w hg
  refine h c wE m' a w Q hg' hd fun x t m1 a1 w1 hk hg1 hd1 => ?_
  obtain ⟨t', h1, h2⟩ := hK x t hk
  obtain ⟨m2, hg2⟩ := h2 c wE m1 a1 w1 hg1
  exact hQ x t' m2 a1 w1 h1 hg2 hd1

omit [Syms] in
theorem SEnt.refl [Syms] (n : Nat) (s : St) : SEnt n s s := fun _ _ m _ _ h => ⟨m, h⟩

theorem SEnt.trans {n : Nat} {a b c : St} (h : SEnt n a b) (k : SEnt n b c) : SEnt n a c := fun x wE m y w hg => by
  obtain ⟨m1, h1⟩ := h x wE m y w hg
  exact k x wE m1 y w h1

theorem Good.nxt {n : Nat} {c : Ctx} {wE : World} {m : Map} {s : St} {a : Act} {w : World} (h : Good n c wE m s a w) (k : Nat) : Good n c wE m (withF s s.F k) a w := ⟨h.here.nxt k, h.old⟩

theorem ubAll_good {n : Nat} {c : Ctx} {wE w : World} {m : Map} {a : Act} {kn : List (Nat × Bool)} {H : Heap} {F : List Nat} {nx : Nat} : ∀ (ops : List Oper) {fr : Fr}, Good n c wE m ⟨fr, H, F, nx⟩ a w → Good n c wE m ⟨ubAll kn ops fr, H, F, nx⟩ a w
  | [], fr, h => h
  | o :: r, fr, h => by
    rw [ubAll]
    split
    · rename_i d hd
      split
      · exact ubAll_good r h
      · rw [setK_eq, getK_eq]
        exact ubAll_good r (h.set (d := d) (toUb_le _))
    · exact ubAll_good r h

omit [Syms] in
theorem Fr.reub_get : ∀ (f0 f : Fr) (k : Nat), (f0.reub f).get k = f.get k ∨ ∃ b, f.get k = .bool b ∧ (f0.reub f).get k = .ub b
  | .nil, f, k => .inl rfl
  | .nd v l r, .nil, k => .inl rfl
  | .nd v l r, .nd v' l' r', k => by
    rw [Fr.reub, Fr.get_nd, Fr.get_nd]
    split
    · unfold reubV
      split
      · exact .inr ⟨_, rfl, rfl⟩
      · exact .inl rfl
    · split
      · exact Fr.reub_get l l' _
      · exact Fr.reub_get r r' _

omit [Syms] in
theorem Fr.reub_has : ∀ (f0 f : Fr) (k : Nat), (f0.reub f).has k = f.has k
  | .nil, f, k => rfl
  | .nd v l r, .nil, k => rfl
  | .nd v l r, .nd v' l' r', k => by
    rw [Fr.reub, Fr.has, Fr.has]
    split
    · rfl
    · split
      · exact Fr.reub_has l l' _
      · exact Fr.reub_has r r' _

omit [Syms] in
theorem knOf_cons_ne {p : Nat × Bool} {r : List (Nat × Bool)} {d : Nat} (h : p.1 ≠ d) : knOf (p :: r) d = knOf r d := by rw [knOf, beq_ne h]; rfl

/-- A frame, some of whose bools are told as not known. -/
theorem Good.frame {n : Nat} {c : Ctx} {wE w : World} {m : Map} {s : St} {a : Act} (h : Good n c wE m s a w) {fr1 : Fr} (hf : ∀ k, VLe (s.fr.get k) (fr1.get k)) (hh : ∀ k, fr1.has k = s.fr.has k) : Good n c wE m ⟨fr1, s.H, s.F, s.nx⟩ a w :=
  ⟨⟨h.here.sr, fun t => hf t _ _ _ _ (h.here.fr t), fun k hk => by rw [hh]; exact h.here.has k hk, h.here.sz, h.here.nx⟩, h.old⟩

omit [Syms] in
theorem knSet_has (kn : List (Nat × Bool)) : ∀ (l : List (Nat × Bool)) (fr : Fr) (k : Nat), (knSet kn l fr).has k = fr.has k
  | [], fr, k => rfl
  | p :: r, fr, k => by
    rw [knSet]
    split
    · rw [setK_eq, Fr.has_set]; exact knSet_has kn r fr k
    · exact knSet_has kn r fr k

/-- What a slot was told as, or as a bool that is the same. -/
theorem knSet_at (kn : List (Nat × Bool)) : ∀ (l : List (Nat × Bool)) (fr fr0 : Fr), (∀ p ∈ l, ∀ b, knOf kn p.1 = some b → fr0.get p.1 = .bool b) → (∀ k, VLe (fr0.get k) (fr.get k)) → ∀ k, VLe (fr0.get k) ((knSet kn l fr).get k)
  | [], fr, fr0, _, h, k => h k
  | p :: r, fr, fr0, hp, h, k => by
    have ih := knSet_at kn r fr fr0 (fun q hq => hp q (List.mem_cons_of_mem _ hq)) h k
    rw [knSet]
    split
    · rename_i b hb
      rw [setK_eq]
      rcases Fr.get_set_or' (knSet kn r fr) p.1 k (.bool b) with e | ⟨rfl, e⟩
      · rw [e]; exact ih
      · rw [e, hp p List.mem_cons_self b hb]; exact .refl _
    · exact ih

theorem ubAll_at (kn : List (Nat × Bool)) : ∀ (ops : List Oper) (fr : Fr) (k : Nat), VLe (fr.get k) ((ubAll kn ops fr).get k) ∧ (ubAll kn ops fr).has k = fr.has k
  | [], fr, k => ⟨.refl _, rfl⟩
  | o :: r, fr, k => by
    rw [ubAll]
    split
    · rename_i d hd
      split
      · exact ubAll_at kn r fr k
      · rw [setK_eq, getK_eq]
        obtain ⟨h1, h2⟩ := ubAll_at kn r (fr.set d (toUb (fr.get d))) k
        refine ⟨VLe.trans ?_ h1, h2.trans (Fr.has_set _ _ _ _)⟩
        rcases Fr.get_set_or' fr d k (toUb (fr.get d)) with e | ⟨rfl, e⟩
        · rw [e]; exact .refl _
        · rw [e]; exact toUb_le _
    · exact ubAll_at kn r fr k

theorem backF_good {n : Nat} {c : Ctx} {wE w : World} {m : Map} {a : Act} {kn : List (Nat × Bool)} {H : Heap} {F : List Nat} {nx : Nat} (fr0 : Fr) (ops : List Oper) {fr : Fr} (h : Good n c wE m ⟨fr, H, F, nx⟩ a w) (hkn : KN n kn fr) : Good n c wE m ⟨backF fr0 kn ops fr, H, F, nx⟩ a w := by
  refine h.frame (fr1 := backF fr0 kn ops fr) (fun k => ?_) (fun k => ?_)
  · unfold backF
    refine knSet_at kn kn _ fr (fun p _ b hb => hkn p.1 b hb) (fun k => ?_) k
    · refine VLe.trans (ubAll_at kn ops fr k).1 ?_
      rcases Fr.reub_get fr0 (ubAll kn ops fr) k with e | ⟨b, e1, e2⟩
      · rw [e]; exact .refl _
      · rw [e1, e2]; exact ub_le b
  · unfold backF
    rw [knSet_has, Fr.reub_has]
    exact (ubAll_at kn ops fr k).2

omit [Syms] in
theorem allBits_bit {k b : Nat} (h : allBits k b = true) {j : Nat} (hj : j < k) : b.testBit j = true := by
  have : b = 2 ^ k - 1 := Nat.eq_of_beq_eq_true h
  rw [this, Nat.testBit_two_pow_sub_one]
  exact decide_eq_true hj

omit [Syms] in
theorem cutGo_ok : ∀ (bs : List Nat) (n : Nat), bs.length = n → cutGo bs n ≤ n ∧ ∀ i j, cutGo bs n ≤ i → i < n → j < i → (bs.reverse.getD i 0).testBit j = true
  | [], n, h => ⟨Nat.zero_le _, fun i j _ h2 => by simp at h; omega⟩
  | b :: r, n, h => by
    obtain ⟨n, rfl⟩ : ∃ k, n = k + 1 := ⟨n - 1, by simp at h; omega⟩
    have hr : r.length = n := by simpa using h
    obtain ⟨i1, i2⟩ := cutGo_ok r n hr
    rw [cutGo]
    cases hb : allBits (Nat.pred (n + 1)) b with
    | false => exact ⟨Nat.le_refl _, fun i j h1 h2 => by simp only [cond_false] at h1; omega⟩
    | true =>
      simp only [cond_true, Nat.pred_succ] at hb ⊢
      refine ⟨by omega, fun i j h1 h2 h3 => ?_⟩
      rw [List.reverse_cons]
      by_cases e : i = n
      · subst e
        have : (r.reverse ++ [b]).getD i 0 = b := by
          simp only [List.getD_eq_getElem?_getD]
          rw [List.getElem?_append_right (by simp [hr])]
          simp [hr]
        rw [this]
        exact allBits_bit hb h3
      · have : (r.reverse ++ [b]).getD i 0 = r.reverse.getD i 0 := by
          simp only [List.getD_eq_getElem?_getD]
          rw [List.getElem?_append_left (by simp [hr]; omega)]
        rw [this]
        exact i2 i j h1 (by omega) h3

omit [Syms] in
theorem cutOf_ok (ops : Array Oper) : cutOf ops.toList ≤ ops.size ∧ CutOK ops (cutOf ops.toList) := by
  obtain ⟨⟨t, h1, h2⟩, _⟩ := befL_spec ops.toList []
  have hl : (befL ops.toList []).reverse.length = ops.toList.length := by rw [List.length_reverse, h1]; simpa using h2
  obtain ⟨k1, k2⟩ := cutGo_ok _ _ hl
  refine ⟨by simpa [cutOf] using k1, fun i j h3 h4 h5 => ?_⟩
  have := k2 i j h3 (by simpa using h4) h5
  rw [List.reverse_reverse] at this
  exact this

theorem regC_semX (hT : TyOK P S.T) (hC : ConOK P S) (hmx : P.follows .mixedOrders = true) {n id : Nat} {ops : Array Oper} {draw : Bool} (hd : dstsOk n ops.toList = true) (hdr : drawsOk (.region id ops draw) = true) {s : St} {k : St → Prop} (h : regC S ops.toList draw s k) :
    ∀ (c : Ctx) (wE : World) (m : Map) (a : Act) (w : World) (Q : Exit → Act → World → Prop), Good n c wE m s a w → a.defers = [] →
      (∀ s' m' a' w', k s' → Good n c wE m' s' a' w' → a'.defers = [] → Ext c m s.H s.F w m' s'.H s'.F w' → Q .normal a' w') → (Code.region id ops draw).wp P Q a w := by
  intro c wE m a w Q hg hdf hQ
  cases draw with
  | false =>
    have h : opsC S ops.toList ops.toList s.nx (withF s s.F ops.toList.length) k := h
    refine wp_region ?_
    have := opsC_wp hT (conCall_ok false hC) hC.hook (base := s.nx) (dsts_of hd) (Q := Q) (k := k) ops.toList 0 rfl (hg.nxt ops.toList.length) (fun j _ _ b hb _ => hg.here.nx b (by omega)) (by simp [withF]) h fun s' m' a' w' hk hg' hd' hx' => hQ s' m' a' w' hk hg' (hd'.trans hdf) hx'
    rw [List.range_eq_range', ← Array.length_toList]
    exact this
  | true =>
    have hg1 : Good n c wE m ⟨s.fr.map unub, s.H, s.F, s.nx⟩ a w := hg.step (FEq.unub s.fr) (.refl _)
    generalize hN : cutOf ops.toList = N at h
    have h : opsD S ops.toList (ops.toList.take (cutOf ops.toList)) s.nx (withF ⟨s.fr.map unub, s.H, s.F, s.nx⟩ (frzX S (ops.toList.take (cutOf ops.toList)) s ++ s.F) ops.toList.length) [] [] fun s' kn fs => must (feetOk fs (befL ops.toList []) 0)
      (opsC S ops.toList (ops.toList.drop (cutOf ops.toList)) (s.nx + STRIDE * cutOf ops.toList) ⟨backF s.fr kn (ops.toList.take (cutOf ops.toList)) s'.fr, s'.H, s'.F, s'.nx⟩ k) := h
    rw [hN] at h
    obtain ⟨hle, hcut⟩ := cutOf_ok ops
    rw [hN] at hle hcut
    obtain ⟨s', kn, fs', h1, h2, h2k⟩ := opsD_some (n := n) (ops.toList.take N) (fun o ho => dstsOk_spec hd o (List.mem_of_mem_take ho)) _ _ _ _ _ (fun d b hb => by cases hb) (by intro q hq; exact hg1.here.has q hq) h
    obtain ⟨h3, h4⟩ := must_and h2
    have hok : drawOk ops.toList = true := by simpa [drawsOk] using hdr
    refine sim_drawT hT rfl (conCall_ok true hC) hmx hd hok hle hcut h1 h3 hg1.here fun a' w' m' ha' hd' hmv hfr hlt => ?_
    have hg2 := backF_good s.fr (ops.toList.take N) (hg1.moves ha' hmv.ext) h2k
    have := opsC_wp hT (conCall_ok false hC) hC.hook (base := s.nx) (dsts_of hd) (Q := Q) (k := k) (ops.toList.drop N) N rfl hg2 hfr hlt h4 fun s1 m1 a1 w1 hk hg1 hd1 hx1 => hQ s1 m1 a1 w1 hk hg1 ((hd1.trans hd').trans hdf) (hmv.ext.trans hx1)
    rw [List.length_drop, Array.length_toList] at this
    exact this

theorem regC_sem (hT : TyOK P S.T) (hC : ConOK P S) (hmx : P.follows .mixedOrders = true) {n id : Nat} {ops : Array Oper} {draw : Bool} (hd : dstsOk n ops.toList = true) (hdr : drawsOk (.region id ops draw) = true) {s : St} {k : St → Prop} (h : regC S ops.toList draw s k) :
    Sem P n (.region id ops draw) s fun x s' => x = .normal ∧ k s' := fun c wE m a w Q hg hdf hQ =>
  regC_semX hT hC hmx hd hdr h c wE m a w Q hg hdf fun s' m' a' w' hk hg' hd' _ => hQ .normal s' m' a' w' ⟨rfl, hk⟩ hg' hd'

/-- The loops of a text. -/
def loopsOf : Code → List Code
  | .seq a b => loopsOf a ++ loopsOf b
  | .cond _ a b => loopsOf a ++ loopsOf b
  | .block _ b => loopsOf b
  | .loop b => [b]
  | _ => []

/-- What is known of a loop holds. -/
def LoopOK (P : Program) (n : Nat) (L : St → (AX → St → Prop) → Prop) (b : Code) : Prop :=
  ∀ (s : St) (K : AX → St → Prop), L s K → Sem P n (.loop b) s K

def LoopsOK (P : Program) (S : SE) (n : Nat) (code : Code) : Prop := ∀ b ∈ loopsOf code, ∀ L, S.loop (keyOf b) = some L → LoopOK P n L b

end
end Go.Proofs.Ytmkmjjodiicmlaa.VS

/- Codes of data, of values with rows of their own; what a function's text answers, as a tree. Definitions alone. Conditions: none. -/
namespace Go.Proofs.Ytmkmjjodiicmlaa.VS
universe u

structure Inf where
  ino : Int
  kind : Int
  mode : Int
  links : Int
  size : Int
  deriving DecidableEq, Inhabited

structure Rpl where
  data : List UInt8
  names : List Str
  info : Inf
  deriving DecidableEq, Inhabited

/-- What a struct's cells are. -/
inductive FT where
  | int | str | L (g : GT)

abbrev FT.T : FT → Type
  | .int => Int
  | .str => Str
  | .L g => List g.T

def FT.en : (f : FT) → f.T → AV
  | .int, (n : Int) => .int .i64 n
  | .str, (s : Str) => .str s
  | .L g, (l : List g.T) => .tl g l

def FT.de : (f : FT) → AV → Option f.T
  | .int, a => decInt a
  | .str, a => decStr a
  | .L g, a => decL g a

/-- A row of data, its bytes' ranges asked. -/
def decLC (g : GT) (k : List g.T → Prop) (a : AV) : Prop :=
  match a with
  | .sl xs => decAllP g xs k
  | a => optC k (decL g a)

def FT.deC (f : FT) (a : AV) (k : f.T → Prop) : Prop :=
  match f, k with
  | .L g, k => decLC g k a
  | f, k => optC k (f.de a)

abbrev FP : List FT → Type
  | [] => Unit
  | [f] => f.T
  | f :: g :: r => f.T × FP (g :: r)

def FP.en : (l : List FT) → FP l → List AV
  | [], _ => []
  | [f], x => [f.en x]
  | f :: g :: r, x => f.en x.1 :: FP.en (g :: r) x.2

def FP.de : (l : List FT) → List AV → Option (FP l)
  | [], [] => some ()
  | [f], [a] => f.de a
  | f :: g :: r, a :: q => match f.de a, FP.de (g :: r) q with
    | some x, some y => some (x, y)
    | _, _ => none
  | _, _ => none

def FP.deC : (l : List FT) → List AV → (FP l → Prop) → Prop
  | [], [], k => k ()
  | [f], [a], k => f.deC a k
  | f :: g :: r, a :: q, k => f.deC a fun x => FP.deC (g :: r) q fun y => k (x, y)
  | _, _, _ => False

/-- The structs. -/
inductive SC where
  | nam | blk | nod | dsk | opn | spt | row | akt | fil | cnf | tbl | wld | inf | rpl

abbrev SC.T : SC → Type
  | .nam => Nam | .blk => Blk | .nod => Nod | .dsk => Dsk | .opn => Opn | .spt => Spt | .row => Rwo | .akt => Akt
  | .fil => Fil | .cnf => Cnf | .tbl => Tbl | .wld => Wld | .inf => Inf | .rpl => Rpl

abbrev SC.fs : SC → List FT
  | .nam => [.str, .int]
  | .blk => [.int, .L .u8]
  | .nod => [.int, .int, .int, .int, .int, .L .blk, .str, .L .nam]
  | .dsk => [.int, .int, .int, .L .nod]
  | .opn => [.int, .str, .str, .int, .int, .int, .L .u8]
  | .spt => [.int, .int]
  | .row => [.int, .int, .int]
  | .akt => [.int, .int, .L .u8]
  | .fil => [.int, .L .blk]
  | .cnf => [.L .int, .int]
  | .tbl => [.int, .L .row, .L .row, .int]
  | .wld => [.L .int, .int, .L .dsk, .int, .L .row, .L .row, .int]
  | .inf => [.int, .int, .int, .int, .int]
  | .rpl => [.L .u8, .L .str, .int, .int, .int, .int, .int]

def SC.mk : (s : SC) → FP s.fs → s.T
  | .nam, (x : Str × Int) => (⟨x.1, x.2⟩ : Nam)
  | .blk, (x : Int × List UInt8) => (⟨x.1, x.2⟩ : Blk)
  | .nod, (x : Int × Int × Int × Int × Int × List Blk × Str × List Nam) => (⟨x.1, x.2.1, x.2.2.1, x.2.2.2.1, ⟨x.2.2.2.2.1, x.2.2.2.2.2.1⟩, x.2.2.2.2.2.2.1, x.2.2.2.2.2.2.2⟩ : Nod)
  | .dsk, (x : Int × Int × Int × List Nod) => (⟨x.1, x.2.1, x.2.2.1, x.2.2.2⟩ : Dsk)
  | .opn, (x : Int × Str × Str × Int × Int × Int × List UInt8) => (⟨x.1, x.2.1, x.2.2.1, x.2.2.2.1, x.2.2.2.2.1, x.2.2.2.2.2.1, x.2.2.2.2.2.2⟩ : Opn)
  | .spt, (x : Int × Int) => (⟨x.1, x.2⟩ : Spt)
  | .row, (x : Int × Int × Int) => (⟨⟨x.1, x.2.1⟩, x.2.2⟩ : Rwo)
  | .akt, (x : Int × Int × List UInt8) => (⟨x.1, x.2.1, x.2.2⟩ : Akt)
  | .fil, (x : Int × List Blk) => (⟨x.1, x.2⟩ : Fil)
  | .cnf, (x : List Int × Int) => (⟨x.1, x.2⟩ : Cnf)
  | .tbl, (x : Int × List Rwo × List Rwo × Int) => (⟨x.1, x.2.1, x.2.2.1, x.2.2.2⟩ : Tbl)
  | .wld, (x : List Int × Int × List Dsk × Int × List Rwo × List Rwo × Int) => (⟨⟨x.1, x.2.1⟩, x.2.2.1, ⟨x.2.2.2.1, x.2.2.2.2.1, x.2.2.2.2.2.1, x.2.2.2.2.2.2⟩⟩ : Wld)
  | .inf, (x : Int × Int × Int × Int × Int) => (⟨x.1, x.2.1, x.2.2.1, x.2.2.2.1, x.2.2.2.2⟩ : Inf)
  | .rpl, (x : List UInt8 × List Str × Int × Int × Int × Int × Int) => (⟨x.1, x.2.1, ⟨x.2.2.1, x.2.2.2.1, x.2.2.2.2.1, x.2.2.2.2.2.1, x.2.2.2.2.2.2⟩⟩ : Rpl)

/-- A struct's cells, as data. -/
def SC.un : (s : SC) → s.T → FP s.fs
  | .nam, (x : Nam) => (x.name, x.ino)
  | .blk, (x : Blk) => (x.pos, x.data)
  | .nod, (x : Nod) => (x.ino, x.kind, x.mode, x.links, x.file.size, x.file.blocks, x.target, x.names)
  | .dsk, (x : Dsk) => (x.blocks, x.inodes, x.next, x.nodes)
  | .opn, (x : Opn) => (x.kind, x.path, x.dest, x.mode, x.pos, x.n, x.data)
  | .spt, (x : Spt) => (x.branch, x.ino)
  | .row, (x : Rwo) => (x.spot.branch, x.spot.ino, x.u)
  | .akt, (x : Akt) => (x.kind, x.pos, x.b)
  | .fil, (x : Fil) => (x.size, x.blocks)
  | .cnf, (x : Cnf) => (x.ways, x.policy)
  | .tbl, (x : Tbl) => (x.next, x.rows, x.homes, x.cursor)
  | .wld, (w : Wld) => (w.conf.ways, w.conf.policy, w.disks, w.table.next, w.table.rows, w.table.homes, w.table.cursor)
  | .inf, (x : Inf) => (x.ino, x.kind, x.mode, x.links, x.size)
  | .rpl, (x : Rpl) => (x.data, x.names, x.info.ino, x.info.kind, x.info.mode, x.info.links, x.info.size)

/-- A struct's cells. -/
def SC.cs : (s : SC) → s.T → List AV
  | .nam, (x : Nam) => [.str x.name, .int .i64 x.ino]
  | .blk, (x : Blk) => [.int .i64 x.pos, .tl .u8 x.data]
  | .nod, (x : Nod) => [.int .i64 x.ino, .int .i64 x.kind, .int .i64 x.mode, .int .i64 x.links, .int .i64 x.file.size, .tl .blk x.file.blocks, .str x.target, .tl .nam x.names]
  | .dsk, (x : Dsk) => [.int .i64 x.blocks, .int .i64 x.inodes, .int .i64 x.next, .tl .nod x.nodes]
  | .opn, (x : Opn) => [.int .i64 x.kind, .str x.path, .str x.dest, .int .i64 x.mode, .int .i64 x.pos, .int .i64 x.n, .tl .u8 x.data]
  | .spt, (x : Spt) => [.int .i64 x.branch, .int .i64 x.ino]
  | .row, (x : Rwo) => [.int .i64 x.spot.branch, .int .i64 x.spot.ino, .int .i64 x.u]
  | .akt, (x : Akt) => [.int .i64 x.kind, .int .i64 x.pos, .tl .u8 x.b]
  | .fil, (x : Fil) => [.int .i64 x.size, .tl .blk x.blocks]
  | .cnf, (x : Cnf) => [.tl .int x.ways, .int .i64 x.policy]
  | .tbl, (x : Tbl) => [.int .i64 x.next, .tl .row x.rows, .tl .row x.homes, .int .i64 x.cursor]
  | .wld, (w : Wld) => [.tl .int w.conf.ways, .int .i64 w.conf.policy, .tl .dsk w.disks, .int .i64 w.table.next, .tl .row w.table.rows, .tl .row w.table.homes, .int .i64 w.table.cursor]
  | .inf, (x : Inf) => [.int .i64 x.ino, .int .i64 x.kind, .int .i64 x.mode, .int .i64 x.links, .int .i64 x.size]
  | .rpl, (x : Rpl) => [.tl .u8 x.data, .tl .str x.names, .int .i64 x.info.ino, .int .i64 x.info.kind, .int .i64 x.info.mode, .int .i64 x.info.links, .int .i64 x.info.size]

/-- What an argument is, an answer: data alone. -/
inductive DT where
  | int | u8 | bool | str | L (g : GT) | S (s : SC) | look (s : SC) | lk (f : FT) | clo (f : FuncId) (d : DT) | nil | cons (a b : DT)

abbrev DT.T : DT → Type
  | .int => Int
  | .u8 => UInt8
  | .bool => Bool
  | .str => Str
  | .L g => List g.T
  | .S s => s.T
  | .look s => s.T
  | .lk f => f.T
  | .clo _ d => d.T
  | .nil => Unit
  | .cons a b => a.T × b.T

def DT.en : (d : DT) → d.T → List AV
  | .int, (n : Int) => [.int .i64 n]
  | .u8, (b : UInt8) => [.int .u8 b.toNat]
  | .bool, (b : Bool) => [.ub b]
  | .str, (s : Str) => [.str s]
  | .L g, (l : List g.T) => [.tl g l]
  | .S s, x => [.agg (s.cs x)]
  | .look s, x => [.cptr (.agg (s.cs x))]
  | .lk f, x => [.cptr (.agg [f.en x])]
  | .clo f d, x => [.fn f (d.en x)]
  | .nil, _ => []
  | .cons a b, x => a.en x.1 ++ b.en x.2

def de1 {α : Type} (f : AV → Option α) : List AV → Option (α × List AV)
  | a :: r => match f a with
    | some x => some (x, r)
    | none => none
  | [] => none

def optMap {α β : Type} (f : α → β) : Option α → Option β
  | some x => some (f x)
  | none => none

def whole {α : Type} : Option (α × List AV) → Option α
  | some (x, []) => some x
  | _ => none

/-- Bytes whose ranges are asked elsewhere. -/
def rawB : AV → Option UInt8
  | .int .u8 n => some (UInt8.ofNat n.toNat)
  | _ => none

def rawL : AV → Option (List UInt8)
  | .sl xs => decAll rawB xs
  | a => decL .u8 a

def rawLL : AV → Option (List (List UInt8))
  | .sl xs => decAll rawL xs
  | a => decL .bss a

def DT.de : (d : DT) → List AV → Option (d.T × List AV)
  | .int => de1 decInt
  | .u8 => de1 rawB
  | .L .u8 => de1 rawL
  | .L .bss => de1 rawLL
  | .bool => de1 decBool
  | .str => de1 decStr
  | .L g => de1 (decL g)
  | .S s => de1 fun a => match a with
    | .agg cs => optMap s.mk (FP.de s.fs cs)
    | _ => none
  | .look s => de1 fun a => match a with
    | .cptr (.agg cs) => optMap s.mk (FP.de s.fs cs)
    | _ => none
  | .lk f => de1 fun a => match a with
    | .cptr (.agg [c]) => f.de c
    | _ => none
  | .clo f d => de1 fun a => match a with
    | .fn g cs => bif g.beq f then whole (d.de cs) else none
    | _ => none
  | .nil => fun l => some ((), l)
  | .cons a b => fun l => match a.de l with
    | some (x, r) => match b.de r with
      | some (y, q) => some ((x, y), q)
      | none => none
    | none => none

def rngB : AV → Prop
  | .int .u8 n => 0 ≤ n ∧ n < 256
  | _ => True

def rngL : List AV → Prop
  | [] => True
  | [a] => rngB a
  | a :: b :: r => rngB a ∧ rngL (b :: r)

/-- How many values. -/
def DT.ar : DT → Nat
  | .nil => 0
  | .cons a b => a.ar + b.ar
  | _ => 1

def andO : Option Prop → Option Prop → Option Prop
  | none, q => q
  | some p, none => some p
  | some p, some q => some (p ∧ q)

/-- What is asked of arguments: their bytes' ranges. -/
def DT.chk : (d : DT) → List AV → Option Prop
  | .u8, l => (match l with
    | a :: _ => some (rngB a)
    | [] => none)
  | .L .u8, l => (match l with
    | .sl (a :: xs) :: _ => some (rngL (a :: xs))
    | _ => none)
  | .L .bss, l => (match l with
    | .sl xs :: _ => rngLL xs
    | _ => none)
  | .clo _ d, l => (match l with
    | .fn _ cs :: _ => d.chk cs
    | _ => none)
  | .cons a b, l => andO (a.chk l) (b.chk (l.drop a.ar))
  | _, _ => none
where rngLL : List AV → Option Prop
  | [] => none
  | .sl (a :: xs) :: r => andO (some (rngL (a :: xs))) (rngLL r)
  | _ :: r => rngLL r

/-- One value as data, ranges asked. -/
def DT.deC : (d : DT) → AV → (d.T → Prop) → Prop
  | .u8, a, k => decB k a
  | .L g, a, k => decLC g k a
  | .S s, a, k => match a with
    | .agg cs => FP.deC s.fs cs fun x => k (s.mk x)
    | _ => False
  | d, a, k => askP (d.chk [a]) (optC k (whole (d.de [a])))

/-! Structs, some of whose rows are one's own: a row of marks. -/

def FO.cnt : FT → Bool → Nat
  | .L _, true => 1
  | _, _ => 0

def FO.en : (f : FT) → Bool → f.T → Nat → AV
  | .L g, true, (l : List g.T), n => .gs g n l.length
  | f, _, x, _ => f.en x

def FO.hp : (f : FT) → Bool → f.T → Nat → Heap
  | .L g, true, (l : List g.T), n => [(n, .tarr g l)]
  | _, _, _, _ => []

def hd : List Bool → Bool
  | b :: _ => b
  | [] => false

def FPO.cnt : List FT → List Bool → Nat
  | [], _ => 0
  | [f], m => FO.cnt f (hd m)
  | f :: g :: r, m => FO.cnt f (hd m) + FPO.cnt (g :: r) m.tail

def FPO.en : (l : List FT) → List Bool → FP l → Nat → List AV
  | [], _, _, _ => []
  | [f], m, x, n => [FO.en f (hd m) x n]
  | f :: g :: r, m, x, n => FO.en f (hd m) x.1 n :: FPO.en (g :: r) m.tail x.2 (n + FO.cnt f (hd m))

def FPO.hp : (l : List FT) → List Bool → FP l → Nat → Heap
  | [], _, _, _ => []
  | [f], m, x, n => FO.hp f (hd m) x n
  | f :: g :: r, m, x, n => FO.hp f (hd m) x.1 n ++ FPO.hp (g :: r) m.tail x.2 (n + FO.cnt f (hd m))

/-- Values with rows and boxes of their own. -/
inductive VT where
  | dt (d : DT) | dead | gs (g : GT) | boxS (s : SC) (m : List Bool) | aggS (s : SC) (m : List Bool) | box (t : VT) | nil | cons (a b : VT) | consA (a : VT) (g : GT) (j : Nat) (b : VT)

abbrev VT.T : VT → Type
  | .dt d => d.T
  | .dead => Unit
  | .gs g => List g.T
  | .boxS s _ => s.T
  | .aggS s _ => s.T
  | .box t => t.T
  | .nil => Unit
  | .cons a b => a.T × b.T
  | .consA a _ _ b => a.T × Nat × b.T

def VT.cnt : VT → Nat
  | .gs _ => 1
  | .boxS s m => 1 + FPO.cnt s.fs m
  | .aggS s m => FPO.cnt s.fs m
  | .box t => 1 + t.cnt
  | .cons a b => a.cnt + b.cnt
  | .consA a _ _ b => a.cnt + b.cnt
  | _ => 0

def VT.en : (t : VT) → t.T → Nat → List AV
  | .dt d, x, _ => d.en x
  | .dead, _, _ => [.dead]
  | .gs g, (l : List g.T), n => [.gs g n l.length]
  | .boxS _ _, _, n => [.ptr n 0]
  | .aggS s m, x, n => [.agg (FPO.en s.fs m (s.un x) n)]
  | .box _, _, n => [.ptr n 0]
  | .nil, _, _ => []
  | .cons a b, x, n => a.en x.1 n ++ b.en x.2 (n + a.cnt)
  | .consA a g j b, x, n => a.en x.1 n ++ (.gs g (n + j) x.2.1 :: b.en x.2.2 (n + a.cnt))

def VT.hp : (t : VT) → t.T → Nat → Heap
  | .gs g, (l : List g.T), n => [(n, .tarr g l)]
  | .boxS s m, x, n => (n, .cells (FPO.en s.fs m (s.un x) (n + 1))) :: FPO.hp s.fs m (s.un x) (n + 1)
  | .aggS s m, x, n => FPO.hp s.fs m (s.un x) n
  | .box t, x, n => (n, .cells (t.en x (n + 1))) :: t.hp x (n + 1)
  | .cons a b, x, n => a.hp x.1 n ++ b.hp x.2 (n + a.cnt)
  | .consA a _ _ b, x, n => a.hp x.1 n ++ b.hp x.2.2 (n + a.cnt)
  | _, _, _ => []

noncomputable section

/-- A row of one's own. -/
def rowV (H : Heap) (F : List Nat) (g : GT) (k : List g.T → Option Nat → Prop) : AV → Prop
  | .gs g1 b n => must (g1.size.beq g.size) (match hlive H F b with
    | some (.tarr g' l) => optC (fun l => n = l.length ∧ k l (some b)) (listOf g (dec g) (.tl g' l))
    | _ => False)
  | .osl m b lo n => must (m.beq g.size && lo.beq 0) (match hlive H F b with
    | some (.tarr g' l) => optC (fun l => n = l.length ∧ k l (some b)) (listOf g (dec g) (.tl g' l))
    | some (.arr m' xs) => must (m'.beq g.size) (decAllP g xs fun l => n = l.length ∧ k l (some b))
    | _ => False)
  | .nils => k [] none
  | .emp => k [] none
  | _ => False

def vwO (H : Heap) (F : List Nat) (f : FT) (b : Bool) (a : AV) (k : f.T → List (Option Nat) → List Nat → Prop) : Prop :=
  match f, b, k with
  | .L g, true, k => rowV H F g (fun x ob => k x [ob] []) a
  | f, _, k => resC true H DEEP a fun y is => f.deC y fun x => k x [] is

def vwP (H : Heap) (F : List Nat) : (l : List FT) → List Bool → List AV → (FP l → List (Option Nat) → List Nat → Prop) → Prop
  | [], _, [], k => k () [] []
  | [f], m, [a], k => vwO H F f (hd m) a k
  | f :: g :: r, m, a :: q, k => vwO H F f (hd m) a fun x s1 i1 => vwP H F (g :: r) m.tail q fun y s2 i2 => k (x, y) (s1 ++ s2) (i1 ++ i2)
  | _, _, _, _ => False

/-- A slice of one's own row that another value has, too: which row, how long. -/
def rowA (g : GT) (k : Nat → Nat → Prop) : AV → Prop
  | .gs g1 b n => must (g1.size.beq g.size) (k b n)
  | .osl m b lo n => must (m.beq g.size && lo.beq 0) (k b n)
  | _ => False

def isAt (b : Nat) : Option (Option Nat) → Bool
  | some (some c) => c.beq b
  | _ => false

abbrev VK (α : Type) := α → List (Option Nat) → List Nat → List AV → Prop

/-- Values as what a code says; where the rows and boxes lie; of which rows the data is told. -/
def vw (H : Heap) (F : List Nat) : (t : VT) → List AV → VK t.T → Prop
  | .dead, l, k => match l with
    | _ :: r => k () [] [] r
    | [] => False
  | .dt d, l, k => match l with
    | a :: r => resC true H DEEP a fun y is => d.deC y fun x => k x [] is r
    | [] => False
  | .gs g, l, k => match l with
    | a :: r => rowV H F g (fun x b => k x [b] [] r) a
    | [] => False
  | .boxS s m, l, k => match l with
    | .ptr b 0 :: r => (match hlive H F b with
      | some (.cells cs) => vwP H F s.fs m cs fun x src is => k (s.mk x) (some b :: src) is r
      | _ => False)
    | _ => False
  | .aggS s m, l, k => match l with
    | .agg cs :: r => vwP H F s.fs m cs fun x src is => k (s.mk x) src is r
    | _ => False
  | .box t, l, k => match l with
    | .ptr b 0 :: r => (match hlive H F b with
      | some (.cells cs) => vw H F t cs fun x src is rest => must rest.isEmpty (k x (some b :: src) is r)
      | _ => False)
    | _ => False
  | .nil, l, k => k () [] [] l
  | .cons a b, l, k => vw H F a l fun x s1 i1 l1 => vw H F b l1 fun y s2 i2 l2 => k (x, y) (s1 ++ s2) (i1 ++ i2) l2
  | .consA a g j b, l, k => vw H F a l fun x s1 i1 l1 => match l1 with
    | v :: l1 => rowA g (fun q n => must (isAt q s1[j]?) (vw H F b l1 fun y s2 i2 l2 => k (x, n, y) (s1 ++ s2) (i1 ++ i2) l2)) v
    | [] => False

def somes : List (Option Nat) → List Nat
  | [] => []
  | some b :: r => b :: somes r
  | none :: r => somes r

def onceB : List Nat → Bool
  | [] => true
  | a :: r => !(isIn a r) && onceB r

/-- A state as what a code says of some slots. -/
def view (vals : List AV) (t : VT) (s : St) (k : t.T → Prop) : Prop :=
  vw s.H s.F t vals fun x src is rest => must (rest.isEmpty && onceB (somes src) && disj is (somes src)) (k x)

def stOf (live : List Nat) (t : VT) (x : t.T) : St := ⟨frK live (t.en x 0), t.hp x 0, [], MANY⟩

def slots (live : List Nat) (s : St) : List AV := live.map (getK s.fr)

/-! ### Trees -/

inductive T (ρ : Type) : Type 1 where
  | fail : T ρ
  | ret (x : ρ) : T ρ
  | ite (c : Bool) (a b : T ρ) : T ρ
  | iteP (c : Prop) (a b : T ρ) : T ρ
  | req (c : Prop) (a : T ρ) : T ρ
  | same {α : Type} (x : α) (a : T ρ) : T ρ
  | bind {α : Type} (o : Option α) (f : α → T ρ) : T ρ
  | case {α β : Type} (r : α ⊕ β) (f : α → T ρ) (g : β → T ρ) : T ρ

def T.wp {ρ : Type} (t : T ρ) (K : ρ → Prop) : Prop :=
  @T.rec ρ (fun _ => Prop) False K (fun c _ _ a b => (c = true → a) ∧ (c = false → b)) (fun c _ _ a b => (c → a) ∧ (¬ c → b)) (fun c _ a => c ∧ a) (fun x _ a => x = x ∧ a)
    (fun o _ f => ∃ x, o = some x ∧ f x) (fun {α β} r _ _ f g => @Sum.rec α β (fun _ => Prop) f g r) t

open Classical in
def T.run {ρ : Type} : T ρ → Option ρ
  | .fail => none
  | .ret x => some x
  | .ite c a b => if c then a.run else b.run
  | .iteP c a b => if c then a.run else b.run
  | .req c a => if c then a.run else none
  | .same _ a => a.run
  | .bind o f => o.bind fun x => (f x).run
  | .case r f g => match r with
    | .inl x => (f x).run
    | .inr y => (g y).run

def iterT {π ρ : Type} (t : π → T (π ⊕ ρ)) : Nat → π → Option ρ
  | 0, _ => none
  | n + 1, p => match (t p).run with
    | none => none
    | some (.inl q) => iterT t n q
    | some (.inr r) => some r

open Classical in
/-- A loop. -/
def fixT {π ρ : Type} (t : π → T (π ⊕ ρ)) (p : π) : Option ρ :=
  if h : ∃ r n, iterT t n p = some r then some h.choose else none

/-! ### Loops, functions -/

/-- A way out of a loop. -/
structure Exi where
  ax : AX
  live : List Nat
  vt : VT

abbrev ExT : List Exi → Type
  | [] => Empty
  | [e] => e.vt.T
  | e :: f :: r => e.vt.T ⊕ ExT (f :: r)

def outK : (ex : List Exi) → ExT ex → (AX → St → Prop) → Prop
  | [], _, _ => False
  | [e], x, K => K e.ax (stOf e.live e.vt x)
  | e :: f :: r, x, K => @Sum.rec _ _ (fun _ => Prop) (fun a => K e.ax (stOf e.live e.vt a)) (fun b => outK (f :: r) b K) x

def AX.same : AX → AX → Bool
  | .normal, .normal => true
  | .exit i, .exit j => i.beq j
  | .ret, .ret => true
  | _, _ => false

def exitV : (ex : List Exi) → AX → St → (ExT ex → Prop) → Prop
  | [], _, _, _ => False
  | [e], ax, s, k => must (AX.same ax e.ax) (view (slots e.live s) e.vt s k)
  | e :: f :: r, ax, s, k => bK (AX.same ax e.ax) (view (slots e.live s) e.vt s fun x => k (.inl x)) (exitV (f :: r) ax s fun y => k (.inr y))

/-- What a loop does, by its rounds. -/
def loopT (live : List Nat) (t : VT) (ex : List Exi) (F : t.T → Option (ExT ex)) (s : St) (K : AX → St → Prop) : Prop :=
  view (slots live s) t s fun p => ∃ r, F p = some r ∧ outK ex r K

def roundT (S : SE) (live : List Nat) (t : VT) (ex : List Exi) (b : Code) (p : t.T) (K : t.T ⊕ ExT ex → Prop) : Prop :=
  codeC S b (stOf live t p) fun x s =>
    @AX.rec (fun _ => Prop) (view (slots live s) t s fun q => K (.inl q)) (fun id => exitV ex (.exit id) s fun r => K (.inr r)) (exitV ex .ret s fun r => K (.inr r)) x

def endA (T : Tabs) (rs : List ResultVar) (r : VT) (s : St) (K : r.T → Prop) : Prop :=
  optC (fun vs => view vs r s K) (aresult T s.fr s.H rs)

def endT (T : Tabs) (rs : List ResultVar) (r : VT) (K : r.T → Prop) (x : AX) (s : St) : Prop :=
  must (s.nx.ble WIDE) (@AX.rec (fun _ => Prop) (endA T rs r s K) (fun _ => False) (endA T rs r s K) x)

/-- A function, called with values. -/
def funA (S : SE) (fn : Func) (args : List AV) (r : VT) (K : r.T → Prop) : Prop :=
  optC (fun code => must (args.length.ble fn.ntmps) (codeC S code ⟨Fr.args args 0 (Fr.full 10), [], [], 0⟩ (endT S.T fn.results.toList r K))) fn.body

/-- A function, called with data. -/
def funT (S : SE) (fn : Func) (a : DT) (r : VT) (x : a.T) (K : r.T → Prop) : Prop := funA S fn (a.en x) r K

/-- A contract: what arguments, what answer. -/
def conT (a : DT) (r : VT) (F : a.T → Option r.T) (l : List AV) : Option Con :=
  match whole (a.de l) with
  | some x => some ⟨a.chk l, r.T, F x, fun y => oneOf (r.en y 0), fun y => r.hp y 0⟩
  | none => none

end

def conOr (g h : List AV → Option Con) (l : List AV) : Option Con :=
  match g l with
  | some c => some c
  | none => h l

def loopAt (fn : Func) (k : Nat) : Code := ((fn.body.map loopsOf).getD []).getD k .skip

end Go.Proofs.Ytmkmjjodiicmlaa.VS

