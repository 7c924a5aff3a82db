/- Operations in a row: what they leave, on both sides. Conditions: none. -/
import Derived.Test.YtopkeglpafdlfaaGreatVS19
import Derived.Calls
namespace Go.Proofs.YtopkeglpafdlfaaGreat.VS
variable [Syms]

/-! ### The frame -/

def Fr.has : Fr → Nat → Bool
  | .nil, _ => false
  | .nd _ l r, k => if k = 0 then true else if k % 2 = 1 then l.has (k / 2) else r.has (k / 2 - 1)

omit [Syms] in
theorem Fr.get_nd (v : AV) (l r : Fr) (k : Nat) : (Fr.nd v l r).get k = if k = 0 then v else if k % 2 = 1 then l.get (k / 2) else r.get (k / 2 - 1) := by
  rw [Fr.get]
  change (bif k.beq 0 then v else bif (k % 2).beq 1 then l.get (k / 2) else r.get (k / 2 - 1)) = _
  by_cases h : k = 0
  · subst h; rfl
  · rw [beq_ne h, if_neg h, cond_false]
    by_cases h1 : k % 2 = 1
    · rw [h1]; rfl
    · rw [beq_ne h1, if_neg h1, cond_false]

omit [Syms] in
theorem Fr.set_nd (v a : AV) (l r : Fr) (k : Nat) : (Fr.nd v l r).set k a = if k = 0 then .nd a l r else if k % 2 = 1 then .nd v (l.set (k / 2) a) r else .nd v l (r.set (k / 2 - 1) a) := by
  rw [Fr.set]
  change (bif k.beq 0 then Fr.nd a l r else bif (k % 2).beq 1 then Fr.nd v (l.set (k / 2) a) r else Fr.nd v l (r.set (k / 2 - 1) a)) = _
  by_cases h : k = 0
  · subst h; rfl
  · rw [beq_ne h, if_neg h, cond_false]
    by_cases h1 : k % 2 = 1
    · rw [h1]; rfl
    · rw [beq_ne h1, if_neg h1, cond_false]

omit [Syms] in
theorem Fr.get_set : ∀ (t : Fr) (k j : Nat) (a : AV), t.has k = true → (t.set k a).get j = if j = k then a else t.get j
  | .nil, k, j, a, h => by simp [Fr.has] at h
  | .nd v l r, k, j, a, h => by
    rw [Fr.has] at h
    rw [Fr.set_nd]
    by_cases h0 : k = 0
    · subst h0
      rw [if_pos rfl, Fr.get_nd, Fr.get_nd]
      by_cases hj : j = 0
      · simp [hj]
      · simp [hj]
    · rw [if_neg h0] at h ⊢
      by_cases h1 : k % 2 = 1
      · rw [if_pos h1] at h ⊢
        rw [Fr.get_nd, Fr.get_nd]
        by_cases hj : j = 0
        · subst hj; rw [if_pos rfl, if_pos rfl, if_neg (fun e => h0 e.symm)]
        · rw [if_neg hj, if_neg hj]
          by_cases hj1 : j % 2 = 1
          · rw [if_pos hj1, if_pos hj1, Fr.get_set l _ _ a h]
            by_cases e : j = k
            · subst e; simp
            · rw [if_neg e, if_neg (by omega)]
          · rw [if_neg hj1, if_neg hj1, if_neg (by intro e; subst e; exact hj1 h1)]
      · rw [if_neg h1] at h ⊢
        rw [Fr.get_nd, Fr.get_nd]
        by_cases hj : j = 0
        · subst hj; rw [if_pos rfl, if_pos rfl, if_neg (fun e => h0 e.symm)]
        · rw [if_neg hj, if_neg hj]
          by_cases hj1 : j % 2 = 1
          · rw [if_pos hj1, if_pos hj1, if_neg (by intro e; subst e; exact h1 hj1)]
          · rw [if_neg hj1, if_neg hj1, Fr.get_set r _ _ a h]
            by_cases e : j = k
            · subst e; simp
            · rw [if_neg e, if_neg (by omega)]

omit [Syms] in
theorem Fr.has_set : ∀ (t : Fr) (k j : Nat) (a : AV), (t.set k a).has j = t.has j
  | .nil, k, j, a => rfl
  | .nd v l r, k, j, a => by
    rw [Fr.set_nd]
    split
    · rfl
    · split
      · rw [Fr.has, Fr.has, Fr.has_set l]
      · rw [Fr.has, Fr.has, Fr.has_set r]

omit [Syms] in
theorem Fr.has_full : ∀ (n k : Nat), k + 1 < 2 ^ n → (Fr.full n).has k = true
  | 0, k, h => by simp at h
  | n + 1, k, h => by
    rw [Fr.full, Fr.has]
    rw [Nat.pow_succ] at h
    split
    · rfl
    · split
      · exact Fr.has_full n _ (by omega)
      · exact Fr.has_full n _ (by omega)

omit [Syms] in
theorem Fr.get_full : ∀ (n k : Nat), (Fr.full n).get k = und
  | 0, k => rfl
  | n + 1, k => by
    rw [Fr.full, Fr.get_nd, Fr.get_full n, Fr.get_full n]
    split <;> try rfl
    split <;> rfl

omit [Syms] in
theorem Fr.args_spec : ∀ (l : List AV) (k : Nat) (t : Fr) (N : Nat), (∀ j, j < N → t.has j = true) → k + l.length ≤ N →
    (∀ j, j < N → (Fr.args l k t).has j = true) ∧ ∀ j, (Fr.args l k t).get j = if k ≤ j then (l[j - k]?).getD (t.get j) else t.get j
  | [], k, t, N, ht, _ => ⟨ht, fun j => by simp [Fr.args]⟩
  | a :: r, k, t, N, ht, hk => by
    simp only [List.length_cons] at hk
    obtain ⟨h1, h2⟩ := Fr.args_spec r (k + 1) (t.set k a) N (fun j hj => by rw [Fr.has_set]; exact ht j hj) (by omega)
    refine ⟨h1, fun j => ?_⟩
    rw [Fr.args, h2, Fr.get_set _ _ _ _ (ht k (by omega))]
    by_cases hj : j = k
    · subst hj
      rw [if_neg (by omega), if_pos rfl, if_pos (Nat.le_refl _)]; simp
    · rw [if_neg hj]
      by_cases hkj : k ≤ j
      · rw [if_pos (by omega), if_pos hkj, show j - k = (j - (k + 1)) + 1 by omega, List.getElem?_cons_succ]
      · rw [if_neg (by omega), if_neg hkj]

/-! ### One operation, whatever it is -/

section
variable {P : Program} {T : Tabs} {c : Ctx} {m : Map} {w : World}

/-- An operation ends so, or calls so. -/
def OpWp (P : Program) (a : Act) (o : Oper) (w : World) (R : Value → World → Prop) : Prop :=
  (∃ cv w', OpRun P a o w cv w' ∧ R cv w') ∨
  ∃ f args, (execOp a.eval o).run P w = .ok (.enter f args) w ∧ Calls P f args w fun e w' => ∃ v, e = .returned v ∧ R v w'

omit [Syms] in
theorem OpWp.wp {a : Act} {o : Oper} {R : Value → World → Prop} (h : OpWp P a o w R) {K : Act → World → Prop} (hK : ∀ cv w', R cv w' → K (a.put o.dst cv) w') (Q : Exit → Act → World → Prop) : o.wp P a w K Q := by
  unfold Oper.wp
  rcases h with ⟨cv, w', h1, h2⟩ | ⟨f, args, h1, h2⟩
  · rcases h1 with h1 | ⟨h1, rfl⟩
    · rw [h1]; exact hK _ _ h2
    · rw [h1]; exact hK _ _ h2
  · rw [h1, Oper.upon_enter]
    exact h2.mono fun e w' ⟨v, hv, hr⟩ => by subst hv; exact hK _ _ hr

def Res.notAll : Res → Bool
  | .all _ _ _ _ => false
  | _ => true

omit [Syms] in
theorem ro_notAll (x : Option AV) : (ro x).notAll = true := by cases x <;> rfl
omit [Syms] in
theorem rr_notAll (l : List Nat) (x : Option AV) : (rr l x).notAll = true := by cases x <;> rfl
omit [Syms] in
theorem rw_notAll (u : AV) (l : List Nat) (x : Option (Nat × AObj)) : (rw u l x).notAll = true := by cases x <;> rfl
omit [Syms] in
theorem newCells_notAll (id : Nat) (v : AV) : (newCells id v).notAll = true := by unfold newCells; cases v.fits <;> rfl
omit [Syms] in
theorem cond_notAll (b : Bool) {x y : Res} (h1 : x.notAll = true) (h2 : y.notAll = true) : (bif b then x else y).notAll = true := by cases b <;> assumption

omit [Syms] in
theorem builtin_notAll (T : Tabs) (H : Heap) (F : List Nat) (id : Nat) (b : Builtin) (ts : List TypeId) (args : List AV) : (abuiltin T H F id b ts args).notAll = true := by
  unfold abuiltin
  split
  · split
    · exact rr_notAll _ _
    · rfl
  · unfold aappend
    split
    · split
      · split
        · refine cond_notAll _ ?_ rfl
          unfold appendV
          split
          · rfl
          · rfl
          · rfl
          · rfl
          · exact cond_notAll _ rfl rfl
          · exact cond_notAll _ rfl rfl
          · unfold appendTo
            split
            · exact cond_notAll _ (cond_notAll _ rfl rfl) rfl
            · rfl
          · unfold appendGs
            split
            · refine cond_notAll _ ?_ rfl
              split <;> rfl
            · rfl
          · rfl
        · rfl
      · rfl
    · rfl
  · unfold acopy
    split
    · split
      · refine cond_notAll _ ?_ rfl
        split
        · rfl
        · rfl
        · unfold copyTo
          split
          · exact cond_notAll _ rfl rfl
          · rfl
        · rfl
      · rfl
    · rfl
  · unfold aclear
    split
    · split
      · split
        · unfold clearTo
          split
          · exact cond_notAll _ rfl rfl
          · rfl
        · rfl
      · rfl
    · rfl
  · split
    · exact ro_notAll _
    · rfl
  · exact ro_notAll _
  · exact ro_notAll _
  · rfl

omit [Syms] in
theorem aop_notAll (E : Env) (s : St) (id : Nat) {op : Op} (hn : callsFn op = false) : (aop E s id op).notAll = true := by
  cases op <;> simp only [aop] <;> try (first | rfl | exact ro_notAll _ | exact rr_notAll _ _ | exact rw_notAll _ _ _ | exact newCells_notAll _ _; done)
  case pick => unfold opPick; split <;> rfl
  case alloc => unfold opAlloc; split <;> first | exact newCells_notAll _ _ | rfl
  case buildSlice =>
    unfold opBuildSlice
    split
    · refine cond_notAll _ ?_ (cond_notAll _ ?_ rfl)
      · split <;> rfl
      · split <;> rfl
    · rfl
  case nilCheck => unfold opNilCheck; split <;> rfl
  case convert =>
    unfold aconvert
    split
    · unfold intOf; split <;> first | exact ro_notAll _ | rfl
    · unfold strOf
      split
      · split <;> rfl
      · split
        · rfl
        · unfold toStr
          refine cond_notAll _ ?_ rfl
          split
          · split <;> rfl
          · rfl
      · rfl
    · unfold bytesOfStr
      split
      · unfold ofStr; exact cond_notAll _ rfl rfl
      · refine cond_notAll _ ?_ rfl
        unfold keptArr
        split
        · exact cond_notAll _ rfl rfl
        · rfl
      · rfl
    · rfl
  case makeInterface => unfold opMakeInterface; split <;> rfl
  case makeFunc fn first caps => unfold opMakeFunc; split <;> rfl
  case makeMap =>
    unfold opMakeMap
    split
    · split <;> rfl
    · rfl
  case makeSlice =>
    unfold opMakeSlice
    split
    · split
      · exact cond_notAll _ rfl rfl
      · rfl
    · rfl
  case extract => unfold opExtract; split <;> first | exact ro_notAll _ | rfl
  case call cl =>
    unfold opCall
    simp only [callsFn] at hn
    split
    · rename_i b _
      have hb : ∀ q : Res, (∀ v H F nx, q = .all v H F nx → (abuiltin E.T s.H s.F id b cl.argTypes.toList (opnds s.fr cl.args.toList)) = .all v H F nx) → q.notAll = true := fun q hq => by
        cases q with
        | no => rfl
        | ok => rfl
        | all v H F nx =>
          have := builtin_notAll E.T s.H s.F id b cl.argTypes.toList (opnds s.fr cl.args.toList)
          rw [hq v H F nx rfl] at this; cases this
      exact hb _ fun v H F nx h => tellB_notAll h
    · rename_i h; rw [h] at hn; simp at hn
    · rfl

/-- One operation. -/
theorem sim_opAll (hT : TyOK P T) (E : Env) (hE : E.T = T) (hC : CallOK P E.call) {s : St} (hs : SR c m s.H s.F w) {id : Nat} (hid : ∀ b, id ≤ b → b < id + STRIDE → m b = none) (hnx : ∀ b, s.nx ≤ b → m b = none) {a : Act}
    (hf : FrR (okB c.X m s.H s.F) w.heap m s.fr a.tmps) {o : Oper} {q : Res} (h : aop E s id o.op = q) (hq : q ≠ .no) : OpWp P a o w fun cv w' => ∃ m', OpPost c m s w id cv m' w' q := by
  cases hcf : callsFn o.op with
  | false =>
    cases q with
    | no => exact absurd rfl hq
    | all v H F nx =>
      have := aop_notAll E s id hcf
      rw [h] at this; cases this
    | ok v e rd fz =>
      obtain ⟨cv, m', w', h1, h2⟩ := sim_op hT E hE hs (hid id (Nat.le_refl _) (by unfold STRIDE; omega)) hf hcf h
      exact .inl ⟨cv, w', h1, m', h2⟩
  | true =>
    obtain ⟨dst, op, oty, pos, after, guard⟩ := o
    cases op <;> simp only [callsFn] at hcf <;> try (cases hcf; done)
    rename_i cl
    obtain ⟨callee, args, ats⟩ := cl
    cases callee with
    | builtin b => simp at hcf
    | invoke r n => simp only [aop, opCall] at h; exact absurd h.symm hq
    | value f =>
      simp only [aop, opCall] at h
      have hfv := opnd_vr hf f
      unfold acallee at h
      split at h
      · rename_i g caps hg
        rw [hg] at hfv
        obtain ⟨vs, hvs, hsz, hcr⟩ := hfv.fn_inv
        have hargs := opnds_vr hf args.toList
        have key := sim_acall (P := P) hs hid hnx hC h hq (cargs := args.map a.eval ++ vs) (fun j x hx => by
          rcases Nat.lt_or_ge j (opnds s.fr args.toList).length with hj | hj
          · rw [List.getElem?_append_left hj] at hx
            obtain ⟨v, hv, hr⟩ := hargs j x hx
            refine ⟨v, ?_, hr⟩
            rw [Nat.zero_add] at hv ⊢
            rw [map_eval, Array.getElem?_append_left (by simpa [opnds_length] using hj)]
            exact hv
          · rw [List.getElem?_append_right hj] at hx
            obtain ⟨v, hv, hr⟩ := hcr _ x hx
            refine ⟨v, ?_, hr⟩
            rw [Nat.zero_add] at hv ⊢
            have hl : (args.map a.eval).size = (opnds s.fr args.toList).length := by simp [opnds_length]
            rw [Array.getElem?_append_right (by omega), hl]
            exact hv) (by simp [opnds_length, hsz])
        have hrun : (execOp a.eval ⟨dst, .call ⟨.value f, args, ats⟩, oty, pos, after, guard⟩).run P w = (callFunc g (args.map a.eval ++ vs)).run P w := by
          simp only [execOp, Go.resolve, hvs, Deferred.ofValue, Sem.run_bind, Sem.run_pure, Result.andThen_ok, invoke]
          simp
        rcases key with ⟨v, w', h1, h2⟩ | ⟨h1, h2⟩
        · exact .inl ⟨v, w', .inl (by rw [hrun]; exact h1), h2⟩
        · exact .inr ⟨g, _, by rw [hrun]; exact h1, h2⟩
      · exact absurd h.symm hq

end
end Go.Proofs.YtopkeglpafdlfaaGreat.VS
