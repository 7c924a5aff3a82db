/- A library of an abstract machine, joined from 7 texts. Conditions: none. -/
import Derived.Test.YtmkmjjodiicmlaaVM4
import Derived.Calls
set_option linter.unusedVariables false
set_option linter.unusedSimpArgs false
set_option linter.unusedSectionVars false
/- One operation that calls no function of the program: what it leaves, on both sides. Conditions: none. -/
namespace Go.Proofs.Ytmkmjjodiicmlaa.VS
variable [Syms]

section
variable {P : Program} {T : Tabs} {c : Ctx} {m : Map} {H : Heap} {F : List Nat} {w : World}

omit [Syms] in
theorem ro_ok {x : Option AV} {v : AV} {e : Eff} {rd fz : List Nat} (h : ro x = .ok v e rd fz) : x = some v ∧ e = [] ∧ fz = [] := by
  cases x <;> simp [ro] at h
  exact ⟨by rw [h.1], h.2.1, h.2.2.2⟩

omit [Syms] in
theorem rr_ok {l : List Nat} {x : Option AV} {v : AV} {e : Eff} {rd fz : List Nat} (h : rr l x = .ok v e rd fz) : x = some v ∧ e = [] ∧ fz = [] := by
  cases x <;> simp [rr] at h
  exact ⟨by rw [h.1], h.2.1, h.2.2.2⟩

omit [Syms] in
theorem rw_ok {u : AV} {l : List Nat} {x : Option (Nat × AObj)} {v : AV} {e : Eff} {rd fz : List Nat} (h : rw u l x = .ok v e rd fz) : ∃ p, x = some p ∧ v = u ∧ e = [(p.1, some p.2)] ∧ fz = [] := by
  cases x <;> simp [rw] at h
  rename_i p
  exact ⟨p, rfl, h.1.symm, h.2.1.symm, h.2.2.2⟩

/-- What an operation's run is. -/
def OpRun (P : Program) (a : Act) (o : Oper) (w : World) (cv : Value) (w' : World) : Prop :=
  (execOp a.eval o).run P w = .ok (.value cv) w' ∨ ((execOp a.eval o).run P w = .ok .skip w' ∧ cv = undef)

theorem Done.quiet' (hs : SR c m H F w) {id : Nat} {v : AV} {e : Eff} {fz : List Nat} {cv : Value} (he : e = []) (hf : fz = []) (hv : VR (okB c.X m H F) w.heap m v cv) : Done c m H F w id v e fz cv m w := by
  subst he; subst hf; exact Done.quiet hs hv

theorem und_vr {ok : Nat → Prop} {h : Array Obj} {m : Map} : VR ok h m und undef := .tup' rfl fun j x hx => by simp at hx

omit [Syms] in
theorem opnds_one {fr : Fr} {l : List Operand} {x : AV} (h : opnds fr l = [x]) : ∃ y, l = [y] ∧ x = opnd fr y := by
  cases l with
  | nil => simp [opnds] at h
  | cons y l => cases l with
    | nil => simp [opnds] at h; exact ⟨y, rfl, h.symm⟩
    | cons z l => simp [opnds] at h

omit [Syms] in
theorem opnds_two {fr : Fr} {l : List Operand} {x y : AV} (h : opnds fr l = [x, y]) : ∃ p q, l = [p, q] ∧ x = opnd fr p ∧ y = opnd fr q := by
  cases l with
  | nil => simp [opnds] at h
  | cons p l =>
    simp only [opnds, List.cons.injEq] at h
    obtain ⟨q, rfl, hy⟩ := opnds_one h.2
    exact ⟨p, q, rfl, h.1.symm, hy⟩

omit [Syms] in
theorem toList_eq {l : Array Operand} {xs : List Operand} (h : l.toList = xs) : l = xs.toArray := by rw [← h]

omit [Syms] in
theorem map_eval (a : Act) (l : Array Operand) : l.map a.eval = (l.toList.map a.eval).toArray := by apply Array.ext'; simp

theorem sim_builtin (hT : TyOK P T) (hs : SR c m H F w) {id : Nat} (hid : m id = none) {fr : Fr} {a : Act} (hf : FrR (okB c.X m H F) w.heap m fr a.tmps) {b : Builtin} {ts : Array TypeId} {args : Array Operand} {v : AV} {e : Eff} {rd fz : List Nat}
    (h : abuiltin T H F id b ts.toList (opnds fr args.toList) = .ok v e rd fz) (ty : TypeId) (cb : Array Bool) :
    ∃ cv m' w', (builtin b ts ty cb (args.map a.eval)).run P w = .ok (.value cv) w' ∧ Done c m H F w id v e fz cv m' w' := by
  unfold abuiltin at h
  split at h
  · rename_i x hx
    obtain ⟨p, hp, rfl⟩ := opnds_one hx
    have := toList_eq hp; subst this
    split at h
    · rename_i t rest hts
      obtain ⟨h1, h2, h3⟩ := rr_ok h
      obtain ⟨cv, g1, g2⟩ := sim_len hT hs h1 (opnd_vr hf p) (ts := ts) (by rw [← Array.getElem?_toList, hts]; rfl) ty
      exact ⟨cv, m, w, by simp [builtin, g1], Done.quiet' hs h2 h3 g2⟩
    · cases h
  · rename_i x y hx
    obtain ⟨p, q, hp, rfl, rfl⟩ := opnds_two hx
    have := toList_eq hp; subst this
    obtain ⟨cv, m', w', g1, g2⟩ := sim_append hT hs hid (ty := ty) h (opnd_vr hf p) (opnd_vr hf q)
    exact ⟨cv, m', w', by simp [builtin, g1], g2⟩
  · rename_i x y hx
    obtain ⟨p, q, hp, rfl, rfl⟩ := opnds_two hx
    have := toList_eq hp; subst this
    obtain ⟨cv, m', w', g1, g2⟩ := sim_copy hT hs (ty := ty) h (opnd_vr hf p) (opnd_vr hf q)
    exact ⟨cv, m', w', by simp [builtin, g1], g2⟩
  · rename_i x hx
    obtain ⟨p, hp, rfl⟩ := opnds_one hx
    have := toList_eq hp; subst this
    obtain ⟨cv, m', w', g1, g2⟩ := sim_clear hT hs (ty := ty) h (opnd_vr hf p)
    exact ⟨cv, m', w', by simp [builtin, g1], g2⟩
  · rename_i x hx
    obtain ⟨p, hp, rfl⟩ := opnds_one hx
    have := toList_eq hp; subst this
    split at h
    · rename_i t rest hts
      obtain ⟨h1, h2, h3⟩ := ro_ok h
      obtain ⟨cv, g1, g2⟩ := sim_cap hT h1 (opnd_vr hf p) (ts := ts) (by rw [← Array.getElem?_toList, hts]; rfl) ty
      exact ⟨cv, m, w, by simp [builtin, g1], Done.quiet' hs h2 h3 g2⟩
    · cases h
  · rename_i k n xs hx
    obtain ⟨h1, h2, h3⟩ := ro_ok h
    cases hl : args.toList with
    | nil => rw [hl] at hx; simp [opnds] at hx
    | cons p l =>
      rw [hl] at hx
      simp only [opnds, List.cons.injEq] at hx
      have hp := opnd_vr hf p
      rw [hx.1] at hp
      unfold maxO at h1
      split at h1
      · rename_i i a0 c0 lo hi
        split at h1
        · rename_i hle
          split at h1
          · rename_i hk
            subst hk
            cases h1
            obtain ⟨u, hu, hvu⟩ := opnds_vr hf l 0 (.lin i a0 c0 lo hi) (by rw [hx.2]; rfl)
            have hl1 : l.map a.eval = [u] := by
              have hlen : l.length = 1 := by have := congrArg List.length hx.2; simpa [opnds_length] using this
              match l, hlen with
              | [y], _ => simpa using hu
            cases hvu with
            | lin _ _ _ _ _ n' e0 e1 e2 =>
            obtain ⟨r1, r2⟩ := lin_range (a := a0) (c := c0) e1 e2
            refine ⟨.int .i64 n', m, w, ?_, Done.quiet' hs h2 h3 (.lin _ _ _ _ _ _ e0 e1 e2)⟩
            simp only [builtin, Builtin.max_, Array.toList_map, hl, List.map_cons, hp.int_inv, hl1, List.foldlM_cons, List.foldlM_nil, Builtin.max2, Sem.run_bind, Sem.run_pure, Result.andThen_ok]
            by_cases hgt : n' > n
            · rw [if_pos hgt]
            · rw [if_neg hgt, show n' = n by omega]
          · cases h1
        · cases h1
      · cases hr : amax n xs with
        | none => simp [hr, intO] at h1
        | some r =>
          simp [hr, intO] at h1; subst h1
          have := sim_max (P := P) (w := w) (ok := okB c.X m H F) (k := k) (m := m) xs (l.map a.eval) n r hr (by rw [← hx.2]; simp [opnds_length]) (fun j x u hx' hu => by
            rw [← hx.2] at hx'
            obtain ⟨u', hu', hv'⟩ := opnds_vr hf l j x hx'
            rw [Nat.zero_add] at hu'
            have : u' = u := by simpa [hu] using hu'.symm
            rw [← this]; exact hv')
          refine ⟨_, m, w, ?_, Done.quiet' hs h2 h3 (.int _ _)⟩
          simp only [builtin, Builtin.max_, Array.toList_map, hl, List.map_cons, hp.int_inv, Sem.run_bind, this, Result.andThen_ok, Sem.run_pure]
  · rename_i k n xs hx
    obtain ⟨h1, h2, h3⟩ := ro_ok h
    cases hl : args.toList with
    | nil => rw [hl] at hx; simp [opnds] at hx
    | cons p l =>
      rw [hl] at hx
      simp only [opnds, List.cons.injEq] at hx
      have hp := opnd_vr hf p
      rw [hx.1] at hp
      cases hr : amin n xs with
      | none => simp [hr, intO] at h1
      | some r =>
        simp [hr, intO] at h1; subst h1
        have := sim_min (P := P) (w := w) (ok := okB c.X m H F) (k := k) (m := m) xs (l.map a.eval) n r hr (by rw [← hx.2]; simp [opnds_length]) (fun j x u hx' hu => by
          rw [← hx.2] at hx'
          obtain ⟨u', hu', hv'⟩ := opnds_vr hf l j x hx'
          rw [Nat.zero_add] at hu'
          have : u' = u := by simpa [hu] using hu'.symm
          rw [← this]; exact hv')
        refine ⟨_, m, w, ?_, Done.quiet' hs h2 h3 (.int _ _)⟩
        simp only [builtin, Builtin.min_, Array.toList_map, hl, List.map_cons, hp.int_inv, Sem.run_bind, this, Result.andThen_ok, Sem.run_pure]
  · cases h

/-- Is it a call of a function? -/
def callsFn : Op → Bool
  | .call c => match c.callee with
    | .builtin _ => false
    | _ => true
  | _ => false

theorem vr_nilCheck {ok : Nat → Prop} {x v : AV} {e : Eff} {rd fz : List Nat} (h : opNilCheck x = .ok v e rd fz) {vx : Value} (hx : VR ok w.heap m x vx) {a : Act} {y : Operand} (hy : a.eval y = vx) {o : Oper} (ho : o.op = .nilCheck y) :
    (execOp a.eval o).run P w = .ok (.value vx) w ∧ v = x ∧ e = [] ∧ fz = [] := by
  subst hy
  unfold opNilCheck at h
  unfold execOp
  rw [ho]
  simp only
  generalize a.eval y = vx at hx
  split at h
  · simp only [rv, Res.ok.injEq] at h
    obtain ⟨rfl, rfl, _, rfl⟩ := h
    cases hx; exact ⟨rfl, rfl, rfl, rfl⟩
  · simp only [rv, Res.ok.injEq] at h
    obtain ⟨rfl, rfl, _, rfl⟩ := h
    cases hx; exact ⟨rfl, rfl, rfl, rfl⟩
  · simp only [rv, Res.ok.injEq] at h
    obtain ⟨rfl, rfl, _, rfl⟩ := h
    cases hx; exact ⟨rfl, rfl, rfl, rfl⟩
  · simp only [rv, Res.ok.injEq] at h
    obtain ⟨rfl, rfl, _, rfl⟩ := h
    cases hx; exact ⟨rfl, rfl, rfl, rfl⟩
  · cases h

/-- One operation. -/
theorem sim_op (hT : TyOK P T) (E : Env) (hE : E.T = T) {s : St} (hs : SR c m s.H s.F w) {id : Nat} (hid : m id = none) {a : Act} (hf : FrR (okB c.X m s.H s.F) w.heap m s.fr a.tmps) {o : Oper} (hnc : callsFn o.op = false) {v : AV} {e : Eff} {rd fz : List Nat}
    (h : aop E s id o.op = .ok v e rd fz) : ∃ cv m' w', OpRun P a o w cv w' ∧ Done c m s.H s.F w id v e fz cv m' w' := by
  have val : ∀ {sm : Sem Value} {cv : Value} {w' : World}, execOp a.eval o = (do pure (Next.value (← sm))) → sm.run P w = .ok cv w' → OpRun P a o w cv w' := by
    intro sm cv w' h1 h2
    left; rw [h1]; exact run_value h2
  obtain ⟨dst, op, oty, pos, after, guard⟩ := o
  cases op <;> simp only [aop] at h <;> try (cases h; done)
  case move x =>
    simp only [rv, Res.ok.injEq] at h
    obtain ⟨rfl, rfl, _, rfl⟩ := h
    exact ⟨_, m, w, .inl rfl, Done.quiet hs (opnd_vr hf x)⟩
  case assign x =>
    simp only [rv, Res.ok.injEq] at h
    obtain ⟨rfl, rfl, _, rfl⟩ := h
    exact ⟨_, m, w, .inl rfl, Done.quiet hs (opnd_vr hf x)⟩
  case pick cnd x y =>
    have hc := opnd_vr hf cnd
    unfold opPick at h
    split at h
    · rename_i t ht
      rw [ht] at hc
      have hcv : a.eval cnd = .bool t := by cases hc' : a.eval cnd <;> rw [hc'] at hc <;> cases hc; rfl
      simp only [rv, Res.ok.injEq] at h
      obtain ⟨rfl, rfl, _, rfl⟩ := h
      refine ⟨if t then a.eval x else a.eval y, m, w, .inl ?_, Done.quiet hs ?_⟩
      · simp only [execOp, hcv]; cases t <;> rfl
      · cases t
        · exact opnd_vr hf y
        · exact opnd_vr hf x
    · cases h
  case alloc t =>
    unfold opAlloc at h
    rw [hE] at h
    split at h
    · rename_i z hz
      obtain ⟨i, zv, hi, hzv, rfl⟩ := zeroOf_some hT hz
      obtain ⟨cv, m', w', g1, rfl, g3⟩ := sim_newCells (P := P) hs hid h (ofV_vr zv) t
      exact ⟨_, m', w', val rfl (by simp [Instr.alloc, run_zeroValue hi hzv, g1]), g3⟩
    · cases h
  case box t x =>
    obtain ⟨cv, m', w', g1, rfl, g3⟩ := sim_newCells (P := P) hs hid h (opnd_vr hf x) t
    exact ⟨_, m', w', val rfl (by simp [Instr.box, g1]), g3⟩
  case build t ps =>
    obtain ⟨h1, h2, h3⟩ := ro_ok h
    rw [hE] at h1
    obtain ⟨cv, g1, g2⟩ := sim_build hT hf h1
    exact ⟨cv, m, w, val rfl g1, Done.quiet' hs h2 h3 g2⟩
  case buildSlice t n ps =>
    obtain ⟨cv, m', w', g1, g2⟩ := sim_buildSlice hT hs hE hid hf h
    exact ⟨cv, m', w', val rfl g1, g2⟩
  case load t x =>
    obtain ⟨h1, h2, h3⟩ := rr_ok h
    rw [hE] at h1
    obtain ⟨cv, g1, g2⟩ := sim_aload hT hs h1 (opnd_vr hf x)
    exact ⟨cv, m, w, val rfl g1, Done.quiet' hs h2 h3 g2⟩
  case store t x y =>
    obtain ⟨p, h1, rfl, rfl, rfl⟩ := rw_ok h
    rw [hE] at h1
    obtain ⟨w', g1, g2, g3⟩ := sim_astore hT hs h1 (opnd_vr hf x) (opnd_vr hf y)
    exact ⟨undef, m, w', .inr ⟨by simp only [execOp]; exact run_unit g1, rfl⟩, g2, g3, und_vr, fun _ h => .inl h⟩
  case nilCheck x =>
    obtain ⟨g1, rfl, rfl, rfl⟩ := vr_nilCheck (P := P) h (opnd_vr hf x) rfl (o := ⟨dst, .nilCheck x, oty, pos, after, guard⟩) rfl
    exact ⟨_, m, w, .inl g1, Done.quiet hs (opnd_vr hf x)⟩
  case binOp op t x y z =>
    obtain ⟨h1, h2, h3⟩ := ro_ok h
    rw [hE] at h1
    obtain ⟨cv, g1, g2⟩ := sim_bin hT h1 (opnd_vr hf x) (opnd_vr hf y) x y
    exact ⟨cv, m, w, val rfl g1, Done.quiet' hs h2 h3 g2⟩
  case unOp op t x =>
    obtain ⟨h1, h2, h3⟩ := ro_ok h
    obtain ⟨cv, g1, g2⟩ := sim_unary (P := P) h1 (opnd_vr hf x)
    exact ⟨cv, m, w, val rfl g1, Done.quiet' hs h2 h3 g2⟩
  case convert t u x =>
    rw [hE] at h
    obtain ⟨cv, m', w', g1, g2⟩ := sim_convert hT hs hid h (opnd_vr hf x)
    exact ⟨cv, m', w', val rfl g1, g2⟩
  case makeInterface t x =>
    unfold opMakeInterface at h
    rw [hE] at h
    have key : ∀ K, kindOf T t = K → (K = .iface → False) → (K = .other → False) → rv (.ifc t (opnd s.fr x)) = .ok v e rd fz → ∃ cv m' w', OpRun P a ⟨dst, .makeInterface t x, oty, pos, after, guard⟩ w cv w' ∧ Done c m s.H s.F w id v e fz cv m' w' := by
      intro K hK h1 h2 h
      obtain ⟨d, hd, hk⟩ := kindOf_some hT hK (fun e => h2 e)
      simp only [rv, Res.ok.injEq] at h
      obtain ⟨rfl, rfl, _, rfl⟩ := h
      refine ⟨.iface t (a.eval x), m, w, val rfl ?_, Done.quiet hs (.ifc (opnd_vr hf x))⟩
      simp only [Instr.makeInterface, Sem.run_bind, run_underlying hd, Result.andThen_ok]
      cases d <;> first | rfl | (simp [tkOf] at hk; exact (h1 hk.symm).elim)
    generalize hK : kindOf T t = K at h
    split at h
    · cases h
    · cases h
    · rename_i n1 n2
      exact key K hK (fun e => n1 e) (fun e => n2 e) h
  case makeFunc fn first caps =>
    have hfn : ∃ f, fn = .func f ∧ first = #[] ∧ rv (.fn f (opnds s.fr caps.toList)) = .ok v e rd fz := by
      obtain ⟨l⟩ := first
      unfold opMakeFunc at h
      split at h
      · rename_i f hl
        simp only at hl
        subst hl
        exact ⟨_, rfl, rfl, h⟩
      · cases h
    obtain ⟨f, rfl, rfl, h⟩ := hfn
    injection h with e1 e2 e3 e4
    subst e1; subst e2; subst e4
    refine ⟨.func (.func f) #[] (caps.map a.eval), m, w, val rfl (by simp [Instr.makeFunc]), Done.quiet hs (.fn' (by simp [opnds_length]) ?_)⟩
    rw [map_eval]
    exact opnds_vr hf caps.toList
  case makeMap t r =>
    obtain ⟨cv, m', w', g1, g2⟩ := sim_makeMap (P := P) hs hid h (va := r.map a.eval) (fun h => by cases r <;> simp [mapO] at h; rfl)
    exact ⟨cv, m', w', val rfl g1, g2⟩
  case makeSlice t l k =>
    obtain ⟨cv, m', w', g1, g2⟩ := sim_makeSlice hT hs hE hid h (opnd_vr hf l) (opnd_vr hf k)
    exact ⟨cv, m', w', val rfl g1, g2⟩
  case slice t x lo hi mx =>
    obtain ⟨h1, h2, h3⟩ := ro_ok h
    rw [hE] at h1
    obtain ⟨cv, g1, g2⟩ := sim_slice hT h1 (opnd_vr hf x) (mapO_vr hf lo) (mapO_vr hf hi) (mapO_vr hf mx)
    exact ⟨cv, m, w, val rfl g1, Done.quiet' hs h2 h3 g2⟩
  case fieldAddr t x f =>
    obtain ⟨h1, h2, h3⟩ := ro_ok h
    rw [hE] at h1
    obtain ⟨cv, g1, g2⟩ := sim_fieldAddr hT h1 (opnd_vr hf x)
    exact ⟨cv, m, w, val rfl g1, Done.quiet' hs h2 h3 g2⟩
  case field t x f =>
    obtain ⟨h1, h2, h3⟩ := ro_ok h
    rw [hE] at h1
    obtain ⟨cv, g1, g2⟩ := sim_field hT h1 (opnd_vr hf x)
    exact ⟨cv, m, w, val rfl g1, Done.quiet' hs h2 h3 g2⟩
  case indexAddr t x i =>
    obtain ⟨h1, h2, h3⟩ := ro_ok h
    rw [hE] at h1
    obtain ⟨cv, g1, g2⟩ := sim_indexAddr hT h1 (opnd_vr hf x) (opnd_vr hf i)
    exact ⟨cv, m, w, val rfl g1, Done.quiet' hs h2 h3 g2⟩
  case index t x i =>
    obtain ⟨h1, h2, h3⟩ := ro_ok h
    rw [hE] at h1
    obtain ⟨cv, g1, g2⟩ := sim_index hT h1 (opnd_vr hf x) (opnd_vr hf i)
    exact ⟨cv, m, w, val rfl g1, Done.quiet' hs h2 h3 g2⟩
  case lookup t x i ok =>
    obtain ⟨h1, h2, h3⟩ := rr_ok h
    rw [hE] at h1
    obtain ⟨cv, g1, g2⟩ := sim_lookup hT hs h1 (opnd_vr hf x) (opnd_vr hf i)
    exact ⟨cv, m, w, val rfl g1, Done.quiet' hs h2 h3 g2⟩
  case mapUpdate t x k y =>
    obtain ⟨p, h1, rfl, rfl, rfl⟩ := rw_ok h
    rw [hE] at h1
    obtain ⟨w', g1, g2⟩ := sim_mapUpdate hT hs (id := id) h1 (opnd_vr hf x) (opnd_vr hf k) (opnd_vr hf y)
    exact ⟨undef, m, w', .inr ⟨by simp only [execOp]; exact run_unit g1, rfl⟩, g2⟩
  case insert t x k y =>
    obtain ⟨p, h1, rfl, rfl, rfl⟩ := rw_ok h
    rw [hE] at h1
    obtain ⟨w', g1, g2⟩ := sim_mapUpdate hT hs (id := id) h1 (opnd_vr hf x) (opnd_vr hf k) (opnd_vr hf y)
    exact ⟨undef, m, w', .inr ⟨by simp only [execOp]; exact run_unit g1, rfl⟩, g2⟩
  case extract x i =>
    have hx := opnd_vr hf x
    unfold opExtract at h
    split at h
    · rename_i vs hv
      rw [hv] at hx
      obtain ⟨h1, h2, h3⟩ := ro_ok h
      obtain ⟨us, hu, _, hr⟩ := hx.tup_inv
      obtain ⟨cv, g1, g2⟩ := hr i v h1
      rw [Nat.zero_add] at g1
      exact ⟨cv, m, w, val rfl (by simp [Instr.extract, hu, g1]), Done.quiet' hs h2 h3 g2⟩
    · cases h
  case call cl =>
    unfold opCall at h
    simp only [callsFn] at hnc
    obtain ⟨callee, args, ats⟩ := cl
    cases callee with
    | builtin b =>
      simp only at h
      rw [hE] at h
      rcases Done.tell (c := c) (m := m) (w := w) h with ⟨v0, e0, rd0, h0, hup⟩ | ⟨s0, g, v0, rfl, hx, hs0, h0, rfl, rfl⟩
      · obtain ⟨cv, m', w', g1, g2⟩ := sim_builtin hT hs hid hf h0 oty (args.map fun | .const _ => true | _ => false)
        refine ⟨cv, m', w', .inl ?_, hup g2⟩
        simp only [execOp, Go.resolve, Sem.run_bind, Sem.run_pure, Result.andThen_ok, invoke]
        exact g1
      · obtain ⟨p, q, hp, hp1, hp2⟩ := opnds_two hx
        have := toList_eq hp; subst this
        have hv1 := opnd_vr hf p
        have hv2 := opnd_vr hf q
        rw [← hp1] at hv1
        rw [← hp2] at hv2
        obtain ⟨g1, hfz, a', g2⟩ := sim_append_none hT hs (ty := oty) hs0 h0 hv1 hv2
        subst hfz
        obtain ⟨k1, k2⟩ := hs.void hid g
        refine ⟨a.eval p, m, w, .inl ?_, k1, k2, by rw [g2]; exact .gsE, fun b hb => .inl hb⟩
        simp only [execOp, Go.resolve, Sem.run_bind, Sem.run_pure, Result.andThen_ok, invoke]
        simp [builtin, g1]
    | value f => simp at hnc
    | invoke r n => simp at hnc

end
end Go.Proofs.Ytmkmjjodiicmlaa.VS

/- Values under other numbers, and values that hold no memory: what they tell. Conditions: none. -/
namespace Go.Proofs.Ytmkmjjodiicmlaa.VS
variable [Syms]

section
variable {ok ok' : Nat → Prop} {h h' : Array Obj} {m m' : Map} {H : Heap} {ρ : Nat → Option Nat}

omit [Syms] in
theorem renAll_cons (d : Nat) (a : AV) (l : List AV) : renAll ρ d (a :: l) = (match renAll ρ d l, ren ρ d a with
    | some ys, some y => some (y :: ys)
    | _, _ => none) := rfl

omit [Syms] in
theorem renAll_some {d : Nat} : ∀ {l r : List AV}, renAll ρ d l = some r → r.length = l.length ∧
    ∀ (j : Nat) (x : AV), l[j]? = some x → ∃ y, r[j]? = some y ∧ ren ρ d x = some y
  | [], r, hr => by simp [renAll] at hr; subst hr; exact ⟨rfl, fun j x hx => by simp at hx⟩
  | a :: l, r, hr => by
    rw [renAll_cons] at hr
    split at hr
    · rename_i ys y hys hy
      cases hr
      obtain ⟨h1, h2⟩ := renAll_some hys
      refine ⟨by simp [h1], fun j x hx => ?_⟩
      cases j with
      | zero => simp at hx; subst hx; exact ⟨y, rfl, hy⟩
      | succ j =>
        obtain ⟨y', g1, g2⟩ := h2 j x (by simpa using hx)
        exact ⟨y', by simpa using g1, g2⟩
    · cases hr

def leafR : AV → Bool
  | .nils | .emp | .nev => true
  | v => leafV v

inductive Rn (ρ : Nat → Option Nat) (d : Nat) : AV → AV → Prop
  | agg {cs r} : renAll ρ d cs = some r → Rn ρ d (.agg cs) (.agg r)
  | tup {cs r} : renAll ρ d cs = some r → Rn ρ d (.tup cs) (.tup r)
  | fn {f cs r} : renAll ρ d cs = some r → Rn ρ d (.fn f cs) (.fn f r)
  | ifc {t v r} : ren ρ d v = some r → Rn ρ d (.ifc t v) (.ifc t r)
  | osl {s b lo len c} : ρ b = some c → Rn ρ d (.osl s b lo len) (.osl s c lo len)
  | gs {g b n c} : ρ b = some c → Rn ρ d (.gs g b n) (.gs g c n)
  | leaf {v} : leafR v = true → Rn ρ d v v

omit [Syms] in
theorem ren_rn {d : Nat} {a y : AV} (hr : ren ρ (d + 1) a = some y) : Rn ρ d a y := by
  cases a with
  | agg cs =>
    change (match renAll ρ d cs with
      | some r => some (.agg r)
      | none => none) = some y at hr
    split at hr
    · rename_i r hr'; cases hr; exact .agg hr'
    · cases hr
  | tup cs =>
    change (match renAll ρ d cs with
      | some r => some (.tup r)
      | none => none) = some y at hr
    split at hr
    · rename_i r hr'; cases hr; exact .tup hr'
    · cases hr
  | fn f cs =>
    change (match renAll ρ d cs with
      | some r => some (.fn f r)
      | none => none) = some y at hr
    split at hr
    · rename_i r hr'; cases hr; exact .fn hr'
    · cases hr
  | ifc t v =>
    change (match ren ρ d v with
      | some r => some (.ifc t r)
      | none => none) = some y at hr
    split at hr
    · rename_i r hr'; cases hr; exact .ifc hr'
    · cases hr
  | gs g b n =>
    change (match ρ b with
      | some c => some (.gs g c n)
      | none => none) = some y at hr
    split at hr
    · rename_i c hc; cases hr; exact .gs hc
    · cases hr
  | osl s b lo len =>
    change (match ρ b with
      | some c => some (.osl s c lo len)
      | none => none) = some y at hr
    split at hr
    · rename_i c hc; cases hr; exact .osl hc
    · cases hr
  | nils => cases hr; exact .leaf rfl
  | nev => cases hr; exact .leaf rfl
  | emp => cases hr; exact .leaf rfl
  | bool _ => cases hr; exact .leaf rfl
  | int _ _ => cases hr; exact .leaf rfl
  | rng _ _ _ _ => cases hr; exact .leaf rfl
  | ustr _ _ => cases hr; exact .leaf rfl
  | lin _ _ _ _ _ => cases hr; exact .leaf rfl
  | str _ => cases hr; exact .leaf rfl
  | nilp => cases hr; exact .leaf rfl
  | nilf => cases hr; exact .leaf rfl
  | nili => cases hr; exact .leaf rfl
  | nilm => cases hr; exact .leaf rfl
  | sl _ => cases hr; exact .leaf rfl
  | tl _ _ => cases hr; exact .leaf rfl
  | ub _ => cases hr; exact .leaf rfl
  | dead => cases hr
  | sub _ _ _ => cases hr
  | psub _ _ _ => cases hr
  | ptr _ _ => cases hr
  | eptr _ _ _ => cases hr
  | cptr _ => cases hr
  | mp _ => cases hr

theorem leafR_vr {v : AV} (hl : leafR v = true) (hok : ∀ β, ok β → ok' β) {u : Value} (hv : VR ok h m v u) : VR ok' h m' v u := by
  by_cases h1 : v = .nils
  · subst h1; cases hv; exact .nils
  · by_cases h2 : v = .emp
    · subst h2; cases hv; exact .emp
    · by_cases h3 : v = .nev
      · subst h3; cases hv; exact .nev
      · refine leaf_vr ?_ hok hv
        cases v <;> first | exact hl | exact absurd rfl h1 | exact absurd rfl h2 | exact absurd rfl h3

theorem renAll_vr {d : Nat} (ih : ∀ a y v, ren ρ d a = some y → VR ok h m a v → VR ok' h m' y v) {cs r : List AV} (hr : renAll ρ d cs = some r) {C : Array Value} {o : Nat} (hc : CR ok h m cs C o) : CR ok' h m' r C o := by
  obtain ⟨h1, h2⟩ := renAll_some hr
  intro j y hy
  have hj : j < cs.length := by rw [← h1]; exact (List.getElem?_eq_some_iff.1 hy).1
  obtain ⟨y', g1, g2⟩ := h2 j cs[j] (List.getElem?_eq_getElem hj)
  rw [hy] at g1; cases g1
  obtain ⟨v, hv, hr'⟩ := hc j cs[j] (List.getElem?_eq_getElem hj)
  exact ⟨v, hv, ih _ _ v g2 hr'⟩

/-- A value under other numbers. -/
theorem ren_vr (hok : ∀ β, ok β → ok' β) (hm : ∀ b c, ρ b = some c → m' c = m b) : ∀ d a y v, ren ρ d a = some y → VR ok h m a v → VR ok' h m' y v := by
  intro d
  induction d with
  | zero => intro a y v hr; simp [ren] at hr
  | succ d ih =>
    intro a y v hr hv
    cases ren_rn hr with
    | agg hr' =>
      obtain ⟨us, rfl, h1, h2⟩ := hv.agg_inv
      exact .agg' (by rw [(renAll_some hr').1]; exact h1) (renAll_vr ih hr' h2)
    | tup hr' =>
      obtain ⟨us, rfl, h1, h2⟩ := hv.tup_inv
      exact .tup' (by rw [(renAll_some hr').1]; exact h1) (renAll_vr ih hr' h2)
    | fn hr' =>
      obtain ⟨us, rfl, h1, h2⟩ := hv.fn_inv
      exact .fn' (by rw [(renAll_some hr').1]; exact h1) (renAll_vr ih hr' h2)
    | ifc hr' =>
      cases hv with
      | ifc hv' => exact .ifc (ih _ _ _ hr' hv')
    | leaf hl => exact leafR_vr hl hok hv
    | gs hc =>
      cases hv with
      | gsE => exact .gsE
      | gs hv' =>
        cases hv' with
        | oslE h1 h2 h3 h4 => exact .gs (.oslE (by rw [hm _ _ hc]; exact h1) h2 h3 h4)
        | osl h1 h2 h3 h4 h5 h6 h7 h8 => exact .gs (.osl (by rw [hm _ _ hc]; exact h1) h2 h3 h4 h5 h6 h7 h8)
    | osl hc =>
      cases hv with
      | oslE h1 h2 h3 h4 => exact .oslE (by rw [hm _ _ hc]; exact h1) h2 h3 h4
      | osl h1 h2 h3 h4 h5 h6 h7 h8 => exact .osl (by rw [hm _ _ hc]; exact h1) h2 h3 h4 h5 h6 h7 h8

theorem ren_cells (hok : ∀ β, ok β → ok' β) (hm : ∀ b c, ρ b = some c → m' c = m b) {d : Nat} {a y : AV} (hr : ren ρ d a = some y) {C : Array Value} {o : Nat} (hc : CR ok h m a.cells C o) : y.cells.length = a.cells.length ∧ CR ok' h m' y.cells C o := by
  cases d with
  | zero => simp [ren] at hr
  | succ d =>
    have one : a.cells = [a] → y.cells = [y] → y.cells.length = a.cells.length ∧ CR ok' h m' y.cells C o := by
      intro h1 h2
      refine ⟨by rw [h1, h2]; rfl, ?_⟩
      rw [h2]
      intro j x hx
      cases j with
      | zero =>
        simp at hx; subst hx
        obtain ⟨v, hv, hr'⟩ := hc 0 a (by rw [h1]; rfl)
        exact ⟨v, hv, ren_vr hok hm _ _ _ v hr hr'⟩
      | succ j => simp at hx
    cases ren_rn hr with
    | agg hr' => exact ⟨(renAll_some hr').1, renAll_vr (fun a y v h1 h2 => ren_vr hok hm d a y v h1 h2) hr' hc⟩
    | tup hr' => exact one rfl rfl
    | fn hr' => exact one rfl rfl
    | ifc hr' => exact one rfl rfl
    | osl h1 => exact one rfl rfl
    | gs h1 => exact one rfl rfl
    | leaf hl =>
      cases a <;> first | exact one rfl rfl | (simp [leafR, leafV] at hl)

theorem renAll_flat (hok : ∀ β, ok β → ok' β) (hm : ∀ b c, ρ b = some c → m' c = m b) {d s : Nat} : ∀ {cs r : List AV}, renAll ρ d cs = some r → (∀ x ∈ cs, x.cells.length = s) → ∀ {C : Array Value} {o : Nat}, CR ok h m (flat cs) C o →
    (∀ y ∈ r, y.cells.length = s) ∧ CR ok' h m' (flat r) C o
  | [], r, hr, _, C, o, _ => by
    simp [renAll] at hr; subst hr
    exact ⟨fun y hy => by simp at hy, fun j x hx => by simp [flat] at hx⟩
  | a :: l, r, hr, hs, C, o, hc => by
    rw [renAll_cons] at hr
    split at hr
    · rename_i ys y hys hy
      cases hr
      rw [flat_cons] at hc
      have ha := hs a (by simp)
      obtain ⟨g1, g2⟩ := ren_cells hok hm hy (fun j x hx => hc j x (by rw [List.getElem?_append_left (List.getElem?_eq_some_iff.1 hx).1]; exact hx))
      obtain ⟨k1, k2⟩ := renAll_flat hok hm hys (fun x hx => hs x (by simp [hx])) (C := C) (o := o + s) (fun j x hx => by
        obtain ⟨v, hv, hr'⟩ := hc (s + j) x (by rw [List.getElem?_append_right (by omega), ha, Nat.add_sub_cancel_left]; exact hx)
        exact ⟨v, by rw [Nat.add_assoc]; exact hv, hr'⟩)
      refine ⟨fun z hz => ?_, fun j x hx => ?_⟩
      · rcases List.mem_cons.1 hz with rfl | hz
        · omega
        · exact k1 z hz
      · rw [flat_cons] at hx
        rcases Nat.lt_or_ge j y.cells.length with hj | hj
        · rw [List.getElem?_append_left hj] at hx; exact g2 j x hx
        · rw [List.getElem?_append_right hj] at hx
          obtain ⟨v, hv, hr'⟩ := k2 _ x hx
          exact ⟨v, by rw [← hv]; congr 1; omega, hr'⟩
    · cases hr

/-- A value that holds no memory is told wherever. -/
theorem flat_vr : ∀ d a v, flatV d a = true → VR ok h m a v → VR ok' h' m' a v := by
  intro d
  induction d with
  | zero => intro a v hf; simp [flatV] at hf
  | succ d ih =>
    intro a v hf hv
    have parts : ∀ {cs : List AV} {C : Array Value}, cs.all (flatV d) = true → CR ok h m cs C 0 → CR ok' h' m' cs C 0 := by
      intro cs C hcs hc j x hx
      obtain ⟨u, hu, hr⟩ := hc j x hx
      exact ⟨u, hu, ih _ _ (List.all_eq_true.1 hcs x (List.mem_of_getElem? hx)) hr⟩
    cases a with
    | agg cs =>
      obtain ⟨us, rfl, h1, h2⟩ := hv.agg_inv
      exact .agg' h1 (parts hf h2)
    | tup cs =>
      obtain ⟨us, rfl, h1, h2⟩ := hv.tup_inv
      exact .tup' h1 (parts hf h2)
    | ifc t a =>
      cases hv with
      | ifc hv' => exact .ifc (ih _ _ hf hv')
    | fn f cs =>
      cases cs with
      | nil =>
        obtain ⟨us, rfl, h1, h2⟩ := hv.fn_inv
        exact .fn' h1 (fun j x hx => by simp at hx)
      | cons _ _ => simp [flatV] at hf
    | sl xs =>
      cases xs with
      | nil => cases hv with
        | slE h1 => exact .slE h1
        | sl g h1 => exact absurd rfl h1
      | cons _ _ => simp [flatV] at hf
    | nils => cases hv; exact .nils
    | emp => cases hv; exact .emp
    | bool _ => cases hv; exact .bool _
    | ub _ => cases hv; exact .ub _
    | int _ _ => cases hv; exact .int _ _
    | str _ => obtain ⟨s, rfl, hs⟩ := hv.str_inv; exact .str _ _ hs
    | nilp => cases hv; exact .nilp
    | nilf => cases hv; exact .nilf
    | nili => cases hv; exact .nili
    | nilm => cases hv; exact .nilm
    | dead => simp [flatV] at hf
    | sub _ _ _ => simp [flatV] at hf
    | psub _ _ _ => simp [flatV] at hf
    | osl _ _ _ _ => simp [flatV] at hf
    | ptr _ _ => simp [flatV] at hf
    | eptr _ _ _ => simp [flatV] at hf
    | cptr _ => simp [flatV] at hf
    | mp _ => simp [flatV] at hf
    | rng _ _ _ _ => simp [flatV] at hf
    | ustr _ _ => simp [flatV] at hf
    | lin _ _ _ _ _ => simp [flatV] at hf
    | nev => simp [flatV] at hf
    | tl _ _ => simp [flatV] at hf
    | gs _ _ _ => simp [flatV] at hf

end
end Go.Proofs.Ytmkmjjodiicmlaa.VS

/- A call by trees: what it leaves to its caller. Conditions: none. -/
namespace Go.Proofs.Ytmkmjjodiicmlaa.VS
variable [Syms]

/-- A call of a function, by a contract or by its text. -/
def CallsTo (P : Program) (f : FuncId) (args : Array Value) (w : World) (R : Value → World → Prop) : Prop :=
  (∃ v w', (callFunc f args).run P w = .ok (.value v) w' ∧ R v w') ∨
  ((callFunc f args).run P w = .ok (.enter f args) w ∧ Calls P f args w fun e w' => ∃ v, e = .returned v ∧ R v w')

omit [Syms] in
theorem CallsTo.mono {P : Program} {f : FuncId} {args : Array Value} {w : World} {R R' : Value → World → Prop} (h : CallsTo P f args w R) (hr : ∀ v w', R v w' → R' v w') : CallsTo P f args w R' := by
  rcases h with ⟨v, w', h1, h2⟩ | ⟨h1, h2⟩
  · exact .inl ⟨v, w', h1, hr _ _ h2⟩
  · exact .inr ⟨h1, h2.mono fun e w' ⟨v, hv, hw⟩ => ⟨v, hv, hr _ _ hw⟩⟩

/-- What a call leaves. -/
structure After (c : Ctx) (m : Map) (H : Heap) (F : List Nat) (w : World) (nx : Nat) (v : AV) (H' : Heap) (F' : List Nat) (nx' : Nat) (cv : Value) (m' : Map) (w' : World) : Prop where
  ext : Ext c m H F w m' H' F' w'
  sr : SR c m' H' F' w'
  vr : VR (okB c.X m' H' F') w'.heap m' v cv
  le : nx ≤ nx'
  dom : ∀ b, m' b ≠ none → m b ≠ none ∨ (nx ≤ b ∧ b < nx')

/-- What the abstract machine answers, the model's functions answer. -/
def CallOK (P : Program) (call : FuncId → List AV → Heap → List Nat → Nat → Ans) : Prop :=
  ∀ f args H F nx v H' F' nx', call f args H F nx = .ok v H' F' nx' → ∀ (c : Ctx) (m : Map) (w : World) (cargs : Array Value), SR c m H F w → CR (okB c.X m H F) w.heap m args cargs 0 → cargs.size = args.length →
    (∀ b, nx ≤ b → m b = none) → CallsTo P f cargs w fun cv w' => ∃ m', After c m H F w nx v H' F' nx' cv m' w'

theorem resolveAll_vr {ok ok' : Nat → Prop} {h : Array Obj} {m : Map} {H : Heap} {nz : Bool} {I : Nat → Prop} (hok : ∀ β, ok β → ok' β) (hA : ArrsR ok h m H) (hI : ∀ b o L β, I b → hget H b = some o → m b = some L → fp o L β → ok' β) :
    ∀ {args : List AV} {p : List AV × List Nat}, resolveAll nz H args = some p → (∀ b ∈ p.2, I b) → ∀ {C : Array Value} {o : Nat}, CR ok h m args C o → p.1.length = args.length ∧ CR ok' h noMap p.1 C o
  | [], p, hp, _, C, o, _ => by simp [resolveAll] at hp; subst hp; exact ⟨rfl, fun j x hx => by simp at hx⟩
  | a :: l, p, hp, hi, C, o, hc => by
    rw [resolveAll] at hp
    split at hp
    · rename_i x y hx hy
      cases hp
      obtain ⟨h1, h2⟩ := resolveAll_vr hok hA hI hy (fun b hb => hi b (List.mem_append.2 (.inr hb))) (C := C) (o := o + 1) (fun j z hz => by
        obtain ⟨v, hv, hr⟩ := hc (j + 1) z (by simpa using hz)
        exact ⟨v, by rw [← hv]; congr 1; omega, hr⟩)
      refine ⟨by simp [h1], fun j z hz => ?_⟩
      cases j with
      | zero =>
        simp at hz; subst hz
        obtain ⟨v, hv, hr⟩ := hc 0 a rfl
        exact ⟨v, hv, resolve_vr hok hA hI _ _ _ _ v hx (fun b hb => hi b (List.mem_append.2 (.inl hb))) hr⟩
      | succ j =>
        obtain ⟨v, hv, hr⟩ := h2 j z (by simpa using hz)
        exact ⟨v, by rw [← hv]; congr 1; omega, hr⟩
    · cases hp

omit [Syms] in
theorem placeIn_some {b : Nat} : ∀ {l : List Nat} {id x : Nat}, placeIn id l b = some x → id ≤ x ∧ x < id + l.length ∧ l[x - id]? = some b
  | [], id, x, h => by simp [placeIn] at h
  | a :: r, id, x, h => by
    rw [placeIn] at h
    cases hc : a.beq b with
    | true =>
      simp only [hc, cond_true, Option.some.injEq] at h
      subst h
      exact ⟨Nat.le_refl _, by simp, by simp [Nat.eq_of_beq_eq_true hc]⟩
    | false =>
      simp only [hc, cond_false] at h
      obtain ⟨h1, h2, h3⟩ := placeIn_some h
      refine ⟨by omega, by simp; omega, ?_⟩
      rw [show x - id = (x - (id + 1)) + 1 by omega]
      simpa using h3

omit [Syms] in
theorem happ_get : ∀ (R : Eff) {H : Heap} {x : Nat} {o : AObj}, hget (happ H R) x = some o → hget H x = some o ∨ (x, some o) ∈ R
  | [], H, x, o, h => .inl h
  | (k, q) :: R, H, x, o, h => by
    rw [happ] at h
    rcases happ_get R h with g | g
    · cases q with
      | some q =>
        simp only [hput] at g
        rw [hget_hset] at g
        split at g
        · rename_i hk
          subst hk
          have := Option.some.inj g
          subst this
          exact .inr (by simp)
        · exact .inl g
      | none =>
        simp only [hput] at g
        rw [hget_hdel] at g
        split at g
        · cases g
        · exact .inl g
    · exact .inr (by simp [g])

omit [Syms] in
theorem happ_keep : ∀ (R : Eff) {H : Heap} {x : Nat} {o : AObj}, hget (happ H R) x = some o → (hget H x = some o ∧ ∀ q, (x, q) ∉ R) ∨ (x, some o) ∈ R
  | [], H, x, o, h => .inl ⟨h, fun q hq => by cases hq⟩
  | (k, q) :: R, H, x, o, h => by
    rw [happ] at h
    rcases happ_keep R h with ⟨g, g'⟩ | g
    · cases q with
      | some q =>
        simp only [hput] at g
        rw [hget_hset] at g
        split at g
        · rename_i hk
          subst hk
          have := Option.some.inj g
          subst this
          exact .inr (by simp)
        · rename_i hk
          refine .inl ⟨g, fun q' hq => ?_⟩
          rcases List.mem_cons.1 hq with e | hq
          · cases e; exact hk rfl
          · exact g' _ hq
      | none =>
        simp only [hput] at g
        rw [hget_hdel] at g
        split at g
        · cases g
        · rename_i hk
          refine .inl ⟨g, fun q' hq => ?_⟩
          rcases List.mem_cons.1 hq with e | hq
          · cases e; exact hk rfl
          · exact g' _ hq
    · exact .inr (by simp [g])

omit [Syms] in
theorem renHeap_dom {ρ : Nat → Option Nat} {H' : Heap} : ∀ {l : List Nat} {R : Eff}, renHeap ρ H' l = some R → ∀ b ∈ l, ∀ x, ρ b = some x → ∃ q, (x, q) ∈ R
  | [], _, _, b, hb, _, _ => by cases hb
  | a :: r, R, h, b, hb, x, hx => by
    rw [renHeap] at h
    split at h
    · rename_i c s xs R' h1 h2 h3
      split at h
      · cases h
        rcases List.mem_cons.1 hb with rfl | hb
        · rw [hx] at h1; cases h1; exact ⟨_, List.mem_cons_self⟩
        · obtain ⟨q, hq⟩ := renHeap_dom h3 b hb x hx
          exact ⟨q, List.mem_cons_of_mem _ hq⟩
      · cases h
    · rename_i c t xs R' h1 h2 h3
      cases h
      rcases List.mem_cons.1 hb with rfl | hb
      · rw [hx] at h1; cases h1; exact ⟨_, List.mem_cons_self⟩
      · obtain ⟨q, hq⟩ := renHeap_dom h3 b hb x hx
        exact ⟨q, List.mem_cons_of_mem _ hq⟩
    · rename_i c xs q R' h1 h2 h3
      cases h
      rcases List.mem_cons.1 hb with rfl | hb
      · rw [hx] at h1; cases h1; exact ⟨_, List.mem_cons_self⟩
      · obtain ⟨q', hq⟩ := renHeap_dom h3 b hb x hx
        exact ⟨q', List.mem_cons_of_mem _ hq⟩
    · cases h

/-- An array under other numbers. -/
inductive RenO (ρ : Nat → Option Nat) : AObj → AObj → Prop
  | arr {s xs ys} : renAll ρ DEEP xs = some ys → RenO ρ (.arr s xs) (.arr s ys)
  | tarr {t xs} : RenO ρ (.tarr t xs) (.tarr t xs)
  | deep {xs q} : RenO ρ (.deep xs q) (.deep xs q)

omit [Syms] in
theorem RenO.fp {ρ : Nat → Option Nat} {o o' : AObj} (h : RenO ρ o o') {L : Loc} {β : Nat} (hf : fp o' L β) : VS.fp o L β := by
  cases h with
  | arr h => exact .inl ((flat_arr _ _).fp hf)
  | tarr => exact hf
  | deep => exact hf

omit [Syms] in
theorem renHeap_mem {ρ : Nat → Option Nat} {H' : Heap} : ∀ {l : List Nat} {R : Eff}, renHeap ρ H' l = some R → ∀ {x : Nat} {q : Option AObj}, (x, q) ∈ R →
    ∃ b o o', ρ b = some x ∧ hget H' b = some o ∧ RenO ρ o o' ∧ q = some o'
  | [], R, h, x, q, hm => by simp [renHeap] at h; subst h; simp at hm
  | b :: r, R, h, x, q, hm => by
    rw [renHeap] at h
    split at h
    · rename_i c s xs R' h1 h2 h3
      split at h
      · rename_i ys h4
        cases h
        rcases List.mem_cons.1 hm with e | hm
        · cases e; exact ⟨b, _, _, h1, h2, .arr h4, rfl⟩
        · exact renHeap_mem h3 hm
      · cases h
    · rename_i c t xs R' h1 h2 h3
      cases h
      rcases List.mem_cons.1 hm with e | hm
      · cases e; exact ⟨b, _, _, h1, h2, .tarr, rfl⟩
      · exact renHeap_mem h3 hm
    · rename_i c xs q R' h1 h2 h3
      cases h
      rcases List.mem_cons.1 hm with e | hm
      · cases e; exact ⟨b, _, _, h1, h2, .deep, rfl⟩
      · exact renHeap_mem h3 hm
    · cases h

omit [Syms] in
theorem still_mem {ρ : Nat → Option Nat} {F' : List Nat} {b x : Nat} (hρ : ρ b = some x) (hF : b ∈ F') : ∀ {l : List Nat}, b ∈ l → x ∈ still ρ F' l
  | [], h => by simp at h
  | a :: r, h => by
    rw [still]
    rcases List.mem_cons.1 h with rfl | h
    · rw [(isIn_iff b F').2 hF]
      simp [hρ]
    · have := still_mem hρ hF h
      cases isIn a F' with
      | false => exact this
      | true =>
        simp only [cond_true]
        split
        · simp [this]
        · exact this

section
variable {P : Program} {c : Ctx} {m : Map} {H : Heap} {F : List Nat} {w : World}

/-- Where all that was there is as it was, all that was told is told still. -/
theorem SR.away (hs : SR c m H F w) {w' : World} (hk : Keep (fun _ => False) w w') : Ext c m H F w m H F w' ∧ SR c m H F w' := by
  have hb : ∀ β, β < w.heap.size → w'.heap[β]? = w.heap[β]? := fun β h => hk.block β h (fun h => h)
  have hx : Ext c m H F w m H F w' := ⟨MLe.refl m, fun β C e z ho hh => ⟨ho, by rw [hb β (lt_of_some hh)]; exact hh⟩⟩
  refine ⟨hx, hs.xlt, fun b1 o1 hb1 => ?_, hs.injf, hs.noxf, hs.ownf, ?_⟩
  · exact (hs.all b1 o1 hb1).imp (fun ⟨L, h1, h2⟩ => ⟨L, h1, ObjR.mono h2 hx.kk hx.mm (fun β hβ => hb β (ObjR.fplt h2 hβ))⟩) (fun h => h)
  · have k := hs.keep
    exact ⟨hk.os.trans k.os, hk.tape.trans k.tape, hk.output.trans k.output, by have := hk.size; have := k.size; omega, fun β h1 h2 => by
      rw [hb β (by have := k.size; omega)]; exact k.block β h1 h2⟩

/-- Some numbers are forgotten. -/
theorem SR.sub (hs : SR c m H F w) {H2 : Heap} (hsub : ∀ b o, hget H2 b = some o → hget H b = some o) : Ext c m H F w m H2 F w ∧ SR c m H2 F w := by
  have hx : Ext c m H F w m H2 F w :=
    ⟨MLe.refl m, fun β C e z ho hh => ⟨⟨ho.1, fun b1 o1 L1 hb1 hf1 hm1 => ho.2 b1 o1 L1 (hsub _ _ hb1) hf1 hm1⟩, hh⟩⟩
  exact ⟨hx, hs.xlt, fun b1 o1 hb1 => (hs.all b1 o1 (hsub _ _ hb1)).imp (fun ⟨L, h1, h2⟩ => ⟨L, h1, ObjR.mono h2 hx.kk hx.mm (fun _ _ => rfl)⟩) (fun h => h),
    fun b1 o1 b2 o2 L1 L2 β h1 h2 => hs.injf b1 o1 b2 o2 L1 L2 β (hsub _ _ h1) (hsub _ _ h2),
    fun b1 o1 L1 β h1 => hs.noxf b1 o1 L1 β (hsub _ _ h1), fun b1 o1 L1 β h1 => hs.ownf b1 o1 L1 β (hsub _ _ h1), hs.keep⟩

omit [Syms] in
theorem hget_below (nx : Nat) : ∀ (H : Heap) (b : Nat) (o : AObj), hget (below nx H) b = some o → hget H b = some o
  | [], b, o, h => h
  | (k, q) :: r, b, o, h => by
    have hb : ∀ (H : Heap) (b : Nat) (o : AObj), hget (below nx H) b = some o → b < nx := by
      intro H
      induction H with
      | nil => intro b o h; simp [below, hget] at h
      | cons p r ih =>
        intro b o h
        rw [below] at h
        cases hc : p.1.blt nx with
        | true =>
          simp only [hc, cond_true] at h
          obtain ⟨k, q⟩ := p
          rw [hget_cons] at h
          split at h
          · rename_i hk; subst hk; exact blt_lt hc
          · exact ih b o h
        | false =>
          simp only [hc, cond_false] at h
          exact ih b o h
    rw [below] at h
    cases hc : k.blt nx with
    | true =>
      simp only [hc, cond_true] at h
      rw [hget_cons] at h ⊢
      split
      · rename_i hk; rw [if_pos hk] at h; exact h
      · rename_i hk; rw [if_neg hk] at h; exact hget_below nx r b o h
    | false =>
      simp only [hc, cond_false] at h
      rw [hget_cons]
      split
      · rename_i hk
        subst hk
        have := hb r _ _ h
        have hc' : ¬ k < nx := fun hlt => by
          have : k.blt nx = true := Nat.ble_eq_true_of_le hlt
          rw [hc] at this; cases this
        exact absurd this hc'
      · exact hget_below nx r b o h

/-- The rows that a callee by trees must not know: what is its caller's own, and not handed in. -/
def ownX (c : Ctx) (m : Map) (H : Heap) (F ids : List Nat) (β : Nat) : Prop :=
  c.X β ∨ ∃ b o L, hget H b = some o ∧ b ∉ F ∧ b ∉ ids ∧ m b = some L ∧ fp o L β

theorem SR.callee (hs : SR c m H F w) (ids : List Nat) : SR ⟨ownX c m H F ids, fun _ => False, w⟩ noMap [] [] w := by
  refine ⟨fun β hβ => ?_, fun b o hb => (by cases hb), fun b o _ _ _ _ _ hb => (by cases hb), fun b o L _ hb => (by cases hb), fun b o L _ hb => (by cases hb), Keep.refl _ _⟩
  rcases hβ with h | ⟨b, o, L, h1, h2, h3, h4, h5⟩
  · have := hs.xlt _ h; have := hs.keep.size; show β < w.heap.size; omega
  · exact hs.fplt h1 h4 h5

theorem SR.toCallee (hs : SR c m H F w) {nz : Bool} {args : List AV} {p : List AV × List Nat} (hp : resolveAll nz H args = some p) {C : Array Value} (hc : CR (okB c.X m H F) w.heap m args C 0) :
    p.1.length = args.length ∧ CR (okB (ownX c m H F p.2) noMap [] []) w.heap noMap p.1 C 0 := by
  refine resolveAll_vr (I := fun b => b ∈ p.2) ?_ hs.arrs ?_ hp (fun b hb => hb) hc
  · intro β ho
    refine ⟨?_, fun b o L hb => by cases hb⟩
    rintro (h | ⟨b, o, L, h1, h2, h3, h4, h5⟩)
    · exact ho.1 h
    · exact ho.2 b o L h1 h2 h4 h5
  · intro b o L β hb hg hm hf
    refine ⟨?_, fun b o L hb => by cases hb⟩
    rintro (h | ⟨b', o', L', h1, h2, h3, h4, h5⟩)
    · exact hs.noxf b o L β hg hm hf h
    · have := hs.injf b' o' b o L' L β h1 hg h4 hm h5 hf
      subst this
      exact h3 hb

end
end Go.Proofs.Ytmkmjjodiicmlaa.VS

/- A call by trees, and a call over the caller's own variables: what each leaves. Conditions: none. -/
namespace Go.Proofs.Ytmkmjjodiicmlaa.VS
variable [Syms]

section
variable {P : Program} {c : Ctx} {m : Map} {H : Heap} {F : List Nat} {w : World}

/-- The numbers of what a callee leaves to its caller. -/
def taken (id : Nat) (is : List Nat) (m m' : Map) : Map := fun x => if (id ≤ x ∧ x < id + is.length) ∧ (is[x - id]?).bind (placeIn id is) = some x then (is[x - id]?).bind m' else m x

omit [Syms] in
theorem taken_new {id : Nat} {is : List Nat} {m m' : Map} {b x : Nat} (h : placeIn id is b = some x) : taken id is m m' x = m' b := by
  obtain ⟨h1, h2, h3⟩ := placeIn_some h
  simp [taken, h1, h2, h3, h]

omit [Syms] in
theorem taken_old {id : Nat} {is : List Nat} {m m' : Map} (hle : is.length ≤ STRIDE) (hid : ∀ b, id ≤ b → b < id + STRIDE → m b = none) {x : Nat} (hx : m x ≠ none) : taken id is m m' x = m x := by
  unfold taken
  rw [if_neg]
  rintro ⟨⟨h1, h2⟩, _⟩
  exact hx (hid x h1 (by omega))

/-- What a callee's own rows are to its caller. -/
theorem sim_keep (hs : SR c m H F w) {id : Nat} (hid : ∀ b, id ≤ b → b < id + STRIDE → m b = none) {ids : List Nat} {m' : Map} {H' : Heap} {F' : List Nat} {w' : World} {a v : AV} {is : List Nat} {e : Eff} {rd fz : List Nat} {cv : Value}
    (hs' : SR ⟨ownX c m H F ids, fun _ => False, w⟩ m' H' F' w') (hv : VR (okB (ownX c m H F ids) m' H' F') w'.heap m' a cv) (h : keepAns id ids H' F' a is = .ok v e rd fz) :
    Done c m H F w id v e fz cv (taken id is m m') w' := by
  unfold keepAns at h
  cases hc : is.length.ble STRIDE with
  | false => simp [hc] at h
  | true =>
    simp only [hc, cond_true] at h
    have hle := ble_le hc
    split at h
    · rename_i r R hr hR
      simp only [Res.ok.injEq] at h
      obtain ⟨rfl, rfl, _, rfl⟩ := h
      have hk : Keep (fun _ => False) w w' := hs'.keep
      obtain ⟨hx0, hsw⟩ := hs.away hk
      have hblk : ∀ β, β < w.heap.size → w'.heap[β]? = w.heap[β]? := fun β h => hk.block β h (fun h => h)
      have hnew : ∀ b o L β, hget H' b = some o → m' b = some L → fp o L β → w.heap.size ≤ β := fun b o L β h1 h2 h3 => (hs'.ownf b o L β h1 h2 h3).resolve_left (fun h => h)
      have get : ∀ {x o}, hget (happ H R) x = some o → (hget H x = some o ∧ taken id is m m' x = m x) ∨ ∃ b o0, placeIn id is b = some x ∧ hget H' b = some o0 ∧ RenO (placeIn id is) o0 o := fun {x o} hx => by
        rcases happ_keep R hx with ⟨h, h'⟩ | h
        · refine .inl ⟨h, ?_⟩
          unfold taken
          rw [if_neg]
          rintro ⟨h1, h2⟩
          cases hi : is[x - id]? with
          | none => rw [hi] at h2; cases h2
          | some b =>
            rw [hi] at h2
            obtain ⟨q, hq⟩ := renHeap_dom hR b (List.mem_of_getElem? hi) x h2
            exact h' q hq
        · obtain ⟨b, o0, o1, h1, h2, h3, h4⟩ := renHeap_mem hR h
          cases h4
          exact .inr ⟨b, o0, h1, h2, h3⟩
      -- a row that the callee must not change, told by the caller
      have hok : ∀ β, okB (ownX c m H F ids) m' H' F' β → okB c.X (taken id is m m') (happ H R) ((still (placeIn id is) F' is ++ ids) ++ F) β := by
        intro β ho
        refine ⟨fun hX => ho.1 (.inl hX), fun x o L hx hf hm => ?_⟩
        rcases get hx with ⟨hx, old⟩ | ⟨b, o0, h1, h2, h3⟩
        · rw [old] at hm
          intro hL
          exact ho.1 (.inr ⟨x, o, L, hx, fun h => hf (by simp [h]), fun h => hf (by simp [h]), hm, hL⟩)
        · rw [taken_new h1] at hm
          obtain ⟨_, _, p3⟩ := placeIn_some h1
          exact fun hL => ho.2 b _ L h2 (fun hF => hf (by simp [still_mem h1 hF (List.mem_of_getElem? p3)])) hm (h3.fp hL)
      have hle' : MLe m (taken id is m m') := fun b L hb => by rw [taken_old hle hid (by rw [hb]; simp)]; exact hb
      have hext : Ext c m H F w (taken id is m m') (happ H R) ((still (placeIn id is) F' is ++ ids) ++ F) w' := by
        refine ⟨hle', fun β C et z ho hh => ⟨⟨ho.1, fun x o L hx hf hm => ?_⟩, by rw [hblk β (lt_of_some hh)]; exact hh⟩⟩
        rcases get hx with ⟨hx, old⟩ | ⟨b, o0, h1, h2, h3⟩
        · rw [old] at hm
          exact ho.2 x o L hx (fun h => hf (by simp [h])) hm
        · rw [taken_new h1] at hm
          intro hL
          have := hnew b _ L _ h2 hm (h3.fp hL)
          have := lt_of_some hh
          omega
      refine ⟨hext, ⟨hs.xlt, fun x o hx => ?_, fun x1 o1 x2 o2 L1 L2 β k1 k2 k3 k4 k5 k6 => ?_, fun x o L β hx hm hL => ?_, fun x o L β hx hm hL => ?_, hsw.keep⟩, ren_vr hok (fun b x hb => taken_new hb) _ _ _ _ hr hv, fun b hb => ?_⟩
      · rcases get hx with ⟨hx, old⟩ | ⟨b, o0, h1, h2, h3⟩
        · rw [old]
          exact (hs.all x o hx).imp (fun ⟨L, g1, g2⟩ => ⟨L, g1, ObjR.mono g2 hext.kk hle' (fun β hβ => hblk β (ObjR.fplt g2 hβ))⟩) (fun h => h)
        · rw [taken_new h1]
          have hvo : Void o0 → Void o := fun hv => by
            rcases hv with ⟨t, rfl⟩ | ⟨t, rfl⟩ | ⟨t, rfl⟩
            · cases h3; exact .inl ⟨t, rfl⟩
            · cases h3 with
              | arr h3 =>
                have := (renAll_some h3).1
                rw [List.length_eq_zero_iff.1 this]
                exact .inr (.inl ⟨t, rfl⟩)
            · cases h3; exact .inr (.inr ⟨t, rfl⟩)
          rcases hs'.all b _ h2 with ⟨L, g1, g2⟩ | ⟨g1, hv⟩
          case inr => exact .inr ⟨g1, hvo hv⟩
          refine .inl ⟨L, g1, ?_⟩
          cases h3 with
          | arr h3 =>
            obtain ⟨j1, j2, j3, j4, C, et, z, j5, j6, j7, j8, j9⟩ := g2
            obtain ⟨q1, q2⟩ := renAll_flat hok (fun b x hb => taken_new hb) h3 j4 j9
            have hlen := (renAll_some h3).1
            exact ⟨j1, j2, by rw [hlen]; exact j3, q1, C, et, z, j5, j6, j7, by rw [hlen]; exact j8, q2⟩
          | tarr =>
            obtain ⟨j1, j2, j3, j4, C, et, z, j5, j6, j7, j8, j9⟩ := g2
            exact ⟨j1, j2, j3, j4, C, et, z, j5, j6, j7, j8, encs_flat_vr hok j9⟩
          | deep => exact g2
      · rcases get k1 with ⟨k1, old1⟩ | ⟨b1, o1', g1, g2, g3⟩ <;> rcases get k2 with ⟨k2, old2⟩ | ⟨b2, o2', q1, q2, q3⟩
        · rw [old1] at k3; rw [old2] at k4
          exact hs.injf _ _ _ _ _ _ _ k1 k2 k3 k4 k5 k6
        · rw [old1] at k3; rw [taken_new q1] at k4
          have := hs.fplt k1 k3 k5
          have := hnew _ _ _ _ q2 k4 (q3.fp k6)
          omega
        · rw [old2] at k4; rw [taken_new g1] at k3
          have := hs.fplt k2 k4 k6
          have := hnew _ _ _ _ g2 k3 (g3.fp k5)
          omega
        · rw [taken_new g1] at k3; rw [taken_new q1] at k4
          have := hs'.injf _ _ _ _ _ _ _ g2 q2 k3 k4 (g3.fp k5) (q3.fp k6)
          subst this
          rw [g1] at q1; exact Option.some.inj q1
      · rcases get hx with ⟨hx, old⟩ | ⟨b, o0, h1, h2, h3⟩
        · rw [old] at hm; exact hs.noxf x o L β hx hm hL
        · rw [taken_new h1] at hm
          exact fun hX => hs'.noxf b _ L β h2 hm (h3.fp hL) (.inl hX)
      · rcases get hx with ⟨hx, old⟩ | ⟨b, o0, h1, h2, h3⟩
        · rw [old] at hm; exact hs.ownf x o L β hx hm hL
        · rw [taken_new h1] at hm
          have := hnew b _ L _ h2 hm (h3.fp hL)
          have := hs.keep.size
          exact .inr (by omega)
      · by_cases hx : (id ≤ b ∧ b < id + is.length) ∧ (is[b - id]?).bind (placeIn id is) = some b
        · exact .inr ⟨hx.1.1, by omega⟩
        · left
          intro hn
          apply hb
          unfold taken
          rw [if_neg hx]; exact hn
    · cases h

/-- A call by trees. -/
theorem sim_pure (hs : SR c m H F w) {id : Nat} (hid : ∀ b, id ≤ b → b < id + STRIDE → m b = none) {call : FuncId → List AV → Heap → List Nat → Nat → Ans} (hC : CallOK P call) {f : FuncId} {nz keep : Bool} {args : List AV} {p : List AV × List Nat}
    (hp : resolveAll nz H args = some p) {v : AV} {e : Eff} {rd fz : List Nat} (h : pureAns keep id p.2 (call f p.1 [] [] 0) = .ok v e rd fz) {cargs : Array Value} (hc : CR (okB c.X m H F) w.heap m args cargs 0) (hsz : cargs.size = args.length) :
    CallsTo P f cargs w fun cv w' => ∃ m', Done c m H F w id v e fz cv m' w' := by
  obtain ⟨hl, hr⟩ := hs.toCallee hp hc
  unfold pureAns at h
  split at h
  · rename_i v0 H' F' nx' hcall
    refine (hC f p.1 [] [] 0 v0 H' F' nx' hcall _ noMap w cargs (hs.callee p.2) hr (by rw [hsz, hl]) (fun _ _ => rfl)).mono fun cv w' ⟨m', ha⟩ => ?_
    cases keep with
    | true =>
      simp only [cond_true] at h
      exact ⟨_, sim_keep hs hid ha.sr ha.vr h⟩
    | false =>
      simp only [cond_false] at h
      have hk : Keep (fun _ => False) w w' := ha.sr.keep
      obtain ⟨hx0, hsw⟩ := hs.away hk
      split at h
      · rename_i r hr'
        simp only [Res.ok.injEq] at h
        obtain ⟨rfl, rfl, _, rfl⟩ := h
        have hv : VR (fun β => ¬ ownX c m H F p.2 β) w'.heap noMap r.1 cv :=
          resolve_vr (I := fun _ => True) (fun β ho => ho.1) ha.sr.arrs (fun b o L β _ hg hm hf => ha.sr.noxf b o L β hg hm hf) _ _ _ r.2 cv hr' (fun _ _ => trivial) ha.vr
        cases hf : flatV DEEP r.1 with
        | true => exact ⟨m, hx0, hsw, flat_vr _ _ _ hf hv, fun b hb => .inl hb⟩
        | false =>
          obtain ⟨hx1, hs1⟩ := hsw.freeze p.2
          refine ⟨m, hx0.trans hx1, hs1, hv.mono (fun β C et z ho hh => ⟨⟨fun hX => ho (.inl hX), fun b o L hb hF hm hL => ho (.inr ⟨b, o, L, hb, fun h => hF ?_, fun h => hF ?_, hm, hL⟩)⟩, hh⟩) (fun b L hb => by cases hb), fun b hb => .inl hb⟩
          · simp [h]
          · simp [h]
      · cases h
  · cases h

/-- What an operation leaves: by numbers of its own, or the whole heap anew. -/
def OpPost (c : Ctx) (m : Map) (s : St) (w : World) (id : Nat) (cv : Value) (m' : Map) (w' : World) : Res → Prop
  | .ok v e _ fz => Done c m s.H s.F w id v e fz cv m' w'
  | .all v H' F' nx' => After c m s.H s.F w s.nx v H' F' nx' cv m' w'
  | .no => False

theorem sim_shared {s : St} (hs : SR c m s.H s.F w) (hnx : ∀ b, s.nx ≤ b → m b = none) {call : FuncId → List AV → Heap → List Nat → Nat → Ans} (hC : CallOK P call) {f : FuncId} {args : List AV} {id : Nat} {q : Res}
    (h : sharedAns s.nx (call f args s.H s.F s.nx) = q) (hq : q ≠ .no) {cargs : Array Value} (hc : CR (okB c.X m s.H s.F) w.heap m args cargs 0) (hsz : cargs.size = args.length) :
    CallsTo P f cargs w fun cv w' => ∃ m', OpPost c m s w id cv m' w' q := by
  unfold sharedAns at h
  split at h
  · rename_i v H' F' nx' hcall
    refine (hC f args s.H s.F s.nx v H' F' nx' hcall c m w cargs hs hc hsz hnx).mono fun cv w' ⟨m', ha⟩ => ⟨m', ?_⟩
    cases hi : idFree DEEP v with
    | true =>
      simp only [hi, cond_true] at h
      subst h
      obtain ⟨hx, hs'⟩ := ha.sr.sub (H2 := below s.nx H') (hget_below s.nx H')
      exact ⟨ha.ext.trans hx, hs', hx.vr ha.vr, ha.le, ha.dom⟩
    | false =>
      simp only [hi, cond_false] at h
      subst h
      exact ha
  · exact absurd h.symm hq

/-- A call of a function. -/
theorem sim_acall {E : Env} {s : St} (hs : SR c m s.H s.F w) {id : Nat} (hid : ∀ b, id ≤ b → b < id + STRIDE → m b = none) (hnx : ∀ b, s.nx ≤ b → m b = none) (hC : CallOK P E.call) {f : FuncId} {args : List AV} {q : Res}
    (h : acallOp E s id f args = q) (hq : q ≠ .no) {cargs : Array Value} (hc : CR (okB c.X m s.H s.F) w.heap m args cargs 0) (hsz : cargs.size = args.length) :
    CallsTo P f cargs w fun cv w' => ∃ m', OpPost c m s w id cv m' w' q := by
  unfold acallOp at h
  cases hp : ((args.any (hasPtr DEEP) && !E.cfg.look f) || E.cfg.share f) with
  | true =>
    simp only [hp, cond_true] at h
    exact sim_shared hs hnx hC h hq hc hsz
  | false =>
    simp only [hp, cond_false] at h
    split at h
    · rename_i p hpp
      cases q with
      | no => exact absurd rfl hq
      | ok v e rd fz => exact sim_pure hs hid hC hpp h hc hsz
      | all v H' F' nx' =>
        exfalso
        revert h
        unfold pureAns keepAns
        split
        · cases E.cfg.keep f with
          | true =>
            simp only [cond_true]
            cases (_ : Nat).ble STRIDE with
            | false => simp
            | true =>
              simp only [cond_true]
              split <;> simp
          | false =>
            simp only [cond_false]
            split <;> simp
        · simp
    · exact absurd h.symm hq

end
end Go.Proofs.Ytmkmjjodiicmlaa.VS

/- Operations in a row: what they leave, on both sides. Conditions: none. -/
namespace Go.Proofs.Ytmkmjjodiicmlaa.VS
variable [Syms]

/-! ### The frame -/

def Fr.has : Fr → Nat → Bool
  | .nil, _ => false
  | .nd _ l r, k => if k = 0 then true else if k % 2 = 1 then l.has (k / 2) else r.has (k / 2 - 1)

omit [Syms] in
theorem Fr.get_nd (v : AV) (l r : Fr) (k : Nat) : (Fr.nd v l r).get k = if k = 0 then v else if k % 2 = 1 then l.get (k / 2) else r.get (k / 2 - 1) := by
  rw [Fr.get]
  change (bif k.beq 0 then v else bif (k % 2).beq 1 then l.get (k / 2) else r.get (k / 2 - 1)) = _
  by_cases h : k = 0
  · subst h; rfl
  · rw [beq_ne h, if_neg h, cond_false]
    by_cases h1 : k % 2 = 1
    · rw [h1]; rfl
    · rw [beq_ne h1, if_neg h1, cond_false]

omit [Syms] in
theorem Fr.set_nd (v a : AV) (l r : Fr) (k : Nat) : (Fr.nd v l r).set k a = if k = 0 then .nd a l r else if k % 2 = 1 then .nd v (l.set (k / 2) a) r else .nd v l (r.set (k / 2 - 1) a) := by
  rw [Fr.set]
  change (bif k.beq 0 then Fr.nd a l r else bif (k % 2).beq 1 then Fr.nd v (l.set (k / 2) a) r else Fr.nd v l (r.set (k / 2 - 1) a)) = _
  by_cases h : k = 0
  · subst h; rfl
  · rw [beq_ne h, if_neg h, cond_false]
    by_cases h1 : k % 2 = 1
    · rw [h1]; rfl
    · rw [beq_ne h1, if_neg h1, cond_false]

omit [Syms] in
theorem Fr.get_set : ∀ (t : Fr) (k j : Nat) (a : AV), t.has k = true → (t.set k a).get j = if j = k then a else t.get j
  | .nil, k, j, a, h => by simp [Fr.has] at h
  | .nd v l r, k, j, a, h => by
    rw [Fr.has] at h
    rw [Fr.set_nd]
    by_cases h0 : k = 0
    · subst h0
      rw [if_pos rfl, Fr.get_nd, Fr.get_nd]
      by_cases hj : j = 0
      · simp [hj]
      · simp [hj]
    · rw [if_neg h0] at h ⊢
      by_cases h1 : k % 2 = 1
      · rw [if_pos h1] at h ⊢
        rw [Fr.get_nd, Fr.get_nd]
        by_cases hj : j = 0
        · subst hj; rw [if_pos rfl, if_pos rfl, if_neg (fun e => h0 e.symm)]
        · rw [if_neg hj, if_neg hj]
          by_cases hj1 : j % 2 = 1
          · rw [if_pos hj1, if_pos hj1, Fr.get_set l _ _ a h]
            by_cases e : j = k
            · subst e; simp
            · rw [if_neg e, if_neg (by omega)]
          · rw [if_neg hj1, if_neg hj1, if_neg (by intro e; subst e; exact hj1 h1)]
      · rw [if_neg h1] at h ⊢
        rw [Fr.get_nd, Fr.get_nd]
        by_cases hj : j = 0
        · subst hj; rw [if_pos rfl, if_pos rfl, if_neg (fun e => h0 e.symm)]
        · rw [if_neg hj, if_neg hj]
          by_cases hj1 : j % 2 = 1
          · rw [if_pos hj1, if_pos hj1, if_neg (by intro e; subst e; exact h1 hj1)]
          · rw [if_neg hj1, if_neg hj1, Fr.get_set r _ _ a h]
            by_cases e : j = k
            · subst e; simp
            · rw [if_neg e, if_neg (by omega)]

omit [Syms] in
theorem Fr.has_set : ∀ (t : Fr) (k j : Nat) (a : AV), (t.set k a).has j = t.has j
  | .nil, k, j, a => rfl
  | .nd v l r, k, j, a => by
    rw [Fr.set_nd]
    split
    · rfl
    · split
      · rw [Fr.has, Fr.has, Fr.has_set l]
      · rw [Fr.has, Fr.has, Fr.has_set r]

omit [Syms] in
theorem Fr.has_full : ∀ (n k : Nat), k + 1 < 2 ^ n → (Fr.full n).has k = true
  | 0, k, h => by simp at h
  | n + 1, k, h => by
    rw [Fr.full, Fr.has]
    rw [Nat.pow_succ] at h
    split
    · rfl
    · split
      · exact Fr.has_full n _ (by omega)
      · exact Fr.has_full n _ (by omega)

omit [Syms] in
theorem Fr.get_full : ∀ (n k : Nat), (Fr.full n).get k = und
  | 0, k => rfl
  | n + 1, k => by
    rw [Fr.full, Fr.get_nd, Fr.get_full n, Fr.get_full n]
    split <;> try rfl
    split <;> rfl

omit [Syms] in
theorem Fr.args_spec : ∀ (l : List AV) (k : Nat) (t : Fr) (N : Nat), (∀ j, j < N → t.has j = true) → k + l.length ≤ N →
    (∀ j, j < N → (Fr.args l k t).has j = true) ∧ ∀ j, (Fr.args l k t).get j = if k ≤ j then (l[j - k]?).getD (t.get j) else t.get j
  | [], k, t, N, ht, _ => ⟨ht, fun j => by simp [Fr.args]⟩
  | a :: r, k, t, N, ht, hk => by
    simp only [List.length_cons] at hk
    obtain ⟨h1, h2⟩ := Fr.args_spec r (k + 1) (t.set k a) N (fun j hj => by rw [Fr.has_set]; exact ht j hj) (by omega)
    refine ⟨h1, fun j => ?_⟩
    rw [Fr.args, h2, Fr.get_set _ _ _ _ (ht k (by omega))]
    by_cases hj : j = k
    · subst hj
      rw [if_neg (by omega), if_pos rfl, if_pos (Nat.le_refl _)]; simp
    · rw [if_neg hj]
      by_cases hkj : k ≤ j
      · rw [if_pos (by omega), if_pos hkj, show j - k = (j - (k + 1)) + 1 by omega, List.getElem?_cons_succ]
      · rw [if_neg (by omega), if_neg hkj]

/-! ### One operation, whatever it is -/

section
variable {P : Program} {T : Tabs} {c : Ctx} {m : Map} {w : World}

/-- An operation ends so, or calls so. -/
def OpWp (P : Program) (a : Act) (o : Oper) (w : World) (R : Value → World → Prop) : Prop :=
  (∃ cv w', OpRun P a o w cv w' ∧ R cv w') ∨
  ∃ f args, (execOp a.eval o).run P w = .ok (.enter f args) w ∧ Calls P f args w fun e w' => ∃ v, e = .returned v ∧ R v w'

omit [Syms] in
theorem OpWp.wp {a : Act} {o : Oper} {R : Value → World → Prop} (h : OpWp P a o w R) {K : Act → World → Prop} (hK : ∀ cv w', R cv w' → K (a.put o.dst cv) w') (Q : Exit → Act → World → Prop) : o.wp P a w K Q := by
  unfold Oper.wp
  rcases h with ⟨cv, w', h1, h2⟩ | ⟨f, args, h1, h2⟩
  · rcases h1 with h1 | ⟨h1, rfl⟩
    · rw [h1]; exact hK _ _ h2
    · rw [h1]; exact hK _ _ h2
  · rw [h1, Oper.upon_enter]
    exact h2.mono fun e w' ⟨v, hv, hr⟩ => by subst hv; exact hK _ _ hr

def Res.notAll : Res → Bool
  | .all _ _ _ _ => false
  | _ => true

omit [Syms] in
theorem ro_notAll (x : Option AV) : (ro x).notAll = true := by cases x <;> rfl
omit [Syms] in
theorem rr_notAll (l : List Nat) (x : Option AV) : (rr l x).notAll = true := by cases x <;> rfl
omit [Syms] in
theorem rw_notAll (u : AV) (l : List Nat) (x : Option (Nat × AObj)) : (rw u l x).notAll = true := by cases x <;> rfl
omit [Syms] in
theorem newCells_notAll (id : Nat) (v : AV) : (newCells id v).notAll = true := by unfold newCells; cases v.fits <;> rfl
omit [Syms] in
theorem cond_notAll (b : Bool) {x y : Res} (h1 : x.notAll = true) (h2 : y.notAll = true) : (bif b then x else y).notAll = true := by cases b <;> assumption

omit [Syms] in
theorem builtin_notAll (T : Tabs) (H : Heap) (F : List Nat) (id : Nat) (b : Builtin) (ts : List TypeId) (args : List AV) : (abuiltin T H F id b ts args).notAll = true := by
  unfold abuiltin
  split
  · split
    · exact rr_notAll _ _
    · rfl
  · unfold aappend
    split
    · split
      · split
        · refine cond_notAll _ ?_ rfl
          unfold appendV
          split
          · rfl
          · rfl
          · rfl
          · rfl
          · exact cond_notAll _ rfl rfl
          · exact cond_notAll _ rfl rfl
          · unfold appendTo
            split
            · exact cond_notAll _ (cond_notAll _ rfl rfl) rfl
            · rfl
          · unfold appendGs
            split
            · refine cond_notAll _ ?_ rfl
              split <;> rfl
            · rfl
          · rfl
        · rfl
      · rfl
    · rfl
  · unfold acopy
    split
    · split
      · refine cond_notAll _ ?_ rfl
        split
        · rfl
        · rfl
        · unfold copyTo
          split
          · exact cond_notAll _ rfl rfl
          · rfl
        · rfl
      · rfl
    · rfl
  · unfold aclear
    split
    · split
      · split
        · unfold clearTo
          split
          · exact cond_notAll _ rfl rfl
          · rfl
        · rfl
      · rfl
    · rfl
  · split
    · exact ro_notAll _
    · rfl
  · exact ro_notAll _
  · exact ro_notAll _
  · rfl

omit [Syms] in
theorem aop_notAll (E : Env) (s : St) (id : Nat) {op : Op} (hn : callsFn op = false) : (aop E s id op).notAll = true := by
  cases op <;> simp only [aop] <;> try (first | rfl | exact ro_notAll _ | exact rr_notAll _ _ | exact rw_notAll _ _ _ | exact newCells_notAll _ _; done)
  case pick => unfold opPick; split <;> rfl
  case alloc => unfold opAlloc; split <;> first | exact newCells_notAll _ _ | rfl
  case buildSlice =>
    unfold opBuildSlice
    split
    · refine cond_notAll _ ?_ (cond_notAll _ ?_ rfl)
      · split <;> rfl
      · split <;> rfl
    · rfl
  case nilCheck => unfold opNilCheck; split <;> rfl
  case convert =>
    unfold aconvert
    split
    · unfold intOf; split <;> first | exact ro_notAll _ | rfl
    · unfold strOf
      split
      · split <;> rfl
      · split
        · rfl
        · unfold toStr
          refine cond_notAll _ ?_ rfl
          split
          · split <;> rfl
          · rfl
      · rfl
    · unfold bytesOfStr
      split
      · unfold ofStr; exact cond_notAll _ rfl rfl
      · refine cond_notAll _ ?_ rfl
        unfold keptArr
        split
        · exact cond_notAll _ rfl rfl
        · rfl
      · rfl
    · rfl
  case makeInterface => unfold opMakeInterface; split <;> rfl
  case makeFunc fn first caps => unfold opMakeFunc; split <;> rfl
  case makeMap =>
    unfold opMakeMap
    split
    · split <;> rfl
    · rfl
  case makeSlice =>
    unfold opMakeSlice
    split
    · split
      · exact cond_notAll _ rfl rfl
      · rfl
    · rfl
  case extract => unfold opExtract; split <;> first | exact ro_notAll _ | rfl
  case call cl =>
    unfold opCall
    simp only [callsFn] at hn
    split
    · rename_i b _
      have hb : ∀ q : Res, (∀ v H F nx, q = .all v H F nx → (abuiltin E.T s.H s.F id b cl.argTypes.toList (opnds s.fr cl.args.toList)) = .all v H F nx) → q.notAll = true := fun q hq => by
        cases q with
        | no => rfl
        | ok => rfl
        | all v H F nx =>
          have := builtin_notAll E.T s.H s.F id b cl.argTypes.toList (opnds s.fr cl.args.toList)
          rw [hq v H F nx rfl] at this; cases this
      exact hb _ fun v H F nx h => tellB_notAll h
    · rename_i h; rw [h] at hn; simp at hn
    · rfl

/-- One operation. -/
theorem sim_opAll (hT : TyOK P T) (E : Env) (hE : E.T = T) (hC : CallOK P E.call) {s : St} (hs : SR c m s.H s.F w) {id : Nat} (hid : ∀ b, id ≤ b → b < id + STRIDE → m b = none) (hnx : ∀ b, s.nx ≤ b → m b = none) {a : Act}
    (hf : FrR (okB c.X m s.H s.F) w.heap m s.fr a.tmps) {o : Oper} {q : Res} (h : aop E s id o.op = q) (hq : q ≠ .no) : OpWp P a o w fun cv w' => ∃ m', OpPost c m s w id cv m' w' q := by
  cases hcf : callsFn o.op with
  | false =>
    cases q with
    | no => exact absurd rfl hq
    | all v H F nx =>
      have := aop_notAll E s id hcf
      rw [h] at this; cases this
    | ok v e rd fz =>
      obtain ⟨cv, m', w', h1, h2⟩ := sim_op hT E hE hs (hid id (Nat.le_refl _) (by unfold STRIDE; omega)) hf hcf h
      exact .inl ⟨cv, w', h1, m', h2⟩
  | true =>
    obtain ⟨dst, op, oty, pos, after, guard⟩ := o
    cases op <;> simp only [callsFn] at hcf <;> try (cases hcf; done)
    rename_i cl
    obtain ⟨callee, args, ats⟩ := cl
    cases callee with
    | builtin b => simp at hcf
    | invoke r n => simp only [aop, opCall] at h; exact absurd h.symm hq
    | value f =>
      simp only [aop, opCall] at h
      have hfv := opnd_vr hf f
      unfold acallee at h
      split at h
      · rename_i g caps hg
        rw [hg] at hfv
        obtain ⟨vs, hvs, hsz, hcr⟩ := hfv.fn_inv
        have hargs := opnds_vr hf args.toList
        have key := sim_acall (P := P) hs hid hnx hC h hq (cargs := args.map a.eval ++ vs) (fun j x hx => by
          rcases Nat.lt_or_ge j (opnds s.fr args.toList).length with hj | hj
          · rw [List.getElem?_append_left hj] at hx
            obtain ⟨v, hv, hr⟩ := hargs j x hx
            refine ⟨v, ?_, hr⟩
            rw [Nat.zero_add] at hv ⊢
            rw [map_eval, Array.getElem?_append_left (by simpa [opnds_length] using hj)]
            exact hv
          · rw [List.getElem?_append_right hj] at hx
            obtain ⟨v, hv, hr⟩ := hcr _ x hx
            refine ⟨v, ?_, hr⟩
            rw [Nat.zero_add] at hv ⊢
            have hl : (args.map a.eval).size = (opnds s.fr args.toList).length := by simp [opnds_length]
            rw [Array.getElem?_append_right (by omega), hl]
            exact hv) (by simp [opnds_length, hsz])
        have hrun : (execOp a.eval ⟨dst, .call ⟨.value f, args, ats⟩, oty, pos, after, guard⟩).run P w = (callFunc g (args.map a.eval ++ vs)).run P w := by
          simp only [execOp, Go.resolve, hvs, Deferred.ofValue, Sem.run_bind, Sem.run_pure, Result.andThen_ok, invoke]
          simp
        rcases key with ⟨v, w', h1, h2⟩ | ⟨h1, h2⟩
        · exact .inl ⟨v, w', .inl (by rw [hrun]; exact h1), h2⟩
        · exact .inr ⟨g, _, by rw [hrun]; exact h1, h2⟩
      · exact absurd h.symm hq

end
end Go.Proofs.Ytmkmjjodiicmlaa.VS

/- Operations in a row, in any order: what they leave, on both sides. Conditions: none. -/
namespace Go.Proofs.Ytmkmjjodiicmlaa.VS
variable [Syms]

section
variable {P : Program} {T : Tabs} {c : Ctx} {m : Map} {w : World}

/-- A frame and a heap, on both sides. -/
structure At (n : Nat) (c : Ctx) (m : Map) (s : St) (a : Act) (w : World) : Prop where
  sr : SR c m s.H s.F w
  fr : FrR (okB c.X m s.H s.F) w.heap m s.fr a.tmps
  has : ∀ k, k < n → s.fr.has k = true
  sz : a.tmps.size = n
  nx : ∀ b, s.nx ≤ b → m b = none

/-- From one state to a later one. -/
structure Moves (c : Ctx) (m : Map) (s : St) (w : World) (lo : Nat) (m' : Map) (s' : St) (w' : World) : Prop where
  ext : Ext c m s.H s.F w m' s'.H s'.F w'
  le : s.nx ≤ s'.nx
  dom : ∀ b, m' b ≠ none → m b ≠ none ∨ (lo ≤ b ∧ b < s'.nx)

omit [Syms] in
theorem Moves.refl (c : Ctx) (m : Map) (s : St) (w : World) (lo : Nat) : Moves c m s w lo m s w := ⟨Ext.refl _ _ _ _ _, Nat.le_refl _, fun _ h => .inl h⟩

omit [Syms] in
theorem Moves.trans {m1 m2 : Map} {s s1 s2 : St} {w1 w2 : World} {lo : Nat} (h : Moves c m s w lo m1 s1 w1) (k : Moves c m1 s1 w1 lo m2 s2 w2) : Moves c m s w lo m2 s2 w2 :=
  ⟨h.ext.trans k.ext, Nat.le_trans h.le k.le, fun b hb => by
    rcases k.dom b hb with h1 | h1
    · rcases h.dom b h1 with h2 | ⟨h2, h3⟩
      · exact .inl h2
      · exact .inr ⟨h2, Nat.lt_of_lt_of_le h3 k.le⟩
    · exact .inr h1⟩

def dstOk (n : Nat) (o : Oper) : Prop := ∀ d, o.dst = some d → d < n

omit [Syms] in
theorem put_has {n : Nat} {fr : Fr} (h : ∀ k, k < n → fr.has k = true) (dst : Option Tmp) (v : AV) : ∀ k, k < n → (put fr dst v).has k = true := by
  intro k hk
  cases dst with
  | none => exact h k hk
  | some d => show (fr.set d v).has k = true; rw [Fr.has_set]; exact h k hk

omit [Syms] in
theorem put_size (a : Act) (dst : Option Tmp) (v : Value) : (a.put dst v).tmps.size = a.tmps.size := by cases dst <;> simp [Act.put]
omit [Syms] in
theorem put_defers (a : Act) (dst : Option Tmp) (v : Value) : (a.put dst v).defers = a.defers := by cases dst <;> rfl

theorem put_vr {n : Nat} {ok : Nat → Prop} {h : Array Obj} {fr : Fr} {a : Act} (hf : FrR ok h m fr a.tmps) (hh : ∀ k, k < n → fr.has k = true) (hsz : a.tmps.size = n) {dst : Option Tmp} (hd : ∀ d, dst = some d → d < n) {v : AV} {cv : Value}
    (hv : VR ok h m v cv) : FrR ok h m (put fr dst v) (a.put dst cv).tmps := by
  cases dst with
  | none => exact hf
  | some d =>
    intro t
    have hlt := hd d rfl
    show VR ok h m ((fr.set d v).get t) ((a.tmps.setIfInBounds d cv).getD t undef)
    rw [Fr.get_set _ _ _ _ (hh d hlt)]
    by_cases ht : t = d
    · subst ht
      rw [if_pos rfl]
      simp [hsz, hlt]
      exact hv
    · rw [if_neg ht]
      have := hf t
      simpa [Array.getElem?_setIfInBounds_ne (Ne.symm ht)] using this

theorem FrR.ext {s : St} {m' : Map} {H' : Heap} {F' : List Nat} {w' : World} {tm : Array Value} (hx : Ext c m s.H s.F w m' H' F' w') (hf : FrR (okB c.X m s.H s.F) w.heap m s.fr tm) : FrR (okB c.X m' H' F') w'.heap m' s.fr tm := fun t => hx.vr (hf t)

theorem wanted_eq {ok : Nat → Prop} {h : Array Obj} {fr : Fr} {a : Act} (hf : FrR ok h m fr a.tmps) {ops : Array Oper} {o : Oper} {b : Bool} (hw : awanted ops.toList o.guard fr = some b) : Region.wanted o (yielded ops a.tmps) = b := by
  unfold awanted at hw
  unfold Region.wanted
  split at hw
  · rename_i hg; rw [hg]; simpa using hw
  · rename_i p hg
    rw [hg]
    obtain ⟨j, want⟩ := p
    simp only at hw ⊢
    split at hw
    · rename_i d hd
      have hd' : (ops[j]?).bind (·.dst) = some d := by
        unfold guardTmp at hd
        rw [Array.getElem?_toList] at hd
        cases ho : ops[j]? with
        | none => simp [ho] at hd
        | some o' => simpa [ho] using hd
      have hv := hf d
      unfold yielded
      rw [hd']
      simp only [Option.bind_some]
      unfold guardIs at hw
      split at hw
      · rename_i q hq
        rw [hq] at hv
        have hv' : a.tmps.getD d undef = .bool q := by cases hh : a.tmps.getD d undef <;> rw [hh] at hv <;> cases hv; rfl
        have : a.tmps[d]? = some (.bool q) := by
          cases ht : a.tmps[d]? with
          | none => simp [Array.getD_eq_getD_getElem?, ht, undef] at hv'
          | some u => simp [Array.getD_eq_getD_getElem?, ht] at hv'; rw [hv']
        rw [this]
        simp only [Option.some.injEq] at hw
        rw [← hw]
        cases q <;> cases want <;> rfl
      · rename_i hq
        rw [hq] at hv
        obtain ⟨us, hu, _⟩ := hv.tup_inv
        simp only [Option.some.injEq] at hw
        rw [← hw]
        cases ht : a.tmps[d]? with
        | none => rfl
        | some u =>
          have : u = .tuple us := by simpa [Array.getD_eq_getD_getElem?, ht] using hu
          subst this; rfl
      · cases hw
    · cases hw

/-- One step of a region. -/
theorem sim_step (hT : TyOK P T) {E : Env} (hE : E.T = T) (hC : CallOK P E.call) {n : Nat} {s s' : St} {a : Act} (ha : At n c m s a w) {id : Nat} (hid : ∀ b, id ≤ b → b < id + STRIDE → m b = none) (hlt : id + STRIDE ≤ s.nx) {ops : Array Oper} {i : Nat} {o : Oper} (ho : ops[i]? = some o)
    (hd : dstOk n o) (h : stepOp E ops.toList id o s = .at s') {Q : Exit → Act → World → Prop} {K : Act → World → Prop}
    (hK : ∀ cv m' w', At n c m' s' (a.put o.dst cv) w' → Moves c m s w id m' s' w' → (∀ b, m' b ≠ none → m b ≠ none ∨ (id ≤ b ∧ b < id + STRIDE) ∨ (s.nx ≤ b ∧ b < s'.nx)) → K (a.put o.dst cv) w') : wpOp P ops Q i K a w := by
  unfold wpOp
  rw [ho]
  simp only
  unfold stepOp at h
  split at h
  · rename_i hw
    rw [wanted_eq ha.fr hw, if_pos rfl]
    left
    have hne : aop E s id o.op ≠ .no := fun hn => by rw [hn] at h; simp [behind] at h
    refine (sim_opAll hT E hE hC ha.sr hid ha.nx ha.fr rfl hne).wp (fun cv w' ⟨m', hp⟩ => ?_) Q
    generalize aop E s id o.op = q at h hp
    cases q with
    | no => exact hp.elim
    | ok v e rd fz =>
      simp only [behind, OSt.at.injEq] at h
      subst h
      have hp : Done c m s.H s.F w id v e fz cv m' w' := hp
      refine hK cv m' w' ⟨hp.sr, put_vr (FrR.ext hp.ext ha.fr) ha.has ha.sz hd hp.vr, put_has ha.has _ _, by rw [put_size]; exact ha.sz, fun b hb => ?_⟩ ⟨hp.ext, Nat.le_refl _, fun b hb => ?_⟩ fun b hb => ?_
      · cases hm : m' b with
        | none => rfl
        | some L =>
          exfalso
          rcases hp.dom b (by rw [hm]; simp) with h1 | ⟨h1, h2⟩
          · exact h1 (ha.nx b hb)
          · have hb : s.nx ≤ b := hb
            omega
      · rcases hp.dom b hb with h1 | ⟨h1, h2⟩
        · exact .inl h1
        · exact .inr ⟨h1, by show b < s.nx; omega⟩
      · rcases hp.dom b hb with h1 | h1
        · exact .inl h1
        · exact .inr (.inl h1)
    | all v H' F' nx' =>
      simp only [behind, OSt.at.injEq] at h
      subst h
      have hp : After c m s.H s.F w s.nx v H' F' nx' cv m' w' := hp
      refine hK cv m' w' ⟨hp.sr, put_vr (FrR.ext hp.ext ha.fr) ha.has ha.sz hd hp.vr, put_has ha.has _ _, by rw [put_size]; exact ha.sz, fun b hb => ?_⟩ ⟨hp.ext, hp.le, fun b hb => ?_⟩ fun b hb => ?_
      · cases hm : m' b with
        | none => rfl
        | some L =>
          exfalso
          have hb : nx' ≤ b := hb
          rcases hp.dom b (by rw [hm]; simp) with h1 | ⟨h1, h2⟩
          · exact h1 (ha.nx b (Nat.le_trans hp.le hb))
          · omega
      · rcases hp.dom b hb with h1 | ⟨h1, h2⟩
        · exact .inl h1
        · exact .inr ⟨by omega, h2⟩
      · rcases hp.dom b hb with h1 | h1
        · exact .inl h1
        · exact .inr (.inr h1)
  · rename_i hw
    rw [wanted_eq ha.fr hw, if_neg (by simp)]
    cases h
    exact hK undef m w ⟨ha.sr, put_vr ha.fr ha.has ha.sz hd und_vr, put_has ha.has _ _, by rw [put_size]; exact ha.sz, ha.nx⟩ ⟨Ext.refl _ _ _ _ _, Nat.le_refl _, fun _ h => .inl h⟩ (fun _ h => .inl h)
  · cases h

/-- The operations of a region, in an order. -/
def seqI (E : Env) (ops : List Oper) (base : Nat) : List Nat → St → OSt
  | [], s => .at s
  | i :: r, s =>
    match ops[i]? with
    | none => .no
    | some o => match stepOp E ops (base + STRIDE * i) o s with
      | .at s' => seqI E ops base r s'
      | .no => .no

theorem sim_seqI (hT : TyOK P T) {E : Env} (hE : E.T = T) (hC : CallOK P E.call) {n : Nat} {ops : Array Oper} {base : Nat} (hd : ∀ (i : Nat) (o : Oper), ops[i]? = some o → dstOk n o) {Q : Exit → Act → World → Prop} {s' : St} : ∀ (l : List Nat) {m : Map} {w : World} {s : St} {a : Act}, l.Nodup → At n c m s a w →
    (∀ i ∈ l, ∀ b, base + STRIDE * i ≤ b → b < base + STRIDE * i + STRIDE → m b = none) → base + STRIDE * ops.size ≤ s.nx → seqI E ops.toList base l s = .at s' →
    (∀ a' w' m', At n c m' s' a' w' → a'.defers = a.defers → Moves c m s w base m' s' w' → Q .normal a' w') → wpOps P ops Q l a w
  | [], m, w, s, a, _, ha, _, _, h, hQ => by
    simp only [seqI, OSt.at.injEq] at h
    subst h
    exact hQ a w m ha rfl (Moves.refl _ _ _ _ _)
  | i :: r, m, w, s, a, hnd, ha, hfree, hlt, h, hQ => by
    rw [wpOps_cons]
    rw [seqI] at h
    split at h
    · cases h
    · rename_i o ho
      rw [Array.getElem?_toList] at ho
      split at h
      · rename_i s1 hs1
        have hi : i < ops.size := (Array.getElem?_eq_some_iff.1 ho).1
        have hmul : STRIDE * i + STRIDE ≤ STRIDE * ops.size := by
          rw [← Nat.mul_succ]; exact Nat.mul_le_mul_left _ hi
        obtain ⟨hnot, hndr⟩ := List.nodup_cons.1 hnd
        refine sim_step hT hE hC ha (hfree i (by simp)) (by omega) ho (hd i o ho) hs1 fun cv m1 w1 ha1 hmv hdom => ?_
        refine sim_seqI hT hE hC hd r hndr ha1 (fun j hj b hb1 hb2 => ?_) (Nat.le_trans hlt hmv.le) h fun a' w' m' ha' hdf hmv' => hQ a' w' m' ha' (by rw [hdf, put_defers]) ?_
        · cases hm : m1 b with
          | none => rfl
          | some L =>
            exfalso
            have hji : j ≠ i := fun e => hnot (e ▸ hj)
            rcases hdom b (by rw [hm]; simp) with h1 | ⟨h1, h2⟩ | ⟨h1, h2⟩
            · exact h1 (hfree j (by simp [hj]) b hb1 hb2)
            · unfold STRIDE at *; omega
            · have hjl : j < ops.size ∨ ops.size ≤ j := Nat.lt_or_ge _ _
              rcases hjl with hjl | hjl
              · have : STRIDE * j + STRIDE ≤ STRIDE * ops.size := by
                  rw [← Nat.mul_succ]; exact Nat.mul_le_mul_left _ hjl
                omega
              · -- an index beyond the operations is never reached
                have : ∀ (l : List Nat) (s : St), j ∈ l → seqI E ops.toList base l s ≠ .at s' := by
                  intro l
                  induction l with
                  | nil => intro s hj; simp at hj
                  | cons k l ih =>
                    intro s hj hh
                    rw [seqI] at hh
                    rcases List.mem_cons.1 hj with e | hj
                    · subst e
                      rw [Array.getElem?_toList, Array.getElem?_eq_none hjl] at hh
                      cases hh
                    · split at hh
                      · cases hh
                      · split at hh
                        · exact ih _ hj hh
                        · cases hh
                exact this r s1 hj h
        · refine Moves.trans ⟨hmv.ext, hmv.le, fun b hb => ?_⟩ hmv'
          rcases hmv.dom b hb with h1 | ⟨h1, h2⟩
          · exact .inl h1
          · exact .inr ⟨by omega, h2⟩
      · cases h

omit [Syms] in
/-- In the order of the text. -/
theorem seqOps_seqI (E : Env) (ops : List Oper) (base : Nat) : ∀ (k : Nat) (r : List Oper) (s : St), ops.drop k = r → seqOps E ops r (base + STRIDE * k) s = seqI E ops base (List.range' k r.length) s
  | k, [], s, h => rfl
  | k, o :: r, s, h => by
    have ho : ops[k]? = some o := by
      have : (ops.drop k)[0]? = some o := by rw [h]; rfl
      simpa using this
    have hr : ops.drop (k + 1) = r := by rw [← List.drop_drop, h]; rfl
    rw [List.length_cons, List.range'_succ, seqI, ho, seqOps]
    simp only
    split
    · rename_i s1 hs1
      rw [hs1]
      have := seqOps_seqI E ops base (k + 1) r s1 hr
      rw [Nat.mul_succ, ← Nat.add_assoc] at this
      exact this
    · rename_i hs1
      rw [hs1]

end
end Go.Proofs.Ytmkmjjodiicmlaa.VS

/- What an operation looks at: where that is the same, its answer is the same. Conditions: none. -/
namespace Go.Proofs.Ytmkmjjodiicmlaa.VS
variable [Syms]

section
variable {T : Tabs} {H H' : Heap} {F F' : List Nat}

abbrev FAgree (F F' : List Nat) : Prop := ∀ b, isIn b F' = isIn b F

abbrev Agree (H H' : Heap) (R : List Nat) : Prop := ∀ b, b ∈ R → hget H' b = hget H b

omit [Syms] in
theorem cond_ok {b : Bool} {q : Res} {v : AV} {e : Eff} {rd fz : List Nat} (h : (bif b then q else .no) = .ok v e rd fz) : b = true ∧ q = .ok v e rd fz := by
  cases b
  · cases h
  · exact ⟨rfl, h⟩

omit [Syms] in
theorem cellsAt_foot {a : AV} (h : Agree H H' (idOf a)) : cellsAt H' a = cellsAt H a := by
  cases a <;> try rfl
  · rename_i b off; have := h b (by simp [idOf]); simp only [cellsAt, this]
  · rename_i b i off; have := h b (by simp [idOf]); simp only [cellsAt, this]

omit [Syms] in
theorem aload_foot {t : TypeId} {a : AV} (h : Agree H H' (idOf a)) : aload T H' t a = aload T H t a := by
  unfold aload; rw [cellsAt_foot h]

omit [Syms] in
theorem hlive_foot {b : Nat} (hF : FAgree F F') (h : hget H' b = hget H b) : hlive H' F' b = hlive H F b := by unfold hlive; rw [h, hF b]

omit [Syms] in
theorem astore_foot {t : TypeId} {a x : AV} (hF : FAgree F F') (h : Agree H H' (idOf a)) : astore T H' F' t a x = astore T H F t a x := by
  cases a <;> try rfl
  · rename_i b off; have := hlive_foot hF (h b (by simp [idOf])); simp only [astore, astoreP, this]
  · rename_i b i off; have := hlive_foot hF (h b (by simp [idOf])); simp only [astore, astoreE, this]

omit [Syms] in
theorem elems_foot {a : AV} (h : Agree H H' (idOf a)) : elems H' a = elems H a := by
  cases a <;> try rfl
  · rename_i s b lo len; have := h b (by simp [idOf]); simp only [elems, this]
  · rename_i g b n; have := h b (by simp [idOf]); simp only [elems, this]

omit [Syms] in
theorem mapOf_foot {a : AV} (h : Agree H H' (idOf a)) : mapOf H' a = mapOf H a := by
  cases a <;> try rfl
  rename_i b; have := h b (by simp [idOf]); simp only [mapOf, this]

omit [Syms] in
theorem alookup_foot {t : TypeId} {x k : AV} {ok : Bool} (h : Agree H H' (idOf x)) : alookup T H' t x k ok = alookup T H t x k ok := by
  unfold alookup; rw [mapOf_foot h]

omit [Syms] in
theorem amapUpdate_foot {t : TypeId} {x k v : AV} (hF : FAgree F F') (h : Agree H H' (idOf x)) : amapUpdate T H' F' t x k v = amapUpdate T H F t x k v := by
  unfold amapUpdate
  cases mapT T t with
  | none => rfl
  | some ke =>
    cases x with
    | mp b => have := hlive_foot hF (h b (by simp [idOf])); simp only [this]
    | _ => rfl

omit [Syms] in
theorem alen_foot {t : TypeId} {x : AV} (h : Agree H H' (idOf x)) : alen T t H' x = alen T t H x := by
  unfold alen
  cases kindOf T t <;> first | rfl | (simp only [mapOf_foot h]; done) | (cases x <;> first | rfl | (simp only [mapOf_foot h]; done))

omit [Syms] in
theorem rr_rd {l : List Nat} {x : Option AV} {v : AV} {e : Eff} {rd fz : List Nat} (h : rr l x = .ok v e rd fz) : rd = l := by
  cases x <;> simp [rr] at h
  exact h.2.2.1.symm

omit [Syms] in
theorem rw_rd {u : AV} {l : List Nat} {x : Option (Nat × AObj)} {v : AV} {e : Eff} {rd fz : List Nat} (h : rw u l x = .ok v e rd fz) : rd = l := by
  cases x <;> simp [rw] at h
  exact h.2.2.1.symm

omit [Syms] in
theorem aconvert_foot {id : Nat} {a b : TypeId} {x v : AV} {e : Eff} {rd fz : List Nat} (h : aconvert T H F id a b x = .ok v e rd fz) (hF : FAgree F F') (hH : Agree H H' rd) : aconvert T H' F' id a b x = .ok v e rd fz := by
  unfold aconvert at h ⊢
  split at h
  · exact h
  · unfold strOf at h ⊢
    split at h
    · exact h
    · rename_i el hk2
      split at h
      · exact h
      · rename_i x' hx'
        unfold toStr at h ⊢
        cases hb : isByte T el with
        | false => simp [hb] at h
        | true =>
          simp only [hb, cond_true] at h ⊢
          have hrd : rd = idOf x := by
            split at h
            · split at h
              · simp only [Res.ok.injEq] at h; exact h.2.2.1.symm
              · cases h
            · cases h
          subst hrd
          rw [elems_foot hH]; exact h
    · cases h
  · unfold bytesOfStr at h ⊢
    split at h
    · exact h
    · rename_i s b' lo n _
      generalize (Nat.beq a b && isByte T _) = q at h ⊢
      cases q with
      | false => cases h
      | true =>
        simp only [cond_true] at h ⊢
        have hrd : rd = [b'] := by
          unfold keptArr at h
          split at h
          · obtain ⟨_, h⟩ := cond_ok h
            simp only [Res.ok.injEq] at h; exact h.2.2.1.symm
          · cases h
        subst hrd
        unfold keptArr at h ⊢
        rw [hlive_foot hF (hH b' (by simp))]; exact h
    · cases h
  · cases h

omit [Syms] in
theorem newArr_rd {id s n : Nat} {xs : List AV} {e' : Eff} {l : List Nat} {v : AV} {e : Eff} {rd fz : List Nat} (h : newArr id s xs n e' l = .ok v e rd fz) : rd = l := by
  simp only [newArr, Res.ok.injEq] at h; exact h.2.2.1.symm

omit [Syms] in
theorem appendTo_rd {id n by_ : Nat} {l : List Nat} {ys : List AV} {s b lo len : Nat} {v : AV} {e : Eff} {rd fz : List Nat} (h : appendTo H F id n by_ l ys s b lo len = .ok v e rd fz) : rd = l := by
  unfold appendTo at h
  split at h
  · obtain ⟨_, h⟩ := cond_ok h
    revert h
    cases (_ : Nat).ble _
    · intro h; exact newArr_rd h
    · intro h
      simp only [cond_true, Res.ok.injEq] at h
      exact h.2.2.1.symm
  · cases h

omit [Syms] in
theorem appendV_rd {id n by_ : Nat} {l : List Nat} {s : AV} {ys : List AV} {v : AV} {e : Eff} {rd fz : List Nat} (h : appendV H F id n by_ l s ys = .ok v e rd fz) : rd = l := by
  unfold appendV at h
  split at h
  · cases h; rfl
  · cases h; rfl
  · cases h; rfl
  · cases h; rfl
  · exact newArr_rd (cond_ok h).2
  · exact newArr_rd (cond_ok h).2
  · exact appendTo_rd h
  · unfold appendGs at h
    split at h
    · obtain ⟨_, h⟩ := cond_ok h
      split at h
      · cases h; rfl
      · cases h; rfl
    · cases h
  · cases h

omit [Syms] in
theorem appendV_foot {id n by_ : Nat} {l : List Nat} {s : AV} {ys : List AV} (hF : FAgree F F') (h : Agree H H' (idOf s)) : appendV H' F' id n by_ l s ys = appendV H F id n by_ l s ys := by
  cases s <;> first | rfl | (cases ys <;> rfl) | skip
  · rename_i s b lo len
    have := hlive_foot hF (h b (by simp [idOf]))
    cases ys
    · rfl
    · simp only [appendV, appendTo, this]
  · rename_i g b len
    have := hlive_foot hF (h b (by simp [idOf]))
    cases ys <;> simp only [appendV, appendGs, this]

omit [Syms] in
theorem appended_foot {z : AV} {xt : TypeId} {x : AV} (h : Agree H H' (idOf x)) : appended T H' z xt x = appended T H z xt x := by
  unfold appended; rw [elems_foot h]

omit [Syms] in
theorem aappend_foot {id : Nat} {ts : List TypeId} {s x : AV} {v : AV} {e : Eff} {rd fz : List Nat} (h : aappend T H F id ts s x = .ok v e rd fz) (hF : FAgree F F') (hH : Agree H H' rd) : aappend T H' F' id ts s x = .ok v e rd fz := by
  unfold aappend at h ⊢
  split at h
  · rename_i st xt rest
    split at h
    · rename_i q hq
      try rw [hq]
      try simp only
      split at h
      · rename_i by_ ys hby hys
        obtain ⟨h1, h2⟩ := cond_ok h
        have hrd := appendV_rd h2
        subst hrd
        rw [hby, appended_foot (fun b hb => hH b (by simp [hb])), hys]
        simp only
        rw [h1, cond_true, appendV_foot hF (fun b hb => hH b (by simp [hb]))]
        exact h2
      · cases h
    · cases h
  · cases h

omit [Syms] in
theorem acopy_foot {ts : List TypeId} {d x : AV} {v : AV} {e : Eff} {rd fz : List Nat} (h : acopy T H F ts d x = .ok v e rd fz) (hF : FAgree F F') (hH : Agree H H' rd) : acopy T H' F' ts d x = .ok v e rd fz := by
  unfold acopy at h ⊢
  split at h
  · rename_i dt rest
    split at h
    · rename_i q ys hq hys
      obtain ⟨h1, h2⟩ := cond_ok h
      rw [hq]
      cases d <;> simp only at h2 <;> try (cases h2; done)
      · have hrd : rd = idOf x := by simp only [Res.ok.injEq] at h2; exact h2.2.2.1.symm
        subst hrd
        rw [elems_foot hH, hys]
        simp only
        rw [h1, cond_true]; exact h2
      · have hrd : rd = idOf x := by simp only [Res.ok.injEq] at h2; exact h2.2.2.1.symm
        subst hrd
        rw [elems_foot hH, hys]
        simp only
        rw [h1, cond_true]; exact h2
      · rename_i s b lo len
        have hrd : rd = idOf (.osl s b lo len) ++ idOf x := by
          unfold copyTo at h2
          split at h2
          · obtain ⟨_, h3⟩ := cond_ok h2
            simp only [Res.ok.injEq] at h3; exact h3.2.2.1.symm
          · cases h2
        subst hrd
        rw [elems_foot (fun b hb => hH b (by simp [hb])), hys]
        simp only
        rw [h1, cond_true]
        unfold copyTo at h2 ⊢
        rw [hlive_foot hF (hH b (by simp [idOf]))]; exact h2
    · cases h
  · cases h

omit [Syms] in
theorem aclear_foot {ts : List TypeId} {x : AV} {v : AV} {e : Eff} {rd fz : List Nat} (h : aclear T H F ts x = .ok v e rd fz) (hF : FAgree F F') (hH : Agree H H' rd) : aclear T H' F' ts x = .ok v e rd fz := by
  unfold aclear at h ⊢
  split at h
  · rename_i t rest
    split at h
    · rename_i q hq
      split at h
      · rename_i s b lo len
        have hrd : rd = idOf (.osl s b lo len) := by
          unfold clearTo at h
          split at h
          · obtain ⟨_, h3⟩ := cond_ok h
            simp only [Res.ok.injEq] at h3; exact h3.2.2.1.symm
          · cases h
        subst hrd
        unfold clearTo at h ⊢
        rw [hlive_foot hF (hH b (by simp [idOf]))]; exact h
      · cases h
    · cases h
  · cases h

omit [Syms] in
theorem abuiltin_foot {id : Nat} {b : Builtin} {ts : List TypeId} {args : List AV} {v : AV} {e : Eff} {rd fz : List Nat} (h : abuiltin T H F id b ts args = .ok v e rd fz) (hF : FAgree F F') (hH : Agree H H' rd) : abuiltin T H' F' id b ts args = .ok v e rd fz := by
  unfold abuiltin at h ⊢
  split at h
  · split at h
    · have hrd := rr_rd h
      subst hrd
      rw [alen_foot hH]; exact h
    · cases h
  · exact aappend_foot h hF hH
  · exact acopy_foot h hF hH
  · exact aclear_foot h hF hH
  · exact h
  · exact h
  · exact h
  · cases h

omit [Syms] in
/-- A value taken whole looks at the numbers that it tells. -/
theorem resAll_foot {nz : Bool} {d : Nat} (ih : ∀ a y is, resolve nz H d a = some (y, is) → Agree H H' is → resolve nz H' d a = some (y, is)) : ∀ {l : List AV} {r : List AV × List Nat}, resAll nz H d l = some r → Agree H H' r.2 → resAll nz H' d l = some r
  | [], r, h, _ => h
  | a :: l, r, h, hA => by
    unfold resAll at h ⊢
    rw [List.foldr_cons] at h ⊢
    change (match resAll nz H d l, resolve nz H d a with
      | some ys, some y => some (y.1 :: ys.1, y.2 ++ ys.2)
      | _, _ => none) = some r at h
    change (match resAll nz H' d l, resolve nz H' d a with
      | some ys, some y => some (y.1 :: ys.1, y.2 ++ ys.2)
      | _, _ => none) = some r
    split at h
    · rename_i ys y hys hy
      cases h
      rw [resAll_foot ih hys (fun b hb => hA b (by simp [hb])), ih a y.1 y.2 hy (fun b hb => hA b (by simp [hb]))]
    · cases h

omit [Syms] in
theorem resolve_foot {nz : Bool} : ∀ d a y is, resolve nz H d a = some (y, is) → Agree H H' is → resolve nz H' d a = some (y, is) := by
  intro d
  induction d with
  | zero => intro a y is h; simp [resolve] at h
  | succ d ih =>
    intro a y is h hA
    cases resolve_rsv h with
    | agg hr =>
      change (match resAll nz H' d _ with
        | some r => some (AV.agg r.1, r.2)
        | none => none) = _
      rw [resAll_foot ih hr hA]
    | tup hr =>
      change (match resAll nz H' d _ with
        | some r => some (AV.tup r.1, r.2)
        | none => none) = _
      rw [resAll_foot ih hr hA]
    | fn hr =>
      change (match resAll nz H' d _ with
        | some r => some (AV.fn _ r.1, r.2)
        | none => none) = _
      rw [resAll_foot ih hr hA]
    | ifc hr =>
      change (match resolve nz H' d _ with
        | some r => some (AV.ifc _ r.1, r.2)
        | none => none) = _
      rw [ih _ _ _ hr hA]
    | @osl s b lo len s' xs r hb hle hr =>
      change (match hget H' b with
        | some (.arr _ xs) => bif (lo + len).ble xs.length then
            match resAll nz H' d xs with
            | some r => some (AV.sl ((r.1.drop lo).take len), b :: r.2)
            | none => none
          else none
        | some (.tarr t xs) => bif (lo + len).ble xs.length then some (AV.tl t ((xs.drop lo).take len), [b]) else none
        | some (.deep xs q) => bif (lo + len).ble xs.length && q.beq 0 then some (AV.tl .blk ((xs.drop lo).take len), [b]) else none
        | _ => none) = _
      rw [hA b (by simp), hb]
      simp only
      rw [show (lo + len).ble xs.length = true from Nat.ble_eq_true_of_le hle, cond_true, resAll_foot ih hr (fun b hb => hA b (by simp [hb]))]
    | @tosl s b lo len t xs hb hle =>
      change (match hget H' b with
        | some (.arr _ xs) => bif (lo + len).ble xs.length then
            match resAll nz H' d xs with
            | some r => some (AV.sl ((r.1.drop lo).take len), b :: r.2)
            | none => none
          else none
        | some (.tarr t xs) => bif (lo + len).ble xs.length then some (AV.tl t ((xs.drop lo).take len), [b]) else none
        | some (.deep xs q) => bif (lo + len).ble xs.length && q.beq 0 then some (AV.tl .blk ((xs.drop lo).take len), [b]) else none
        | _ => none) = _
      rw [hA b (by simp), hb]
      simp only
      rw [show (lo + len).ble xs.length = true from Nat.ble_eq_true_of_le hle, cond_true]
    | @dosl s b lo len xs hb hle =>
      change (match hget H' b with
        | some (.arr _ xs) => bif (lo + len).ble xs.length then
            match resAll nz H' d xs with
            | some r => some (AV.sl ((r.1.drop lo).take len), b :: r.2)
            | none => none
          else none
        | some (.tarr t xs) => bif (lo + len).ble xs.length then some (AV.tl t ((xs.drop lo).take len), [b]) else none
        | some (.deep xs q) => bif (lo + len).ble xs.length && q.beq 0 then some (AV.tl .blk ((xs.drop lo).take len), [b]) else none
        | _ => none) = _
      rw [hA b (by simp), hb]
      simp only
      rw [show (lo + len).ble xs.length = true from Nat.ble_eq_true_of_le hle]
      rfl
    | @dgs g b n xs hb hn =>
      change (match hget H' b with
        | some (.tarr t xs) => bif n.beq xs.length then some (AV.tl t xs, [b]) else none
        | some (.deep xs q) => bif n.beq xs.length && q.beq 0 then some (AV.tl .blk xs, [b]) else none
        | _ => none) = _
      rw [hA b (by simp), hb]
      simp only
      rw [show n.beq xs.length = true from by rw [hn]; exact beq_same _]
      rfl
    | cptr => exact h
    | @ptr b cs r hb hr =>
      change (match hget H' b with
        | some (.cells cs) => bif (0 : Nat).beq 0 then
            match resAll nz H' d cs with
            | some r => some (AV.cptr (.agg r.1), b :: r.2)
            | none => none
          else none
        | _ => none) = _
      rw [hA b (by simp), hb]
      simp only
      rw [show (0 : Nat).beq 0 = true from rfl, cond_true, resAll_foot ih hr (fun b hb => hA b (by simp [hb]))]
    | @gs g b n t xs hb hn =>
      change (match hget H' b with
        | some (.tarr t xs) => bif n.beq xs.length then some (AV.tl t xs, [b]) else none
        | some (.deep xs q) => bif n.beq xs.length && q.beq 0 then some (AV.tl .blk xs, [b]) else none
        | _ => none) = _
      rw [hA b (by simp), hb]
      simp only
      rw [show n.beq xs.length = true from by rw [hn]; exact beq_same _, cond_true]
    | nils => exact h
    | nev => exact h
    | emp => exact h
    | leaf hl => cases a <;> first | exact h | (simp [leafV] at hl)

omit [Syms] in
theorem resolveAll_foot {nz : Bool} : ∀ {args : List AV} {p : List AV × List Nat}, resolveAll nz H args = some p → Agree H H' p.2 → resolveAll nz H' args = some p
  | [], p, h, _ => h
  | a :: l, p, h, hA => by
    rw [resolveAll] at h ⊢
    split at h
    · rename_i x y hx hy
      cases h
      rw [resolve_foot _ _ x.1 x.2 hx (fun b hb => hA b (by simp [hb])), resolveAll_foot hy (fun b hb => hA b (by simp [hb]))]
    · cases h

omit [Syms] in
theorem tellB_foot {tell : Bool} {id : Nat} {b : Builtin} {ts : List TypeId} {args : List AV} {v : AV} {e : Eff} {rd fz : List Nat} (h : tellB tell id H F b args (abuiltin T H F id b ts args) = .ok v e rd fz) (hF : FAgree F F') (hH : Agree H H' rd) :
    tellB tell id H' F' b args (abuiltin T H' F' id b ts args) = .ok v e rd fz := by
  have key : ∃ v0 e0 rd0 ex, abuiltin T H F id b ts args = .ok v0 e0 rd0 fz ∧ rd = rd0 ++ ex := by
    rcases tellB_inv h with h | ⟨_, _, _, _, _, _, _, _, _, _, _, _, _, _, _, ⟨rd0, h, e⟩, _⟩ | ⟨_, _, _, _, _, _, _, _, h, _⟩
    · exact ⟨_, _, _, [], h, by simp⟩
    · exact ⟨_, _, _, _, h, e⟩
    · exact ⟨_, _, _, [], h, by simp⟩
  obtain ⟨v0, e0, rd0, ex, h0, hrd0⟩ := key
  rw [abuiltin_foot h0 hF (fun b hb => hH b (by rw [hrd0]; exact List.mem_append_left _ hb))]
  rw [h0] at h
  unfold tellB at h ⊢
  cases tell with
  | false => exact h
  | true =>
    rw [cond_true] at h ⊢
    split at h
    · rename_i s x
      have hrd : rd0 = idOf s ++ idOf x := by
        have ha : aappend T H F id ts s x = .ok v0 e0 rd0 fz := h0
        unfold aappend at ha
        split at ha
        · split at ha
          · split at ha
            · obtain ⟨_, h2⟩ := cond_ok ha
              exact appendV_rd h2
            · cases ha
          · cases ha
        · cases ha
      subst hrd
      show tellApp id H' F' s x (.ok v0 e0 (idOf s ++ idOf x) fz) = _
      unfold tellApp at h ⊢
      cases s with
      | gs g bb n =>
        have h1 := hlive_foot hF (hH bb (by rw [hrd0]; simp [idOf]))
        have he : elems H' x = elems H x := elems_foot fun b hb => hH b (by rw [hrd0]; simp [hb])
        have hnest : nested H' x = nested H x := by
          unfold nested
          cases x <;> first | rfl | simp only [he]
        simp only [h1]
        simp only at h
        split at h
        · rename_i g' l hb
          have row : ∀ ys zs, rowData H F id g' ys = some zs → (∀ b ∈ zs.2, b ∈ rd) → rowData H' F' id g' ys = some zs := by
            intro ys zs hy hin
            unfold rowData at hy ⊢
            cases ho : ys.any ownV with
            | false =>
              simp only [ho, cond_false] at hy
              simp only [cond_false]
              exact hy
            | true =>
              simp only [ho, cond_true] at hy
              simp only [cond_true]
              split at hy
              · rename_i p hp
                have hall : p.2.all (fun b => isIn b F' && !(b.beq id)) = p.2.all (fun b => isIn b F && !(b.beq id)) := by
                  have : (fun b => isIn b F' && !(b.beq id)) = (fun b => isIn b F && !(b.beq id)) := by funext b; rw [hF b]
                  rw [this]
                cases hq : p.2.all (fun b => isIn b F && !(b.beq id)) with
                | false => rw [hq, cond_false] at hy; cases hy
                | true =>
                  rw [hq, cond_true] at hy
                  split at hy
                  · rename_i zs' hz'
                    cases hy
                    rw [resolveAll_foot hp (fun b hb => hH b (hin b hb))]
                    simp only [hall, hq, cond_true, hz']
                  · cases hy
              · cases hy
          have hdat : ∀ zs, dataOf H F id g' x = some zs → (∀ b ∈ zs.2, b ∈ rd) → dataOf H' F' id g' x = some zs := by
            intro zs hz hin
            unfold dataOf at hz ⊢
            cases x with
            | tl _ _ => exact hz
            | _ =>
              simp only [he] at hz ⊢
              split at hz
              · rename_i ys hy; first | exact row ys zs hz hin | (simp only [hy]; exact row ys zs hz hin)
              · cases hz
          have hpl : nested H x = false → dataOf H' F' id g' x = dataOf H F id g' x := by
            intro hn
            unfold nested at hn
            unfold dataOf
            cases x with
            | tl _ _ => rfl
            | _ =>
              simp only [he] at hn ⊢
              split
              · rename_i ys hy
                rw [hy] at hn
                unfold rowData
                simp only [hn, cond_false]
              · rfl
          cases hn : nested H x with
          | false =>
            rw [hnest, hn, hpl hn]
            rw [hn] at h
            exact h
          | true =>
            rw [hnest, hn]
            rw [hn] at h
            split at h
            · rename_i zs hz
              split at h
              · rename_i q hq
                have hin : ∀ b ∈ zs.2, b ∈ rd := fun b hb => by
                  unfold tellRow at hq
                  split at hq
                  · cases hq
                    simp only [Res.ok.injEq] at h
                    rw [← h.2.2.1]; exact List.mem_append_right _ hb
                  · cases hq
                rw [hdat zs hz hin]
                simp only [hq]
                exact h
              · rw [cond_true] at h; cases h
            · rw [cond_true] at h; cases h
        · exact h
      | _ => exact h
    · exact h

omit [Syms] in
theorem pureAns_rd {keep : Bool} {id : Nat} {ids : List Nat} {q : Ans} {v : AV} {e : Eff} {rd fz : List Nat} (h : pureAns keep id ids q = .ok v e rd fz) : rd = ids := by
  unfold pureAns at h
  split at h
  · cases keep with
    | true =>
      simp only [cond_true] at h
      unfold keepAns at h
      obtain ⟨_, h⟩ := cond_ok h
      split at h
      · simp only [Res.ok.injEq] at h; exact h.2.2.1.symm
      · cases h
    | false =>
      simp only [cond_false] at h
      split at h
      · simp only [Res.ok.injEq] at h; exact h.2.2.1.symm
      · cases h
  · cases h

omit [Syms] in
theorem acallOp_foot {E : Env} {s s' : St} {id : Nat} {f : FuncId} {args : List AV} {v : AV} {e : Eff} {rd fz : List Nat} (h : acallOp E s id f args = .ok v e rd fz) (hA : Agree s.H s'.H rd) : acallOp E s' id f args = .ok v e rd fz := by
  unfold acallOp at h ⊢
  cases hp : ((args.any (hasPtr DEEP) && !E.cfg.look f) || E.cfg.share f) with
  | true =>
    simp only [hp, cond_true] at h
    unfold sharedAns at h
    split at h
    · revert h
      cases idFree DEEP _ <;> simp
    · cases h
  | false =>
    simp only [hp, cond_false] at h ⊢
    split at h
    · rename_i p hpp
      have := pureAns_rd h
      subst this
      rw [resolveAll_foot hpp hA]
      exact h
    · cases h

omit [Syms] in
theorem opnds_congr {fr fr' : Fr} : ∀ {l : List Operand}, (∀ x ∈ l, opnd fr' x = opnd fr x) → opnds fr' l = opnds fr l
  | [], _ => rfl
  | x :: l, h => by rw [opnds, opnds, h x (by simp), opnds_congr fun y hy => h y (by simp [hy])]

omit [Syms] in
theorem parts_congr {fr fr' : Fr} : ∀ {l : List (Nat × Operand)}, (∀ x ∈ l.map (·.2), opnd fr' x = opnd fr x) → parts fr' l = parts fr l
  | [], _ => rfl
  | x :: l, h => by rw [parts, parts, h x.2 (by simp), parts_congr fun y hy => h y (by simp only [List.map_cons, List.mem_cons]; exact .inr hy)]

omit [Syms] in
theorem mapO_congr {fr fr' : Fr} {x : Option Operand} (h : ∀ y, x = some y → opnd fr' y = opnd fr y) : mapO fr' x = mapO fr x := by
  cases x with
  | none => rfl
  | some y => simp only [mapO, h y rfl]

omit [Syms] in
/-- An operation's answer is the same where what it looks at is. -/
theorem aop_foot {E : Env} {s s' : St} {id : Nat} {op : Op} {v : AV} {e : Eff} {rd fz : List Nat} (h : aop E s id op = .ok v e rd fz) (hop : ∀ x ∈ op.operands, opnd s'.fr x = opnd s.fr x) (hF : FAgree s.F s'.F) (hA : Agree s.H s'.H rd) : aop E s' id op = .ok v e rd fz := by
  cases op <;> simp only [aop] at h ⊢ <;> simp only [Op.operands] at hop <;> try (cases h; done)
  case move x => rw [hop x (by simp)]; exact h
  case assign x => rw [hop x (by simp)]; exact h
  case pick a b c => rw [hop a (by simp), hop b (by simp), hop c (by simp)]; exact h
  case alloc => exact h
  case box t x => rw [hop x (by simp)]; exact h
  case build t ps => rw [parts_congr fun x hx => hop x (by simpa using hx)]; exact h
  case buildSlice t n ps => rw [parts_congr fun x hx => hop x (by simpa using hx)]; exact h
  case load t x =>
    have := rr_rd h; subst this
    rw [hop x (by simp), aload_foot hA]; exact h
  case store t x y =>
    have := rw_rd h; subst this
    rw [hop x (by simp), hop y (by simp), astore_foot hF hA]; exact h
  case nilCheck x => rw [hop x (by simp)]; exact h
  case binOp op t x y z => rw [hop x (by simp), hop y (by simp)]; exact h
  case unOp op t x => rw [hop x (by simp)]; exact h
  case convert a b x => rw [hop x (by simp)]; exact aconvert_foot h hF hA
  case makeInterface t x => rw [hop x (by simp)]; exact h
  case makeFunc fn first caps => rw [opnds_congr fun x hx => hop x (by simp at hx ⊢; exact .inr hx)]; exact h
  case makeMap t r => rw [mapO_congr fun y hy => hop y (by subst hy; simp)]; exact h
  case makeSlice t l c => rw [hop l (by simp), hop c (by simp)]; exact h
  case slice t x lo hi mx => rw [hop x (by simp), mapO_congr fun y hy => hop y (by subst hy; simp), mapO_congr (x := hi) fun y hy => hop y (by subst hy; simp), mapO_congr (x := mx) fun y hy => hop y (by subst hy; simp)]; exact h
  case fieldAddr t x f => rw [hop x (by simp)]; exact h
  case field t x f => rw [hop x (by simp)]; exact h
  case indexAddr t x i => rw [hop x (by simp), hop i (by simp)]; exact h
  case index t x i => rw [hop x (by simp), hop i (by simp)]; exact h
  case lookup t x i ok =>
    have := rr_rd h; subst this
    rw [hop x (by simp), hop i (by simp), alookup_foot hA]; exact h
  case mapUpdate t x k y =>
    have := rw_rd h; subst this
    rw [hop x (by simp), hop k (by simp), hop y (by simp), amapUpdate_foot hF hA]; exact h
  case insert t x k y =>
    have := rw_rd h; subst this
    rw [hop x (by simp), hop k (by simp), hop y (by simp), amapUpdate_foot hF hA]; exact h
  case extract x i => rw [hop x (by simp)]; exact h
  case call cl =>
    obtain ⟨callee, args, ats⟩ := cl
    unfold opCall at h ⊢
    cases callee with
    | builtin b =>
      simp only at h ⊢
      rw [opnds_congr fun x hx => hop x (by simp [Call.operands] at hx ⊢; exact hx)]
      exact tellB_foot h hF hA
    | value f =>
      simp only at h ⊢
      rw [opnds_congr (fr := s.fr) fun x hx => hop x (by simp [Call.operands] at hx ⊢; exact .inr hx), hop f (by simp [Call.operands])]
      unfold acallee at h ⊢
      split at h
      · exact acallOp_foot h hA
      · cases h
    | invoke r n => cases h

end
end Go.Proofs.Ytmkmjjodiicmlaa.VS

