/- One operation that calls no function of the program: what it leaves, on both sides. Conditions: none. -/
import Derived.Test.YtopkeglpafdlfaaGreatVSH
namespace Go.Proofs.YtopkeglpafdlfaaGreat.VS
variable [Syms]

section
variable {P : Program} {T : Tabs} {c : Ctx} {m : Map} {H : Heap} {F : List Nat} {w : World}

omit [Syms] in
theorem ro_ok {x : Option AV} {v : AV} {e : Eff} {rd fz : List Nat} (h : ro x = .ok v e rd fz) : x = some v ∧ e = [] ∧ fz = [] := by
  cases x <;> simp [ro] at h
  exact ⟨by rw [h.1], h.2.1, h.2.2.2⟩

omit [Syms] in
theorem rr_ok {l : List Nat} {x : Option AV} {v : AV} {e : Eff} {rd fz : List Nat} (h : rr l x = .ok v e rd fz) : x = some v ∧ e = [] ∧ fz = [] := by
  cases x <;> simp [rr] at h
  exact ⟨by rw [h.1], h.2.1, h.2.2.2⟩

omit [Syms] in
theorem rw_ok {u : AV} {l : List Nat} {x : Option (Nat × AObj)} {v : AV} {e : Eff} {rd fz : List Nat} (h : rw u l x = .ok v e rd fz) : ∃ p, x = some p ∧ v = u ∧ e = [(p.1, some p.2)] ∧ fz = [] := by
  cases x <;> simp [rw] at h
  rename_i p
  exact ⟨p, rfl, h.1.symm, h.2.1.symm, h.2.2.2⟩

/-- What an operation's run is. -/
def OpRun (P : Program) (a : Act) (o : Oper) (w : World) (cv : Value) (w' : World) : Prop :=
  (execOp a.eval o).run P w = .ok (.value cv) w' ∨ ((execOp a.eval o).run P w = .ok .skip w' ∧ cv = undef)

theorem Done.quiet' (hs : SR c m H F w) {id : Nat} {v : AV} {e : Eff} {fz : List Nat} {cv : Value} (he : e = []) (hf : fz = []) (hv : VR (okB c.X m H F) w.heap m v cv) : Done c m H F w id v e fz cv m w := by
  subst he; subst hf; exact Done.quiet hs hv

theorem und_vr {ok : Nat → Prop} {h : Array Obj} {m : Map} : VR ok h m und undef := .tup' rfl fun j x hx => by simp at hx

omit [Syms] in
theorem opnds_one {fr : Fr} {l : List Operand} {x : AV} (h : opnds fr l = [x]) : ∃ y, l = [y] ∧ x = opnd fr y := by
  cases l with
  | nil => simp [opnds] at h
  | cons y l => cases l with
    | nil => simp [opnds] at h; exact ⟨y, rfl, h.symm⟩
    | cons z l => simp [opnds] at h

omit [Syms] in
theorem opnds_two {fr : Fr} {l : List Operand} {x y : AV} (h : opnds fr l = [x, y]) : ∃ p q, l = [p, q] ∧ x = opnd fr p ∧ y = opnd fr q := by
  cases l with
  | nil => simp [opnds] at h
  | cons p l =>
    simp only [opnds, List.cons.injEq] at h
    obtain ⟨q, rfl, hy⟩ := opnds_one h.2
    exact ⟨p, q, rfl, h.1.symm, hy⟩

omit [Syms] in
theorem toList_eq {l : Array Operand} {xs : List Operand} (h : l.toList = xs) : l = xs.toArray := by rw [← h]

omit [Syms] in
theorem map_eval (a : Act) (l : Array Operand) : l.map a.eval = (l.toList.map a.eval).toArray := by apply Array.ext'; simp

theorem sim_builtin (hT : TyOK P T) (hs : SR c m H F w) {id : Nat} (hid : m id = none) {fr : Fr} {a : Act} (hf : FrR (okB c.X m H F) w.heap m fr a.tmps) {b : Builtin} {ts : Array TypeId} {args : Array Operand} {v : AV} {e : Eff} {rd fz : List Nat}
    (h : abuiltin T H F id b ts.toList (opnds fr args.toList) = .ok v e rd fz) (ty : TypeId) (cb : Array Bool) :
    ∃ cv m' w', (builtin b ts ty cb (args.map a.eval)).run P w = .ok (.value cv) w' ∧ Done c m H F w id v e fz cv m' w' := by
  unfold abuiltin at h
  split at h
  · rename_i x hx
    obtain ⟨p, hp, rfl⟩ := opnds_one hx
    have := toList_eq hp; subst this
    split at h
    · rename_i t rest hts
      obtain ⟨h1, h2, h3⟩ := rr_ok h
      obtain ⟨cv, g1, g2⟩ := sim_len hT hs h1 (opnd_vr hf p) (ts := ts) (by rw [← Array.getElem?_toList, hts]; rfl) ty
      exact ⟨cv, m, w, by simp [builtin, g1], Done.quiet' hs h2 h3 g2⟩
    · cases h
  · rename_i x y hx
    obtain ⟨p, q, hp, rfl, rfl⟩ := opnds_two hx
    have := toList_eq hp; subst this
    obtain ⟨cv, m', w', g1, g2⟩ := sim_append hT hs hid (ty := ty) h (opnd_vr hf p) (opnd_vr hf q)
    exact ⟨cv, m', w', by simp [builtin, g1], g2⟩
  · rename_i x y hx
    obtain ⟨p, q, hp, rfl, rfl⟩ := opnds_two hx
    have := toList_eq hp; subst this
    obtain ⟨cv, m', w', g1, g2⟩ := sim_copy hT hs (ty := ty) h (opnd_vr hf p) (opnd_vr hf q)
    exact ⟨cv, m', w', by simp [builtin, g1], g2⟩
  · rename_i x hx
    obtain ⟨p, hp, rfl⟩ := opnds_one hx
    have := toList_eq hp; subst this
    obtain ⟨cv, m', w', g1, g2⟩ := sim_clear hT hs (ty := ty) h (opnd_vr hf p)
    exact ⟨cv, m', w', by simp [builtin, g1], g2⟩
  · rename_i x hx
    obtain ⟨p, hp, rfl⟩ := opnds_one hx
    have := toList_eq hp; subst this
    split at h
    · rename_i t rest hts
      obtain ⟨h1, h2, h3⟩ := ro_ok h
      obtain ⟨cv, g1, g2⟩ := sim_cap hT h1 (opnd_vr hf p) (ts := ts) (by rw [← Array.getElem?_toList, hts]; rfl) ty
      exact ⟨cv, m, w, by simp [builtin, g1], Done.quiet' hs h2 h3 g2⟩
    · cases h
  · rename_i k n xs hx
    obtain ⟨h1, h2, h3⟩ := ro_ok h
    cases hl : args.toList with
    | nil => rw [hl] at hx; simp [opnds] at hx
    | cons p l =>
      rw [hl] at hx
      simp only [opnds, List.cons.injEq] at hx
      have hp := opnd_vr hf p
      rw [hx.1] at hp
      unfold maxO at h1
      split at h1
      · rename_i i a0 c0 lo hi
        split at h1
        · rename_i hle
          split at h1
          · rename_i hk
            subst hk
            cases h1
            obtain ⟨u, hu, hvu⟩ := opnds_vr hf l 0 (.lin i a0 c0 lo hi) (by rw [hx.2]; rfl)
            have hl1 : l.map a.eval = [u] := by
              have hlen : l.length = 1 := by have := congrArg List.length hx.2; simpa [opnds_length] using this
              match l, hlen with
              | [y], _ => simpa using hu
            cases hvu with
            | lin _ _ _ _ _ n' e0 e1 e2 =>
            obtain ⟨r1, r2⟩ := lin_range (a := a0) (c := c0) e1 e2
            refine ⟨.int .i64 n', m, w, ?_, Done.quiet' hs h2 h3 (.lin _ _ _ _ _ _ e0 e1 e2)⟩
            simp only [builtin, Builtin.max_, Array.toList_map, hl, List.map_cons, hp.int_inv, hl1, List.foldlM_cons, List.foldlM_nil, Builtin.max2, Sem.run_bind, Sem.run_pure, Result.andThen_ok]
            by_cases hgt : n' > n
            · rw [if_pos hgt]
            · rw [if_neg hgt, show n' = n by omega]
          · cases h1
        · cases h1
      · cases hr : amax n xs with
        | none => simp [hr, intO] at h1
        | some r =>
          simp [hr, intO] at h1; subst h1
          have := sim_max (P := P) (w := w) (ok := okB c.X m H F) (k := k) (m := m) xs (l.map a.eval) n r hr (by rw [← hx.2]; simp [opnds_length]) (fun j x u hx' hu => by
            rw [← hx.2] at hx'
            obtain ⟨u', hu', hv'⟩ := opnds_vr hf l j x hx'
            rw [Nat.zero_add] at hu'
            have : u' = u := by simpa [hu] using hu'.symm
            rw [← this]; exact hv')
          refine ⟨_, m, w, ?_, Done.quiet' hs h2 h3 (.int _ _)⟩
          simp only [builtin, Builtin.max_, Array.toList_map, hl, List.map_cons, hp.int_inv, Sem.run_bind, this, Result.andThen_ok, Sem.run_pure]
  · rename_i k n xs hx
    obtain ⟨h1, h2, h3⟩ := ro_ok h
    cases hl : args.toList with
    | nil => rw [hl] at hx; simp [opnds] at hx
    | cons p l =>
      rw [hl] at hx
      simp only [opnds, List.cons.injEq] at hx
      have hp := opnd_vr hf p
      rw [hx.1] at hp
      cases hr : amin n xs with
      | none => simp [hr, intO] at h1
      | some r =>
        simp [hr, intO] at h1; subst h1
        have := sim_min (P := P) (w := w) (ok := okB c.X m H F) (k := k) (m := m) xs (l.map a.eval) n r hr (by rw [← hx.2]; simp [opnds_length]) (fun j x u hx' hu => by
          rw [← hx.2] at hx'
          obtain ⟨u', hu', hv'⟩ := opnds_vr hf l j x hx'
          rw [Nat.zero_add] at hu'
          have : u' = u := by simpa [hu] using hu'.symm
          rw [← this]; exact hv')
        refine ⟨_, m, w, ?_, Done.quiet' hs h2 h3 (.int _ _)⟩
        simp only [builtin, Builtin.min_, Array.toList_map, hl, List.map_cons, hp.int_inv, Sem.run_bind, this, Result.andThen_ok, Sem.run_pure]
  · cases h

/-- Is it a call of a function? -/
def callsFn : Op → Bool
  | .call c => match c.callee with
    | .builtin _ => false
    | _ => true
  | _ => false

theorem vr_nilCheck {ok : Nat → Prop} {x v : AV} {e : Eff} {rd fz : List Nat} (h : opNilCheck x = .ok v e rd fz) {vx : Value} (hx : VR ok w.heap m x vx) {a : Act} {y : Operand} (hy : a.eval y = vx) {o : Oper} (ho : o.op = .nilCheck y) :
    (execOp a.eval o).run P w = .ok (.value vx) w ∧ v = x ∧ e = [] ∧ fz = [] := by
  subst hy
  unfold opNilCheck at h
  unfold execOp
  rw [ho]
  simp only
  generalize a.eval y = vx at hx
  split at h
  · simp only [rv, Res.ok.injEq] at h
    obtain ⟨rfl, rfl, _, rfl⟩ := h
    cases hx; exact ⟨rfl, rfl, rfl, rfl⟩
  · simp only [rv, Res.ok.injEq] at h
    obtain ⟨rfl, rfl, _, rfl⟩ := h
    cases hx; exact ⟨rfl, rfl, rfl, rfl⟩
  · simp only [rv, Res.ok.injEq] at h
    obtain ⟨rfl, rfl, _, rfl⟩ := h
    cases hx; exact ⟨rfl, rfl, rfl, rfl⟩
  · simp only [rv, Res.ok.injEq] at h
    obtain ⟨rfl, rfl, _, rfl⟩ := h
    cases hx; exact ⟨rfl, rfl, rfl, rfl⟩
  · cases h

/-- One operation. -/
theorem sim_op (hT : TyOK P T) (E : Env) (hE : E.T = T) {s : St} (hs : SR c m s.H s.F w) {id : Nat} (hid : m id = none) {a : Act} (hf : FrR (okB c.X m s.H s.F) w.heap m s.fr a.tmps) {o : Oper} (hnc : callsFn o.op = false) {v : AV} {e : Eff} {rd fz : List Nat}
    (h : aop E s id o.op = .ok v e rd fz) : ∃ cv m' w', OpRun P a o w cv w' ∧ Done c m s.H s.F w id v e fz cv m' w' := by
  have val : ∀ {sm : Sem Value} {cv : Value} {w' : World}, execOp a.eval o = (do pure (Next.value (← sm))) → sm.run P w = .ok cv w' → OpRun P a o w cv w' := by
    intro sm cv w' h1 h2
    left; rw [h1]; exact run_value h2
  obtain ⟨dst, op, oty, pos, after, guard⟩ := o
  cases op <;> simp only [aop] at h <;> try (cases h; done)
  case move x =>
    simp only [rv, Res.ok.injEq] at h
    obtain ⟨rfl, rfl, _, rfl⟩ := h
    exact ⟨_, m, w, .inl rfl, Done.quiet hs (opnd_vr hf x)⟩
  case assign x =>
    simp only [rv, Res.ok.injEq] at h
    obtain ⟨rfl, rfl, _, rfl⟩ := h
    exact ⟨_, m, w, .inl rfl, Done.quiet hs (opnd_vr hf x)⟩
  case pick cnd x y =>
    have hc := opnd_vr hf cnd
    unfold opPick at h
    split at h
    · rename_i t ht
      rw [ht] at hc
      have hcv : a.eval cnd = .bool t := by cases hc' : a.eval cnd <;> rw [hc'] at hc <;> cases hc; rfl
      simp only [rv, Res.ok.injEq] at h
      obtain ⟨rfl, rfl, _, rfl⟩ := h
      refine ⟨if t then a.eval x else a.eval y, m, w, .inl ?_, Done.quiet hs ?_⟩
      · simp only [execOp, hcv]; cases t <;> rfl
      · cases t
        · exact opnd_vr hf y
        · exact opnd_vr hf x
    · cases h
  case alloc t =>
    unfold opAlloc at h
    rw [hE] at h
    split at h
    · rename_i z hz
      obtain ⟨i, zv, hi, hzv, rfl⟩ := zeroOf_some hT hz
      obtain ⟨cv, m', w', g1, rfl, g3⟩ := sim_newCells (P := P) hs hid h (ofV_vr zv) t
      exact ⟨_, m', w', val rfl (by simp [Instr.alloc, run_zeroValue hi hzv, g1]), g3⟩
    · cases h
  case box t x =>
    obtain ⟨cv, m', w', g1, rfl, g3⟩ := sim_newCells (P := P) hs hid h (opnd_vr hf x) t
    exact ⟨_, m', w', val rfl (by simp [Instr.box, g1]), g3⟩
  case build t ps =>
    obtain ⟨h1, h2, h3⟩ := ro_ok h
    rw [hE] at h1
    obtain ⟨cv, g1, g2⟩ := sim_build hT hf h1
    exact ⟨cv, m, w, val rfl g1, Done.quiet' hs h2 h3 g2⟩
  case buildSlice t n ps =>
    obtain ⟨cv, m', w', g1, g2⟩ := sim_buildSlice hT hs hE hid hf h
    exact ⟨cv, m', w', val rfl g1, g2⟩
  case load t x =>
    obtain ⟨h1, h2, h3⟩ := rr_ok h
    rw [hE] at h1
    obtain ⟨cv, g1, g2⟩ := sim_aload hT hs h1 (opnd_vr hf x)
    exact ⟨cv, m, w, val rfl g1, Done.quiet' hs h2 h3 g2⟩
  case store t x y =>
    obtain ⟨p, h1, rfl, rfl, rfl⟩ := rw_ok h
    rw [hE] at h1
    obtain ⟨w', g1, g2, g3⟩ := sim_astore hT hs h1 (opnd_vr hf x) (opnd_vr hf y)
    exact ⟨undef, m, w', .inr ⟨by simp only [execOp]; exact run_unit g1, rfl⟩, g2, g3, und_vr, fun _ h => .inl h⟩
  case nilCheck x =>
    obtain ⟨g1, rfl, rfl, rfl⟩ := vr_nilCheck (P := P) h (opnd_vr hf x) rfl (o := ⟨dst, .nilCheck x, oty, pos, after, guard⟩) rfl
    exact ⟨_, m, w, .inl g1, Done.quiet hs (opnd_vr hf x)⟩
  case binOp op t x y z =>
    obtain ⟨h1, h2, h3⟩ := ro_ok h
    rw [hE] at h1
    obtain ⟨cv, g1, g2⟩ := sim_bin hT h1 (opnd_vr hf x) (opnd_vr hf y) x y
    exact ⟨cv, m, w, val rfl g1, Done.quiet' hs h2 h3 g2⟩
  case unOp op t x =>
    obtain ⟨h1, h2, h3⟩ := ro_ok h
    obtain ⟨cv, g1, g2⟩ := sim_unary (P := P) h1 (opnd_vr hf x)
    exact ⟨cv, m, w, val rfl g1, Done.quiet' hs h2 h3 g2⟩
  case convert t u x =>
    rw [hE] at h
    obtain ⟨cv, m', w', g1, g2⟩ := sim_convert hT hs hid h (opnd_vr hf x)
    exact ⟨cv, m', w', val rfl g1, g2⟩
  case makeInterface t x =>
    unfold opMakeInterface at h
    rw [hE] at h
    have key : ∀ K, kindOf T t = K → (K = .iface → False) → (K = .other → False) → rv (.ifc t (opnd s.fr x)) = .ok v e rd fz → ∃ cv m' w', OpRun P a ⟨dst, .makeInterface t x, oty, pos, after, guard⟩ w cv w' ∧ Done c m s.H s.F w id v e fz cv m' w' := by
      intro K hK h1 h2 h
      obtain ⟨d, hd, hk⟩ := kindOf_some hT hK (fun e => h2 e)
      simp only [rv, Res.ok.injEq] at h
      obtain ⟨rfl, rfl, _, rfl⟩ := h
      refine ⟨.iface t (a.eval x), m, w, val rfl ?_, Done.quiet hs (.ifc (opnd_vr hf x))⟩
      simp only [Instr.makeInterface, Sem.run_bind, run_underlying hd, Result.andThen_ok]
      cases d <;> first | rfl | (simp [tkOf] at hk; exact (h1 hk.symm).elim)
    generalize hK : kindOf T t = K at h
    split at h
    · cases h
    · cases h
    · rename_i n1 n2
      exact key K hK (fun e => n1 e) (fun e => n2 e) h
  case makeFunc fn first caps =>
    have hfn : ∃ f, fn = .func f ∧ first = #[] ∧ rv (.fn f (opnds s.fr caps.toList)) = .ok v e rd fz := by
      obtain ⟨l⟩ := first
      unfold opMakeFunc at h
      split at h
      · rename_i f hl
        simp only at hl
        subst hl
        exact ⟨_, rfl, rfl, h⟩
      · cases h
    obtain ⟨f, rfl, rfl, h⟩ := hfn
    injection h with e1 e2 e3 e4
    subst e1; subst e2; subst e4
    refine ⟨.func (.func f) #[] (caps.map a.eval), m, w, val rfl (by simp [Instr.makeFunc]), Done.quiet hs (.fn' (by simp [opnds_length]) ?_)⟩
    rw [map_eval]
    exact opnds_vr hf caps.toList
  case makeMap t r =>
    obtain ⟨cv, m', w', g1, g2⟩ := sim_makeMap (P := P) hs hid h (va := r.map a.eval) (fun h => by cases r <;> simp [mapO] at h; rfl)
    exact ⟨cv, m', w', val rfl g1, g2⟩
  case makeSlice t l k =>
    obtain ⟨cv, m', w', g1, g2⟩ := sim_makeSlice hT hs hE hid h (opnd_vr hf l) (opnd_vr hf k)
    exact ⟨cv, m', w', val rfl g1, g2⟩
  case slice t x lo hi mx =>
    obtain ⟨h1, h2, h3⟩ := ro_ok h
    rw [hE] at h1
    obtain ⟨cv, g1, g2⟩ := sim_slice hT h1 (opnd_vr hf x) (mapO_vr hf lo) (mapO_vr hf hi) (mapO_vr hf mx)
    exact ⟨cv, m, w, val rfl g1, Done.quiet' hs h2 h3 g2⟩
  case fieldAddr t x f =>
    obtain ⟨h1, h2, h3⟩ := ro_ok h
    rw [hE] at h1
    obtain ⟨cv, g1, g2⟩ := sim_fieldAddr hT h1 (opnd_vr hf x)
    exact ⟨cv, m, w, val rfl g1, Done.quiet' hs h2 h3 g2⟩
  case field t x f =>
    obtain ⟨h1, h2, h3⟩ := ro_ok h
    rw [hE] at h1
    obtain ⟨cv, g1, g2⟩ := sim_field hT h1 (opnd_vr hf x)
    exact ⟨cv, m, w, val rfl g1, Done.quiet' hs h2 h3 g2⟩
  case indexAddr t x i =>
    obtain ⟨h1, h2, h3⟩ := ro_ok h
    rw [hE] at h1
    obtain ⟨cv, g1, g2⟩ := sim_indexAddr hT h1 (opnd_vr hf x) (opnd_vr hf i)
    exact ⟨cv, m, w, val rfl g1, Done.quiet' hs h2 h3 g2⟩
  case index t x i =>
    obtain ⟨h1, h2, h3⟩ := ro_ok h
    rw [hE] at h1
    obtain ⟨cv, g1, g2⟩ := sim_index hT h1 (opnd_vr hf x) (opnd_vr hf i)
    exact ⟨cv, m, w, val rfl g1, Done.quiet' hs h2 h3 g2⟩
  case lookup t x i ok =>
    obtain ⟨h1, h2, h3⟩ := rr_ok h
    rw [hE] at h1
    obtain ⟨cv, g1, g2⟩ := sim_lookup hT hs h1 (opnd_vr hf x) (opnd_vr hf i)
    exact ⟨cv, m, w, val rfl g1, Done.quiet' hs h2 h3 g2⟩
  case mapUpdate t x k y =>
    obtain ⟨p, h1, rfl, rfl, rfl⟩ := rw_ok h
    rw [hE] at h1
    obtain ⟨w', g1, g2⟩ := sim_mapUpdate hT hs (id := id) h1 (opnd_vr hf x) (opnd_vr hf k) (opnd_vr hf y)
    exact ⟨undef, m, w', .inr ⟨by simp only [execOp]; exact run_unit g1, rfl⟩, g2⟩
  case insert t x k y =>
    obtain ⟨p, h1, rfl, rfl, rfl⟩ := rw_ok h
    rw [hE] at h1
    obtain ⟨w', g1, g2⟩ := sim_mapUpdate hT hs (id := id) h1 (opnd_vr hf x) (opnd_vr hf k) (opnd_vr hf y)
    exact ⟨undef, m, w', .inr ⟨by simp only [execOp]; exact run_unit g1, rfl⟩, g2⟩
  case extract x i =>
    have hx := opnd_vr hf x
    unfold opExtract at h
    split at h
    · rename_i vs hv
      rw [hv] at hx
      obtain ⟨h1, h2, h3⟩ := ro_ok h
      obtain ⟨us, hu, _, hr⟩ := hx.tup_inv
      obtain ⟨cv, g1, g2⟩ := hr i v h1
      rw [Nat.zero_add] at g1
      exact ⟨cv, m, w, val rfl (by simp [Instr.extract, hu, g1]), Done.quiet' hs h2 h3 g2⟩
    · cases h
  case call cl =>
    unfold opCall at h
    simp only [callsFn] at hnc
    obtain ⟨callee, args, ats⟩ := cl
    cases callee with
    | builtin b =>
      simp only at h
      rw [hE] at h
      obtain ⟨e0, h0, hup⟩ := Done.tell (c := c) (m := m) (w := w) h
      obtain ⟨cv, m', w', g1, g2⟩ := sim_builtin hT hs hid hf h0 oty (args.map fun | .const _ => true | _ => false)
      refine ⟨cv, m', w', .inl ?_, hup g2⟩
      simp only [execOp, Go.resolve, Sem.run_bind, Sem.run_pure, Result.andThen_ok, invoke]
      exact g1
    | value f => simp at hnc
    | invoke r n => simp at hnc

end
end Go.Proofs.YtopkeglpafdlfaaGreat.VS
