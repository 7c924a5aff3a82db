/- What the abstract machine answers, the program answers. Conditions: none. -/
import Derived.Test.YtopkeglpafdlfaaGreatVS25
namespace Go.Proofs.YtopkeglpafdlfaaGreat.VS
variable [Syms]

section
variable {P : Program} {T : Tabs} {c : Ctx} {E : Env} {n : Nat}

/-- The functions of the tables are the program's. -/
def FnOK (P : Program) (T : Tabs) : Prop :=
  ∀ f fn, T.fn.get f = some fn → P.funcs[f]? = some fn ∧ fnOk fn = true ∧ (fn.name == "runtime.NumGoroutine") = false

/-- A contract over the caller's own heap holds. -/
def HOK (P : Program) (f : FuncId) (p : List AV → Heap → List Nat → Nat → Option (AV × Heap × List Nat × Nat)) : Prop :=
  ∀ args H F nx r, p args H F nx = some r → ∀ (c : Ctx) (m : Map) (w : World) (cargs : Array Value), SR c m H F w → CR (okB c.X m H F) w.heap m args cargs 0 → cargs.size = args.length →
    (∀ b, nx ≤ b → m b = none) → CallsTo P f cargs w fun cv w' => ∃ m', After c m H F w nx r.1 r.2.1 r.2.2.1 r.2.2.2 cv m' w'

/-- The contracts that are given hold. -/
structure PrimOK (P : Program) (cfg : Cfg) : Prop where
  prim : ∀ f p, cfg.prim f = some p → ∀ args r, p args = some r → ∀ (c : Ctx) (m : Map) (w : World) (cargs : Array Value), SR c m [] [] w → CR (okB c.X m [] []) w.heap m args cargs 0 → cargs.size = args.length →
    (∀ b, m b = none) → CallsTo P f cargs w fun cv w' => ∃ m', After c m [] [] w 0 r.1 r.2 [] WIDE cv m' w'
  heap : ∀ f p, cfg.primH f = some p → HOK P f p

omit [Syms] in
theorem run_callFunc {f : FuncId} {fn : Func} {code : Code} (hf : P.funcs[f]? = some fn) (hb : fn.body = some code) (hn : (fn.name == "runtime.NumGoroutine") = false) (args : Array Value) (w : World) : (callFunc f args).run P w = .ok (.enter f args) w := by
  have hn' : ¬ fn.name = "runtime.NumGoroutine" := by
    intro e
    rw [e] at hn
    simp at hn
  simp [callFunc, hf, hb, hn']

/-- One result, out of a frame. -/
def resOf (tmps : Array Value) : ResultVar → Sem Value
  | .tmp t => pure (tmps.getD t undef)
  | .cell b t => do loadVar t (← asAddr (tmps.getD b undef))

omit [Syms] in
theorem run_results {fn : Func} {tmps : Array Value} {w : World} {us : List Value} (h : (fn.results.toList.mapM (resOf tmps)).run P w = .ok us w) :
    (results fn tmps).run P w = .ok (if h : us.toArray.size = 1 then us.toArray[0] else .tuple us.toArray) w := by
  have e : results fn tmps = (do
      let vs ← fn.results.mapM (resOf tmps)
      pure (if h : vs.size = 1 then vs[0] else .tuple vs)) := by
    unfold results
    congr 1
  rw [e, Array.mapM_eq_mapM_toList]
  simp only [Sem.run_bind, Sem.run_map, h, Result.andThen_ok, Sem.run_pure]

theorem sim_addr (hT : TyOK P T) {m : Map} {H : Heap} {F : List Nat} {w : World} (hs : SR c m H F w) {t : TypeId} {a x : AV} (ha : aload T H t a = some x) {v : Value} (hv : VR (okB c.X m H F) w.heap m a v) :
    ∃ cv, (do loadVar t (← asAddr v) : Sem Value).run P w = .ok cv w ∧ VR (okB c.X m H F) w.heap m x cv := by
  unfold aload at ha
  split at ha
  · rename_i q hq
    obtain ⟨β, o, C, e, z, rfl, hC, hr⟩ := hs.addr hq hv
    obtain ⟨cv, h1, h2⟩ := sim_take hT ha hC hr
    exact ⟨cv, by simp [asAddr, h1], h2⟩
  · cases ha

theorem sim_result (hT : TyOK P T) {m : Map} {s : St} {a : Act} {w : World} (ha : At n c m s a w) : ∀ (rs : List ResultVar) (vs : List AV), aresult T s.fr s.H rs = some vs →
    ∃ us : List Value, us.length = vs.length ∧ (rs.mapM (resOf a.tmps)).run P w = .ok us w ∧ CR (okB c.X m s.H s.F) w.heap m vs us.toArray 0
  | [], vs, h => by
    simp [aresult] at h; subst h
    exact ⟨[], rfl, by simp, fun j x hx => by simp at hx⟩
  | .tmp t :: r, vs, h => by
    rw [aresult] at h
    split at h
    · rename_i vs' hvs
      cases h
      obtain ⟨us, h1, h2, h3⟩ := sim_result hT ha r vs' hvs
      refine ⟨a.tmps.getD t undef :: us, by simp [h1], ?_, fun j x hx => ?_⟩
      · simp only [List.mapM_cons, resOf, Sem.run_bind, Sem.run_pure, Result.andThen_ok, h2]
      · cases j with
        | zero => simp at hx; subst hx; exact ⟨_, by simp, ha.fr t⟩
        | succ j =>
          obtain ⟨u, hu, hr⟩ := h3 j x (by simpa using hx)
          exact ⟨u, by simpa using hu, hr⟩
    · cases h
  | .cell b t :: r, vs, h => by
    rw [aresult] at h
    split at h
    · rename_i v vs' hv hvs
      cases h
      obtain ⟨us, h1, h2, h3⟩ := sim_result hT ha r vs' hvs
      obtain ⟨cv, g1, g2⟩ := sim_addr hT ha.sr hv (ha.fr b)
      refine ⟨cv :: us, by simp [h1], ?_, fun j x hx => ?_⟩
      · simp only [List.mapM_cons, resOf]
        rw [Sem.run_bind, g1]
        simp only [Result.andThen_ok, Sem.run_bind, Sem.run_pure, h2]
      · cases j with
        | zero => simp at hx; subst hx; exact ⟨_, by simp, g2⟩
        | succ j =>
          obtain ⟨u, hu, hr⟩ := h3 j x (by simpa using hx)
          exact ⟨u, by simpa using hu, hr⟩
    · cases h

/-- The answer of a function. -/
theorem sim_ans (hT : TyOK P T) {m : Map} {s : St} {a : Act} {w : World} (ha : At n c m s a w) {fn : Func} {v : AV} {H' : Heap} {F' : List Nat} {nx' : Nat} (h : ansOf T fn.results.toList s = .ok v H' F' nx') :
    H' = s.H ∧ F' = s.F ∧ nx' = s.nx ∧ ∃ cv, (results fn a.tmps).run P w = .ok cv w ∧ VR (okB c.X m s.H s.F) w.heap m v cv := by
  unfold ansOf at h
  split at h
  · rename_i vs hvs
    simp only [Ans.ok.injEq] at h
    obtain ⟨rfl, rfl, rfl, rfl⟩ := h
    obtain ⟨us, h1, h2, h3⟩ := sim_result hT ha _ _ hvs
    refine ⟨rfl, rfl, rfl, _, run_results h2, ?_⟩
    match vs, us, h1, h3 with
    | [v], [u], _, h3 =>
      obtain ⟨u', hu, hr⟩ := h3 0 v rfl
      simp at hu; subst hu
      simpa [oneOf] using hr
    | [], [], _, h3 => exact .tup' rfl h3
    | v :: v' :: vs, u :: u' :: us, h1, h3 =>
      rw [dif_neg (by simp)]
      exact .tup' (by simpa using h1) h3
    | [], _ :: _, h1, _ => simp at h1
    | [_], [], h1, _ => simp at h1
    | [_], _ :: _ :: _, h1, _ => simp at h1
    | _ :: _ :: _, [], h1, _ => simp at h1
    | _ :: _ :: _, [_], h1, _ => simp at h1
  · cases h

theorem entered {fn : Func} {c : Ctx} {m : Map} {args : List AV} {H : Heap} {F : List Nat} {nx : Nat} {w : World} {cargs : Array Value} (hs : SR c m H F w) (hr : CR (okB c.X m H F) w.heap m args cargs 0) (hsz : cargs.size = args.length) (hnx : ∀ b, nx ≤ b → m b = none)
    (hle : args.length ≤ fn.ntmps) (hfr : fn.ntmps ≤ 1023) : At fn.ntmps c m ⟨Fr.args args 0 (Fr.full 10), H, F, nx⟩ { tmps := cargs ++ Array.replicate (fn.ntmps - cargs.size) undef, defers := [] } w := by
  obtain ⟨h1, h2⟩ := Fr.args_spec args 0 (Fr.full 10) fn.ntmps (fun j hj => Fr.has_full 10 j (by omega)) (by omega)
  refine ⟨hs, fun t => ?_, h1, by simp; omega, hnx⟩
  show VR _ _ _ ((Fr.args args 0 (Fr.full 10)).get t) ((cargs ++ Array.replicate (fn.ntmps - cargs.size) undef).getD t undef)
  rw [h2, if_pos (Nat.zero_le t), Nat.sub_zero]
  rcases Nat.lt_or_ge t args.length with ht | ht
  · obtain ⟨v, hv, hvr⟩ := hr t args[t] (List.getElem?_eq_getElem ht)
    rw [Nat.zero_add] at hv
    have : (cargs ++ Array.replicate (fn.ntmps - cargs.size) undef).getD t undef = v := by
      rw [Array.getD_eq_getD_getElem?, Array.getElem?_append_left (by omega), hv]; rfl
    rw [this, List.getElem?_eq_getElem ht]
    exact hvr
  · rw [List.getElem?_eq_none ht, Option.getD_none, Fr.get_full]
    have : (cargs ++ Array.replicate (fn.ntmps - cargs.size) undef).getD t undef = undef := by
      rw [Array.getD_eq_getD_getElem?, Array.getElem?_append_right (by omega), Array.getElem?_replicate]
      split <;> rfl
    rw [this]
    exact und_vr

/-- A function by its text. -/
theorem sim_body (hT : TyOK P T) (hE : E.T = T) (hC : CallOK P E.call) (hmx : P.follows .mixedOrders = true) {f : FuncId} {fn : Func} (hf : P.funcs[f]? = some fn) (hok : fnOk fn = true) (hn : (fn.name == "runtime.NumGoroutine") = false) {N : Nat} {args : List AV} {H : Heap} {F : List Nat} {nx : Nat} {v : AV} {H' : Heap} {F' : List Nat} {nx' : Nat}
    (h : bodyAns E N fn args H F nx = .ok v H' F' nx') {c : Ctx} {m : Map} {w : World} {cargs : Array Value} (hs : SR c m H F w) (hr : CR (okB c.X m H F) w.heap m args cargs 0) (hsz : cargs.size = args.length) (hnx : ∀ b, nx ≤ b → m b = none) :
    CallsTo P f cargs w fun cv w' => ∃ m', After c m H F w nx v H' F' nx' cv m' w' := by
  unfold bodyAns at h
  split at h
  · rename_i code hb
    right
    refine ⟨run_callFunc hf hb hn cargs w, ?_⟩
    cases hle : args.length.ble fn.ntmps with
    | false => simp [hle] at h
    | true =>
      simp only [hle, cond_true] at h
      unfold fnOk at hok
      rw [hb] at hok
      simp only [Bool.and_eq_true] at hok
      have hat := entered (fn := fn) hs hr hsz hnx (ble_le hle) (ble_le hok.1)
      refine calls_of_wp hf hb ?_
      generalize hex : exec E N code ⟨Fr.args args 0 (Fr.full 10), H, F, nx⟩ = q at h
      cases q with
      | no => simp [ended] at h
      | go x s' =>
        refine sim_exec hT hE hC hmx N code hex hok.2.1 hok.2.2 hat fun a' w' m' ha' hd' hm' => ?_
        have fin : ansOf E.T fn.results.toList s' = .ok v H' F' nx' → a'.defers = [] ∧ ∃ cv, (results fn a'.tmps).run P w' = .ok cv w' ∧ ∃ u, Ending.returned cv = .returned u ∧ ∃ m', After c m H F w nx v H' F' nx' u m' w' := by
          intro h
          rw [hE] at h
          obtain ⟨rfl, rfl, rfl, cv, g1, g2⟩ := sim_ans hT ha' h
          exact ⟨hd', cv, g1, cv, rfl, m', hm'.ext, ha'.sr, g2, hm'.le, hm'.dom⟩
        cases x with
        | normal => exact fin h
        | ret => exact fin h
        | exit k => simp [ended] at h
  · cases h

/-- What the abstract machine answers, the program answers. -/
theorem acall_ok (hT : TyOK P T) (hF : FnOK P T) {cfg : Cfg} (hp : PrimOK P cfg) (hmx : P.follows .mixedOrders = true) : ∀ N, CallOK P (acall T cfg N)
  | 0 => fun f args H F nx v H' F' nx' h => by simp [acall] at h
  | N + 1 => fun f args H F nx v H' F' nx' h c m w cargs hs hr hsz hnx => by
    rw [acall] at h
    split at h
    · rename_i r hr'
      simp only [Ans.ok.injEq] at h
      obtain ⟨rfl, rfl, rfl, rfl⟩ := h
      unfold told at hr'
      split at hr'
      · rename_i p hpf
        unfold primGo at hr'
        split at hr'
        · exact hp.prim f p hpf args r hr' c m w cargs hs hr hsz fun b => hnx b (Nat.zero_le b)
        · cases hr'
      · cases hr'
    · split at h
      · rename_i p hpf
        unfold toldH at h
        split at h
        · rename_i r hr'
          simp only [Ans.ok.injEq] at h
          obtain ⟨rfl, rfl, rfl, rfl⟩ := h
          exact hp.heap f p hpf args H F nx r hr' c m w cargs hs hr hsz hnx
        · cases h
      · split at h
        · rename_i fn hfn
          obtain ⟨h1, h2, h3⟩ := hF f fn hfn
          exact sim_body hT rfl (acall_ok hT hF hp hmx N) hmx h1 h2 h3 h hs hr hsz hnx
        · cases h

end
end Go.Proofs.YtopkeglpafdlfaaGreat.VS
