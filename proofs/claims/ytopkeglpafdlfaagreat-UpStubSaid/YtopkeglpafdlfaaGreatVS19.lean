/- A call by trees, and a call over the caller's own variables: what each leaves. Conditions: none. -/
import Derived.Test.YtopkeglpafdlfaaGreatVS18
namespace Go.Proofs.YtopkeglpafdlfaaGreat.VS
variable [Syms]

section
variable {P : Program} {c : Ctx} {m : Map} {H : Heap} {F : List Nat} {w : World}

/-- The numbers of what a callee leaves to its caller. -/
def taken (id : Nat) (is : List Nat) (m m' : Map) : Map := fun x => if (id ≤ x ∧ x < id + is.length) ∧ (is[x - id]?).bind (placeIn id is) = some x then (is[x - id]?).bind m' else m x

omit [Syms] in
theorem taken_new {id : Nat} {is : List Nat} {m m' : Map} {b x : Nat} (h : placeIn id is b = some x) : taken id is m m' x = m' b := by
  obtain ⟨h1, h2, h3⟩ := placeIn_some h
  simp [taken, h1, h2, h3, h]

omit [Syms] in
theorem taken_old {id : Nat} {is : List Nat} {m m' : Map} (hle : is.length ≤ STRIDE) (hid : ∀ b, id ≤ b → b < id + STRIDE → m b = none) {x : Nat} (hx : m x ≠ none) : taken id is m m' x = m x := by
  unfold taken
  rw [if_neg]
  rintro ⟨⟨h1, h2⟩, _⟩
  exact hx (hid x h1 (by omega))

/-- What a callee's own rows are to its caller. -/
theorem sim_keep (hs : SR c m H F w) {id : Nat} (hid : ∀ b, id ≤ b → b < id + STRIDE → m b = none) {ids : List Nat} {m' : Map} {H' : Heap} {F' : List Nat} {w' : World} {a v : AV} {is : List Nat} {e : Eff} {rd fz : List Nat} {cv : Value}
    (hs' : SR ⟨ownX c m H F ids, fun _ => False, w⟩ m' H' F' w') (hv : VR (okB (ownX c m H F ids) m' H' F') w'.heap m' a cv) (h : keepAns id ids H' F' a is = .ok v e rd fz) :
    Done c m H F w id v e fz cv (taken id is m m') w' := by
  unfold keepAns at h
  cases hc : is.length.ble STRIDE with
  | false => simp [hc] at h
  | true =>
    simp only [hc, cond_true] at h
    have hle := ble_le hc
    split at h
    · rename_i r R hr hR
      simp only [Res.ok.injEq] at h
      obtain ⟨rfl, rfl, _, rfl⟩ := h
      have hk : Keep (fun _ => False) w w' := hs'.keep
      obtain ⟨hx0, hsw⟩ := hs.away hk
      have hblk : ∀ β, β < w.heap.size → w'.heap[β]? = w.heap[β]? := fun β h => hk.block β h (fun h => h)
      have hnew : ∀ b o L, hget H' b = some o → m' b = some L → w.heap.size ≤ L.blk := fun b o L h1 h2 => (hs'.own b o L h1 h2).resolve_left (fun h => h)
      have get : ∀ {x o}, hget (happ H R) x = some o → (hget H x = some o ∧ taken id is m m' x = m x) ∨ ∃ b o0, placeIn id is b = some x ∧ hget H' b = some o0 ∧ RenO (placeIn id is) o0 o := fun {x o} hx => by
        rcases happ_keep R hx with ⟨h, h'⟩ | h
        · refine .inl ⟨h, ?_⟩
          unfold taken
          rw [if_neg]
          rintro ⟨h1, h2⟩
          cases hi : is[x - id]? with
          | none => rw [hi] at h2; cases h2
          | some b =>
            rw [hi] at h2
            obtain ⟨q, hq⟩ := renHeap_dom hR b (List.mem_of_getElem? hi) x h2
            exact h' q hq
        · obtain ⟨b, o0, o1, h1, h2, h3, h4⟩ := renHeap_mem hR h
          cases h4
          exact .inr ⟨b, o0, h1, h2, h3⟩
      -- a row that the callee must not change, told by the caller
      have hok : ∀ β, okB (ownX c m H F ids) m' H' F' β → okB c.X (taken id is m m') (happ H R) ((still (placeIn id is) F' is ++ ids) ++ F) β := by
        intro β ho
        refine ⟨fun hX => ho.1 (.inl hX), fun x o L hx hf hm => ?_⟩
        rcases get hx with ⟨hx, old⟩ | ⟨b, o0, h1, h2, h3⟩
        · rw [old] at hm
          intro hL
          exact ho.1 (.inr ⟨x, o, L, hx, fun h => hf (by simp [h]), fun h => hf (by simp [h]), hm, hL⟩)
        · rw [taken_new h1] at hm
          obtain ⟨_, _, p3⟩ := placeIn_some h1
          exact ho.2 b _ L h2 (fun hF => hf (by simp [still_mem h1 hF (List.mem_of_getElem? p3)])) hm
      have hle' : MLe m (taken id is m m') := fun b L hb => by rw [taken_old hle hid (by rw [hb]; simp)]; exact hb
      have hext : Ext c m H F w (taken id is m m') (happ H R) ((still (placeIn id is) F' is ++ ids) ++ F) w' := by
        refine ⟨hle', fun β C et z ho hh => ⟨⟨ho.1, fun x o L hx hf hm => ?_⟩, by rw [hblk β (lt_of_some hh)]; exact hh⟩⟩
        rcases get hx with ⟨hx, old⟩ | ⟨b, o0, h1, h2, h3⟩
        · rw [old] at hm
          exact ho.2 x o L hx (fun h => hf (by simp [h])) hm
        · rw [taken_new h1] at hm
          have := hnew b _ L h2 hm
          have := lt_of_some hh
          omega
      refine ⟨hext, ⟨hs.xlt, fun x o hx => ?_, fun x1 o1 x2 o2 L1 L2 k1 k2 k3 k4 k5 => ?_, fun x o L hx hm => ?_, fun x o L hx hm => ?_, hsw.keep⟩, ren_vr hok (fun b x hb => taken_new hb) _ _ _ _ hr hv, fun b hb => ?_⟩
      · rcases get hx with ⟨hx, old⟩ | ⟨b, o0, h1, h2, h3⟩
        · rw [old]
          exact (hs.all x o hx).imp (fun ⟨L, g1, g2⟩ => ⟨L, g1, ObjR.mono g2 hext.kk hle' (hblk _ (ObjR.lt g2))⟩) (fun h => h)
        · rw [taken_new h1]
          have hvo : Void o0 → Void o := fun hv => by
            rcases hv with ⟨t, rfl⟩ | ⟨t, rfl⟩
            · cases h3; exact .inl ⟨t, rfl⟩
            · cases h3 with
              | arr h3 =>
                have := (renAll_some h3).1
                rw [List.length_eq_zero_iff.1 this]
                exact .inr ⟨t, rfl⟩
          rcases hs'.all b _ h2 with ⟨L, g1, g2⟩ | ⟨g1, hv⟩
          case inr => exact .inr ⟨g1, hvo hv⟩
          refine .inl ⟨L, g1, ?_⟩
          cases h3 with
          | arr h3 =>
            obtain ⟨j1, j2, j3, j4, C, et, z, j5, j6, j7, j8, j9⟩ := g2
            obtain ⟨q1, q2⟩ := renAll_flat hok (fun b x hb => taken_new hb) h3 j4 j9
            have hlen := (renAll_some h3).1
            exact ⟨j1, j2, by rw [hlen]; exact j3, q1, C, et, z, j5, j6, j7, by rw [hlen]; exact j8, q2⟩
          | tarr =>
            obtain ⟨j1, j2, j3, j4, C, et, z, j5, j6, j7, j8, j9⟩ := g2
            exact ⟨j1, j2, j3, j4, C, et, z, j5, j6, j7, j8, encs_flat_vr hok j9⟩
      · rcases get k1 with ⟨k1, old1⟩ | ⟨b1, o1', g1, g2, g3⟩ <;> rcases get k2 with ⟨k2, old2⟩ | ⟨b2, o2', q1, q2, q3⟩
        · rw [old1] at k3; rw [old2] at k4
          exact hs.inj _ _ _ _ _ _ k1 k2 k3 k4 k5
        · rw [old1] at k3; rw [taken_new q1] at k4
          have := hs.blt k1 k3
          have := hnew _ _ _ q2 k4
          omega
        · rw [old2] at k4; rw [taken_new g1] at k3
          have := hs.blt k2 k4
          have := hnew _ _ _ g2 k3
          omega
        · rw [taken_new g1] at k3; rw [taken_new q1] at k4
          have := hs'.inj _ _ _ _ _ _ g2 q2 k3 k4 k5
          subst this
          rw [g1] at q1; exact Option.some.inj q1
      · rcases get hx with ⟨hx, old⟩ | ⟨b, o0, h1, h2, h3⟩
        · rw [old] at hm; exact hs.nox x o L hx hm
        · rw [taken_new h1] at hm
          exact fun hX => hs'.nox b _ L h2 hm (.inl hX)
      · rcases get hx with ⟨hx, old⟩ | ⟨b, o0, h1, h2, h3⟩
        · rw [old] at hm; exact hs.own x o L hx hm
        · rw [taken_new h1] at hm
          have := hnew b _ L h2 hm
          have := hs.keep.size
          exact .inr (by omega)
      · by_cases hx : (id ≤ b ∧ b < id + is.length) ∧ (is[b - id]?).bind (placeIn id is) = some b
        · exact .inr ⟨hx.1.1, by omega⟩
        · left
          intro hn
          apply hb
          unfold taken
          rw [if_neg hx]; exact hn
    · cases h

/-- A call by trees. -/
theorem sim_pure (hs : SR c m H F w) {id : Nat} (hid : ∀ b, id ≤ b → b < id + STRIDE → m b = none) {call : FuncId → List AV → Heap → List Nat → Nat → Ans} (hC : CallOK P call) {f : FuncId} {nz keep : Bool} {args : List AV} {p : List AV × List Nat}
    (hp : resolveAll nz H args = some p) {v : AV} {e : Eff} {rd fz : List Nat} (h : pureAns keep id p.2 (call f p.1 [] [] 0) = .ok v e rd fz) {cargs : Array Value} (hc : CR (okB c.X m H F) w.heap m args cargs 0) (hsz : cargs.size = args.length) :
    CallsTo P f cargs w fun cv w' => ∃ m', Done c m H F w id v e fz cv m' w' := by
  obtain ⟨hl, hr⟩ := hs.toCallee hp hc
  unfold pureAns at h
  split at h
  · rename_i v0 H' F' nx' hcall
    refine (hC f p.1 [] [] 0 v0 H' F' nx' hcall _ noMap w cargs (hs.callee p.2) hr (by rw [hsz, hl]) (fun _ _ => rfl)).mono fun cv w' ⟨m', ha⟩ => ?_
    cases keep with
    | true =>
      simp only [cond_true] at h
      exact ⟨_, sim_keep hs hid ha.sr ha.vr h⟩
    | false =>
      simp only [cond_false] at h
      have hk : Keep (fun _ => False) w w' := ha.sr.keep
      obtain ⟨hx0, hsw⟩ := hs.away hk
      split at h
      · rename_i r hr'
        simp only [Res.ok.injEq] at h
        obtain ⟨rfl, rfl, _, rfl⟩ := h
        have hv : VR (fun β => ¬ ownX c m H F p.2 β) w'.heap noMap r.1 cv :=
          resolve_vr (I := fun _ => True) (fun β ho => ho.1) ha.sr.arrs (fun b L _ hm hn => by
            cases hg : hget H' b with
            | none => exact absurd hg hn
            | some o => exact ha.sr.nox b o L hg hm) _ _ _ r.2 cv hr' (fun _ _ => trivial) ha.vr
        cases hf : flatV DEEP r.1 with
        | true => exact ⟨m, hx0, hsw, flat_vr _ _ _ hf hv, fun b hb => .inl hb⟩
        | false =>
          obtain ⟨hx1, hs1⟩ := hsw.freeze p.2
          refine ⟨m, hx0.trans hx1, hs1, hv.mono (fun β C et z ho hh => ⟨⟨fun hX => ho (.inl hX), fun b o L hb hF hm hL => ho (.inr ⟨b, o, L, hb, fun h => hF ?_, fun h => hF ?_, hm, hL⟩)⟩, hh⟩) (fun b L hb => by cases hb), fun b hb => .inl hb⟩
          · simp [h]
          · simp [h]
      · cases h
  · cases h

/-- What an operation leaves: by numbers of its own, or the whole heap anew. -/
def OpPost (c : Ctx) (m : Map) (s : St) (w : World) (id : Nat) (cv : Value) (m' : Map) (w' : World) : Res → Prop
  | .ok v e _ fz => Done c m s.H s.F w id v e fz cv m' w'
  | .all v H' F' nx' => After c m s.H s.F w s.nx v H' F' nx' cv m' w'
  | .no => False

theorem sim_shared {s : St} (hs : SR c m s.H s.F w) (hnx : ∀ b, s.nx ≤ b → m b = none) {call : FuncId → List AV → Heap → List Nat → Nat → Ans} (hC : CallOK P call) {f : FuncId} {args : List AV} {id : Nat} {q : Res}
    (h : sharedAns s.nx (call f args s.H s.F s.nx) = q) (hq : q ≠ .no) {cargs : Array Value} (hc : CR (okB c.X m s.H s.F) w.heap m args cargs 0) (hsz : cargs.size = args.length) :
    CallsTo P f cargs w fun cv w' => ∃ m', OpPost c m s w id cv m' w' q := by
  unfold sharedAns at h
  split at h
  · rename_i v H' F' nx' hcall
    refine (hC f args s.H s.F s.nx v H' F' nx' hcall c m w cargs hs hc hsz hnx).mono fun cv w' ⟨m', ha⟩ => ⟨m', ?_⟩
    cases hi : idFree DEEP v with
    | true =>
      simp only [hi, cond_true] at h
      subst h
      obtain ⟨hx, hs'⟩ := ha.sr.sub (H2 := below s.nx H') (hget_below s.nx H')
      exact ⟨ha.ext.trans hx, hs', hx.vr ha.vr, ha.le, ha.dom⟩
    | false =>
      simp only [hi, cond_false] at h
      subst h
      exact ha
  · exact absurd h.symm hq

/-- A call of a function. -/
theorem sim_acall {E : Env} {s : St} (hs : SR c m s.H s.F w) {id : Nat} (hid : ∀ b, id ≤ b → b < id + STRIDE → m b = none) (hnx : ∀ b, s.nx ≤ b → m b = none) (hC : CallOK P E.call) {f : FuncId} {args : List AV} {q : Res}
    (h : acallOp E s id f args = q) (hq : q ≠ .no) {cargs : Array Value} (hc : CR (okB c.X m s.H s.F) w.heap m args cargs 0) (hsz : cargs.size = args.length) :
    CallsTo P f cargs w fun cv w' => ∃ m', OpPost c m s w id cv m' w' q := by
  unfold acallOp at h
  cases hp : ((args.any (hasPtr DEEP) && !E.cfg.look f) || E.cfg.share f) with
  | true =>
    simp only [hp, cond_true] at h
    exact sim_shared hs hnx hC h hq hc hsz
  | false =>
    simp only [hp, cond_false] at h
    split at h
    · rename_i p hpp
      cases q with
      | no => exact absurd rfl hq
      | ok v e rd fz => exact sim_pure hs hid hC hpp h hc hsz
      | all v H' F' nx' =>
        exfalso
        revert h
        unfold pureAns keepAns
        split
        · cases E.cfg.keep f with
          | true =>
            simp only [cond_true]
            cases (_ : Nat).ble STRIDE with
            | false => simp
            | true =>
              simp only [cond_true]
              split <;> simp
          | false =>
            simp only [cond_false]
            split <;> simp
        · simp
    · exact absurd h.symm hq

end
end Go.Proofs.YtopkeglpafdlfaaGreat.VS
