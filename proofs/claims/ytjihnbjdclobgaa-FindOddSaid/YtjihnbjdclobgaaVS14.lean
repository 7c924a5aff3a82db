/- One operation that calls no function: what it leaves, on both sides. Conditions: none. -/
import Derived.Test.YtjihnbjdclobgaaVS13
namespace Go.Proofs.Ytjihnbjdclobgaa.VS

section
variable {P : Program} {T : Tabs} {c : Ctx} {m : Map} {H : Heap} {F : List Nat} {w : World}

/-- An operation's answer: a value, or none. -/
def OpEnds (P : Program) (a : Act) (o : Oper) (w : World) (R : Value → World → Prop) : Prop :=
  (∃ cv w', (execOp a.eval o).run P w = .ok (.value cv) w' ∧ R cv w') ∨ ∃ w', (execOp a.eval o).run P w = .ok .skip w' ∧ R undef w'

theorem run_value {s : Sem Value} {v : Value} {w' : World} (h : s.run P w = .ok v w') : (do pure (Next.value (← s)) : Sem Next).run P w = .ok (.value v) w' := by
  simp [h]

theorem run_unit {s : Sem Unit} {w' : World} (h : s.run P w = .ok () w') : (do s; pure Next.skip : Sem Next).run P w = .ok .skip w' := by
  simp [h]

theorem sim_len (hT : TyOK P T) (hs : SR c m H F w) {t : TypeId} {x v : AV} (h : alen T t H x = some v) {vx : Value} (hx : VR (okB c.X m H F) w.heap m x vx) {ts : Array TypeId} (ht : ts[0]? = some t) (ty : TypeId) :
    ∃ cv, (Builtin.len_ ts ty #[vx]).run P w = .ok cv w ∧ VR (okB c.X m H F) w.heap m v cv := by
  unfold alen at h
  split at h
  · rename_i s hk
    cases h
    obtain ⟨bs, rfl, hbs⟩ := hx.str_inv
    have : bs.size = s.length := by rw [← hbs]; exact Array.length_toList.symm
    exact ⟨_, by simp [Builtin.len_, ht, run_underlying (kind_str hT hk), goInt, this], .int _ _⟩
  · rename_i hk
    cases h; cases hx
    exact ⟨_, by simp [Builtin.len_, ht, run_underlying (kind_slice hT hk), goInt], .int _ _⟩
  · rename_i hk
    cases h; cases hx
    exact ⟨_, by simp [Builtin.len_, ht, run_underlying (kind_slice hT hk), goInt], .int _ _⟩
  · rename_i hk
    cases h; cases hx
    exact ⟨_, by simp [Builtin.len_, ht, run_underlying (kind_slice hT hk), goInt], .int _ _⟩
  · rename_i xs hk
    cases h
    obtain ⟨a, cp, rfl, _⟩ := hx.sl_any
    exact ⟨_, by simp [Builtin.len_, ht, run_underlying (kind_slice hT hk), goInt], .int _ _⟩
  · rename_i s b lo len hk
    cases h
    obtain ⟨a, cp, rfl, _⟩ := hx.osl_any
    exact ⟨_, by simp [Builtin.len_, ht, run_underlying (kind_slice hT hk), goInt], .int _ _⟩
  · rename_i k e hk
    split at h
    · rename_i es hes
      cases h
      rcases mapOf_some hs hes hx with ⟨rfl, rfl⟩ | ⟨r, ents, cl, rfl, h1, h2, h3⟩
      · exact ⟨_, by simp [Builtin.len_, ht, run_underlying (kind_map hT hk), goInt], .int _ _⟩
      · exact ⟨_, by simp [Builtin.len_, ht, run_underlying (kind_map hT hk), goInt, MapKept.run_getObj_map h1, h2], .int _ _⟩
    · cases h
  · rename_i n e _ hk
    cases h
    exact ⟨_, by simp [Builtin.len_, ht, run_underlying (kind_array hT hk), goInt], .int _ _⟩
  · cases h

theorem sim_cap (hT : TyOK P T) {t : TypeId} {x v : AV} (h : acap T t x = some v) {ok : Nat → Prop} {vx : Value} (hx : VR ok w.heap m x vx) {ts : Array TypeId} (ht : ts[0]? = some t) (ty : TypeId) :
    ∃ cv, (Builtin.cap_ ts ty #[vx]).run P w = .ok cv w ∧ VR ok w.heap m v cv := by
  unfold acap at h
  split at h
  · rename_i hk
    cases h; cases hx
    exact ⟨_, by simp [Builtin.cap_, ht, run_underlying (kind_slice hT hk), goInt], .int _ _⟩
  · rename_i hk
    cases h; cases hx
    exact ⟨_, by simp [Builtin.cap_, ht, run_underlying (kind_slice hT hk), goInt], .int _ _⟩
  · cases h

theorem sim_max {ok : Nat → Prop} {k : IntKind} : ∀ (xs : List AV) (vs : List Value) (n r : Int), amax n xs = some r → vs.length = xs.length → (∀ (j : Nat) (x : AV) (v : Value), xs[j]? = some x → vs[j]? = some v → VR ok w.heap m x v) →
    (vs.foldlM Builtin.max2 (.int k n)).run P w = .ok (.int k r) w
  | [], vs, n, r, h, hl, _ => by
    have : vs = [] := List.length_eq_zero_iff.1 (by simpa using hl)
    subst this
    simp [amax] at h; subst h; rfl
  | x :: xs, [], _, _, _, hl, _ => by simp at hl
  | x :: xs, v :: vs, n, r, h, hl, hv => by
    have h0 := hv 0 x v rfl rfl
    cases x <;> simp only [amax] at h <;> try (cases h; done)
    rename_i k' b
    rw [h0.int_inv]
    simp only [List.foldlM_cons, Sem.run_bind, Builtin.max2, Sem.run_pure, Result.andThen_ok]
    exact sim_max xs vs _ r h (by simpa using hl) (fun j x v hx hv' => hv (j + 1) x v hx hv')

theorem sim_min {ok : Nat → Prop} {k : IntKind} : ∀ (xs : List AV) (vs : List Value) (n r : Int), amin n xs = some r → vs.length = xs.length → (∀ (j : Nat) (x : AV) (v : Value), xs[j]? = some x → vs[j]? = some v → VR ok w.heap m x v) →
    (vs.foldlM Builtin.min2 (.int k n)).run P w = .ok (.int k r) w
  | [], vs, n, r, h, hl, _ => by
    have : vs = [] := List.length_eq_zero_iff.1 (by simpa using hl)
    subst this
    simp [amin] at h; subst h; rfl
  | x :: xs, [], _, _, _, hl, _ => by simp at hl
  | x :: xs, v :: vs, n, r, h, hl, hv => by
    have h0 := hv 0 x v rfl rfl
    cases x <;> simp only [amin] at h <;> try (cases h; done)
    rename_i k' b
    rw [h0.int_inv]
    simp only [List.foldlM_cons, Sem.run_bind, Builtin.min2, Sem.run_pure, Result.andThen_ok]
    exact sim_min xs vs _ r h (by simpa using hl) (fun j x v hx hv' => hv (j + 1) x v hx hv')

theorem sim_unary {ok : Nat → Prop} {op : UnOp} {x v : AV} (h : aun op x = some v) {vx : Value} (hx : VR ok w.heap m x vx) : ∃ cv, (Op.unary op vx).run P w = .ok cv w ∧ VR ok w.heap m v cv := by
  unfold aun at h
  split at h
  · cases h; rw [hx.int_inv]; exact ⟨_, rfl, .int _ _⟩
  · cases h; cases hx; exact ⟨_, rfl, .bool _⟩
  · simp only [aint, intv] at h
    cases h; rw [hx.int_inv]; exact ⟨_, rfl, .int _ _⟩
  · cases h

def simpleV : AV → Bool
  | .bool _ | .int _ _ | .str _ | .nilp | .ptr _ _ | .nils | .sl _ | .osl _ _ _ _ | .nev => true
  | _ => false

theorem eqOne_simple {k : TK} {x y : AV} {b : Bool} (h : eqOne k x y = some b) : simpleV x = true ∧ simpleV y = true := by
  unfold eqOne at h
  split at h
  · exact ⟨rfl, rfl⟩
  · exact ⟨rfl, rfl⟩
  · exact ⟨rfl, rfl⟩
  · unfold eqPtr at h
    split at h
    · exact ⟨rfl, rfl⟩
    · exact ⟨rfl, rfl⟩
    · exact ⟨rfl, rfl⟩
    · cases h
  · unfold eqSl at h
    split at h
    · exact ⟨rfl, rfl⟩
    · exact ⟨rfl, rfl⟩
    · exact ⟨rfl, rfl⟩
    · exact ⟨rfl, rfl⟩
    · exact ⟨rfl, rfl⟩
    · exact ⟨rfl, rfl⟩
    · exact ⟨rfl, rfl⟩
    · cases h
  · cases h

theorem guard_other {op : BinOp} (h1 : op ≠ .eql) (h2 : op ≠ .neq) (t : TypeId) (x y : Operand) (a b : Value) : (eqGuard op t x y a b).run P w = .ok () w := by
  cases op <;> first | exact absurd rfl h1 | exact absurd rfl h2 | rfl

/-- '==' and '!=', with what is asked ahead of them. -/
theorem sim_eqOp (hT : TyOK P T) {ok : Nat → Prop} {op : BinOp} {t : TypeId} {x y v : AV} (h : aeqOp T op t x y = some v) {vx vy : Value} (hx : VR ok w.heap m x vx) (hy : VR ok w.heap m y vy)
    (hn : (∃ k n l n', x = .int k n ∧ y = .int l n') → False) (hs : (∃ a b, x = .str a ∧ y = .str b) → False) (ox oy : Operand) :
    ∃ cv, (do eqGuard op t ox oy vx vy; binOp op t vx vy : Sem Value).run P w = .ok cv w ∧ VR ok w.heap m v cv := by
  have core : ∀ b, aeq T DEQ t x y = some b → (eqGuard op t ox oy vx vy).run P w = .ok () w ∧ (binOp .eql t vx vy).run P w = .ok (.bool b) w ∧ (binOp .neq t vx vy).run P w = .ok (.bool !b) w := by
    intro b hb
    have he : (Op.equal t vx vy).run P w = .ok b w := sim_aeq hT DEQ hb hx hy _ (by decide)
    have nd : x ≠ .dead ∧ y ≠ .dead ∧ (vx = .nilIface → vy = .nilIface → False) ∧ (∀ xs ys, vx = .agg xs → vy = .agg ys → P.eqGuardType P.depth t = false) ∧ (∀ k a b, x ≠ .rng k a b) ∧ (∀ k a b, y ≠ .rng k a b) := by
      have hb' := hb
      rw [show DEQ = 9 + 1 from rfl, aeq] at hb'
      split at hb'
      · rename_i ti hti
        obtain ⟨j, dsc, h1, h2, _, _, _, _, h3, h4⟩ := hT t ti hti
        split at hb'
        · rename_i fields xs ys hk
          cases hc : ti.cmp with
          | false => simp [hc] at hb'
          | true =>
            obtain ⟨va, rfl, _⟩ := hx.agg_inv
            exact ⟨nofun, nofun, nofun, fun _ _ _ _ => (h4 hc).1, nofun, nofun⟩
        · obtain ⟨q1, q2⟩ := eqOne_simple hb'
          refine ⟨?_, ?_, ?_, ?_, ?_, ?_⟩
          · rintro rfl; simp [simpleV] at q1
          · rintro rfl; simp [simpleV] at q2
          · rintro rfl rfl
            cases hx <;> simp [simpleV] at q1
          · rintro xs ys rfl rfl
            cases hx <;> simp [simpleV] at q1
          · rintro k a b rfl; simp [simpleV] at q1
          · rintro k a b rfl; simp [simpleV] at q2
      · cases hb'
    obtain ⟨n1, n2, n3, n4, n5, n6⟩ := nd
    have hb2 := run_eqBoth (P := P) he (fun ⟨k, n, l, n', e1, e2⟩ => by
        subst e1; subst e2
        cases hx <;> first | exact n1 rfl | exact (n5 _ _ _ rfl) | skip
        cases hy <;> first | exact n2 rfl | exact (n6 _ _ _ rfl) | exact hn ⟨_, _, _, _, rfl, rfl⟩)
      (fun ⟨a, b, e1, e2⟩ => by
        subst e1; subst e2
        cases hx <;> first | exact n1 rfl | exact (n5 _ _ _ rfl) | skip
        cases hy <;> first | exact n2 rfl | exact (n6 _ _ _ rfl) | exact hs ⟨_, _, rfl, rfl⟩) (hx.noFloat n1).1 (hx.noFloat n1).2
    refine ⟨?_, hb2⟩
    unfold eqGuard
    cases vx <;> cases vy <;> first
      | exact (n3 rfl rfl).elim
      | (cases op <;> simp [n4 _ _ rfl rfl]; done)
      | (cases op <;> simp; done)
  unfold aeqOp at h
  split at h
  · unfold yesO at h
    split at h
    · rename_i b hb
      cases h
      obtain ⟨g1, g2, _⟩ := core b hb
      exact ⟨_, by simp only [Sem.run_bind, g1, Result.andThen_ok]; exact g2, .bool _⟩
    · cases h
  · unfold notO at h
    split at h
    · rename_i b hb
      cases h
      obtain ⟨g1, _, g2⟩ := core b hb
      exact ⟨_, by simp only [Sem.run_bind, g1, Result.andThen_ok]; exact g2, .bool _⟩
    · cases h
  · cases h

theorem arng_aint {op : BinOp} {k : IntKind} {lo hi a b : Int} {v : AV} (h : arng op lo hi b = some v) (h1 : lo ≤ a) (h2 : a ≤ hi) : aint op k a b = some v ∧ op ≠ .shl ∧ op ≠ .shr := by
  cases op <;> simp only [arng] at h <;> try (cases h; done)
  all_goals
    refine ⟨?_, nofun, nofun⟩
    simp only [aint]
    split at h
    · cases h
      congr 2
      simp
      try omega
    · split at h
      · cases h
        congr 2
        simp
        try omega
      · cases h

theorem sim_bin (hT : TyOK P T) {ok : Nat → Prop} {op : BinOp} {t : TypeId} {x y v : AV} (h : abin T op t x y = some v) {vx vy : Value} (hx : VR ok w.heap m x vx) (hy : VR ok w.heap m y vy) (ox oy : Operand) :
    ∃ cv, (do eqGuard op t ox oy vx vy; binOp op t vx vy : Sem Value).run P w = .ok cv w ∧ VR ok w.heap m v cv := by
  unfold abin at h
  split at h
  · rename_i k lo hi k' b
    rw [hy.int_inv]
    cases hx with
    | rng _ _ _ a h1 h2 =>
    split at h
    · rename_i hk
      subst hk
      have g : (eqGuard op t ox oy (.int k a) (.int k b)).run P w = .ok () w := by unfold eqGuard; cases op <;> simp
      obtain ⟨e, n1, n2⟩ := arng_aint (k := k) h h1 h2
      obtain ⟨cv, g1, g2⟩ := sim_aint (P := P) (w := w) (ok := ok) (m := m) e n1 n2 t
      exact ⟨cv, by simp only [Sem.run_bind, g, Result.andThen_ok]; exact g1, g2⟩
    · cases h
  · rename_i k a k' b
    rw [hx.int_inv, hy.int_inv]
    have g : (eqGuard op t ox oy (.int k a) (.int k' b)).run P w = .ok () w := by unfold eqGuard; cases op <;> simp
    split at h
    · obtain ⟨cv, h1, h2⟩ := sim_ashift (P := P) (w := w) (ok := ok) (m := m) (k' := k') h (.inl rfl) t
      exact ⟨cv, by simp only [Sem.run_bind, g, Result.andThen_ok]; exact h1, h2⟩
    · obtain ⟨cv, h1, h2⟩ := sim_ashift (P := P) (w := w) (ok := ok) (m := m) (k' := k') h (.inr rfl) t
      exact ⟨cv, by simp only [Sem.run_bind, g, Result.andThen_ok]; exact h1, h2⟩
    · rename_i n1 n2
      split at h
      · rename_i hk
        subst hk
        obtain ⟨cv, h1, h2⟩ := sim_aint (P := P) (w := w) (ok := ok) (m := m) h n1 n2 t
        exact ⟨cv, by simp only [Sem.run_bind, g, Result.andThen_ok]; exact h1, h2⟩
      · cases h
  · rename_i a b
    obtain ⟨s1, rfl, h1⟩ := hx.str_inv
    obtain ⟨s2, rfl, h2⟩ := hy.str_inv
    have g : (eqGuard op t ox oy (.string s1) (.string s2)).run P w = .ok () w := by unfold eqGuard; cases op <;> simp
    obtain ⟨cv, g1, g2⟩ := sim_astr (P := P) (w := w) (ok := ok) (m := m) h h1 h2
    refine ⟨cv, ?_, g2⟩
    simp only [Sem.run_bind, g, Result.andThen_ok]
    cases op <;> exact g1
  · rename_i n1 n2
    exact sim_eqOp hT h hx hy (fun ⟨k, n, l, n', e1, e2⟩ => n1 k n l n' e1 e2) (fun ⟨a, b, e1, e2⟩ => n2 a b e1 e2) ox oy

end
end Go.Proofs.Ytjihnbjdclobgaa.VS
