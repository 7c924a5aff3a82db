/- One operation that calls no function: what it leaves, on both sides. Conditions: none. -/
import Derived.Test.YtopkeglpafdlfaaGreatVS13
namespace Go.Proofs.YtopkeglpafdlfaaGreat.VS
variable [Syms]

section
variable {P : Program} {T : Tabs} {c : Ctx} {m : Map} {H : Heap} {F : List Nat} {w : World}

/-- An operation's answer: a value, or none. -/
def OpEnds (P : Program) (a : Act) (o : Oper) (w : World) (R : Value → World → Prop) : Prop :=
  (∃ cv w', (execOp a.eval o).run P w = .ok (.value cv) w' ∧ R cv w') ∨ ∃ w', (execOp a.eval o).run P w = .ok .skip w' ∧ R undef w'

omit [Syms] in
theorem run_value {s : Sem Value} {v : Value} {w' : World} (h : s.run P w = .ok v w') : (do pure (Next.value (← s)) : Sem Next).run P w = .ok (.value v) w' := by
  simp [h]

omit [Syms] in
theorem run_unit {s : Sem Unit} {w' : World} (h : s.run P w = .ok () w') : (do s; pure Next.skip : Sem Next).run P w = .ok .skip w' := by
  simp [h]

theorem sim_len (hT : TyOK P T) (hs : SR c m H F w) {t : TypeId} {x v : AV} (h : alen T t H x = some v) {vx : Value} (hx : VR (okB c.X m H F) w.heap m x vx) {ts : Array TypeId} (ht : ts[0]? = some t) (ty : TypeId) :
    ∃ cv, (Builtin.len_ ts ty #[vx]).run P w = .ok cv w ∧ VR (okB c.X m H F) w.heap m v cv := by
  unfold alen at h
  split at h
  · rename_i s hk
    cases h
    obtain ⟨bs, rfl, hbs⟩ := hx.str_inv
    have : bs.size = s.length := by rw [← hbs]; exact Array.length_toList.symm
    exact ⟨_, by simp [Builtin.len_, ht, run_underlying (kind_str hT hk), goInt, this], .int _ _⟩
  · rename_i hk
    cases h; cases hx
    exact ⟨_, by simp [Builtin.len_, ht, run_underlying (kind_slice hT hk), goInt], .int _ _⟩
  · rename_i hk
    cases h; cases hx
    exact ⟨_, by simp [Builtin.len_, ht, run_underlying (kind_slice hT hk), goInt], .int _ _⟩
  · rename_i hk
    cases h; cases hx
    exact ⟨_, by simp [Builtin.len_, ht, run_underlying (kind_slice hT hk), goInt], .int _ _⟩
  · rename_i xs hk
    cases h
    obtain ⟨a, cp, rfl, _⟩ := hx.sl_any
    exact ⟨_, by simp [Builtin.len_, ht, run_underlying (kind_slice hT hk), goInt], .int _ _⟩
  · rename_i s b lo len hk
    cases h
    obtain ⟨a, cp, rfl, _⟩ := hx.osl_any
    exact ⟨_, by simp [Builtin.len_, ht, run_underlying (kind_slice hT hk), goInt], .int _ _⟩
  · rename_i gt b n hk
    cases h
    obtain ⟨a, cp, rfl⟩ := hx.gs_any
    exact ⟨_, by simp [Builtin.len_, ht, run_underlying (kind_slice hT hk), goInt], .int _ _⟩
  · rename_i gt xs hk
    cases h
    obtain ⟨a, cp, rfl, _⟩ := (VR.tl_iff.1 hx).sl_any
    exact ⟨_, by simp [Builtin.len_, ht, run_underlying (kind_slice hT hk), goInt, encs_length], .int _ _⟩
  · rename_i k e hk
    split at h
    · rename_i es hes
      cases h
      rcases mapOf_some hs hes hx with ⟨rfl, rfl⟩ | ⟨r, ents, cl, rfl, h1, h2, h3⟩
      · exact ⟨_, by simp [Builtin.len_, ht, run_underlying (kind_map hT hk), goInt], .int _ _⟩
      · exact ⟨_, by simp [Builtin.len_, ht, run_underlying (kind_map hT hk), goInt, MapKept.run_getObj_map h1, h2], .int _ _⟩
    · cases h
  · rename_i n e _ hk
    cases h
    exact ⟨_, by simp [Builtin.len_, ht, run_underlying (kind_array hT hk), goInt], .int _ _⟩
  · cases h

theorem sim_cap (hT : TyOK P T) {t : TypeId} {x v : AV} (h : acap T t x = some v) {ok : Nat → Prop} {vx : Value} (hx : VR ok w.heap m x vx) {ts : Array TypeId} (ht : ts[0]? = some t) (ty : TypeId) :
    ∃ cv, (Builtin.cap_ ts ty #[vx]).run P w = .ok cv w ∧ VR ok w.heap m v cv := by
  unfold acap at h
  split at h
  · rename_i hk
    cases h; cases hx
    exact ⟨_, by simp [Builtin.cap_, ht, run_underlying (kind_slice hT hk), goInt], .int _ _⟩
  · rename_i hk
    cases h; cases hx
    exact ⟨_, by simp [Builtin.cap_, ht, run_underlying (kind_slice hT hk), goInt], .int _ _⟩
  · cases h

theorem sim_max {ok : Nat → Prop} {k : IntKind} : ∀ (xs : List AV) (vs : List Value) (n r : Int), amax n xs = some r → vs.length = xs.length → (∀ (j : Nat) (x : AV) (v : Value), xs[j]? = some x → vs[j]? = some v → VR ok w.heap m x v) →
    (vs.foldlM Builtin.max2 (.int k n)).run P w = .ok (.int k r) w
  | [], vs, n, r, h, hl, _ => by
    have : vs = [] := List.length_eq_zero_iff.1 (by simpa using hl)
    subst this
    simp [amax] at h; subst h; rfl
  | x :: xs, [], _, _, _, hl, _ => by simp at hl
  | x :: xs, v :: vs, n, r, h, hl, hv => by
    have h0 := hv 0 x v rfl rfl
    cases x <;> simp only [amax] at h <;> try (cases h; done)
    rename_i k' b
    rw [h0.int_inv]
    simp only [List.foldlM_cons, Sem.run_bind, Builtin.max2, Sem.run_pure, Result.andThen_ok]
    exact sim_max xs vs _ r h (by simpa using hl) (fun j x v hx hv' => hv (j + 1) x v hx hv')

theorem sim_min {ok : Nat → Prop} {k : IntKind} : ∀ (xs : List AV) (vs : List Value) (n r : Int), amin n xs = some r → vs.length = xs.length → (∀ (j : Nat) (x : AV) (v : Value), xs[j]? = some x → vs[j]? = some v → VR ok w.heap m x v) →
    (vs.foldlM Builtin.min2 (.int k n)).run P w = .ok (.int k r) w
  | [], vs, n, r, h, hl, _ => by
    have : vs = [] := List.length_eq_zero_iff.1 (by simpa using hl)
    subst this
    simp [amin] at h; subst h; rfl
  | x :: xs, [], _, _, _, hl, _ => by simp at hl
  | x :: xs, v :: vs, n, r, h, hl, hv => by
    have h0 := hv 0 x v rfl rfl
    cases x <;> simp only [amin] at h <;> try (cases h; done)
    rename_i k' b
    rw [h0.int_inv]
    simp only [List.foldlM_cons, Sem.run_bind, Builtin.min2, Sem.run_pure, Result.andThen_ok]
    exact sim_min xs vs _ r h (by simpa using hl) (fun j x v hx hv' => hv (j + 1) x v hx hv')

theorem sim_unary {ok : Nat → Prop} {op : UnOp} {x v : AV} (h : aun op x = some v) {vx : Value} (hx : VR ok w.heap m x vx) : ∃ cv, (Op.unary op vx).run P w = .ok cv w ∧ VR ok w.heap m v cv := by
  unfold aun at h
  split at h
  · cases h; rw [hx.int_inv]; exact ⟨_, rfl, .int _ _⟩
  · cases h; cases hx; exact ⟨_, rfl, .bool _⟩
  · simp only [aint, intv] at h
    cases h; rw [hx.int_inv]; exact ⟨_, rfl, .int _ _⟩
  · cases h

def simpleV : AV → Bool
  | .bool _ | .int _ _ | .str _ | .nilp | .ptr _ _ | .nils | .sl _ | .osl _ _ _ _ | .nev | .rng _ _ _ _ | .ustr _ _ => true
  | _ => false

def isIntV : AV → Bool
  | .int _ _ | .rng _ _ _ _ | .lin _ _ _ _ _ => true
  | _ => false

def isStrV : AV → Bool
  | .str _ | .ustr _ _ => true
  | _ => false

omit [Syms] in
theorem eqOne_simple {k : TK} {x y : AV} {b : Bool} (h : eqOne k x y = some b) : simpleV x = true ∧ simpleV y = true := by
  unfold eqOne at h
  split at h
  · exact ⟨rfl, rfl⟩
  · exact ⟨rfl, rfl⟩
  · exact ⟨rfl, rfl⟩
  · exact ⟨rfl, rfl⟩
  · exact ⟨rfl, rfl⟩
  · exact ⟨rfl, rfl⟩
  · exact ⟨rfl, rfl⟩
  · exact ⟨rfl, rfl⟩
  · exact ⟨rfl, rfl⟩
  · unfold eqPtr at h
    split at h
    · exact ⟨rfl, rfl⟩
    · exact ⟨rfl, rfl⟩
    · exact ⟨rfl, rfl⟩
    · cases h
  · unfold eqSl at h
    split at h
    · exact ⟨rfl, rfl⟩
    · exact ⟨rfl, rfl⟩
    · exact ⟨rfl, rfl⟩
    · exact ⟨rfl, rfl⟩
    · exact ⟨rfl, rfl⟩
    · exact ⟨rfl, rfl⟩
    · exact ⟨rfl, rfl⟩
    · cases h
  · cases h

omit [Syms] in
theorem guard_other {op : BinOp} (h1 : op ≠ .eql) (h2 : op ≠ .neq) (t : TypeId) (x y : Operand) (a b : Value) : (eqGuard op t x y a b).run P w = .ok () w := by
  cases op <;> first | exact absurd rfl h1 | exact absurd rfl h2 | rfl

/-- '==' and '!=', with what is asked ahead of them. -/
theorem sim_eqOp (hT : TyOK P T) {ok : Nat → Prop} {op : BinOp} {t : TypeId} {x y v : AV} (h : aeqOp T op t x y = some v) {vx vy : Value} (hx : VR ok w.heap m x vx) (hy : VR ok w.heap m y vy)
    (hn : isIntV x = true → isIntV y = true → False) (hs : isStrV x = true → isStrV y = true → False) (ox oy : Operand) :
    ∃ cv, (do eqGuard op t ox oy vx vy; binOp op t vx vy : Sem Value).run P w = .ok cv w ∧ VR ok w.heap m v cv := by
  have core : ∀ b, aeq T DEQ t x y = some b → (eqGuard op t ox oy vx vy).run P w = .ok () w ∧ (binOp .eql t vx vy).run P w = .ok (.bool b) w ∧ (binOp .neq t vx vy).run P w = .ok (.bool !b) w := by
    intro b hb
    have he : (Op.equal t vx vy).run P w = .ok b w := sim_aeq hT DEQ hb hx hy _ (by decide)
    have nd : x ≠ .dead ∧ y ≠ .dead ∧ (vx = .nilIface → vy = .nilIface → False) ∧ (∀ xs ys, vx = .agg xs → vy = .agg ys → P.eqGuardType P.depth t = false) := by
      have hb' := hb
      rw [show DEQ = 9 + 1 from rfl, aeq] at hb'
      split at hb'
      · rename_i ti hti
        obtain ⟨j, dsc, h1, h2, _, _, _, _, h3, h4⟩ := hT t ti hti
        split at hb'
        · rename_i fields xs ys hk
          cases hc : ti.cmp with
          | false => simp [hc] at hb'
          | true =>
            obtain ⟨va, rfl, _⟩ := hx.agg_inv
            exact ⟨nofun, nofun, nofun, fun _ _ _ _ => (h4 hc).1⟩
        · obtain ⟨q1, q2⟩ := eqOne_simple hb'
          refine ⟨?_, ?_, ?_, ?_⟩
          · rintro rfl; simp [simpleV] at q1
          · rintro rfl; simp [simpleV] at q2
          · rintro rfl rfl
            cases hx <;> simp [simpleV] at q1
          · rintro xs ys rfl rfl
            cases hx <;> simp [simpleV] at q1
      · cases hb'
    obtain ⟨n1, n2, n3, n4⟩ := nd
    have hb2 := run_eqBoth (P := P) he (fun ⟨k, n, l, n', e1, e2⟩ => by
        subst e1; subst e2
        refine hn ?_ ?_
        · cases hx <;> first | exact absurd rfl n1 | rfl | (rename_i q; generalize encs _ _ = l at q; cases q)
        · cases hy <;> first | exact absurd rfl n2 | rfl | (rename_i q; generalize encs _ _ = l at q; cases q))
      (fun ⟨a, b, e1, e2⟩ => by
        subst e1; subst e2
        refine hs ?_ ?_
        · cases hx <;> first | exact absurd rfl n1 | rfl | (rename_i q; generalize encs _ _ = l at q; cases q)
        · cases hy <;> first | exact absurd rfl n2 | rfl | (rename_i q; generalize encs _ _ = l at q; cases q)) (hx.noFloat n1).1 (hx.noFloat n1).2
    refine ⟨?_, hb2⟩
    unfold eqGuard
    cases vx <;> cases vy <;> first
      | exact (n3 rfl rfl).elim
      | (cases op <;> simp [n4 _ _ rfl rfl]; done)
      | (cases op <;> simp; done)
  unfold aeqOp at h
  split at h
  · unfold yesO at h
    split at h
    · rename_i b hb
      cases h
      obtain ⟨g1, g2, _⟩ := core b hb
      exact ⟨_, by simp only [Sem.run_bind, g1, Result.andThen_ok]; exact g2, .bool _⟩
    · cases h
  · unfold notO at h
    split at h
    · rename_i b hb
      cases h
      obtain ⟨g1, _, g2⟩ := core b hb
      exact ⟨_, by simp only [Sem.run_bind, g1, Result.andThen_ok]; exact g2, .bool _⟩
    · cases h
  · cases h

omit [Syms] in
theorem arng_aint {op : BinOp} {k : IntKind} {lo hi a b : Int} {v : AV} (h : arng op lo hi b = some v) (h1 : lo ≤ a) (h2 : a ≤ hi) : aint op k a b = some v ∧ op ≠ .shl ∧ op ≠ .shr := by
  cases op <;> simp only [arng] at h <;> try (cases h; done)
  all_goals
    refine ⟨?_, nofun, nofun⟩
    simp only [aint]
    split at h
    · cases h
      congr 2
      simp
      try omega
    · split at h
      · cases h
        congr 2
        simp
        try omega
      · cases h

omit [Syms] in
theorem aint_flip {op : BinOp} {k : IntKind} {a b : Int} {v : AV} (h : aint (flipOp op) k a b = some v) (hc : ∃ t, v = .bool t) : aint op k b a = some v := by
  obtain ⟨t, rfl⟩ := hc
  cases op <;> simp only [flipOp, aint, intv] at h ⊢ <;> first
    | (cases h; done)
    | exact h
    | (rw [← h, show (a == b) = (b == a) from BEq.comm])
    | (rw [← h, show (a != b) = (b != a) by unfold bne; rw [show (a == b) = (b == a) from BEq.comm]])

omit [Syms] in
theorem arng_bool {op : BinOp} {lo hi b : Int} {v : AV} (h : arng op lo hi b = some v) : ∃ t, v = .bool t := by
  cases op <;> simp only [arng] at h <;> try (cases h; done)
  all_goals
    split at h
    · cases h; exact ⟨_, rfl⟩
    · split at h
      · cases h; exact ⟨_, rfl⟩
      · cases h

omit [Syms] in
theorem asame_aint {op : BinOp} {k : IntKind} {a : Int} {v : AV} (h : asame op = some v) : aint op k a a = some v ∧ op ≠ .shl ∧ op ≠ .shr := by
  cases op <;> simp only [asame] at h <;> first | (cases h; done) | skip
  all_goals
    cases h
    refine ⟨?_, nofun, nofun⟩
    simp [aint]

omit [Syms] in
theorem aeqs_astr {op : BinOp} {r : Option Bool} {x y : List UInt8} {v : AV} (h : aeqs op r = some v) (hr : ∀ t, r = some t → (x == y) = t) : astr op x y = some v := by
  unfold aeqs at h
  split at h
  · unfold yesO at h
    split at h
    · cases h; rename_i b; simp only [astr]; rw [hr b rfl]
    · cases h
  · unfold notO at h
    split at h
    · cases h; rename_i b; simp only [astr]; rw [hr b rfl]
    · cases h
  · cases h

theorem sim_strOp {ok : Nat → Prop} {op : BinOp} {t : TypeId} {a b : List UInt8} {v : AV} (h : astr op a b = some v) {s1 s2 : ByteArray} (h1 : s1.data.toList = a) (h2 : s2.data.toList = b) (ox oy : Operand) :
    ∃ cv, (do eqGuard op t ox oy (.string s1) (.string s2); binOp op t (.string s1) (.string s2) : Sem Value).run P w = .ok cv w ∧ VR ok w.heap m v cv := by
  have g : (eqGuard op t ox oy (.string s1) (.string s2)).run P w = .ok () w := by unfold eqGuard; cases op <;> simp
  obtain ⟨cv, g1, g2⟩ := sim_astr (P := P) (w := w) (ok := ok) (m := m) h h1 h2
  refine ⟨cv, ?_, g2⟩
  simp only [Sem.run_bind, g, Result.andThen_ok]
  cases op <;> exact g1

theorem sim_intOp {ok : Nat → Prop} {op : BinOp} {t : TypeId} {k : IntKind} {a b : Int} {v : AV} (h : aint op k a b = some v) (n1 : op ≠ .shl) (n2 : op ≠ .shr) (ox oy : Operand) :
    ∃ cv, (do eqGuard op t ox oy (.int k a) (.int k b); binOp op t (.int k a) (.int k b) : Sem Value).run P w = .ok cv w ∧ VR ok w.heap m v cv := by
  have g : (eqGuard op t ox oy (.int k a) (.int k b)).run P w = .ok () w := by unfold eqGuard; cases op <;> simp
  obtain ⟨cv, g1, g2⟩ := sim_aint (P := P) (w := w) (ok := ok) (m := m) h n1 n2 t
  exact ⟨cv, by simp only [Sem.run_bind, g, Result.andThen_ok]; exact g1, g2⟩

omit [Syms] in
theorem flip_ne {op : BinOp} {lo hi b : Int} {v : AV} (h : arng (flipOp op) lo hi b = some v) : op ≠ .shl ∧ op ≠ .shr := by
  constructor <;> rintro rfl <;> simp [flipOp, arng] at h

omit [Syms] in
theorem wrap_in {n : Int} (h1 : -9223372036854775808 ≤ n) (h2 : n ≤ 9223372036854775807) : IntKind.i64.wrap n = n := by
  have key : IntKind.i64.wrap n = if (true && decide (n % 18446744073709551616 ≥ 9223372036854775808)) = true then n % 18446744073709551616 - 18446744073709551616 else n % 18446744073709551616 := rfl
  rw [key]
  by_cases h : n % 18446744073709551616 ≥ 9223372036854775808
  · rw [if_pos (by simpa using h)]; omega
  · rw [if_neg (by simpa using h)]; omega

omit [Syms] in
theorem lin_range {a c lo hi s : Int} (h1 : lo ≤ s) (h2 : s ≤ hi) : linLo a c lo hi ≤ a * s + c ∧ a * s + c ≤ linHi a c lo hi := by
  unfold linLo linHi
  by_cases ha : 0 ≤ a
  · rw [if_pos ha, if_pos ha]
    have := Int.mul_le_mul_of_nonneg_left h1 ha
    have := Int.mul_le_mul_of_nonneg_left h2 ha
    omega
  · rw [if_neg ha, if_neg ha]
    have ha' : a ≤ 0 := by omega
    have := Int.mul_le_mul_of_nonpos_left ha' h1
    have := Int.mul_le_mul_of_nonpos_left ha' h2
    omega

/-- What a number of that kind stands for. -/
def Stands (v v' : AV) : Prop := ∀ (ok : Nat → Prop) (h : Array Obj) (m : Map) (cv : Value), VR ok h m v' cv → VR ok h m v cv

omit [Syms] in
theorem intv_in {n : Int} (h1 : -9223372036854775808 ≤ n) (h2 : n ≤ 9223372036854775807) : intv .i64 n = some (.int .i64 n) := by
  unfold intv; rw [wrap_in h1 h2]

theorem mkLin_ok {i : Nat} {a c lo hi : Int} {v : AV} (h : mkLin i a c lo hi = some v) (h1 : lo ≤ Syms.int i) (h2 : Syms.int i ≤ hi) {n : Int} (hn : n = a * Syms.int i + c) : intv .i64 n = some (.int .i64 n) ∧ Stands v (.int .i64 n) := by
  unfold mkLin at h
  obtain ⟨r1, r2⟩ := lin_range (a := a) (c := c) h1 h2
  split at h
  · split at h
    · refine ⟨intv_in (by omega) (by omega), fun ok hp m cv hv => ?_⟩
      rw [hv.int_inv]
      split at h
      · rename_i ha
        cases h
        subst ha
        rw [hn, Int.zero_mul, Int.zero_add]
        exact .int _ _
      · cases h
        exact .lin _ _ _ _ _ _ hn h1 h2
    · cases h
  · cases h

theorem stands_self (v : AV) : Stands v v := fun _ _ _ _ h => h

omit [Syms] in
theorem linDiv_ok {a c lo b s : Int} (h : linDiv a c lo b = true) (h1 : lo ≤ s) : 0 < b ∧ (a * s + c).tdiv b = a / b * s + c / b ∧ (a * s + c).tmod b = c % b := by
  unfold linDiv at h
  simp only [Bool.and_eq_true, decide_eq_true_eq] at h
  obtain ⟨hb, hlo, hc, ha, hm⟩ := h
  have hs : 0 ≤ s := by omega
  obtain ⟨q, rfl⟩ : ∃ q, a = b * q := ⟨a / b, by have := Int.emod_add_mul_ediv a b; rw [hm] at this; omega⟩
  have hpos : 0 ≤ b * q * s + c := by have := Int.mul_nonneg ha hs; omega
  refine ⟨hb, ?_, ?_⟩
  · rw [Int.tdiv_eq_ediv_of_nonneg hpos, Int.mul_ediv_cancel_left _ (by omega), Int.mul_assoc, Int.add_comm, Int.add_mul_ediv_left _ _ (by omega), Int.add_comm]
  · rw [Int.tmod_eq_emod_of_nonneg hpos, Int.mul_assoc, Int.add_comm, Int.add_mul_emod_self_left]

omit [Syms] in
theorem arng_cmp {op : BinOp} {lo hi b : Int} {v : AV} (h : arng op lo hi b = some v) : op ≠ .add ∧ op ≠ .sub ∧ op ≠ .quo ∧ op ≠ .rem := by
  refine ⟨?_, ?_, ?_, ?_⟩ <;> rintro rfl <;> simp [arng] at h

theorem alinI_ok {op : BinOp} {i : Nat} {a c lo hi b : Int} {v : AV} (h : alinI op i a c lo hi b = some v) (h1 : lo ≤ Syms.int i) (h2 : Syms.int i ≤ hi) {n : Int} (hn : n = a * Syms.int i + c) :
    ∃ v', aint op .i64 n b = some v' ∧ op ≠ .shl ∧ op ≠ .shr ∧ Stands v v' := by
  obtain ⟨r1, r2⟩ := lin_range (a := a) (c := c) h1 h2
  unfold alinI at h
  split at h
  · obtain ⟨g1, g2⟩ := mkLin_ok h h1 h2 (n := n + b) (by omega)
    exact ⟨_, g1, nofun, nofun, g2⟩
  · obtain ⟨g1, g2⟩ := mkLin_ok h h1 h2 (n := n - b) (by omega)
    exact ⟨_, g1, nofun, nofun, g2⟩
  · cases hd : linDiv a c lo b with
    | false => rw [hd, cond_false] at h; cases h
    | true =>
      rw [hd, cond_true] at h
      obtain ⟨k1, k2, k3⟩ := linDiv_ok hd h1
      obtain ⟨g1, g2⟩ := mkLin_ok h h1 h2 (n := n.tdiv b) (by rw [hn, k2])
      exact ⟨_, by simp only [aint]; rw [if_neg (by omega)]; exact g1, nofun, nofun, g2⟩
  · cases hd : linDiv a c lo b with
    | false => rw [hd, cond_false] at h; cases h
    | true =>
      rw [hd, cond_true] at h
      cases h
      obtain ⟨k1, k2, k3⟩ := linDiv_ok hd h1
      exact ⟨_, by simp only [aint]; rw [if_neg (by omega), hn, k3], nofun, nofun, stands_self _⟩
  · obtain ⟨e, n1, n2⟩ := arng_aint (k := .i64) (a := n) h (by omega) (by omega)
    exact ⟨v, e, n1, n2, stands_self _⟩

theorem aIlin_ok {op : BinOp} {i : Nat} {a c lo hi b : Int} {v : AV} (h : aIlin op b i a c lo hi = some v) (h1 : lo ≤ Syms.int i) (h2 : Syms.int i ≤ hi) {n : Int} (hn : n = a * Syms.int i + c) :
    ∃ v', aint op .i64 b n = some v' ∧ op ≠ .shl ∧ op ≠ .shr ∧ Stands v v' := by
  obtain ⟨r1, r2⟩ := lin_range (a := a) (c := c) h1 h2
  unfold aIlin at h
  split at h
  · obtain ⟨g1, g2⟩ := mkLin_ok h h1 h2 (n := b + n) (by omega)
    exact ⟨_, g1, nofun, nofun, g2⟩
  · obtain ⟨g1, g2⟩ := mkLin_ok h h1 h2 (n := b - n) (by rw [Int.neg_mul]; omega)
    exact ⟨_, g1, nofun, nofun, g2⟩
  · obtain ⟨e, _, _⟩ := arng_aint (k := .i64) (a := n) h (by omega) (by omega)
    obtain ⟨n1, n2⟩ := flip_ne h
    obtain ⟨t, rfl⟩ := arng_bool h
    exact ⟨_, aint_flip e ⟨_, rfl⟩, n1, n2, stands_self _⟩

theorem alinL_ok {op : BinOp} {i : Nat} {a c a' c' lo hi : Int} {v : AV} (h : alinL op i a c a' c' lo hi = some v) (h1 : lo ≤ Syms.int i) (h2 : Syms.int i ≤ hi) {n n' : Int} (hn : n = a * Syms.int i + c) (hn' : n' = a' * Syms.int i + c') :
    ∃ v', aint op .i64 n n' = some v' ∧ op ≠ .shl ∧ op ≠ .shr ∧ Stands v v' := by
  unfold alinL at h
  split at h
  · obtain ⟨g1, g2⟩ := mkLin_ok h h1 h2 (n := n + n') (by rw [Int.add_mul]; omega)
    exact ⟨_, g1, nofun, nofun, g2⟩
  · obtain ⟨g1, g2⟩ := mkLin_ok h h1 h2 (n := n - n') (by rw [Int.sub_mul]; omega)
    exact ⟨_, g1, nofun, nofun, g2⟩
  · obtain ⟨r1, r2⟩ := lin_range (a := a - a') (c := c - c') h1 h2
    have hd : n - n' = (a - a') * Syms.int i + (c - c') := by rw [Int.sub_mul]; omega
    obtain ⟨e, n1, n2⟩ := arng_aint (k := .i64) (a := n - n') h (by omega) (by omega)
    obtain ⟨t, rfl⟩ := arng_bool h
    refine ⟨_, ?_, n1, n2, stands_self _⟩
    cases op <;> simp only [aint] at e ⊢ <;> first
      | (exact (n1 rfl).elim)
      | (exact (n2 rfl).elim)
      | (simp [arng] at h; done)
      | skip
    all_goals
      rw [← e]
      congr 2
      rw [Bool.eq_iff_iff]
      simp
      try omega

theorem sim_bin (hT : TyOK P T) {ok : Nat → Prop} {op : BinOp} {t : TypeId} {x y v : AV} (h : abin T op t x y = some v) {vx vy : Value} (hx : VR ok w.heap m x vx) (hy : VR ok w.heap m y vy) (ox oy : Operand) :
    ∃ cv, (do eqGuard op t ox oy vx vy; binOp op t vx vy : Sem Value).run P w = .ok cv w ∧ VR ok w.heap m v cv := by
  unfold abin at h
  split at h
  · rename_i i a c lo hi k b
    rw [hy.int_inv]
    cases hx with
    | lin _ _ _ _ _ n e0 e1 e2 =>
    split at h
    · rename_i hk
      subst hk
      obtain ⟨v', q1, q2, q3, q4⟩ := alinI_ok h e1 e2 e0
      obtain ⟨cv, g1, g2⟩ := sim_intOp (P := P) (w := w) (ok := ok) (m := m) (t := t) q1 q2 q3 ox oy
      exact ⟨cv, g1, q4 _ _ _ _ g2⟩
    · cases h
  · rename_i k b i a c lo hi
    rw [hx.int_inv]
    cases hy with
    | lin _ _ _ _ _ n e0 e1 e2 =>
    split at h
    · rename_i hk
      subst hk
      obtain ⟨v', q1, q2, q3, q4⟩ := aIlin_ok h e1 e2 e0
      obtain ⟨cv, g1, g2⟩ := sim_intOp (P := P) (w := w) (ok := ok) (m := m) (t := t) q1 q2 q3 ox oy
      exact ⟨cv, g1, q4 _ _ _ _ g2⟩
    · cases h
  · rename_i i a c lo hi j a' c' lo' hi'
    cases hij : Nat.beq i j with
    | false => rw [hij, cond_false] at h; cases h
    | true =>
      rw [hij, cond_true] at h
      have hij := Nat.eq_of_beq_eq_true hij
      subst hij
      cases hx with
      | lin _ _ _ _ _ n e0 e1 e2 =>
      cases hy with
      | lin _ _ _ _ _ n' e0' _ _ =>
      obtain ⟨v', q1, q2, q3, q4⟩ := alinL_ok h e1 e2 e0 e0'
      obtain ⟨cv, g1, g2⟩ := sim_intOp (P := P) (w := w) (ok := ok) (m := m) (t := t) q1 q2 q3 ox oy
      exact ⟨cv, g1, q4 _ _ _ _ g2⟩
  · cases h
  · cases h
  · rename_i i k lo hi k' b
    rw [hy.int_inv]
    cases hx with
    | rng _ _ _ _ a h0 h1 h2 =>
    split at h
    · rename_i hk
      subst hk
      obtain ⟨e, n1, n2⟩ := arng_aint (k := k) h h1 h2
      exact sim_intOp e n1 n2 ox oy
    · cases h
  · rename_i k b i k' lo hi
    rw [hx.int_inv]
    cases hy with
    | rng _ _ _ _ a h0 h1 h2 =>
    split at h
    · rename_i hk
      subst hk
      obtain ⟨e, _, _⟩ := arng_aint (k := k) h h1 h2
      obtain ⟨n1, n2⟩ := flip_ne h
      obtain ⟨t', rfl⟩ := arng_bool h
      exact sim_intOp (aint_flip e ⟨_, rfl⟩) n1 n2 ox oy
    · cases h
  · rename_i i k lo hi j k' lo' hi'
    split at h
    · rename_i hk
      subst hk
      cases hx with
      | rng _ _ _ _ n e0 e1 e2 =>
      cases hy with
      | rng _ _ _ _ n' e0' e1' e2' =>
      cases hij : Nat.beq i j with
      | false => simp [hij] at h
      | true =>
        simp only [hij, cond_true] at h
        have hij := Nat.eq_of_beq_eq_true hij
        subst hij
        rw [e0, e0']
        obtain ⟨e, n1, n2⟩ := asame_aint (k := k) (a := Syms.int i) h
        exact sim_intOp e n1 n2 ox oy
    · cases h
  · rename_i i l b
    obtain ⟨s2, rfl, h2⟩ := hy.str_inv
    cases hx with
    | ustr _ _ s1 e1 e2 =>
    exact sim_strOp (aeqs_astr h fun t ht => (eqUs_ok ht e2).1) rfl h2 ox oy
  · rename_i b i l
    obtain ⟨s1, rfl, h1⟩ := hx.str_inv
    cases hy with
    | ustr _ _ s2 e1 e2 =>
    exact sim_strOp (aeqs_astr h fun t ht => (eqUs_ok ht e2).2) h1 rfl ox oy
  · rename_i i l j l'
    cases hx with
    | ustr _ _ s1 e1 e2 =>
    cases hy with
    | ustr _ _ s2 e1' e2' =>
    refine sim_strOp (aeqs_astr h fun t ht => ?_) e1 e1' ox oy
    cases hij : Nat.beq i j with
    | false => simp [hij] at ht
    | true =>
      simp only [hij, cond_true, Option.some.injEq] at ht
      subst ht
      have hij := Nat.eq_of_beq_eq_true hij
      subst hij
      simp
  · rename_i k a k' b
    rw [hx.int_inv, hy.int_inv]
    have g : (eqGuard op t ox oy (.int k a) (.int k' b)).run P w = .ok () w := by unfold eqGuard; cases op <;> simp
    split at h
    · obtain ⟨cv, h1, h2⟩ := sim_ashift (P := P) (w := w) (ok := ok) (m := m) (k' := k') h (.inl rfl) t
      exact ⟨cv, by simp only [Sem.run_bind, g, Result.andThen_ok]; exact h1, h2⟩
    · obtain ⟨cv, h1, h2⟩ := sim_ashift (P := P) (w := w) (ok := ok) (m := m) (k' := k') h (.inr rfl) t
      exact ⟨cv, by simp only [Sem.run_bind, g, Result.andThen_ok]; exact h1, h2⟩
    · rename_i n1 n2
      split at h
      · rename_i hk
        subst hk
        obtain ⟨cv, h1, h2⟩ := sim_aint (P := P) (w := w) (ok := ok) (m := m) h n1 n2 t
        exact ⟨cv, by simp only [Sem.run_bind, g, Result.andThen_ok]; exact h1, h2⟩
      · cases h
  · rename_i a b
    obtain ⟨s1, rfl, h1⟩ := hx.str_inv
    obtain ⟨s2, rfl, h2⟩ := hy.str_inv
    have g : (eqGuard op t ox oy (.string s1) (.string s2)).run P w = .ok () w := by unfold eqGuard; cases op <;> simp
    obtain ⟨cv, g1, g2⟩ := sim_astr (P := P) (w := w) (ok := ok) (m := m) h h1 h2
    refine ⟨cv, ?_, g2⟩
    simp only [Sem.run_bind, g, Result.andThen_ok]
    cases op <;> exact g1
  · rename_i l1 l2 l3 l4 l5 n1 n2 n3 n4 n5 n6 n7 n8
    refine sim_eqOp hT h hx hy ?_ ?_ ox oy
    · intro q1 q2
      cases x <;> simp only [isIntV] at q1 <;> first | (cases q1; done) | skip
      all_goals cases y <;> simp only [isIntV] at q2 <;> first | (cases q2; done) | skip
      all_goals first | exact n1 _ _ _ _ _ _ rfl rfl | exact n2 _ _ _ _ _ _ rfl rfl | exact n3 _ _ _ _ _ _ _ _ rfl rfl | exact n7 _ _ _ _ rfl rfl | exact l1 _ _ _ _ _ _ _ rfl rfl | exact l2 _ _ _ _ _ _ _ rfl rfl | exact l3 _ _ _ _ _ _ _ _ _ _ rfl rfl | exact l4 _ _ _ _ _ _ _ _ _ rfl rfl | exact l5 _ _ _ _ _ _ _ _ _ rfl rfl
    · intro q1 q2
      cases x <;> simp only [isStrV] at q1 <;> first | (cases q1; done) | skip
      all_goals cases y <;> simp only [isStrV] at q2 <;> first | (cases q2; done) | skip
      all_goals first | exact n4 _ _ _ rfl rfl | exact n5 _ _ _ rfl rfl | exact n6 _ _ _ _ rfl rfl | exact n8 _ _ rfl rfl

end
end Go.Proofs.YtopkeglpafdlfaaGreat.VS
