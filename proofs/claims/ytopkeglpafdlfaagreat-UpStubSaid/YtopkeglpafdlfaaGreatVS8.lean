/- Sums, comparisons, lengths, lookups: the model answers what the abstract machine does. Conditions: none. -/
import Derived.Test.YtopkeglpafdlfaaGreatVS7
namespace Go.Proofs.YtopkeglpafdlfaaGreat.VS
variable [Syms]

section
variable {P : Program} {T : Tabs} {ok : Nat → Prop} {m : Map} {w : World}

omit [Syms] in
theorem kindOf_eq {t : TypeId} {ti : TI} (h : T.ty.get t = some ti) : kindOf T t = ti.k := by simp [kindOf, h]

omit [Syms] in
theorem run_equalIn_sliceL (d : Nat) (t e : TypeId) (h : P.underlying t = some (.slice e)) (a : Option Addr) (n c : Nat) :
    (Op.equalIn (d + 1) t (.slice none 0 0) (.slice a n c)).run P w = .ok a.isNone w := by
  simp [Op.equalIn, run_underlying h]

omit [Syms] in
theorem run_equalIn_sliceR (d : Nat) (t e : TypeId) (h : P.underlying t = some (.slice e)) (a : Option Addr) (n c : Nat) :
    (Op.equalIn (d + 1) t (.slice a n c) (.slice none 0 0)).run P w = .ok a.isNone w := by
  cases a <;> simp [Op.equalIn, run_underlying h]

omit [Syms] in
theorem run_equalIn_ptrL (d : Nat) (t e : TypeId) (h : P.underlying t = some (.pointer e)) (a : Option Addr) :
    (Op.equalIn (d + 1) t (.pointer none) (.pointer a)).run P w = .ok a.isNone w := by
  simp [Op.equalIn, run_underlying h]

omit [Syms] in
theorem run_equalIn_ptrR (d : Nat) (t e : TypeId) (h : P.underlying t = some (.pointer e)) (a : Option Addr) :
    (Op.equalIn (d + 1) t (.pointer a) (.pointer none)).run P w = .ok a.isNone w := by
  cases a <;> simp [Op.equalIn, run_underlying h]

omit [Syms] in
theorem kind_ptr (hT : TyOK P T) {t : TypeId} (h : kindOf T t = .ptr) : ∃ e, P.underlying t = some (.pointer e) := by
  obtain ⟨d, h1, h2⟩ := kindOf_some hT h (by simp)
  cases d <;> simp [tkOf] at h2
  exact ⟨_, h1⟩

omit [Syms] in
theorem beq_lists {a b : ByteArray} {x y : List UInt8} (ha : a.data.toList = x) (hb : b.data.toList = y) : (a.toList == b.toList) = (x == y) := by
  rw [ByteArray.toList_eq, ByteArray.toList_eq, ha, hb]

omit [Syms] in
theorem eqRng_ok {k k' : IntKind} {lo hi b n : Int} {r : Bool} (h : eqRng k k' lo hi b = some r) (h1 : lo ≤ n) (h2 : n ≤ hi) : k = k' ∧ (n == b) = r ∧ (b == n) = r := by
  unfold eqRng at h
  split at h
  · rename_i hk
    refine ⟨hk, ?_⟩
    split at h
    · cases h; constructor <;> simp <;> omega
    · split at h
      · cases h; constructor <;> simp <;> omega
      · cases h
  · cases h

omit [Syms] in
theorem eqUs_ok {l : List (List UInt8)} {x b : List UInt8} {r : Bool} (h : eqUs l b = some r) (hx : x ∉ l) : (x == b) = r ∧ (b == x) = r := by
  unfold eqUs at h
  cases hc : l.contains b with
  | false => rw [hc, cond_false] at h; cases h
  | true =>
    rw [hc, cond_true, Option.some.injEq] at h
    subst h
    have hb : b ∈ l := by simpa using hc
    have hne : x ≠ b := fun e => hx (e ▸ hb)
    exact ⟨by simpa using hne, by simpa using fun e : b = x => hne e.symm⟩

theorem sim_eqOne (hT : TyOK P T) {t : TypeId} {x y : AV} {b : Bool} (h : eqOne (kindOf T t) x y = some b) {vx vy : Value} (hx : VR ok w.heap m x vx) (hy : VR ok w.heap m y vy) (d : Nat) :
    (Op.equalIn (d + 1) t vx vy).run P w = .ok b w := by
  unfold eqOne at h
  split at h
  · rename_i hk
    cases h; cases hx; cases hy
    exact run_equalIn_bool w d t _ _ (kind_bool hT hk)
  · rename_i k' _ _ _ _ hk
    split at h
    · rename_i hkk
      subst hkk
      cases h; cases hx; cases hy
      exact run_equalIn_int w d t _ k' _ _ (kind_int hT hk)
    · cases h
  · rename_i hk
    cases hx with
    | rng _ _ _ _ n e0 e1 e2 =>
    cases hy
    obtain ⟨rfl, g1, g2⟩ := eqRng_ok h e1 e2
    rw [run_equalIn_int w d t _ _ _ _ (kind_int hT hk), g1]
  · rename_i hk
    cases hy with
    | rng _ _ _ _ n e0 e1 e2 =>
    cases hx
    obtain ⟨rfl, g1, g2⟩ := eqRng_ok h e1 e2
    rw [run_equalIn_int w d t _ _ _ _ (kind_int hT hk), g2]
  · rename_i _ i _ _ _ j _ _ _ hk
    split at h
    · rename_i hkk
      subst hkk
      cases hx with
      | rng _ _ _ _ n e0 e1 e2 =>
      cases hy with
      | rng _ _ _ _ n' e0' e1' e2' =>
      cases hij : Nat.beq i j with
      | false => simp [hij] at h
      | true =>
        simp only [hij, cond_true, Option.some.injEq] at h
        subst h
        have hij := Nat.eq_of_beq_eq_true hij
        subst hij
        rw [run_equalIn_int w d t _ _ _ _ (kind_int hT hk), e0, e0']
        simp
    · cases h
  · rename_i hk
    cases h
    obtain ⟨s1, rfl, h1⟩ := hx.str_inv
    obtain ⟨s2, rfl, h2⟩ := hy.str_inv
    rw [run_equalIn_string w d t _ _ (kind_str hT hk), beq_lists h1 h2]
  · rename_i hk
    obtain ⟨s2, rfl, h2⟩ := hy.str_inv
    cases hx with
    | ustr _ _ s1 e1 e2 =>
    rw [run_equalIn_string w d t _ _ (kind_str hT hk), beq_lists rfl h2, (eqUs_ok h e2).1]
  · rename_i hk
    obtain ⟨s1, rfl, h1⟩ := hx.str_inv
    cases hy with
    | ustr _ _ s2 e1 e2 =>
    rw [run_equalIn_string w d t _ _ (kind_str hT hk), beq_lists h1 rfl, (eqUs_ok h e2).2]
  · rename_i i _ j _ hk
    cases hx with
    | ustr _ _ s1 e1 e2 =>
    cases hy with
    | ustr _ _ s2 e1' e2' =>
    cases hij : Nat.beq i j with
    | false => simp [hij] at h
    | true =>
      simp only [hij, cond_true, Option.some.injEq] at h
      subst h
      have hij := Nat.eq_of_beq_eq_true hij
      subst hij
      rw [run_equalIn_string w d t _ _ (kind_str hT hk), beq_lists e1 e1']
      simp
  · rename_i hk
    obtain ⟨e, hu⟩ := kind_ptr hT hk
    unfold eqPtr at h
    split at h
    · cases h; cases hx; cases hy
      exact run_equalIn_ptrL d t e hu none
    · cases h; cases hx
      obtain ⟨L, _, rfl⟩ := hy.ptr_inv
      exact run_equalIn_ptrL d t e hu _
    · cases h; cases hy
      obtain ⟨L, _, rfl⟩ := hx.ptr_inv
      exact run_equalIn_ptrR d t e hu _
    · cases h
  · rename_i e hk
    have hu := kind_slice hT hk
    unfold eqSl at h
    split at h
    · cases h; cases hx; cases hy
      exact run_equalIn_sliceL d t e hu none 0 0
    · cases h; cases hx
      obtain ⟨β, o, C, et, z, s, c, rfl, _⟩ := hy.sl_inv (by simp)
      exact run_equalIn_sliceL d t e hu _ _ _
    · cases h; cases hy
      obtain ⟨β, o, C, et, z, s, c, rfl, _⟩ := hx.sl_inv (by simp)
      exact run_equalIn_sliceR d t e hu _ _ _
    · cases h; cases hx; cases hy
      exact run_equalIn_sliceL d t e hu _ _ _
    · cases h; cases hy; cases hx
      exact run_equalIn_sliceR d t e hu _ _ _
    · cases h; cases hx
      obtain ⟨a, c, rfl, _⟩ := hy.osl_any
      exact run_equalIn_sliceL d t e hu _ _ _
    · cases h; cases hy
      obtain ⟨a, c, rfl, _⟩ := hx.osl_any
      exact run_equalIn_sliceR d t e hu _ _ _
    · cases h
  · cases h

omit [Syms] in
theorem sim_fields (d : Nat) {f : Fd → Option Bool} {xs ys : Array Value} (hf : ∀ (x : Field) (b : Bool), f (fdOf x) = some b →
      ∃ va vb, (part x.type xs x.offset).run P w = .ok va w ∧ (part x.type ys x.offset).run P w = .ok vb w ∧ (Op.equalIn d x.type va vb).run P w = .ok b w) :
    ∀ (fs : List Field) (b : Bool), allFields f (fs.map fdOf) = some b → (Op.eqFields d xs ys fs).run P w = .ok b w
  | [], b, h => by simp [allFields] at h; subst h; simp [Op.eqFields]
  | x :: fs, b, h => by
    simp only [List.map_cons, allFields] at h
    by_cases hn : x.name = "_"
    · have : (fdOf x).blank = true := by simp [fdOf, hn]
      simp only [this, cond_true] at h
      rw [Op.eqFields, if_neg (by simpa using hn)]
      exact sim_fields d hf fs b h
    · have : (fdOf x).blank = false := by simp [fdOf, hn]
      simp only [this, cond_false] at h
      rw [Op.eqFields, if_pos hn]
      split at h
      · rename_i hb
        obtain ⟨va, vb, h1, h2, h3⟩ := hf x true hb
        simp only [Sem.run_bind, h1, h2, h3, Result.andThen_ok, Bool.not_true, Bool.false_eq_true, if_false]
        exact sim_fields d hf fs b h
      · rename_i hb
        cases h
        obtain ⟨va, vb, h1, h2, h3⟩ := hf x false hb
        simp only [Sem.run_bind, h1, h2, h3, Result.andThen_ok, Bool.not_false, if_true, Sem.run_pure]
      · cases h

theorem sim_aeq (hT : TyOK P T) : ∀ (d : Nat) {t : TypeId} {x y : AV} {b : Bool}, aeq T d t x y = some b → ∀ {vx vy : Value}, VR ok w.heap m x vx → VR ok w.heap m y vy → ∀ D, d ≤ D →
    (Op.equalIn D t vx vy).run P w = .ok b w
  | 0, t, x, y, b, h => by simp [aeq] at h
  | d + 1, t, x, y, b, h => by
    intro hx hy D hD
    obtain ⟨D, rfl⟩ : ∃ D', D = D' + 1 := ⟨D - 1, by omega⟩
    rw [aeq] at h
    split at h
    · rename_i ti hti
      split at h
      · rename_i fields xs ys hk
        cases hc : ti.cmp with
        | false => simp [hc] at h
        | true =>
          simp only [hc, cond_true] at h
          obtain ⟨j, dsc, h1, h2, _, _, _, _, h3, h4⟩ := hT t ti hti
          obtain ⟨fs, hu, rfl⟩ := kind_struct hT ((kindOf_eq hti).trans hk)
          obtain ⟨va, rfl, sa, ra⟩ := hx.agg_inv
          obtain ⟨vb, rfl, sb, rb⟩ := hy.agg_inv
          have hf : P.fieldsOf t = fs := by simp [Program.fieldsOf, hu]
          rw [run_equalIn_struct w D t va vb (by rw [hf]; exact hu) (h4 hc).2, hf]
          refine sim_fields D (fun f b' hb' => ?_) fs.toList b h
          unfold both at hb'
          split at hb'
          · rename_i pa pb hpa hpb
            obtain ⟨ca, ra1, ra2⟩ := sim_part hT hpa ra sa
            obtain ⟨cb, rb1, rb2⟩ := sim_part hT hpb rb sb
            exact ⟨ca, cb, ra1, rb1, sim_aeq hT d hb' ra2 rb2 D (by omega)⟩
          · cases hb'
      · rw [← kindOf_eq hti] at h
        exact sim_eqOne hT h hx hy D
    · cases h

omit [Syms] in
theorem bytesLt_eq : ∀ a b : List UInt8, bytesLt a b = Op.bytesLess a b
  | _, [] => by cases ‹List UInt8› <;> rfl
  | [], _ :: _ => rfl
  | a :: x, b :: y => by rw [bytesLt, Op.bytesLess, bytesLt_eq x y]

theorem sim_astr {op : BinOp} {x y : List UInt8} {v : AV} (h : astr op x y = some v) {sx sy : ByteArray} (hx : sx.data.toList = x) (hy : sy.data.toList = y) :
    ∃ cv, (Op.stringOp op sx sy).run P w = .ok cv w ∧ VR ok w.heap m v cv := by
  have e1 : sx.toList = x := by rw [ByteArray.toList_eq, hx]
  have e2 : sy.toList = y := by rw [ByteArray.toList_eq, hy]
  cases op <;> simp only [astr] at h
  case add =>
    cases hc : (x.length + y.length).ble 1099511627776 with
    | false => simp [hc] at h
    | true =>
      simp only [hc, cond_true, Option.some.injEq] at h
      have := ble_le hc
      subst h
      have l1 : sx.size = x.length := by rw [← hx]; exact Array.length_toList.symm
      have l2 : sy.size = y.length := by rw [← hy]; exact Array.length_toList.symm
      have hmax : ¬ ((sx.size + sy.size : Nat) : Int) > IntKind.i64.max := by
        have : IntKind.i64.max = 9223372036854775807 := by decide
        omega
      refine ⟨.string (sx ++ sy), by simp only [Op.stringOp]; rw [if_neg hmax]; rfl, .str _ _ ?_⟩
      rw [ByteArray.data_append, Array.toList_append, hx, hy]
  all_goals first
    | (cases h; done)
    | (simp only [Option.some.injEq] at h; subst h; exact ⟨_, by simp only [Op.stringOp, e1, e2, ← bytesLt_eq]; rfl, .bool _⟩)

theorem sim_aint {op : BinOp} {k : IntKind} {a b : Int} {v : AV} (h : aint op k a b = some v) (hs : op ≠ .shl) (hr : op ≠ .shr) (t : TypeId) :
    ∃ cv, (binOp op t (.int k a) (.int k b)).run P w = .ok cv w ∧ VR ok w.heap m v cv := by
  cases op <;> simp only [aint, intv] at h
  case quo =>
    split at h
    · cases h
    · rename_i hb
      cases h
      exact ⟨_, by simp only [binOp, ne_eq, not_true_eq_false, if_false, Op.intDiv]; rw [if_neg hb]; rfl, .int _ _⟩
  case rem =>
    split at h
    · cases h
    · rename_i hb
      cases h
      exact ⟨_, by simp only [binOp, ne_eq, not_true_eq_false, if_false, Op.intDiv]; rw [if_neg hb]; rfl, .int _ _⟩
  all_goals first
    | (cases h; done)
    | exact absurd rfl hs
    | exact absurd rfl hr
    | (simp only [Option.some.injEq] at h; subst h; exact ⟨_, by simp only [binOp, ne_eq, not_true_eq_false, if_false]; rfl, .int _ _⟩)
    | (simp only [Option.some.injEq] at h; subst h; exact ⟨_, by simp only [binOp, ne_eq, not_true_eq_false, if_false]; rfl, .bool _⟩)

theorem sim_ashift {op : BinOp} {k k' : IntKind} {a b : Int} {v : AV} (h : ashift op k a b = some v) (hop : op = .shl ∨ op = .shr) (t : TypeId) :
    ∃ cv, (binOp op t (.int k a) (.int k' b)).run P w = .ok cv w ∧ VR ok w.heap m v cv := by
  unfold ashift at h
  split at h
  · cases h
  · rename_i hb
    rcases hop with rfl | rfl
    · simp only [intv, Option.some.injEq] at h; subst h
      exact ⟨_, by simp only [binOp, Op.shift]; rw [if_neg hb]; rfl, .int _ _⟩
    · simp only [Option.some.injEq] at h; subst h
      exact ⟨_, by simp only [binOp, Op.shift]; rw [if_neg hb]; rfl, .int _ _⟩

omit [Syms] in
/-- '==' and '!=' of what is neither a number nor a text. -/
theorem run_eqBoth {t : TypeId} {vx vy : Value} {b : Bool} (he : (Op.equal t vx vy).run P w = .ok b w) (hn : (∃ k n l n', vx = .int k n ∧ vy = .int l n') → False) (hs : (∃ a b, vx = .string a ∧ vy = .string b) → False)
    (hf : ∀ k n, vx ≠ .float k n) (hc : ∀ k n n', vx ≠ .complex k n n') :
    (binOp .eql t vx vy).run P w = .ok (.bool b) w ∧ (binOp .neq t vx vy).run P w = .ok (.bool !b) w := by
  constructor
  · cases vx <;> cases vy <;> first
      | exact (hn ⟨_, _, _, _, rfl, rfl⟩).elim
      | exact (hs ⟨_, _, rfl, rfl⟩).elim
      | exact absurd rfl (hf _ _)
      | exact absurd rfl (hc _ _ _)
      | simp [binOp, he]
  · cases vx <;> cases vy <;> first
      | exact (hn ⟨_, _, _, _, rfl, rfl⟩).elim
      | exact (hs ⟨_, _, rfl, rfl⟩).elim
      | exact absurd rfl (hf _ _)
      | exact absurd rfl (hc _ _ _)
      | simp [binOp, he]

theorem VR.noFloat {a : AV} {v : Value} (H : VR ok w.heap m a v) (hd : a ≠ .dead) : (∀ k n, v ≠ .float k n) ∧ ∀ k n n', v ≠ .complex k n n' := by
  cases a with
  | tl t xs =>
    obtain ⟨a, n, c, rfl⟩ := H.tl_slice
    exact ⟨fun _ _ => nofun, fun _ _ _ => nofun⟩
  | _ => cases H <;> first | exact absurd rfl hd | exact ⟨fun _ _ => nofun, fun _ _ _ => nofun⟩

end
end Go.Proofs.YtopkeglpafdlfaaGreat.VS
