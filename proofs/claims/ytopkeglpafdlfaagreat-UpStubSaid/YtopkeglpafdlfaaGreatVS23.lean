/- A region whose order is drawn: in each order the same. Conditions: none. -/
import Derived.Test.YtopkeglpafdlfaaGreatVS22
namespace Go.Proofs.YtopkeglpafdlfaaGreat.VS
variable [Syms]

omit [Syms] in
theorem Fr.get_set_ne : ∀ (t : Fr) (k j : Nat) (a : AV), j ≠ k → (t.set k a).get j = t.get j
  | .nil, k, j, a, h => rfl
  | .nd v l r, k, j, a, h => by
    rw [Fr.set_nd]
    split
    · rename_i hk; subst hk; rw [Fr.get_nd, Fr.get_nd, if_neg h, if_neg h]
    · split
      · rw [Fr.get_nd, Fr.get_nd]
        split
        · rfl
        · split
          · rw [Fr.get_set_ne l _ _ _ (by omega)]
          · rfl
      · rw [Fr.get_nd, Fr.get_nd]
        split
        · rfl
        · split
          · rfl
          · rw [Fr.get_set_ne r _ _ _ (by omega)]

omit [Syms] in
theorem put_get_ne {fr : Fr} {dst : Option Tmp} {v : AV} {t : Nat} (h : dst ≠ some t) : (put fr dst v).get t = fr.get t := by
  cases dst with
  | none => rfl
  | some d => exact Fr.get_set_ne _ _ _ _ (fun e => h (by rw [e]))

omit [Syms] in
theorem happ_ne : ∀ (e : Eff) (H : Heap) (b : Nat), b ∉ e.map (·.1) → hget (happ H e) b = hget H b
  | [], H, b, h => rfl
  | (k, q) :: r, H, b, h => by
    rw [happ]
    simp only [List.map_cons, List.mem_cons, not_or] at h
    rw [happ_ne r _ b h.2]
    cases q with
    | some o => simp only [hput]; rw [hget_hset, if_neg (fun e => h.1 e.symm)]
    | none => simp only [hput]; rw [hget_hdel, if_neg (fun e => h.1 e.symm)]

omit [Syms] in
theorem happ_eq : ∀ (e : Eff) (H H' : Heap) (b : Nat), b ∈ e.map (·.1) → hget (happ H e) b = hget (happ H' e) b
  | [], H, H', b, h => by simp at h
  | (k, q) :: r, H, H', b, h => by
    rw [happ, happ]
    by_cases hb : b ∈ r.map (·.1)
    · exact happ_eq r _ _ b hb
    · rw [happ_ne r _ b hb, happ_ne r _ b hb]
      simp only [List.map_cons, List.mem_cons, hb, or_false] at h
      subst h
      cases q with
      | some o => simp only [hput]; rw [hget_hset, hget_hset, if_pos rfl, if_pos rfl]
      | none => simp only [hput]; rw [hget_hdel, hget_hdel, if_pos rfl, if_pos rfl]

omit [Syms] in
theorem mem_tmpsOf {t : Tmp} : ∀ {l : List Operand}, Operand.tmp t ∈ l → t ∈ tmpsOf l
  | [], h => by simp at h
  | x :: r, h => by
    rcases List.mem_cons.1 h with e | h'
    · subst e; simp [tmpsOf]
    · have ih := mem_tmpsOf h'
      cases x <;> simp [tmpsOf, ih]

section
variable {E : Env} {ops : List Oper}

omit [Syms] in
theorem awanted_foot {g : Option (Nat × Bool)} {fr fr' : Fr} (h : ∀ t, t ∈ guardL ops g → fr'.get t = fr.get t) : awanted ops g fr' = awanted ops g fr := by
  unfold awanted
  cases g with
  | none => rfl
  | some p =>
    simp only
    cases hd : guardTmp ops p.1 with
    | none => rfl
    | some d => simp only; rw [h d (by simp [guardL, hd, optL])]

/-- What one step does. -/
structure StepD (o : Oper) (f : Foot) (s s' : St) : Prop where
  F : s'.F = s.F
  nx : s'.nx = s.nx
  fr : ∀ t, o.dst ≠ some t → s'.fr.get t = s.fr.get t
  hp : ∀ b, b ∉ f.wr → hget s'.H b = hget s.H b
  has : ∀ k, s'.fr.has k = s.fr.has k

/-- The same step elsewhere. -/
structure StepU (o : Oper) (f : Foot) (s' u u' : St) : Prop where
  F : FAgree u.F u'.F
  nx : u'.nx = u.nx
  fr : ∀ t, o.dst ≠ some t → u'.fr.get t = u.fr.get t
  dst : ∀ t, o.dst = some t → u'.fr.get t = s'.fr.get t
  hp : ∀ b, b ∉ f.wr → hget u'.H b = hget u.H b
  hw : ∀ b, b ∈ f.wr → hget u'.H b = hget s'.H b
  has : ∀ k, u'.fr.has k = u.fr.has k

omit [Syms] in
theorem put_has_eq (fr : Fr) (dst : Option Tmp) (v : AV) (k : Nat) : (put fr dst v).has k = fr.has k := by
  cases dst with
  | none => rfl
  | some d => exact Fr.has_set _ _ _ _

omit [Syms] in
theorem put_get_dst {fr fr' : Fr} {dst : Option Tmp} {v : AV} {t : Nat} (h : dst = some t) (h1 : fr.has t = true) (h2 : fr'.has t = true) : (put fr dst v).get t = (put fr' dst v).get t := by
  subst h
  show (fr.set t v).get t = (fr'.set t v).get t
  rw [Fr.get_set _ _ _ _ h1, Fr.get_set _ _ _ _ h2, if_pos rfl, if_pos rfl]

omit [Syms] in
theorem stepD_sound {id : Nat} {o : Oper} {s s' : St} {gs : List Foot} (h : stepD E ops id o s = .at s' gs) : ∃ f, gs = [f] ∧ (∀ k, s'.fr.has k = s.fr.has k) ∧ (∀ t, o.dst ≠ some t → s'.fr.get t = s.fr.get t) ∧
    (f.bar = true → stepOp E ops id o s = .at s') ∧ (f.bar = false → StepD o f s s' ∧
    ∀ u : St, FAgree s.F u.F → (∀ t, t ∈ (slotsOf ops o).rd → u.fr.get t = s.fr.get t) → Agree s.H u.H f.rd → (∀ t, o.dst = some t → s.fr.has t = true ∧ u.fr.has t = true) →
      ∃ u', stepOp E ops id o u = .at u' ∧ StepU o f s' u u') := by
  unfold stepD at h
  split at h
  · rename_i hw
    generalize hq : aop E s id o.op = q at h
    cases q with
    | no => simp [behindD] at h
    | all v H F nx =>
      simp only [behindD, DSt.at.injEq] at h
      obtain ⟨rfl, rfl⟩ := h
      refine ⟨_, rfl, fun k => put_has_eq _ _ _ k, fun t ht => put_get_ne ht, fun _ => ?_, nofun⟩
      unfold stepOp
      rw [hw]
      simp only [hq, behind]
    | ok v e rd fz =>
      simp only [behindD] at h
      cases hfz : fz.all (isIn · s.F) with
      | false => simp [hfz] at h
      | true =>
        simp only [hfz, cond_true, DSt.at.injEq] at h
        obtain ⟨rfl, rfl⟩ := h
        refine ⟨_, rfl, fun k => put_has_eq _ _ _ k, fun t ht => put_get_ne ht, nofun, fun _ => ⟨⟨rfl, rfl, fun t ht => put_get_ne ht, fun b hb => happ_ne e _ b hb, fun k => put_has_eq _ _ _ k⟩, fun u hF hfr hH hd => ?_⟩⟩
        have hop : ∀ x ∈ o.op.operands, opnd u.fr x = opnd s.fr x := by
          intro x hx
          cases x with
          | tmp t => exact hfr t (List.mem_append.2 (.inl (mem_tmpsOf (by simpa using hx))))
          | _ => rfl
        have ha := aop_foot hq hop hF hH
        refine ⟨⟨put u.fr o.dst v, happ u.H e, fz ++ u.F, u.nx⟩, ?_, ⟨fun b => ?_, rfl, fun t ht => put_get_ne ht, fun t ht => put_get_dst ht (hd t ht).2 (hd t ht).1, fun b hb => happ_ne e _ b hb, fun b hb => happ_eq e _ _ b hb, fun k => put_has_eq _ _ _ k⟩⟩
        · unfold stepOp
          rw [awanted_foot fun t ht => hfr t (List.mem_append.2 (.inr ht)), hw]
          simp only [ha, behind]
        · have hall := List.all_eq_true.1 hfz
          cases hb : isIn b u.F with
          | true =>
            rw [isIn_iff] at hb ⊢
            exact List.mem_append.2 (.inr hb)
          | false =>
            rw [isIn_false] at hb ⊢
            intro hm
            rcases List.mem_append.1 hm with hm | hm
            · have := hall b hm
              rw [← hF b] at this
              exact hb ((isIn_iff b u.F).1 this)
            · exact hb hm
  · rename_i hw
    simp only [DSt.at.injEq] at h
    obtain ⟨rfl, rfl⟩ := h
    refine ⟨_, rfl, fun k => put_has_eq _ _ _ k, fun t ht => put_get_ne ht, nofun, fun _ => ⟨⟨rfl, rfl, fun t ht => put_get_ne ht, fun b hb => rfl, fun k => put_has_eq _ _ _ k⟩, fun u hF hfr hH hd => ?_⟩⟩
    refine ⟨{ u with fr := put u.fr o.dst und }, ?_, ⟨fun b => rfl, rfl, fun t ht => put_get_ne ht, fun t ht => put_get_dst ht (hd t ht).2 (hd t ht).1, fun b hb => rfl, fun b hb => by simp at hb, fun k => put_has_eq _ _ _ k⟩⟩
    unfold stepOp
    rw [awanted_foot fun t ht => hfr t (List.mem_append.2 (.inr ht)), hw]
  · cases h

omit [Syms] in
/-- The states in the order of the text. -/
theorem seqD_trace (base : Nat) : ∀ (r : List Oper) (k : Nat) (s : St) (fs0 : List Foot) (s' : St) (fs : List Foot), seqD E ops r (base + STRIDE * k) s fs0 = .at s' fs →
    ∃ (st : Nat → St) (gs : List Foot), st k = s ∧ st (k + r.length) = s' ∧ fs = fs0 ++ gs ∧ gs.length = r.length ∧
      ∀ j o, r[j]? = some o → ∃ f, gs[j]? = some f ∧ stepD E ops (base + STRIDE * (k + j)) o (st (k + j)) = .at (st (k + j + 1)) [f]
  | [], k, s, fs0, s', fs, h => by
    simp only [seqD, DSt.at.injEq] at h
    obtain ⟨rfl, rfl⟩ := h
    exact ⟨fun _ => s, [], rfl, rfl, by simp, rfl, fun j o hj => by simp at hj⟩
  | o :: r, k, s, fs0, s', fs, h => by
    rw [seqD] at h
    split at h
    · rename_i s1 f1 hs1
      obtain ⟨f, rfl, _⟩ := stepD_sound hs1
      have h' : seqD E ops r (base + STRIDE * (k + 1)) s1 (fs0 ++ [f]) = .at s' fs := by rw [Nat.mul_succ, ← Nat.add_assoc]; exact h
      obtain ⟨st, gs, h1, h2, h3, h4, h5⟩ := seqD_trace base r (k + 1) s1 _ s' fs h'
      refine ⟨fun i => if i = k then s else st i, f :: gs, by simp, ?_, by rw [h3]; simp, by simp [h4], fun j o' hj => ?_⟩
      · show (if k + (o :: r).length = k then s else st (k + (o :: r).length)) = s'
        rw [if_neg (by simp), ← h2]; congr 1; simp; omega
      · cases j with
        | zero =>
          simp at hj; subst hj
          refine ⟨f, rfl, ?_⟩
          simp only [Nat.add_zero, if_true, if_neg (show ¬ k + 1 = k by omega)]
          rw [h1]; exact hs1
        | succ j =>
          obtain ⟨f', g1, g2⟩ := h5 j o' (by simpa using hj)
          refine ⟨f', by simpa using g1, ?_⟩
          show stepD E ops (base + STRIDE * (k + (j + 1))) o' (if k + (j + 1) = k then s else st (k + (j + 1))) = .at (if k + (j + 1) + 1 = k then s else st (k + (j + 1) + 1)) [f']
          rw [if_neg (show ¬ k + (j + 1) = k by omega), if_neg (show ¬ k + (j + 1) + 1 = k by omega)]
          rw [show k + (j + 1) = k + 1 + j by omega]
          exact g2
    · cases h

end

/-! ### What comes ahead of what -/

omit [Syms] in
theorem addBits_bit {acc : List Nat} : ∀ {l : List Edge} {b j : Nat}, (addBits acc l b).testBit j = true →
    b.testBit j = true ∨ ∃ e ∈ l, Region.binds .any e = true ∧ e.on < acc.length ∧ (e.on = j ∨ (acc.getD e.on 0).testBit j = true)
  | [], b, j, h => .inl h
  | e :: r, b, j, h => by
    rw [addBits] at h
    cases hc : Region.binds .any e && e.on.blt acc.length with
    | false =>
      simp only [hc, cond_false] at h
      rcases addBits_bit h with h | ⟨e', h1, h2⟩
      · exact .inl h
      · exact .inr ⟨e', by simp [h1], h2⟩
    | true =>
      simp only [hc, cond_true] at h
      simp only [Bool.and_eq_true] at hc
      rcases addBits_bit h with h | ⟨e', h1, h2⟩
      · rw [Nat.testBit_or, Nat.testBit_or, Nat.testBit_two_pow] at h
        simp only [Bool.or_eq_true, decide_eq_true_eq] at h
        rcases h with (h | h) | h
        · exact .inl h
        · exact .inr ⟨e, by simp, hc.1, blt_lt hc.2, .inl h⟩
        · exact .inr ⟨e, by simp, hc.1, blt_lt hc.2, .inr h⟩
      · exact .inr ⟨e', by simp [h1], h2⟩

omit [Syms] in
theorem befL_spec : ∀ (r : List Oper) (acc : List Nat), (∃ t, befL r acc = acc ++ t ∧ t.length = r.length) ∧
    ∀ (i j : Nat) (o : Oper), r[i]? = some o → ((befL r acc).getD (acc.length + i) 0).testBit j = true →
      ∃ e ∈ o.after.toList, Region.binds .any e = true ∧ e.on < acc.length + i ∧ (e.on = j ∨ ((befL r acc).getD e.on 0).testBit j = true)
  | [], acc => ⟨⟨[], by simp [befL], rfl⟩, fun i j o h => by simp at h⟩
  | o :: r, acc => by
    obtain ⟨⟨t, h1, h2⟩, h3⟩ := befL_spec r (acc ++ [addBits acc o.after.toList 0])
    have hb : befL (o :: r) acc = befL r (acc ++ [addBits acc o.after.toList 0]) := rfl
    refine ⟨⟨addBits acc o.after.toList 0 :: t, by rw [hb, h1]; simp, by simp [h2]⟩, fun i j o' ho hbit => ?_⟩
    rw [hb] at hbit ⊢
    cases i with
    | zero =>
      simp at ho; subst ho
      rw [Nat.add_zero] at hbit ⊢
      have hg : (befL r (acc ++ [addBits acc o.after.toList 0])).getD acc.length 0 = addBits acc o.after.toList 0 := by
        rw [h1]; simp
      rw [hg] at hbit
      rcases addBits_bit hbit with h | ⟨e, k1, k2, k3, k4⟩
      · simp at h
      · refine ⟨e, k1, k2, k3, k4.imp id fun k4 => ?_⟩
        have : (befL r (acc ++ [addBits acc o.after.toList 0])).getD e.on 0 = acc.getD e.on 0 := by
          rw [h1, List.append_assoc]
          simp only [List.getD_eq_getElem?_getD]
          rw [List.getElem?_append_left k3]
        rw [this]; exact k4
    | succ i =>
      obtain ⟨e, k1, k2, k3, k4⟩ := h3 i j o' (by simpa using ho) (by
        rw [← hbit]; congr 2; simp; omega)
      exact ⟨e, k1, k2, by simp at k3; omega, k4⟩

omit [Syms] in
theorem feetOk1_spec {f : Foot} {i : Nat} : ∀ {r : List Foot} {bs : List Nat}, feetOk1 f i r bs = true → ∀ (q : Nat) (g : Foot), r[q]? = some g → ((bs.getD q 0).testBit i || footOk f g) = true
  | [], bs, h, q, g, hg => by simp at hg
  | g0 :: r, [], h, q, g, hg => by simp [feetOk1] at h
  | g0 :: r, b :: bs, h, q, g, hg => by
    rw [feetOk1, Bool.and_eq_true] at h
    cases q with
    | zero => simp at hg; subst hg; exact h.1
    | succ q => exact feetOk1_spec h.2 q g (by simpa using hg)

omit [Syms] in
theorem feetOk_spec : ∀ {fs : List Foot} {bs : List Nat} {i : Nat}, feetOk fs bs i = true → ∀ (p q : Nat) (f g : Foot), p < q → fs[p]? = some f → fs[q]? = some g → ((bs.getD q 0).testBit (i + p) || footOk f g) = true
  | [], bs, i, h, p, q, f, g, hpq, hf, hg => by simp at hf
  | f0 :: r, [], i, h, p, q, f, g, hpq, hf, hg => by simp [feetOk] at h
  | f0 :: r, b :: bs, i, h, p, q, f, g, hpq, hf, hg => by
    rw [feetOk, Bool.and_eq_true] at h
    obtain ⟨q, rfl⟩ : ∃ q', q = q' + 1 := ⟨q - 1, by omega⟩
    have hg : r[q]? = some g := by simpa using hg
    cases p with
    | zero =>
      simp at hf; subst hf
      have := feetOk1_spec h.1 q g hg
      simpa using this
    | succ p =>
      have := feetOk_spec h.2 p q f g (by omega) (by simpa using hf) hg
      rw [show i + (p + 1) = i + 1 + p by omega]
      simpa using this

omit [Syms] in
theorem disj_spec {a b : List Nat} (h : disj a b = true) {x : Nat} (h1 : x ∈ a) (h2 : x ∈ b) : False := by
  unfold disj at h
  have := List.all_eq_true.1 h x h1
  rw [(isIn_iff x b).2 h2] at this
  cases this

omit [Syms] in
theorem footOk_bar {f g : Foot} (h : footOk f g = true) : f.bar = false ∧ g.bar = false := by
  unfold footOk at h
  cases hf : f.bar <;> cases hg : g.bar <;> simp [hf, hg] at h <;> exact ⟨rfl, rfl⟩

omit [Syms] in
theorem footOk_spec {f g : Foot} (h : footOk f g = true) : (∀ x, x ∈ f.wr → x ∉ g.rd) ∧ (∀ x, x ∈ f.wr → x ∉ g.wr) ∧ (∀ x, x ∈ g.wr → x ∉ f.rd) := by
  obtain ⟨b1, b2⟩ := footOk_bar h
  unfold footOk at h
  rw [b1, b2] at h
  rw [Bool.or_self, cond_false, Bool.and_eq_true] at h
  exact ⟨fun x h1 h2 => disj_spec h.1 h1 (List.mem_append.2 (.inl h2)), fun x h1 h2 => disj_spec h.1 h1 (List.mem_append.2 (.inr h2)), fun x h1 h2 => disj_spec h.2 h1 h2⟩

omit [Syms] in
theorem edgesLow_spec : ∀ {l : List Oper} {i : Nat}, edgesLow l i = true → ∀ (j : Nat) (o : Oper), l[j]? = some o → ∀ e ∈ o.after.toList, Region.binds .any e = true → e.on < i + j
  | [], i, h, j, o, ho => by simp at ho
  | o0 :: r, i, h, j, o, ho => by
    intro e he hb
    rw [edgesLow, Bool.and_eq_true] at h
    cases j with
    | zero =>
      simp at ho; subst ho
      have := List.all_eq_true.1 h.1 e he
      rw [hb] at this
      simp only [Bool.not_true, Bool.false_or] at this
      exact blt_lt this
    | succ j =>
      have := edgesLow_spec h.2 j o (by simpa using ho) e he hb
      omega

end Go.Proofs.YtopkeglpafdlfaaGreat.VS
