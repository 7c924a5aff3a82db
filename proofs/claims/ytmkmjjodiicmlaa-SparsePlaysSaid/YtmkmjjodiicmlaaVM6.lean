/- A library of an abstract machine, joined from 10 texts. Conditions: none. -/
import Derived.Test.YtmkmjjodiicmlaaVM5
import Derived.ChangeSame
import Derived.Shelf.Strings.IndexAnyAll
import Derived.Shelf.RegionOpenPlain
import Derived.Lib.Walk
import Derived.Lib.Overlaps
import Derived.Shelf.Bodies2
set_option linter.unusedVariables false
set_option linter.unusedSimpArgs false
set_option linter.unusedSectionVars false
/- A region whose order is drawn: in each order the same. Conditions: none. -/
namespace Go.Proofs.Ytmkmjjodiicmlaa.VS
variable [Syms]

omit [Syms] in
theorem Fr.get_set_ne : ∀ (t : Fr) (k j : Nat) (a : AV), j ≠ k → (t.set k a).get j = t.get j
  | .nil, k, j, a, h => rfl
  | .nd v l r, k, j, a, h => by
    rw [Fr.set_nd]
    split
    · rename_i hk; subst hk; rw [Fr.get_nd, Fr.get_nd, if_neg h, if_neg h]
    · split
      · rw [Fr.get_nd, Fr.get_nd]
        split
        · rfl
        · split
          · rw [Fr.get_set_ne l _ _ _ (by omega)]
          · rfl
      · rw [Fr.get_nd, Fr.get_nd]
        split
        · rfl
        · split
          · rfl
          · rw [Fr.get_set_ne r _ _ _ (by omega)]

omit [Syms] in
theorem put_get_ne {fr : Fr} {dst : Option Tmp} {v : AV} {t : Nat} (h : dst ≠ some t) : (put fr dst v).get t = fr.get t := by
  cases dst with
  | none => rfl
  | some d => exact Fr.get_set_ne _ _ _ _ (fun e => h (by rw [e]))

omit [Syms] in
theorem happ_ne : ∀ (e : Eff) (H : Heap) (b : Nat), b ∉ e.map (·.1) → hget (happ H e) b = hget H b
  | [], H, b, h => rfl
  | (k, q) :: r, H, b, h => by
    rw [happ]
    simp only [List.map_cons, List.mem_cons, not_or] at h
    rw [happ_ne r _ b h.2]
    cases q with
    | some o => simp only [hput]; rw [hget_hset, if_neg (fun e => h.1 e.symm)]
    | none => simp only [hput]; rw [hget_hdel, if_neg (fun e => h.1 e.symm)]

omit [Syms] in
theorem happ_eq : ∀ (e : Eff) (H H' : Heap) (b : Nat), b ∈ e.map (·.1) → hget (happ H e) b = hget (happ H' e) b
  | [], H, H', b, h => by simp at h
  | (k, q) :: r, H, H', b, h => by
    rw [happ, happ]
    by_cases hb : b ∈ r.map (·.1)
    · exact happ_eq r _ _ b hb
    · rw [happ_ne r _ b hb, happ_ne r _ b hb]
      simp only [List.map_cons, List.mem_cons, hb, or_false] at h
      subst h
      cases q with
      | some o => simp only [hput]; rw [hget_hset, hget_hset, if_pos rfl, if_pos rfl]
      | none => simp only [hput]; rw [hget_hdel, hget_hdel, if_pos rfl, if_pos rfl]

omit [Syms] in
theorem mem_tmpsOf {t : Tmp} : ∀ {l : List Operand}, Operand.tmp t ∈ l → t ∈ tmpsOf l
  | [], h => by simp at h
  | x :: r, h => by
    rcases List.mem_cons.1 h with e | h'
    · subst e; simp [tmpsOf]
    · have ih := mem_tmpsOf h'
      cases x <;> simp [tmpsOf, ih]

section
variable {E : Env} {ops : List Oper}

omit [Syms] in
theorem awanted_foot {g : Option (Nat × Bool)} {fr fr' : Fr} (h : ∀ t, t ∈ guardL ops g → fr'.get t = fr.get t) : awanted ops g fr' = awanted ops g fr := by
  unfold awanted
  cases g with
  | none => rfl
  | some p =>
    simp only
    cases hd : guardTmp ops p.1 with
    | none => rfl
    | some d => simp only; rw [h d (by simp [guardL, hd, optL])]

/-- What one step does. -/
structure StepD (o : Oper) (f : Foot) (s s' : St) : Prop where
  F : s'.F = s.F
  nx : s'.nx = s.nx
  fr : ∀ t, o.dst ≠ some t → s'.fr.get t = s.fr.get t
  hp : ∀ b, b ∉ f.wr → hget s'.H b = hget s.H b
  has : ∀ k, s'.fr.has k = s.fr.has k

/-- The same step elsewhere. -/
structure StepU (o : Oper) (f : Foot) (s' u u' : St) : Prop where
  F : FAgree u.F u'.F
  nx : u'.nx = u.nx
  fr : ∀ t, o.dst ≠ some t → u'.fr.get t = u.fr.get t
  dst : ∀ t, o.dst = some t → u'.fr.get t = s'.fr.get t
  hp : ∀ b, b ∉ f.wr → hget u'.H b = hget u.H b
  hw : ∀ b, b ∈ f.wr → hget u'.H b = hget s'.H b
  has : ∀ k, u'.fr.has k = u.fr.has k

omit [Syms] in
theorem put_has_eq (fr : Fr) (dst : Option Tmp) (v : AV) (k : Nat) : (put fr dst v).has k = fr.has k := by
  cases dst with
  | none => rfl
  | some d => exact Fr.has_set _ _ _ _

omit [Syms] in
theorem put_get_dst {fr fr' : Fr} {dst : Option Tmp} {v : AV} {t : Nat} (h : dst = some t) (h1 : fr.has t = true) (h2 : fr'.has t = true) : (put fr dst v).get t = (put fr' dst v).get t := by
  subst h
  show (fr.set t v).get t = (fr'.set t v).get t
  rw [Fr.get_set _ _ _ _ h1, Fr.get_set _ _ _ _ h2, if_pos rfl, if_pos rfl]

omit [Syms] in
theorem stepD_sound {id : Nat} {o : Oper} {s s' : St} {gs : List Foot} (h : stepD E ops id o s = .at s' gs) : ∃ f, gs = [f] ∧ (∀ k, s'.fr.has k = s.fr.has k) ∧ (∀ t, o.dst ≠ some t → s'.fr.get t = s.fr.get t) ∧
    (f.bar = true → stepOp E ops id o s = .at s') ∧ (f.bar = false → StepD o f s s' ∧
    ∀ u : St, FAgree s.F u.F → (∀ t, t ∈ (slotsOf ops o).rd → u.fr.get t = s.fr.get t) → Agree s.H u.H f.rd → (∀ t, o.dst = some t → s.fr.has t = true ∧ u.fr.has t = true) →
      ∃ u', stepOp E ops id o u = .at u' ∧ StepU o f s' u u') := by
  unfold stepD at h
  split at h
  · rename_i hw
    generalize hq : aop E s id o.op = q at h
    cases q with
    | no => simp [behindD] at h
    | all v H F nx =>
      simp only [behindD, DSt.at.injEq] at h
      obtain ⟨rfl, rfl⟩ := h
      refine ⟨_, rfl, fun k => put_has_eq _ _ _ k, fun t ht => put_get_ne ht, fun _ => ?_, nofun⟩
      unfold stepOp
      rw [hw]
      simp only [hq, behind]
    | ok v e rd fz =>
      simp only [behindD] at h
      cases hfz : fz.all (isIn · s.F) with
      | false => simp [hfz] at h
      | true =>
        simp only [hfz, cond_true, DSt.at.injEq] at h
        obtain ⟨rfl, rfl⟩ := h
        refine ⟨_, rfl, fun k => put_has_eq _ _ _ k, fun t ht => put_get_ne ht, nofun, fun _ => ⟨⟨rfl, rfl, fun t ht => put_get_ne ht, fun b hb => happ_ne e _ b hb, fun k => put_has_eq _ _ _ k⟩, fun u hF hfr hH hd => ?_⟩⟩
        have hop : ∀ x ∈ o.op.operands, opnd u.fr x = opnd s.fr x := by
          intro x hx
          cases x with
          | tmp t => exact hfr t (List.mem_append.2 (.inl (mem_tmpsOf (by simpa using hx))))
          | _ => rfl
        have ha := aop_foot hq hop hF hH
        refine ⟨⟨put u.fr o.dst v, happ u.H e, fz ++ u.F, u.nx⟩, ?_, ⟨fun b => ?_, rfl, fun t ht => put_get_ne ht, fun t ht => put_get_dst ht (hd t ht).2 (hd t ht).1, fun b hb => happ_ne e _ b hb, fun b hb => happ_eq e _ _ b hb, fun k => put_has_eq _ _ _ k⟩⟩
        · unfold stepOp
          rw [awanted_foot fun t ht => hfr t (List.mem_append.2 (.inr ht)), hw]
          simp only [ha, behind]
        · have hall := List.all_eq_true.1 hfz
          cases hb : isIn b u.F with
          | true =>
            rw [isIn_iff] at hb ⊢
            exact List.mem_append.2 (.inr hb)
          | false =>
            rw [isIn_false] at hb ⊢
            intro hm
            rcases List.mem_append.1 hm with hm | hm
            · have := hall b hm
              rw [← hF b] at this
              exact hb ((isIn_iff b u.F).1 this)
            · exact hb hm
  · rename_i hw
    simp only [DSt.at.injEq] at h
    obtain ⟨rfl, rfl⟩ := h
    refine ⟨_, rfl, fun k => put_has_eq _ _ _ k, fun t ht => put_get_ne ht, nofun, fun _ => ⟨⟨rfl, rfl, fun t ht => put_get_ne ht, fun b hb => rfl, fun k => put_has_eq _ _ _ k⟩, fun u hF hfr hH hd => ?_⟩⟩
    refine ⟨{ u with fr := put u.fr o.dst und }, ?_, ⟨fun b => rfl, rfl, fun t ht => put_get_ne ht, fun t ht => put_get_dst ht (hd t ht).2 (hd t ht).1, fun b hb => rfl, fun b hb => by simp at hb, fun k => put_has_eq _ _ _ k⟩⟩
    unfold stepOp
    rw [awanted_foot fun t ht => hfr t (List.mem_append.2 (.inr ht)), hw]
  · cases h

omit [Syms] in
/-- The states in the order of the text. -/
theorem seqD_trace (base : Nat) : ∀ (r : List Oper) (k : Nat) (s : St) (fs0 : List Foot) (s' : St) (fs : List Foot), seqD E ops r (base + STRIDE * k) s fs0 = .at s' fs →
    ∃ (st : Nat → St) (gs : List Foot), st k = s ∧ st (k + r.length) = s' ∧ fs = fs0 ++ gs ∧ gs.length = r.length ∧
      ∀ j o, r[j]? = some o → ∃ f, gs[j]? = some f ∧ stepD E ops (base + STRIDE * (k + j)) o (st (k + j)) = .at (st (k + j + 1)) [f]
  | [], k, s, fs0, s', fs, h => by
    simp only [seqD, DSt.at.injEq] at h
    obtain ⟨rfl, rfl⟩ := h
    exact ⟨fun _ => s, [], rfl, rfl, by simp, rfl, fun j o hj => by simp at hj⟩
  | o :: r, k, s, fs0, s', fs, h => by
    rw [seqD] at h
    split at h
    · rename_i s1 f1 hs1
      obtain ⟨f, rfl, _⟩ := stepD_sound hs1
      have h' : seqD E ops r (base + STRIDE * (k + 1)) s1 (fs0 ++ [f]) = .at s' fs := by rw [Nat.mul_succ, ← Nat.add_assoc]; exact h
      obtain ⟨st, gs, h1, h2, h3, h4, h5⟩ := seqD_trace base r (k + 1) s1 _ s' fs h'
      refine ⟨fun i => if i = k then s else st i, f :: gs, by simp, ?_, by rw [h3]; simp, by simp [h4], fun j o' hj => ?_⟩
      · show (if k + (o :: r).length = k then s else st (k + (o :: r).length)) = s'
        rw [if_neg (by simp), ← h2]; congr 1; simp; omega
      · cases j with
        | zero =>
          simp at hj; subst hj
          refine ⟨f, rfl, ?_⟩
          simp only [Nat.add_zero, if_true, if_neg (show ¬ k + 1 = k by omega)]
          rw [h1]; exact hs1
        | succ j =>
          obtain ⟨f', g1, g2⟩ := h5 j o' (by simpa using hj)
          refine ⟨f', by simpa using g1, ?_⟩
          show stepD E ops (base + STRIDE * (k + (j + 1))) o' (if k + (j + 1) = k then s else st (k + (j + 1))) = .at (if k + (j + 1) + 1 = k then s else st (k + (j + 1) + 1)) [f']
          rw [if_neg (show ¬ k + (j + 1) = k by omega), if_neg (show ¬ k + (j + 1) + 1 = k by omega)]
          rw [show k + (j + 1) = k + 1 + j by omega]
          exact g2
    · cases h

end

/-! ### What comes ahead of what -/

omit [Syms] in
theorem addBits_bit {acc : List Nat} : ∀ {l : List Edge} {b j : Nat}, (addBits acc l b).testBit j = true →
    b.testBit j = true ∨ ∃ e ∈ l, Region.binds .any e = true ∧ e.on < acc.length ∧ (e.on = j ∨ (acc.getD e.on 0).testBit j = true)
  | [], b, j, h => .inl h
  | e :: r, b, j, h => by
    rw [addBits] at h
    cases hc : Region.binds .any e && e.on.blt acc.length with
    | false =>
      simp only [hc, cond_false] at h
      rcases addBits_bit h with h | ⟨e', h1, h2⟩
      · exact .inl h
      · exact .inr ⟨e', by simp [h1], h2⟩
    | true =>
      simp only [hc, cond_true] at h
      simp only [Bool.and_eq_true] at hc
      rcases addBits_bit h with h | ⟨e', h1, h2⟩
      · rw [Nat.testBit_or, Nat.testBit_or, Nat.testBit_two_pow] at h
        simp only [Bool.or_eq_true, decide_eq_true_eq] at h
        rcases h with (h | h) | h
        · exact .inl h
        · exact .inr ⟨e, by simp, hc.1, blt_lt hc.2, .inl h⟩
        · exact .inr ⟨e, by simp, hc.1, blt_lt hc.2, .inr h⟩
      · exact .inr ⟨e', by simp [h1], h2⟩

omit [Syms] in
theorem befL_spec : ∀ (r : List Oper) (acc : List Nat), (∃ t, befL r acc = acc ++ t ∧ t.length = r.length) ∧
    ∀ (i j : Nat) (o : Oper), r[i]? = some o → ((befL r acc).getD (acc.length + i) 0).testBit j = true →
      ∃ e ∈ o.after.toList, Region.binds .any e = true ∧ e.on < acc.length + i ∧ (e.on = j ∨ ((befL r acc).getD e.on 0).testBit j = true)
  | [], acc => ⟨⟨[], by simp [befL], rfl⟩, fun i j o h => by simp at h⟩
  | o :: r, acc => by
    obtain ⟨⟨t, h1, h2⟩, h3⟩ := befL_spec r (acc ++ [addBits acc o.after.toList 0])
    have hb : befL (o :: r) acc = befL r (acc ++ [addBits acc o.after.toList 0]) := rfl
    refine ⟨⟨addBits acc o.after.toList 0 :: t, by rw [hb, h1]; simp, by simp [h2]⟩, fun i j o' ho hbit => ?_⟩
    rw [hb] at hbit ⊢
    cases i with
    | zero =>
      simp at ho; subst ho
      rw [Nat.add_zero] at hbit ⊢
      have hg : (befL r (acc ++ [addBits acc o.after.toList 0])).getD acc.length 0 = addBits acc o.after.toList 0 := by
        rw [h1]; simp
      rw [hg] at hbit
      rcases addBits_bit hbit with h | ⟨e, k1, k2, k3, k4⟩
      · simp at h
      · refine ⟨e, k1, k2, k3, k4.imp id fun k4 => ?_⟩
        have : (befL r (acc ++ [addBits acc o.after.toList 0])).getD e.on 0 = acc.getD e.on 0 := by
          rw [h1, List.append_assoc]
          simp only [List.getD_eq_getElem?_getD]
          rw [List.getElem?_append_left k3]
        rw [this]; exact k4
    | succ i =>
      obtain ⟨e, k1, k2, k3, k4⟩ := h3 i j o' (by simpa using ho) (by
        rw [← hbit]; congr 2; simp; omega)
      exact ⟨e, k1, k2, by simp at k3; omega, k4⟩

omit [Syms] in
theorem feetOk1_spec {f : Foot} {i : Nat} : ∀ {r : List Foot} {bs : List Nat}, feetOk1 f i r bs = true → ∀ (q : Nat) (g : Foot), r[q]? = some g → ((bs.getD q 0).testBit i || footOk f g) = true
  | [], bs, h, q, g, hg => by simp at hg
  | g0 :: r, [], h, q, g, hg => by simp [feetOk1] at h
  | g0 :: r, b :: bs, h, q, g, hg => by
    rw [feetOk1, Bool.and_eq_true] at h
    cases q with
    | zero => simp at hg; subst hg; exact h.1
    | succ q => exact feetOk1_spec h.2 q g (by simpa using hg)

omit [Syms] in
theorem feetOk_spec : ∀ {fs : List Foot} {bs : List Nat} {i : Nat}, feetOk fs bs i = true → ∀ (p q : Nat) (f g : Foot), p < q → fs[p]? = some f → fs[q]? = some g → ((bs.getD q 0).testBit (i + p) || footOk f g) = true
  | [], bs, i, h, p, q, f, g, hpq, hf, hg => by simp at hf
  | f0 :: r, [], i, h, p, q, f, g, hpq, hf, hg => by simp [feetOk] at h
  | f0 :: r, b :: bs, i, h, p, q, f, g, hpq, hf, hg => by
    rw [feetOk, Bool.and_eq_true] at h
    obtain ⟨q, rfl⟩ : ∃ q', q = q' + 1 := ⟨q - 1, by omega⟩
    have hg : r[q]? = some g := by simpa using hg
    cases p with
    | zero =>
      simp at hf; subst hf
      have := feetOk1_spec h.1 q g hg
      simpa using this
    | succ p =>
      have := feetOk_spec h.2 p q f g (by omega) (by simpa using hf) hg
      rw [show i + (p + 1) = i + 1 + p by omega]
      simpa using this

omit [Syms] in
theorem disj_spec {a b : List Nat} (h : disj a b = true) {x : Nat} (h1 : x ∈ a) (h2 : x ∈ b) : False := by
  unfold disj at h
  have := List.all_eq_true.1 h x h1
  rw [(isIn_iff x b).2 h2] at this
  cases this

omit [Syms] in
theorem footOk_bar {f g : Foot} (h : footOk f g = true) : f.bar = false ∧ g.bar = false := by
  unfold footOk at h
  cases hf : f.bar <;> cases hg : g.bar <;> simp [hf, hg] at h <;> exact ⟨rfl, rfl⟩

omit [Syms] in
theorem footOk_spec {f g : Foot} (h : footOk f g = true) : (∀ x, x ∈ f.wr → x ∉ g.rd) ∧ (∀ x, x ∈ f.wr → x ∉ g.wr) ∧ (∀ x, x ∈ g.wr → x ∉ f.rd) := by
  obtain ⟨b1, b2⟩ := footOk_bar h
  unfold footOk at h
  rw [b1, b2] at h
  rw [Bool.or_self, cond_false, Bool.and_eq_true] at h
  exact ⟨fun x h1 h2 => disj_spec h.1 h1 (List.mem_append.2 (.inl h2)), fun x h1 h2 => disj_spec h.1 h1 (List.mem_append.2 (.inr h2)), fun x h1 h2 => disj_spec h.2 h1 h2⟩

omit [Syms] in
theorem edgesLow_spec : ∀ {l : List Oper} {i : Nat}, edgesLow l i = true → ∀ (j : Nat) (o : Oper), l[j]? = some o → ∀ e ∈ o.after.toList, Region.binds .any e = true → e.on < i + j
  | [], i, h, j, o, ho => by simp at ho
  | o0 :: r, i, h, j, o, ho => by
    intro e he hb
    rw [edgesLow, Bool.and_eq_true] at h
    cases j with
    | zero =>
      simp at ho; subst ho
      have := List.all_eq_true.1 h.1 e he
      rw [hb] at this
      simp only [Bool.not_true, Bool.false_or] at this
      exact blt_lt this
    | succ j =>
      have := edgesLow_spec h.2 j o (by simpa using ho) e he hb
      omega

end Go.Proofs.Ytmkmjjodiicmlaa.VS

/- A region whose order is drawn: what it leaves, on both sides. Conditions: none. -/
namespace Go.Proofs.Ytmkmjjodiicmlaa.VS
variable [Syms]

section congr
variable {c : Ctx} {m : Map} {H H' : Heap} {F F' : List Nat} {w : World}

omit [Syms] in
theorem okB_congr (hH : ∀ b, hget H' b = hget H b) (hF : FAgree F F') (X : Nat → Prop) (m : Map) : okB X m H' F' = okB X m H F := by
  funext β
  unfold okB
  simp only [hH]
  have : ∀ b, b ∈ F' ↔ b ∈ F := fun b => by rw [← isIn_iff, ← isIn_iff, hF b]
  simp only [this]

theorem SR.congr (hs : SR c m H F w) (hH : ∀ b, hget H' b = hget H b) (hF : FAgree F F') : SR c m H' F' w := by
  refine ⟨hs.xlt, fun b o hb => ?_, fun b o b' o' L L' β h1 h2 => ?_, fun b o L β hb => ?_, fun b o L β hb => ?_, hs.keep⟩
  · rw [okB_congr hH hF]; rw [hH] at hb; exact hs.all b o hb
  · rw [hH] at h1 h2; exact hs.injf b o b' o' L L' β h1 h2
  · rw [hH] at hb; exact hs.noxf b o L β hb
  · rw [hH] at hb; exact hs.ownf b o L β hb

structure StEq (n : Nat) (u s : St) : Prop where
  fr : ∀ t, s.fr.get t = u.fr.get t
  H : ∀ b, hget s.H b = hget u.H b
  F : FAgree u.F s.F
  nx : s.nx = u.nx
  has : ∀ k, k < n → s.fr.has k = true

theorem At.congr {n : Nat} {u s : St} {a : Act} (ha : At n c m u a w) (h : StEq n u s) : At n c m s a w :=
  ⟨ha.sr.congr h.H h.F, fun t => by rw [okB_congr h.H h.F, h.fr]; exact ha.fr t, h.has, ha.sz, by rw [h.nx]; exact ha.nx⟩

omit [Syms] in
theorem Moves.congr {n : Nat} {m0 : Map} {s0 u s : St} {w0 : World} {lo : Nat} (hm : Moves c m0 s0 w0 lo m u w) (h : StEq n u s) : Moves c m0 s0 w0 lo m s w :=
  ⟨⟨hm.ext.mm, by rw [okB_congr h.H h.F]; exact hm.ext.kk⟩, by rw [h.nx]; exact hm.le, by rw [h.nx]; exact hm.dom⟩

end congr

/-- A region's trace, in the order of the text: its first operations. -/
structure Trace (E : Env) (ops : Array Oper) (n base : Nat) (st : Nat → St) (fs : List Foot) (N : Nat) : Prop where
  lim : N ≤ ops.size
  len : fs.length = N
  step : ∀ j o, j < N → ops[j]? = some o → ∃ f, fs[j]? = some f ∧ stepD E ops.toList (base + STRIDE * j) o (st j) = .at (st (j + 1)) [f]
  feet : feetOk fs (befL ops.toList []) 0 = true
  slots : feetOk (ops.toList.map (slotsOf ops.toList)) (befL ops.toList []) 0 = true
  low : edgesLow ops.toList 0 = true
  has : ∀ k, k < n → (st 0).fr.has k = true
  dst : ∀ (i : Nat) (o : Oper), ops[i]? = some o → dstOk n o

def bf (ops : Array Oper) (i j : Nat) : Prop := ((befL ops.toList []).getD i 0).testBit j = true

section
variable {E : Env} {ops : Array Oper} {n base N : Nat} {st : Nat → St} {fs : List Foot} (tr : Trace E ops n base st fs N)
include tr

omit [Syms] in
theorem Trace.slotFoot {p q : Nat} {op oq : Oper} (hpq : p < q) (hp : ops[p]? = some op) (hq : ops[q]? = some oq) : bf ops q p ∨ footOk (slotsOf ops.toList op) (slotsOf ops.toList oq) = true := by
  have := feetOk_spec tr.slots p q (slotsOf ops.toList op) (slotsOf ops.toList oq) hpq (by simp [hp]) (by simp [hq])
  rw [Nat.zero_add, Bool.or_eq_true] at this
  exact this

omit [Syms] in
theorem Trace.heapFoot {p q : Nat} {f g : Foot} (hpq : p < q) (hp : fs[p]? = some f) (hq : fs[q]? = some g) : bf ops q p ∨ footOk f g = true := by
  have := feetOk_spec tr.feet p q f g hpq hp hq
  rw [Nat.zero_add, Bool.or_eq_true] at this
  exact this

omit [Syms] in
theorem Trace.lt {j : Nat} {f : Foot} (hf : fs[j]? = some f) : j < N := by
  have := (List.getElem?_eq_some_iff.1 hf).1
  rw [tr.len] at this; exact this

omit [Syms] in
theorem Trace.stepG {j : Nat} {o : Oper} {f : Foot} (ho : ops[j]? = some o) (hf : fs[j]? = some f) : (∀ k, (st (j + 1)).fr.has k = (st j).fr.has k) ∧ (∀ t, o.dst ≠ some t → (st (j + 1)).fr.get t = (st j).fr.get t) ∧ (f.bar = false → StepD o f (st j) (st (j + 1))) := by
  obtain ⟨f', h1, h2⟩ := tr.step j o (tr.lt hf) ho
  rw [hf] at h1; cases h1
  obtain ⟨f'', h3, h4, h5, _, h6⟩ := stepD_sound h2
  cases h3
  exact ⟨h4, h5, fun hb => (h6 hb).1⟩

omit [Syms] in
theorem Trace.foot {j : Nat} (hj : j < N) : ∃ f, fs[j]? = some f := ⟨fs[j]'(by rw [tr.len]; exact hj), List.getElem?_eq_getElem _⟩

omit [Syms] in
theorem Trace.has' : ∀ {k : Nat}, k ≤ N → ∀ i, (st k).fr.has i = (st 0).fr.has i
  | 0, _ => fun _ => rfl
  | k + 1, hk => fun i => by
    have ho := Array.getElem?_eq_getElem (xs := ops) (show k < ops.size by have := tr.lim; omega)
    obtain ⟨f, hf⟩ := tr.foot (show k < N by omega)
    exact ((tr.stepG ho hf).1 i).trans (Trace.has' (k := k) (by omega) i)

omit [Syms] in
theorem Trace.same {p : Nat} : ∀ {k : Nat}, p ≤ k → k ≤ N → (∀ j f, p ≤ j → j < k → fs[j]? = some f → f.bar = false) → (st k).F = (st p).F ∧ (st k).nx = (st p).nx
  | 0, h1, _, _ => by rw [Nat.le_zero.1 h1]; exact ⟨rfl, rfl⟩
  | k + 1, h1, h2, h3 => by
    by_cases e : p = k + 1
    · rw [e]; exact ⟨rfl, rfl⟩
    · have ho := Array.getElem?_eq_getElem (xs := ops) (show k < ops.size by have := tr.lim; omega)
      obtain ⟨f, hf⟩ := tr.foot (show k < N by omega)
      have hs := (tr.stepG ho hf).2.2 (h3 k f (by omega) (by omega) hf)
      obtain ⟨g1, g2⟩ := Trace.same (k := k) (by omega) (by omega) fun j f a b c => h3 j f a (by omega) c
      exact ⟨hs.F.trans g1, hs.nx.trans g2⟩

omit [Syms] in
theorem Trace.slot {p t : Nat} : ∀ {k : Nat}, p ≤ k → k ≤ N → (∀ j o, p ≤ j → j < k → ops[j]? = some o → o.dst ≠ some t) → (st k).fr.get t = (st p).fr.get t
  | 0, h1, _, _ => by rw [Nat.le_zero.1 h1]
  | k + 1, h1, h2, h3 => by
    by_cases e : p = k + 1
    · rw [e]
    · have ho := Array.getElem?_eq_getElem (xs := ops) (show k < ops.size by have := tr.lim; omega)
      obtain ⟨f, hf⟩ := tr.foot (show k < N by omega)
      rw [(tr.stepG ho hf).2.1 t (h3 k _ (by omega) (by omega) ho)]
      exact Trace.slot (by omega) (by omega) fun j o a b c => h3 j o a (by omega) c

omit [Syms] in
theorem Trace.cell {p b : Nat} : ∀ {k : Nat}, p ≤ k → k ≤ N → (∀ j f, p ≤ j → j < k → fs[j]? = some f → ¬ (b ∈ f.wr ∨ f.bar = true)) → hget (st k).H b = hget (st p).H b
  | 0, h1, _, _ => by rw [Nat.le_zero.1 h1]
  | k + 1, h1, h2, h3 => by
    by_cases e : p = k + 1
    · rw [e]
    · have ho := Array.getElem?_eq_getElem (xs := ops) (show k < ops.size by have := tr.lim; omega)
      obtain ⟨f, hf⟩ := tr.foot (show k < N by omega)
      have h4 := h3 k f (by omega) (by omega) hf
      have hb : f.bar = false := by cases hb : f.bar with
        | false => rfl
        | true => exact absurd (.inr hb) h4
      rw [((tr.stepG ho hf).2.2 hb).hp b (fun hw => h4 (.inl hw))]
      exact Trace.cell (by omega) (by omega) fun j o a b c => h3 j o a (by omega) c

omit tr in
/-- What has been done so far. -/
structure Inv (ops : Array Oper) (st : Nat → St) (fs : List Foot) (N : Nat) (S : Nat → Prop) (u : St) : Prop where
  fr : ∀ t k, k ≤ N → (∀ j o, ops[j]? = some o → o.dst = some t → (S j ↔ j < k)) → u.fr.get t = (st k).fr.get t
  hp : ∀ b k, k ≤ N → (∀ j f, j < ops.size → fs[j]? = some f → (b ∈ f.wr ∨ f.bar = true) → (S j ↔ j < k)) → hget u.H b = hget (st k).H b
  F : ∀ k, k ≤ N → (∀ j f, j < ops.size → fs[j]? = some f → f.bar = true → (S j ↔ j < k)) → FAgree (st k).F u.F ∧ u.nx = (st k).nx
  has : ∀ k, u.fr.has k = (st 0).fr.has k
  closed : ∀ i, i < ops.size → S i → ∀ j, bf ops i j → S j

omit [Syms] in
/-- The state of the text's own order is one. -/
theorem Trace.inv {S : Nat → Prop} {p : Nat} (hp : p ≤ N) (hS : ∀ j, j < ops.size → (S j ↔ j < p)) (hc : ∀ i, i < ops.size → S i → ∀ j, bf ops i j → S j) : Inv ops st fs N S (st p) := by
  have hlim := tr.lim
  refine ⟨fun t k hk h => ?_, fun b k hk h => ?_, fun k hk h => ?_, tr.has' hp, hc⟩
  · rcases Nat.le_total p k with hle | hle
    · exact (tr.slot hle hk fun j o h1 h2 ho hd => by
        have hj := (Array.getElem?_eq_some_iff.1 ho).1
        have := (h j o ho hd).2 h2
        rw [hS j hj] at this; omega).symm
    · exact tr.slot hle hp fun j o h1 h2 ho hd => by
        have hj := (Array.getElem?_eq_some_iff.1 ho).1
        have := (h j o ho hd).1 ((hS j hj).2 h2)
        omega
  · rcases Nat.le_total p k with hle | hle
    · exact (tr.cell hle hk fun j f h1 h2 hf hw => by
        have := (h j f (by omega) hf hw).2 h2
        rw [hS j (by omega)] at this; omega).symm
    · exact tr.cell hle hp fun j f h1 h2 hf hw => by
        have := (h j f (by omega) hf hw).1 ((hS j (by omega)).2 h2)
        omega
  · rcases Nat.le_total p k with hle | hle
    · obtain ⟨g1, g2⟩ := tr.same hle hk fun j f h1 h2 hf => by
        cases hb : f.bar with
        | false => rfl
        | true =>
          have := (h j f (by omega) hf hb).2 h2
          rw [hS j (by omega)] at this; omega
      exact ⟨by rw [g1]; exact fun _ => rfl, g2.symm⟩
    · obtain ⟨g1, g2⟩ := tr.same hle hp fun j f h1 h2 hf => by
        cases hb : f.bar with
        | false => rfl
        | true =>
          have := (h j f (by omega) hf hb).1 ((hS j (by omega)).2 h2)
          omega
      exact ⟨by rw [g1]; exact fun _ => rfl, g2⟩

omit [Syms] in
theorem Trace.start {S : Nat → Prop} (hS : ∀ j, ¬ S j) : Inv ops st fs N S (st 0) :=
  tr.inv (Nat.zero_le _) (fun j _ => ⟨fun h => absurd h (hS j), fun h => by omega⟩) fun i _ h => absurd h (hS i)

omit [Syms] in
theorem Trace.next {S S' : Nat → Prop} {u : St} (hv : Inv ops st fs N S u) {i : Nat} {o : Oper} {f : Foot} (ho : ops[i]? = some o) (hf : fs[i]? = some f) (hbar : f.bar = false) (hi : ¬ S i) (hb : ∀ j, bf ops i j → S j) (hS' : ∀ j, S' j ↔ (S j ∨ j = i)) :
    ∃ u', stepOp E ops.toList (base + STRIDE * i) o u = .at u' ∧ u'.nx = u.nx ∧ Inv ops st fs N S' u' := by
  have hilt : i < ops.size := (Array.getElem?_eq_some_iff.1 ho).1
  have hlim := tr.lim
  have hiN : i < N := tr.lt hf
  obtain ⟨f', hf', hstep⟩ := tr.step i o hiN ho
  rw [hf] at hf'; cases hf'
  obtain ⟨f'', h3, _, _, _, hgood⟩ := stepD_sound hstep
  cases h3
  obtain ⟨hsd, hsu⟩ := hgood hbar
  have heapSide : ∀ j fj, j < ops.size → fs[j]? = some fj → (bf ops i j ∨ bf ops j i → False) → j ≠ i → footOk f fj = true ∨ footOk fj f = true := by
    intro j fj hjl hj hn hne
    rcases Nat.lt_or_gt_of_ne hne with h | h
    · rcases tr.heapFoot h hj hf with h' | h'
      · exact (hn (.inl h')).elim
      · exact .inr h'
    · rcases tr.heapFoot h hf hj with h' | h'
      · exact (hn (.inr h')).elim
      · exact .inl h'
  have atI : ∀ j fj, j < ops.size → fs[j]? = some fj → (∀ g, footOk f g = true ∨ footOk g f = true → g = fj → False) → j ≠ i → (S j ↔ j < i) := by
    intro j fj hjl hj hno hne
    rcases Nat.lt_trichotomy j i with hji | hji | hji
    · refine ⟨fun _ => hji, fun _ => ?_⟩
      rcases tr.heapFoot hji hj hf with h | h
      · exact hb j h
      · exact (hno fj (.inr h) rfl).elim
    · exact absurd hji hne
    · refine ⟨fun h => ?_, fun h => by omega⟩
      rcases tr.heapFoot hji hf hj with h' | h'
      · exact absurd (hv.closed j hjl h i h') hi
      · exact (hno fj (.inl h') rfl).elim
  have noBar : ∀ j fj, j < ops.size → fs[j]? = some fj → fj.bar = true → (S j ↔ j < i) := by
    intro j fj hjl hj hbj
    by_cases hne : j = i
    · subst hne; rw [hf] at hj; cases hj; rw [hbar] at hbj; cases hbj
    · refine atI j fj hjl hj (fun g hg e => ?_) hne
      subst e
      rcases hg with hg | hg
      · rw [(footOk_bar hg).2] at hbj; cases hbj
      · rw [(footOk_bar hg).1] at hbj; cases hbj
  obtain ⟨F1, F2⟩ := hv.F i (by omega) noBar
  obtain ⟨u', g1, g2⟩ := hsu u F1 (fun t ht => by
      refine hv.fr t i (by omega) fun j oj hj hd => ?_
      rcases Nat.lt_trichotomy j i with hji | hji | hji
      · refine ⟨fun _ => hji, fun _ => ?_⟩
        rcases tr.slotFoot hji hj ho with h | h
        · exact hb j h
        · exact absurd ht ((footOk_spec h).1 t (by simp [slotsOf, hd, optL]))
      · subst hji; exact ⟨fun h => absurd h hi, fun h => absurd h (Nat.lt_irrefl _)⟩
      · refine ⟨fun h => ?_, fun h => by omega⟩
        rcases tr.slotFoot hji ho hj with h' | h'
        · exact absurd (hv.closed j (Array.getElem?_eq_some_iff.1 hj).1 h i h') hi
        · exact absurd ht ((footOk_spec h').2.2 t (by simp [slotsOf, hd, optL])))
    (fun b hbr => by
      refine hv.hp b i (by omega) fun j fj hjl hj hw => ?_
      rcases hw with hw | hw
      · by_cases hne : j = i
        · subst hne; exact ⟨fun h => absurd h hi, fun h => absurd h (Nat.lt_irrefl _)⟩
        · rcases Nat.lt_or_gt_of_ne hne with hji | hji
          · refine ⟨fun _ => hji, fun _ => ?_⟩
            rcases tr.heapFoot hji hj hf with h | h
            · exact hb j h
            · exact absurd hbr ((footOk_spec h).1 b hw)
          · refine ⟨fun h => ?_, fun h => by omega⟩
            rcases tr.heapFoot hji hf hj with h' | h'
            · exact absurd (hv.closed j hjl h i h') hi
            · exact absurd hbr ((footOk_spec h').2.2 b hw)
      · exact noBar j fj hjl hj hw)
    (fun t ht => by
      have := tr.has t (tr.dst i o ho t ht)
      exact ⟨by rw [tr.has' (by omega)]; exact this, by rw [hv.has]; exact this⟩)
  -- what comes behind i and was done already does not clash with it
  have later : ∀ j fj, i < j → j < ops.size → fs[j]? = some fj → S j → footOk f fj = true := by
    intro j fj hij hjl hj hs
    rcases tr.heapFoot hij hf hj with h' | h'
    · exact absurd (hv.closed j hjl hs i h') hi
    · exact h'
  refine ⟨u', g1, g2.nx, fun t k hk h => ?_, fun b k hk h => ?_, fun k hk h => ?_, fun k => (g2.has k).trans (hv.has k), fun j hj hSj q hq => ?_⟩
  · by_cases hd : o.dst = some t
    · have hik : i < k := (h i o ho hd).1 ((hS' i).2 (.inr rfl))
      rw [g2.dst t hd]
      refine (tr.slot (p := i + 1) hik hk fun j oj h1 h2 hj hdj => ?_).symm
      rcases (hS' j).1 ((h j oj hj hdj).2 h2) with hs | hs
      · rcases tr.slotFoot (show i < j by omega) ho hj with h' | h'
        · exact hi (hv.closed j (by omega) hs i h')
        · exact (footOk_spec h').2.1 t (by simp [slotsOf, hd, optL]) (by simp [slotsOf, hdj, optL])
      · omega
    · rw [g2.fr t hd]
      refine hv.fr t k hk fun j oj hj hdj => ?_
      rw [← h j oj hj hdj, hS' j]
      refine ⟨.inl, fun hh => hh.resolve_right fun e => ?_⟩
      subst e
      rw [ho] at hj; cases hj
      exact hd hdj
  · by_cases hw : b ∈ f.wr
    · have hik : i < k := (h i f hilt hf (.inl hw)).1 ((hS' i).2 (.inr rfl))
      rw [g2.hw b hw]
      refine (tr.cell (p := i + 1) hik hk fun j fj h1 h2 hj hwj => ?_).symm
      rcases (hS' j).1 ((h j fj (by omega) hj hwj).2 h2) with hs | hs
      · have hok := later j fj (by omega) (by omega) hj hs
        rcases hwj with hwj | hwj
        · exact (footOk_spec hok).2.1 b hw hwj
        · rw [(footOk_bar hok).2] at hwj; cases hwj
      · omega
    · rw [g2.hp b hw]
      refine hv.hp b k hk fun j fj hjl hj hwj => ?_
      rw [← h j fj hjl hj hwj, hS' j]
      refine ⟨.inl, fun hh => hh.resolve_right fun e => ?_⟩
      subst e
      rw [hf] at hj; cases hj
      rcases hwj with hwj | hwj
      · exact hw hwj
      · rw [hbar] at hwj; cases hwj
  · obtain ⟨k1, k2⟩ := hv.F k hk fun j fj hjl hj hbj => by
      rw [← h j fj hjl hj hbj, hS' j]
      refine ⟨.inl, fun hh => hh.resolve_right fun e => ?_⟩
      subst e
      rw [hf] at hj; cases hj
      rw [hbar] at hbj; cases hbj
    exact ⟨fun b => (g2.F b).trans (k1 b), g2.nx.trans k2⟩
  · rcases (hS' j).1 hSj with hs | rfl
    · exact (hS' q).2 (.inl (hv.closed j hj hs q hq))
    · exact (hS' q).2 (.inl (hb q hq))

omit [Syms] in
theorem Trace.stop {S : Nat → Prop} {u : St} {p : Nat} (hv : Inv ops st fs N S u) (hp : p ≤ N) (hS : ∀ j, j < ops.size → (S j ↔ j < p)) : StEq n u (st p) := by
  obtain ⟨k1, k2⟩ := hv.F p hp fun j f hj _ _ => hS j hj
  refine ⟨fun t => ?_, fun b => ?_, fun b => (k1 b).symm, k2.symm, fun k hk => by rw [tr.has' hp]; exact tr.has k hk⟩
  · exact (hv.fr t p hp fun j o hj _ => hS j (Array.getElem?_eq_some_iff.1 hj).1).symm
  · exact (hv.hp b p hp fun j f hj _ _ => hS j hj).symm

omit [Syms] in
/-- An operation that has the heap for itself: what comes ahead of it in the text was done, no more. -/
theorem Trace.alone {S : Nat → Prop} {u : St} (hv : Inv ops st fs N S u) {i : Nat} {f : Foot} (hi' : i < ops.size) (hf : fs[i]? = some f) (hbar : f.bar = true) (hi : ¬ S i) (hb : ∀ j, bf ops i j → S j) (hsub : ∀ j, S j → j < N) : ∀ j, j < ops.size → (S j ↔ j < i) := by
  intro j hj
  have hiN := tr.lt hf
  by_cases hjN : j < N
  case neg => exact ⟨fun h => absurd (hsub j h) hjN, fun h => by omega⟩
  obtain ⟨fj, hfj⟩ := tr.foot hjN
  rcases Nat.lt_trichotomy j i with hji | hji | hji
  · refine ⟨fun _ => hji, fun _ => ?_⟩
    rcases tr.heapFoot hji hfj hf with h | h
    · exact hb j h
    · rw [(footOk_bar h).2] at hbar; cases hbar
  · subst hji; exact ⟨fun h => absurd h hi, fun h => absurd h (Nat.lt_irrefl _)⟩
  · refine ⟨fun h => ?_, fun h => by omega⟩
    rcases tr.heapFoot hji hf hfj with h' | h'
    · exact absurd (hv.closed j hj h i h') hi
    · rw [(footOk_bar h').1] at hbar; cases hbar

omit tr in
omit [Syms] in
theorem countP_less {p q : Nat → Bool} {i : Nat} : ∀ (l : List Nat), i ∈ l → p i = true → q i = false → (∀ j, q j = true → p j = true) → l.countP q < l.countP p
  | [], h, _, _, _ => by simp at h
  | a :: l, h, hp, hq, hj => by
    have hle : l.countP q ≤ l.countP p := List.countP_mono_left fun x _ hx => hj x hx
    rcases List.mem_cons.1 h with rfl | h
    · rw [List.countP_cons_of_pos hp, List.countP_cons_of_neg (by simp [hq])]
      omega
    · have ih := countP_less l h hp hq hj
      by_cases hqa : q a = true
      · rw [List.countP_cons_of_pos hqa, List.countP_cons_of_pos (hj a hqa)]; omega
      · rw [List.countP_cons_of_neg hqa]
        have : l.countP p ≤ (a :: l).countP p := by rw [List.countP_cons]; omega
        omega

def listedIn (listed : Array Bool) (j : Nat) : Prop := listed.getD j false = true

end

omit [Syms] in
theorem bf_lt {ops : Array Oper} (hlow : edgesLow ops.toList 0 = true) : ∀ i, i < ops.size → ∀ j, bf ops i j → j < i := by
  intro i
  induction i using Nat.strongRecOn with
  | _ i ih =>
    intro hi j hj
    have ho := Array.getElem?_eq_getElem (xs := ops) hi
    have ho' : ops.toList[i]? = some ops[i] := by rw [Array.getElem?_toList]; exact ho
    obtain ⟨e, k1, k2, _, k4⟩ := (befL_spec ops.toList []).2 i j _ ho' (by simpa [bf] using hj)
    have := edgesLow_spec hlow i _ ho' e k1 k2
    rcases k4 with rfl | k4
    · omega
    · have := ih e.on (by omega) (by omega) j k4
      omega

/-- The last operations, each behind all that come before it: their order is the text's. -/
def CutOK (ops : Array Oper) (N : Nat) : Prop := ∀ i j, N ≤ i → i < ops.size → j < i → bf ops i j

omit [Syms] in
theorem ready_all {ops : Array Oper} (hlow : edgesLow ops.toList 0 = true) {listed : Array Bool} (hsz : listed.size = ops.size) (hr : Region.ready .any ops listed = []) : ∀ j, j < ops.size → listedIn listed j := by
  intro j
  induction j using Nat.strongRecOn with
  | _ j ih =>
    intro hj
    unfold listedIn
    cases hl : listed.getD j false with
    | true => rfl
    | false =>
      exfalso
      have ho := Array.getElem?_eq_getElem (xs := ops) hj
      have hm : j ∈ Region.ready .any ops listed := by
        rw [mem_ready]
        refine ⟨?_, _, ho, fun e he hb => ?_⟩
        · simp [hsz, hj] at hl ⊢; exact hl
        · have := edgesLow_spec hlow j _ (by rw [Array.getElem?_toList]; exact ho) e (by simpa using he) hb
          exact ih e.on (by omega) (by omega)
      rw [hr] at hm; cases hm

omit [Syms] in
theorem forced {P : Program} {ops : Array Oper} {N : Nat} (hlow : edgesLow ops.toList 0 = true) (hcut : CutOK ops N) {Q : Exit → Act → World → Prop} : ∀ (d i fuel : Nat) (listed : Array Bool) (a : Act) (w : World), ops.size - i = d → N ≤ i → i ≤ ops.size → listed.size = ops.size →
    (∀ j, j < ops.size → (listedIn listed j ↔ j < i)) → d ≤ fuel → wpOps P ops Q (List.range' i d) a w → wpAny P .any ops Q fuel listed a w := by
  intro d
  induction d with
  | zero =>
    intro i fuel listed a w hd hN hi hsz hl hf h
    have hq : Q .normal a w := h
    have hno : Region.ready .any ops listed = [] := by
      cases hr : Region.ready .any ops listed with
      | nil => rfl
      | cons q r =>
        exfalso
        have hm : q ∈ Region.ready .any ops listed := by rw [hr]; simp
        obtain ⟨h0, o, ho, _⟩ := mem_ready.1 hm
        have hq := (Array.getElem?_eq_some_iff.1 ho).1
        have := (hl q hq).2 (by omega)
        unfold listedIn at this
        simp [hsz, hq] at h0 this
        rw [h0] at this; cases this
    cases fuel with
    | zero => exact ⟨hno, hq⟩
    | succ fuel => exact ⟨fun _ => hq, fun i hi => by rw [hno] at hi; cases hi⟩
  | succ d ih =>
    intro i fuel listed a w hd hN hi hsz hl hf h
    cases fuel with
    | zero => omega
    | succ fuel =>
      rw [List.range'_succ, wpOps_cons] at h
      have hilt : i < ops.size := by omega
      refine ⟨fun hr => ?_, fun q hq => ?_⟩
      · have := (hl i hilt).1 (ready_all hlow hsz hr i hilt)
        omega
      · obtain ⟨h0, o, ho, hedge⟩ := mem_ready.1 hq
        have hqlt := (Array.getElem?_eq_some_iff.1 ho).1
        have hqi : q = i := by
          have hge : ¬ q < i := fun hlt => by
            have := (hl q hqlt).2 hlt
            unfold listedIn at this
            simp [hsz, hqlt] at h0 this
            rw [h0] at this; cases this
          by_cases e : q = i
          · exact e
          · exfalso
            have hb := hcut q i (by omega) hqlt (by omega)
            have ho' : ops.toList[q]? = some o := by rw [Array.getElem?_toList]; exact ho
            obtain ⟨e, k1, k2, _, k4⟩ := (befL_spec ops.toList []).2 q i o ho' (by simpa [bf] using hb)
            have hon : listedIn listed e.on := hedge e (by simpa using k1) k2
            have hlt := edgesLow_spec hlow q o ho' e k1 k2
            have h1 := (hl e.on (by omega)).1 hon
            rcases k4 with k4 | k4
            · omega
            · have := bf_lt hlow e.on (by omega) i k4
              omega
        subst hqi
        refine wpOp_mono (fun a w h => ih (q + 1) fuel _ a w (by omega) (by omega) (by omega) (by simpa using hsz) (fun j hj => ?_) (by omega) h) h
        unfold listedIn
        by_cases hjq : j = q
        · subst hjq; simp [hsz, hqlt]
        · rw [getD_set_ne false (Ne.symm hjq)]
          have := hl j hj
          unfold listedIn at this
          rw [this]; omega

section
variable {P : Program} {T : Tabs} {c : Ctx} {E : Env} {ops : Array Oper} {n base N : Nat} {st : Nat → St} {fs : List Foot}

theorem sim_any (hT : TyOK P T) (hE : E.T = T) (hC : CallOK P E.call) (tr : Trace E ops n base st fs N) (hcut : CutOK ops N) {Q : Exit → Act → World → Prop} {m0 : Map} {w0 : World} {d0 : List Deferred}
    (hQ : ∀ a' w' m', At n c m' (st N) a' w' → a'.defers = d0 → Moves c m0 (st 0) w0 base m' (st N) w' → (∀ i, N ≤ i → i < ops.size → ∀ b, base + STRIDE * i ≤ b → b < base + STRIDE * i + STRIDE → m' b = none) → base + STRIDE * ops.size ≤ (st N).nx → wpOps P ops Q (List.range' N (ops.size - N)) a' w') :
    ∀ (fuel : Nat) (listed : Array Bool) (m : Map) (w : World) (u : St) (a : Act), listed.size = ops.size → (List.range ops.size).countP (fun i => !listed.getD i false) ≤ fuel → Inv ops st fs N (listedIn listed) u → (∀ j, listedIn listed j → j < N) → At n c m u a w → a.defers = d0 →
      (∀ i, i < ops.size → ¬ listedIn listed i → ∀ b, base + STRIDE * i ≤ b → b < base + STRIDE * i + STRIDE → m b = none) → base + STRIDE * ops.size ≤ u.nx → Moves c m0 (st 0) w0 base m u w → wpAny P .any ops Q fuel listed a w := by
  intro fuel
  have hlim := tr.lim
  have atEnd : ∀ (fuel : Nat) (listed : Array Bool) (m : Map) (w : World) (u : St) (a : Act), listed.size = ops.size → ops.size - N ≤ fuel → Inv ops st fs N (listedIn listed) u → (∀ j, listedIn listed j → j < N) → At n c m u a w → a.defers = d0 →
      (∀ i, i < ops.size → ¬ listedIn listed i → ∀ b, base + STRIDE * i ≤ b → b < base + STRIDE * i + STRIDE → m b = none) → base + STRIDE * ops.size ≤ u.nx → Moves c m0 (st 0) w0 base m u w → (∀ j, j < N → listedIn listed j) → wpAny P .any ops Q fuel listed a w := by
    intro fuel listed m w u a hsz hf hv hsub ha hd hfree hlt hmv hall
    have hl : ∀ j, j < ops.size → (listedIn listed j ↔ j < N) := fun j _ => ⟨hsub j, hall j⟩
    have heq := tr.stop hv (Nat.le_refl _) hl
    refine forced tr.low hcut _ N fuel listed a w rfl (Nat.le_refl _) hlim hsz hl hf ?_
    exact hQ a w m (ha.congr heq) hd (hmv.congr heq) (fun i h1 h2 => hfree i h2 fun h => by have := hsub i h; omega) (by rw [heq.nx]; exact hlt)
  have count : ∀ (listed : Array Bool), (∀ j, listedIn listed j → j < N) → ops.size - N ≤ (List.range ops.size).countP (fun i => !listed.getD i false) := by
    intro listed hsub
    have h1 : (List.range ops.size).countP (fun i => decide (N ≤ i)) ≤ (List.range ops.size).countP (fun i => !listed.getD i false) := List.countP_mono_left fun x _ hx => by
      cases h : listed.getD x false with
      | false => rfl
      | true => have := hsub x h; simp at hx; omega
    have h2 : ∀ k, N ≤ k → (List.range k).countP (fun i => decide (N ≤ i)) = k - N := by
      intro k
      induction k with
      | zero => intro h; simp
      | succ k ih =>
        intro h
        rw [List.range_succ, List.countP_append, List.countP_singleton]
        by_cases hk : N ≤ k
        · rw [ih hk]; simp [hk]; omega
        · have : (List.range k).countP (fun i => decide (N ≤ i)) = 0 := List.countP_eq_zero.2 fun x hx => by simp at hx ⊢; omega
          rw [this]; simp [hk]; omega
    rw [h2 _ hlim] at h1; exact h1
  induction fuel with
  | zero =>
    intro listed m w u a hsz hcnt hv hsub ha hd hfree hlt hmv
    have hall : ∀ j, j < ops.size → listedIn listed j := by
      intro j hj
      have h0 : (List.range ops.size).countP (fun i => !listed.getD i false) = 0 := by omega
      have := List.countP_eq_zero.1 h0 j (List.mem_range.2 hj)
      unfold listedIn
      cases h : listed.getD j false with
      | true => rfl
      | false => rw [h] at this; simp at this
    exact atEnd 0 listed m w u a hsz (Nat.le_trans (count listed hsub) hcnt) hv hsub ha hd hfree hlt hmv fun j hj => hall j (by omega)
  | succ fuel ih =>
    intro listed m w u a hsz hcnt hv hsub ha hd hfree hlt hmv
    by_cases hall : ∀ j, j < N → listedIn listed j
    case pos => exact atEnd (fuel + 1) listed m w u a hsz (Nat.le_trans (count listed hsub) hcnt) hv hsub ha hd hfree hlt hmv hall
    refine ⟨fun hr => absurd (fun j hj => ready_all tr.low hsz hr j (by omega)) hall, fun i hi => ?_⟩
    · obtain ⟨h0, o, ho, hedge⟩ := mem_ready.1 hi
      have hilt := (Array.getElem?_eq_some_iff.1 ho).1
      have hnot : ¬ listedIn listed i := by
        unfold listedIn
        simp [hsz, hilt] at h0 ⊢
        exact h0
      have hbefore : ∀ j, bf ops i j → listedIn listed j := by
        intro j hj
        obtain ⟨e, k1, k2, k3, k4⟩ := (befL_spec ops.toList []).2 i j o (by rw [Array.getElem?_toList]; exact ho) (by simpa [bf] using hj)
        have hon : listedIn listed e.on := hedge e (by simpa using k1) k2
        rcases k4 with k4 | k4
        · rw [← k4]; exact hon
        · exact hv.closed e.on (by simp at k3; omega) hon j k4
      have hiN : i < N := by
        by_cases h : i < N
        · exact h
        · exact absurd (fun j hj => hbefore j (hcut i j (by omega) hilt (by omega))) hall
      have hset : ∀ j, listedIn (listed.setIfInBounds i true) j ↔ (listedIn listed j ∨ j = i) := by
        intro j
        unfold listedIn
        by_cases hji : j = i
        · subst hji; simp [hsz, hilt]
        · rw [getD_set_ne false (Ne.symm hji)]
          exact ⟨.inl, fun h => h.resolve_right hji⟩
      have hsub' : ∀ j, listedIn (listed.setIfInBounds i true) j → j < N := fun j hj => by
        rcases (hset j).1 hj with h | rfl
        · exact hsub j h
        · exact hiN
      have hmul : STRIDE * i + STRIDE ≤ STRIDE * ops.size := by
        rw [← Nat.mul_succ]; exact Nat.mul_le_mul_left _ hilt
      have hless := countP_less (p := fun j => !listed.getD j false) (q := fun j => !(listed.setIfInBounds i true).getD j false) (i := i) (List.range ops.size) (List.mem_range.2 hilt)
          (by unfold listedIn at hnot; simpa using hnot) (by have := (hset i).2 (.inr rfl); unfold listedIn at this; rw [this]; rfl) (fun j hj => by
            cases hl : listed.getD j false with
            | false => rfl
            | true =>
              have := (hset j).2 (.inl hl)
              unfold listedIn at this
              rw [this] at hj; exact hj)
      obtain ⟨f, hf⟩ := tr.foot hiN
      -- one step, from a state that stands for what is there
      have go : ∀ v v' : St, At n c m v a w → Moves c m0 (st 0) w0 base m v w → v.nx = u.nx → stepOp E ops.toList (base + STRIDE * i) o v = .at v' → Inv ops st fs N (listedIn (listed.setIfInBounds i true)) v' →
          wpOp P ops Q i (wpAny P .any ops Q fuel (listed.setIfInBounds i true)) a w := by
        intro v v' hav hmv' hnx hu hv'
        refine sim_step hT hE hC hav (hfree i hilt hnot) (by omega) ho (tr.dst i o ho) hu fun cv m1 w1 ha1 hmv1 hdom => ?_
        refine ih _ m1 w1 v' _ (by simpa using hsz) (by omega) hv' hsub' ha1 (by rw [put_defers]; exact hd) (fun j hj hnj b hb1 hb2 => ?_) (by have := hmv1.le; omega) (hmv'.trans ⟨hmv1.ext, hmv1.le, fun b hb => ?_⟩)
        · cases hm : m1 b with
          | none => rfl
          | some L =>
            exfalso
            have hji : j ≠ i := fun e => hnj ((hset j).2 (.inr e))
            have hnj' : ¬ listedIn listed j := fun h => hnj ((hset j).2 (.inl h))
            have hmulj : STRIDE * j + STRIDE ≤ STRIDE * ops.size := by
              rw [← Nat.mul_succ]; exact Nat.mul_le_mul_left _ hj
            rcases hdom b (by rw [hm]; simp) with h1 | ⟨h1, h2⟩ | ⟨h1, h2⟩
            · exact h1 (hfree j hj hnj' b hb1 hb2)
            · unfold STRIDE at *; omega
            · omega
        · rcases hmv1.dom b hb with h1 | ⟨h1, h2⟩
          · exact .inl h1
          · exact .inr ⟨by omega, h2⟩
      cases hbar : f.bar with
      | false =>
        obtain ⟨u', hu, hnx', hv'⟩ := tr.next hv ho hf hbar hnot hbefore hset
        exact go u u' ha hmv rfl hu hv'
      | true =>
        have hal := tr.alone hv hilt hf hbar hnot hbefore hsub
        have heq : StEq n u (st i) := tr.stop hv (by omega) hal
        obtain ⟨f', hf', hstep⟩ := tr.step i o hiN ho
        rw [hf] at hf'; cases hf'
        obtain ⟨f'', h3, _, _, hg, _⟩ := stepD_sound hstep
        cases h3
        have hu := hg hbar
        have hv' : Inv ops st fs N (listedIn (listed.setIfInBounds i true)) (st (i + 1)) := by
          refine tr.inv hiN (fun j hj => ?_) fun j hj hSj q hq => ?_
          · rw [hset j, hal j hj]; omega
          · rcases (hset j).1 hSj with hs | rfl
            · exact (hset q).2 (.inl (hv.closed j hj hs q hq))
            · exact (hset q).2 (.inl (hbefore q hq))
        exact go (st i) (st (i + 1)) (ha.congr heq) (hmv.congr heq) heq.nx hu hv'

end
end Go.Proofs.Ytmkmjjodiicmlaa.VS

/- The text of a function, and a call of it: what each leaves, on both sides. Conditions: none. -/
namespace Go.Proofs.Ytmkmjjodiicmlaa.VS
variable [Syms]

def AX.out : AX → Exit
  | .normal => .normal
  | .exit id => .exit id
  | .ret => .ret

section
variable {P : Program} {T : Tabs} {c : Ctx} {E : Env} {n : Nat}

omit [Syms] in
theorem Moves.lower {m m' : Map} {s s' : St} {w w' : World} {lo lo' : Nat} (h : Moves c m s w lo m' s' w') (hl : lo' ≤ lo) : Moves c m s w lo' m' s' w' :=
  ⟨h.ext, h.le, fun b hb => (h.dom b hb).imp id fun ⟨h1, h2⟩ => ⟨Nat.le_trans hl h1, h2⟩⟩

omit [Syms] in
theorem dstsOk_spec : ∀ {l : List Oper}, dstsOk n l = true → ∀ o ∈ l, dstOk n o
  | [], _, o, ho => by simp at ho
  | a :: r, h, o, ho => by
    rw [dstsOk, Bool.and_eq_true] at h
    rcases List.mem_cons.1 ho with rfl | ho
    · intro d hd
      have := h.1
      rw [hd] at this
      exact blt_lt this
    · exact dstsOk_spec h.2 o ho

omit [Syms] in
theorem dsts_of {ops : Array Oper} (h : dstsOk n ops.toList = true) (i : Nat) (o : Oper) (ho : ops[i]? = some o) : dstOk n o :=
  dstsOk_spec h o (List.mem_of_getElem? (by rw [Array.getElem?_toList]; exact ho))

theorem At.nxt {m : Map} {s : St} {a : Act} {w : World} (ha : At n c m s a w) (k : Nat) : At n c m (withF s s.F k) a w :=
  ⟨ha.sr, ha.fr, ha.has, ha.sz, fun b hb => ha.nx b (Nat.le_trans (Nat.le_add_right _ _) hb)⟩

/-- A region in the order of the text. -/
theorem sim_region (hT : TyOK P T) (hE : E.T = T) (hC : CallOK P E.call) {id : Nat} {ops : Array Oper} (hd : dstsOk n ops.toList = true) {m : Map} {s s' : St} {a : Act} {w : World} {x : AX} (h : aregion E ops.toList false s = .go x s') (ha : At n c m s a w) {Q : Exit → Act → World → Prop}
    (hQ : ∀ a' w' m', At n c m' s' a' w' → a'.defers = a.defers → Moves c m s w s.nx m' s' w' → Q x.out a' w') : (Code.region id ops false).wp P Q a w := by
  unfold aregion at h
  simp only [cond_false] at h
  unfold goN at h
  split at h
  · rename_i s1 hs1
    simp only [Out.go.injEq] at h
    obtain ⟨rfl, rfl⟩ := h
    have hs1' := hs1
    rw [show s.nx = s.nx + STRIDE * 0 from rfl, seqOps_seqI E ops.toList s.nx 0 ops.toList _ rfl, ← List.range_eq_range', Array.length_toList] at hs1'
    refine wp_region (sim_seqI hT hE hC (dsts_of hd) (List.range ops.size) List.nodup_range (ha.nxt ops.toList.length) (fun i hi b hb _ => ha.nx b (by omega)) (by simp [withF]) hs1' fun a' w' m' ha' hdf hmv => hQ a' w' m' ha' hdf ?_)
    exact ⟨hmv.ext, Nat.le_trans (Nat.le_add_right _ _) hmv.le, hmv.dom⟩
  · cases h

/-- A region whose order is drawn: its first operations in each order, the others in the text's; some numbers are written no more. -/
theorem sim_drawT (hT : TyOK P T) (hE : E.T = T) (hC : CallOK P E.call) (hmx : P.follows .mixedOrders = true) {id : Nat} {ops : Array Oper} (hd : dstsOk n ops.toList = true) (hok : drawOk ops.toList = true) {N : Nat} (hN : N ≤ ops.size) (hcut : CutOK ops N) {m : Map} {s s' : St} {a : Act} {w : World} {X : List Nat} {fs : List Foot}
    (hs2 : seqD E ops.toList (ops.toList.take N) s.nx (withF s (X ++ s.F) ops.toList.length) [] = .at s' fs) (hfeet : feetOk fs (befL ops.toList []) 0 = true) (ha : At n c m s a w) {Q : Exit → Act → World → Prop}
    (hQ : ∀ a' w' m', At n c m' s' a' w' → a'.defers = a.defers → Moves c m s w s.nx m' s' w' → (∀ i, N ≤ i → i < ops.size → ∀ b, s.nx + STRIDE * i ≤ b → b < s.nx + STRIDE * i + STRIDE → m' b = none) → s.nx + STRIDE * ops.size ≤ s'.nx → wpOps P ops Q (List.range' N (ops.size - N)) a' w') : (Code.region id ops true).wp P Q a w := by
  unfold drawOk at hok
  rw [Bool.and_eq_true] at hok
  have hs2' := hs2
  rw [show s.nx = s.nx + STRIDE * 0 from rfl] at hs2'
  obtain ⟨st, gs, h1, h2, h3, h4, h5⟩ := seqD_trace s.nx (ops.toList.take N) 0 _ _ _ _ hs2'
  rw [List.nil_append] at h3
  subst h3
  have hlen : (ops.toList.take N).length = N := by rw [List.length_take, Array.length_toList]; omega
  rw [Nat.zero_add, hlen] at h2
  have tr : Trace E ops n s.nx st fs N := ⟨hN, by rw [h4, hlen], fun j o hj ho => by
      obtain ⟨f, g1, g2⟩ := h5 j o (by rw [List.getElem?_take, if_pos hj, Array.getElem?_toList]; exact ho)
      rw [Nat.zero_add] at g2
      exact ⟨f, g1, g2⟩, hfeet, hok.2, hok.1, fun k hk => by rw [h1]; exact ha.has k hk, dsts_of hd⟩
  -- the count of draws turns, and some numbers are written no more
  obtain ⟨hx1, hsr1⟩ := ha.sr.still (w' := { w with drawn := w.drawn + 1 }) ⟨rfl, rfl, rfl⟩ rfl
  obtain ⟨hx2, hsr2⟩ := hsr1.freeze X
  have ha0 : At n c m (st 0) a { w with drawn := w.drawn + 1 } := by
    rw [h1]
    exact ⟨hsr2, FrR.ext (s := s) (hx1.trans hx2) ha.fr, ha.has, ha.sz, fun b hb => ha.nx b (Nat.le_trans (Nat.le_add_right _ _) hb)⟩
  refine wp_region_any hmx (sim_any hT hE hC tr hcut (m0 := m) (w0 := { w with drawn := w.drawn + 1 }) (d0 := a.defers) (fun a' w' m' ha' hdf hmv hfr hlt => ?_) ops.size _ m _ (st 0) a (by simp) ?_ ?_ ?_ ha0 rfl (fun i _ _ b hb _ => ha.nx b (by omega)) (by rw [h1]; simp [withF]) (Moves.refl _ _ _ _ _))
  · rw [h2] at ha' hmv hlt
    rw [h1] at hmv
    exact hQ a' w' m' ha' hdf ⟨(hx1.trans hx2).trans hmv.ext, Nat.le_trans (Nat.le_add_right _ _) hmv.le, hmv.dom⟩ hfr hlt
  · have := List.countP_le_length (p := fun i => !(Array.replicate ops.size false).getD i false) (l := List.range ops.size)
    simpa using this
  · exact tr.start fun j => by
      unfold listedIn
      by_cases hj : j < ops.size <;> simp [hj]
  · intro j hj
    exfalso
    unfold listedIn at hj
    by_cases h : j < ops.size <;> simp [h] at hj

/-- A region whose order is drawn: some numbers are written no more. -/
theorem sim_drawX (hT : TyOK P T) (hE : E.T = T) (hC : CallOK P E.call) (hmx : P.follows .mixedOrders = true) {id : Nat} {ops : Array Oper} (hd : dstsOk n ops.toList = true) (hok : drawOk ops.toList = true) {m : Map} {s s' : St} {a : Act} {w : World} {x : AX} {X : List Nat} (h : drawTry E ops.toList s X = .go x s') (ha : At n c m s a w) {Q : Exit → Act → World → Prop}
    (hQ : ∀ a' w' m', At n c m' s' a' w' → a'.defers = a.defers → Moves c m s w s.nx m' s' w' → Q x.out a' w') : (Code.region id ops true).wp P Q a w := by
  unfold drawTry drawn at h
  split at h
  · rename_i s2 fs hs2
    cases hfeet : feetOk fs (befL ops.toList []) 0 with
    | false => simp [hfeet] at h
    | true =>
      simp only [hfeet, cond_true, Out.go.injEq] at h
      obtain ⟨rfl, rfl⟩ := h
      refine sim_drawT hT hE hC hmx hd hok (N := ops.size) (Nat.le_refl _) (fun i j h1 h2 => by omega) (s' := s2) (X := X) (fs := fs) (by rw [← Array.length_toList, List.take_length]; exact hs2) hfeet ha fun a' w' m' ha' hdf hmv _ _ => ?_
      rw [Nat.sub_self]
      exact hQ a' w' m' ha' hdf hmv
  · cases h

/-- A region whose order is drawn. -/
theorem sim_draw (hT : TyOK P T) (hE : E.T = T) (hC : CallOK P E.call) (hmx : P.follows .mixedOrders = true) {id : Nat} {ops : Array Oper} (hd : dstsOk n ops.toList = true) (hok : drawOk ops.toList = true) {m : Map} {s s' : St} {a : Act} {w : World} {x : AX} (h : aregion E ops.toList true s = .go x s') (ha : At n c m s a w) {Q : Exit → Act → World → Prop}
    (hQ : ∀ a' w' m', At n c m' s' a' w' → a'.defers = a.defers → Moves c m s w s.nx m' s' w' → Q x.out a' w') : (Code.region id ops true).wp P Q a w := by
  unfold aregion at h
  simp only [cond_true] at h
  obtain ⟨X, h⟩ : ∃ X, drawTry E ops.toList s X = .go x s' := by
    unfold drawAgain at h
    split at h
    · rename_i x0 s0 h0
      exact ⟨[], h0.trans h⟩
    · split at h
      · exact ⟨_, h⟩
      · cases h
  · exact sim_drawX hT hE hC hmx hd hok h ha hQ

omit [Syms] in
theorem blockO_go {id : Nat} {q : Out} {x : AX} {s' : St} (h : blockO id q = .go x s') : ∃ y, q = .go y s' ∧ ((y = .exit id ∧ x = .normal) ∨ (y ≠ .exit id ∧ x = y)) := by
  unfold blockO at h
  split at h
  · rename_i k s1
    cases hk : k.beq id with
    | true =>
      simp only [hk, cond_true, Out.go.injEq] at h
      obtain ⟨rfl, rfl⟩ := h
      exact ⟨_, rfl, .inl ⟨by rw [Nat.eq_of_beq_eq_true hk], rfl⟩⟩
    | false =>
      simp only [hk, cond_false, Out.go.injEq] at h
      obtain ⟨rfl, rfl⟩ := h
      exact ⟨_, rfl, .inr ⟨fun e => (by cases e; rw [beq_same] at hk; cases hk), rfl⟩⟩
  · rename_i hne
    subst h
    exact ⟨x, rfl, .inr ⟨fun e => (by subst e; exact hne _ _ rfl), rfl⟩⟩

omit [Syms] in
theorem thenO_go {next : St → Out} {q : Out} {x : AX} {s' : St} (h : thenO next q = .go x s') : (∃ s1, q = .go .normal s1 ∧ next s1 = .go x s') ∨ (q = .go x s' ∧ x ≠ .normal) := by
  unfold thenO at h
  split at h
  · exact .inl ⟨_, rfl, h⟩
  · rename_i hne
    subst h
    exact .inr ⟨rfl, fun e => by subst e; exact hne _ rfl⟩

/-- The text of a function. -/
theorem sim_exec (hT : TyOK P T) (hE : E.T = T) (hC : CallOK P E.call) (hmx : P.follows .mixedOrders = true) (N : Nat) : ∀ (code : Code) {m : Map} {s s' : St} {a : Act} {w : World} {x : AX}, exec E N code s = .go x s' → codeOk n code = true → drawsOk code = true → At n c m s a w →
    ∀ {Q : Exit → Act → World → Prop}, (∀ a' w' m', At n c m' s' a' w' → a'.defers = a.defers → Moves c m s w s.nx m' s' w' → Q x.out a' w') → code.wp P Q a w := by
  intro code
  induction code with
  | skip =>
    intro m s s' a w x h _ _ ha Q hQ
    simp only [exec, Out.go.injEq] at h
    obtain ⟨rfl, rfl⟩ := h
    exact wp_skip (hQ a w m ha rfl (Moves.refl _ _ _ _ _))
  | label l =>
    intro m s s' a w x h _ _ ha Q hQ
    simp only [exec, Out.go.injEq] at h
    obtain ⟨rfl, rfl⟩ := h
    exact wp_label (hQ a w m ha rfl (Moves.refl _ _ _ _ _))
  | region id ops draw =>
    intro m s s' a w x h hc hd ha Q hQ
    rw [exec] at h
    cases draw with
    | false => exact sim_region hT hE hC hc h ha hQ
    | true =>
      have : drawOk ops.toList = true := by simpa [drawsOk] using hd
      exact sim_draw hT hE hC hmx hc this h ha hQ
  | seq c1 c2 ih1 ih2 =>
    intro m s s' a w x h hc hd ha Q hQ
    rw [exec] at h
    simp only [codeOk, drawsOk, Bool.and_eq_true] at hc hd
    rcases thenO_go h with ⟨s1, h1, h2⟩ | ⟨h1, hx⟩
    · refine wp_seq (ih1 h1 hc.1 hd.1 ha fun a1 w1 m1 ha1 hd1 hm1 => ?_)
      show Code.wp P c2 Q a1 w1
      exact ih2 h2 hc.2 hd.2 ha1 fun a' w' m' ha' hd' hm' => hQ a' w' m' ha' (hd'.trans hd1) (hm1.trans (hm'.lower hm1.le))
    · refine wp_seq (ih1 h1 hc.1 hd.1 ha fun a1 w1 m1 ha1 hd1 hm1 => ?_)
      have := hQ a1 w1 m1 ha1 hd1 hm1
      cases x with
      | normal => exact absurd rfl hx
      | exit id => exact this
      | ret => exact this
  | cond cd c1 c2 ih1 ih2 =>
    intro m s s' a w x h hc hd ha Q hQ
    rw [exec] at h
    simp only [codeOk, drawsOk, Bool.and_eq_true] at hc hd
    have hv := opnd_vr ha.fr cd
    split at h
    · rename_i hcd
      rw [hcd] at hv
      have : a.eval cd = .bool true := by cases hh : a.eval cd <;> rw [hh] at hv <;> cases hv; rfl
      exact wp_cond_true this (ih1 h hc.1 hd.1 ha hQ)
    · rename_i hcd
      rw [hcd] at hv
      have : a.eval cd = .bool false := by cases hh : a.eval cd <;> rw [hh] at hv <;> cases hv; rfl
      exact wp_cond_false this (ih2 h hc.2 hd.2 ha hQ)
    · cases h
  | block id b ih =>
    intro m s s' a w x h hc hd ha Q hQ
    rw [exec] at h
    obtain ⟨y, hy, hxy⟩ := blockO_go h
    refine wp_block (ih hy (by simpa [codeOk] using hc) (by simpa [drawsOk] using hd) ha fun a' w' m' ha' hd' hm' => ?_)
    have hq := hQ a' w' m' ha' hd' hm'
    rcases hxy with ⟨rfl, rfl⟩ | ⟨hne, rfl⟩
    · show (if id = id then Q .normal a' w' else Q (.exit id) a' w')
      rw [if_pos rfl]; exact hq
    · cases x with
      | normal => exact hq
      | ret => exact hq
      | exit k =>
        show (if k = id then Q .normal a' w' else Q (.exit k) a' w')
        rw [if_neg (fun e => hne (by rw [e]))]; exact hq
  | loop b ih =>
    intro m s s' a w x h hc hd ha Q hQ
    rw [exec] at h
    have key : ∀ (k : Nat) {m : Map} {s : St} {a1 : Act} {w : World}, iter (exec E N b) k s = .go x s' → At n c m s a1 w → (∀ a' w' m', At n c m' s' a' w' → a'.defers = a1.defers → Moves c m s w s.nx m' s' w' → Q x.out a' w') → Code.rounds P b Q k a1 w := by
      intro k
      induction k with
      | zero => intro m s a1 w h; simp [iter] at h
      | succ k ihk =>
        intro m s a1 w h ha hQ
        rw [rounds_succ]
        rw [iter] at h
        split at h
        · rename_i s1 hs1
          refine ih hs1 (by simpa [codeOk] using hc) (by simpa [drawsOk] using hd) ha fun a2 w2 m2 ha2 hd2 hm2 => ?_
          show Code.rounds P b Q k a2 w2
          exact ihk h ha2 fun a' w' m' ha' hd' hm' => hQ a' w' m' ha' (hd'.trans hd2) (hm2.trans (hm'.lower hm2.le))
        · rename_i hne
          refine ih h (by simpa [codeOk] using hc) (by simpa [drawsOk] using hd) ha fun a2 w2 m2 ha2 hd2 hm2 => ?_
          have hq := hQ a2 w2 m2 ha2 hd2 hm2
          cases x with
          | normal => exact absurd h (hne s')
          | ret => exact hq
          | exit k => exact hq
    exact wp_loop_rounds N (key N h ha hQ)
  | exit id =>
    intro m s s' a w x h _ _ ha Q hQ
    simp only [exec, Out.go.injEq] at h
    obtain ⟨rfl, rfl⟩ := h
    exact wp_exit (hQ a w m ha rfl (Moves.refl _ _ _ _ _))
  | ret =>
    intro m s s' a w x h _ _ ha Q hQ
    simp only [exec, Out.go.injEq] at h
    obtain ⟨rfl, rfl⟩ := h
    exact wp_ret (hQ a w m ha rfl (Moves.refl _ _ _ _ _))
  | _ =>
    intro m s s' a w x h
    simp [exec] at h

end
end Go.Proofs.Ytmkmjjodiicmlaa.VS

/- What the abstract machine answers, the program answers. Conditions: none. -/
namespace Go.Proofs.Ytmkmjjodiicmlaa.VS
variable [Syms]

section
variable {P : Program} {T : Tabs} {c : Ctx} {E : Env} {n : Nat}

/-- The functions of the tables are the program's. -/
def FnOK (P : Program) (T : Tabs) : Prop :=
  ∀ f fn, T.fn.get f = some fn → P.funcs[f]? = some fn ∧ fnOk fn = true ∧ (fn.name == "runtime.NumGoroutine") = false

/-- A contract over the caller's own heap holds. -/
def HOK (P : Program) (f : FuncId) (p : List AV → Heap → List Nat → Nat → Option (AV × Heap × List Nat × Nat)) : Prop :=
  ∀ args H F nx r, p args H F nx = some r → ∀ (c : Ctx) (m : Map) (w : World) (cargs : Array Value), SR c m H F w → CR (okB c.X m H F) w.heap m args cargs 0 → cargs.size = args.length →
    (∀ b, nx ≤ b → m b = none) → CallsTo P f cargs w fun cv w' => ∃ m', After c m H F w nx r.1 r.2.1 r.2.2.1 r.2.2.2 cv m' w'

/-- The contracts that are given hold. -/
structure PrimOK (P : Program) (cfg : Cfg) : Prop where
  prim : ∀ f p, cfg.prim f = some p → ∀ args r, p args = some r → ∀ (c : Ctx) (m : Map) (w : World) (cargs : Array Value), SR c m [] [] w → CR (okB c.X m [] []) w.heap m args cargs 0 → cargs.size = args.length →
    (∀ b, m b = none) → CallsTo P f cargs w fun cv w' => ∃ m', After c m [] [] w 0 r.1 r.2 [] WIDE cv m' w'
  heap : ∀ f p, cfg.primH f = some p → HOK P f p

omit [Syms] in
theorem run_callFunc {f : FuncId} {fn : Func} {code : Code} (hf : P.funcs[f]? = some fn) (hb : fn.body = some code) (hn : (fn.name == "runtime.NumGoroutine") = false) (args : Array Value) (w : World) : (callFunc f args).run P w = .ok (.enter f args) w := by
  have hn' : ¬ fn.name = "runtime.NumGoroutine" := by
    intro e
    rw [e] at hn
    simp at hn
  simp [callFunc, hf, hb, hn']

/-- One result, out of a frame. -/
def resOf (tmps : Array Value) : ResultVar → Sem Value
  | .tmp t => pure (tmps.getD t undef)
  | .cell b t => do loadVar t (← asAddr (tmps.getD b undef))

omit [Syms] in
theorem run_results {fn : Func} {tmps : Array Value} {w : World} {us : List Value} (h : (fn.results.toList.mapM (resOf tmps)).run P w = .ok us w) :
    (results fn tmps).run P w = .ok (if h : us.toArray.size = 1 then us.toArray[0] else .tuple us.toArray) w := by
  have e : results fn tmps = (do
      let vs ← fn.results.mapM (resOf tmps)
      pure (if h : vs.size = 1 then vs[0] else .tuple vs)) := by
    unfold results
    congr 1
  rw [e, Array.mapM_eq_mapM_toList]
  simp only [Sem.run_bind, Sem.run_map, h, Result.andThen_ok, Sem.run_pure]

theorem sim_addr (hT : TyOK P T) {m : Map} {H : Heap} {F : List Nat} {w : World} (hs : SR c m H F w) {t : TypeId} {a x : AV} (ha : aload T H t a = some x) {v : Value} (hv : VR (okB c.X m H F) w.heap m a v) :
    ∃ cv, (do loadVar t (← asAddr v) : Sem Value).run P w = .ok cv w ∧ VR (okB c.X m H F) w.heap m x cv := by
  unfold aload at ha
  split at ha
  · rename_i q hq
    obtain ⟨β, o, C, e, z, rfl, hC, hr⟩ := hs.addr hq hv
    obtain ⟨cv, h1, h2⟩ := sim_take hT ha hC hr
    exact ⟨cv, by simp [asAddr, h1], h2⟩
  · cases ha

theorem sim_result (hT : TyOK P T) {m : Map} {s : St} {a : Act} {w : World} (ha : At n c m s a w) : ∀ (rs : List ResultVar) (vs : List AV), aresult T s.fr s.H rs = some vs →
    ∃ us : List Value, us.length = vs.length ∧ (rs.mapM (resOf a.tmps)).run P w = .ok us w ∧ CR (okB c.X m s.H s.F) w.heap m vs us.toArray 0
  | [], vs, h => by
    simp [aresult] at h; subst h
    exact ⟨[], rfl, by simp, fun j x hx => by simp at hx⟩
  | .tmp t :: r, vs, h => by
    rw [aresult] at h
    split at h
    · rename_i vs' hvs
      cases h
      obtain ⟨us, h1, h2, h3⟩ := sim_result hT ha r vs' hvs
      refine ⟨a.tmps.getD t undef :: us, by simp [h1], ?_, fun j x hx => ?_⟩
      · simp only [List.mapM_cons, resOf, Sem.run_bind, Sem.run_pure, Result.andThen_ok, h2]
      · cases j with
        | zero => simp at hx; subst hx; exact ⟨_, by simp, ha.fr t⟩
        | succ j =>
          obtain ⟨u, hu, hr⟩ := h3 j x (by simpa using hx)
          exact ⟨u, by simpa using hu, hr⟩
    · cases h
  | .cell b t :: r, vs, h => by
    rw [aresult] at h
    split at h
    · rename_i v vs' hv hvs
      cases h
      obtain ⟨us, h1, h2, h3⟩ := sim_result hT ha r vs' hvs
      obtain ⟨cv, g1, g2⟩ := sim_addr hT ha.sr hv (ha.fr b)
      refine ⟨cv :: us, by simp [h1], ?_, fun j x hx => ?_⟩
      · simp only [List.mapM_cons, resOf]
        rw [Sem.run_bind, g1]
        simp only [Result.andThen_ok, Sem.run_bind, Sem.run_pure, h2]
      · cases j with
        | zero => simp at hx; subst hx; exact ⟨_, by simp, g2⟩
        | succ j =>
          obtain ⟨u, hu, hr⟩ := h3 j x (by simpa using hx)
          exact ⟨u, by simpa using hu, hr⟩
    · cases h

/-- The answer of a function. -/
theorem sim_ans (hT : TyOK P T) {m : Map} {s : St} {a : Act} {w : World} (ha : At n c m s a w) {fn : Func} {v : AV} {H' : Heap} {F' : List Nat} {nx' : Nat} (h : ansOf T fn.results.toList s = .ok v H' F' nx') :
    H' = s.H ∧ F' = s.F ∧ nx' = s.nx ∧ ∃ cv, (results fn a.tmps).run P w = .ok cv w ∧ VR (okB c.X m s.H s.F) w.heap m v cv := by
  unfold ansOf at h
  split at h
  · rename_i vs hvs
    simp only [Ans.ok.injEq] at h
    obtain ⟨rfl, rfl, rfl, rfl⟩ := h
    obtain ⟨us, h1, h2, h3⟩ := sim_result hT ha _ _ hvs
    refine ⟨rfl, rfl, rfl, _, run_results h2, ?_⟩
    match vs, us, h1, h3 with
    | [v], [u], _, h3 =>
      obtain ⟨u', hu, hr⟩ := h3 0 v rfl
      simp at hu; subst hu
      simpa [oneOf] using hr
    | [], [], _, h3 => exact .tup' rfl h3
    | v :: v' :: vs, u :: u' :: us, h1, h3 =>
      rw [dif_neg (by simp)]
      exact .tup' (by simpa using h1) h3
    | [], _ :: _, h1, _ => simp at h1
    | [_], [], h1, _ => simp at h1
    | [_], _ :: _ :: _, h1, _ => simp at h1
    | _ :: _ :: _, [], h1, _ => simp at h1
    | _ :: _ :: _, [_], h1, _ => simp at h1
  · cases h

theorem entered {fn : Func} {c : Ctx} {m : Map} {args : List AV} {H : Heap} {F : List Nat} {nx : Nat} {w : World} {cargs : Array Value} (hs : SR c m H F w) (hr : CR (okB c.X m H F) w.heap m args cargs 0) (hsz : cargs.size = args.length) (hnx : ∀ b, nx ≤ b → m b = none)
    (hle : args.length ≤ fn.ntmps) (hfr : fn.ntmps ≤ 1023) : At fn.ntmps c m ⟨Fr.args args 0 (Fr.full 10), H, F, nx⟩ { tmps := cargs ++ Array.replicate (fn.ntmps - cargs.size) undef, defers := [] } w := by
  obtain ⟨h1, h2⟩ := Fr.args_spec args 0 (Fr.full 10) fn.ntmps (fun j hj => Fr.has_full 10 j (by omega)) (by omega)
  refine ⟨hs, fun t => ?_, h1, by simp; omega, hnx⟩
  show VR _ _ _ ((Fr.args args 0 (Fr.full 10)).get t) ((cargs ++ Array.replicate (fn.ntmps - cargs.size) undef).getD t undef)
  rw [h2, if_pos (Nat.zero_le t), Nat.sub_zero]
  rcases Nat.lt_or_ge t args.length with ht | ht
  · obtain ⟨v, hv, hvr⟩ := hr t args[t] (List.getElem?_eq_getElem ht)
    rw [Nat.zero_add] at hv
    have : (cargs ++ Array.replicate (fn.ntmps - cargs.size) undef).getD t undef = v := by
      rw [Array.getD_eq_getD_getElem?, Array.getElem?_append_left (by omega), hv]; rfl
    rw [this, List.getElem?_eq_getElem ht]
    exact hvr
  · rw [List.getElem?_eq_none ht, Option.getD_none, Fr.get_full]
    have : (cargs ++ Array.replicate (fn.ntmps - cargs.size) undef).getD t undef = undef := by
      rw [Array.getD_eq_getD_getElem?, Array.getElem?_append_right (by omega), Array.getElem?_replicate]
      split <;> rfl
    rw [this]
    exact und_vr

/-- A function by its text. -/
theorem sim_body (hT : TyOK P T) (hE : E.T = T) (hC : CallOK P E.call) (hmx : P.follows .mixedOrders = true) {f : FuncId} {fn : Func} (hf : P.funcs[f]? = some fn) (hok : fnOk fn = true) (hn : (fn.name == "runtime.NumGoroutine") = false) {N : Nat} {args : List AV} {H : Heap} {F : List Nat} {nx : Nat} {v : AV} {H' : Heap} {F' : List Nat} {nx' : Nat}
    (h : bodyAns E N fn args H F nx = .ok v H' F' nx') {c : Ctx} {m : Map} {w : World} {cargs : Array Value} (hs : SR c m H F w) (hr : CR (okB c.X m H F) w.heap m args cargs 0) (hsz : cargs.size = args.length) (hnx : ∀ b, nx ≤ b → m b = none) :
    CallsTo P f cargs w fun cv w' => ∃ m', After c m H F w nx v H' F' nx' cv m' w' := by
  unfold bodyAns at h
  split at h
  · rename_i code hb
    right
    refine ⟨run_callFunc hf hb hn cargs w, ?_⟩
    cases hle : args.length.ble fn.ntmps with
    | false => simp [hle] at h
    | true =>
      simp only [hle, cond_true] at h
      unfold fnOk at hok
      rw [hb] at hok
      simp only [Bool.and_eq_true] at hok
      have hat := entered (fn := fn) hs hr hsz hnx (ble_le hle) (ble_le hok.1)
      refine calls_of_wp hf hb ?_
      generalize hex : exec E N code ⟨Fr.args args 0 (Fr.full 10), H, F, nx⟩ = q at h
      cases q with
      | no => simp [ended] at h
      | go x s' =>
        refine sim_exec hT hE hC hmx N code hex hok.2.1 hok.2.2 hat fun a' w' m' ha' hd' hm' => ?_
        have fin : ansOf E.T fn.results.toList s' = .ok v H' F' nx' → a'.defers = [] ∧ ∃ cv, (results fn a'.tmps).run P w' = .ok cv w' ∧ ∃ u, Ending.returned cv = .returned u ∧ ∃ m', After c m H F w nx v H' F' nx' u m' w' := by
          intro h
          rw [hE] at h
          obtain ⟨rfl, rfl, rfl, cv, g1, g2⟩ := sim_ans hT ha' h
          exact ⟨hd', cv, g1, cv, rfl, m', hm'.ext, ha'.sr, g2, hm'.le, hm'.dom⟩
        cases x with
        | normal => exact fin h
        | ret => exact fin h
        | exit k => simp [ended] at h
  · cases h

/-- What the abstract machine answers, the program answers. -/
theorem acall_ok (hT : TyOK P T) (hF : FnOK P T) {cfg : Cfg} (hp : PrimOK P cfg) (hmx : P.follows .mixedOrders = true) : ∀ N, CallOK P (acall T cfg N)
  | 0 => fun f args H F nx v H' F' nx' h => by simp [acall] at h
  | N + 1 => fun f args H F nx v H' F' nx' h c m w cargs hs hr hsz hnx => by
    rw [acall] at h
    split at h
    · rename_i r hr'
      simp only [Ans.ok.injEq] at h
      obtain ⟨rfl, rfl, rfl, rfl⟩ := h
      unfold told at hr'
      split at hr'
      · rename_i p hpf
        unfold primGo at hr'
        split at hr'
        · exact hp.prim f p hpf args r hr' c m w cargs hs hr hsz fun b => hnx b (Nat.zero_le b)
        · cases hr'
      · cases hr'
    · split at h
      · rename_i p hpf
        unfold toldH at h
        split at h
        · rename_i r hr'
          simp only [Ans.ok.injEq] at h
          obtain ⟨rfl, rfl, rfl, rfl⟩ := h
          exact hp.heap f p hpf args H F nx r hr' c m w cargs hs hr hsz hnx
        · cases h
      · split at h
        · rename_i fn hfn
          obtain ⟨h1, h2, h3⟩ := hF f fn hfn
          exact sim_body hT rfl (acall_ok hT hF hp hmx N) hmx h1 h2 h3 h hs hr hsz hnx
        · cases h

end
end Go.Proofs.Ytmkmjjodiicmlaa.VS

/- Tables held against a program, row by row. Conditions: none. -/
namespace Go.Proofs.Ytmkmjjodiicmlaa.VS

/-- One type's row is the program's. -/
def TyOne (P : Program) (t : TypeId) (i : TI) : Prop :=
  tiOf P t = some ⟨i.size, i.bytes, i.zero, i.ag, i.k, true⟩ ∧ (i.cmp = true → P.eqGuardType P.depth t = false ∧ P.stoodInHeld t = false)

def FnOne (P : Program) (f : FuncId) (fn : Func) : Prop :=
  P.funcs[f]? = some fn ∧ fnOk fn = true ∧ (fn.name == "runtime.NumGoroutine") = false

/-- Each thing of a tree is so; 'p', 'q': its numbers are p, p + q, p + 2 q, .. -/
def allT {α : Type} (R : Nat → α → Prop) : Nat → Nat → Tr α → Prop
  | _, _, .nil => True
  | p, q, .nd v l r => (match v with
      | some a => R p a
      | none => True) ∧ allT R (p + q) (2 * q) l ∧ allT R (p + 2 * q) (2 * q) r

theorem Tr.get_nd {α : Type} (v : Option α) (l r : Tr α) (k : Nat) : (Tr.nd v l r).get k = if k = 0 then v else if k % 2 = 1 then l.get (k / 2) else r.get (k / 2 - 1) := by
  rw [Tr.get]
  change (bif k.beq 0 then v else bif (k % 2).beq 1 then l.get (k / 2) else r.get (k / 2 - 1)) = _
  by_cases h : k = 0
  · subst h; rfl
  · rw [beq_ne h, if_neg h, cond_false]
    by_cases h1 : k % 2 = 1
    · rw [h1]; rfl
    · rw [beq_ne h1, if_neg h1, cond_false]

theorem allT_get {α : Type} {R : Nat → α → Prop} : ∀ {t : Tr α} {p q : Nat}, allT R p q t → ∀ k a, t.get k = some a → R (p + q * k) a
  | .nil, p, q, _, k, a, h => by simp [Tr.get] at h
  | .nd v l r, p, q, h, k, a, hk => by
    obtain ⟨h1, h2, h3⟩ := h
    rw [Tr.get_nd] at hk
    split at hk
    · rename_i h0
      subst h0; subst hk
      exact h1
    · split at hk
      · rename_i h0 hodd
        have := allT_get h2 (k / 2) a hk
        have e : p + q + 2 * q * (k / 2) = p + q * k := by
          have : k = 2 * (k / 2) + 1 := by omega
          conv => rhs; rw [this]
          rw [Nat.mul_add, Nat.mul_one, ← Nat.mul_assoc, Nat.mul_comm q 2]
          omega
        rw [e] at this; exact this
      · rename_i h0 hodd
        have := allT_get h3 (k / 2 - 1) a hk
        have e : p + 2 * q + 2 * q * (k / 2 - 1) = p + q * k := by
          have : k = 2 * (k / 2 - 1) + 2 := by omega
          conv => rhs; rw [this]
          rw [Nat.mul_add, ← Nat.mul_assoc, Nat.mul_comm q 2]
          omega
        rw [e] at this; exact this

theorem tyOK_of {P : Program} {T : Tabs} (h : allT (TyOne P) 0 1 T.ty) : TyOK P T := by
  intro t i hi
  have := allT_get h t i hi
  rw [Nat.zero_add, Nat.one_mul] at this
  obtain ⟨h1, h2⟩ := this
  unfold tiOf at h1
  split at h1
  · rename_i j d hj hd
    simp only [Option.some.injEq, TI.mk.injEq] at h1
    exact ⟨j, d, hj, hd, h1.1.symm, h1.2.1.symm, h1.2.2.1.symm, h1.2.2.2.1.symm, h1.2.2.2.2.1.symm, h2⟩
  · cases h1

theorem fnOK_of {P : Program} {T : Tabs} (h : allT (FnOne P) 0 1 T.fn) : FnOK P T := by
  intro f fn hf
  have := allT_get h f fn hf
  rw [Nat.zero_add, Nat.one_mul] at this
  exact this

end Go.Proofs.Ytmkmjjodiicmlaa.VS

/- What the abstract machine shows of a law: it answers true, and all that was there is as it was. Conditions: none. -/
namespace Go.Proofs.Ytmkmjjodiicmlaa.VS
open Go.ChangeShapes Go.WideShapes

def isTrue : Ans → Bool
  | .ok (.bool b) _ _ _ => b
  | _ => false

/-- All that was there is as it was. -/
abbrev Kept (w w' : World) : Prop := Keep (fun _ => False) w w'

theorem Keep.keptBut {w w' : World} (h : Kept w w') (may : MemPlace → Prop) : w.keptBut w' may := by
  refine ⟨h.os, h.output, fun i hi => ?_⟩
  rw [h.block i hi (fun h => h)]
  split
  · rename_i h1 h2
    rw [h1] at h2; cases h2
    exact ⟨rfl, rfl, rfl, fun _ _ => rfl⟩
  · rename_i h1 h2
    rw [h1] at h2; cases h2
    exact .inr ⟨rfl, rfl⟩
  · rfl

theorem Keep.frozen {w w' : World} (h : Kept w w') (a : Addr) (ha : a.block < w.heap.size) : w'.frozen? a = w.frozen? a := by
  unfold World.frozen?
  rw [h.block a.block ha (fun h => h)]

section
variable [Syms]
theorem law_true {P : Program} {T : Tabs} {cfg : Cfg} {N : Nat} {f : FuncId} {args : List AV} (hT : TyOK P T) (hF : FnOK P T) (hp : PrimOK P cfg) (hmx : P.follows .mixedOrders = true) (h : isTrue (acallK T cfg N f args [] [] 0) = true)
    {w : World} {cargs : Array Value} (hc : CR (fun _ => True) w.heap noMap args cargs 0) (hsz : cargs.size = args.length) (hcall : (callFunc f cargs).run P w = .ok (.enter f cargs) w) :
    Calls P f cargs w fun e w' => e = .returned (.bool true) ∧ Kept w w' := by
  rw [acallK_eq] at h
  generalize hq : acall T cfg N f args [] [] 0 = q at h
  unfold isTrue at h
  split at h
  · rename_i b H' F' nx'
    subst h
    have hs : SR ⟨fun _ => False, fun _ => False, w⟩ noMap [] [] w :=
      ⟨fun β h => h.elim, fun b o hb => (by cases hb), fun b o _ _ _ _ _ hb => (by cases hb), fun b o L _ hb => (by cases hb), fun b o L _ hb => (by cases hb), Keep.refl _ _⟩
    have key := acall_ok hT hF hp hmx N f args [] [] 0 _ _ _ _ hq ⟨fun _ => False, fun _ => False, w⟩ noMap w cargs hs
      (hc.mono (fun β C e z _ hh => ⟨⟨fun h => h, fun b o L hb => (by cases hb)⟩, hh⟩) (MLe.refl _)) hsz (fun _ _ => rfl)
    rcases key with ⟨v, w', h1, _⟩ | ⟨_, h2⟩
    · rw [hcall] at h1; cases h1
    · refine h2.mono fun e w' ⟨v, he, m', ha⟩ => ?_
      have := ha.vr
      cases this
      exact ⟨he, ha.sr.keep⟩
  · cases h

/-- An argument that is a number. -/
theorem cr_int {h : Array Obj} (k : IntKind) (n : Int) : CR (fun _ => True) h noMap [.int k n] #[.int k n] 0 := fun j x hx => by
  match j with
  | 0 => simp at hx; subst hx; exact ⟨_, rfl, .int _ _⟩
  | j + 1 => simp at hx

theorem cr_rng {h : Array Obj} (i : Nat) (k : IntKind) {lo hi n : Int} (h0 : n = Syms.int i) (h1 : lo ≤ n) (h2 : n ≤ hi) : CR (fun _ => True) h noMap [.rng i k lo hi] #[.int k n] 0 := fun j x hx => by
  match j with
  | 0 => simp at hx; subst hx; exact ⟨_, rfl, .rng _ _ _ _ _ h0 h1 h2⟩
  | j + 1 => simp at hx

theorem cr_nil {h : Array Obj} {C : Array Value} {o : Nat} : CR (fun _ => True) h noMap [] C o := fun j x hx => by simp at hx

theorem cr_cons {h : Array Obj} {a : AV} {v : Value} {l : List AV} {C : Array Value} {o : Nat} (hv : C[o]? = some v) (ha : VR (fun _ => True) h noMap a v) (hl : CR (fun _ => True) h noMap l C (o + 1)) : CR (fun _ => True) h noMap (a :: l) C o := fun j x hx => by
  match j with
  | 0 => simp at hx; subst hx; exact ⟨v, by simpa using hv, ha⟩
  | j + 1 =>
    obtain ⟨u, hu, hr⟩ := hl j x (by simpa using hx)
    exact ⟨u, by rw [← hu]; congr 1; omega, hr⟩

end

/-- No unknown. -/
abbrev noSyms : Syms := ⟨fun _ => 0, fun _ => []⟩

/-- The unknown numbers and texts, in order. -/
abbrev theSyms (a : List Int) (s : List (List UInt8)) : Syms := ⟨fun i => a.getD i 0, fun i => s.getD i []⟩

section
variable {H : Type} {enc : TypeId × Value → H} {P : Program}

/-- The post of a law that changes nothing that was there. -/
theorem post_kept {f : Func} {s : ChangeSpec} {apart fresh handsOn again : Bool} {W W' : World} {args : Array Value} {v : Value} {ds gs : List (DataW H)} {before pa pv : List MemPlace}
    (hW : DataW.Whole enc P f.params.toList s.vars apart W args.toList ds gs before)
    (hres : ∀ (b : Nat) (sp : Nat → Bool) (hd : Bool), DataW.TrodAll enc P W' b sp hd f.resultTypes.toList (v.resultList f.resultTypes.size) (s.fn H (ds ++ gs)).results [])
    (hargs : ∀ sp : Nat → Bool, (∀ p ∈ before, sp p.block = true) → DataW.TrodAll enc P W' 0 sp true f.params.toList args.toList (s.fn H (ds ++ gs)).args pa)
    (hvars : ∀ sp : Nat → Bool, (∀ p ∈ before, sp p.block = true) → DataW.TrodVars enc P W' sp s.vars (s.fn H (ds ++ gs)).vars pv)
    (hps : before = pa ++ pv) (hk : Kept W W')
    (hok : ∀ (j : Nat) (t : TypeId) (r : Value), f.resultTypes[j]? = some t → (v.resultList f.resultTypes.size)[j]? = some r → Value.okWide P W' .any 0 t r) :
    s.post enc P f apart fresh handsOn again W args v W' := by
  have hold : ∀ p ∈ before, (fun b => decide (b < W.heap.size)) p.block = true := fun p hp => by simpa using hW.lt p hp
  have hlt : ∀ p ∈ before, p.block < W.heap.size := fun p hp => hW.lt p hp
  refine ⟨ds, gs, before, [], pa, pv, hW, hres _ _ _, hargs _ hold, hvars _ hold, World.keptBut_mono (fun p hp => ⟨hp, ?_⟩) (hk.keptBut (· ∈ before)), fun _ => ?_⟩
  · rw [hps, List.mem_append] at hp
    exact Or.inr hp
  · obtain ⟨_, _, _, _, _, hz, hn⟩ := hW
    refine ⟨hok, _, _, ([] ++ pa) ++ pv, ⟨[] ++ pa, pv, trodAll_append (hargs _ (fun _ _ => rfl)) (hres _ _ _), hvars _ (fun _ _ => rfl), rfl, ?_, ?_⟩, ?_⟩
    · intro b off hp
      have hb : MemPlace.cell b off ∈ before := by rw [hps]; simpa using hp
      rw [hk.frozen ⟨b, off, none⟩ (hlt _ hb)]
      exact hz b off hb
    · intro ha
      have := hn ha
      rw [hps] at this
      simpa using this
    · intro p hp _
      rw [hps]
      simpa using hp

end
end Go.Proofs.Ytmkmjjodiicmlaa.VS

/- A contract for a function of an empty slice, held against its text for the slice that is nil and for the one that is not. Conditions: none. -/
namespace Go.Proofs.Ytmkmjjodiicmlaa.VS
variable [Syms]

/-- What is told of a copy of an empty slice: empty. -/
def emptyP : List AV → Option (AV × Heap)
  | [.sl []] => some (.emp, [])
  | _ => none

def emptyOf (l : List FuncId) : FuncId → Option (List AV → Option (AV × Heap)) := fun f => bif isIn f l then some emptyP else none

def isEmptyAns : Ans → Bool
  | .ok .nils [] [] n => n.ble WIDE
  | .ok .emp [] [] n => n.ble WIDE
  | _ => false

noncomputable def emptyOk (T : Tabs) (cfg : Cfg) (N : Nat) (l : List FuncId) : Bool :=
  l.all fun f => isEmptyAns (acallK T cfg N f [.nils] [] [] 0) && isEmptyAns (acallK T cfg N f [.nev] [] [] 0)

omit [Syms] in
theorem isIn_mem {f : FuncId} : ∀ {l : List FuncId}, isIn f l = true → f ∈ l
  | [], h => by simp [isIn] at h
  | a :: l, h => by
    unfold isIn at h
    cases hb : a.beq f with
    | true => rw [Nat.eq_of_beq_eq_true hb]; exact List.mem_cons_self
    | false => rw [hb, cond_false] at h; exact List.mem_cons_of_mem _ (isIn_mem h)

omit [Syms] in
theorem isEmptyAns_elim {q : Ans} (h : isEmptyAns q = true) : ∃ v n, q = .ok v [] [] n ∧ (v = .nils ∨ v = .emp) ∧ n ≤ WIDE := by
  unfold isEmptyAns at h
  split at h
  · exact ⟨_, _, rfl, .inl rfl, Nat.le_of_ble_eq_true h⟩
  · exact ⟨_, _, rfl, .inr rfl, Nat.le_of_ble_eq_true h⟩
  · cases h

theorem prim_empty {P : Program} {T : Tabs} {cfg cfg' : Cfg} {N : Nat} {l : List FuncId} (hT : TyOK P T) (hF : FnOK P T) (hp : PrimOK P cfg') (hmx : P.follows .mixedOrders = true) (h : emptyOk T cfg' N l = true) (he : cfg.prim = emptyOf l) (hh : cfg.primH = cfg'.primH := by rfl) : PrimOK P cfg := by
  refine ⟨?_, fun f p hf => hp.heap f p (by rw [← hh]; exact hf)⟩
  intro f p hf args r hr c m w cargs hs hc hsz hb
  rw [he] at hf
  unfold emptyOf at hf
  cases hi : isIn f l with
  | false => simp [hi] at hf
  | true =>
    simp only [hi, cond_true, Option.some.injEq] at hf
    subst hf
    unfold emptyP at hr
    split at hr
    · cases hr
      have hall := List.all_eq_true.1 h f (isIn_mem hi)
      simp only [Bool.and_eq_true] at hall
      obtain ⟨v, hv, hvr⟩ := hc 0 _ rfl
      have hcv : CR (okB c.X m [] []) w.heap m [.nils] cargs 0 ∨ CR (okB c.X m [] []) w.heap m [.nev] cargs 0 := by
        have one : ∀ a, VR (okB c.X m [] []) w.heap m a v → CR (okB c.X m [] []) w.heap m [a] cargs 0 := fun a ha j x hx => by
          match j with
          | 0 => simp at hx; subst hx; exact ⟨v, hv, ha⟩
          | j + 1 => simp at hx
        cases hvr with
        | @slE _ a cp h1 =>
          cases a with
          | none => exact .inl (one _ (by rw [h1 rfl]; exact .nils))
          | some a => exact .inr (one _ .nev)
        | sl g h1 => exact absurd rfl h1
      have fin : ∀ a, CR (okB c.X m [] []) w.heap m [a] cargs 0 → isEmptyAns (acallK T cfg' N f [a] [] [] 0) = true → CallsTo P f cargs w fun cv w' => ∃ m', After c m [] [] w 0 .emp [] [] WIDE cv m' w' := by
        intro a ha hq
        obtain ⟨u, n, hq, hu, hn⟩ := isEmptyAns_elim hq
        rw [acallK_eq] at hq
        have key := acall_ok hT hF hp hmx N f [a] [] [] 0 _ _ _ _ hq c m w cargs hs ha hsz (fun b _ => hb b)
        have up : ∀ cv w', (∃ m', After c m [] [] w 0 u [] [] n cv m' w') → ∃ m', After c m [] [] w 0 .emp [] [] WIDE cv m' w' := fun cv w' ⟨m', ha⟩ => by
          refine ⟨m', ha.ext, ha.sr, ?_, Nat.zero_le _, fun b hb => ?_⟩
          · have := ha.vr
            rcases hu with rfl | rfl
            · cases this; exact .emp
            · exact this
          · rcases ha.dom b hb with h | h
            · exact .inl h
            · exact .inr ⟨h.1, by omega⟩
        rcases key with ⟨cv, w', h1, h2⟩ | ⟨h1, h2⟩
        · exact .inl ⟨cv, w', h1, up _ _ h2⟩
        · exact .inr ⟨h1, h2.mono fun e w' ⟨v, he, hh⟩ => ⟨v, he, up _ _ hh⟩⟩
      rcases hcv with hh | hh
      · exact fin _ hh hall.1
      · exact fin _ hh hall.2
    · cases hr

end Go.Proofs.Ytmkmjjodiicmlaa.VS

/- Answers that were found once, told again: a row of calls with what the machine answers, held against the functions' texts. Conditions: none. -/
namespace Go.Proofs.Ytmkmjjodiicmlaa.VS

/-- A call that was run: the function, its arguments, its answer; each a tree. -/
structure Ran where
  f : FuncId
  args : List AV
  v : AV

def all2 (p : AV → AV → Bool) : List AV → List AV → Bool
  | [], [] => true
  | a :: r, b :: s => bif p a b then all2 p r s else false
  | _, _ => false

/-- Two trees are one. -/
def sameAV : Nat → AV → AV → Bool
  | 0, _, _ => false
  | d + 1, a, b =>
    match a, b with
    | .bool x, .bool y => x == y
    | .int k x, .int l y => decide (k = l) && decide (x = y)
    | .str x, .str y => x == y
    | .nilp, .nilp => true
    | .nilf, .nilf => true
    | .nili, .nili => true
    | .nilm, .nilm => true
    | .nils, .nils => true
    | .emp, .emp => true
    | .ifc t x, .ifc u y => Nat.beq t u && sameAV d x y
    | .fn f x, .fn g y => Nat.beq f g && all2 (sameAV d) x y
    | .agg x, .agg y => all2 (sameAV d) x y
    | .tup x, .tup y => all2 (sameAV d) x y
    | .sl x, .sl y => all2 (sameAV d) x y
    | .rng i k lo hi, .rng j l lo' hi' => (Nat.beq i j && decide (k = l)) && (decide (lo = lo') && decide (hi = hi'))
    | _, _ => false

theorem all2_eq {p : AV → AV → Bool} (hp : ∀ a b, p a b = true → a = b) : ∀ {l l' : List AV}, all2 p l l' = true → l = l'
  | [], [], _ => rfl
  | a :: r, b :: s, h => by
    rw [all2] at h
    cases hab : p a b with
    | false => rw [hab, cond_false] at h; cases h
    | true => rw [hab, cond_true] at h; rw [hp a b hab, all2_eq hp h]

theorem sameAV_eq : ∀ (d : Nat) (a b : AV), sameAV d a b = true → a = b
  | 0, a, b, h => by simp [sameAV] at h
  | d + 1, a, b, h => by
    have ih := sameAV_eq d
    unfold sameAV at h
    split at h
    · rw [eq_of_beq h]
    · rw [Bool.and_eq_true] at h
      rw [of_decide_eq_true h.1, of_decide_eq_true h.2]
    · rw [eq_of_beq h]
    · rfl
    · rfl
    · rfl
    · rfl
    · rfl
    · rfl
    · rw [Bool.and_eq_true] at h
      rw [Nat.eq_of_beq_eq_true h.1, ih _ _ h.2]
    · rw [Bool.and_eq_true] at h
      rw [Nat.eq_of_beq_eq_true h.1, all2_eq ih h.2]
    · rw [all2_eq ih h]
    · rw [all2_eq ih h]
    · rw [all2_eq ih h]
    · rw [Bool.and_eq_true, Bool.and_eq_true, Bool.and_eq_true] at h
      rw [Nat.eq_of_beq_eq_true h.1.1, of_decide_eq_true h.1.2, of_decide_eq_true h.2.1, of_decide_eq_true h.2.2]
    · cases h

/-- What was told of a function, by its arguments. -/
def ranOf (f : FuncId) : List Ran → List AV → Option (AV × Heap)
  | [], _ => none
  | t :: r, args => bif t.f.beq f then (bif all2 (sameAV 40) t.args args then some (t.v, []) else ranOf f r args) else ranOf f r args

def hasRan (f : FuncId) : List Ran → Bool
  | [] => false
  | t :: r => bif t.f.beq f then true else hasRan f r

/-- Beside what was run another contract may tell of the function. -/
def orP (p : Option (List AV → Option (AV × Heap))) (q : List AV → Option (AV × Heap)) : List AV → Option (AV × Heap) := fun args =>
  match q args with
  | some r => some r
  | none => match p with
    | some p => p args
    | none => none

def withRan (l : List Ran) (prim : FuncId → Option (List AV → Option (AV × Heap))) : FuncId → Option (List AV → Option (AV × Heap)) := fun f => bif hasRan f l then some (orP (prim f) (ranOf f l)) else prim f

/-- The answer as a tree. -/
def treeAns : Ans → Option AV
  | .ok v H _ n => bif n.ble WIDE then (match resolve true H DEEP v with
    | some r => some r.1
    | none => none) else none
  | .no => none

/-- The calls were run so. -/
def RanOK (T : Tabs) (cfg : Cfg) (l : List Ran) : Prop :=
  ∀ t ∈ l, ∃ N, treeAns (acallK T cfg N t.f t.args [] [] 0) = some t.v

theorem ranOK_nil {T : Tabs} {cfg : Cfg} : RanOK T cfg [] := fun t ht => by cases ht
theorem ranOK_cons {T : Tabs} {cfg : Cfg} {N : Nat} {t : Ran} {l : List Ran} (h : treeAns (acallK T cfg N t.f t.args [] [] 0) = some t.v) (hl : RanOK T cfg l) : RanOK T cfg (t :: l) := fun u hu => by
  rcases List.mem_cons.1 hu with rfl | hu
  · exact ⟨N, h⟩
  · exact hl u hu

theorem ranOf_mem {f : FuncId} {args : List AV} {r : AV × Heap} : ∀ {l : List Ran}, ranOf f l args = some r → ∃ t ∈ l, t.f = f ∧ t.args = args ∧ r = (t.v, [])
  | [], h => by cases h
  | t :: l, h => by
    rw [ranOf] at h
    cases hf : t.f.beq f with
    | false =>
      rw [hf, cond_false] at h
      obtain ⟨u, h1, h2⟩ := ranOf_mem h
      exact ⟨u, List.mem_cons_of_mem _ h1, h2⟩
    | true =>
      rw [hf, cond_true] at h
      cases ha : all2 (sameAV 40) t.args args with
      | false =>
        rw [ha, cond_false] at h
        obtain ⟨u, h1, h2⟩ := ranOf_mem h
        exact ⟨u, List.mem_cons_of_mem _ h1, h2⟩
      | true =>
        rw [ha, cond_true] at h
        cases h
        exact ⟨t, List.mem_cons_self, Nat.eq_of_beq_eq_true hf, all2_eq (sameAV_eq 40) ha, rfl⟩

variable [Syms]

/-- What a call leaves, its answer taken as a tree. -/
theorem After.tree {c : Ctx} {m m' : Map} {w w' : World} {v t : AV} {H' : Heap} {F' ids : List Nat} {n : Nat} {cv : Value} (ha : After c m [] [] w 0 v H' F' n cv m' w') (hr : resolve true H' DEEP v = some (t, ids)) (hn : n ≤ WIDE) : After c m [] [] w 0 t [] [] WIDE cv m' w' := by
  have hok : ∀ β, okB c.X m' H' F' β → okB c.X m' [] [] β := fun β h => ⟨h.1, fun b o L hb => by cases hb⟩
  refine ⟨⟨ha.ext.mm, fun β C e z ho hh => ?_⟩, ?_, ?_, Nat.zero_le _, fun b hb => (ha.dom b hb).imp id fun h => ⟨h.1, by omega⟩⟩
  · obtain ⟨h1, h2⟩ := ha.ext.kk β C e z ho hh
    exact ⟨hok β h1, h2⟩
  · exact ⟨ha.sr.xlt, fun b o hb => (by cases hb), fun b o _ _ _ _ _ hb => (by cases hb), fun b o L _ hb => (by cases hb), fun b o L _ hb => (by cases hb), ha.sr.keep⟩
  · refine (resolve_vr (I := fun b => b ∈ ids) hok ha.sr.arrs (fun b o L β _ hg hm hf => ⟨ha.sr.noxf b o L β hg hm hf, fun b o L hb => by cases hb⟩) DEEP v t ids cv hr (fun b hb => hb) ha.vr).mono (fun β C e z h1 h2 => ⟨h1, h2⟩) (fun b L hb => by cases hb)

theorem prim_ran {P : Program} {T : Tabs} {cfg cfg' : Cfg} {l : List Ran} (hT : TyOK P T) (hF : FnOK P T) (hp : PrimOK P cfg') (hmx : P.follows .mixedOrders = true) (h : RanOK T cfg' l) (he : cfg.prim = withRan l cfg'.prim) (hh : cfg.primH = cfg'.primH := by rfl) : PrimOK P cfg := by
  refine ⟨?_, fun f p hf => hp.heap f p (by rw [← hh]; exact hf)⟩
  intro f p hf args r hr c m w cargs hs hc hsz hb
  rw [he] at hf
  unfold withRan at hf
  cases hi : hasRan f l with
  | false =>
    rw [hi, cond_false] at hf
    exact hp.prim f p hf args r hr c m w cargs hs hc hsz hb
  | true =>
    rw [hi, cond_true] at hf
    cases hf
    unfold orP at hr
    split at hr
    · rename_i r' hq0
      cases hr
      obtain ⟨t, h1, h2, h3, h4⟩ := ranOf_mem hq0
      clear hq0
      obtain ⟨N, hq⟩ := h t h1
      subst h2; subst h3; subst h4
      unfold treeAns at hq
      split at hq
      · rename_i v H F n hacc
        cases hn : n.ble WIDE with
        | false => rw [hn, cond_false] at hq; cases hq
        | true =>
          rw [hn, cond_true] at hq
          split at hq
          · rename_i r hres
            have hq := Option.some.inj hq
            rw [acallK_eq] at hacc
            have key := acall_ok hT hF hp hmx N t.f t.args [] [] 0 _ _ _ _ hacc c m w cargs hs hc hsz (fun b _ => hb b)
            refine key.mono fun cv w' ⟨m', ha⟩ => ⟨m', ?_⟩
            show After c m [] [] w 0 t.v [] [] WIDE cv m' w'
            rw [← hq]
            exact ha.tree hres (Nat.le_of_ble_eq_true hn)
          · cases hq
      · cases hq
    · split at hr
      · rename_i q hq
        exact hp.prim f q hq args r hr c m w cargs hs hc hsz hb
      · cases hr

end Go.Proofs.Ytmkmjjodiicmlaa.VS

/- Contracts of the library's functions for the abstract machine: strings.ContainsAny of plain texts. Conditions: none. -/
namespace Go.Proofs.Ytmkmjjodiicmlaa.VS
open Go.Shelf

/-- One contract more. -/
def withP (f0 : FuncId) (p : List AV → Option (AV × Heap)) (prim : FuncId → Option (List AV → Option (AV × Heap))) : FuncId → Option (List AV → Option (AV × Heap)) := fun f => bif f.beq f0 then some p else prim f

/-- Bytes that are plain, and not too many. -/
def plain (s : List UInt8) : Bool := s.length.ble 4294967280 && s.all fun b => b.toNat.ble 127

def containsP : List AV → Option (AV × Heap)
  | [.str s, .str c] => bif plain s && plain c then some (.bool (s.any fun b => c.contains b), []) else none
  | _ => none

theorem indexAny_any (chars : List UInt8) : ∀ s : List UInt8, decide (0 ≤ Lib.indexAny s chars) = s.any fun b => chars.contains b
  | [] => by simp [Lib.indexAny]
  | b :: l => by
    have ih := indexAny_any chars l
    have hge := Lib.indexAny_ge chars l
    unfold Lib.indexAny
    rw [List.any_cons]
    by_cases h : chars.contains b
    · rw [if_pos h, h]; rfl
    · rw [if_neg h, Bool.eq_false_iff.2 h, Bool.false_or, ← ih]
      by_cases h2 : Lib.indexAny l chars = -1
      · rw [h2]; rfl
      · rw [if_neg (by simpa using h2)]
        rw [decide_eq_decide]
        omega

theorem plain_small {s : List UInt8} (h : plain s = true) : s.length < 4294967281 ∧ ∀ (j : Nat) b, s[j]? = some b → b.toNat < 128 := by
  unfold plain at h
  rw [Bool.and_eq_true] at h
  refine ⟨Nat.lt_succ_of_le (Nat.le_of_ble_eq_true h.1), fun j b hb => ?_⟩
  exact Nat.lt_succ_of_le (Nat.le_of_ble_eq_true (List.all_eq_true.1 h.2 b (List.mem_of_getElem? hb)))

variable [Syms]

/-- A contract that holds. -/
def ContractOK (P : Program) (f : FuncId) (p : List AV → Option (AV × Heap)) : Prop :=
  ∀ args r, p args = some r → ∀ (c : Ctx) (m : Map) (w : World) (cargs : Array Value), SR c m [] [] w → CR (okB c.X m [] []) w.heap m args cargs 0 → cargs.size = args.length →
    (∀ b, m b = none) → CallsTo P f cargs w fun cv w' => ∃ m', After c m [] [] w 0 r.1 r.2 [] WIDE cv m' w'

theorem prim_with {P : Program} {cfg cfg' : Cfg} {f0 : FuncId} {p : List AV → Option (AV × Heap)} (hp : PrimOK P cfg') (h : ContractOK P f0 p) (he : cfg.prim = withP f0 p cfg'.prim) (hh : cfg.primH = cfg'.primH := by rfl) : PrimOK P cfg := by
  refine ⟨?_, fun f p hf => hp.heap f p (by rw [← hh]; exact hf)⟩
  intro f q hf args r hr c m w cargs hs hc hsz hb
  rw [he] at hf
  unfold withP at hf
  cases hi : f.beq f0 with
  | false =>
    rw [hi, cond_false] at hf
    exact hp.prim f q hf args r hr c m w cargs hs hc hsz hb
  | true =>
    rw [hi, cond_true] at hf
    cases hf
    have := Nat.eq_of_beq_eq_true hi
    subst this
    exact h args r hr c m w cargs hs hc hsz hb

/-- One contract over the caller's heap more. -/
def withH (f0 : FuncId) (p : List AV → Heap → List Nat → Nat → Option (AV × Heap × List Nat × Nat)) (prim : FuncId → Option (List AV → Heap → List Nat → Nat → Option (AV × Heap × List Nat × Nat))) :
    FuncId → Option (List AV → Heap → List Nat → Nat → Option (AV × Heap × List Nat × Nat)) := fun f => bif f.beq f0 then some p else prim f

theorem prim_withH {P : Program} {cfg cfg' : Cfg} {f0 : FuncId} {p : List AV → Heap → List Nat → Nat → Option (AV × Heap × List Nat × Nat)} (hp : PrimOK P cfg') (h : HOK P f0 p) (he : cfg.primH = withH f0 p cfg'.primH) (hh : cfg.prim = cfg'.prim := by rfl) : PrimOK P cfg := by
  refine ⟨fun f p hf => hp.prim f p (by rw [← hh]; exact hf), fun f q hf => ?_⟩
  rw [he] at hf
  unfold withH at hf
  cases hi : f.beq f0 with
  | false =>
    rw [hi, cond_false] at hf
    exact hp.heap f q hf
  | true =>
    rw [hi, cond_true] at hf
    cases hf
    have := Nat.eq_of_beq_eq_true hi
    subst this
    exact h

theorem prim_none {P : Program} {cfg : Cfg} (h1 : ∀ f, cfg.prim f = none) (h2 : ∀ f, cfg.primH f = none) : PrimOK P cfg :=
  ⟨fun f p h => (by rw [h1 f] at h; cases h), fun f p h => (by rw [h2 f] at h; cases h)⟩

/-- A call that changes nothing that was there, of a plain value. -/
theorem after_below {c : Ctx} {m : Map} {w w' : World} (hs : SR c m [] [] w) (hb : RowKit.Below w.heap.size w w') {v : AV} {cv : Value} (hv : VR (okB c.X m [] []) w'.heap m v cv) : After c m [] [] w 0 v [] [] WIDE cv m w' := by
  obtain ⟨h1, h2⟩ := hs.away (w' := w') ⟨hb.os, hb.tape, hb.output, hb.size, fun β hβ _ => hb.block β hβ⟩
  exact ⟨h1, h2, hv, Nat.zero_le _, fun b hb => .inl hb⟩

theorem contains_ok {P : Program} {ρ : Ren} {f : FuncId} (L : Lays.n150 P ρ) (h116 : (P.info? (ρ.t 116)).map (fun i => (i.zero, i.size)) = some (some (.agg (Array.replicate 256 (.bool false))), 256)) (hf : ρ.f 150 = f)
    (he : ∀ args w, (callFunc f args).run P w = .ok (.enter f args) w) : ContractOK P f containsP := by
  subst hf
  intro args r hr c m w cargs hs hc hsz hb
  unfold containsP at hr
  split at hr
  · rename_i s ch
    cases hpl : plain s && plain ch with
    | false => rw [hpl, cond_false] at hr; cases hr
    | true =>
      rw [hpl, cond_true] at hr
      cases hr
      rw [Bool.and_eq_true] at hpl
      obtain ⟨p1, p2⟩ := plain_small hpl.1
      obtain ⟨q1, q2⟩ := plain_small hpl.2
      obtain ⟨v1, g1, h1⟩ := hc 0 _ rfl
      obtain ⟨v2, g2, h2⟩ := hc 1 _ rfl
      obtain ⟨s1, rfl, e1⟩ := h1.str_inv
      obtain ⟨s2, rfl, e2⟩ := h2.str_inv
      have hargs : cargs = #[.string s1, .string s2] := by
        apply Array.ext
        · simpa using hsz
        · intro i hi1 hi2
          have hi : i = 0 ∨ i = 1 := by simp at hi2; omega
          rcases hi with rfl | rfl
          · rw [Array.getElem?_eq_getElem hi1] at g1; simpa using g1
          · rw [Array.getElem?_eq_getElem hi1] at g2; simpa using g2
      subst hargs
      refine .inr ⟨he _ w, ?_⟩
      have sz : ∀ s : ByteArray, s.size = s.data.toList.length := fun s => (Array.length_toList).symm
      refine (Any.strings_ContainsAny_laid L h116 s1 s2 w (by rw [sz, e1]; exact p1) (by rw [sz, e2]; exact q1) (by rw [e1]; exact p2) (by rw [e2]; exact q2)).mono ?_
      rintro e w' ⟨rfl, hw⟩
      refine ⟨_, rfl, m, after_below hs hw ?_⟩
      rw [e1, e2, Lib.containsAny, indexAny_any]
      exact .bool _
  · cases hr

end Go.Proofs.Ytmkmjjodiicmlaa.VS

/- slices.Insert by its own text, at elements of any size. Conditions: none. -/
namespace Go.Proofs.Ytmkmjjodiicmlaa.VS
open Go.Shelf Go.RowKit

/-- What is asked of a program. -/
structure InsP (P : Program) (ρ : Ren) (f : FuncId) : Prop where
  fn : ∃ fn, P.funcs[f]? = some fn ∧ fn.body = (Body2.n22 ρ).body ∧ fn.ntmps = 95 ∧ fn.results = #[.tmp 6] ∧ (fn.name == "runtime.NumGoroutine") = false
  mixed : P.follows .mixedOrders = true
  tI : P.underlying (ρ.t 3) = some (.int .i64)
  tB : P.underlying (ρ.t 4) = some .bool
  ov : ∀ args v w, (Extern.SlicesOverlaps.overlaps #[ρ.t 24, ρ.t 24] #[ρ.t 4] args).run P w = .ok v w → (callFunc (ρ.f 29) args).run P w = .ok (.value v) w

/-- 'copy' whose run is known, as a step of a plain region, and of one whose order is drawn. -/
theorem wp_copyI {P : Program} (w : World) {o : Oper} {a : Act} {K : Act → World → Prop} {Q : Exit → Act → World → Prop} (d s : Operand) (t t' : TypeId)
    (ho : o.op = .call { callee := .builtin .copy, args := #[d, s], argTypes := #[t, t'] }) (v u : Value) (hd : a.eval d = v) (hs : a.eval s = u) {v' : Value} {w' : World}
    (hr : (Builtin.copy_ #[t, t'] o.type #[v, u]).run P w = .ok v' w') (h : K (a.put o.dst v') w') : o.wp P a w K Q := by
  unfold Oper.wp execOp
  simp only [ho, Go.resolve, Go.invoke, Go.builtin, Sem.run_bind, Sem.run_pure, Result.andThen_ok, List.map_toArray, List.map_cons, List.map_nil, hd, hs, hr]
  exact h

theorem wpList_copyI {P : Program} (w : World) {ops : Array Oper} {rest : List Oper} {o : Oper} {a : Act} {Q : Exit → Act → World → Prop} (hgd : o.guard = none) (d s : Operand) (t t' : TypeId)
    (ho : o.op = .call { callee := .builtin .copy, args := #[d, s], argTypes := #[t, t'] }) (v u : Value) (hd : a.eval d = v) (hs : a.eval s = u) {v' : Value} {w' : World}
    (hr : (Builtin.copy_ #[t, t'] o.type #[v, u]).run P w = .ok v' w') (h : wpList P ops Q rest (a.put o.dst v') w') : wpList P ops Q (o :: rest) a w :=
  wpList_plain hgd fun _ hK => wp_copyI w d s t t' ho v u hd hs hr (hK _ _ h)

theorem step_copyI {P : Program} {ops : Array Oper} {o : Oper} {a : Act} {w : World} {K : Act → World → Prop} {Q : Exit → Act → World → Prop} {E : Prop}
    (hg : o.guard = none) (d x : Operand) (dT sT : TypeId) (hop : o.op = Op.call { callee := Callee.builtin Builtin.copy, args := #[d, x], argTypes := #[dT, sT] })
    (v u : Value) (hd : a.eval d = v) (hx : a.eval x = u) {v' : Value} {w' : World} (hr : (Builtin.copy_ #[dT, sT] o.type #[v, u]).run P w = .ok v' w') (hK : K (a.put o.dst v') w') :
    if Region.wanted o (yielded ops a.tmps) = true then Oper.wp P o a w K Q else E := by
  have hw : Region.wanted o (yielded ops a.tmps) = true := by simp [Region.wanted, hg]
  rw [if_pos hw]
  exact wp_copyI w d x dT sT hop v u hd hx hr hK

theorem wpList_appendI {P : Program} (w : World) {ops : Array Oper} {rest : List Oper} {o : Oper} {a : Act} {Q : Exit → Act → World → Prop} (hgd : o.guard = none) (d s : Operand) (t t' : TypeId)
    (ho : o.op = .call { callee := .builtin .append, args := #[d, s], argTypes := #[t, t'] }) (v u : Value) (hd : a.eval d = v) (hs : a.eval s = u) {v' : Value} {w' : World}
    (hr : (Builtin.append_ #[t, t'] o.type #[v, u]).run P w = .ok v' w') (h : wpList P ops Q rest (a.put o.dst v') w') : wpList P ops Q (o :: rest) a w :=
  wpList_plain hgd fun _ hK => by
    unfold Oper.wp execOp
    simp only [ho, Go.resolve, Go.invoke, Go.builtin, Sem.run_bind, Sem.run_pure, Result.andThen_ok, List.map_toArray, List.map_cons, List.map_nil, hd, hs, hr]
    exact hK _ _ h

set_option maxHeartbeats 4000000 in
set_option maxRecDepth 100000 in
theorem ins_shift {P : Program} {f : FuncId} {ρ : Ren} {E : TypeId} {k : Nat} (A : InsP P ρ f) (tS : P.underlying (ρ.t 24) = some (.slice E)) (z9 : ∀ w, (Go.sizeOf E).run P w = .ok k w) (b off n c i vb voff m vc : Nat) (w w1 w2 : World)
    (hi : i < n) (hm : 0 < m) (hroom : n + m ≤ c) (h63 : n + m ≤ 1099511627776)
    (hov : ∀ lb cb, (callFunc (ρ.f 29) #[.slice (some ⟨vb, voff, none⟩) m vc, .slice (some ⟨b, off + (i + m) * k, none⟩) lb cb]).run P w = .ok (.value (.bool false)) w)
    (hcp1 : ∀ dc sc, (Builtin.copy_ #[ρ.t 24, ρ.t 24] (ρ.t 3) #[.slice (some ⟨b, off + (i + m) * k, none⟩) (n + m - (i + m)) dc, .slice (some ⟨b, off + i * k, none⟩) (n + m - i) sc]).run P w.drew = .ok (goInt (n - i : Nat)) w1)
    (hcp2 : ∀ dc, (Builtin.copy_ #[ρ.t 24, ρ.t 24] (ρ.t 3) #[.slice (some ⟨b, off + i * k, none⟩) (n + m - i) dc, .slice (some ⟨vb, voff, none⟩) m vc]).run P w1 = .ok (goInt m) w2) :
    Calls P f #[.slice (some ⟨b, off, none⟩) n c, .int .i64 i, .slice (some ⟨vb, voff, none⟩) m vc] w fun e w' =>
      e = .returned (.slice (some ⟨b, off, none⟩) (n + m) c) ∧ w' = w2 := by
  obtain ⟨fn, hf, hbody, hn, hres, hname⟩ := A.fn
  have t24 := tS; have t3 := A.tI; have t4 := A.tB
  have u24 := run_underlying tS; have u3 := run_underlying A.tI; have u4 := run_underlying A.tB
  have mixed := A.mixed
  have hz1 : ¬ ((m : Int) = 0) := by omega
  have hz2 : ¬ ((i : Int) = (n : Int)) := by omega
  have hw1 : IntKind.i64.wrap ((i : Int) + (m : Int)) = (i : Int) + (m : Int) := by rw [IntKind.wrap_i64]; omega
  have hw2 : IntKind.i64.wrap ((n : Int) + (m : Int)) = (n : Int) + (m : Int) := by rw [IntKind.wrap_i64]; omega
  have hb1 : (0 : Int) ≤ (i : Int) + (m : Int) := by omega
  have hin : i ≤ n := by omega
  have htn : ((i : Int) + (m : Int)).toNat = i + m := by omega
  have hb2 : ¬ (c = i + m) := by omega
  have hb3 : (i : Int) ≤ (n : Int) + (m : Int) := by omega
  have hb4 : ¬ (c = i) := by omega
  refine calls_of_wp hf (hbody.trans rfl) ?_
  simp only [hn, List.size_toArray, List.length_cons, List.length_nil, Nat.reduceAdd, Nat.reduceSub, Array.replicate_succ,
     Array.replicate_zero, List.push_toArray, List.append_toArray, List.nil_append, List.cons_append]
  go_wp2_with (simp only [hov])
  go_region_law_o (refine step_copyI rfl _ _ (ρ.t 24) (ρ.t 24) rfl _ _ (by simp [Act.eval, Act.put]) (by simp [Act.eval, Act.put]) (hcp1 _ _) ?_)
  go_wp2_with (at_builtin; refine wpList_copyI _ rfl _ _ (ρ.t 24) (ρ.t 24) rfl _ _ rfl rfl (hcp2 _) ?_)
  exact ⟨rfl, _, by simp [results, hres], rfl, rfl⟩

set_option maxHeartbeats 4000000 in
set_option maxRecDepth 100000 in
theorem ins_end {P : Program} {f : FuncId} {ρ : Ren} {E : TypeId} {k : Nat} (A : InsP P ρ f) (tS : P.underlying (ρ.t 24) = some (.slice E)) (z9 : ∀ w, (Go.sizeOf E).run P w = .ok k w) (base vb : Option Addr) (n c m vc : Nat) (w w1 : World) (cv : Value)
    (hm : 0 < m) (hnc : n ≤ c) (hbase : base = none → c = 0)
    (hap : (Builtin.append_ #[ρ.t 24, ρ.t 24] (ρ.t 24) #[.slice base n c, .slice vb m vc]).run P w = .ok cv w1) :
    Calls P f #[.slice base n c, .int .i64 n, .slice vb m vc] w fun e w' => e = .returned cv ∧ w' = w1 := by
  obtain ⟨fn, hf, hbody, hn, hres, hname⟩ := A.fn
  have t24 := tS; have t3 := A.tI; have t4 := A.tB
  have u24 := run_underlying tS; have u3 := run_underlying A.tI; have u4 := run_underlying A.tB
  have mixed := A.mixed
  have hz1 : ¬ ((m : Int) = 0) := by omega
  refine calls_of_wp hf (hbody.trans rfl) ?_
  simp only [hn, List.size_toArray, List.length_cons, List.length_nil, Nat.reduceAdd, Nat.reduceSub, Array.replicate_succ,
     Array.replicate_zero, List.push_toArray, List.append_toArray, List.nil_append, List.cons_append]
  cases base with
  | none =>
    have h0 := hbase rfl
    subst h0
    have h1 : n = 0 := by omega
    subst h1
    clear hbase
    go_wp2_with (at_builtin; refine wpList_appendI _ rfl _ _ (ρ.t 24) (ρ.t 24) rfl _ _ rfl rfl hap ?_)
    exact ⟨rfl, _, by simp [results, hres], rfl, rfl⟩
  | some a =>
    clear hbase
    obtain ⟨ab, ao, asp⟩ := a
    go_wp2_with (at_builtin; refine wpList_appendI _ rfl _ _ (ρ.t 24) (ρ.t 24) rfl _ _ rfl rfl hap ?_)
    all_goals exact ⟨rfl, _, by simp [results, hres], rfl, rfl⟩

set_option maxHeartbeats 4000000 in
set_option maxRecDepth 100000 in
theorem ins_grow {P : Program} {f : FuncId} {ρ : Ren} {E : TypeId} {k : Nat} (A : InsP P ρ f) (tS : P.underlying (ρ.t 24) = some (.slice E)) (z9 : ∀ w, (Go.sizeOf E).run P w = .ok k w) (b off n c i b2 G : Nat) (vb : Option Addr) (m vc : Nat) (w w1 w2 w3 : World)
    (hi : i < n) (hm : 0 < m) (hnc : n ≤ c) (hroom : c < n + m) (hG : n + m ≤ G) (h63 : n + m ≤ 1099511627776)
    (hap : (Builtin.append_ #[ρ.t 24, ρ.t 3] (ρ.t 24) #[.slice (some ⟨b, off, none⟩) i c, .int .i64 ((n : Int) + (m : Int) - (i : Int))]).run P w = .ok (.slice (some ⟨b2, 0, none⟩) (n + m) G) w1)
    (hcp1 : ∀ dc, (Builtin.copy_ #[ρ.t 24, ρ.t 24] (ρ.t 3) #[.slice (some ⟨b2, i * k, none⟩) (n + m - i) dc, .slice vb m vc]).run P w1 = .ok (goInt m) w2)
    (hcp2 : ∀ dc sc, (Builtin.copy_ #[ρ.t 24, ρ.t 24] (ρ.t 3) #[.slice (some ⟨b2, (i + m) * k, none⟩) (n + m - (i + m)) dc, .slice (some ⟨b, off + i * k, none⟩) (n - i) sc]).run P w2.drew = .ok (goInt (n - i : Nat)) w3) :
    Calls P f #[.slice (some ⟨b, off, none⟩) n c, .int .i64 i, .slice vb m vc] w fun e w' => e = .returned (.slice (some ⟨b2, 0, none⟩) (n + m) G) ∧ w' = w3 := by
  obtain ⟨fn, hf, hbody, hn, hres, hname⟩ := A.fn
  have t24 := tS; have t3 := A.tI; have t4 := A.tB
  have u24 := run_underlying tS; have u3 := run_underlying A.tI; have u4 := run_underlying A.tB
  have mixed := A.mixed
  have hz1 : ¬ ((m : Int) = 0) := by omega
  have hz2 : ¬ ((i : Int) = (n : Int)) := by omega
  have hz3 : (c : Int) < (n : Int) + (m : Int) := by omega
  have hw1 : IntKind.i64.wrap ((i : Int) + (m : Int)) = (i : Int) + (m : Int) := by rw [IntKind.wrap_i64]; omega
  have hw2 : IntKind.i64.wrap ((n : Int) + (m : Int)) = (n : Int) + (m : Int) := by rw [IntKind.wrap_i64]; omega
  have hw3 : IntKind.i64.wrap ((n : Int) + (m : Int) - (i : Int)) = (n : Int) + (m : Int) - (i : Int) := by rw [IntKind.wrap_i64]; omega
  have hb1 : (0 : Int) ≤ (i : Int) + (m : Int) := by omega
  have hin : i ≤ n := by omega
  have hic : i ≤ c := by omega
  have htn : ((i : Int) + (m : Int)).toNat = i + m := by omega
  have hb2 : ¬ (G = i + m) := by omega
  have hb3 : (i : Int) ≤ (n : Int) + (m : Int) := by omega
  have hb3' : (i : Int) ≤ (n : Int) := by omega
  have hb4 : ¬ (G = i) := by omega
  have hb5 : ¬ (c = i) := by omega
  refine calls_of_wp hf (hbody.trans rfl) ?_
  simp only [hn, List.size_toArray, List.length_cons, List.length_nil, Nat.reduceAdd, Nat.reduceSub, Array.replicate_succ,
     Array.replicate_zero, List.push_toArray, List.append_toArray, List.nil_append, List.cons_append]
  go_wp2_with (first
    | (at_builtin; refine wpList_appendI _ rfl _ _ (ρ.t 24) (ρ.t 3) rfl _ _ rfl rfl hap ?_)
    | (at_builtin; refine wpList_copyI _ rfl _ _ (ρ.t 24) (ρ.t 24) rfl _ _ rfl rfl (hcp1 _) ?_))
  go_region_law_o (refine step_copyI rfl _ _ (ρ.t 24) (ρ.t 24) rfl _ _ (by simp [Act.eval, Act.put]) (by simp [Act.eval, Act.put]) (hcp2 _ _) ?_)
  go_wp2
  exact ⟨rfl, _, by simp [results, hres], rfl, rfl⟩

end Go.Proofs.Ytmkmjjodiicmlaa.VS

