/- The text of a function, for values that are not known: what its proposition asks is what it leaves. Conditions: none. -/
import Derived.Test.YtjihnbjdclobgaaVW4
namespace Go.Proofs.Ytjihnbjdclobgaa.VS
variable [Syms]

omit [Syms] in
theorem Fr.set_not : ∀ (t : Fr) (k : Nat) (a : AV), t.has k = false → t.set k a = t
  | .nil, k, a, _ => rfl
  | .nd v l r, k, a, h => by
    rw [Fr.has] at h
    rw [Fr.set_nd]
    by_cases h0 : k = 0
    · rw [if_pos h0] at h; cases h
    · rw [if_neg h0] at h ⊢
      by_cases h1 : k % 2 = 1
      · rw [if_pos h1] at h ⊢; rw [Fr.set_not l _ a h]
      · rw [if_neg h1] at h ⊢; rw [Fr.set_not r _ a h]

/-- A state, and that all that was there at the call is as it was. -/
structure Good (n : Nat) (c : Ctx) (wE : World) (m : Map) (s : St) (a : Act) (w : World) : Prop where
  here : At n c m s a w
  old : ∀ β C e z, ¬ c.X β → wE.heap[β]? = some (.cells C e z) → okB c.X m s.H s.F β ∧ w.heap[β]? = some (.cells C e z)

theorem Good.moves {n : Nat} {c : Ctx} {wE w w' : World} {m m' : Map} {s s' : St} {a a' : Act} (h : Good n c wE m s a w) (ha : At n c m' s' a' w') (hx : Ext c m s.H s.F w m' s'.H s'.F w') : Good n c wE m' s' a' w' :=
  ⟨ha, fun β C e z h1 h2 => by
    obtain ⟨k1, k2⟩ := h.old β C e z h1 h2
    exact hx.kk β C e z k1 k2⟩

theorem Good.le {n : Nat} {c : Ctx} {wE w : World} {m : Map} {s : St} {a : Act} (h : Good n c wE m s a w) {H1 : Heap} (hl : HLe s.H H1) : Good n c wE m { s with H := H1 } a w :=
  ⟨h.here.le hl, fun β C e z h1 h2 => let ⟨k1, k2⟩ := h.old β C e z h1 h2; ⟨okB_le hl k1, k2⟩⟩

theorem Good.step {n : Nat} {c : Ctx} {wE w : World} {m : Map} {s : St} {a : Act} (h : Good n c wE m s a w) {fr1 : Fr} {H1 : Heap} (hf : FEq s.fr fr1) (hl : HLe s.H H1) : Good n c wE m ⟨fr1, H1, s.F, s.nx⟩ a w :=
  ⟨⟨h.here.sr.le hl, fun t => hf.to t _ _ _ _ ((h.here.fr t).mono (fun β C e z ho hh => ⟨okB_le hl ho, hh⟩) (MLe.refl m)), fun k hk => by rw [hf.has]; exact h.here.has k hk, h.here.sz, h.here.nx⟩,
    fun β C e z h1 h2 => let ⟨k1, k2⟩ := h.old β C e z h1 h2; ⟨okB_le hl k1, k2⟩⟩

theorem Good.set {n : Nat} {c : Ctx} {wE w : World} {m : Map} {s : St} {a : Act} (h : Good n c wE m s a w) {d : Nat} {v : AV} (hv : VLe (s.fr.get d) v) : Good n c wE m ⟨s.fr.set d v, s.H, s.F, s.nx⟩ a w :=
  ⟨⟨h.here.sr, fun t => by
    cases hd : s.fr.has d with
    | false => rw [Fr.set_not _ _ _ hd]; exact h.here.fr t
    | true =>
      show VR _ _ _ ((s.fr.set d v).get t) _
      rw [Fr.get_set _ _ _ _ hd]
      by_cases e : t = d
      · rw [if_pos e]; subst e; exact hv _ _ _ _ (h.here.fr t)
      · rw [if_neg e]; exact h.here.fr t, fun k hk => by rw [Fr.has_set]; exact h.here.has k hk, h.here.sz, h.here.nx⟩, h.old⟩

theorem Good.slot {n : Nat} {c : Ctx} {wE w : World} {m : Map} {fr : Fr} {H : Heap} {F : List Nat} {nx : Nat} {dst : Option Tmp} {v1 v : AV} {a : Act} {fr1 : Fr} (h : Good n c wE m ⟨put fr1 dst v1, H, F, nx⟩ a w) (hh : ∀ k, k < n → fr.has k = true) (hd : ∀ d, dst = some d → d < n) (hf : FEq fr fr1) (hv : VLe v1 v) :
    Good n c wE m ⟨put fr dst v, H, F, nx⟩ a w := by
  refine ⟨⟨h.here.sr, ?_, put_has hh dst v, h.here.sz, h.here.nx⟩, h.old⟩
  cases dst with
  | none => exact fun t => hf.from_ t _ _ _ _ (h.here.fr t)
  | some d =>
    intro t
    have := h.here.fr t
    show VR _ _ _ ((fr.set d v).get t) _
    change VR _ _ _ ((fr1.set d v1).get t) _ at this
    rw [Fr.get_set _ _ _ _ (by rw [hf.has]; exact hh d (hd d rfl))] at this
    rw [Fr.get_set _ _ _ _ (hh d (hd d rfl))]
    by_cases e : t = d
    · rw [if_pos e] at this ⊢; exact hv _ _ _ _ this
    · rw [if_neg e] at this ⊢; exact hf.from_ t _ _ _ _ this

section
variable {P : Program} {S : SE}

theorem guardU_some {n : Nat} {c : Ctx} {wE w : World} {m : Map} {s : St} {a : Act} (hg : Good n c wE m s a w) {ops : List Oper} {go skip : St → Prop} {g : Option (Nat × Bool)} (h : guardU ops s go skip g) :
    ∃ s', Good n c wE m s' a w ∧ s'.nx = s.nx ∧ ((awanted ops g s'.fr = some true ∧ go s') ∨ (awanted ops g s'.fr = some false ∧ skip s')) := by
  cases g with
  | none => exact ⟨s, hg, rfl, .inl ⟨rfl, h⟩⟩
  | some p =>
    obtain ⟨j, q⟩ := p
    have h : (match guardTmp ops j with
      | some d => (match getK s.fr d with
        | .bool b => @Bool.rec (fun _ => Prop) (bK q (skip s) (go s)) (bK q (go s) (skip s)) b
        | .ub b => (b = true → bK q (go ⟨setK s.fr d (.bool true), s.H, s.F, s.nx⟩) (skip ⟨setK s.fr d (.bool true), s.H, s.F, s.nx⟩)) ∧ (b = false → bK q (skip ⟨setK s.fr d (.bool false), s.H, s.F, s.nx⟩) (go ⟨setK s.fr d (.bool false), s.H, s.F, s.nx⟩))
        | .tup [] => skip s
        | _ => False)
      | none => False) := h
    have lit : ∀ {d : Nat} {s' : St} {b : Bool}, guardTmp ops j = some d → s'.fr.get d = .bool b → Good n c wE m s' a w → s'.nx = s.nx → (@Bool.rec (fun _ => Prop) (bK q (skip s') (go s')) (bK q (go s') (skip s')) b) →
        ∃ s', Good n c wE m s' a w ∧ s'.nx = s.nx ∧ ((awanted ops (some (j, q)) s'.fr = some true ∧ go s') ∨ (awanted ops (some (j, q)) s'.fr = some false ∧ skip s')) := by
      intro d s' b hd hb hgd hnx hh
      refine ⟨s', hgd, hnx, ?_⟩
      have : awanted ops (some (j, q)) s'.fr = some (b == q) := by rw [awanted, hd]; simp only [hb, guardIs]
      rw [this]
      cases b <;> cases q <;> first | exact .inl ⟨rfl, hh⟩ | exact .inr ⟨rfl, hh⟩
    have two : ∀ {d : Nat} {b : Bool} (b' : Bool), guardTmp ops j = some d → s.fr.get d = .ub b → b = b' → Good n c wE m ⟨s.fr.set d (.bool b'), s.H, s.F, s.nx⟩ a w ∧ (s.fr.has d = true → (s.fr.set d (.bool b')).get d = .bool b') := by
      intro d b b' hd hb e
      subst e
      exact ⟨hg.set (by rw [hb]; exact bool_le b), fun hh => by rw [Fr.get_set _ _ _ _ hh, if_pos rfl]⟩
    split at h
    · rename_i d hd
      rw [getK_eq] at h
      simp only [setK_eq] at h
      have hasd : ∀ {b}, s.fr.get d = .ub b → s.fr.has d = true := by
        intro b hb
        cases hh : s.fr.has d with
        | true => rfl
        | false =>
          have : ∀ (t : Fr) (k : Nat), t.has k = false → t.get k = und := by
            intro t
            induction t with
            | nil => intro k _; rfl
            | nd v l r ihl ihr =>
              intro k hk
              rw [Fr.has] at hk
              rw [Fr.get_nd]
              split
              · rename_i h0; rw [if_pos h0] at hk; cases hk
              · rename_i h0
                rw [if_neg h0] at hk
                split
                · rename_i h1; rw [if_pos h1] at hk; exact ihl _ hk
                · rename_i h1; rw [if_neg h1] at hk; exact ihr _ hk
          rw [this s.fr d hh] at hb
          cases hb
      split at h
      · rename_i b hb
        exact lit hd hb hg rfl h
      · rename_i b hb
        cases hbb : b with
        | true =>
          obtain ⟨k1, k2⟩ := two true hd hb hbb
          exact lit hd (k2 (hasd hb)) k1 rfl (h.1 hbb)
        | false =>
          obtain ⟨k1, k2⟩ := two false hd hb hbb
          exact lit hd (k2 (hasd hb)) k1 rfl (h.2 hbb)
      · rename_i hb
        refine ⟨s, hg, rfl, .inr ⟨?_, h⟩⟩
        rw [awanted, hd]; simp only [hb, guardIs]
      · exact h.elim
    · exact h.elim

theorem opsC_wp (hT : TyOK P S.T) (hC : CallOK P (S.env false).call) {n : Nat} {c : Ctx} {wE : World} {ops : Array Oper} {base : Nat} (hd : ∀ (i : Nat) (o : Oper), ops[i]? = some o → dstOk n o) {Q : Exit → Act → World → Prop} {k : St → Prop} :
    ∀ (r : List Oper) (i : Nat), ops.toList.drop i = r → ∀ {m : Map} {s : St} {a : Act} {w : World}, Good n c wE m s a w → (∀ j, i ≤ j → j < ops.size → ∀ b, base + STRIDE * j ≤ b → b < base + STRIDE * j + STRIDE → m b = none) →
    base + STRIDE * ops.size ≤ s.nx → opsC S ops.toList r (base + STRIDE * i) s k → (∀ s' m' a' w', k s' → Good n c wE m' s' a' w' → a'.defers = a.defers → Q .normal a' w') → wpOps P ops Q (List.range' i r.length) a w
  | [], i, _, m, s, a, w, hg, _, _, h, hQ => hQ s m a w h hg rfl
  | o :: r, i, hr, m, s, a, w, hg, hfree, hlt, h, hQ => by
    have ho : ops[i]? = some o := by
      rw [← Array.getElem?_toList]
      have : (ops.toList.drop i)[0]? = some o := by rw [hr]; rfl
      simpa using this
    have hi : i < ops.size := (Array.getElem?_eq_some_iff.1 ho).1
    have hr' : ops.toList.drop (i + 1) = r := by rw [← List.drop_drop, hr]; rfl
    have hmul : STRIDE * i + STRIDE ≤ STRIDE * ops.size := by
      rw [← Nat.mul_succ]; exact Nat.mul_le_mul_left _ hi
    rw [List.length_cons, List.range'_succ, wpOps_cons]
    have next : ∀ {m1 : Map} {s1 : St} {a1 : Act} {w1 : World}, Good n c wE m1 s1 a1 w1 → a1.defers = a.defers → s1.nx = s.nx → (∀ b, m1 b ≠ none → m b ≠ none ∨ (base + STRIDE * i ≤ b ∧ b < base + STRIDE * i + STRIDE) ∨ (s.nx ≤ b ∧ b < s1.nx)) →
        opsC S ops.toList r (Nat.add (base + STRIDE * i) (nat_lit 64)) s1 k → wpOps P ops Q (List.range' (i + 1) r.length) a1 w1 := by
      intro m1 s1 a1 w1 hg1 hd1 hnx hdom h1
      refine opsC_wp hT hC hd r (i + 1) hr' hg1 (fun j hj hjs b hb1 hb2 => ?_) (by rw [hnx]; exact hlt) (by rw [Nat.mul_succ, ← Nat.add_assoc]; exact h1) fun s' m' a' w' hk hgood hdef => hQ s' m' a' w' hk hgood (hdef.trans hd1)
      cases hm : m1 b with
      | none => rfl
      | some L =>
        exfalso
        rcases hdom b (by rw [hm]; simp) with h2 | ⟨h2, h3⟩ | ⟨h2, h3⟩
        · exact h2 (hfree j (by omega) hjs b hb1 hb2)
        · unfold STRIDE at *; omega
        · omega
    have h : guardU ops.toList s (fun s => opC S o.op s (base + STRIDE * i) fun v e _ fz => opsC S ops.toList r (Nat.add (base + STRIDE * i) (nat_lit 64)) ⟨putK o.dst s.fr v, happ s.H e, fz ++ s.F, s.nx⟩ k)
      (fun s => opsC S ops.toList r (Nat.add (base + STRIDE * i) (nat_lit 64)) ⟨putK o.dst s.fr und, s.H, s.F, s.nx⟩ k) o.guard := h
    obtain ⟨s0, hg0, hnx0, hw0⟩ := guardU_some hg h
    simp only [putK_eq] at hw0
    rcases hw0 with ⟨hw, hgo⟩ | ⟨hw, hskip⟩
    · obtain ⟨v, e, rd, fz, ⟨fr1, H1, v1, e1, rd1, k0, k1, k2, k3, k4⟩, k5⟩ := opC_some hgo
      have hg1 := hg0.step k0 k1
      have hw1 : awanted ops.toList o.guard fr1 = some true := by
        cases hgd : o.guard with
        | none => rfl
        | some p =>
          rw [hgd] at hw
          rw [awanted] at hw ⊢
          split at hw
          · rename_i d hd
            unfold guardIs at hw ⊢
            split at hw
            · rename_i b hb
              rw [k0.keeps d (.inl ⟨b, hb⟩), hb]; exact hw
            · rename_i hb
              rw [k0.keeps d (.inr hb), hb]; exact hw
            · cases hw
          · cases hw
      have hstep : stepOp (S.env false) ops.toList (base + STRIDE * i) o ⟨fr1, H1, s0.F, s0.nx⟩ = .at ⟨put fr1 o.dst v1, happ H1 e1, fz ++ s0.F, s0.nx⟩ := by
        unfold stepOp
        simp only [hw1, k2, behind]
      refine sim_step hT rfl hC hg1.here (hfree i (Nat.le_refl _) hi) (Nat.le_trans (by rw [Nat.add_assoc]; exact Nat.add_le_add_left hmul base) (by rw [hnx0]; exact hlt)) ho (hd i o ho) hstep fun cv m' w' ha' hmv hdom => ?_
      have hg2 := hg1.moves ha' hmv.ext
      have hg3 := hg2.slot hg0.here.has (hd i o ho) k0 k4
      exact next (hg3.le k3) (put_defers _ _ _) hnx0 (by simpa [hnx0] using hdom) k5
    · have hstep : stepOp (S.env false) ops.toList (base + STRIDE * i) o s0 = .at ⟨put s0.fr o.dst und, s0.H, s0.F, s0.nx⟩ := by
        unfold stepOp
        simp only [hw]
      refine sim_step hT rfl hC hg0.here (hfree i (Nat.le_refl _) hi) (Nat.le_trans (by rw [Nat.add_assoc]; exact Nat.add_le_add_left hmul base) (by rw [hnx0]; exact hlt)) ho (hd i o ho) hstep fun cv m' w' ha' hmv hdom => ?_
      exact next (hg0.moves ha' hmv.ext) (put_defers _ _ _) hnx0 (by simpa [hnx0] using hdom) hskip

omit [Syms] in
theorem Fr.get_not : ∀ (t : Fr) (k : Nat), t.has k = false → t.get k = und
  | .nil, k, _ => rfl
  | .nd v l r, k, hk => by
    rw [Fr.has] at hk
    rw [Fr.get_nd]
    split
    · rename_i h0; rw [if_pos h0] at hk; cases hk
    · rename_i h0
      rw [if_neg h0] at hk
      split
      · rename_i h1; rw [if_pos h1] at hk; exact Fr.get_not l _ hk
      · rename_i h1; rw [if_neg h1] at hk; exact Fr.get_not r _ hk

omit [Syms] in
theorem Fr.set_get : ∀ (t : Fr) (k : Nat), t.set k (t.get k) = t
  | .nil, k => rfl
  | .nd v l r, k => by
    rw [Fr.set_nd, Fr.get_nd]
    by_cases h0 : k = 0
    · simp [h0]
    · rw [if_neg h0, if_neg h0]
      by_cases h1 : k % 2 = 1
      · rw [if_pos h1, if_pos h1, Fr.set_get l]
      · rw [if_neg h1, if_neg h1, Fr.set_get r]

/-- What is told as known is so. -/
def KN (_ : Nat) (kn : List (Nat × Bool)) (fr : Fr) : Prop := ∀ d b, knOf kn d = some b → fr.get d = .bool b

omit [Syms] in
theorem knOf_del (d x : Nat) : ∀ kn : List (Nat × Bool), knOf (knDel d kn) x = if d = x then none else knOf kn x
  | [] => by simp [knDel, knOf]
  | p :: r => by
    rw [knDel]
    by_cases h : p.1 = d
    · rw [h, beq_same, cond_true, knOf_del d x r, knOf, h]
      by_cases e : d = x
      · simp [e]
      · rw [if_neg e, beq_ne e, if_neg e]; rfl
    · rw [beq_ne h, cond_false, knOf, knOf, knOf_del d x r]
      by_cases e : d = x
      · subst e; rw [if_pos rfl, if_pos rfl, beq_ne h]; rfl
      · simp [e]

omit [Syms] in
theorem KN.put {n : Nat} {kn : List (Nat × Bool)} {fr : Fr} (h : KN n kn fr) (hh : ∀ k, k < n → fr.has k = true) {dst : Option Tmp} (hd : ∀ d, dst = some d → d < n) {v : AV} {q : Option Bool} (hq : ∀ b, q = some b → v = .bool b) : KN n (knPut kn dst q) (put fr dst v) := by
  intro x b hx
  cases dst with
  | none => exact h x b hx
  | some d =>
    have hd := hd d rfl
    show (fr.set d v).get x = .bool b
    rw [Fr.get_set _ _ _ _ (hh d hd)]
    by_cases e : x = d
    · subst e
      rw [if_pos rfl]
      cases q with
      | none =>
        have hx : knOf (knDel x kn) x = some b := hx
        rw [knOf_del, if_pos rfl] at hx; cases hx
      | some c =>
        have hx : knOf ((x, c) :: knDel x kn) x = some b := hx
        rw [knOf, beq_same, cond_true] at hx
        cases hx
        exact hq _ rfl
    · rw [if_neg e]
      refine h x b ?_
      cases q with
      | none =>
        have hx : knOf (knDel d kn) x = some b := hx
        rw [knOf_del, if_neg (fun e' => e e'.symm)] at hx; exact hx
      | some c =>
        have hx : knOf ((d, c) :: knDel d kn) x = some b := hx
        rw [knOf, beq_ne (fun e' => e e'.symm), cond_false, knOf_del, if_neg (fun e' => e e'.symm)] at hx; exact hx

omit [Syms] in
theorem kb_some {n : Nat} {kn : List (Nat × Bool)} {fr : Fr} (h : KN n kn fr) {x : Operand} {b : Bool} (hx : kb kn x = some b) : opnd fr x = .bool b := by
  unfold kb at hx
  split at hx
  · exact h _ b hx
  · cases hx; rfl
  · cases hx

omit [Syms] in
theorem knOp_some {n : Nat} {E : Env} {kn : List (Nat × Bool)} {s : St} (h : KN n kn s.fr) {id : Nat} {op : Op} {b : Bool} (hb : knOp kn op = some b) {v : AV} {e : Eff} {rd fz : List Nat} (ha : aop E s id op = .ok v e rd fz) : v = .bool b := by
  unfold knOp at hb
  split at hb
  · simp only [aop, kb_some h hb, rv, Res.ok.injEq] at ha; exact ha.1.symm
  · simp only [aop, kb_some h hb, rv, Res.ok.injEq] at ha; exact ha.1.symm
  · rename_i c x y
    unfold knPick at hb
    split at hb
    · rename_i hc
      simp only [aop, kb_some h hc, kb_some h hb, opPick, rv, cond_true, Res.ok.injEq] at ha; exact ha.1.symm
    · rename_i hc
      simp only [aop, kb_some h hc, kb_some h hb, opPick, rv, cond_false, Res.ok.injEq] at ha; exact ha.1.symm
    · cases hb
  · rename_i t x
    unfold knNot at hb
    split at hb
    · rename_i c hc
      cases hb
      simp only [aop, kb_some h hc, aun, ro, Res.ok.injEq] at ha; exact ha.1.symm
    · cases hb
  · cases hb

omit [Syms] in
theorem guardD_some {n : Nat} {ops : List Oper} {s : St} {kn : List (Nat × Bool)} (hkn : KN n kn s.fr) {go skip : DK} {g : Option (Nat × Bool)} (h : guardD ops s kn go skip g) :
    ∃ kn', KN n kn' s.fr ∧ ((awanted ops g s.fr = some true ∧ go s kn') ∨ (awanted ops g s.fr = some false ∧ skip s kn')) := by
  cases g with
  | none => exact ⟨kn, hkn, .inl ⟨rfl, h⟩⟩
  | some p =>
    obtain ⟨j, q⟩ := p
    have h : (match guardTmp ops j with
      | some d => (match knOf kn d with
        | some b => bK b (bK q (go s kn) (skip s kn)) (bK q (skip s kn) (go s kn))
        | none => (match getK s.fr d with
          | .bool b => (b = true → bK q (go ⟨setK s.fr d (.bool true), s.H, s.F, s.nx⟩ ((d, true) :: kn)) (skip ⟨setK s.fr d (.bool true), s.H, s.F, s.nx⟩ ((d, true) :: kn))) ∧
            (b = false → bK q (skip ⟨setK s.fr d (.bool false), s.H, s.F, s.nx⟩ ((d, false) :: kn)) (go ⟨setK s.fr d (.bool false), s.H, s.F, s.nx⟩ ((d, false) :: kn)))
          | .tup [] => skip s kn
          | _ => False))
      | none => False) := h
    have lit : ∀ {d : Nat} {b : Bool} {kn' : List (Nat × Bool)}, guardTmp ops j = some d → s.fr.get d = .bool b → KN n kn' s.fr → (bK b (bK q (go s kn') (skip s kn')) (bK q (skip s kn') (go s kn'))) →
        ∃ kn', KN n kn' s.fr ∧ ((awanted ops (some (j, q)) s.fr = some true ∧ go s kn') ∨ (awanted ops (some (j, q)) s.fr = some false ∧ skip s kn')) := by
      intro d b kn' hd hb hk hh
      refine ⟨kn', hk, ?_⟩
      have : awanted ops (some (j, q)) s.fr = some (b == q) := by rw [awanted, hd]; simp only [hb, guardIs]
      rw [this]
      cases b <;> cases q <;> first | exact .inl ⟨rfl, hh⟩ | exact .inr ⟨rfl, hh⟩
    split at h
    · rename_i d hd
      split at h
      · rename_i b hb
        exact lit hd (hkn d b hb) hkn h
      · rename_i hnone
        rw [getK_eq] at h
        simp only [setK_eq] at h
        have cons : ∀ {b : Bool}, s.fr.get d = .bool b → KN n ((d, b) :: kn) s.fr := by
          intro b hb x c hx
          rw [knOf] at hx
          by_cases e : d = x
          · subst e; rw [beq_same, cond_true] at hx; cases hx; exact hb
          · rw [beq_ne e, cond_false] at hx; exact hkn x c hx
        split at h
        · rename_i b hb
          cases hbb : b with
          | true =>
            rw [hbb] at hb
            have hs : s.fr.set d (.bool true) = s.fr := by rw [← hb]; exact Fr.set_get _ _
            have h1 := h.1 hbb
            rw [hs] at h1
            exact lit hd hb (cons hb) h1
          | false =>
            rw [hbb] at hb
            have hs : s.fr.set d (.bool false) = s.fr := by rw [← hb]; exact Fr.set_get _ _
            have h1 := h.2 hbb
            rw [hs] at h1
            exact lit hd hb (cons hb) h1
        · rename_i hb
          refine ⟨kn, hkn, .inr ⟨?_, h⟩⟩
          rw [awanted, hd]; simp only [hb, guardIs]
        · exact h.elim
    · exact h.elim

omit [Syms] in
theorem opsD_some {n : Nat} {ops : List Oper} : ∀ (r : List Oper), (∀ o ∈ r, dstOk n o) → ∀ (id : Nat) (s : St) (kn : List (Nat × Bool)) (fs : List Foot) (k : St → List (Nat × Bool) → List Foot → Prop), KN n kn s.fr → (∀ k, k < n → s.fr.has k = true) →
    opsD S ops r id s kn fs k → ∃ s' kn' fs', seqD (S.env true) ops r id s fs = .at s' fs' ∧ k s' kn' fs'
  | [], _, id, s, kn, fs, k, _, _, h => ⟨s, kn, fs, rfl, h⟩
  | o :: r, hd, id, s, kn, fs, k, hkn, hh, h => by
    have h : guardD ops s kn (fun s kn => opD S true o.op s id fun v e rd fz => must (fz.all (isIn · s.F)) (opsD S ops r (Nat.add id (nat_lit 64)) ⟨putK o.dst s.fr v, happ s.H e, s.F, s.nx⟩ (knPut kn o.dst (knOp kn o.op)) (fs ++ [⟨rd, e.map (·.1), false⟩]) k))
      (fun s kn => opsD S ops r (Nat.add id (nat_lit 64)) ⟨putK o.dst s.fr und, s.H, s.F, s.nx⟩ (knPut kn o.dst none) (fs ++ [⟨[], [], false⟩]) k) o.guard := h
    simp only [putK_eq] at h
    have ho := hd o List.mem_cons_self
    have hr : ∀ o ∈ r, dstOk n o := fun o h => hd o (List.mem_cons_of_mem _ h)
    obtain ⟨kn1, hkn1, hw⟩ := guardD_some hkn h
    rcases hw with ⟨hw, hgo⟩ | ⟨hw, hskip⟩
    · obtain ⟨v, e, rd, fz, h1, h2⟩ := opD_some hgo
      obtain ⟨h3, h4⟩ := must_and h2
      obtain ⟨s', kn', fs', h5, h6⟩ := opsD_some r hr _ _ _ _ _ (hkn1.put hh ho fun b hb => knOp_some hkn1 hb h1) (put_has hh _ _) h4
      refine ⟨s', kn', fs', ?_, h6⟩
      rw [seqD]
      have : stepD (S.env true) ops id o s = .at ⟨put s.fr o.dst v, happ s.H e, s.F, s.nx⟩ [⟨rd, e.map (·.1), false⟩] := by
        unfold stepD
        simp only [hw, h1, behindD, h3, cond_true]
      rw [this]
      exact h5
    · obtain ⟨s', kn', fs', h5, h6⟩ := opsD_some r hr _ _ _ _ _ (hkn1.put hh ho (q := none) (v := und) fun b hb => by cases hb) (put_has hh _ _) hskip
      refine ⟨s', kn', fs', ?_, h6⟩
      rw [seqD]
      have : stepD (S.env true) ops id o s = .at ⟨put s.fr o.dst und, s.H, s.F, s.nx⟩ [⟨[], [], false⟩] := by
        unfold stepD
        simp only [hw]
      rw [this]
      exact h5

/-- From a state that is told so a text leads to states that are told so. -/
def Sem (P : Program) (n : Nat) (code : Code) (s : St) (K : AX → St → Prop) : Prop :=
  ∀ (c : Ctx) (wE : World) (m : Map) (a : Act) (w : World) (Q : Exit → Act → World → Prop), Good n c wE m s a w → a.defers = [] →
    (∀ x s' m' a' w', K x s' → Good n c wE m' s' a' w' → a'.defers = [] → Q x.out a' w') → code.wp P Q a w

/-- What tells a state tells another one. -/
def SEnt (n : Nat) (s s' : St) : Prop := ∀ (c : Ctx) (wE : World) (m : Map) (a : Act) (w : World), Good n c wE m s a w → ∃ m', Good n c wE m' s' a w

theorem Sem.weaken {n : Nat} {code : Code} {s s' : St} {K K' : AX → St → Prop} (h : Sem P n code s' K') (hs : SEnt n s s') (hK : ∀ x t, K' x t → ∃ t', K x t' ∧ SEnt n t t') : Sem P n code s K := by
  intro c wE m a w Q hg hd hQ
  obtain ⟨m', hg'⟩ := hs c wE m a w hg
  refine h c wE m' a w Q hg' hd fun x t m1 a1 w1 hk hg1 hd1 => ?_
  obtain ⟨t', h1, h2⟩ := hK x t hk
  obtain ⟨m2, hg2⟩ := h2 c wE m1 a1 w1 hg1
  exact hQ x t' m2 a1 w1 h1 hg2 hd1

omit [Syms] in
theorem SEnt.refl [Syms] (n : Nat) (s : St) : SEnt n s s := fun _ _ m _ _ h => ⟨m, h⟩

theorem Good.nxt {n : Nat} {c : Ctx} {wE : World} {m : Map} {s : St} {a : Act} {w : World} (h : Good n c wE m s a w) (k : Nat) : Good n c wE m (withF s s.F k) a w := ⟨h.here.nxt k, h.old⟩

theorem ubAll_good {n : Nat} {c : Ctx} {wE w : World} {m : Map} {a : Act} {kn : List (Nat × Bool)} {H : Heap} {F : List Nat} {nx : Nat} : ∀ (ops : List Oper) {fr : Fr}, Good n c wE m ⟨fr, H, F, nx⟩ a w → Good n c wE m ⟨ubAll kn ops fr, H, F, nx⟩ a w
  | [], fr, h => h
  | o :: r, fr, h => by
    rw [ubAll]
    split
    · rename_i d hd
      split
      · exact ubAll_good r h
      · rw [setK_eq, getK_eq]
        exact ubAll_good r (h.set (d := d) (toUb_le _))
    · exact ubAll_good r h

theorem regC_sem (hT : TyOK P S.T) (hC : ConOK P S) (hmx : P.follows .mixedOrders = true) {n id : Nat} {ops : Array Oper} {draw : Bool} (hd : dstsOk n ops.toList = true) (hdr : drawsOk (.region id ops draw) = true) {s : St} {k : St → Prop} (h : regC S ops.toList draw s k) :
    Sem P n (.region id ops draw) s fun x s' => x = .normal ∧ k s' := by
  intro c wE m a w Q hg hdf hQ
  cases draw with
  | false =>
    have h : opsC S ops.toList ops.toList s.nx (withF s s.F ops.toList.length) k := h
    refine wp_region ?_
    have := opsC_wp hT (conCall_ok false hC) (base := s.nx) (dsts_of hd) (Q := Q) (k := k) ops.toList 0 rfl (hg.nxt ops.toList.length) (fun j _ _ b hb _ => hg.here.nx b (by omega)) (by simp [withF]) h fun s' m' a' w' hk hg' hd' => hQ .normal s' m' a' w' ⟨rfl, hk⟩ hg' (hd'.trans hdf)
    rw [List.range_eq_range', ← Array.length_toList]
    exact this
  | true =>
    have hg1 : Good n c wE m ⟨s.fr.map unub, s.H, s.F, s.nx⟩ a w := hg.step (FEq.unub s.fr) (.refl _)
    have h : opsD S ops.toList ops.toList s.nx (withF ⟨s.fr.map unub, s.H, s.F, s.nx⟩ s.F ops.toList.length) [] [] fun s' kn fs => must (feetOk fs (befL ops.toList []) 0) (k ⟨ubAll kn ops.toList s'.fr, s'.H, s'.F, s'.nx⟩) := h
    obtain ⟨s', kn, fs', h1, h2⟩ := opsD_some (n := n) ops.toList (dstsOk_spec hd) _ _ _ _ _ (fun d b hb => by cases hb) (by intro q hq; exact hg1.here.has q hq) h
    obtain ⟨h3, h4⟩ := must_and h2
    have hreg : aregion (S.env true) ops.toList true ⟨s.fr.map unub, s.H, s.F, s.nx⟩ = .go .normal s' := by
      unfold aregion
      simp only [cond_true]
      have : drawTry (S.env true) ops.toList ⟨s.fr.map unub, s.H, s.F, s.nx⟩ [] = .go .normal s' := by
        unfold drawTry
        rw [List.nil_append, h1]
        unfold drawn
        simp only [h3, cond_true]
      rw [this]; rfl
    have hok : drawOk ops.toList = true := by simpa [drawsOk] using hdr
    exact sim_draw hT rfl (conCall_ok true hC) hmx hd hok hreg hg1.here fun a' w' m' ha' hd' hmv => hQ .normal _ m' a' w' ⟨rfl, h4⟩ (ubAll_good ops.toList (hg1.moves ha' hmv.ext)) (hd'.trans hdf)

/-- The loops of a text. -/
def loopsOf : Code → List Code
  | .seq a b => loopsOf a ++ loopsOf b
  | .cond _ a b => loopsOf a ++ loopsOf b
  | .block _ b => loopsOf b
  | .loop b => [b]
  | _ => []

/-- What is known of a loop holds. -/
def LoopOK (P : Program) (n : Nat) (lc : LoopC) (b : Code) : Prop :=
  ∀ (vals : List AV) (H : Heap) (K : AX → List AV → Heap → Prop), lc.fn vals H K → Sem P n (.loop b) (cutSt (lc.live.map (·.1)) vals H) fun x s' => ∃ vs H', K x vs H' ∧ SEnt n s' (cutSt (lc.out.map (·.1)) vs H')

def LoopsOK (P : Program) (S : SE) (n : Nat) (code : Code) : Prop := ∀ b ∈ loopsOf code, ∀ lc, S.loop (keyOf b) = some lc → LoopOK P n lc b

end
end Go.Proofs.Ytjihnbjdclobgaa.VS
