/- Operations in a row, in any order: what they leave, on both sides. Conditions: none. -/
import Derived.Test.YtopkeglpafdlfaaGreatVS20
namespace Go.Proofs.YtopkeglpafdlfaaGreat.VS
variable [Syms]

section
variable {P : Program} {T : Tabs} {c : Ctx} {m : Map} {w : World}

/-- A frame and a heap, on both sides. -/
structure At (n : Nat) (c : Ctx) (m : Map) (s : St) (a : Act) (w : World) : Prop where
  sr : SR c m s.H s.F w
  fr : FrR (okB c.X m s.H s.F) w.heap m s.fr a.tmps
  has : ∀ k, k < n → s.fr.has k = true
  sz : a.tmps.size = n
  nx : ∀ b, s.nx ≤ b → m b = none

/-- From one state to a later one. -/
structure Moves (c : Ctx) (m : Map) (s : St) (w : World) (lo : Nat) (m' : Map) (s' : St) (w' : World) : Prop where
  ext : Ext c m s.H s.F w m' s'.H s'.F w'
  le : s.nx ≤ s'.nx
  dom : ∀ b, m' b ≠ none → m b ≠ none ∨ (lo ≤ b ∧ b < s'.nx)

omit [Syms] in
theorem Moves.refl (c : Ctx) (m : Map) (s : St) (w : World) (lo : Nat) : Moves c m s w lo m s w := ⟨Ext.refl _ _ _ _ _, Nat.le_refl _, fun _ h => .inl h⟩

omit [Syms] in
theorem Moves.trans {m1 m2 : Map} {s s1 s2 : St} {w1 w2 : World} {lo : Nat} (h : Moves c m s w lo m1 s1 w1) (k : Moves c m1 s1 w1 lo m2 s2 w2) : Moves c m s w lo m2 s2 w2 :=
  ⟨h.ext.trans k.ext, Nat.le_trans h.le k.le, fun b hb => by
    rcases k.dom b hb with h1 | h1
    · rcases h.dom b h1 with h2 | ⟨h2, h3⟩
      · exact .inl h2
      · exact .inr ⟨h2, Nat.lt_of_lt_of_le h3 k.le⟩
    · exact .inr h1⟩

def dstOk (n : Nat) (o : Oper) : Prop := ∀ d, o.dst = some d → d < n

omit [Syms] in
theorem put_has {n : Nat} {fr : Fr} (h : ∀ k, k < n → fr.has k = true) (dst : Option Tmp) (v : AV) : ∀ k, k < n → (put fr dst v).has k = true := by
  intro k hk
  cases dst with
  | none => exact h k hk
  | some d => show (fr.set d v).has k = true; rw [Fr.has_set]; exact h k hk

omit [Syms] in
theorem put_size (a : Act) (dst : Option Tmp) (v : Value) : (a.put dst v).tmps.size = a.tmps.size := by cases dst <;> simp [Act.put]
omit [Syms] in
theorem put_defers (a : Act) (dst : Option Tmp) (v : Value) : (a.put dst v).defers = a.defers := by cases dst <;> rfl

theorem put_vr {n : Nat} {ok : Nat → Prop} {h : Array Obj} {fr : Fr} {a : Act} (hf : FrR ok h m fr a.tmps) (hh : ∀ k, k < n → fr.has k = true) (hsz : a.tmps.size = n) {dst : Option Tmp} (hd : ∀ d, dst = some d → d < n) {v : AV} {cv : Value}
    (hv : VR ok h m v cv) : FrR ok h m (put fr dst v) (a.put dst cv).tmps := by
  cases dst with
  | none => exact hf
  | some d =>
    intro t
    have hlt := hd d rfl
    show VR ok h m ((fr.set d v).get t) ((a.tmps.setIfInBounds d cv).getD t undef)
    rw [Fr.get_set _ _ _ _ (hh d hlt)]
    by_cases ht : t = d
    · subst ht
      rw [if_pos rfl]
      simp [hsz, hlt]
      exact hv
    · rw [if_neg ht]
      have := hf t
      simpa [Array.getElem?_setIfInBounds_ne (Ne.symm ht)] using this

theorem FrR.ext {s : St} {m' : Map} {H' : Heap} {F' : List Nat} {w' : World} {tm : Array Value} (hx : Ext c m s.H s.F w m' H' F' w') (hf : FrR (okB c.X m s.H s.F) w.heap m s.fr tm) : FrR (okB c.X m' H' F') w'.heap m' s.fr tm := fun t => hx.vr (hf t)

theorem wanted_eq {ok : Nat → Prop} {h : Array Obj} {fr : Fr} {a : Act} (hf : FrR ok h m fr a.tmps) {ops : Array Oper} {o : Oper} {b : Bool} (hw : awanted ops.toList o.guard fr = some b) : Region.wanted o (yielded ops a.tmps) = b := by
  unfold awanted at hw
  unfold Region.wanted
  split at hw
  · rename_i hg; rw [hg]; simpa using hw
  · rename_i p hg
    rw [hg]
    obtain ⟨j, want⟩ := p
    simp only at hw ⊢
    split at hw
    · rename_i d hd
      have hd' : (ops[j]?).bind (·.dst) = some d := by
        unfold guardTmp at hd
        rw [Array.getElem?_toList] at hd
        cases ho : ops[j]? with
        | none => simp [ho] at hd
        | some o' => simpa [ho] using hd
      have hv := hf d
      unfold yielded
      rw [hd']
      simp only [Option.bind_some]
      unfold guardIs at hw
      split at hw
      · rename_i q hq
        rw [hq] at hv
        have hv' : a.tmps.getD d undef = .bool q := by cases hh : a.tmps.getD d undef <;> rw [hh] at hv <;> cases hv; rfl
        have : a.tmps[d]? = some (.bool q) := by
          cases ht : a.tmps[d]? with
          | none => simp [Array.getD_eq_getD_getElem?, ht, undef] at hv'
          | some u => simp [Array.getD_eq_getD_getElem?, ht] at hv'; rw [hv']
        rw [this]
        simp only [Option.some.injEq] at hw
        rw [← hw]
        cases q <;> cases want <;> rfl
      · rename_i hq
        rw [hq] at hv
        obtain ⟨us, hu, _⟩ := hv.tup_inv
        simp only [Option.some.injEq] at hw
        rw [← hw]
        cases ht : a.tmps[d]? with
        | none => rfl
        | some u =>
          have : u = .tuple us := by simpa [Array.getD_eq_getD_getElem?, ht] using hu
          subst this; rfl
      · cases hw
    · cases hw

/-- One step of a region. -/
theorem sim_step (hT : TyOK P T) {E : Env} (hE : E.T = T) (hC : CallOK P E.call) {n : Nat} {s s' : St} {a : Act} (ha : At n c m s a w) {id : Nat} (hid : ∀ b, id ≤ b → b < id + STRIDE → m b = none) (hlt : id + STRIDE ≤ s.nx) {ops : Array Oper} {i : Nat} {o : Oper} (ho : ops[i]? = some o)
    (hd : dstOk n o) (h : stepOp E ops.toList id o s = .at s') {Q : Exit → Act → World → Prop} {K : Act → World → Prop}
    (hK : ∀ cv m' w', At n c m' s' (a.put o.dst cv) w' → Moves c m s w id m' s' w' → (∀ b, m' b ≠ none → m b ≠ none ∨ (id ≤ b ∧ b < id + STRIDE) ∨ (s.nx ≤ b ∧ b < s'.nx)) → K (a.put o.dst cv) w') : wpOp P ops Q i K a w := by
  unfold wpOp
  rw [ho]
  simp only
  unfold stepOp at h
  split at h
  · rename_i hw
    rw [wanted_eq ha.fr hw, if_pos rfl]
    left
    have hne : aop E s id o.op ≠ .no := fun hn => by rw [hn] at h; simp [behind] at h
    refine (sim_opAll hT E hE hC ha.sr hid ha.nx ha.fr rfl hne).wp (fun cv w' ⟨m', hp⟩ => ?_) Q
    generalize aop E s id o.op = q at h hp
    cases q with
    | no => exact hp.elim
    | ok v e rd fz =>
      simp only [behind, OSt.at.injEq] at h
      subst h
      have hp : Done c m s.H s.F w id v e fz cv m' w' := hp
      refine hK cv m' w' ⟨hp.sr, put_vr (FrR.ext hp.ext ha.fr) ha.has ha.sz hd hp.vr, put_has ha.has _ _, by rw [put_size]; exact ha.sz, fun b hb => ?_⟩ ⟨hp.ext, Nat.le_refl _, fun b hb => ?_⟩ fun b hb => ?_
      · cases hm : m' b with
        | none => rfl
        | some L =>
          exfalso
          rcases hp.dom b (by rw [hm]; simp) with h1 | ⟨h1, h2⟩
          · exact h1 (ha.nx b hb)
          · have hb : s.nx ≤ b := hb
            omega
      · rcases hp.dom b hb with h1 | ⟨h1, h2⟩
        · exact .inl h1
        · exact .inr ⟨h1, by show b < s.nx; omega⟩
      · rcases hp.dom b hb with h1 | h1
        · exact .inl h1
        · exact .inr (.inl h1)
    | all v H' F' nx' =>
      simp only [behind, OSt.at.injEq] at h
      subst h
      have hp : After c m s.H s.F w s.nx v H' F' nx' cv m' w' := hp
      refine hK cv m' w' ⟨hp.sr, put_vr (FrR.ext hp.ext ha.fr) ha.has ha.sz hd hp.vr, put_has ha.has _ _, by rw [put_size]; exact ha.sz, fun b hb => ?_⟩ ⟨hp.ext, hp.le, fun b hb => ?_⟩ fun b hb => ?_
      · cases hm : m' b with
        | none => rfl
        | some L =>
          exfalso
          have hb : nx' ≤ b := hb
          rcases hp.dom b (by rw [hm]; simp) with h1 | ⟨h1, h2⟩
          · exact h1 (ha.nx b (Nat.le_trans hp.le hb))
          · omega
      · rcases hp.dom b hb with h1 | ⟨h1, h2⟩
        · exact .inl h1
        · exact .inr ⟨by omega, h2⟩
      · rcases hp.dom b hb with h1 | h1
        · exact .inl h1
        · exact .inr (.inr h1)
  · rename_i hw
    rw [wanted_eq ha.fr hw, if_neg (by simp)]
    cases h
    exact hK undef m w ⟨ha.sr, put_vr ha.fr ha.has ha.sz hd und_vr, put_has ha.has _ _, by rw [put_size]; exact ha.sz, ha.nx⟩ ⟨Ext.refl _ _ _ _ _, Nat.le_refl _, fun _ h => .inl h⟩ (fun _ h => .inl h)
  · cases h

/-- The operations of a region, in an order. -/
def seqI (E : Env) (ops : List Oper) (base : Nat) : List Nat → St → OSt
  | [], s => .at s
  | i :: r, s =>
    match ops[i]? with
    | none => .no
    | some o => match stepOp E ops (base + STRIDE * i) o s with
      | .at s' => seqI E ops base r s'
      | .no => .no

theorem sim_seqI (hT : TyOK P T) {E : Env} (hE : E.T = T) (hC : CallOK P E.call) {n : Nat} {ops : Array Oper} {base : Nat} (hd : ∀ (i : Nat) (o : Oper), ops[i]? = some o → dstOk n o) {Q : Exit → Act → World → Prop} {s' : St} : ∀ (l : List Nat) {m : Map} {w : World} {s : St} {a : Act}, l.Nodup → At n c m s a w →
    (∀ i ∈ l, ∀ b, base + STRIDE * i ≤ b → b < base + STRIDE * i + STRIDE → m b = none) → base + STRIDE * ops.size ≤ s.nx → seqI E ops.toList base l s = .at s' →
    (∀ a' w' m', At n c m' s' a' w' → a'.defers = a.defers → Moves c m s w base m' s' w' → Q .normal a' w') → wpOps P ops Q l a w
  | [], m, w, s, a, _, ha, _, _, h, hQ => by
    simp only [seqI, OSt.at.injEq] at h
    subst h
    exact hQ a w m ha rfl (Moves.refl _ _ _ _ _)
  | i :: r, m, w, s, a, hnd, ha, hfree, hlt, h, hQ => by
    rw [wpOps_cons]
    rw [seqI] at h
    split at h
    · cases h
    · rename_i o ho
      rw [Array.getElem?_toList] at ho
      split at h
      · rename_i s1 hs1
        have hi : i < ops.size := (Array.getElem?_eq_some_iff.1 ho).1
        have hmul : STRIDE * i + STRIDE ≤ STRIDE * ops.size := by
          rw [← Nat.mul_succ]; exact Nat.mul_le_mul_left _ hi
        obtain ⟨hnot, hndr⟩ := List.nodup_cons.1 hnd
        refine sim_step hT hE hC ha (hfree i (by simp)) (by omega) ho (hd i o ho) hs1 fun cv m1 w1 ha1 hmv hdom => ?_
        refine sim_seqI hT hE hC hd r hndr ha1 (fun j hj b hb1 hb2 => ?_) (Nat.le_trans hlt hmv.le) h fun a' w' m' ha' hdf hmv' => hQ a' w' m' ha' (by rw [hdf, put_defers]) ?_
        · cases hm : m1 b with
          | none => rfl
          | some L =>
            exfalso
            have hji : j ≠ i := fun e => hnot (e ▸ hj)
            rcases hdom b (by rw [hm]; simp) with h1 | ⟨h1, h2⟩ | ⟨h1, h2⟩
            · exact h1 (hfree j (by simp [hj]) b hb1 hb2)
            · unfold STRIDE at *; omega
            · have hjl : j < ops.size ∨ ops.size ≤ j := Nat.lt_or_ge _ _
              rcases hjl with hjl | hjl
              · have : STRIDE * j + STRIDE ≤ STRIDE * ops.size := by
                  rw [← Nat.mul_succ]; exact Nat.mul_le_mul_left _ hjl
                omega
              · -- an index beyond the operations is never reached
                have : ∀ (l : List Nat) (s : St), j ∈ l → seqI E ops.toList base l s ≠ .at s' := by
                  intro l
                  induction l with
                  | nil => intro s hj; simp at hj
                  | cons k l ih =>
                    intro s hj hh
                    rw [seqI] at hh
                    rcases List.mem_cons.1 hj with e | hj
                    · subst e
                      rw [Array.getElem?_toList, Array.getElem?_eq_none hjl] at hh
                      cases hh
                    · split at hh
                      · cases hh
                      · split at hh
                        · exact ih _ hj hh
                        · cases hh
                exact this r s1 hj h
        · refine Moves.trans ⟨hmv.ext, hmv.le, fun b hb => ?_⟩ hmv'
          rcases hmv.dom b hb with h1 | ⟨h1, h2⟩
          · exact .inl h1
          · exact .inr ⟨by omega, h2⟩
      · cases h

omit [Syms] in
/-- In the order of the text. -/
theorem seqOps_seqI (E : Env) (ops : List Oper) (base : Nat) : ∀ (k : Nat) (r : List Oper) (s : St), ops.drop k = r → seqOps E ops r (base + STRIDE * k) s = seqI E ops base (List.range' k r.length) s
  | k, [], s, h => rfl
  | k, o :: r, s, h => by
    have ho : ops[k]? = some o := by
      have : (ops.drop k)[0]? = some o := by rw [h]; rfl
      simpa using this
    have hr : ops.drop (k + 1) = r := by rw [← List.drop_drop, h]; rfl
    rw [List.length_cons, List.range'_succ, seqI, ho, seqOps]
    simp only
    split
    · rename_i s1 hs1
      rw [hs1]
      have := seqOps_seqI E ops base (k + 1) r s1 hr
      rw [Nat.mul_succ, ← Nat.add_assoc] at this
      exact this
    · rename_i hs1
      rw [hs1]

end
end Go.Proofs.YtopkeglpafdlfaaGreat.VS
