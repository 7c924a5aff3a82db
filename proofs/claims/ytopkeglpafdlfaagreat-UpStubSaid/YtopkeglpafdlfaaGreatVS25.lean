/- The text of a function, and a call of it: what each leaves, on both sides. Conditions: none. -/
import Derived.Test.YtopkeglpafdlfaaGreatVS24
namespace Go.Proofs.YtopkeglpafdlfaaGreat.VS
variable [Syms]

def AX.out : AX → Exit
  | .normal => .normal
  | .exit id => .exit id
  | .ret => .ret

section
variable {P : Program} {T : Tabs} {c : Ctx} {E : Env} {n : Nat}

omit [Syms] in
theorem Moves.lower {m m' : Map} {s s' : St} {w w' : World} {lo lo' : Nat} (h : Moves c m s w lo m' s' w') (hl : lo' ≤ lo) : Moves c m s w lo' m' s' w' :=
  ⟨h.ext, h.le, fun b hb => (h.dom b hb).imp id fun ⟨h1, h2⟩ => ⟨Nat.le_trans hl h1, h2⟩⟩

omit [Syms] in
theorem dstsOk_spec : ∀ {l : List Oper}, dstsOk n l = true → ∀ o ∈ l, dstOk n o
  | [], _, o, ho => by simp at ho
  | a :: r, h, o, ho => by
    rw [dstsOk, Bool.and_eq_true] at h
    rcases List.mem_cons.1 ho with rfl | ho
    · intro d hd
      have := h.1
      rw [hd] at this
      exact blt_lt this
    · exact dstsOk_spec h.2 o ho

omit [Syms] in
theorem dsts_of {ops : Array Oper} (h : dstsOk n ops.toList = true) (i : Nat) (o : Oper) (ho : ops[i]? = some o) : dstOk n o :=
  dstsOk_spec h o (List.mem_of_getElem? (by rw [Array.getElem?_toList]; exact ho))

theorem At.nxt {m : Map} {s : St} {a : Act} {w : World} (ha : At n c m s a w) (k : Nat) : At n c m (withF s s.F k) a w :=
  ⟨ha.sr, ha.fr, ha.has, ha.sz, fun b hb => ha.nx b (Nat.le_trans (Nat.le_add_right _ _) hb)⟩

/-- A region in the order of the text. -/
theorem sim_region (hT : TyOK P T) (hE : E.T = T) (hC : CallOK P E.call) {id : Nat} {ops : Array Oper} (hd : dstsOk n ops.toList = true) {m : Map} {s s' : St} {a : Act} {w : World} {x : AX} (h : aregion E ops.toList false s = .go x s') (ha : At n c m s a w) {Q : Exit → Act → World → Prop}
    (hQ : ∀ a' w' m', At n c m' s' a' w' → a'.defers = a.defers → Moves c m s w s.nx m' s' w' → Q x.out a' w') : (Code.region id ops false).wp P Q a w := by
  unfold aregion at h
  simp only [cond_false] at h
  unfold goN at h
  split at h
  · rename_i s1 hs1
    simp only [Out.go.injEq] at h
    obtain ⟨rfl, rfl⟩ := h
    have hs1' := hs1
    rw [show s.nx = s.nx + STRIDE * 0 from rfl, seqOps_seqI E ops.toList s.nx 0 ops.toList _ rfl, ← List.range_eq_range', Array.length_toList] at hs1'
    refine wp_region (sim_seqI hT hE hC (dsts_of hd) (List.range ops.size) List.nodup_range (ha.nxt ops.toList.length) (fun i hi b hb _ => ha.nx b (by omega)) (by simp [withF]) hs1' fun a' w' m' ha' hdf hmv => hQ a' w' m' ha' hdf ?_)
    exact ⟨hmv.ext, Nat.le_trans (Nat.le_add_right _ _) hmv.le, hmv.dom⟩
  · cases h

/-- A region whose order is drawn. -/
theorem sim_draw (hT : TyOK P T) (hE : E.T = T) (hC : CallOK P E.call) (hmx : P.follows .mixedOrders = true) {id : Nat} {ops : Array Oper} (hd : dstsOk n ops.toList = true) (hok : drawOk ops.toList = true) {m : Map} {s s' : St} {a : Act} {w : World} {x : AX} (h : aregion E ops.toList true s = .go x s') (ha : At n c m s a w) {Q : Exit → Act → World → Prop}
    (hQ : ∀ a' w' m', At n c m' s' a' w' → a'.defers = a.defers → Moves c m s w s.nx m' s' w' → Q x.out a' w') : (Code.region id ops true).wp P Q a w := by
  unfold aregion at h
  simp only [cond_true] at h
  obtain ⟨X, h⟩ : ∃ X, drawTry E ops.toList s X = .go x s' := by
    unfold drawAgain at h
    split at h
    · rename_i x0 s0 h0
      exact ⟨[], h0.trans h⟩
    · split at h
      · exact ⟨_, h⟩
      · cases h
  · unfold drawTry drawn at h
    split at h
    · rename_i s2 fs hs2
      cases hfeet : feetOk fs (befL ops.toList []) 0 with
      | false => simp [hfeet] at h
      | true =>
        simp only [hfeet, cond_true, Out.go.injEq] at h
        obtain ⟨rfl, rfl⟩ := h
        unfold drawOk at hok
        rw [Bool.and_eq_true] at hok
        have hs2' := hs2
        rw [show s.nx = s.nx + STRIDE * 0 from rfl] at hs2'
        obtain ⟨st, gs, h1, h2, h3, h4, h5⟩ := seqD_trace s.nx ops.toList 0 _ _ _ _ hs2'
        rw [List.nil_append] at h3
        subst h3
        rw [Nat.zero_add, Array.length_toList] at h2
        have tr : Trace E ops n s.nx st fs := ⟨fun j o ho => by
            obtain ⟨f, g1, g2⟩ := h5 j o (by rw [Array.getElem?_toList]; exact ho)
            rw [Nat.zero_add] at g2
            exact ⟨f, g1, g2⟩, hfeet, hok.2, hok.1, fun k hk => by rw [h1]; exact ha.has k hk, dsts_of hd⟩
        -- the count of draws turns, and some numbers are written no more
        obtain ⟨hx1, hsr1⟩ := ha.sr.still (w' := { w with drawn := w.drawn + 1 }) ⟨rfl, rfl, rfl⟩ rfl
        obtain ⟨hx2, hsr2⟩ := hsr1.freeze X
        have ha0 : At n c m (st 0) a { w with drawn := w.drawn + 1 } := by
          rw [h1]
          exact ⟨hsr2, FrR.ext (s := s) (hx1.trans hx2) ha.fr, ha.has, ha.sz, fun b hb => ha.nx b (Nat.le_trans (Nat.le_add_right _ _) hb)⟩
        refine wp_region_any hmx (sim_any hT hE hC tr (m0 := m) (w0 := { w with drawn := w.drawn + 1 }) (d0 := a.defers) (fun a' w' m' ha' hdf hmv => ?_) ops.size _ m _ (st 0) a (by simp) ?_ ?_ ha0 rfl (fun i _ _ b hb _ => ha.nx b (by omega)) (by rw [h1]; simp [withF]) (Moves.refl _ _ _ _ _))
        · rw [h2] at ha' hmv
          rw [h1] at hmv
          refine hQ a' w' m' ha' hdf ⟨(hx1.trans hx2).trans hmv.ext, Nat.le_trans (Nat.le_add_right _ _) hmv.le, hmv.dom⟩
        · have := List.countP_le_length (p := fun i => !(Array.replicate ops.size false).getD i false) (l := List.range ops.size)
          simpa using this
        · exact tr.start fun j => by
            unfold listedIn
            by_cases hj : j < ops.size <;> simp [hj]
    · cases h

omit [Syms] in
theorem blockO_go {id : Nat} {q : Out} {x : AX} {s' : St} (h : blockO id q = .go x s') : ∃ y, q = .go y s' ∧ ((y = .exit id ∧ x = .normal) ∨ (y ≠ .exit id ∧ x = y)) := by
  unfold blockO at h
  split at h
  · rename_i k s1
    cases hk : k.beq id with
    | true =>
      simp only [hk, cond_true, Out.go.injEq] at h
      obtain ⟨rfl, rfl⟩ := h
      exact ⟨_, rfl, .inl ⟨by rw [Nat.eq_of_beq_eq_true hk], rfl⟩⟩
    | false =>
      simp only [hk, cond_false, Out.go.injEq] at h
      obtain ⟨rfl, rfl⟩ := h
      exact ⟨_, rfl, .inr ⟨fun e => (by cases e; rw [beq_same] at hk; cases hk), rfl⟩⟩
  · rename_i hne
    subst h
    exact ⟨x, rfl, .inr ⟨fun e => (by subst e; exact hne _ _ rfl), rfl⟩⟩

omit [Syms] in
theorem thenO_go {next : St → Out} {q : Out} {x : AX} {s' : St} (h : thenO next q = .go x s') : (∃ s1, q = .go .normal s1 ∧ next s1 = .go x s') ∨ (q = .go x s' ∧ x ≠ .normal) := by
  unfold thenO at h
  split at h
  · exact .inl ⟨_, rfl, h⟩
  · rename_i hne
    subst h
    exact .inr ⟨rfl, fun e => by subst e; exact hne _ rfl⟩

/-- The text of a function. -/
theorem sim_exec (hT : TyOK P T) (hE : E.T = T) (hC : CallOK P E.call) (hmx : P.follows .mixedOrders = true) (N : Nat) : ∀ (code : Code) {m : Map} {s s' : St} {a : Act} {w : World} {x : AX}, exec E N code s = .go x s' → codeOk n code = true → drawsOk code = true → At n c m s a w →
    ∀ {Q : Exit → Act → World → Prop}, (∀ a' w' m', At n c m' s' a' w' → a'.defers = a.defers → Moves c m s w s.nx m' s' w' → Q x.out a' w') → code.wp P Q a w := by
  intro code
  induction code with
  | skip =>
    intro m s s' a w x h _ _ ha Q hQ
    simp only [exec, Out.go.injEq] at h
    obtain ⟨rfl, rfl⟩ := h
    exact wp_skip (hQ a w m ha rfl (Moves.refl _ _ _ _ _))
  | label l =>
    intro m s s' a w x h _ _ ha Q hQ
    simp only [exec, Out.go.injEq] at h
    obtain ⟨rfl, rfl⟩ := h
    exact wp_label (hQ a w m ha rfl (Moves.refl _ _ _ _ _))
  | region id ops draw =>
    intro m s s' a w x h hc hd ha Q hQ
    rw [exec] at h
    cases draw with
    | false => exact sim_region hT hE hC hc h ha hQ
    | true =>
      have : drawOk ops.toList = true := by simpa [drawsOk] using hd
      exact sim_draw hT hE hC hmx hc this h ha hQ
  | seq c1 c2 ih1 ih2 =>
    intro m s s' a w x h hc hd ha Q hQ
    rw [exec] at h
    simp only [codeOk, drawsOk, Bool.and_eq_true] at hc hd
    rcases thenO_go h with ⟨s1, h1, h2⟩ | ⟨h1, hx⟩
    · refine wp_seq (ih1 h1 hc.1 hd.1 ha fun a1 w1 m1 ha1 hd1 hm1 => ?_)
      show Code.wp P c2 Q a1 w1
      exact ih2 h2 hc.2 hd.2 ha1 fun a' w' m' ha' hd' hm' => hQ a' w' m' ha' (hd'.trans hd1) (hm1.trans (hm'.lower hm1.le))
    · refine wp_seq (ih1 h1 hc.1 hd.1 ha fun a1 w1 m1 ha1 hd1 hm1 => ?_)
      have := hQ a1 w1 m1 ha1 hd1 hm1
      cases x with
      | normal => exact absurd rfl hx
      | exit id => exact this
      | ret => exact this
  | cond cd c1 c2 ih1 ih2 =>
    intro m s s' a w x h hc hd ha Q hQ
    rw [exec] at h
    simp only [codeOk, drawsOk, Bool.and_eq_true] at hc hd
    have hv := opnd_vr ha.fr cd
    split at h
    · rename_i hcd
      rw [hcd] at hv
      have : a.eval cd = .bool true := by cases hh : a.eval cd <;> rw [hh] at hv <;> cases hv; rfl
      exact wp_cond_true this (ih1 h hc.1 hd.1 ha hQ)
    · rename_i hcd
      rw [hcd] at hv
      have : a.eval cd = .bool false := by cases hh : a.eval cd <;> rw [hh] at hv <;> cases hv; rfl
      exact wp_cond_false this (ih2 h hc.2 hd.2 ha hQ)
    · cases h
  | block id b ih =>
    intro m s s' a w x h hc hd ha Q hQ
    rw [exec] at h
    obtain ⟨y, hy, hxy⟩ := blockO_go h
    refine wp_block (ih hy (by simpa [codeOk] using hc) (by simpa [drawsOk] using hd) ha fun a' w' m' ha' hd' hm' => ?_)
    have hq := hQ a' w' m' ha' hd' hm'
    rcases hxy with ⟨rfl, rfl⟩ | ⟨hne, rfl⟩
    · show (if id = id then Q .normal a' w' else Q (.exit id) a' w')
      rw [if_pos rfl]; exact hq
    · cases x with
      | normal => exact hq
      | ret => exact hq
      | exit k =>
        show (if k = id then Q .normal a' w' else Q (.exit k) a' w')
        rw [if_neg (fun e => hne (by rw [e]))]; exact hq
  | loop b ih =>
    intro m s s' a w x h hc hd ha Q hQ
    rw [exec] at h
    have key : ∀ (k : Nat) {m : Map} {s : St} {a1 : Act} {w : World}, iter (exec E N b) k s = .go x s' → At n c m s a1 w → (∀ a' w' m', At n c m' s' a' w' → a'.defers = a1.defers → Moves c m s w s.nx m' s' w' → Q x.out a' w') → Code.rounds P b Q k a1 w := by
      intro k
      induction k with
      | zero => intro m s a1 w h; simp [iter] at h
      | succ k ihk =>
        intro m s a1 w h ha hQ
        rw [rounds_succ]
        rw [iter] at h
        split at h
        · rename_i s1 hs1
          refine ih hs1 (by simpa [codeOk] using hc) (by simpa [drawsOk] using hd) ha fun a2 w2 m2 ha2 hd2 hm2 => ?_
          show Code.rounds P b Q k a2 w2
          exact ihk h ha2 fun a' w' m' ha' hd' hm' => hQ a' w' m' ha' (hd'.trans hd2) (hm2.trans (hm'.lower hm2.le))
        · rename_i hne
          refine ih h (by simpa [codeOk] using hc) (by simpa [drawsOk] using hd) ha fun a2 w2 m2 ha2 hd2 hm2 => ?_
          have hq := hQ a2 w2 m2 ha2 hd2 hm2
          cases x with
          | normal => exact absurd h (hne s')
          | ret => exact hq
          | exit k => exact hq
    exact wp_loop_rounds N (key N h ha hQ)
  | exit id =>
    intro m s s' a w x h _ _ ha Q hQ
    simp only [exec, Out.go.injEq] at h
    obtain ⟨rfl, rfl⟩ := h
    exact wp_exit (hQ a w m ha rfl (Moves.refl _ _ _ _ _))
  | ret =>
    intro m s s' a w x h _ _ ha Q hQ
    simp only [exec, Out.go.injEq] at h
    obtain ⟨rfl, rfl⟩ := h
    exact wp_ret (hQ a w m ha rfl (Moves.refl _ _ _ _ _))
  | _ =>
    intro m s s' a w x h
    simp [exec] at h

end
end Go.Proofs.YtopkeglpafdlfaaGreat.VS
