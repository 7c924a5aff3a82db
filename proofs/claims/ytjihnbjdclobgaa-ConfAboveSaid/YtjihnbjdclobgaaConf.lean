/- Functions answer what they are said to. Conditions: none. -/
import Derived.Test.YtjihnbjdclobgaaConfT
import Derived.KernelRfl
namespace Go.Proofs.Ytjihnbjdclobgaa.VS
theorem getD0 (l : List Int) : l.getD (Int.toNat 0) GT.int.nought = l.getD 0 0 := rfl
theorem fAt_in {c : Cnf} {b : Int} (w : Int) (h : 0 ≤ b) (h1 : b < c.ways.length) : fAt c b w = (c.ways.getD b.toNat GT.int.nought == w) := by simp [fAt, h, h1, GT.nought]
theorem fAt_at {c : Cnf} {b : Int} {n : Nat} (w : Int) (hn : b = n) (h1 : n < c.ways.length) : fAt c b w = (c.ways.getD n 0 == w) := by subst hn; simp [fAt, h1]
theorem tyokS : TyOK Try.prog tabs := tyOK_of tabs_ty
theorem oddGo_none : ∀ (l : List Int) (i : Nat), l.any odd = false → oddGo l i = -1
  | [], _, _ => rfl
  | x :: r, i, h => by
    simp only [List.any_cons, Bool.or_eq_false_iff] at h
    simp only [oddGo, h.1, Bool.false_eq_true, if_false]
    exact oddGo_none r (i + 1) h.2
theorem oddGo_some : ∀ (l : List Int) (i : Nat), l.any odd = true → 0 ≤ oddGo l i
  | [], _, h => by simp at h
  | x :: r, i, h => by
    rw [oddGo]
    split
    · omega
    · rename_i hx
      simp only [List.any_cons, Bool.or_eq_true, hx] at h
      exact oddGo_some r (i + 1) (h.resolve_left (by simp))
theorem oddGo_any (l : List Int) (i : Nat) : decide (oddGo l i ≥ 0) = l.any odd := by
  cases h : l.any odd with
  | false => simp [oddGo_none l i h]
  | true => simp [oddGo_some l i h]

variable [Syms]
theorem con0S : ConOK Try.prog sConf0 := fun f g args c h => by cases h
theorem c_odd : ConOne Try.prog 39 (con1 aInt (fun _ => True) fun w => .ub (odd w)) :=
  con_fun tyokS con0S Try.checked.mixed ⟨Try.func39, by kernel_rfl, by kernel_rfl⟩ (by kernel_rfl) (con1_ok aInt_ok fun w _ => cast (w_odd w _).symm
    ⟨fun h => .bub (by simp at h; simp [odd, h]), fun h => .ubs (by simp at h; simp [odd]; omega)⟩)
theorem c_is : ConOne Try.prog 41 (con3 aCnf aInt aInt (fun _ _ _ => True) fun c b w => .ub (fAt c b w)) :=
  con_fun tyokS con0S Try.checked.mixed ⟨Try.func41, by kernel_rfl, by kernel_rfl⟩ (by kernel_rfl) (con3_ok aCnf_ok aInt_ok aInt_ok fun c b w _ => cast (w_is c b w _).symm
    ⟨fun h => ⟨fun h1 => ⟨⟨by simpa using h, by simpa using h1⟩, .ubs (by simp at h h1; simp [fAt, h, h1, GT.nought])⟩, fun h1 => .bub (by simp at h1; simp [fAt]; omega)⟩, fun h => .bub (by simp at h; simp [fAt]; omega)⟩)
theorem c_rRw : ConOne Try.prog 14 (con2 aCnf aInt (fun _ _ => True) fun c b => .ub (fAt c b 1)) :=
  con_fun tyokS con0S Try.checked.mixed ⟨Try.func14, by kernel_rfl, by kernel_rfl⟩ (by kernel_rfl) (con2_ok aCnf_ok aInt_ok fun c b _ => cast (w_rRw c b _).symm
    ⟨fun h => ⟨fun h1 => ⟨⟨by simpa using h, by simpa using h1⟩, .ubs (by simp at h h1; simp [fAt, h, h1, GT.nought])⟩, fun h1 => .bub (by simp at h1; simp [fAt]; omega)⟩, fun h => .bub (by simp at h; simp [fAt]; omega)⟩)
theorem c_rHeeds : ConOne Try.prog 16 (con2 aCnf aInt (fun _ _ => True) fun c b => .ub (fHeeds c b)) :=
  con_fun tyokS con0S Try.checked.mixed ⟨Try.func16, by kernel_rfl, by kernel_rfl⟩ (by kernel_rfl) (con2_ok aCnf_ok aInt_ok fun c b _ => cast (w_rHeeds c b _).symm
    ⟨fun h => ⟨fun h1 => ⟨⟨by simpa using h, by simpa using h1⟩,
      ⟨fun h2 => .bub (by simp only [decide_eq_true_eq] at h h1; simp only [fHeeds, fAt_in _ h h1, h2, Bool.true_or]), fun h2 => ⟨⟨by simpa using h, by simpa using h1⟩, .ubs (by simp only [decide_eq_true_eq] at h h1; simp only [fHeeds, fAt_in _ h h1, h2, Bool.false_or])⟩⟩⟩,
      fun h1 => .bub (by simp at h1; simp [fHeeds, fAt]; omega)⟩, fun h => .bub (by simp at h; simp [fHeeds, fAt]; omega)⟩)
theorem okA_ : ConsOK Try.prog consA := consOK_cons c_odd (consOK_cons c_is (consOK_cons c_rRw (consOK_cons c_rHeeds consOK_nil)))
theorem conA : ConOK Try.prog sConfA := conOK_of okA_ rfl
theorem c_Rw : ConOne Try.prog 13 (con2 aCnf aInt (fun _ _ => True) fun c b => .ub (fAt c b 1)) :=
  con_fun tyokS conA Try.checked.mixed ⟨Try.func13, by kernel_rfl, by kernel_rfl⟩ (by kernel_rfl) (con2_ok aCnf_ok aInt_ok fun c b _ => cast (w_Rw c b _).symm ⟨trivial, .refl _⟩)
theorem c_Heeds : ConOne Try.prog 15 (con2 aCnf aInt (fun _ _ => True) fun c b => .ub (fHeeds c b)) :=
  con_fun tyokS conA Try.checked.mixed ⟨Try.func15, by kernel_rfl, by kernel_rfl⟩ (by kernel_rfl) (con2_ok aCnf_ok aInt_ok fun c b _ => cast (w_Heeds c b _).symm
    ⟨trivial, fun h => .bub (by simp [fHeeds, h]), fun h => ⟨trivial, .ubs (by simp [fHeeds, h])⟩⟩)
theorem okB_ : ConsOK Try.prog consB := consOK_cons c_Rw (consOK_cons c_Heeds okA_)
theorem conB : ConOK Try.prog sConfB := conOK_of okB_ rfl

theorem l_idx : LoopOK Try.prog (Try.f69).ntmps lIdx (loopAt Try.f69 0) :=
  loop_mk tyokS conB Try.checked.mixed (by kernel_rfl) (by kernel_rfl) (by kernel_rfl) (loops_nil (by kernel_rfl)) (fun p => p.1.length - p.2) fun p K ⟨h0, h1, h2⟩ => by
    obtain ⟨xs, i⟩ := p
    refine cast (w_idx1 xs i _ _).symm ⟨fun h => ?_, fun h => ?_⟩
    · simp only [decide_eq_true_eq] at h
      have hi : i < xs.length := by omega
      have hd : xs.drop i = xs[i] :: xs.drop (i + 1) := List.drop_eq_getElem_cons hi
      have hg : xs.getD (i : Int).toNat GT.int.nought = xs[i] := by simp [hi]
      refine ⟨⟨by omega, h⟩, trivial, fun h3 => ?_, fun h3 => ?_⟩
      · rw [hg] at h3
        have := h1 (by simp only [hd, List.any_cons, h3, Bool.true_or])
        simp only [hd, oddGo, h3, if_true] at this
        exact this
      · rw [hg] at h3
        refine ⟨(xs, i + 1), by show xs.length - (i + 1) < xs.length - i; omega, ?_, rfl, h0, fun h4 => ?_, fun h4 => ?_⟩
        · rw [wrap64 (by omega) (by simp only at h0; omega)]; rfl
        · have := h1 (by simp only [hd, List.any_cons, h3, Bool.false_or]; exact h4)
          simp only [hd, oddGo, h3, Bool.false_eq_true, if_false] at this
          exact this
        · exact h2 (by simp only [hd, List.any_cons, h3, Bool.false_or]; exact h4)
    · simp only [decide_eq_false_iff_not] at h
      refine h2 ?_
      rw [List.drop_eq_nil_of_le (by simp only; omega)]; rfl
theorem c_idx : ConOne Try.prog 69 (con2 (aL .int) (aFn 39) (fun xs _ => xs.length ≤ 9223372036854775807) fun xs _ => .int .i64 (oddGo xs 0)) :=
  con_loops tyokS conB Try.checked.mixed ⟨Try.func69, by kernel_rfl, by kernel_rfl⟩ (loops_one (by kernel_rfl) (fun _ _ h => (Option.some.inj h).symm) l_idx) (con2_ok (aL_ok .int) (aFn_ok _) fun xs _ hp => cast (w_idx xs _).symm
    ⟨(xs, 0), rfl, rfl, hp, fun _ => .refl _, fun h => .int (oddGo_none xs 0 h).symm⟩)
theorem okC_ : ConsOK Try.prog consC := consOK_cons c_idx okB_
theorem conC : ConOK Try.prog sConfC := conOK_of okC_ rfl
theorem c_has : ConOne Try.prog 40 (con2 (aL .int) (aFn 39) (fun xs _ => xs.length ≤ 9223372036854775807) fun xs _ => .ub (xs.any odd)) :=
  con_fun tyokS conC Try.checked.mixed ⟨Try.func40, by kernel_rfl, by kernel_rfl⟩ (by kernel_rfl) (con2_ok (aL_ok .int) (aFn_ok _) fun xs _ hp => cast (w_has xs _).symm ⟨hp, .ubs (oddGo_any xs 0)⟩)
theorem okD_ : ConsOK Try.prog consD := consOK_cons c_has okC_
theorem conD (l : LoopC) : ConOK Try.prog (sConfD l) := conOK_of okD_ rfl

theorem c_Is : ConOne Try.prog 11 (con1 aCnf fitC fun c => .ub (fIs c)) :=
  con_fun tyokS (conD lAbove) Try.checked.mixed ⟨Try.func11, by kernel_rfl, by kernel_rfl⟩ (by kernel_rfl) (con1_ok aCnf_ok fun c hp => cast (w_Is c _).symm
    ⟨fun h => .bub (by simp at h; simp [fIs]; omega), fun h => ⟨fun h1 => .bub (by simp at h1; simp [fIs]; omega), fun h1 => ⟨hp, fun h2 => .bub (by simp only [fIs, h2]; simp), fun h2 => ⟨⟨by omega, by simp at h; omega⟩,
      fun h3 => ⟨fun h4 => .ubs (by rw [getD0] at h3; simp at h h1 h4; simp only [fIs, h2, h3]; simp [h4]; omega), fun h4 => .bub (by simp at h4; simp [fIs]; omega)⟩,
      fun h3 => .bub (by rw [getD0] at h3; simp only [fIs, h3]; simp)⟩⟩⟩⟩)
theorem l_rIs : LoopOK Try.prog (Try.f12).ntmps lRIs (loopAt Try.f12 0) :=
  loop_mk tyokS (conD lRIs) Try.checked.mixed (by kernel_rfl) (by kernel_rfl) (by kernel_rfl) (loops_nil (by kernel_rfl)) (fun p => p.1.ways.length - p.2) fun p K ⟨h0, h1, h2⟩ => by
    obtain ⟨c, i⟩ := p
    refine cast (w_rIs1 c i _ _).symm ⟨fun h => ?_, fun h => ?_⟩
    · simp only [decide_eq_true_eq] at h
      have hi : i < c.ways.length := by omega
      have hd : c.ways.drop i = c.ways[i] :: c.ways.drop (i + 1) := List.drop_eq_getElem_cons hi
      have hg : c.ways.getD (i : Int).toNat GT.int.nought = c.ways[i] := by simp [hi]
      rw [hg]
      refine ⟨⟨by omega, h⟩, fun h3 => ?_, fun h3 => ⟨⟨by omega, h⟩, fun h4 => ?_, fun h4 => ?_⟩⟩
      · exact h1 (by simp only [hd, List.any_cons, odd, h3, Bool.true_or])
      · exact h1 (by simp only [hd, List.any_cons, odd, h4, Bool.or_true, Bool.true_or])
      · refine ⟨(c, i + 1), by show c.ways.length - (i + 1) < c.ways.length - i; omega, ?_, rfl, h0, fun h5 => ?_, fun h5 => ?_⟩
        · rw [wrap64 (by omega) (by simp only at h0; omega)]; rfl
        · exact h1 (by simp only [hd, List.any_cons, h5, Bool.or_true])
        · exact h2 (by simp only [hd, List.any_cons, odd, h3, h4, Bool.false_or]; exact h5)
    · simp only [decide_eq_false_iff_not] at h
      refine h2 ?_
      rw [List.drop_eq_nil_of_le (by simp only; omega)]; rfl
theorem c_rIs : ConOne Try.prog 12 (con1 aCnf fitC fun c => .ub (fIs c)) :=
  con_loops tyokS (conD lRIs) Try.checked.mixed ⟨Try.func12, by kernel_rfl, by kernel_rfl⟩ (loops_one (by kernel_rfl) (fun _ _ h => (Option.some.inj h).symm) l_rIs) (con1_ok aCnf_ok fun c hp => cast (w_rIs c _).symm
    ⟨(c, 0), rfl, rfl, hp, fun h2 => .bub (by rw [List.drop_zero] at h2; simp only [fIs, h2]; simp), fun h2 => by
      rw [List.drop_zero] at h2
      exact ⟨fun h => ⟨fun h1 => ⟨⟨by omega, by simp at h; simp only; omega⟩,
        fun h3 => ⟨fun h4 => .ubs (by rw [getD0] at h3; simp at h h1 h4; simp only [fIs, h2, h3]; simp [h4]; omega), fun h4 => .bub (by simp at h4; simp [fIs]; omega)⟩,
        fun h3 => .bub (by rw [getD0] at h3; simp only [fIs, h3]; simp)⟩, fun h1 => .bub (by simp at h1; simp [fIs]; omega)⟩, fun h => .bub (by simp at h; simp [fIs]; omega)⟩⟩)
omit [Syms] in
theorem above_ge (ways : List Int) : ∀ n, aboveGo ways n = -1 ∨ 0 ≤ aboveGo ways n
  | 0 => .inl rfl
  | n + 1 => by
    rw [aboveGo]
    split
    · exact .inr (by omega)
    · exact above_ge ways n
theorem l_Above : LoopOK Try.prog (Try.f17).ntmps lAbove (loopAt Try.f17 0) :=
  loop_mk tyokS (conD lAbove) Try.checked.mixed (by kernel_rfl) (by kernel_rfl) (by kernel_rfl) (loops_nil (by kernel_rfl)) (fun p => (p.2 + 1).toNat) fun p K ⟨h0, h1, h2⟩ => by
    obtain ⟨c, j⟩ := p
    simp only at h0 h1 h2
    refine cast (w_Above1 c j _ _).symm ⟨fun h => ⟨trivial, fun h3 => ?_, fun h3 => ?_⟩, fun h => ?_⟩
    · simp only [decide_eq_true_eq] at h
      rw [fAt_at (n := j.toNat) _ (by omega) (by omega)] at h3
      have e : (j + 1).toNat = j.toNat + 1 := by omega
      have e2 : aboveGo c.ways (j + 1).toNat = j := by
        rw [e, aboveGo, if_pos h3]; omega
      rw [e2] at h1
      exact h1 (by omega)
    · simp only [decide_eq_true_eq] at h
      rw [fAt_at (n := j.toNat) _ (by omega) (by omega)] at h3
      have e : (j + 1).toNat = j.toNat + 1 := by omega
      have e2 : aboveGo c.ways (j + 1).toNat = aboveGo c.ways (j - 1 + 1).toNat := by
        rw [e, aboveGo, if_neg (by exact ne_true_of_eq_false h3)]
        congr 1; omega
      rw [e2] at h1 h2
      refine ⟨(c, j - 1), by show (j - 1 + 1).toNat < (j + 1).toNat; omega, ?_, rfl, ⟨by dsimp only; omega, by dsimp only; omega⟩, h1, h2⟩
      rw [wrap64 (by omega) (by omega)]
    · simp only [decide_eq_false_iff_not] at h
      have e : (j + 1).toNat = 0 := by omega
      rw [e] at h2
      exact h2 rfl
theorem c_Above : ConOne Try.prog 17 (con2 aCnf aInt (fun c _ => fitC c) fun c b => .int .i64 (fAbove c b)) :=
  con_loops tyokS (conD lAbove) Try.checked.mixed ⟨Try.func17, by kernel_rfl, by kernel_rfl⟩ (loops_one (by kernel_rfl) (fun _ _ h => (Option.some.inj h).symm) l_Above) (con2_ok aCnf_ok aInt_ok fun c b hp => cast (w_Above c b _).symm (by
    have hp' : (c.ways.length : Int) ≤ 9223372036854775807 := by unfold fitC at hp; omega
    rw [wrap64 (by omega) (by omega)]
    have e : ((if (c.ways.length : Int) - 1 < b then (c.ways.length : Int) - 1 else b) + 1).toNat = (min (b + 1) c.ways.length).toNat := by split <;> omega
    refine ⟨(c, if (c.ways.length : Int) - 1 < b then (c.ways.length : Int) - 1 else b), rfl, rfl, ⟨?_, ?_⟩, fun _ => .int ?_, fun h => .int ?_⟩
    · dsimp only
      split <;> omega
    · dsimp only
      split <;> omega
    · show aboveGo c.ways ((if (c.ways.length : Int) - 1 < b then (c.ways.length : Int) - 1 else b) + 1).toNat = _
      rw [e]; rfl
    · have h : aboveGo c.ways ((if (c.ways.length : Int) - 1 < b then (c.ways.length : Int) - 1 else b) + 1).toNat = -1 := h
      rw [e] at h; exact h.symm))
theorem l_rAbove : LoopOK Try.prog (Try.f18).ntmps lRAbove (loopAt Try.f18 0) :=
  loop_mk tyokS (conD lRAbove) Try.checked.mixed (by kernel_rfl) (by kernel_rfl) (by kernel_rfl) (loops_nil (by kernel_rfl)) (fun p => p.1.ways.length - p.2.2) fun p K ⟨h0, h1⟩ => by
    obtain ⟨c, b, i⟩ := p
    simp only at h0 h1
    refine cast (w_rAbove1 c b _ i _ _).symm ⟨fun h => ⟨fun h3 => ⟨trivial, fun h4 => ?_, fun h4 => ?_⟩, fun h3 => ?_⟩, fun h => ?_⟩
    · simp only [decide_eq_true_eq] at h h3
      rw [fAt_at _ rfl (by omega)] at h4
      have e2 : aboveGo c.ways (i + 1) = i := by rw [aboveGo, if_pos h4]
      refine ⟨(c, b, i + 1), by show c.ways.length - (i + 1) < c.ways.length - i; omega, ?_, rfl, ⟨h0.1, by dsimp only; omega⟩, h1⟩
      rw [wrap64 (by omega) (by omega)]
      simp only [e2]; rfl
    · simp only [decide_eq_true_eq] at h h3
      rw [fAt_at _ rfl (by omega)] at h4
      have e2 : aboveGo c.ways (i + 1) = aboveGo c.ways i := by rw [aboveGo, if_neg (by exact ne_true_of_eq_false h4)]
      refine ⟨(c, b, i + 1), by show c.ways.length - (i + 1) < c.ways.length - i; omega, ?_, rfl, ⟨h0.1, by dsimp only; omega⟩, h1⟩
      rw [wrap64 (by omega) (by omega)]
      simp only [e2]; rfl
    · simp only [decide_eq_true_eq, decide_eq_false_iff_not] at h h3
      have e : (min (b + 1) (c.ways.length : Int)).toNat = i := by omega
      rw [e] at h1; exact h1
    · simp only [decide_eq_false_iff_not] at h
      have e : (min (b + 1) (c.ways.length : Int)).toNat = i := by omega
      rw [e] at h1; exact h1
theorem c_rAbove : ConOne Try.prog 18 (con2 aCnf aInt (fun c _ => fitC c) fun c b => .int .i64 (fAbove c b)) :=
  con_loops tyokS (conD lRAbove) Try.checked.mixed ⟨Try.func18, by kernel_rfl, by kernel_rfl⟩ (loops_one (by kernel_rfl) (fun _ _ h => (Option.some.inj h).symm) l_rAbove) (con2_ok aCnf_ok aInt_ok fun c b hp => cast (w_rAbove c b _).symm
    ⟨(c, b, 0), rfl, rfl, ⟨hp, by dsimp only; omega⟩, .refl _⟩)
theorem okE_ : ConsOK Try.prog consE := consOK_cons c_Is (consOK_cons c_rIs (consOK_cons c_Above (consOK_cons c_rAbove okD_)))
omit [Syms] in
theorem fnokS : FnOK Try.prog tabs := fnOK_of tabs_fn
def cfg0 : Cfg := { prim := fun _ => none, keep := fun _ => false, exact := fun _ => false, share := fun _ => false }
omit [Syms] in
theorem prims0 [Syms] : PrimOK Try.prog cfg0 := fun _ _ h => nomatch h
theorem c_known : ConOne Try.prog 19 (con0 True (.bool true)) := con_ran tyokS fnokS Try.checked.mixed (cfg := cfg0) prims0 (N := 60) (by kernel_rfl)
theorem okF_ : ConsOK Try.prog consF := consOK_cons c_known okE_
theorem conF : ConOK Try.prog sConfF := conOK_of okF_ rfl
theorem f_tells (c : Cnf) (b : Int) (hp : fitC c) : funC sConfF Try.f3 [encCnf c, .int .i64 b] fun y => VLe y (.bool true) :=
  cast (w_tells c b _).symm (by simp [VLe.refl, le_tt, hp])
theorem l_law : LoopOK Try.prog (Try.f4).ntmps lLaw (loopAt Try.f4 0) :=
  loop_mk tyokS conF Try.checked.mixed (by kernel_rfl) (by kernel_rfl) (by kernel_rfl) (loops_nil (by kernel_rfl)) (fun p => (p.1.ways.length - p.2.2).toNat) fun p K ⟨⟨h0, h1, h2⟩, h3⟩ => by
    obtain ⟨c, b, i⟩ := p
    simp only at h0 h1 h2 h3
    refine cast (w_abv1 c b i _ _).symm ⟨fun h => ⟨fun h4 => ⟨trivial, fun h5 => ?_, fun h5 => ?_⟩, fun h4 => h3⟩, fun h => h3⟩
    · simp only [decide_eq_true_eq] at h
      rw [h2 i (by omega) h] at h5
      cases h5
    · simp only [decide_eq_true_eq] at h h4
      refine ⟨(c, b, i + 1), by show (c.ways.length - (i + 1)).toNat < (c.ways.length - i).toNat; omega, ?_, rfl, ⟨h0, by show 0 ≤ i + 1; omega, fun j hj => h2 j (by simp only at hj; omega)⟩, h3⟩
      rw [wrap64 (by omega) (by omega)]
omit [Syms] in
theorem above_law (ways : List Int) (h : ways.getD 0 0 = 1) : ∀ n, ∃ m, m ≤ n ∧ aboveGo ways (n + 1) = (m : Int) ∧ ways.getD m 0 = 1 ∧ ∀ j, m < j → j ≤ n → ways.getD j 0 ≠ 1
  | 0 => ⟨0, Nat.le_refl 0, by rw [aboveGo, if_pos (by rw [h]; rfl)], h, fun j h1 h2 => by omega⟩
  | n + 1 => by
    by_cases e : ways.getD (n + 1) 0 = 1
    · exact ⟨n + 1, Nat.le_refl _, by rw [aboveGo, if_pos (by rw [e]; rfl)], e, fun j h1 h2 => by omega⟩
    · obtain ⟨m, h1, h2, h3, h4⟩ := above_law ways h n
      refine ⟨m, by omega, ?_, h3, fun j g1 g2 => ?_⟩
      · rw [aboveGo, if_neg (by simpa using e)]; exact h2
      · by_cases e3 : j = n + 1
        · subst e3; exact e
        · exact h4 j g1 (by omega)
omit [Syms] in
/-- What the law says of 'Above'. -/
theorem abv_plain {c : Cnf} {b : Int} (h : fIs c = true) (hb : 0 ≤ b) : 0 ≤ fAbove c b ∧ fAbove c b ≤ b ∧ fAbove c b < c.ways.length ∧ fAt c (fAbove c b) 1 = true ∧ ∀ j, fAbove c b < j → j ≤ b → fAt c j 1 = false := by
  have hw : c.ways.getD 0 0 = 1 ∧ 1 ≤ c.ways.length := by
    simp only [fIs, Bool.and_eq_true, beq_iff_eq, decide_eq_true_eq] at h
    exact ⟨h.1.1.2, h.1.1.1.1.1⟩
  have e : (min (b + 1) (c.ways.length : Int)).toNat = (min b ((c.ways.length : Int) - 1)).toNat + 1 := by omega
  obtain ⟨m, h1, h2, h3, h4⟩ := above_law c.ways hw.1 (min b ((c.ways.length : Int) - 1)).toNat
  have ef : fAbove c b = m := by rw [fAbove, e, h2]
  rw [ef]
  refine ⟨by omega, by omega, by omega, ?_, fun j g1 g2 => ?_⟩
  · rw [fAt_in _ (by omega) (by omega)]; simp only [Int.toNat_natCast]; rw [show GT.int.nought = (0 : Int) from rfl, h3]; rfl
  · by_cases g3 : j < c.ways.length
    · rw [fAt_at (n := j.toNat) _ (by omega) (by omega)]
      have := h4 j.toNat (by omega) (by omega)
      simpa using this
    · simp [fAt]; omega
theorem f_above (c : Cnf) (b : Int) (hp : fitC c) : funC sConfF Try.f4 [encCnf c, .int .i64 b] fun y => VLe y (.bool true) :=
  cast (w_abv c b _).symm ⟨fun _ => .refl _, fun h1 => ⟨hp, fun _ => .refl _, fun h2 => ⟨fun _ => .refl _, fun h3 => by
    have hb : 0 ≤ b := by simpa using h3
    have hi : fIs c = true := by simpa using h2
    have hl : c.ways.length ≤ 8 := by simp at h1; omega
    obtain ⟨g1, g2, g3, g4, g5⟩ := abv_plain hi hb
    refine ⟨hp, fun h => ?_, fun _ => ⟨fun h => ?_, fun _ => ⟨trivial, fun h => ?_, fun _ => ⟨trivial, fun h => ?_, fun _ => ⟨(c, b, fAbove c b + 1), ?_, rfl, ⟨hp, ?_, fun j hj => g5 j ?_⟩, trivial, .refl _⟩⟩⟩⟩⟩
    · simp at h; omega
    · simp at h; omega
    · rw [g4] at h; cases h
    · simp [fHeeds, g4] at h
    · rw [wrap64 (by omega) (by omega)]
    · show 0 ≤ fAbove c b + 1
      omega
    · have hj : fAbove c b + 1 ≤ j := hj
      omega⟩⟩⟩
theorem loops_above : LoopsIn Try.prog sConfF (Try.f4).ntmps (((Try.f4).body.map loopsOf).getD []) := loops_one (by kernel_rfl) (fun _ _ h => (Option.some.inj h).symm) l_law
theorem loops_tells : LoopsIn Try.prog sConfF (Try.f3).ntmps (((Try.f3).body.map loopsOf).getD []) := law_loopless (by kernel_rfl)

end Go.Proofs.Ytjihnbjdclobgaa.VS
