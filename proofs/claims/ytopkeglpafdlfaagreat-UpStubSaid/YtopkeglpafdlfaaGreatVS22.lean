/- What an operation looks at: where that is the same, its answer is the same. Conditions: none. -/
import Derived.Test.YtopkeglpafdlfaaGreatVS21
namespace Go.Proofs.YtopkeglpafdlfaaGreat.VS
variable [Syms]

section
variable {T : Tabs} {H H' : Heap} {F F' : List Nat}

abbrev FAgree (F F' : List Nat) : Prop := ∀ b, isIn b F' = isIn b F

abbrev Agree (H H' : Heap) (R : List Nat) : Prop := ∀ b, b ∈ R → hget H' b = hget H b

omit [Syms] in
theorem cond_ok {b : Bool} {q : Res} {v : AV} {e : Eff} {rd fz : List Nat} (h : (bif b then q else .no) = .ok v e rd fz) : b = true ∧ q = .ok v e rd fz := by
  cases b
  · cases h
  · exact ⟨rfl, h⟩

omit [Syms] in
theorem cellsAt_foot {a : AV} (h : Agree H H' (idOf a)) : cellsAt H' a = cellsAt H a := by
  cases a <;> try rfl
  · rename_i b off; have := h b (by simp [idOf]); simp only [cellsAt, this]
  · rename_i b i off; have := h b (by simp [idOf]); simp only [cellsAt, this]

omit [Syms] in
theorem aload_foot {t : TypeId} {a : AV} (h : Agree H H' (idOf a)) : aload T H' t a = aload T H t a := by
  unfold aload; rw [cellsAt_foot h]

omit [Syms] in
theorem hlive_foot {b : Nat} (hF : FAgree F F') (h : hget H' b = hget H b) : hlive H' F' b = hlive H F b := by unfold hlive; rw [h, hF b]

omit [Syms] in
theorem astore_foot {t : TypeId} {a x : AV} (hF : FAgree F F') (h : Agree H H' (idOf a)) : astore T H' F' t a x = astore T H F t a x := by
  cases a <;> try rfl
  · rename_i b off; have := hlive_foot hF (h b (by simp [idOf])); simp only [astore, astoreP, this]
  · rename_i b i off; have := hlive_foot hF (h b (by simp [idOf])); simp only [astore, astoreE, this]

omit [Syms] in
theorem elems_foot {a : AV} (h : Agree H H' (idOf a)) : elems H' a = elems H a := by
  cases a <;> try rfl
  · rename_i s b lo len; have := h b (by simp [idOf]); simp only [elems, this]
  · rename_i g b n; have := h b (by simp [idOf]); simp only [elems, this]

omit [Syms] in
theorem mapOf_foot {a : AV} (h : Agree H H' (idOf a)) : mapOf H' a = mapOf H a := by
  cases a <;> try rfl
  rename_i b; have := h b (by simp [idOf]); simp only [mapOf, this]

omit [Syms] in
theorem alookup_foot {t : TypeId} {x k : AV} {ok : Bool} (h : Agree H H' (idOf x)) : alookup T H' t x k ok = alookup T H t x k ok := by
  unfold alookup; rw [mapOf_foot h]

omit [Syms] in
theorem amapUpdate_foot {t : TypeId} {x k v : AV} (hF : FAgree F F') (h : Agree H H' (idOf x)) : amapUpdate T H' F' t x k v = amapUpdate T H F t x k v := by
  unfold amapUpdate
  cases mapT T t with
  | none => rfl
  | some ke =>
    cases x with
    | mp b => have := hlive_foot hF (h b (by simp [idOf])); simp only [this]
    | _ => rfl

omit [Syms] in
theorem alen_foot {t : TypeId} {x : AV} (h : Agree H H' (idOf x)) : alen T t H' x = alen T t H x := by
  unfold alen
  cases kindOf T t <;> first | rfl | (simp only [mapOf_foot h]; done) | (cases x <;> first | rfl | (simp only [mapOf_foot h]; done))

omit [Syms] in
theorem rr_rd {l : List Nat} {x : Option AV} {v : AV} {e : Eff} {rd fz : List Nat} (h : rr l x = .ok v e rd fz) : rd = l := by
  cases x <;> simp [rr] at h
  exact h.2.2.1.symm

omit [Syms] in
theorem rw_rd {u : AV} {l : List Nat} {x : Option (Nat × AObj)} {v : AV} {e : Eff} {rd fz : List Nat} (h : rw u l x = .ok v e rd fz) : rd = l := by
  cases x <;> simp [rw] at h
  exact h.2.2.1.symm

omit [Syms] in
theorem aconvert_foot {id : Nat} {a b : TypeId} {x v : AV} {e : Eff} {rd fz : List Nat} (h : aconvert T H F id a b x = .ok v e rd fz) (hF : FAgree F F') (hH : Agree H H' rd) : aconvert T H' F' id a b x = .ok v e rd fz := by
  unfold aconvert at h ⊢
  split at h
  · exact h
  · unfold strOf at h ⊢
    split at h
    · exact h
    · rename_i el hk2
      split at h
      · exact h
      · rename_i x' hx'
        unfold toStr at h ⊢
        cases hb : isByte T el with
        | false => simp [hb] at h
        | true =>
          simp only [hb, cond_true] at h ⊢
          have hrd : rd = idOf x := by
            split at h
            · split at h
              · simp only [Res.ok.injEq] at h; exact h.2.2.1.symm
              · cases h
            · cases h
          subst hrd
          rw [elems_foot hH]; exact h
    · cases h
  · unfold bytesOfStr at h ⊢
    split at h
    · exact h
    · rename_i s b' lo n _
      generalize (Nat.beq a b && isByte T _) = q at h ⊢
      cases q with
      | false => cases h
      | true =>
        simp only [cond_true] at h ⊢
        have hrd : rd = [b'] := by
          unfold keptArr at h
          split at h
          · obtain ⟨_, h⟩ := cond_ok h
            simp only [Res.ok.injEq] at h; exact h.2.2.1.symm
          · cases h
        subst hrd
        unfold keptArr at h ⊢
        rw [hlive_foot hF (hH b' (by simp))]; exact h
    · cases h
  · cases h

omit [Syms] in
theorem newArr_rd {id s n : Nat} {xs : List AV} {e' : Eff} {l : List Nat} {v : AV} {e : Eff} {rd fz : List Nat} (h : newArr id s xs n e' l = .ok v e rd fz) : rd = l := by
  simp only [newArr, Res.ok.injEq] at h; exact h.2.2.1.symm

omit [Syms] in
theorem appendTo_rd {id n by_ : Nat} {l : List Nat} {ys : List AV} {s b lo len : Nat} {v : AV} {e : Eff} {rd fz : List Nat} (h : appendTo H F id n by_ l ys s b lo len = .ok v e rd fz) : rd = l := by
  unfold appendTo at h
  split at h
  · obtain ⟨_, h⟩ := cond_ok h
    revert h
    cases (_ : Nat).ble _
    · intro h; exact newArr_rd h
    · intro h
      simp only [cond_true, Res.ok.injEq] at h
      exact h.2.2.1.symm
  · cases h

omit [Syms] in
theorem appendV_rd {id n by_ : Nat} {l : List Nat} {s : AV} {ys : List AV} {v : AV} {e : Eff} {rd fz : List Nat} (h : appendV H F id n by_ l s ys = .ok v e rd fz) : rd = l := by
  unfold appendV at h
  split at h
  · cases h; rfl
  · cases h; rfl
  · cases h; rfl
  · cases h; rfl
  · exact newArr_rd (cond_ok h).2
  · exact newArr_rd (cond_ok h).2
  · exact appendTo_rd h
  · unfold appendGs at h
    split at h
    · obtain ⟨_, h⟩ := cond_ok h
      split at h
      · cases h; rfl
      · cases h; rfl
    · cases h
  · cases h

omit [Syms] in
theorem appendV_foot {id n by_ : Nat} {l : List Nat} {s : AV} {ys : List AV} (hF : FAgree F F') (h : Agree H H' (idOf s)) : appendV H' F' id n by_ l s ys = appendV H F id n by_ l s ys := by
  cases s <;> first | rfl | (cases ys <;> rfl) | skip
  · rename_i s b lo len
    have := hlive_foot hF (h b (by simp [idOf]))
    cases ys
    · rfl
    · simp only [appendV, appendTo, this]
  · rename_i g b len
    have := hlive_foot hF (h b (by simp [idOf]))
    cases ys <;> simp only [appendV, appendGs, this]

omit [Syms] in
theorem appended_foot {z : AV} {xt : TypeId} {x : AV} (h : Agree H H' (idOf x)) : appended T H' z xt x = appended T H z xt x := by
  unfold appended; rw [elems_foot h]

omit [Syms] in
theorem aappend_foot {id : Nat} {ts : List TypeId} {s x : AV} {v : AV} {e : Eff} {rd fz : List Nat} (h : aappend T H F id ts s x = .ok v e rd fz) (hF : FAgree F F') (hH : Agree H H' rd) : aappend T H' F' id ts s x = .ok v e rd fz := by
  unfold aappend at h ⊢
  split at h
  · rename_i st xt rest
    split at h
    · rename_i q hq
      try rw [hq]
      try simp only
      split at h
      · rename_i by_ ys hby hys
        obtain ⟨h1, h2⟩ := cond_ok h
        have hrd := appendV_rd h2
        subst hrd
        rw [hby, appended_foot (fun b hb => hH b (by simp [hb])), hys]
        simp only
        rw [h1, cond_true, appendV_foot hF (fun b hb => hH b (by simp [hb]))]
        exact h2
      · cases h
    · cases h
  · cases h

omit [Syms] in
theorem acopy_foot {ts : List TypeId} {d x : AV} {v : AV} {e : Eff} {rd fz : List Nat} (h : acopy T H F ts d x = .ok v e rd fz) (hF : FAgree F F') (hH : Agree H H' rd) : acopy T H' F' ts d x = .ok v e rd fz := by
  unfold acopy at h ⊢
  split at h
  · rename_i dt rest
    split at h
    · rename_i q ys hq hys
      obtain ⟨h1, h2⟩ := cond_ok h
      rw [hq]
      cases d <;> simp only at h2 <;> try (cases h2; done)
      · have hrd : rd = idOf x := by simp only [Res.ok.injEq] at h2; exact h2.2.2.1.symm
        subst hrd
        rw [elems_foot hH, hys]
        simp only
        rw [h1, cond_true]; exact h2
      · have hrd : rd = idOf x := by simp only [Res.ok.injEq] at h2; exact h2.2.2.1.symm
        subst hrd
        rw [elems_foot hH, hys]
        simp only
        rw [h1, cond_true]; exact h2
      · rename_i s b lo len
        have hrd : rd = idOf (.osl s b lo len) ++ idOf x := by
          unfold copyTo at h2
          split at h2
          · obtain ⟨_, h3⟩ := cond_ok h2
            simp only [Res.ok.injEq] at h3; exact h3.2.2.1.symm
          · cases h2
        subst hrd
        rw [elems_foot (fun b hb => hH b (by simp [hb])), hys]
        simp only
        rw [h1, cond_true]
        unfold copyTo at h2 ⊢
        rw [hlive_foot hF (hH b (by simp [idOf]))]; exact h2
    · cases h
  · cases h

omit [Syms] in
theorem aclear_foot {ts : List TypeId} {x : AV} {v : AV} {e : Eff} {rd fz : List Nat} (h : aclear T H F ts x = .ok v e rd fz) (hF : FAgree F F') (hH : Agree H H' rd) : aclear T H' F' ts x = .ok v e rd fz := by
  unfold aclear at h ⊢
  split at h
  · rename_i t rest
    split at h
    · rename_i q hq
      split at h
      · rename_i s b lo len
        have hrd : rd = idOf (.osl s b lo len) := by
          unfold clearTo at h
          split at h
          · obtain ⟨_, h3⟩ := cond_ok h
            simp only [Res.ok.injEq] at h3; exact h3.2.2.1.symm
          · cases h
        subst hrd
        unfold clearTo at h ⊢
        rw [hlive_foot hF (hH b (by simp [idOf]))]; exact h
      · cases h
    · cases h
  · cases h

omit [Syms] in
theorem abuiltin_foot {id : Nat} {b : Builtin} {ts : List TypeId} {args : List AV} {v : AV} {e : Eff} {rd fz : List Nat} (h : abuiltin T H F id b ts args = .ok v e rd fz) (hF : FAgree F F') (hH : Agree H H' rd) : abuiltin T H' F' id b ts args = .ok v e rd fz := by
  unfold abuiltin at h ⊢
  split at h
  · split at h
    · have hrd := rr_rd h
      subst hrd
      rw [alen_foot hH]; exact h
    · cases h
  · exact aappend_foot h hF hH
  · exact acopy_foot h hF hH
  · exact aclear_foot h hF hH
  · exact h
  · exact h
  · exact h
  · cases h

omit [Syms] in
theorem tellB_foot {tell : Bool} {id : Nat} {b : Builtin} {ts : List TypeId} {args : List AV} {v : AV} {e : Eff} {rd fz : List Nat} (h : tellB tell H F b args (abuiltin T H F id b ts args) = .ok v e rd fz) (hF : FAgree F F') (hH : Agree H H' rd) :
    tellB tell H' F' b args (abuiltin T H' F' id b ts args) = .ok v e rd fz := by
  have key : ∃ e0, abuiltin T H F id b ts args = .ok v e0 rd fz := by
    rcases tellB_inv h with h | ⟨_, _, _, _, _, _, _, _, _, _, _, _, _, _, _, h, _⟩
    · exact ⟨_, h⟩
    · exact ⟨_, h⟩
  obtain ⟨e0, h0⟩ := key
  rw [abuiltin_foot h0 hF hH]
  rw [h0] at h
  unfold tellB at h ⊢
  cases tell with
  | false => exact h
  | true =>
    rw [cond_true] at h ⊢
    split at h
    · rename_i s x
      have hrd : rd = idOf s ++ idOf x := by
        have ha : aappend T H F id ts s x = .ok v e0 rd fz := h0
        unfold aappend at ha
        split at ha
        · split at ha
          · split at ha
            · obtain ⟨_, h2⟩ := cond_ok ha
              exact appendV_rd h2
            · cases ha
          · cases ha
        · cases ha
      subst hrd
      show tellApp H' F' s x (.ok v e0 (idOf s ++ idOf x) fz) = _
      unfold tellApp at h ⊢
      cases s with
      | gs g bb n =>
        have h1 := hlive_foot hF (hH bb (by simp [idOf]))
        have h2 : ∀ g, dataOf H' g x = dataOf H g x := fun g => by
          have he : elems H' x = elems H x := elems_foot fun b hb => hH b (by simp [hb])
          unfold dataOf
          cases x <;> first | rfl | simp only [he]
        simp only [h1, h2]
        exact h
      | _ => exact h
    · exact h

omit [Syms] in
/-- A value taken whole looks at the numbers that it tells. -/
theorem resAll_foot {nz : Bool} {d : Nat} (ih : ∀ a y is, resolve nz H d a = some (y, is) → Agree H H' is → resolve nz H' d a = some (y, is)) : ∀ {l : List AV} {r : List AV × List Nat}, resAll nz H d l = some r → Agree H H' r.2 → resAll nz H' d l = some r
  | [], r, h, _ => h
  | a :: l, r, h, hA => by
    unfold resAll at h ⊢
    rw [List.foldr_cons] at h ⊢
    change (match resAll nz H d l, resolve nz H d a with
      | some ys, some y => some (y.1 :: ys.1, y.2 ++ ys.2)
      | _, _ => none) = some r at h
    change (match resAll nz H' d l, resolve nz H' d a with
      | some ys, some y => some (y.1 :: ys.1, y.2 ++ ys.2)
      | _, _ => none) = some r
    split at h
    · rename_i ys y hys hy
      cases h
      rw [resAll_foot ih hys (fun b hb => hA b (by simp [hb])), ih a y.1 y.2 hy (fun b hb => hA b (by simp [hb]))]
    · cases h

omit [Syms] in
theorem resolve_foot {nz : Bool} : ∀ d a y is, resolve nz H d a = some (y, is) → Agree H H' is → resolve nz H' d a = some (y, is) := by
  intro d
  induction d with
  | zero => intro a y is h; simp [resolve] at h
  | succ d ih =>
    intro a y is h hA
    cases resolve_rsv h with
    | agg hr =>
      change (match resAll nz H' d _ with
        | some r => some (AV.agg r.1, r.2)
        | none => none) = _
      rw [resAll_foot ih hr hA]
    | tup hr =>
      change (match resAll nz H' d _ with
        | some r => some (AV.tup r.1, r.2)
        | none => none) = _
      rw [resAll_foot ih hr hA]
    | fn hr =>
      change (match resAll nz H' d _ with
        | some r => some (AV.fn _ r.1, r.2)
        | none => none) = _
      rw [resAll_foot ih hr hA]
    | ifc hr =>
      change (match resolve nz H' d _ with
        | some r => some (AV.ifc _ r.1, r.2)
        | none => none) = _
      rw [ih _ _ _ hr hA]
    | @osl s b lo len s' xs r hb hle hr =>
      change (match hget H' b with
        | some (.arr _ xs) => bif (lo + len).ble xs.length then
            match resAll nz H' d xs with
            | some r => some (AV.sl ((r.1.drop lo).take len), b :: r.2)
            | none => none
          else none
        | some (.tarr t xs) => bif (lo + len).ble xs.length then some (AV.tl t ((xs.drop lo).take len), [b]) else none
        | _ => none) = _
      rw [hA b (by simp), hb]
      simp only
      rw [show (lo + len).ble xs.length = true from Nat.ble_eq_true_of_le hle, cond_true, resAll_foot ih hr (fun b hb => hA b (by simp [hb]))]
    | @tosl s b lo len t xs hb hle =>
      change (match hget H' b with
        | some (.arr _ xs) => bif (lo + len).ble xs.length then
            match resAll nz H' d xs with
            | some r => some (AV.sl ((r.1.drop lo).take len), b :: r.2)
            | none => none
          else none
        | some (.tarr t xs) => bif (lo + len).ble xs.length then some (AV.tl t ((xs.drop lo).take len), [b]) else none
        | _ => none) = _
      rw [hA b (by simp), hb]
      simp only
      rw [show (lo + len).ble xs.length = true from Nat.ble_eq_true_of_le hle, cond_true]
    | cptr => exact h
    | @ptr b cs r hb hr =>
      change (match hget H' b with
        | some (.cells cs) => bif (0 : Nat).beq 0 then
            match resAll nz H' d cs with
            | some r => some (AV.cptr (.agg r.1), b :: r.2)
            | none => none
          else none
        | _ => none) = _
      rw [hA b (by simp), hb]
      simp only
      rw [show (0 : Nat).beq 0 = true from rfl, cond_true, resAll_foot ih hr (fun b hb => hA b (by simp [hb]))]
    | @gs g b n t xs hb hn =>
      change (match hget H' b with
        | some (.tarr t xs) => bif n.beq xs.length then some (AV.tl t xs, [b]) else none
        | _ => none) = _
      rw [hA b (by simp), hb]
      simp only
      rw [show n.beq xs.length = true from by rw [hn]; exact beq_same _, cond_true]
    | nils => exact h
    | nev => exact h
    | emp => exact h
    | leaf hl => cases a <;> first | exact h | (simp [leafV] at hl)

omit [Syms] in
theorem resolveAll_foot {nz : Bool} : ∀ {args : List AV} {p : List AV × List Nat}, resolveAll nz H args = some p → Agree H H' p.2 → resolveAll nz H' args = some p
  | [], p, h, _ => h
  | a :: l, p, h, hA => by
    rw [resolveAll] at h ⊢
    split at h
    · rename_i x y hx hy
      cases h
      rw [resolve_foot _ _ x.1 x.2 hx (fun b hb => hA b (by simp [hb])), resolveAll_foot hy (fun b hb => hA b (by simp [hb]))]
    · cases h

omit [Syms] in
theorem pureAns_rd {keep : Bool} {id : Nat} {ids : List Nat} {q : Ans} {v : AV} {e : Eff} {rd fz : List Nat} (h : pureAns keep id ids q = .ok v e rd fz) : rd = ids := by
  unfold pureAns at h
  split at h
  · cases keep with
    | true =>
      simp only [cond_true] at h
      unfold keepAns at h
      obtain ⟨_, h⟩ := cond_ok h
      split at h
      · simp only [Res.ok.injEq] at h; exact h.2.2.1.symm
      · cases h
    | false =>
      simp only [cond_false] at h
      split at h
      · simp only [Res.ok.injEq] at h; exact h.2.2.1.symm
      · cases h
  · cases h

omit [Syms] in
theorem acallOp_foot {E : Env} {s s' : St} {id : Nat} {f : FuncId} {args : List AV} {v : AV} {e : Eff} {rd fz : List Nat} (h : acallOp E s id f args = .ok v e rd fz) (hA : Agree s.H s'.H rd) : acallOp E s' id f args = .ok v e rd fz := by
  unfold acallOp at h ⊢
  cases hp : ((args.any (hasPtr DEEP) && !E.cfg.look f) || E.cfg.share f) with
  | true =>
    simp only [hp, cond_true] at h
    unfold sharedAns at h
    split at h
    · revert h
      cases idFree DEEP _ <;> simp
    · cases h
  | false =>
    simp only [hp, cond_false] at h ⊢
    split at h
    · rename_i p hpp
      have := pureAns_rd h
      subst this
      rw [resolveAll_foot hpp hA]
      exact h
    · cases h

omit [Syms] in
theorem opnds_congr {fr fr' : Fr} : ∀ {l : List Operand}, (∀ x ∈ l, opnd fr' x = opnd fr x) → opnds fr' l = opnds fr l
  | [], _ => rfl
  | x :: l, h => by rw [opnds, opnds, h x (by simp), opnds_congr fun y hy => h y (by simp [hy])]

omit [Syms] in
theorem parts_congr {fr fr' : Fr} : ∀ {l : List (Nat × Operand)}, (∀ x ∈ l.map (·.2), opnd fr' x = opnd fr x) → parts fr' l = parts fr l
  | [], _ => rfl
  | x :: l, h => by rw [parts, parts, h x.2 (by simp), parts_congr fun y hy => h y (by simp only [List.map_cons, List.mem_cons]; exact .inr hy)]

omit [Syms] in
theorem mapO_congr {fr fr' : Fr} {x : Option Operand} (h : ∀ y, x = some y → opnd fr' y = opnd fr y) : mapO fr' x = mapO fr x := by
  cases x with
  | none => rfl
  | some y => simp only [mapO, h y rfl]

omit [Syms] in
/-- An operation's answer is the same where what it looks at is. -/
theorem aop_foot {E : Env} {s s' : St} {id : Nat} {op : Op} {v : AV} {e : Eff} {rd fz : List Nat} (h : aop E s id op = .ok v e rd fz) (hop : ∀ x ∈ op.operands, opnd s'.fr x = opnd s.fr x) (hF : FAgree s.F s'.F) (hA : Agree s.H s'.H rd) : aop E s' id op = .ok v e rd fz := by
  cases op <;> simp only [aop] at h ⊢ <;> simp only [Op.operands] at hop <;> try (cases h; done)
  case move x => rw [hop x (by simp)]; exact h
  case assign x => rw [hop x (by simp)]; exact h
  case pick a b c => rw [hop a (by simp), hop b (by simp), hop c (by simp)]; exact h
  case alloc => exact h
  case box t x => rw [hop x (by simp)]; exact h
  case build t ps => rw [parts_congr fun x hx => hop x (by simpa using hx)]; exact h
  case buildSlice t n ps => rw [parts_congr fun x hx => hop x (by simpa using hx)]; exact h
  case load t x =>
    have := rr_rd h; subst this
    rw [hop x (by simp), aload_foot hA]; exact h
  case store t x y =>
    have := rw_rd h; subst this
    rw [hop x (by simp), hop y (by simp), astore_foot hF hA]; exact h
  case nilCheck x => rw [hop x (by simp)]; exact h
  case binOp op t x y z => rw [hop x (by simp), hop y (by simp)]; exact h
  case unOp op t x => rw [hop x (by simp)]; exact h
  case convert a b x => rw [hop x (by simp)]; exact aconvert_foot h hF hA
  case makeInterface t x => rw [hop x (by simp)]; exact h
  case makeFunc fn first caps => rw [opnds_congr fun x hx => hop x (by simp at hx ⊢; exact .inr hx)]; exact h
  case makeMap t r => rw [mapO_congr fun y hy => hop y (by subst hy; simp)]; exact h
  case makeSlice t l c => rw [hop l (by simp), hop c (by simp)]; exact h
  case slice t x lo hi mx => rw [hop x (by simp), mapO_congr fun y hy => hop y (by subst hy; simp), mapO_congr (x := hi) fun y hy => hop y (by subst hy; simp), mapO_congr (x := mx) fun y hy => hop y (by subst hy; simp)]; exact h
  case fieldAddr t x f => rw [hop x (by simp)]; exact h
  case field t x f => rw [hop x (by simp)]; exact h
  case indexAddr t x i => rw [hop x (by simp), hop i (by simp)]; exact h
  case index t x i => rw [hop x (by simp), hop i (by simp)]; exact h
  case lookup t x i ok =>
    have := rr_rd h; subst this
    rw [hop x (by simp), hop i (by simp), alookup_foot hA]; exact h
  case mapUpdate t x k y =>
    have := rw_rd h; subst this
    rw [hop x (by simp), hop k (by simp), hop y (by simp), amapUpdate_foot hF hA]; exact h
  case insert t x k y =>
    have := rw_rd h; subst this
    rw [hop x (by simp), hop k (by simp), hop y (by simp), amapUpdate_foot hF hA]; exact h
  case extract x i => rw [hop x (by simp)]; exact h
  case call cl =>
    obtain ⟨callee, args, ats⟩ := cl
    unfold opCall at h ⊢
    cases callee with
    | builtin b =>
      simp only at h ⊢
      rw [opnds_congr fun x hx => hop x (by simp [Call.operands] at hx ⊢; exact hx)]
      exact tellB_foot h hF hA
    | value f =>
      simp only at h ⊢
      rw [opnds_congr (fr := s.fr) fun x hx => hop x (by simp [Call.operands] at hx ⊢; exact .inr hx), hop f (by simp [Call.operands])]
      unfold acallee at h ⊢
      split at h
      · exact acallOp_foot h hA
      · cases h
    | invoke r n => cases h

end
end Go.Proofs.YtopkeglpafdlfaaGreat.VS
