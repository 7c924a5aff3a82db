/- A library of an abstract machine, joined from 2 texts. Conditions: none. -/
import Derived.Test.YtmkmjjodiicmlaaVM7
set_option linter.unusedVariables false
set_option linter.unusedSimpArgs false
set_option linter.unusedSectionVars false
/- One operation that the machine itself makes: what its proposition asks is that it is made. Conditions: none. -/
namespace Go.Proofs.Ytmkmjjodiicmlaa.VS
section
variable {S : SE} {un : Bool} {s : St} {id : Nat} {k : Kont}

theorem resK_some {r : Res} (h : resK k r) : ∃ v e rd fz, r = .ok v e rd fz ∧ k v e rd fz := by
  cases r with
  | no => exact h.elim
  | ok v e rd fz => exact ⟨v, e, rd, fz, rfl, h⟩
  | all v H F nx => exact h.elim

theorem dflt_some {op : Op} (h : resK k (aopK op (S.env un) s id)) : ∃ v e rd fz, aop (S.env un) s id op = .ok v e rd fz ∧ k v e rd fz := by
  rw [aopK_eq] at h
  exact resK_some h

theorem elemN_some {T : Tabs} {t : TypeId} {n : Nat} (h : elemN T t n = true) : ∃ e, kindOf T t = .slice e ∧ szOf T e = some n ∧ 0 < n := by
  unfold elemN at h
  split at h
  · rename_i e hk
    split at h
    · rename_i m hm
      rw [Bool.and_eq_true] at h
      exact ⟨e, hk, by rw [hm, beq_eq' h.1], blt_lt h.2⟩
    · cases h
  · cases h

theorem getD_some {α : Type} {xs : List α} {i : Nat} (d : α) (h : i < xs.length) : xs[i]? = some (xs.getD i d) := by
  rw [List.getD_eq_getElem?_getD, List.getElem?_eq_getElem h]; rfl

theorem idxC_some {t : TypeId} {x i : Operand} (h : idxC S (resK k (aopK (.indexAddr t x i) (S.env un) s id)) t k (opnd s.fr x) (opnd s.fr i)) :
    ∃ v e rd fz, aop (S.env un) s id (.indexAddr t x i) = .ok v e rd fz ∧ k v e rd fz := by
  unfold idxC at h
  split at h
  · rename_i g xs kk n hx hi
    obtain ⟨h1, ⟨h2, h3⟩, h4⟩ := must_and h
    obtain ⟨e, k1, k2, k3⟩ := elemN_some h1
    obtain ⟨j, rfl⟩ := Int.eq_ofNat_of_zero_le h2
    refine ⟨_, _, _, _, ?_, h4⟩
    simp only [aop, hx, hi, aindexAddr, SE.env, k1, k2, idxSl]
    rw [show ((j : Int).toNat) = j from rfl, getD_some g.nought (by omega : j < xs.length)]
    simp only [beq_same, cond_true, ro]
  · rename_i sz b lo len kk n hx hi
    obtain ⟨h1, ⟨h2, h3⟩, h4⟩ := must_and h
    obtain ⟨e, k1, k2, k3⟩ := elemN_some h1
    obtain ⟨j, rfl⟩ := Int.eq_ofNat_of_zero_le h2
    refine ⟨_, _, _, _, ?_, h4⟩
    simp only [aop, hx, hi, aindexAddr, SE.env, k1, k2, idxSl]
    have : Nat.blt j len = true := Nat.ble_eq_true_of_le (by omega)
    simp only [this, beq_same, Bool.and_self, cond_true, ro]
    rfl
  · rename_i g b len kk n hx hi
    obtain ⟨h1, ⟨h2, h3⟩, h4⟩ := must_and h
    obtain ⟨e, k1, k2, k3⟩ := elemN_some h1
    obtain ⟨j, rfl⟩ := Int.eq_ofNat_of_zero_le h2
    refine ⟨_, _, _, _, ?_, h4⟩
    simp only [aop, hx, hi, aindexAddr, SE.env, k1, k2, idxSl]
    have : Nat.blt j len = true := Nat.ble_eq_true_of_le (by omega)
    simp only [this, beq_same, Bool.and_self, cond_true, ro]
    rfl
  · rename_i b q len kk n hx hi
    obtain ⟨h1, ⟨h2, h3⟩, h4⟩ := must_and h
    obtain ⟨e, k1, k2, k3⟩ := elemN_some h1
    obtain ⟨j, rfl⟩ := Int.eq_ofNat_of_zero_le h2
    refine ⟨_, _, _, _, ?_, h4⟩
    simp only [aop, hx, hi, aindexAddr, SE.env, k1, k2, idxSl]
    have : Nat.blt j len = true := Nat.ble_eq_true_of_le (by omega)
    simp only [this, beq_same, Bool.and_self, cond_true, ro]
    rfl
  · exact dflt_some h

theorem indexC_some {t : TypeId} {x i : Operand} (h : indexC S (resK k (aopK (.index t x i) (S.env un) s id)) t k (opnd s.fr x) (opnd s.fr i)) :
    ∃ v e rd fz, aop (S.env un) s id (.index t x i) = .ok v e rd fz ∧ k v e rd fz := by
  unfold indexC at h
  split at h
  · rename_i l kk n hx hi
    split at h
    · rename_i hk
      obtain ⟨⟨h2, h3⟩, h4⟩ := h
      obtain ⟨j, rfl⟩ := Int.eq_ofNat_of_zero_le h2
      refine ⟨_, _, _, _, ?_, h4⟩
      simp only [aop, hx, hi, aindex, SE.env, hk]
      rw [show ((j : Int).toNat) = j from rfl, getD_some (0 : UInt8) (by omega : j < l.length)]
      rfl
    · exact h.elim
  · exact dflt_some h

theorem loadC_some {t : TypeId} {a : Operand} (h : loadC S s.H (resK k (aopK (.load t a) (S.env un) s id)) t k (opnd s.fr a)) :
    ∃ v e rd fz, aop (S.env un) s id (.load t a) = .ok v e rd fz ∧ k v e rd fz := by
  unfold loadC at h
  split at h
  · rename_i b i off ha
    split at h
    · rename_i g xs hb
      obtain ⟨h1, h2⟩ := h
      obtain ⟨v, h3, h4⟩ := optC_some h2
      refine ⟨_, _, _, _, ?_, h4⟩
      simp only [aop, ha, aload, cellsAt, hb, getD_some g.nought h1, SE.env, h3, rr, idOf]
    · rename_i xs lo hb
      obtain ⟨⟨h0, h1⟩, h2⟩ := h
      obtain ⟨v, h3, h4⟩ := optC_some h2
      refine ⟨_, _, _, _, ?_, h4⟩
      simp only [aop, ha, aload, cellsAt, hb, getD_some (⟨0, []⟩ : Blk) h1, show Nat.ble lo i = true from Nat.ble_eq_true_of_le h0, cond_true, SE.env, h3, rr, idOf]
    · exact dflt_some h
  · exact dflt_some h

theorem bnd_of {d : Nat} {o : Option AV} {z : Int} (h : bndZ d o = some z) (hz : 0 ≤ z) : bnd d o = some z.toNat := by
  unfold bndZ at h
  split at h
  · cases h; rfl
  · rename_i n
    cases h
    obtain ⟨j, rfl⟩ := Int.eq_ofNat_of_zero_le hz
    rfl
  · cases h

theorem bnds_of {n : Nat} {lo hi : Option AV} {l h : Int} (h1 : bndZ 0 lo = some l) (h2 : bndZ n hi = some h) (h3 : 0 ≤ l ∧ l ≤ h ∧ h ≤ n) : bnds n lo hi = some (l.toNat, h.toNat) := by
  unfold bnds
  rw [show (0 : Int) = ((0 : Nat) : Int) from rfl] at h1
  rw [bnd_of h1 h3.1, bnd_of h2 (by omega)]
  simp only
  rw [show (l.toNat.ble h.toNat && h.toNat.ble n) = true by rw [Bool.and_eq_true]; exact ⟨Nat.ble_eq_true_of_le (by omega), Nat.ble_eq_true_of_le (by omega)⟩]
  rfl

theorem mapO_none (fr : Fr) : mapO fr none = none := rfl

theorem sliceC_some {t : TypeId} {x : Operand} {lo hi : Option Operand} (h : sliceC S (resK k (aopK (.slice t x lo hi none) (S.env un) s id)) t k (mapO s.fr lo) (mapO s.fr hi) (opnd s.fr x)) :
    ∃ v e rd fz, aop (S.env un) s id (.slice t x lo hi none) = .ok v e rd fz ∧ k v e rd fz := by
  unfold sliceC at h
  split at h
  · rename_i g xs hx
    obtain ⟨h1, h⟩ := must_and h
    obtain ⟨e, k1, k2, k3⟩ := elemN_some h1
    split at h
    · rename_i l hh hl hhi
      obtain ⟨h2, h4⟩ := h
      refine ⟨_, _, _, _, ?_, h4⟩
      obtain ⟨n, hn⟩ : ∃ n, g.size = n + 1 := ⟨g.size - 1, by omega⟩
      simp only [aop, hx, aslice, mapO_none, SE.env, k1, k2, hn, asliceV, bnds_of hl hhi h2, beq_same, cond_true, ro]
    · exact h.elim
  · rename_i sz b o len hx
    obtain ⟨h1, h⟩ := must_and h
    obtain ⟨e, k1, k2, k3⟩ := elemN_some h1
    split at h
    · rename_i l hh hl hhi
      obtain ⟨h2, h4⟩ := h
      refine ⟨_, _, _, _, ?_, h4⟩
      obtain ⟨n, hn⟩ : ∃ n, sz = n + 1 := ⟨sz - 1, by omega⟩
      subst hn
      simp only [aop, hx, aslice, mapO_none, SE.env, k1, k2, asliceV, bnds_of hl hhi h2, beq_same, cond_true, ro]
    · exact h.elim
  · rename_i g b len hx
    obtain ⟨h1, h⟩ := must_and h
    obtain ⟨e, k1, k2, k3⟩ := elemN_some h1
    split at h
    · rename_i l hh hl hhi
      obtain ⟨⟨h0, h2⟩, h4⟩ := h
      refine ⟨_, _, _, _, ?_, h4⟩
      obtain ⟨n, hn⟩ : ∃ n, g.size = n + 1 := ⟨g.size - 1, by omega⟩
      obtain ⟨len, rfl⟩ : ∃ n, len = n + 1 := ⟨len - 1, by omega⟩
      simp only [aop, hx, aslice, mapO_none, SE.env, k1, k2, hn, asliceV, bnds_of hl hhi h2, beq_same, cond_true, ro, Nat.zero_add]
    · exact h.elim
  · rename_i l hx
    split at h
    · rename_i hk
      split at h
      · rename_i lz hz hl hhi
        obtain ⟨h2, h4⟩ := h
        refine ⟨_, _, _, _, ?_, h4⟩
        simp only [aop, hx, aslice, mapO_none, SE.env, hk, bnds_of hl hhi h2, ro]
      · exact h.elim
    · exact h.elim
  · exact dflt_some h

theorem allFieldsB_eq {f f' : Fd → Option Bool} (hf : ∀ x b, f' x = some b → f x = some b) : ∀ {l : List Fd} {b : Bool}, allFieldsB f' l = some b → allFields f l = some b
  | [], b, h => h
  | [x], b, h => by
    rw [allFieldsB] at h
    rw [allFields]
    cases hb : x.blank with
    | true => rw [hb] at h; exact h
    | false =>
      rw [hb, cond_false] at h
      rw [cond_false, hf x b h]
      cases b <;> rfl
  | x :: y :: r, b, h => by
    rw [allFieldsB] at h
    · rw [allFields]
      cases hb : x.blank with
      | true => rw [hb, cond_true] at h; rw [cond_true]; exact allFieldsB_eq hf h
      | false =>
        rw [hb, cond_false] at h
        rw [cond_false]
        split at h
        · rename_i a c ha hc
          cases h
          rw [hf x a ha]
          cases a
          · rfl
          · simp only [Bool.true_and]; exact allFieldsB_eq hf hc
        · cases h
    · nofun

theorem aeqB_eq (T : Tabs) : ∀ (d : Nat) (t : TypeId) (x y : AV) (b : Bool), aeqB T d t x y = some b → aeq T d t x y = some b
  | 0, _, _, _, _, h => by cases h
  | d + 1, t, x, y, b, h => by
    rw [aeqB] at h
    rw [aeq]
    split at h
    · rename_i i hi
      rw [hi]
      split at h
      · rename_i fs xs ys hk
        simp only [hk]
        cases hc : i.cmp with
        | false => rw [hc] at h; cases h
        | true =>
          rw [hc, cond_true] at h
          rw [cond_true]
          refine allFieldsB_eq (fun f c hf => ?_) h
          unfold both at hf ⊢
          split at hf
          · rename_i p q hp hq
            exact aeqB_eq T d _ _ _ _ hf
          · cases hf
      · rename_i hne
        simp only
        exact h
    · cases h

theorem binC_some {op : BinOp} {t : TypeId} {x y : Operand} {c : TypeId} (h : binC S (resK k (aopK (.binOp op t x y c) (S.env un) s id)) op t k (opnd s.fr x) (opnd s.fr y)) :
    ∃ v e rd fz, aop (S.env un) s id (.binOp op t x y c) = .ok v e rd fz ∧ k v e rd fz := by
  unfold binC at h
  split at h
  · rename_i a b hx hy
    split at h
    · obtain ⟨h1, h2⟩ := h
      refine ⟨_, _, _, _, ?_, h2⟩
      simp only [aop, hx, hy, abin, astr]
      rw [show (a.length + b.length).ble 1099511627776 = true from Nat.ble_eq_true_of_le h1]
      rfl
    · exact dflt_some h
  · rename_i xs ys hx hy
    split at h
    · obtain ⟨b, h1, h2⟩ := optC_some h
      refine ⟨_, _, _, _, ?_, h2⟩
      simp only [aop, hx, hy, abin, aeqOp, SE.env, aeqB_eq _ _ _ _ _ _ h1, yesO, ro]
    · obtain ⟨b, h1, h2⟩ := optC_some h
      refine ⟨_, _, _, _, ?_, h2⟩
      simp only [aop, hx, hy, abin, aeqOp, SE.env, aeqB_eq _ _ _ _ _ _ h1, notO, ro]
    · exact dflt_some h
  · rename_i q a q' b hx hy
    split at h
    · obtain ⟨h1, h2⟩ := h
      refine ⟨_, _, _, _, ?_, h2⟩
      simp only [aop, hx, hy, abin, ashift, intv, if_neg (by omega : ¬ b < 0), ro]
    · obtain ⟨h1, h2⟩ := h
      refine ⟨_, _, _, _, ?_, h2⟩
      simp only [aop, hx, hy, abin, ashift, intv, if_neg (by omega : ¬ b < 0), ro]
    · exact dflt_some h
  · exact dflt_some h

theorem toBytes_encs : ∀ xs : List UInt8, toBytes (encs .u8 xs) = some xs
  | [] => rfl
  | b :: r => by
    show (match toBytes (encs .u8 r) with
      | some s => some (UInt8.ofNat ((b.toNat : Int)).toNat :: s)
      | none => none) = _
    rw [toBytes_encs r]
    show some (UInt8.ofNat b.toNat :: r) = _
    rw [UInt8.ofNat_toNat]

theorem strC_some {a b : TypeId} {x : Operand} (h : strC S s.H (resK k (aopK (.convert a b x) (S.env un) s id)) a b k (opnd s.fr x)) :
    ∃ v e rd fz, aop (S.env un) s id (.convert a b x) = .ok v e rd fz ∧ k v e rd fz := by
  unfold strC at h
  split at h
  · rename_i el hd hs
    split at h
    · rename_i xs hx
      obtain ⟨h1, h2⟩ := must_and h
      refine ⟨_, _, _, _, ?_, h2⟩
      simp only [aop, hx, SE.env, aconvert, hd, strOf, hs, toStr, h1, cond_true, elems, toBytes_encs, idOf]
    · rename_i bb lo len hx
      split at h
      · rename_i xs hb
        obtain ⟨h1, h3, h2⟩ := must_and h
        refine ⟨_, _, _, _, ?_, h2⟩
        have e1 : ((encs .u8 xs).drop lo).take len = encs .u8 ((xs.drop lo).take len) := by simp [encs, List.map_take, List.map_drop]
        simp only [aop, hx, SE.env, aconvert, hd, strOf, hs, toStr, h1, cond_true, elems, hb, show (lo + len).ble xs.length = true from Nat.ble_eq_true_of_le h3, e1, toBytes_encs, idOf]
      · exact dflt_some h
    · rename_i g bb n hx
      split at h
      · rename_i xs hb
        obtain ⟨h1, h3, h2⟩ := must_and h
        refine ⟨_, _, _, _, ?_, h2⟩
        simp only [aop, hx, SE.env, aconvert, hd, strOf, hs, toStr, h1, cond_true, elems, hb, h3, beq_same, toBytes_encs, idOf]
      · exact dflt_some h
    · exact dflt_some h
  · exact dflt_some h

theorem callC_some {f : Operand} {args : Array Operand} {ts : Array TypeId} (h : callC S un s id k (opnd s.fr f) (opnds s.fr args.toList)) :
    ∃ v e rd fz, aop (S.env un) s id (.call ⟨.value f, args, ts⟩) = .ok v e rd fz ∧ k v e rd fz := by
  unfold callC at h
  split at h
  · rename_i _ _ g caps hf
    obtain ⟨cn, h1, h2⟩ := optC_some h
    obtain ⟨p, h3, h4⟩ := resAllC_some _ _ h2
    obtain ⟨c, h5, hq⟩ := optC_some h4
    obtain ⟨hpre, r0, h6, h7⟩ : preP c.pre ∧ ∃ r, c.o = some r ∧ pureC S un g id p.2 (c.v r) (c.H r) k := by
      cases hp : c.pre with
      | none => rw [hp] at hq; exact ⟨trivial, hq⟩
      | some q => rw [hp] at hq; exact hq
    have hcall : conCall S un g p.1 [] [] 0 = .ok (ansV un (c.v r0)) (c.H r0) [] WIDE := by
      simp only [conCall, h1, h5, h6]
      exact if_pos hpre
    unfold pureC at h7
    have hop : aop (S.env un) s id (.call ⟨.value f, args, ts⟩) = pureAns (S.own g) id p.2 (.ok (ansV un (c.v r0)) (c.H r0) [] WIDE) := by
      simp only [aop, opCall, hf, acallee, acallOp, SE.env, SE.cfg, Bool.not_true, Bool.and_false, Bool.or_self, Bool.not_false, cond_false, h3, hcall]
    rw [hop]
    cases ho : S.own g with
    | true =>
      rw [ho, cond_true] at h7
      exact resK_some h7
    | false =>
      rw [ho, cond_false] at h7
      obtain ⟨y8, is8, h8, h9⟩ := resC_some _ _ _ h7
      refine ⟨_, _, _, _, ?_, h9⟩
      simp only [pureAns, cond_false, h8]
  · exact h.elim

theorem decAllP_dec [Syms] {g : GT} : ∀ {ps : List AV} {k : List g.T → Prop}, decAllP g ps k → ∃ xs, DRow g ps xs ∧ decAll (dec g) ps = some xs ∧ k xs
  | [], k, h => ⟨[], .nil, rfl, h⟩
  | p :: ps, k, h => by
    have h' : decP g p fun x => decAllP g ps fun l => k (x :: l) := h
    have key : ∃ x, dec g p = some x ∧ decAllP g ps fun l => k (x :: l) := by
      unfold decP at h'
      split at h'
      · unfold decB at h'
        split at h'
        · rename_i n
          exact ⟨_, by show byteOf (.int .u8 n) = _; exact if_pos h'.1, h'.2⟩
        · exact h'.elim
      · exact optC_some h'
    obtain ⟨x, h1, h2⟩ := key
    obtain ⟨xs, h3, h4, h5⟩ := decAllP_dec h2
    exact ⟨x :: xs, .cons (dec_dec g p x h1) h3, by simp only [decAll, h1, h4], h5⟩

theorem byteOf_enc (x : UInt8) : byteOf (enc .u8 x) = some x := by
  show (if (0 : Int) ≤ (x.toNat : Int) ∧ (x.toNat : Int) < 256 then some (UInt8.ofNat (x.toNat : Int).toNat) else none) = some x
  have : x.toNat < 256 := x.toNat_lt
  rw [if_pos ⟨by omega, by omega⟩]
  show some (UInt8.ofNat x.toNat) = some x
  rw [UInt8.ofNat_toNat]
theorem dec_enc (g : GT) (x : g.T) : dec g (enc g x) = some x := by
  cases g
  case u8 => exact byteOf_enc x
  all_goals first | rfl | (cases x; rfl) | (simp [dec, enc, listOf, decNod, decDsk, decOpn, decRow, decSpt, decAkt, decBlk, decNam, decBytes]; done)
theorem decAll_encs (g : GT) : ∀ xs : List g.T, decAll (dec g) (encs g xs) = some xs
  | [] => by cases g <;> rfl
  | x :: r => by
    have : encs g (x :: r) = enc g x :: encs g r := by cases g <;> rfl
    rw [this, decAll, dec_enc, decAll_encs g r]

theorem res_one {nz : Bool} {H : Heap} {d : Nat} {a y : AV} {is : List Nat} (h : resolve nz H d a = some (y, is)) (hy : y.one = true) : a.one = true := by
  cases d with
  | zero => simp [resolve] at h
  | succ d =>
    cases resolve_rsv h with
    | agg _ => cases hy
    | tup _ => cases hy
    | leaf hl => exact hy
    | _ => rfl

theorem res_fits {nz : Bool} {H : Heap} {d n : Nat} {a y : AV} {is : List Nat} (h : resolve nz H d a = some (y, is)) (hy : fitsN n y = true) : fitsN n a = true := by
  cases d with
  | zero => simp [resolve] at h
  | succ d =>
    simp only [fitsN, Bool.and_eq_true] at hy ⊢
    have one : a.fits = true → a.cells = [a] → y.cells = [y] → a.fits = true ∧ a.cells.length.beq n = true := fun h1 h2 h3 => by
      refine ⟨h1, ?_⟩
      have := hy.2
      rw [h3] at this
      rw [h2]; exact this
    cases resolve_rsv h with
    | @agg cs r hr =>
      obtain ⟨h1, h2⟩ := resAll_some hr
      refine ⟨List.all_eq_true.2 fun x hx => ?_, ?_⟩
      · obtain ⟨q, hq⟩ := List.getElem?_of_mem hx
        obtain ⟨z, js, k1, k2, _⟩ := h2 q x hq
        exact res_one k2 (List.all_eq_true.1 hy.1 z (List.mem_of_getElem? k1))
      · have : (AV.agg cs).cells.length = (AV.agg r.1).cells.length := h1.symm
        rw [this]; exact hy.2
    | tup _ => exact absurd hy.1 (by simp [AV.fits])
    | fn _ => exact one rfl rfl rfl
    | ifc _ => exact one rfl rfl rfl
    | osl _ _ _ => exact one rfl rfl rfl
    | tosl _ _ => exact one rfl rfl rfl
    | gs _ _ => exact one rfl rfl rfl
    | dosl _ _ => exact one rfl rfl rfl
    | dgs _ _ => exact one rfl rfl rfl
    | ptr _ _ => exact one rfl rfl rfl
    | cptr => exact one rfl rfl rfl
    | nils => exact one rfl rfl (by cases nz <;> rfl)
    | nev => exact one rfl rfl (by cases nz <;> rfl)
    | emp => exact one rfl rfl (by cases nz <;> rfl)
    | leaf hl => exact hy

theorem elemsD_some [Syms] {H : Heap} {F : List Nat} {id : Nat} {g : GT} {K : List g.T → List Nat → Prop} {x : AV} (h : elemsD H F id g K x) : ∃ ps zs, elems H x = some ps ∧ ps.length = zs.1.length ∧ (∀ y ∈ ps, fitsN g.size y = true) ∧ dataOf H F id g x = some zs ∧ K zs.1 zs.2 := by
  have fit : ∀ {ps : List AV} {l : List g.T}, DRow g ps l → ∀ y ∈ ps, fitsN g.size y = true := fun h y hy => List.all_eq_true.1 h.fits y hy
  unfold elemsD at h
  split at h
  · rename_i g' xs
    obtain ⟨l, h1, h2⟩ := optC_some h
    obtain ⟨e, rfl⟩ := listOf_tl h1
    subst e
    exact ⟨_, (xs, []), rfl, encs_length _ _, fit (DRow.encs _ _), by simp only [dataOf, h1], h2⟩
  · rename_i s' b lo len
    split at h
    · rename_i n xs hb
      obtain ⟨h1, h2⟩ := must_and h
      have he : elems H (.osl s' b lo len) = some ((xs.drop lo).take len) := by simp only [elems, hb, h1, cond_true]
      cases ho : ((xs.drop lo).take len).any ownV with
      | false =>
        rw [ho] at h2
        obtain ⟨l, h3, h4, h5⟩ := decAllP_dec h2
        exact ⟨_, (l, []), he, h3.length, fit h3, by simp only [dataOf, he, rowData, ho, cond_false, h4], h5⟩
      | true =>
        rw [ho] at h2
        obtain ⟨p, h3, h4⟩ := resAllC_some _ _ h2
        obtain ⟨h5, h6⟩ := must_and h4
        obtain ⟨l, h7, h8, h9⟩ := decAllP_dec h6
        refine ⟨_, (l, p.2), he, by rw [← h7.length, (resAll_some (resAll_of h3)).1], fun y hy => ?_, by simp only [dataOf, he, rowData, ho, cond_true, h3, h5, h8], h9⟩
        -- a value fits if it does when taken whole
        obtain ⟨q, hq⟩ := List.getElem?_of_mem hy
        obtain ⟨y', is', k1, k2, _⟩ := (resAll_some (resAll_of h3)).2 q y hq
        exact res_fits k2 (fit h7 y' (List.mem_of_getElem? k1))
    · exact h.elim
  · rename_i g0 b n
    split at h
    · rename_i g' xs hb
      obtain ⟨h1, h2⟩ := h
      obtain ⟨l, h3, h4⟩ := optC_some h2
      obtain ⟨e, rfl⟩ := listOf_tl h3
      subst e
      have he : elems H (.gs g0 b n) = some (encs g' xs) := by simp only [elems, hb, h1, beq_same, cond_true]
      have hno : (encs g' xs).any ownV = false := by
        rw [List.any_eq_false]
        intro y hy
        obtain ⟨q, _, rfl⟩ := List.mem_map.1 hy
        cases g' <;> simp [enc, ownV, ownC]
      exact ⟨_, (xs, []), he, encs_length _ _, fit (DRow.encs g' xs), by simp only [dataOf, he, rowData, hno, cond_false, decAll_encs g' xs], h4⟩
    · exact h.elim
  · exact ⟨_, ([], []), rfl, rfl, (fun y hy => by cases hy), rfl, h⟩
  · exact ⟨_, ([], []), rfl, rfl, (fun y hy => by cases hy), rfl, h⟩
  · rename_i xs
    cases ho : xs.any ownV with
    | false =>
      rw [ho] at h
      obtain ⟨l, h3, h4, h5⟩ := decAllP_dec h
      exact ⟨_, (l, []), rfl, h3.length, fit h3, by simp only [dataOf, elems, rowData, ho, cond_false, h4], h5⟩
    | true => rw [ho] at h; exact (h : False).elim
  · exact h.elim

theorem appU_some {args : Array Operand} {ts : Array TypeId} (h : appU S un s id (resK k (aopK (.call ⟨.builtin .append, args, ts⟩) (S.env un) s id)) ts.toList k (opnds s.fr args.toList)) :
    ∃ v e rd fz, aop (S.env un) s id (.call ⟨.builtin .append, args, ts⟩) = .ok v e rd fz ∧ k v e rd fz := by
  let _ : Syms := ⟨fun _ => 0, fun _ => []⟩
  unfold appU at h
  split at h
  · rename_i a x hax
    cases un with
    | false => exact dflt_some h
    | true =>
      change appD S s id (resK k (aopK (.call ⟨.builtin .append, args, ts⟩) (S.env true) s id)) ts.toList k x a at h
      have nl : (a = .nils ∨ a = .emp) → appDN S id (resK k (aopK (.call ⟨.builtin .append, args, ts⟩) (S.env true) s id)) ts.toList k x → ∃ v e rd fz, aop (S.env true) s id (.call ⟨.builtin .append, args, ts⟩) = .ok v e rd fz ∧ k v e rd fz := by
        intro ha h
        cases x with
        | tl g xs =>
          unfold appDN at h
          simp only at h
          split at h
          · rename_i st xt rest hts
            replace h := must_and h
            obtain ⟨h1, h⟩ := h
            replace h := optC_some h
            obtain ⟨q, hq, h⟩ := h
            replace h := optC_some h
            obtain ⟨by_, hby, h⟩ := h
            replace h := must_and h
            obtain ⟨h5, h6, h7⟩ := h
            have e1 := beq_eq' h5
            have hap : appended S.T s.H q.2.2 xt (.tl g xs) = some (encs g xs) := by
              unfold srcKind at h1
              unfold appended
              split at h1
              · rename_i hk; rw [hk]; rfl
              · rename_i hk; rw [hk]; rfl
              · cases h1
            have hfit : (encs g xs).all (fitsN q.2.1) = true := by rw [e1]; exact (DRow.encs g xs).fits
            have hroom : room (encs g xs).length by_ = true := Nat.ble_eq_true_of_le (by rw [encs_length]; exact h6)
            refine ⟨_, _, _, _, ?_, h7⟩
            show tellB true id s.H s.F .append (opnds s.fr args.toList) (abuiltin S.T s.H s.F id .append ts.toList (opnds s.fr args.toList)) = _
            rw [hax]
            rcases ha with rfl | rfl
            · simp only [tellB, cond_true, abuiltin, aappend, hts, hq, hby, hap, hfit, tellApp, tellNil]
              cases xs with
              | nil => simp only [encs, List.map_nil, appendV, idOf]; rfl
              | cons x r => simp only [encs, List.map_cons] at hroom ⊢; simp only [appendV, hroom, cond_true, newArr, idOf]; rfl
            · simp only [tellB, cond_true, abuiltin, aappend, hts, hq, hby, hap, hfit, tellApp, tellNil]
              cases xs with
              | nil => simp only [encs, List.map_nil, appendV, idOf]; rfl
              | cons x r => simp only [encs, List.map_cons] at hroom ⊢; simp only [appendV, hroom, cond_true, newArr, idOf]; rfl
          · exact h.elim
        | _ => exact dflt_some h
      unfold appD at h
      split at h
      · rename_i g1 b n
        split at h
        · rename_i g l hb
          split at h
          · rename_i st xt rest hts
            obtain ⟨h1, h2⟩ := must_and h
            obtain ⟨q, hq, h3⟩ := optC_some h2
            obtain ⟨by_, hby, h4⟩ := optC_some h3
            obtain ⟨h5, h6⟩ := must_and h4
            obtain ⟨ps, zs, h7, h8, h8', h9, ⟨h10, h11⟩, h12⟩ := elemsD_some h6
            obtain ⟨ys, is⟩ := zs
            rw [Bool.and_eq_true] at h1 h5
            have e1 := beq_eq' h5.1
            have e2 := beq_eq' h5.2
            have hap : appended S.T s.H q.2.2 xt x = some ps := by
              have h1 := h1.1
              unfold srcKind at h1
              unfold appended
              split at h1
              · rename_i hk; rw [hk]; exact h7
              · rename_i hk; rw [hk]; exact h7
              · cases h1
            have hlen : ps.length = ys.length := h8
            have hfit : ps.all (fitsN q.2.1) = true := by rw [e1]; exact List.all_eq_true.2 h8'
            have hroom : room (n + ps.length) by_ = true := Nat.ble_eq_true_of_le (by
              have : (l ++ ys).length = n + ps.length := by rw [List.length_append, h10, hlen]
              rw [← this]; exact h11)
            refine ⟨_, _, _, _, ?_, h12⟩
            subst h10
            show tellB true id s.H s.F .append (opnds s.fr args.toList) (abuiltin S.T s.H s.F id .append ts.toList (opnds s.fr args.toList)) = _
            rw [hax]
            simp only [tellB, cond_true, abuiltin, aappend, hts, hq, hby, hap, hfit, tellApp, hb, h9]
            have hne : ps = [] → nested s.H x = false := fun e => by
              subst e
              unfold nested
              cases x <;> first | rfl | simp only [h7, List.any_nil]
            have his : ps = [] → is = [] := fun e => by
              subst e
              unfold dataOf at h9
              split at h9
              · split at h9
                · cases h9; rfl
                · cases h9
              · rw [h7] at h9
                simp only [rowData, List.any_nil, cond_false, decAll] at h9
                cases h9; rfl
            cases ps with
            | nil =>
              have : ys = [] := List.length_eq_zero_iff.1 hlen.symm
              subst this
              have hi := his rfl
              subst hi
              simp only [appendV, appendGs, hb, e1, e2, beq_same, h1.2, hroom, Bool.and_self, cond_true, List.append_nil, tellRow, hne rfl, cond_false]
            | cons y r =>
              simp only [appendV, appendGs, hb, e1, e2, beq_same, h1.2, hroom, Bool.and_self, cond_true, tellRow]
              rw [List.length_append, ← hlen]
          · exact h.elim
        · exact dflt_some h
      · exact nl (.inl rfl) h
      · exact nl (.inr rfl) h
      · exact dflt_some h
  · exact dflt_some h

theorem keysC_some {q : IntKind} {n : Int} {z : AV} {k : AV → Prop} : ∀ {es : List (AV × AV)} {i : Nat}, keysC q n z k es → ∃ o v, akey es (.int q n) i = some o ∧ found false z (some o) = some v ∧ k v
  | [], i, h => ⟨none, z, rfl, rfl, h⟩
  | (a, v) :: r, i, h => by
    unfold keysC at h
    split at h
    · rename_i h0; cases h0
    · rename_i q' m v' r' h0
      injection h0 with h0 h1
      injection h0 with h0 h2
      subst h0; subst h1; subst h2
      obtain ⟨h3, h4, h5⟩ := must_and h
      have h3 : q' = q := by simpa using h3
      subst h3
      rw [akey, if_pos rfl]
      by_cases e : m = n
      · rw [if_pos e]; exact ⟨_, _, rfl, rfl, h4 e⟩
      · rw [if_neg e]; exact keysC_some (h5 e)
    · exact h.elim

theorem lookC_some {t : TypeId} {x i : Operand} {ok : Bool} (h : lookC S s.H (resK k (aopK (.lookup t x i ok) (S.env un) s id)) t ok k (opnd s.fr x) (opnd s.fr i)) :
    ∃ v e rd fz, aop (S.env un) s id (.lookup t x i ok) = .ok v e rd fz ∧ k v e rd fz := by
  unfold lookC at h
  split at h
  · rename_i b q n hx hi
    split at h
    · split at h
      · rename_i ke hke
        obtain ⟨h1, h2⟩ := must_and h
        obtain ⟨z, hz, h3⟩ := optC_some h2
        split at h3
        · rename_i es hb
          obtain ⟨o, v, h4, h5, h6⟩ := keysC_some (i := 0) h3
          refine ⟨_, _, _, _, ?_, h6⟩
          simp only [aop, hx, hi, alookup, SE.env, hke, hz, mapOf, hb, h1, cond_true, h4, h5, rr, idOf]
        · exact h3.elim
      · exact h.elim
    · exact dflt_some h
  · exact dflt_some h

theorem makeD_some {t : TypeId} {l c : Operand} (h : makeD S un id (resK k (aopK (.makeSlice t l c) (S.env un) s id)) t k (opnd s.fr l) (opnd s.fr c)) : ∃ v e rd fz, aop (S.env un) s id (.makeSlice t l c) = .ok v e rd fz ∧ k v e rd fz := by
  unfold makeD at h
  split at h
  · rename_i k1 n k2 m hl hc
    cases un with
    | false => exact dflt_some h
    | true =>
      obtain ⟨e, he, h⟩ := optC_some h
      cases hz : isZ8 e.2.1 e.2.2 with
      | false => rw [hz] at h; exact dflt_some h
      | true =>
        rw [hz] at h
        obtain ⟨by_, hby, ⟨h2, h3, h4⟩, h5⟩ := optC_some h
        subst h3
        obtain ⟨j, rfl⟩ := Int.eq_ofNat_of_zero_le h2
        have hj : j ≤ 1099511627776 := by
          unfold roomP at h4
          have : (j : Int).toNat = j := rfl
          rw [this] at h4
          have := Nat.le_mul_of_pos_right j (show 0 < by_ + 1 by omega)
          omega
        have hzz : e.2.1 = 1 ∧ zRow true e.2.1 e.2.2 j = .tarr .u8 (List.replicate j 0) := by
          unfold isZ8 at hz
          split at hz
          · rename_i q hq
            have := beq_eq' hz
            refine ⟨this, ?_⟩
            unfold zRow
            rw [cond_true, hq]
            simp only [hz, cond_true]
          · cases hz
        refine ⟨_, _, _, _, ?_, h5⟩
        simp only [aop, opMakeSlice, hl, hc, SE.env, he, hby]
        rw [show j.ble j = true from Nat.ble_eq_true_of_le (Nat.le_refl _), show j.ble 1099511627776 = true from Nat.ble_eq_true_of_le hj, show room j by_ = true from Nat.ble_eq_true_of_le h4]
        simp only [Bool.and_self, cond_true, hzz.2, Int.toNat_natCast]
        rw [hzz.1]
  · exact dflt_some h

theorem opD_some {op : Op} (h : opD S un op s id k) : ∃ v e rd fz, aop (S.env un) s id op = .ok v e rd fz ∧ k v e rd fz := by
  unfold opD at h
  simp only [opndK_eq, opndsK_eq] at h
  split at h
  · exact idxC_some h
  · exact indexC_some h
  · exact loadC_some h
  · exact sliceC_some h
  · exact binC_some h
  · rename_i c a b
    unfold pickC at h
    split at h
    · rename_i q hq
      refine ⟨_, _, _, _, by simp only [aop, hq, opPick]; rfl, ?_⟩
      cases q
      · exact h.2 rfl
      · exact h.1 rfl
    · exact h.elim
  · exact strC_some h
  · exact callC_some h
  · exact appU_some h
  · exact lookC_some h
  · exact makeD_some h
  · exact dflt_some h

end

/-- What is told of functions that work on their caller's own rows holds. -/
def HookOK [Syms] (P : Program) (S : SE) : Prop :=
  ∀ f h, S.hook f = some h → ∀ args H F id k, h args H F id k → ∀ (c : Ctx) (m : Map) (w : World) (cargs : Array Value), SR c m H F w → CR (okB c.X m H F) w.heap m args cargs 0 → cargs.size = args.length →
    (∀ b, id ≤ b → b < id + STRIDE → m b = none) → CallsTo P f cargs w fun cv w' => ∃ v e rd fz m', k v e rd fz ∧ Done c m H F w id v e fz cv m' w'

/-- The contracts hold. -/
structure ConOK [Syms] (P : Program) (S : SE) : Prop where
  hook : HookOK P S
  con : ∀ f g args c r, S.con f = some g → g args = some c → preP c.pre → c.o = some r → ∀ (cx : Ctx) (m : Map) (w : World) (cargs : Array Value), SR cx m [] [] w → CR (okB cx.X m [] []) w.heap m args cargs 0 → cargs.size = args.length →
    (∀ b, m b = none) → CallsTo P f cargs w fun cv w' => ∃ m', After cx m [] [] w 0 (c.v r) (c.H r) [] WIDE cv m' w'

theorem unubD_le [Syms] : ∀ (d : Nat) (v : AV), VLe v (unubD d v)
  | 0, v => .refl v
  | d + 1, v => by
    have all : ∀ cs : List AV, CLe cs (cs.map (unubD d)) := fun cs => by
      induction cs with
      | nil => exact .nil
      | cons a cs ih => exact .cons (unubD_le d a) ih
    cases v with
    | ub b => exact bool_le b
    | agg cs => exact .agg (all cs)
    | tup cs => exact .tup (all cs)
    | _ => exact .refl _

theorem ansV_le [Syms] (un : Bool) (v : AV) : VLe v (ansV un v) := by
  cases un
  · exact .refl v
  · exact unubD_le 4 v

theorem conCall_ok [Syms] {P : Program} {S : SE} (un : Bool) (h : ConOK P S) : CallOK P (S.env un).call := by
  intro f args H F nx v H' F' nx' hc cx m w cargs hs hr hsz hnx
  have hc : conCall S un f args H F nx = .ok v H' F' nx' := hc
  unfold conCall at hc
  split at hc
  · split at hc
    · rename_i g hg
      split at hc
      · rename_i c hgc
        split at hc
        · rename_i r hp
          split at hc
          case isFalse => cases hc
          rename_i hpre
          cases hc
          refine (h.con f g args c r hg hgc hpre hp cx m w cargs hs hr hsz fun b => hnx b (Nat.zero_le b)).mono fun cv w' ⟨m', ha⟩ => ⟨m', ha.ext, ha.sr, ansV_le un (c.v r) _ _ _ _ ha.vr, ha.le, ha.dom⟩
        · cases hc
      · cases hc
    · cases hc
  · cases hc

end Go.Proofs.Ytmkmjjodiicmlaa.VS

/- Operations that turn rows of trees into rows of data: what they leave. Conditions: none. -/
namespace Go.Proofs.Ytmkmjjodiicmlaa.VS
variable [Syms]

omit [Syms] in
theorem Fr.get_not : ∀ (t : Fr) (k : Nat), t.has k = false → t.get k = und
  | .nil, k, _ => rfl
  | .nd v l r, k, hk => by
    rw [Fr.has] at hk
    rw [Fr.get_nd]
    split
    · rename_i h0; rw [if_pos h0] at hk; cases hk
    · rename_i h0
      rw [if_neg h0] at hk
      split
      · rename_i h1; rw [if_pos h1] at hk; exact Fr.get_not l _ hk
      · rename_i h1; rw [if_neg h1] at hk; exact Fr.get_not r _ hk

theorem At.le {n : Nat} {c : Ctx} {m : Map} {s : St} {a : Act} {w : World} (ha : At n c m s a w) {H1 : Heap} (h : HLe s.H H1) : At n c m { s with H := H1 } a w :=
  ⟨ha.sr.le h, fun t => (ha.fr t).mono (fun _ _ _ _ ho hh => ⟨okB_le h ho, hh⟩) (MLe.refl m), ha.has, ha.sz, ha.nx⟩

/-- Frames that tell the same. -/
structure FEq (fr fr1 : Fr) : Prop where
  to : ∀ k, VLe (fr.get k) (fr1.get k)
  from_ : ∀ k, VLe (fr1.get k) (fr.get k)
  has : ∀ k, fr1.has k = fr.has k
  keeps : ∀ k, ((∃ b, fr.get k = .bool b) ∨ fr.get k = .tup []) → fr1.get k = fr.get k

theorem FEq.refl (fr : Fr) : FEq fr fr := ⟨fun _ => .refl _, fun _ => .refl _, fun _ => rfl, fun _ _ => rfl⟩

/-- A frame that tells no more. -/
structure FLe (fr fr1 : Fr) : Prop where
  to : ∀ k, VLe (fr.get k) (fr1.get k)
  has : ∀ k, fr1.has k = fr.has k
  keeps : ∀ k, ((∃ b, fr.get k = .bool b) ∨ fr.get k = .tup []) → fr1.get k = fr.get k

theorem FEq.le {fr fr1 : Fr} (h : FEq fr fr1) : FLe fr fr1 := ⟨h.to, h.has, h.keeps⟩

/-- What an operation leaves, told better. -/
def OpStep (E : Env) (s : St) (id : Nat) (op : Op) (v : AV) (e : Eff) (fz : List Nat) : Prop :=
  ∃ H0 fr1 H1 v1 e1 rd1, (H0 = s.H ∨ ∃ g, H0 = hset s.H (Nat.succ id) (.tarr g [])) ∧ FLe s.fr fr1 ∧ HLe H0 H1 ∧ aop E ⟨fr1, H1, s.F, s.nx⟩ id op = .ok v1 e1 rd1 fz ∧ HLe (happ H1 e1) (happ s.H e) ∧ VLe v1 v

theorem OpStep.heap {E : Env} {s : St} {id : Nat} {op : Op} {v : AV} {e : Eff} {fz : List Nat} (h : ∃ H1 v1 e1 rd1, HLe s.H H1 ∧ aop E { s with H := H1 } id op = .ok v1 e1 rd1 fz ∧ HLe (happ H1 e1) (happ s.H e) ∧ VLe v1 v) : OpStep E s id op v e fz := by
  obtain ⟨H1, v1, e1, rd1, h1, h2, h3, h4⟩ := h
  exact ⟨s.H, s.fr, H1, v1, e1, rd1, .inl rfl, (FEq.refl _).le, h1, h2, h3, h4⟩

theorem OpStep.same {E : Env} {s : St} {id : Nat} {op : Op} {v : AV} {e : Eff} {rd fz : List Nat} (h : aop E s id op = .ok v e rd fz) : OpStep E s id op v e fz :=
  .heap ⟨s.H, v, e, rd, .refl _, h, .refl _, .refl _⟩

theorem OpStep.up {E : Env} {s : St} {id : Nat} {op : Op} {v v' : AV} {e : Eff} {fz : List Nat} (h : OpStep E s id op v e fz) (hv : VLe v v') : OpStep E s id op v' e fz := by
  obtain ⟨H0, fr1, H1, v1, e1, rd1, hz, h0, h1, h2, h3, h4⟩ := h
  exact ⟨H0, fr1, H1, v1, e1, rd1, hz, h0, h1, h2, h3, h4.trans hv⟩

omit [Syms] in
theorem Fr.get_map {f : AV → AV} (hf : f und = und) : ∀ (t : Fr) (k : Nat), (t.map f).get k = f (t.get k)
  | .nil, k => hf.symm
  | .nd v l r, k => by
    rw [Fr.map, Fr.get_nd, Fr.get_nd]
    split
    · rfl
    · split
      · exact Fr.get_map hf l _
      · exact Fr.get_map hf r _

omit [Syms] in
theorem Fr.has_map {f : AV → AV} : ∀ (t : Fr) (k : Nat), (t.map f).has k = t.has k
  | .nil, k => rfl
  | .nd v l r, k => by
    rw [Fr.map, Fr.has, Fr.has]
    split
    · rfl
    · split
      · exact Fr.has_map l _
      · exact Fr.has_map r _

theorem unub_le (v : AV) : VLe v (unub v) := by cases v <;> first | exact bool_le _ | exact .refl _
theorem le_unub (v : AV) : VLe (unub v) v := by cases v <;> first | exact ub_le _ | exact .refl _

theorem FEq.unub (fr : Fr) : FEq fr (fr.map unub) :=
  ⟨fun k => by rw [Fr.get_map rfl]; exact unub_le _, fun k => by rw [Fr.get_map rfl]; exact le_unub _, fun k => Fr.has_map fr k, fun k h => by
    rw [Fr.get_map rfl]
    rcases h with ⟨b, h⟩ | h <;> rw [h] <;> rfl⟩

omit [Syms] in
theorem unub_ofV1 (v : Value) : Go.Proofs.Ytmkmjjodiicmlaa.VS.unub (ofV1 v) = ofV1 v := by unfold ofV1; split <;> rfl
omit [Syms] in
theorem opnd_unub (fr : Fr) (x : Operand) : opnd (fr.map Go.Proofs.Ytmkmjjodiicmlaa.VS.unub) x = Go.Proofs.Ytmkmjjodiicmlaa.VS.unub (opnd fr x) := by
  cases x with
  | tmp t => exact Fr.get_map rfl fr t
  | const v =>
    show ofV v = _
    cases v <;> first | rfl | exact (unub_ofV1 _).symm
  | func f => rfl
  | global g => rfl

section
variable {S : SE} {s : St} {id : Nat} {k : Kont}

/-- The heap but for rows of data that are told as rows of trees. -/
def HArr (H H1 : Heap) : Prop := ∀ b, hget H1 b = hget H b ∨ ∃ t xs, hget H b = some (.tarr t xs) ∧ hget H1 b = some (.arr t.size (encs t xs))

theorem elemsC_some {H H1 : Heap} (hH : HArr H H1) {g : GT} {K : List g.T → Prop} {x : AV} (h : elemsC H g K x) : ∃ ps ys, elems H1 x = some ps ∧ DRow g ps ys ∧ K ys := by
  unfold elemsC at h
  split at h
  · rename_i g' xs
    obtain ⟨l, h1, h2⟩ := optC_some h
    obtain ⟨e, rfl⟩ := listOf_tl h1
    subst e
    exact ⟨_, _, rfl, DRow.encs _ _, h2⟩
  · rename_i s' b lo len
    split at h
    · rename_i n xs hb
      obtain ⟨h1, h2⟩ := must_and h
      have h1 := ble_le h1
      obtain ⟨l, h3, h4⟩ := decAllP_some h2
      have : hget H1 b = some (.arr n xs) := by
        rcases hH b with h5 | ⟨t, q, h5, h6⟩
        · rw [h5, hb]
        · rw [hb] at h5; cases h5
      refine ⟨_, _, ?_, h3, h4⟩
      simp only [elems, this, show (lo + len).ble xs.length = true from Nat.ble_eq_true_of_le h1, cond_true]
    · rename_i g' xs hb
      obtain ⟨h1, h2⟩ := h
      obtain ⟨l, h3, h4⟩ := optC_some h2
      obtain ⟨e, rfl⟩ := listOf_tl h3
      subst e
      refine ⟨((encs g' xs).drop lo).take len, _, ?_, ((DRow.encs g' xs).drop lo).take len, h4⟩
      rcases hH b with h5 | ⟨t, q, h5, h6⟩
      · simp only [elems, h5, hb, show (lo + len).ble xs.length = true from Nat.ble_eq_true_of_le h1, cond_true]
      · rw [hb] at h5; cases h5
        simp only [elems, h6, encs_length, show (lo + len).ble xs.length = true from Nat.ble_eq_true_of_le h1, cond_true]
    · exact h.elim
  · rename_i g0 b n
    split at h
    · rename_i g' xs hb
      obtain ⟨h1, h2⟩ := h
      obtain ⟨l, h3, h4⟩ := optC_some h2
      obtain ⟨e, rfl⟩ := listOf_tl h3
      subst e
      refine ⟨encs g' xs, _, ?_, DRow.encs g' xs, h4⟩
      rcases hH b with h5 | ⟨t, q, h5, h6⟩
      · simp only [elems, h5, hb, h1, beq_same, cond_true]
      · rw [hb] at h5; cases h5
        simp only [elems, h6, encs_length, h1, beq_same, cond_true]
    · exact h.elim
  · exact ⟨_, _, rfl, .nil, h⟩
  · exact ⟨_, _, rfl, .nil, h⟩
  · exact ⟨_, _, rfl, .nil, h⟩
  · obtain ⟨l, h3, h4⟩ := decAllP_some h
    exact ⟨_, _, rfl, h3, h4⟩
  · rename_i l
    split at h
    · exact ⟨_, _, rfl, DRow.encs .u8 l, h⟩
    · exact h.elim
  · exact h.elim

omit [Syms] in
theorem room_of {n by_ : Nat} (h : roomP n by_) : room n by_ = true := Nat.ble_eq_true_of_le h

omit [Syms] in
theorem row_nil {g : GT} {ps : List AV} {ys : List g.T} (h : ps.length = ys.length) : ys = [] → ps = [] := fun e => by subst e; exact List.length_eq_zero_iff.1 h

omit [Syms] in
theorem HArr.refl (H : Heap) : HArr H H := fun _ => .inl rfl

omit [Syms] in
theorem HArr.put {H : Heap} {b : Nat} {g : GT} {xs : List g.T} (hb : hget H b = some (.tarr g xs)) : HArr H (hset H b (.arr g.size (encs g xs))) := fun x => by
  rw [hget_hset]
  by_cases e : b = x
  · subst e; rw [if_pos rfl]; exact .inr ⟨g, xs, hb, rfl⟩
  · rw [if_neg e]; exact .inl rfl

omit [Syms] in
theorem srcKind_elems {T : Tabs} {H : Heap} {z x : AV} {xt : TypeId} (h : srcKind T xt = true) : appended T H z xt x = elems H x := by
  unfold srcKind at h
  unfold appended
  split at h
  · rename_i hk; rw [hk]
  · rename_i e hk; rw [hk]
  · cases h

theorem appNew_some {H : Heap} {F : List Nat} {by_ : Nat} {g : GT} {base : AV} (hbase : base = .nils ∨ base = .emp) {ps : List AV} {ys : List g.T} (hr : DRow g ps ys) {rd : List Nat} (h : appNew id by_ g k base ys) :
    ∃ v e rd' fz v1 e1 rd1, k v e rd' fz ∧ appendV H F id g.size by_ rd base ps = .ok v1 e1 rd1 fz ∧ (∀ H0, HLe H H0 → HLe (happ H e1) (happ H0 e)) ∧ VLe v1 v := by
  cases hr with
  | nil =>
    rcases hbase with rfl | rfl <;> exact ⟨_, _, _, _, _, _, _, h.1 rfl, rfl, fun _ h => h, .refl _⟩
  | @cons a x ps xs h1 h2 =>
    obtain ⟨h3, h4⟩ := h.2 (by simp)
    have hl : (a :: ps).length = (x :: xs).length := by simp [h2.length]
    refine ⟨_, _, _, _, .osl g.size id 0 (x :: xs).length, [(id, some (.arr g.size (a :: ps)))], rd, h4, ?_, fun H0 hH => hH.set (DRow.obj (.cons h1 h2)) id, .refl _⟩
    rcases hbase with rfl | rfl <;> simp only [appendV, hl, room_of h3, cond_true, newArr]

theorem appOld_some {H : Heap} {F : List Nat} {by_ b lo len : Nat} {g : GT} {xs ps : List AV} {l ys : List g.T} (hb : hlive H F b = some (.arr g.size xs)) (hx : DRow g xs l) (hr : DRow g ps ys) {rd : List Nat} (h : appOld id by_ g k b lo len l ys) :
    ∃ v e rd' fz v1 e1 rd1, k v e rd' fz ∧ appendV H F id g.size by_ rd (.osl g.size b lo len) ps = .ok v1 e1 rd1 fz ∧ (∀ H0, HLe H H0 → HLe (happ H e1) (happ H0 e)) ∧ VLe v1 v := by
  obtain ⟨⟨rfl, rfl⟩, h1, h2⟩ := h
  cases hr with
  | nil => exact ⟨_, _, _, _, _, _, _, h1 rfl, rfl, fun _ h => h, .refl _⟩
  | @cons a y ps ys q1 q2 =>
    obtain ⟨h3, h4⟩ := h2 (by simp)
    have hrow : DRow g (xs ++ a :: ps) (l ++ y :: ys) := hx.append (.cons q1 q2)
    have hlx := hx.length
    have hlp := q2.length
    refine ⟨_, _, _, _, .osl g.size id 0 (l ++ y :: ys).length, [(id, some (.arr g.size (xs ++ a :: ps))), (b, none)], rd, h4, ?_, fun H0 hH => (hH.set hrow.obj id).del b, .refl _⟩
    simp only [appendV, appendTo, hb, beq_same, Bool.and_self, Bool.true_and]
    have e1 : (0 + l.length).ble xs.length = true := Nat.ble_eq_true_of_le (by omega)
    have e2 : room (l.length + (a :: ps).length) by_ = true := by
      have := room_of h3
      rw [List.length_append, List.length_cons] at this
      rw [List.length_cons, hlp]; exact this
    have e3 : (0 + l.length + (a :: ps).length).ble xs.length = false := by
      cases hq : (0 + l.length + (a :: ps).length).ble xs.length with
      | false => rfl
      | true =>
        have := Nat.le_of_ble_eq_true hq
        simp only [List.length_cons] at this
        omega
    rw [e1, e2, e3]
    simp only [Bool.and_self, cond_true, cond_false, newArr, List.drop_zero]
    rw [← hlx, List.take_length]
    congr 2
    rw [hlx, List.length_append, List.length_cons, List.length_cons, hlp]

theorem gs_le {g g' : GT} {b n n' : Nat} (h : g.size = g'.size) (hn : n = n') : VLe (.gs g b n) (.gs g' b n') := fun ok hh m v hv => by
  subst hn
  cases hv with
  | gsE => exact .gsE
  | gs hv => exact .gs (by rw [← h]; exact hv)

/-- Onto a row that may be none. -/
theorem appGs_some {H : Heap} {F : List Nat} {by_ b n : Nat} {g g1 : GT} {ps : List AV} {l ys : List g.T} (hb : hlive H F b = some (.tarr g l)) (h1 : g1.size = g.size) (hid : b.beq id = false) (hr : DRow g ps ys) {rd : List Nat} (h : appGs id by_ g k b n l ys) :
    ∃ v e rd' fz v1 e1 rd1, k v e rd' fz ∧ appendV H F id g.size by_ rd (.gs g1 b n) ps = .ok v1 e1 rd1 fz ∧ (∀ H0, HLe H H0 → HLe (happ H e1) (happ H0 e)) ∧ VLe v1 v := by
  obtain ⟨⟨h2, h3⟩, h4⟩ := h
  have hl := hr.length
  have hroom : room (n + ps.length) by_ = true := by
    have := room_of h3
    rw [List.length_append] at this
    rw [h2, hl]; exact this
  have hv : ∀ ys', appendV H F id g.size by_ rd (.gs g1 b n) ys' = appendGs H F id g.size by_ rd ys' g1 b n := fun ys' => by cases ys' <;> rfl
  have hc : (n.beq l.length && g1.size.beq g.size && g.size.beq g.size && room (n + ps.length) by_ && !(b.beq id)) = true := by
    rw [h2, beq_same, h1, beq_same, ← h2, hroom, hid]; rfl
  cases hr with
  | nil =>
    refine ⟨_, _, _, _, .gs g1 id n, [(id, some (.tarr g l)), (b, none)], rd, h4, ?_, fun H0 hH => ?_, gs_le h1 (by rw [List.append_nil]; exact h2)⟩
    · rw [hv, appendGs, hb]
      simp only [hc, cond_true]
    · rw [List.append_nil]
      exact (hH.set (ObjLe.refl _) id).del b
  | @cons a y ps ys q1 q2 =>
    refine ⟨_, _, _, _, .gs g1 id (n + (a :: ps).length), [(id, some (.arr g.size (encs g l ++ a :: ps))), (b, none)], rd, h4, ?_, fun H0 hH => ?_, gs_le h1 (by rw [List.length_append, h2, hl])⟩
    · rw [hv, appendGs, hb]
      simp only [hc, cond_true]
    · exact (hH.set ((DRow.encs g l).append (.cons q1 q2)).obj id).del b

/-- Onto none. -/
theorem appNil_step {ts : Array TypeId} {i : Nat} {x : Operand} {st xt : TypeId} {r : List TypeId} {e : TypeId × Nat × AV} {by_ : Nat} {g : GT} (hts : ts.toList = st :: xt :: r) (hsk : srcKind S.T xt = true) (he : elemT S.T st = some e) (hby : bytesOf S.T e.1 = some by_) (hsz : e.2.1 = g.size)
    (hi : s.fr.get i = .nils ∨ s.fr.get i = .emp) (hap : (apart2 (.tmp i) x && !(isIn (Nat.succ id) s.F) && !(isIn (Nat.succ id) (idOf (opnd s.fr x)))) = true) {ps : List AV} {ys : List g.T} (hps : elems s.H (opnd s.fr x) = some ps) (hr : DRow g ps ys) (h : appNil id by_ g k ys) :
    ∃ v e rd fz, OpStep (S.env false) s id (.call ⟨.builtin .append, #[.tmp i, x], ts⟩) v e fz ∧ k v e rd fz := by
  obtain ⟨h3, h4⟩ := h
  simp only [Bool.and_eq_true] at hap
  obtain ⟨⟨hap, hF⟩, hX⟩ := hap
  have hF : isIn (Nat.succ id) s.F = false := by simpa using hF
  have hX : isIn (Nat.succ id) (idOf (opnd s.fr x)) = false := by simpa using hX
  have hhas : s.fr.has i = true := by
    cases hh : s.fr.has i with
    | true => rfl
    | false => rw [Fr.get_not _ _ hh] at hi; rcases hi with hi | hi <;> cases hi
  have hgt : ∀ j, (s.fr.set i (.gs g (Nat.succ id) 0)).get j = if j = i then .gs g (Nat.succ id) 0 else s.fr.get j := fun j => Fr.get_set s.fr i j _ hhas
  have hxo : opnd (s.fr.set i (.gs g (Nat.succ id) 0)) x = opnd s.fr x := by
    cases x with
    | tmp j =>
      have hne : ¬ j = i := fun e => by subst e; simp [apart2] at hap
      show (s.fr.set i (.gs g (Nat.succ id) 0)).get j = s.fr.get j
      rw [hgt, if_neg hne]
    | _ => rfl
  have hb : hlive (hset s.H (Nat.succ id) (.tarr g [])) s.F (Nat.succ id) = some (.tarr g []) := by
    unfold hlive; rw [hF, cond_false, hget_hset, if_pos rfl]
  have hel : elems (hset s.H (Nat.succ id) (.tarr g [])) (opnd s.fr x) = some ps := by
    rw [← hps]
    refine elems_foot fun b hb' => ?_
    rw [hget_hset, if_neg]
    intro e
    subst e
    rw [(isIn_iff _ _).2 hb'] at hX; cases hX
  have hne : (Nat.succ id).beq id = false := by
    cases hq : (Nat.succ id).beq id with
    | false => rfl
    | true => have := beq_eq' hq; omega
  obtain ⟨v, e', rd, fz, v1, e1, rd1, ⟨q1, q2, q3⟩, k2, k3, k4⟩ := appGs_some (k := fun v e rd fz => v = .gs g id ys.length ∧ e = [(id, some (.tarr g ys)), (Nat.succ id, none)] ∧ fz = []) (id := id) (by_ := by_) (n := 0) (l := []) (g1 := g) (rd := idOf (.gs g (Nat.succ id) 0) ++ idOf (opnd s.fr x)) hb rfl hne hr ⟨⟨rfl, h3⟩, rfl, rfl, rfl⟩
  subst q1; subst q2; subst q3
  refine ⟨_, _, _, _, ⟨_, s.fr.set i (.gs g (Nat.succ id) 0), _, v1, e1, rd1, .inr ⟨g, rfl⟩, ⟨fun j => ?_, fun j => Fr.has_set _ _ _ _, fun j hj => ?_⟩, .refl _, ?_, ?_, k4⟩, h4⟩
  · rw [hgt]
    by_cases e : j = i
    · subst e
      rw [if_pos rfl]
      intro ok hh m v hv
      rcases hi with hi | hi <;> rw [hi] at hv <;> cases hv <;> exact .gsE
    · rw [if_neg e]; exact .refl _
  · rw [hgt, if_neg]
    intro e
    subst e
    rcases hi with hi | hi <;> rw [hi] at hj <;> rcases hj with ⟨_, hj⟩ | hj <;> cases hj
  · have hoi : opnd (s.fr.set i (.gs g (Nat.succ id) 0)) (.tmp i) = .gs g (Nat.succ id) 0 := by
      show (s.fr.set i (.gs g (Nat.succ id) 0)).get i = _
      rw [hgt, if_pos rfl]
    simp only [aop, opCall, opnds, abuiltin, aappend, SE.env, hts, he, hby, srcKind_elems hsk, hxo, hoi, hel]
    rw [hsz, hr.fits, cond_true]
    exact k2
  · have := k3 _ (HLe.refl (hset s.H (Nat.succ id) (.tarr g [])))
    refine HLe.trans this fun b => ?_
    show (hget (hdel (hset (hset s.H (Nat.succ id) (.tarr g [])) id (.tarr g ys)) (Nat.succ id)) b = none ∧ hget (hdel (hset s.H id (.tarr g ys)) (Nat.succ id)) b = none) ∨ ∃ o o1, hget (hdel (hset (hset s.H (Nat.succ id) (.tarr g [])) id (.tarr g ys)) (Nat.succ id)) b = some o ∧ hget (hdel (hset s.H id (.tarr g ys)) (Nat.succ id)) b = some o1 ∧ ObjLe o o1
    have e0 : hget (hdel (hset (hset s.H (Nat.succ id) (.tarr g [])) id (.tarr g ys)) (Nat.succ id)) b = hget (hdel (hset s.H id (.tarr g ys)) (Nat.succ id)) b := by
      simp only [hget_hdel, hget_hset]
      by_cases e : Nat.succ id = b
      · rw [if_pos e, if_pos e]
      · simp only [if_neg e]
    rw [e0]
    cases hget (hdel (hset s.H id (.tarr g ys)) (Nat.succ id)) b with
    | none => exact .inl ⟨rfl, rfl⟩
    | some o => exact .inr ⟨o, o, rfl, rfl, .refl _⟩

theorem appC_some {ts : Array TypeId} {a x : Operand} (h : appC S s id ts.toList k (apart2 a x) (opnd s.fr a) (opnd s.fr x)) :
    ∃ v e rd fz, OpStep (S.env false) s id (.call ⟨.builtin .append, #[a, x], ts⟩) v e fz ∧ k v e rd fz := by
  unfold appC at h
  split at h
  · rename_i st xt r hts
    obtain ⟨hsk, h⟩ := must_and h
    obtain ⟨e, he, h⟩ := optC_some h
    obtain ⟨by_, hby, h⟩ := optC_some h
    obtain ⟨g, hg, h⟩ := optC_some h
    obtain ⟨hsz, h⟩ := must_and h
    have hsz := beq_eq' hsz
    -- by what the append makes over some heap
    have fin : ∀ {H1 : Heap} {ps : List AV} {ys : List g.T}, HLe s.H H1 → HLe H1 s.H → elems H1 (opnd s.fr x) = some ps → DRow g ps ys →
        (∃ v e' rd' fz v1 e1 rd1, k v e' rd' fz ∧ appendV H1 s.F id g.size by_ (idOf (opnd s.fr a) ++ idOf (opnd s.fr x)) (opnd s.fr a) ps = .ok v1 e1 rd1 fz ∧ (∀ H0, HLe H1 H0 → HLe (happ H1 e1) (happ H0 e')) ∧ VLe v1 v) →
        ∃ v e rd fz, OpStep (S.env false) s id (.call ⟨.builtin .append, #[a, x], ts⟩) v e fz ∧ k v e rd fz := by
      intro H1 ps ys hH1 hH2 hps hr ⟨v, e', rd', fz, v1, e1, rd1, k1, k2, k3, k4⟩
      refine ⟨v, e', rd', fz, .heap ⟨H1, v1, e1, rd1, hH1, ?_, k3 _ hH2, k4⟩, k1⟩
      simp only [aop, opCall, opnds, abuiltin, aappend, SE.env, hts, he, hby, srcKind_elems hsk, hps]
      rw [hsz, hr.fits, cond_true]
      exact k2
    generalize ha : opnd s.fr a = base at h
    -- which base
    have hel : ∀ {H1 : Heap}, HArr s.H H1 → ∃ ps ys, elems H1 (opnd s.fr x) = some ps ∧ DRow g ps ys ∧ appBase s id by_ g k (apart2 a x && !(isIn (Nat.succ id) s.F) && !(isIn (Nat.succ id) (idOf (opnd s.fr x)))) ys base := fun hH => elemsC_some hH h
    unfold appBase at hel
    split at hel
    · obtain ⟨ps, ys, k1, k2, k3⟩ := hel (HArr.refl _)
      cases hap : (apart2 a x && !(isIn (Nat.succ id) s.F) && !(isIn (Nat.succ id) (idOf (opnd s.fr x)))) with
      | false =>
        rw [hap] at k3
        exact fin (HLe.refl _) (HLe.refl _) k1 k2 (by rw [ha]; exact appNew_some (.inl rfl) k2 k3)
      | true =>
        rw [hap] at k3
        cases a with
        | tmp i => exact appNil_step hts hsk he hby hsz (.inl ha) hap k1 k2 k3
        | _ => simp [apart2] at hap
    · obtain ⟨ps, ys, k1, k2, k3⟩ := hel (HArr.refl _)
      cases hap : (apart2 a x && !(isIn (Nat.succ id) s.F) && !(isIn (Nat.succ id) (idOf (opnd s.fr x)))) with
      | false =>
        rw [hap] at k3
        exact fin (HLe.refl _) (HLe.refl _) k1 k2 (by rw [ha]; exact appNew_some (.inr rfl) k2 k3)
      | true =>
        rw [hap] at k3
        cases a with
        | tmp i => exact appNil_step hts hsk he hby hsz (.inr ha) hap k1 k2 k3
        | _ => simp [apart2] at hap
    · rename_i g1 b n
      cases hl : hlive s.H s.F b with
      | none =>
        obtain ⟨ps, ys, k1, k2, k3⟩ := hel (HArr.refl _)
        rw [hl] at k3
        exact (must_and k3).2.elim
      | some o =>
        obtain ⟨ps, ys, k1, k2, k3⟩ := hel (HArr.refl _)
        rw [hl] at k3
        cases o with
        | tarr g' l0 =>
          obtain ⟨k4, k5⟩ := must_and k3
          obtain ⟨l, k8, k9⟩ := optC_some k5
          obtain ⟨e', rfl⟩ := listOf_tl k8
          subst e'
          simp only [Bool.and_eq_true] at k4
          exact fin (HLe.refl _) (HLe.refl _) k1 k2 (by rw [ha]; exact appGs_some hl (beq_eq' k4.1) (by simpa using k4.2) k2 k9)
        | _ => exact (must_and k3).2.elim
    · rename_i n b lo len
      cases hl : hlive s.H s.F b with
      | none =>
        obtain ⟨ps, ys, k1, k2, k3⟩ := hel (HArr.refl _)
        rw [hl] at k3
        exact (must_and k3).2.elim
      | some o =>
        rw [hl] at hel
        obtain ⟨hb, hbF⟩ := hlive_some hl
        cases o with
        | cells _ =>
          obtain ⟨ps, ys, k1, k2, k3⟩ := hel (HArr.refl _)
          exact (must_and k3).2.elim
        | map _ =>
          obtain ⟨ps, ys, k1, k2, k3⟩ := hel (HArr.refl _)
          exact (must_and k3).2.elim
        | deep _ _ =>
          obtain ⟨ps, ys, k1, k2, k3⟩ := hel (HArr.refl _)
          exact (must_and k3).2.elim
        | arr m xs =>
          obtain ⟨ps, ys, k1, k2, k3⟩ := hel (HArr.refl _)
          obtain ⟨k4, k5⟩ := must_and k3
          obtain ⟨k6, k7⟩ := must_and k5
          obtain ⟨l, k8, k9⟩ := optC_some k7
          have hn := beq_eq' k4
          have hm := beq_eq' k6
          subst hn; subst hm
          exact fin (HLe.refl _) (HLe.refl _) k1 k2 (by rw [ha]; exact appOld_some hl (decAll_row (dec_dec g) k8) k2 k9)
        | tarr g' l0 =>
          have hH := HArr.put hb
          obtain ⟨ps, ys, k1, k2, k3⟩ := hel hH
          obtain ⟨k4, k5⟩ := must_and k3
          obtain ⟨l, k8, k9⟩ := optC_some k5
          obtain ⟨e', rfl⟩ := listOf_tl k8
          subst e'
          have hn := beq_eq' k4
          subst hn
          refine fin (HLe.put hb (tarr_le g' l0)) (HLe.back hb (arr_le g' l0)) k1 k2 (by
            rw [ha]
            refine appOld_some ?_ (DRow.encs g' l0) k2 k9
            unfold hlive
            rw [(isIn_false b s.F).2 hbF, cond_false, hget_hset, if_pos rfl])
    · obtain ⟨ps, ys, k1, k2, k3⟩ := hel (HArr.refl _)
      exact k3.elim
  · exact h.elim

theorem DRow.set {g : GT} {ps : List AV} {xs : List g.T} (h : DRow g ps xs) {a : AV} {x : g.T} (hx : Dec1 g a x) : ∀ i, DRow g (ps.set i a) (xs.set i x) := by
  induction h with
  | nil => intro i; exact .nil
  | cons h1 h2 ih =>
    intro i
    cases i with
    | zero => exact .cons hx h2
    | succ i => exact .cons h1 (ih i)

theorem storeC_some {t : TypeId} {a x : Operand} (h : storeC S s (opD S false (.store t a x) s id k) t k (opnd s.fr x) (opnd s.fr a)) : ∃ v e rd fz, OpStep (S.env false) s id (.store t a x) v e fz ∧ k v e rd fz := by
  unfold storeC at h
  split at h
  · rename_i b i off ha
    split at h
    · rename_i g xs hl
      obtain ⟨hb, hbF⟩ := hlive_some hl
      unfold storeE at h
      obtain ⟨n, h1, h⟩ := optC_some h
      obtain ⟨h2, h3, h⟩ := must_and h
      obtain ⟨y, h4, h⟩ := optC_some h
      obtain ⟨z, h5, h⟩ := decP_some h
      refine ⟨_, _, _, _, .heap ⟨hset s.H b (.arr g.size (encs g xs)), und, [(b, some (.arr g.size ((encs g xs).set i y)))], [b], HLe.put hb (tarr_le g xs), ?_, ?_, .refl _⟩, h⟩
      · simp only [aop, ha, astore, SE.env, h1, h2, cond_true, astoreE]
        have e1 : hlive (hset s.H b (.arr g.size (encs g xs))) s.F b = some (.arr g.size (encs g xs)) := by
          unfold hlive
          rw [(isIn_false b s.F).2 hbF, cond_false, hget_hset, if_pos rfl]
        have e2 : (encs g xs)[i]? = some (enc g (xs.getD i g.nought)) := by simp only [encs, List.getElem?_map, getD_some g.nought h3, Option.map_some]
        simp only [e1, e2, h4, rw, idOf]
      · have hrow := (DRow.encs g xs).set h5 i
        exact (HLe.back hb (arr_le g xs)).set hrow.obj b
    · obtain ⟨v, e, rd, fz, h1, h2⟩ := opD_some h
      exact ⟨v, e, rd, fz, .same h1, h2⟩
  · obtain ⟨v, e, rd, fz, h1, h2⟩ := opD_some h
    exact ⟨v, e, rd, fz, .same h1, h2⟩

theorem bytesC_some {a b : TypeId} {x : Operand} (h : bytesC S id (opD S false (.convert a b x) s id k) a b k (opnd s.fr x)) : ∃ v e rd fz, OpStep (S.env false) s id (.convert a b x) v e fz ∧ k v e rd fz := by
  unfold bytesC at h
  split at h
  · rename_i l hx
    split at h
    · rename_i e hd hs
      obtain ⟨h1, h2, h3⟩ := must_and h
      refine ⟨_, [(id, some (.tarr .u8 l))], _, _, .heap ⟨s.H, .osl 1 id 0 l.length, [(id, some (.arr 1 (l.map byteV)))], [], .refl _, ?_, (HLe.refl s.H).set (DRow.encs .u8 l).obj id, .refl _⟩, h3⟩
      simp only [aop, hx, aconvert, SE.env, hd, bytesOfStr, hs, ofStr, h1, show l.length.ble 1099511627776 = true from Nat.ble_eq_true_of_le h2, Bool.and_self, cond_true]
    · obtain ⟨v, e, rd, fz, h1, h2⟩ := opD_some h
      exact ⟨v, e, rd, fz, .same h1, h2⟩
  · obtain ⟨v, e, rd, fz, h1, h2⟩ := opD_some h
    exact ⟨v, e, rd, fz, .same h1, h2⟩

theorem makeC_some {t : TypeId} {l c : Operand} (h : makeC S id t k (opnd s.fr l) (opnd s.fr c)) : ∃ v e rd fz, OpStep (S.env false) s id (.makeSlice t l c) v e fz ∧ k v e rd fz := by
  unfold makeC at h
  split at h
  · rename_i k1 n k2 m hl hc
    obtain ⟨e, he, h⟩ := optC_some h
    obtain ⟨by_, hby, h⟩ := optC_some h
    obtain ⟨g, hg, h⟩ := optC_some h
    obtain ⟨z, hz, h⟩ := optC_some h
    obtain ⟨h1, ⟨h2, h3, h4⟩, h5⟩ := must_and h
    subst h3
    obtain ⟨j, rfl⟩ := Int.eq_ofNat_of_zero_le h2
    have hsz := beq_eq' h1
    have hrow := DRow.replicate (dec_dec g _ _ hz) j
    refine ⟨_, [(id, some (.tarr g (List.replicate j z)))], _, _, .heap ⟨s.H, .osl g.size id 0 j, [(id, some (.arr g.size (List.replicate j e.2.2)))], [], .refl _, ?_, (HLe.refl s.H).set hrow.obj id, .refl _⟩, h5⟩
    have hj : j ≤ 1099511627776 := by
      unfold roomP at h4
      have : (j : Int).toNat = j := rfl
      rw [this] at h4
      have := Nat.le_mul_of_pos_right j (show 0 < by_ + 1 by omega)
      omega
    simp only [aop, opMakeSlice, hl, hc, SE.env, he, hby]
    rw [show j.ble j = true from Nat.ble_eq_true_of_le (Nat.le_refl _), show j.ble 1099511627776 = true from Nat.ble_eq_true_of_le hj, show room j by_ = true from room_of h4]
    simp only [Bool.and_self, cond_true, hsz]
    rfl
  · exact h.elim

theorem pickU_some {c a b : Operand} (h : pickU k (opnd s.fr a) (opnd s.fr b) (opnd s.fr c)) : ∃ v e rd fz, OpStep (S.env false) s id (.pick c a b) v e fz ∧ k v e rd fz := by
  unfold pickU at h
  split at h
  · rename_i q hq
    have hop : aop (S.env false) s id (.pick c a b) = rv (bif q then opnd s.fr a else opnd s.fr b) := by simp only [aop, hq, opPick]
    cases q
    · exact ⟨_, _, _, _, .same hop, h⟩
    · exact ⟨_, _, _, _, .same hop, h⟩
  · rename_i q hq
    have hop : ∀ b', q = b' → OpStep (S.env false) s id (.pick c a b) (bif b' then opnd s.fr a else opnd s.fr b) [] [] := by
      intro b' e
      subst e
      have hc : Go.Proofs.Ytmkmjjodiicmlaa.VS.unub (AV.ub q) = .bool q := rfl
      refine ⟨s.H, s.fr.map Go.Proofs.Ytmkmjjodiicmlaa.VS.unub, s.H, (bif q then Go.Proofs.Ytmkmjjodiicmlaa.VS.unub (opnd s.fr a) else Go.Proofs.Ytmkmjjodiicmlaa.VS.unub (opnd s.fr b)), [], [], .inl rfl, (FEq.unub _).le, .refl _, by simp only [aop, opnd_unub, hq, hc, opPick, rv], .refl _, ?_⟩
      cases q
      · exact le_unub _
      · exact le_unub _
    cases hb : q with
    | true => exact ⟨_, _, _, _, hop true hb, h.1 hb⟩
    | false => exact ⟨_, _, _, _, hop false hb, h.2 hb⟩
  · exact h.elim

theorem notU_some {o : UnOp} {t : TypeId} {x : Operand} (h : notU (opD S false (.unOp o t x) s id k) o k (opnd s.fr x)) : ∃ v e rd fz, OpStep (S.env false) s id (.unOp o t x) v e fz ∧ k v e rd fz := by
  unfold notU at h
  split at h
  · rename_i q hq
    split at h
    · refine ⟨_, _, _, _, ⟨s.H, s.fr.map Go.Proofs.Ytmkmjjodiicmlaa.VS.unub, s.H, .bool !q, [], [], .inl rfl, (FEq.unub _).le, .refl _, by simp only [aop, opnd_unub, hq, Go.Proofs.Ytmkmjjodiicmlaa.VS.unub, aun, ro], .refl _, ub_le _⟩, h⟩
    · exact h.elim
  · obtain ⟨v, e, rd, fz, h1, h2⟩ := opD_some h
    exact ⟨v, e, rd, fz, .same h1, h2⟩

omit [Syms] in
theorem isBoolV_some {x : AV} {a : Bool} (h : isBoolV x = some a) : Go.Proofs.Ytmkmjjodiicmlaa.VS.unub x = .bool a := by
  unfold isBoolV at h
  split at h
  · cases h; rfl
  · cases h; rfl
  · cases h

omit [Syms] in
theorem kind_ty {T : Tabs} {t : TypeId} (h : kindOf T t = .bool) : ∃ i, T.ty.get t = some i ∧ i.k = .bool := by
  unfold kindOf at h
  split at h
  · rename_i i hi; exact ⟨i, hi, h⟩
  · cases h

omit [Syms] in
theorem aeq_bool {T : Tabs} {t : TypeId} {a b : Bool} (h : kindOf T t = .bool) : aeq T DEQ t (.bool a) (.bool b) = some (a == b) := by
  obtain ⟨i, h1, h2⟩ := kind_ty h
  rw [show DEQ = 9 + 1 from rfl, aeq, h1]
  simp only [h2, eqOne]

theorem eqUb_some {o : BinOp} {t z : TypeId} {x y : Operand} (h : eqUb S (opD S false (.binOp o t x y z) s id fun v e rd fz => k (toUb v) e rd fz) o t k (opnd s.fr x) (opnd s.fr y)) : ∃ v e rd fz, OpStep (S.env false) s id (.binOp o t x y z) v e fz ∧ k v e rd fz := by
  unfold eqUb at h
  cases hu : isUb (opnd s.fr x) || isUb (opnd s.fr y) with
  | true =>
    rw [hu, cond_true] at h
    split at h
    · rename_i a b ha hb hk
      refine ⟨_, _, _, _, ⟨s.H, s.fr.map Go.Proofs.Ytmkmjjodiicmlaa.VS.unub, s.H, .bool (a == b), [], [], .inl rfl, (FEq.unub _).le, .refl _, ?_, .refl _, ub_le _⟩, h⟩
      simp only [aop, opnd_unub, isBoolV_some ha, isBoolV_some hb, abin, aeqOp, SE.env, aeq_bool hk, yesO, ro]
    · rename_i a b ha hb hk
      refine ⟨_, _, _, _, ⟨s.H, s.fr.map Go.Proofs.Ytmkmjjodiicmlaa.VS.unub, s.H, .bool !(a == b), [], [], .inl rfl, (FEq.unub _).le, .refl _, ?_, .refl _, ub_le _⟩, h⟩
      simp only [aop, opnd_unub, isBoolV_some ha, isBoolV_some hb, abin, aeqOp, SE.env, aeq_bool hk, notO, ro]
    · exact h.elim
  | false =>
    rw [hu, cond_false] at h
    obtain ⟨v, e, rd, fz, h1, h2⟩ := opD_some h
    exact ⟨_, e, rd, fz, (OpStep.same h1).up (toUb_le v), h2⟩

theorem copyC_some {ts : Array TypeId} {d x : Operand} (h : copyC S s (opD S false (.call ⟨.builtin .copy, #[d, x], ts⟩) s id k) ts.toList k (opnd s.fr x) (opnd s.fr d)) :
    ∃ v e rd fz, OpStep (S.env false) s id (.call ⟨.builtin .copy, #[d, x], ts⟩) v e fz ∧ k v e rd fz := by
  unfold copyC at h
  split at h
  · rename_i n b lo len hd
    split at h
    · rename_i g l hl
      obtain ⟨hb, hbF⟩ := hlive_some hl
      split at h
      · rename_i dt r hts
        obtain ⟨e, he, h⟩ := optC_some h
        obtain ⟨h1, h2⟩ := must_and h
        clear h
        simp only [Bool.and_eq_true] at h1
        have hsz := beq_eq' h1.1
        have hn := beq_eq' h1.2
        subst hn
        obtain ⟨ps, ys, k1, k2, k3, k4⟩ := elemsC_some (HArr.put hb) h2
        have hlen := k2.length
        refine ⟨_, _, _, _, .heap ⟨hset s.H b (.arr g.size (encs g l)), .int .i64 (min ps.length len : Nat), [(b, some (.arr g.size ((encs g l).take lo ++ ps.take (min ps.length len) ++ (encs g l).drop (lo + min ps.length len))))], idOf (.osl g.size b lo len) ++ idOf (opnd s.fr x), HLe.put hb (tarr_le g l), ?_, ?_, by rw [hlen]; exact .refl _⟩, k4⟩
        · have e1 : hlive (hset s.H b (.arr g.size (encs g l))) s.F b = some (.arr g.size (encs g l)) := by
            unfold hlive
            rw [(isIn_false b s.F).2 hbF, cond_false, hget_hset, if_pos rfl]
          have e2 : (lo + len).ble (encs g l).length = true := Nat.ble_eq_true_of_le (by rw [encs_length]; exact k3)
          simp only [aop, opCall, opnds, abuiltin, acopy, SE.env, hts, he, k1]
          rw [hsz, k2.fits, cond_true, hd]
          show copyTo _ _ _ _ _ _ _ _ _ = _
          simp only [copyTo, e1, beq_same, e2, Bool.and_self, cond_true]
        · have hrow : DRow g ((encs g l).take lo ++ ps.take (min ps.length len) ++ (encs g l).drop (lo + min ps.length len)) (l.take lo ++ ys.take (min ys.length len) ++ l.drop (lo + min ys.length len)) := by
            rw [hlen]
            exact (((DRow.encs g l).take lo).append (k2.take _)).append ((DRow.encs g l).drop _)
          exact (HLe.back hb (arr_le g l)).set hrow.obj b
      · exact h.elim
    · obtain ⟨v, e, rd, fz, h1, h2⟩ := opD_some h
      exact ⟨v, e, rd, fz, .same h1, h2⟩
  · obtain ⟨v, e, rd, fz, h1, h2⟩ := opD_some h
    exact ⟨v, e, rd, fz, .same h1, h2⟩

theorem clearC_some {ts : Array TypeId} {x : Operand} (h : clearC S s (opD S false (.call ⟨.builtin .clear, #[x], ts⟩) s id k) ts.toList k (opnd s.fr x)) :
    ∃ v e rd fz, OpStep (S.env false) s id (.call ⟨.builtin .clear, #[x], ts⟩) v e fz ∧ k v e rd fz := by
  unfold clearC at h
  split at h
  · rename_i n b lo len hx
    split at h
    · rename_i g l hl
      obtain ⟨hb, hbF⟩ := hlive_some hl
      split at h
      · rename_i t r hts
        obtain ⟨e, he, h⟩ := optC_some h
        obtain ⟨h1, h2⟩ := must_and h
        clear h
        simp only [Bool.and_eq_true] at h1
        have hsz := beq_eq' h1.1
        have hn := beq_eq' h1.2
        subst hn
        obtain ⟨z, hz, h3, h4⟩ := optC_some h2
        have hrep := DRow.replicate (dec_dec g _ _ hz) len
        refine ⟨_, _, _, _, .heap ⟨hset s.H b (.arr g.size (encs g l)), .tup [], [(b, some (.arr g.size ((encs g l).take lo ++ List.replicate len e.2.2 ++ (encs g l).drop (lo + len))))], idOf (.osl g.size b lo len), HLe.put hb (tarr_le g l), ?_, ?_, .refl _⟩, h4⟩
        · have e1 : hlive (hset s.H b (.arr g.size (encs g l))) s.F b = some (.arr g.size (encs g l)) := by
            unfold hlive
            rw [(isIn_false b s.F).2 hbF, cond_false, hget_hset, if_pos rfl]
          have e2 : (lo + len).ble (encs g l).length = true := Nat.ble_eq_true_of_le (by rw [encs_length]; exact h3)
          simp only [aop, opCall, opnds, abuiltin, aclear, SE.env, hts, he, hx]
          rw [hsz]
          simp only [clearTo, e1, beq_same, e2, Bool.and_self, cond_true]
          rfl
        · have hrow : DRow g ((encs g l).take lo ++ List.replicate len e.2.2 ++ (encs g l).drop (lo + len)) (l.take lo ++ List.replicate len z ++ l.drop (lo + len)) :=
            (((DRow.encs g l).take lo).append hrep).append ((DRow.encs g l).drop _)
          exact (HLe.back hb (arr_le g l)).set hrow.obj b
      · exact h.elim
    · obtain ⟨v, e, rd, fz, h1, h2⟩ := opD_some h
      exact ⟨v, e, rd, fz, .same h1, h2⟩
  · obtain ⟨v, e, rd, fz, h1, h2⟩ := opD_some h
    exact ⟨v, e, rd, fz, .same h1, h2⟩

/-- Either a step of the machine's, or a call of a function that works on its caller's own rows. -/
theorem opC_some {op : Op} (h : opC S op s id k) : (∃ v e rd fz, OpStep (S.env false) s id op v e fz ∧ k v e rd fz) ∨
    (∃ f args ts g caps hk, op = .call ⟨.value f, args, ts⟩ ∧ opnd s.fr f = .fn g caps ∧ S.hook g = some hk ∧ hk (opnds s.fr args.toList ++ caps) s.H s.F id k) := by
  unfold opC at h
  simp only [opndK_eq, opndsK_eq] at h
  split at h
  · exact .inl (storeC_some h)
  · exact .inl (bytesC_some h)
  · exact .inl (makeC_some h)
  · exact .inl (pickU_some h)
  · exact .inl (notU_some h)
  · exact .inl (eqUb_some h)
  · rename_i args ts
    split at h
    · rename_i a x hargs
      have : args = #[a, x] := by rw [← Array.toArray_toList (xs := args), hargs]
      subst this
      exact .inl (appC_some h)
    · exact h.elim
  · rename_i args ts
    split at h
    · rename_i d x hargs
      have : args = #[d, x] := by rw [← Array.toArray_toList (xs := args), hargs]
      subst this
      exact .inl (copyC_some h)
    · obtain ⟨v, e, rd, fz, h1, h2⟩ := opD_some h
      exact .inl ⟨v, e, rd, fz, .same h1, h2⟩
  · rename_i args ts
    split at h
    · rename_i x hargs
      have : args = #[x] := by rw [← Array.toArray_toList (xs := args), hargs]
      subst this
      exact .inl (clearC_some h)
    · obtain ⟨v, e, rd, fz, h1, h2⟩ := opD_some h
      exact .inl ⟨v, e, rd, fz, .same h1, h2⟩
  · rename_i f args ts
    unfold hookC at h
    split at h
    · rename_i g caps hf
      split at h
      · rename_i hk hhk
        exact .inr ⟨f, args, ts, g, caps, hk, rfl, hf, hhk, h⟩
      · obtain ⟨v, e, rd, fz, h1, h2⟩ := callC_some (f := f) (args := args) (ts := ts) (by rw [hf]; exact h)
        exact .inl ⟨v, e, rd, fz, .same h1, h2⟩
    · exact h.elim
  · obtain ⟨v, e, rd, fz, h1, h2⟩ := opD_some h
    exact .inl ⟨v, e, rd, fz, .same h1, h2⟩

end
end Go.Proofs.Ytmkmjjodiicmlaa.VS

