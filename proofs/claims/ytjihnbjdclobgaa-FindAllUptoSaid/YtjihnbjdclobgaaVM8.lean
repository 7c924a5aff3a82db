/- A library of an abstract machine, joined from 3 texts. Conditions: none. -/
import Derived.Test.YtjihnbjdclobgaaVM7
set_option linter.unusedVariables false
set_option linter.unusedSimpArgs false
/- One operation that the machine itself makes: what its proposition asks is that it is made. Conditions: none. -/
namespace Go.Proofs.Ytjihnbjdclobgaa.VS
section
variable {S : SE} {un : Bool} {s : St} {id : Nat} {k : Kont}

theorem resK_some {r : Res} (h : resK k r) : ∃ v e rd fz, r = .ok v e rd fz ∧ k v e rd fz := by
  cases r with
  | no => exact h.elim
  | ok v e rd fz => exact ⟨v, e, rd, fz, rfl, h⟩
  | all v H F nx => exact h.elim

theorem dflt_some {op : Op} (h : resK k (aopK op (S.env un) s id)) : ∃ v e rd fz, aop (S.env un) s id op = .ok v e rd fz ∧ k v e rd fz := by
  rw [aopK_eq] at h
  exact resK_some h

theorem elemN_some {T : Tabs} {t : TypeId} {n : Nat} (h : elemN T t n = true) : ∃ e, kindOf T t = .slice e ∧ szOf T e = some n ∧ 0 < n := by
  unfold elemN at h
  split at h
  · rename_i e hk
    split at h
    · rename_i m hm
      rw [Bool.and_eq_true] at h
      exact ⟨e, hk, by rw [hm, beq_eq' h.1], blt_lt h.2⟩
    · cases h
  · cases h

theorem getD_some {α : Type} {xs : List α} {i : Nat} (d : α) (h : i < xs.length) : xs[i]? = some (xs.getD i d) := by
  rw [List.getD_eq_getElem?_getD, List.getElem?_eq_getElem h]; rfl

theorem idxC_some {t : TypeId} {x i : Operand} (h : idxC S (resK k (aopK (.indexAddr t x i) (S.env un) s id)) t k (opnd s.fr x) (opnd s.fr i)) :
    ∃ v e rd fz, aop (S.env un) s id (.indexAddr t x i) = .ok v e rd fz ∧ k v e rd fz := by
  unfold idxC at h
  split at h
  · rename_i g xs kk n hx hi
    obtain ⟨h1, ⟨h2, h3⟩, h4⟩ := must_and h
    obtain ⟨e, k1, k2, k3⟩ := elemN_some h1
    obtain ⟨j, rfl⟩ := Int.eq_ofNat_of_zero_le h2
    refine ⟨_, _, _, _, ?_, h4⟩
    simp only [aop, hx, hi, aindexAddr, SE.env, k1, k2, idxSl]
    rw [show ((j : Int).toNat) = j from rfl, getD_some g.nought (by omega : j < xs.length)]
    simp only [beq_same, cond_true, ro]
  · rename_i sz b lo len kk n hx hi
    obtain ⟨h1, ⟨h2, h3⟩, h4⟩ := must_and h
    obtain ⟨e, k1, k2, k3⟩ := elemN_some h1
    obtain ⟨j, rfl⟩ := Int.eq_ofNat_of_zero_le h2
    refine ⟨_, _, _, _, ?_, h4⟩
    simp only [aop, hx, hi, aindexAddr, SE.env, k1, k2, idxSl]
    have : Nat.blt j len = true := Nat.ble_eq_true_of_le (by omega)
    simp only [this, beq_same, Bool.and_self, cond_true, ro]
    rfl
  · rename_i g b len kk n hx hi
    obtain ⟨h1, ⟨h2, h3⟩, h4⟩ := must_and h
    obtain ⟨e, k1, k2, k3⟩ := elemN_some h1
    obtain ⟨j, rfl⟩ := Int.eq_ofNat_of_zero_le h2
    refine ⟨_, _, _, _, ?_, h4⟩
    simp only [aop, hx, hi, aindexAddr, SE.env, k1, k2, idxSl]
    have : Nat.blt j len = true := Nat.ble_eq_true_of_le (by omega)
    simp only [this, beq_same, Bool.and_self, cond_true, ro]
    rfl
  · exact dflt_some h

theorem indexC_some {t : TypeId} {x i : Operand} (h : indexC S (resK k (aopK (.index t x i) (S.env un) s id)) t k (opnd s.fr x) (opnd s.fr i)) :
    ∃ v e rd fz, aop (S.env un) s id (.index t x i) = .ok v e rd fz ∧ k v e rd fz := by
  unfold indexC at h
  split at h
  · rename_i l kk n hx hi
    split at h
    · rename_i hk
      obtain ⟨⟨h2, h3⟩, h4⟩ := h
      obtain ⟨j, rfl⟩ := Int.eq_ofNat_of_zero_le h2
      refine ⟨_, _, _, _, ?_, h4⟩
      simp only [aop, hx, hi, aindex, SE.env, hk]
      rw [show ((j : Int).toNat) = j from rfl, getD_some (0 : UInt8) (by omega : j < l.length)]
      rfl
    · exact h.elim
  · exact dflt_some h

theorem loadC_some {t : TypeId} {a : Operand} (h : loadC S s.H (resK k (aopK (.load t a) (S.env un) s id)) t k (opnd s.fr a)) :
    ∃ v e rd fz, aop (S.env un) s id (.load t a) = .ok v e rd fz ∧ k v e rd fz := by
  unfold loadC at h
  split at h
  · rename_i b i off ha
    split at h
    · rename_i g xs hb
      obtain ⟨h1, h2⟩ := h
      obtain ⟨v, h3, h4⟩ := optC_some h2
      refine ⟨_, _, _, _, ?_, h4⟩
      simp only [aop, ha, aload, cellsAt, hb, getD_some g.nought h1, SE.env, h3, rr, idOf]
    · exact dflt_some h
  · exact dflt_some h

theorem bnd_of {d : Nat} {o : Option AV} {z : Int} (h : bndZ d o = some z) (hz : 0 ≤ z) : bnd d o = some z.toNat := by
  unfold bndZ at h
  split at h
  · cases h; rfl
  · rename_i n
    cases h
    obtain ⟨j, rfl⟩ := Int.eq_ofNat_of_zero_le hz
    rfl
  · cases h

theorem bnds_of {n : Nat} {lo hi : Option AV} {l h : Int} (h1 : bndZ 0 lo = some l) (h2 : bndZ n hi = some h) (h3 : 0 ≤ l ∧ l ≤ h ∧ h ≤ n) : bnds n lo hi = some (l.toNat, h.toNat) := by
  unfold bnds
  rw [show (0 : Int) = ((0 : Nat) : Int) from rfl] at h1
  rw [bnd_of h1 h3.1, bnd_of h2 (by omega)]
  simp only
  rw [show (l.toNat.ble h.toNat && h.toNat.ble n) = true by rw [Bool.and_eq_true]; exact ⟨Nat.ble_eq_true_of_le (by omega), Nat.ble_eq_true_of_le (by omega)⟩]
  rfl

theorem mapO_none (fr : Fr) : mapO fr none = none := rfl

theorem sliceC_some {t : TypeId} {x : Operand} {lo hi : Option Operand} (h : sliceC S (resK k (aopK (.slice t x lo hi none) (S.env un) s id)) t k (mapO s.fr lo) (mapO s.fr hi) (opnd s.fr x)) :
    ∃ v e rd fz, aop (S.env un) s id (.slice t x lo hi none) = .ok v e rd fz ∧ k v e rd fz := by
  unfold sliceC at h
  split at h
  · rename_i g xs hx
    obtain ⟨h1, h⟩ := must_and h
    obtain ⟨e, k1, k2, k3⟩ := elemN_some h1
    split at h
    · rename_i l hh hl hhi
      obtain ⟨h2, h4⟩ := h
      refine ⟨_, _, _, _, ?_, h4⟩
      obtain ⟨n, hn⟩ : ∃ n, g.size = n + 1 := ⟨g.size - 1, by omega⟩
      simp only [aop, hx, aslice, mapO_none, SE.env, k1, k2, hn, asliceV, bnds_of hl hhi h2, beq_same, cond_true, ro]
    · exact h.elim
  · rename_i sz b o len hx
    obtain ⟨h1, h⟩ := must_and h
    obtain ⟨e, k1, k2, k3⟩ := elemN_some h1
    split at h
    · rename_i l hh hl hhi
      obtain ⟨h2, h4⟩ := h
      refine ⟨_, _, _, _, ?_, h4⟩
      obtain ⟨n, hn⟩ : ∃ n, sz = n + 1 := ⟨sz - 1, by omega⟩
      subst hn
      simp only [aop, hx, aslice, mapO_none, SE.env, k1, k2, asliceV, bnds_of hl hhi h2, beq_same, cond_true, ro]
    · exact h.elim
  · rename_i l hx
    split at h
    · rename_i hk
      split at h
      · rename_i lz hz hl hhi
        obtain ⟨h2, h4⟩ := h
        refine ⟨_, _, _, _, ?_, h4⟩
        simp only [aop, hx, aslice, mapO_none, SE.env, hk, bnds_of hl hhi h2, ro]
      · exact h.elim
    · exact h.elim
  · exact dflt_some h

theorem allFieldsB_eq {f f' : Fd → Option Bool} (hf : ∀ x b, f' x = some b → f x = some b) : ∀ {l : List Fd} {b : Bool}, allFieldsB f' l = some b → allFields f l = some b
  | [], b, h => h
  | [x], b, h => by
    rw [allFieldsB] at h
    rw [allFields]
    cases hb : x.blank with
    | true => rw [hb] at h; exact h
    | false =>
      rw [hb, cond_false] at h
      rw [cond_false, hf x b h]
      cases b <;> rfl
  | x :: y :: r, b, h => by
    rw [allFieldsB] at h
    · rw [allFields]
      cases hb : x.blank with
      | true => rw [hb, cond_true] at h; rw [cond_true]; exact allFieldsB_eq hf h
      | false =>
        rw [hb, cond_false] at h
        rw [cond_false]
        split at h
        · rename_i a c ha hc
          cases h
          rw [hf x a ha]
          cases a
          · rfl
          · simp only [Bool.true_and]; exact allFieldsB_eq hf hc
        · cases h
    · nofun

theorem aeqB_eq (T : Tabs) : ∀ (d : Nat) (t : TypeId) (x y : AV) (b : Bool), aeqB T d t x y = some b → aeq T d t x y = some b
  | 0, _, _, _, _, h => by cases h
  | d + 1, t, x, y, b, h => by
    rw [aeqB] at h
    rw [aeq]
    split at h
    · rename_i i hi
      rw [hi]
      split at h
      · rename_i fs xs ys hk
        simp only [hk]
        cases hc : i.cmp with
        | false => rw [hc] at h; cases h
        | true =>
          rw [hc, cond_true] at h
          rw [cond_true]
          refine allFieldsB_eq (fun f c hf => ?_) h
          unfold both at hf ⊢
          split at hf
          · rename_i p q hp hq
            exact aeqB_eq T d _ _ _ _ hf
          · cases hf
      · rename_i hne
        simp only
        exact h
    · cases h

theorem binC_some {op : BinOp} {t : TypeId} {x y : Operand} {c : TypeId} (h : binC S (resK k (aopK (.binOp op t x y c) (S.env un) s id)) op t k (opnd s.fr x) (opnd s.fr y)) :
    ∃ v e rd fz, aop (S.env un) s id (.binOp op t x y c) = .ok v e rd fz ∧ k v e rd fz := by
  unfold binC at h
  split at h
  · rename_i a b hx hy
    split at h
    · obtain ⟨h1, h2⟩ := h
      refine ⟨_, _, _, _, ?_, h2⟩
      simp only [aop, hx, hy, abin, astr]
      rw [show (a.length + b.length).ble 1099511627776 = true from Nat.ble_eq_true_of_le h1]
      rfl
    · exact dflt_some h
  · rename_i xs ys hx hy
    split at h
    · obtain ⟨b, h1, h2⟩ := optC_some h
      refine ⟨_, _, _, _, ?_, h2⟩
      simp only [aop, hx, hy, abin, aeqOp, SE.env, aeqB_eq _ _ _ _ _ _ h1, yesO, ro]
    · obtain ⟨b, h1, h2⟩ := optC_some h
      refine ⟨_, _, _, _, ?_, h2⟩
      simp only [aop, hx, hy, abin, aeqOp, SE.env, aeqB_eq _ _ _ _ _ _ h1, notO, ro]
    · exact dflt_some h
  · rename_i q a q' b hx hy
    split at h
    · obtain ⟨h1, h2⟩ := h
      refine ⟨_, _, _, _, ?_, h2⟩
      simp only [aop, hx, hy, abin, ashift, intv, if_neg (by omega : ¬ b < 0), ro]
    · obtain ⟨h1, h2⟩ := h
      refine ⟨_, _, _, _, ?_, h2⟩
      simp only [aop, hx, hy, abin, ashift, intv, if_neg (by omega : ¬ b < 0), ro]
    · exact dflt_some h
  · exact dflt_some h

theorem toBytes_encs : ∀ xs : List UInt8, toBytes (encs .u8 xs) = some xs
  | [] => rfl
  | b :: r => by
    show (match toBytes (encs .u8 r) with
      | some s => some (UInt8.ofNat ((b.toNat : Int)).toNat :: s)
      | none => none) = _
    rw [toBytes_encs r]
    show some (UInt8.ofNat b.toNat :: r) = _
    rw [UInt8.ofNat_toNat]

theorem strC_some {a b : TypeId} {x : Operand} (h : strC S s.H (resK k (aopK (.convert a b x) (S.env un) s id)) a b k (opnd s.fr x)) :
    ∃ v e rd fz, aop (S.env un) s id (.convert a b x) = .ok v e rd fz ∧ k v e rd fz := by
  unfold strC at h
  split at h
  · rename_i el hd hs
    split at h
    · rename_i xs hx
      obtain ⟨h1, h2⟩ := must_and h
      refine ⟨_, _, _, _, ?_, h2⟩
      simp only [aop, hx, SE.env, aconvert, hd, strOf, hs, toStr, h1, cond_true, elems, toBytes_encs, idOf]
    · rename_i bb lo len hx
      split at h
      · rename_i xs hb
        obtain ⟨h1, h3, h2⟩ := must_and h
        refine ⟨_, _, _, _, ?_, h2⟩
        have e1 : ((encs .u8 xs).drop lo).take len = encs .u8 ((xs.drop lo).take len) := by simp [encs, List.map_take, List.map_drop]
        simp only [aop, hx, SE.env, aconvert, hd, strOf, hs, toStr, h1, cond_true, elems, hb, show (lo + len).ble xs.length = true from Nat.ble_eq_true_of_le h3, e1, toBytes_encs, idOf]
      · exact dflt_some h
    · rename_i g bb n hx
      split at h
      · rename_i xs hb
        obtain ⟨h1, h3, h2⟩ := must_and h
        refine ⟨_, _, _, _, ?_, h2⟩
        simp only [aop, hx, SE.env, aconvert, hd, strOf, hs, toStr, h1, cond_true, elems, hb, h3, beq_same, toBytes_encs, idOf]
      · exact dflt_some h
    · exact dflt_some h
  · exact dflt_some h

theorem callC_some {f : Operand} {args : Array Operand} {ts : Array TypeId} (h : callC S un s id k (opnd s.fr f) (opnds s.fr args.toList)) :
    ∃ v e rd fz, aop (S.env un) s id (.call ⟨.value f, args, ts⟩) = .ok v e rd fz ∧ k v e rd fz := by
  unfold callC at h
  split at h
  · rename_i _ _ g caps hf
    obtain ⟨cn, h1, h2⟩ := optC_some h
    obtain ⟨p, h3, h4⟩ := resAllC_some _ _ h2
    obtain ⟨c, h5, hq⟩ := optC_some h4
    obtain ⟨hpre, r0, h6, h7⟩ : preP c.pre ∧ ∃ r, c.o = some r ∧ pureC S un g id p.2 (c.v r) (c.H r) k := by
      cases hp : c.pre with
      | none => rw [hp] at hq; exact ⟨trivial, hq⟩
      | some q => rw [hp] at hq; exact hq
    have hcall : conCall S un g p.1 [] [] 0 = .ok (ansV un (c.v r0)) (c.H r0) [] WIDE := by
      simp only [conCall, h1, h5, h6]
      exact if_pos hpre
    unfold pureC at h7
    have hop : aop (S.env un) s id (.call ⟨.value f, args, ts⟩) = pureAns (S.own g) id p.2 (.ok (ansV un (c.v r0)) (c.H r0) [] WIDE) := by
      simp only [aop, opCall, hf, acallee, acallOp, SE.env, SE.cfg, Bool.not_true, Bool.and_false, Bool.or_self, Bool.not_false, cond_false, h3, hcall]
    rw [hop]
    cases ho : S.own g with
    | true =>
      rw [ho, cond_true] at h7
      exact resK_some h7
    | false =>
      rw [ho, cond_false] at h7
      obtain ⟨y8, is8, h8, h9⟩ := resC_some _ _ _ h7
      refine ⟨_, _, _, _, ?_, h9⟩
      simp only [pureAns, cond_false, h8]
  · exact h.elim

theorem decAllP_dec [Syms] {g : GT} : ∀ {ps : List AV} {k : List g.T → Prop}, decAllP g ps k → ∃ xs, DRow g ps xs ∧ decAll (dec g) ps = some xs ∧ k xs
  | [], k, h => ⟨[], .nil, rfl, h⟩
  | p :: ps, k, h => by
    have h' : decP g p fun x => decAllP g ps fun l => k (x :: l) := h
    have key : ∃ x, dec g p = some x ∧ decAllP g ps fun l => k (x :: l) := by
      unfold decP at h'
      split at h'
      · unfold decB at h'
        split at h'
        · rename_i n
          exact ⟨_, by show byteOf (.int .u8 n) = _; exact if_pos h'.1, h'.2⟩
        · exact h'.elim
      · exact optC_some h'
    obtain ⟨x, h1, h2⟩ := key
    obtain ⟨xs, h3, h4, h5⟩ := decAllP_dec h2
    exact ⟨x :: xs, .cons (dec_dec g p x h1) h3, by simp only [decAll, h1, h4], h5⟩

theorem byteOf_enc (x : UInt8) : byteOf (enc .u8 x) = some x := by
  show (if (0 : Int) ≤ (x.toNat : Int) ∧ (x.toNat : Int) < 256 then some (UInt8.ofNat (x.toNat : Int).toNat) else none) = some x
  have : x.toNat < 256 := x.toNat_lt
  rw [if_pos ⟨by omega, by omega⟩]
  show some (UInt8.ofNat x.toNat) = some x
  rw [UInt8.ofNat_toNat]
theorem dec_enc (g : GT) (x : g.T) : dec g (enc g x) = some x := by
  cases g
  case u8 => exact byteOf_enc x
  all_goals first | rfl | (cases x; rfl) | (simp [dec, enc, listOf, decNod, decDsk, decOpn, decRow, decSpt, decAkt, decBlk, decNam, decBytes]; done)
theorem decAll_encs (g : GT) : ∀ xs : List g.T, decAll (dec g) (encs g xs) = some xs
  | [] => by cases g <;> rfl
  | x :: r => by
    have : encs g (x :: r) = enc g x :: encs g r := by cases g <;> rfl
    rw [this, decAll, dec_enc, decAll_encs g r]

theorem res_one {nz : Bool} {H : Heap} {d : Nat} {a y : AV} {is : List Nat} (h : resolve nz H d a = some (y, is)) (hy : y.one = true) : a.one = true := by
  cases d with
  | zero => simp [resolve] at h
  | succ d =>
    cases resolve_rsv h with
    | agg _ => cases hy
    | tup _ => cases hy
    | leaf hl => exact hy
    | _ => rfl

theorem res_fits {nz : Bool} {H : Heap} {d n : Nat} {a y : AV} {is : List Nat} (h : resolve nz H d a = some (y, is)) (hy : fitsN n y = true) : fitsN n a = true := by
  cases d with
  | zero => simp [resolve] at h
  | succ d =>
    simp only [fitsN, Bool.and_eq_true] at hy ⊢
    have one : a.fits = true → a.cells = [a] → y.cells = [y] → a.fits = true ∧ a.cells.length.beq n = true := fun h1 h2 h3 => by
      refine ⟨h1, ?_⟩
      have := hy.2
      rw [h3] at this
      rw [h2]; exact this
    cases resolve_rsv h with
    | @agg cs r hr =>
      obtain ⟨h1, h2⟩ := resAll_some hr
      refine ⟨List.all_eq_true.2 fun x hx => ?_, ?_⟩
      · obtain ⟨q, hq⟩ := List.getElem?_of_mem hx
        obtain ⟨z, js, k1, k2, _⟩ := h2 q x hq
        exact res_one k2 (List.all_eq_true.1 hy.1 z (List.mem_of_getElem? k1))
      · have : (AV.agg cs).cells.length = (AV.agg r.1).cells.length := h1.symm
        rw [this]; exact hy.2
    | tup _ => exact absurd hy.1 (by simp [AV.fits])
    | fn _ => exact one rfl rfl rfl
    | ifc _ => exact one rfl rfl rfl
    | osl _ _ _ => exact one rfl rfl rfl
    | tosl _ _ => exact one rfl rfl rfl
    | gs _ _ => exact one rfl rfl rfl
    | ptr _ _ => exact one rfl rfl rfl
    | cptr => exact one rfl rfl rfl
    | nils => exact one rfl rfl (by cases nz <;> rfl)
    | nev => exact one rfl rfl (by cases nz <;> rfl)
    | emp => exact one rfl rfl (by cases nz <;> rfl)
    | leaf hl => exact hy

theorem elemsD_some [Syms] {H : Heap} {F : List Nat} {id : Nat} {g : GT} {K : List g.T → List Nat → Prop} {x : AV} (h : elemsD H F id g K x) : ∃ ps zs, elems H x = some ps ∧ ps.length = zs.1.length ∧ (∀ y ∈ ps, fitsN g.size y = true) ∧ dataOf H F id g x = some zs ∧ K zs.1 zs.2 := by
  have fit : ∀ {ps : List AV} {l : List g.T}, DRow g ps l → ∀ y ∈ ps, fitsN g.size y = true := fun h y hy => List.all_eq_true.1 h.fits y hy
  unfold elemsD at h
  split at h
  · rename_i g' xs
    obtain ⟨l, h1, h2⟩ := optC_some h
    obtain ⟨e, rfl⟩ := listOf_tl h1
    subst e
    exact ⟨_, (xs, []), rfl, encs_length _ _, fit (DRow.encs _ _), by simp only [dataOf, h1], h2⟩
  · rename_i s' b lo len
    split at h
    · rename_i n xs hb
      obtain ⟨h1, h2⟩ := must_and h
      have he : elems H (.osl s' b lo len) = some ((xs.drop lo).take len) := by simp only [elems, hb, h1, cond_true]
      cases ho : ((xs.drop lo).take len).any ownV with
      | false =>
        rw [ho] at h2
        obtain ⟨l, h3, h4, h5⟩ := decAllP_dec h2
        exact ⟨_, (l, []), he, h3.length, fit h3, by simp only [dataOf, he, rowData, ho, cond_false, h4], h5⟩
      | true =>
        rw [ho] at h2
        obtain ⟨p, h3, h4⟩ := resAllC_some _ _ h2
        obtain ⟨h5, h6⟩ := must_and h4
        obtain ⟨l, h7, h8, h9⟩ := decAllP_dec h6
        refine ⟨_, (l, p.2), he, by rw [← h7.length, (resAll_some (resAll_of h3)).1], fun y hy => ?_, by simp only [dataOf, he, rowData, ho, cond_true, h3, h5, h8], h9⟩
        -- a value fits if it does when taken whole
        obtain ⟨q, hq⟩ := List.getElem?_of_mem hy
        obtain ⟨y', is', k1, k2, _⟩ := (resAll_some (resAll_of h3)).2 q y hq
        exact res_fits k2 (fit h7 y' (List.mem_of_getElem? k1))
    · exact h.elim
  · rename_i g0 b n
    split at h
    · rename_i g' xs hb
      obtain ⟨h1, h2⟩ := h
      obtain ⟨l, h3, h4⟩ := optC_some h2
      obtain ⟨e, rfl⟩ := listOf_tl h3
      subst e
      have he : elems H (.gs g0 b n) = some (encs g' xs) := by simp only [elems, hb, h1, beq_same, cond_true]
      have hno : (encs g' xs).any ownV = false := by
        rw [List.any_eq_false]
        intro y hy
        obtain ⟨q, _, rfl⟩ := List.mem_map.1 hy
        cases g' <;> simp [enc, ownV, ownC]
      exact ⟨_, (xs, []), he, encs_length _ _, fit (DRow.encs g' xs), by simp only [dataOf, he, rowData, hno, cond_false, decAll_encs g' xs], h4⟩
    · exact h.elim
  · exact ⟨_, ([], []), rfl, rfl, (fun y hy => by cases hy), rfl, h⟩
  · exact ⟨_, ([], []), rfl, rfl, (fun y hy => by cases hy), rfl, h⟩
  · rename_i xs
    cases ho : xs.any ownV with
    | false =>
      rw [ho] at h
      obtain ⟨l, h3, h4, h5⟩ := decAllP_dec h
      exact ⟨_, (l, []), rfl, h3.length, fit h3, by simp only [dataOf, elems, rowData, ho, cond_false, h4], h5⟩
    | true => rw [ho] at h; exact (h : False).elim
  · exact h.elim

theorem appU_some {args : Array Operand} {ts : Array TypeId} (h : appU S un s id (resK k (aopK (.call ⟨.builtin .append, args, ts⟩) (S.env un) s id)) ts.toList k (opnds s.fr args.toList)) :
    ∃ v e rd fz, aop (S.env un) s id (.call ⟨.builtin .append, args, ts⟩) = .ok v e rd fz ∧ k v e rd fz := by
  let _ : Syms := ⟨fun _ => 0, fun _ => []⟩
  unfold appU at h
  split at h
  · rename_i a x hax
    cases un with
    | false => exact dflt_some h
    | true =>
      change appD S s id (resK k (aopK (.call ⟨.builtin .append, args, ts⟩) (S.env true) s id)) ts.toList k x a at h
      have nl : (a = .nils ∨ a = .emp) → appDN S id (resK k (aopK (.call ⟨.builtin .append, args, ts⟩) (S.env true) s id)) ts.toList k x → ∃ v e rd fz, aop (S.env true) s id (.call ⟨.builtin .append, args, ts⟩) = .ok v e rd fz ∧ k v e rd fz := by
        intro ha h
        cases x with
        | tl g xs =>
          unfold appDN at h
          simp only at h
          split at h
          · rename_i st xt rest hts
            replace h := must_and h
            obtain ⟨h1, h⟩ := h
            replace h := optC_some h
            obtain ⟨q, hq, h⟩ := h
            replace h := optC_some h
            obtain ⟨by_, hby, h⟩ := h
            replace h := must_and h
            obtain ⟨h5, h6, h7⟩ := h
            have e1 := beq_eq' h5
            have hap : appended S.T s.H q.2.2 xt (.tl g xs) = some (encs g xs) := by
              unfold srcKind at h1
              unfold appended
              split at h1
              · rename_i hk; rw [hk]; rfl
              · rename_i hk; rw [hk]; rfl
              · cases h1
            have hfit : (encs g xs).all (fitsN q.2.1) = true := by rw [e1]; exact (DRow.encs g xs).fits
            have hroom : room (encs g xs).length by_ = true := Nat.ble_eq_true_of_le (by rw [encs_length]; exact h6)
            refine ⟨_, _, _, _, ?_, h7⟩
            show tellB true id s.H s.F .append (opnds s.fr args.toList) (abuiltin S.T s.H s.F id .append ts.toList (opnds s.fr args.toList)) = _
            rw [hax]
            rcases ha with rfl | rfl
            · simp only [tellB, cond_true, abuiltin, aappend, hts, hq, hby, hap, hfit, tellApp, tellNil]
              cases xs with
              | nil => simp only [encs, List.map_nil, appendV, idOf]; rfl
              | cons x r => simp only [encs, List.map_cons] at hroom ⊢; simp only [appendV, hroom, cond_true, newArr, idOf]; rfl
            · simp only [tellB, cond_true, abuiltin, aappend, hts, hq, hby, hap, hfit, tellApp, tellNil]
              cases xs with
              | nil => simp only [encs, List.map_nil, appendV, idOf]; rfl
              | cons x r => simp only [encs, List.map_cons] at hroom ⊢; simp only [appendV, hroom, cond_true, newArr, idOf]; rfl
          · exact h.elim
        | _ => exact dflt_some h
      unfold appD at h
      split at h
      · rename_i g1 b n
        split at h
        · rename_i g l hb
          split at h
          · rename_i st xt rest hts
            obtain ⟨h1, h2⟩ := must_and h
            obtain ⟨q, hq, h3⟩ := optC_some h2
            obtain ⟨by_, hby, h4⟩ := optC_some h3
            obtain ⟨h5, h6⟩ := must_and h4
            obtain ⟨ps, zs, h7, h8, h8', h9, ⟨h10, h11⟩, h12⟩ := elemsD_some h6
            obtain ⟨ys, is⟩ := zs
            rw [Bool.and_eq_true] at h1 h5
            have e1 := beq_eq' h5.1
            have e2 := beq_eq' h5.2
            have hap : appended S.T s.H q.2.2 xt x = some ps := by
              have h1 := h1.1
              unfold srcKind at h1
              unfold appended
              split at h1
              · rename_i hk; rw [hk]; exact h7
              · rename_i hk; rw [hk]; exact h7
              · cases h1
            have hlen : ps.length = ys.length := h8
            have hfit : ps.all (fitsN q.2.1) = true := by rw [e1]; exact List.all_eq_true.2 h8'
            have hroom : room (n + ps.length) by_ = true := Nat.ble_eq_true_of_le (by
              have : (l ++ ys).length = n + ps.length := by rw [List.length_append, h10, hlen]
              rw [← this]; exact h11)
            refine ⟨_, _, _, _, ?_, h12⟩
            subst h10
            show tellB true id s.H s.F .append (opnds s.fr args.toList) (abuiltin S.T s.H s.F id .append ts.toList (opnds s.fr args.toList)) = _
            rw [hax]
            simp only [tellB, cond_true, abuiltin, aappend, hts, hq, hby, hap, hfit, tellApp, hb, h9]
            have hne : ps = [] → nested s.H x = false := fun e => by
              subst e
              unfold nested
              cases x <;> first | rfl | simp only [h7, List.any_nil]
            have his : ps = [] → is = [] := fun e => by
              subst e
              unfold dataOf at h9
              split at h9
              · split at h9
                · cases h9; rfl
                · cases h9
              · rw [h7] at h9
                simp only [rowData, List.any_nil, cond_false, decAll] at h9
                cases h9; rfl
            cases ps with
            | nil =>
              have : ys = [] := List.length_eq_zero_iff.1 hlen.symm
              subst this
              have hi := his rfl
              subst hi
              simp only [appendV, appendGs, hb, e1, e2, beq_same, h1.2, hroom, Bool.and_self, cond_true, List.append_nil, tellRow, hne rfl, cond_false]
            | cons y r =>
              simp only [appendV, appendGs, hb, e1, e2, beq_same, h1.2, hroom, Bool.and_self, cond_true, tellRow]
              rw [List.length_append, ← hlen]
          · exact h.elim
        · exact dflt_some h
      · exact nl (.inl rfl) h
      · exact nl (.inr rfl) h
      · exact dflt_some h
  · exact dflt_some h

theorem keysC_some {q : IntKind} {n : Int} {z : AV} {k : AV → Prop} : ∀ {es : List (AV × AV)} {i : Nat}, keysC q n z k es → ∃ o v, akey es (.int q n) i = some o ∧ found false z (some o) = some v ∧ k v
  | [], i, h => ⟨none, z, rfl, rfl, h⟩
  | (a, v) :: r, i, h => by
    unfold keysC at h
    split at h
    · rename_i h0; cases h0
    · rename_i q' m v' r' h0
      injection h0 with h0 h1
      injection h0 with h0 h2
      subst h0; subst h1; subst h2
      obtain ⟨h3, h4, h5⟩ := must_and h
      have h3 : q' = q := by simpa using h3
      subst h3
      rw [akey, if_pos rfl]
      by_cases e : m = n
      · rw [if_pos e]; exact ⟨_, _, rfl, rfl, h4 e⟩
      · rw [if_neg e]; exact keysC_some (h5 e)
    · exact h.elim

theorem lookC_some {t : TypeId} {x i : Operand} {ok : Bool} (h : lookC S s.H (resK k (aopK (.lookup t x i ok) (S.env un) s id)) t ok k (opnd s.fr x) (opnd s.fr i)) :
    ∃ v e rd fz, aop (S.env un) s id (.lookup t x i ok) = .ok v e rd fz ∧ k v e rd fz := by
  unfold lookC at h
  split at h
  · rename_i b q n hx hi
    split at h
    · split at h
      · rename_i ke hke
        obtain ⟨h1, h2⟩ := must_and h
        obtain ⟨z, hz, h3⟩ := optC_some h2
        split at h3
        · rename_i es hb
          obtain ⟨o, v, h4, h5, h6⟩ := keysC_some (i := 0) h3
          refine ⟨_, _, _, _, ?_, h6⟩
          simp only [aop, hx, hi, alookup, SE.env, hke, hz, mapOf, hb, h1, cond_true, h4, h5, rr, idOf]
        · exact h3.elim
      · exact h.elim
    · exact dflt_some h
  · exact dflt_some h

theorem opD_some {op : Op} (h : opD S un op s id k) : ∃ v e rd fz, aop (S.env un) s id op = .ok v e rd fz ∧ k v e rd fz := by
  unfold opD at h
  simp only [opndK_eq, opndsK_eq] at h
  split at h
  · exact idxC_some h
  · exact indexC_some h
  · exact loadC_some h
  · exact sliceC_some h
  · exact binC_some h
  · rename_i c a b
    unfold pickC at h
    split at h
    · rename_i q hq
      refine ⟨_, _, _, _, by simp only [aop, hq, opPick]; rfl, ?_⟩
      cases q
      · exact h.2 rfl
      · exact h.1 rfl
    · exact h.elim
  · exact strC_some h
  · exact callC_some h
  · exact appU_some h
  · exact lookC_some h
  · exact dflt_some h

end

/-- What is told of functions that work on their caller's own rows holds. -/
def HookOK [Syms] (P : Program) (S : SE) : Prop :=
  ∀ f h, S.hook f = some h → ∀ args H F id k, h args H F id k → ∀ (c : Ctx) (m : Map) (w : World) (cargs : Array Value), SR c m H F w → CR (okB c.X m H F) w.heap m args cargs 0 → cargs.size = args.length →
    (∀ b, id ≤ b → b < id + STRIDE → m b = none) → CallsTo P f cargs w fun cv w' => ∃ v e rd fz m', k v e rd fz ∧ Done c m H F w id v e fz cv m' w'

/-- The contracts hold. -/
structure ConOK [Syms] (P : Program) (S : SE) : Prop where
  hook : HookOK P S
  con : ∀ f g args c r, S.con f = some g → g args = some c → preP c.pre → c.o = some r → ∀ (cx : Ctx) (m : Map) (w : World) (cargs : Array Value), SR cx m [] [] w → CR (okB cx.X m [] []) w.heap m args cargs 0 → cargs.size = args.length →
    (∀ b, m b = none) → CallsTo P f cargs w fun cv w' => ∃ m', After cx m [] [] w 0 (c.v r) (c.H r) [] WIDE cv m' w'

theorem unubD_le [Syms] : ∀ (d : Nat) (v : AV), VLe v (unubD d v)
  | 0, v => .refl v
  | d + 1, v => by
    have all : ∀ cs : List AV, CLe cs (cs.map (unubD d)) := fun cs => by
      induction cs with
      | nil => exact .nil
      | cons a cs ih => exact .cons (unubD_le d a) ih
    cases v with
    | ub b => exact bool_le b
    | agg cs => exact .agg (all cs)
    | tup cs => exact .tup (all cs)
    | _ => exact .refl _

theorem ansV_le [Syms] (un : Bool) (v : AV) : VLe v (ansV un v) := by
  cases un
  · exact .refl v
  · exact unubD_le 4 v

theorem conCall_ok [Syms] {P : Program} {S : SE} (un : Bool) (h : ConOK P S) : CallOK P (S.env un).call := by
  intro f args H F nx v H' F' nx' hc cx m w cargs hs hr hsz hnx
  have hc : conCall S un f args H F nx = .ok v H' F' nx' := hc
  unfold conCall at hc
  split at hc
  · split at hc
    · rename_i g hg
      split at hc
      · rename_i c hgc
        split at hc
        · rename_i r hp
          split at hc
          case isFalse => cases hc
          rename_i hpre
          cases hc
          refine (h.con f g args c r hg hgc hpre hp cx m w cargs hs hr hsz fun b => hnx b (Nat.zero_le b)).mono fun cv w' ⟨m', ha⟩ => ⟨m', ha.ext, ha.sr, ansV_le un (c.v r) _ _ _ _ ha.vr, ha.le, ha.dom⟩
        · cases hc
      · cases hc
    · cases hc
  · cases hc

end Go.Proofs.Ytjihnbjdclobgaa.VS

/- Operations that turn rows of trees into rows of data: what they leave. Conditions: none. -/
namespace Go.Proofs.Ytjihnbjdclobgaa.VS
variable [Syms]

omit [Syms] in
theorem Fr.get_not : ∀ (t : Fr) (k : Nat), t.has k = false → t.get k = und
  | .nil, k, _ => rfl
  | .nd v l r, k, hk => by
    rw [Fr.has] at hk
    rw [Fr.get_nd]
    split
    · rename_i h0; rw [if_pos h0] at hk; cases hk
    · rename_i h0
      rw [if_neg h0] at hk
      split
      · rename_i h1; rw [if_pos h1] at hk; exact Fr.get_not l _ hk
      · rename_i h1; rw [if_neg h1] at hk; exact Fr.get_not r _ hk

theorem At.le {n : Nat} {c : Ctx} {m : Map} {s : St} {a : Act} {w : World} (ha : At n c m s a w) {H1 : Heap} (h : HLe s.H H1) : At n c m { s with H := H1 } a w :=
  ⟨ha.sr.le h, fun t => (ha.fr t).mono (fun _ _ _ _ ho hh => ⟨okB_le h ho, hh⟩) (MLe.refl m), ha.has, ha.sz, ha.nx⟩

/-- Frames that tell the same. -/
structure FEq (fr fr1 : Fr) : Prop where
  to : ∀ k, VLe (fr.get k) (fr1.get k)
  from_ : ∀ k, VLe (fr1.get k) (fr.get k)
  has : ∀ k, fr1.has k = fr.has k
  keeps : ∀ k, ((∃ b, fr.get k = .bool b) ∨ fr.get k = .tup []) → fr1.get k = fr.get k

theorem FEq.refl (fr : Fr) : FEq fr fr := ⟨fun _ => .refl _, fun _ => .refl _, fun _ => rfl, fun _ _ => rfl⟩

/-- A frame that tells no more. -/
structure FLe (fr fr1 : Fr) : Prop where
  to : ∀ k, VLe (fr.get k) (fr1.get k)
  has : ∀ k, fr1.has k = fr.has k
  keeps : ∀ k, ((∃ b, fr.get k = .bool b) ∨ fr.get k = .tup []) → fr1.get k = fr.get k

theorem FEq.le {fr fr1 : Fr} (h : FEq fr fr1) : FLe fr fr1 := ⟨h.to, h.has, h.keeps⟩

/-- What an operation leaves, told better. -/
def OpStep (E : Env) (s : St) (id : Nat) (op : Op) (v : AV) (e : Eff) (fz : List Nat) : Prop :=
  ∃ H0 fr1 H1 v1 e1 rd1, (H0 = s.H ∨ ∃ g, H0 = hset s.H (Nat.succ id) (.tarr g [])) ∧ FLe s.fr fr1 ∧ HLe H0 H1 ∧ aop E ⟨fr1, H1, s.F, s.nx⟩ id op = .ok v1 e1 rd1 fz ∧ HLe (happ H1 e1) (happ s.H e) ∧ VLe v1 v

theorem OpStep.heap {E : Env} {s : St} {id : Nat} {op : Op} {v : AV} {e : Eff} {fz : List Nat} (h : ∃ H1 v1 e1 rd1, HLe s.H H1 ∧ aop E { s with H := H1 } id op = .ok v1 e1 rd1 fz ∧ HLe (happ H1 e1) (happ s.H e) ∧ VLe v1 v) : OpStep E s id op v e fz := by
  obtain ⟨H1, v1, e1, rd1, h1, h2, h3, h4⟩ := h
  exact ⟨s.H, s.fr, H1, v1, e1, rd1, .inl rfl, (FEq.refl _).le, h1, h2, h3, h4⟩

theorem OpStep.same {E : Env} {s : St} {id : Nat} {op : Op} {v : AV} {e : Eff} {rd fz : List Nat} (h : aop E s id op = .ok v e rd fz) : OpStep E s id op v e fz :=
  .heap ⟨s.H, v, e, rd, .refl _, h, .refl _, .refl _⟩

theorem OpStep.up {E : Env} {s : St} {id : Nat} {op : Op} {v v' : AV} {e : Eff} {fz : List Nat} (h : OpStep E s id op v e fz) (hv : VLe v v') : OpStep E s id op v' e fz := by
  obtain ⟨H0, fr1, H1, v1, e1, rd1, hz, h0, h1, h2, h3, h4⟩ := h
  exact ⟨H0, fr1, H1, v1, e1, rd1, hz, h0, h1, h2, h3, h4.trans hv⟩

omit [Syms] in
theorem Fr.get_map {f : AV → AV} (hf : f und = und) : ∀ (t : Fr) (k : Nat), (t.map f).get k = f (t.get k)
  | .nil, k => hf.symm
  | .nd v l r, k => by
    rw [Fr.map, Fr.get_nd, Fr.get_nd]
    split
    · rfl
    · split
      · exact Fr.get_map hf l _
      · exact Fr.get_map hf r _

omit [Syms] in
theorem Fr.has_map {f : AV → AV} : ∀ (t : Fr) (k : Nat), (t.map f).has k = t.has k
  | .nil, k => rfl
  | .nd v l r, k => by
    rw [Fr.map, Fr.has, Fr.has]
    split
    · rfl
    · split
      · exact Fr.has_map l _
      · exact Fr.has_map r _

theorem unub_le (v : AV) : VLe v (unub v) := by cases v <;> first | exact bool_le _ | exact .refl _
theorem le_unub (v : AV) : VLe (unub v) v := by cases v <;> first | exact ub_le _ | exact .refl _

theorem FEq.unub (fr : Fr) : FEq fr (fr.map unub) :=
  ⟨fun k => by rw [Fr.get_map rfl]; exact unub_le _, fun k => by rw [Fr.get_map rfl]; exact le_unub _, fun k => Fr.has_map fr k, fun k h => by
    rw [Fr.get_map rfl]
    rcases h with ⟨b, h⟩ | h <;> rw [h] <;> rfl⟩

omit [Syms] in
theorem unub_ofV1 (v : Value) : Go.Proofs.Ytjihnbjdclobgaa.VS.unub (ofV1 v) = ofV1 v := by unfold ofV1; split <;> rfl
omit [Syms] in
theorem opnd_unub (fr : Fr) (x : Operand) : opnd (fr.map Go.Proofs.Ytjihnbjdclobgaa.VS.unub) x = Go.Proofs.Ytjihnbjdclobgaa.VS.unub (opnd fr x) := by
  cases x with
  | tmp t => exact Fr.get_map rfl fr t
  | const v =>
    show ofV v = _
    cases v <;> first | rfl | exact (unub_ofV1 _).symm
  | func f => rfl
  | global g => rfl

section
variable {S : SE} {s : St} {id : Nat} {k : Kont}

/-- The heap but for rows of data that are told as rows of trees. -/
def HArr (H H1 : Heap) : Prop := ∀ b, hget H1 b = hget H b ∨ ∃ t xs, hget H b = some (.tarr t xs) ∧ hget H1 b = some (.arr t.size (encs t xs))

theorem elemsC_some {H H1 : Heap} (hH : HArr H H1) {g : GT} {K : List g.T → Prop} {x : AV} (h : elemsC H g K x) : ∃ ps ys, elems H1 x = some ps ∧ DRow g ps ys ∧ K ys := by
  unfold elemsC at h
  split at h
  · rename_i g' xs
    obtain ⟨l, h1, h2⟩ := optC_some h
    obtain ⟨e, rfl⟩ := listOf_tl h1
    subst e
    exact ⟨_, _, rfl, DRow.encs _ _, h2⟩
  · rename_i s' b lo len
    split at h
    · rename_i n xs hb
      obtain ⟨h1, h2⟩ := must_and h
      have h1 := ble_le h1
      obtain ⟨l, h3, h4⟩ := decAllP_some h2
      have : hget H1 b = some (.arr n xs) := by
        rcases hH b with h5 | ⟨t, q, h5, h6⟩
        · rw [h5, hb]
        · rw [hb] at h5; cases h5
      refine ⟨_, _, ?_, h3, h4⟩
      simp only [elems, this, show (lo + len).ble xs.length = true from Nat.ble_eq_true_of_le h1, cond_true]
    · rename_i g' xs hb
      obtain ⟨h1, h2⟩ := h
      obtain ⟨l, h3, h4⟩ := optC_some h2
      obtain ⟨e, rfl⟩ := listOf_tl h3
      subst e
      refine ⟨((encs g' xs).drop lo).take len, _, ?_, ((DRow.encs g' xs).drop lo).take len, h4⟩
      rcases hH b with h5 | ⟨t, q, h5, h6⟩
      · simp only [elems, h5, hb, show (lo + len).ble xs.length = true from Nat.ble_eq_true_of_le h1, cond_true]
      · rw [hb] at h5; cases h5
        simp only [elems, h6, encs_length, show (lo + len).ble xs.length = true from Nat.ble_eq_true_of_le h1, cond_true]
    · exact h.elim
  · rename_i g0 b n
    split at h
    · rename_i g' xs hb
      obtain ⟨h1, h2⟩ := h
      obtain ⟨l, h3, h4⟩ := optC_some h2
      obtain ⟨e, rfl⟩ := listOf_tl h3
      subst e
      refine ⟨encs g' xs, _, ?_, DRow.encs g' xs, h4⟩
      rcases hH b with h5 | ⟨t, q, h5, h6⟩
      · simp only [elems, h5, hb, h1, beq_same, cond_true]
      · rw [hb] at h5; cases h5
        simp only [elems, h6, encs_length, h1, beq_same, cond_true]
    · exact h.elim
  · exact ⟨_, _, rfl, .nil, h⟩
  · exact ⟨_, _, rfl, .nil, h⟩
  · exact ⟨_, _, rfl, .nil, h⟩
  · obtain ⟨l, h3, h4⟩ := decAllP_some h
    exact ⟨_, _, rfl, h3, h4⟩
  · rename_i l
    split at h
    · exact ⟨_, _, rfl, DRow.encs .u8 l, h⟩
    · exact h.elim
  · exact h.elim

omit [Syms] in
theorem room_of {n by_ : Nat} (h : roomP n by_) : room n by_ = true := Nat.ble_eq_true_of_le h

omit [Syms] in
theorem row_nil {g : GT} {ps : List AV} {ys : List g.T} (h : ps.length = ys.length) : ys = [] → ps = [] := fun e => by subst e; exact List.length_eq_zero_iff.1 h

omit [Syms] in
theorem HArr.refl (H : Heap) : HArr H H := fun _ => .inl rfl

omit [Syms] in
theorem HArr.put {H : Heap} {b : Nat} {g : GT} {xs : List g.T} (hb : hget H b = some (.tarr g xs)) : HArr H (hset H b (.arr g.size (encs g xs))) := fun x => by
  rw [hget_hset]
  by_cases e : b = x
  · subst e; rw [if_pos rfl]; exact .inr ⟨g, xs, hb, rfl⟩
  · rw [if_neg e]; exact .inl rfl

omit [Syms] in
theorem srcKind_elems {T : Tabs} {H : Heap} {z x : AV} {xt : TypeId} (h : srcKind T xt = true) : appended T H z xt x = elems H x := by
  unfold srcKind at h
  unfold appended
  split at h
  · rename_i hk; rw [hk]
  · rename_i e hk; rw [hk]
  · cases h

theorem appNew_some {H : Heap} {F : List Nat} {by_ : Nat} {g : GT} {base : AV} (hbase : base = .nils ∨ base = .emp) {ps : List AV} {ys : List g.T} (hr : DRow g ps ys) {rd : List Nat} (h : appNew id by_ g k base ys) :
    ∃ v e rd' fz v1 e1 rd1, k v e rd' fz ∧ appendV H F id g.size by_ rd base ps = .ok v1 e1 rd1 fz ∧ (∀ H0, HLe H H0 → HLe (happ H e1) (happ H0 e)) ∧ VLe v1 v := by
  cases hr with
  | nil =>
    rcases hbase with rfl | rfl <;> exact ⟨_, _, _, _, _, _, _, h.1 rfl, rfl, fun _ h => h, .refl _⟩
  | @cons a x ps xs h1 h2 =>
    obtain ⟨h3, h4⟩ := h.2 (by simp)
    have hl : (a :: ps).length = (x :: xs).length := by simp [h2.length]
    refine ⟨_, _, _, _, .osl g.size id 0 (x :: xs).length, [(id, some (.arr g.size (a :: ps)))], rd, h4, ?_, fun H0 hH => hH.set (DRow.obj (.cons h1 h2)) id, .refl _⟩
    rcases hbase with rfl | rfl <;> simp only [appendV, hl, room_of h3, cond_true, newArr]

theorem appOld_some {H : Heap} {F : List Nat} {by_ b lo len : Nat} {g : GT} {xs ps : List AV} {l ys : List g.T} (hb : hlive H F b = some (.arr g.size xs)) (hx : DRow g xs l) (hr : DRow g ps ys) {rd : List Nat} (h : appOld id by_ g k b lo len l ys) :
    ∃ v e rd' fz v1 e1 rd1, k v e rd' fz ∧ appendV H F id g.size by_ rd (.osl g.size b lo len) ps = .ok v1 e1 rd1 fz ∧ (∀ H0, HLe H H0 → HLe (happ H e1) (happ H0 e)) ∧ VLe v1 v := by
  obtain ⟨⟨rfl, rfl⟩, h1, h2⟩ := h
  cases hr with
  | nil => exact ⟨_, _, _, _, _, _, _, h1 rfl, rfl, fun _ h => h, .refl _⟩
  | @cons a y ps ys q1 q2 =>
    obtain ⟨h3, h4⟩ := h2 (by simp)
    have hrow : DRow g (xs ++ a :: ps) (l ++ y :: ys) := hx.append (.cons q1 q2)
    have hlx := hx.length
    have hlp := q2.length
    refine ⟨_, _, _, _, .osl g.size id 0 (l ++ y :: ys).length, [(id, some (.arr g.size (xs ++ a :: ps))), (b, none)], rd, h4, ?_, fun H0 hH => (hH.set hrow.obj id).del b, .refl _⟩
    simp only [appendV, appendTo, hb, beq_same, Bool.and_self, Bool.true_and]
    have e1 : (0 + l.length).ble xs.length = true := Nat.ble_eq_true_of_le (by omega)
    have e2 : room (l.length + (a :: ps).length) by_ = true := by
      have := room_of h3
      rw [List.length_append, List.length_cons] at this
      rw [List.length_cons, hlp]; exact this
    have e3 : (0 + l.length + (a :: ps).length).ble xs.length = false := by
      cases hq : (0 + l.length + (a :: ps).length).ble xs.length with
      | false => rfl
      | true =>
        have := Nat.le_of_ble_eq_true hq
        simp only [List.length_cons] at this
        omega
    rw [e1, e2, e3]
    simp only [Bool.and_self, cond_true, cond_false, newArr, List.drop_zero]
    rw [← hlx, List.take_length]
    congr 2
    rw [hlx, List.length_append, List.length_cons, List.length_cons, hlp]

theorem gs_le {g g' : GT} {b n n' : Nat} (h : g.size = g'.size) (hn : n = n') : VLe (.gs g b n) (.gs g' b n') := fun ok hh m v hv => by
  subst hn
  cases hv with
  | gsE => exact .gsE
  | gs hv => exact .gs (by rw [← h]; exact hv)

/-- Onto a row that may be none. -/
theorem appGs_some {H : Heap} {F : List Nat} {by_ b n : Nat} {g g1 : GT} {ps : List AV} {l ys : List g.T} (hb : hlive H F b = some (.tarr g l)) (h1 : g1.size = g.size) (hid : b.beq id = false) (hr : DRow g ps ys) {rd : List Nat} (h : appGs id by_ g k b n l ys) :
    ∃ v e rd' fz v1 e1 rd1, k v e rd' fz ∧ appendV H F id g.size by_ rd (.gs g1 b n) ps = .ok v1 e1 rd1 fz ∧ (∀ H0, HLe H H0 → HLe (happ H e1) (happ H0 e)) ∧ VLe v1 v := by
  obtain ⟨⟨h2, h3⟩, h4⟩ := h
  have hl := hr.length
  have hroom : room (n + ps.length) by_ = true := by
    have := room_of h3
    rw [List.length_append] at this
    rw [h2, hl]; exact this
  have hv : ∀ ys', appendV H F id g.size by_ rd (.gs g1 b n) ys' = appendGs H F id g.size by_ rd ys' g1 b n := fun ys' => by cases ys' <;> rfl
  have hc : (n.beq l.length && g1.size.beq g.size && g.size.beq g.size && room (n + ps.length) by_ && !(b.beq id)) = true := by
    rw [h2, beq_same, h1, beq_same, ← h2, hroom, hid]; rfl
  cases hr with
  | nil =>
    refine ⟨_, _, _, _, .gs g1 id n, [(id, some (.tarr g l)), (b, none)], rd, h4, ?_, fun H0 hH => ?_, gs_le h1 (by rw [List.append_nil]; exact h2)⟩
    · rw [hv, appendGs, hb]
      simp only [hc, cond_true]
    · rw [List.append_nil]
      exact (hH.set (ObjLe.refl _) id).del b
  | @cons a y ps ys q1 q2 =>
    refine ⟨_, _, _, _, .gs g1 id (n + (a :: ps).length), [(id, some (.arr g.size (encs g l ++ a :: ps))), (b, none)], rd, h4, ?_, fun H0 hH => ?_, gs_le h1 (by rw [List.length_append, h2, hl])⟩
    · rw [hv, appendGs, hb]
      simp only [hc, cond_true]
    · exact (hH.set ((DRow.encs g l).append (.cons q1 q2)).obj id).del b

/-- Onto none. -/
theorem appNil_step {ts : Array TypeId} {i : Nat} {x : Operand} {st xt : TypeId} {r : List TypeId} {e : TypeId × Nat × AV} {by_ : Nat} {g : GT} (hts : ts.toList = st :: xt :: r) (hsk : srcKind S.T xt = true) (he : elemT S.T st = some e) (hby : bytesOf S.T e.1 = some by_) (hsz : e.2.1 = g.size)
    (hi : s.fr.get i = .nils ∨ s.fr.get i = .emp) (hap : (apart2 (.tmp i) x && !(isIn (Nat.succ id) s.F) && !(isIn (Nat.succ id) (idOf (opnd s.fr x)))) = true) {ps : List AV} {ys : List g.T} (hps : elems s.H (opnd s.fr x) = some ps) (hr : DRow g ps ys) (h : appNil id by_ g k ys) :
    ∃ v e rd fz, OpStep (S.env false) s id (.call ⟨.builtin .append, #[.tmp i, x], ts⟩) v e fz ∧ k v e rd fz := by
  obtain ⟨h3, h4⟩ := h
  simp only [Bool.and_eq_true] at hap
  obtain ⟨⟨hap, hF⟩, hX⟩ := hap
  have hF : isIn (Nat.succ id) s.F = false := by simpa using hF
  have hX : isIn (Nat.succ id) (idOf (opnd s.fr x)) = false := by simpa using hX
  have hhas : s.fr.has i = true := by
    cases hh : s.fr.has i with
    | true => rfl
    | false => rw [Fr.get_not _ _ hh] at hi; rcases hi with hi | hi <;> cases hi
  have hgt : ∀ j, (s.fr.set i (.gs g (Nat.succ id) 0)).get j = if j = i then .gs g (Nat.succ id) 0 else s.fr.get j := fun j => Fr.get_set s.fr i j _ hhas
  have hxo : opnd (s.fr.set i (.gs g (Nat.succ id) 0)) x = opnd s.fr x := by
    cases x with
    | tmp j =>
      have hne : ¬ j = i := fun e => by subst e; simp [apart2] at hap
      show (s.fr.set i (.gs g (Nat.succ id) 0)).get j = s.fr.get j
      rw [hgt, if_neg hne]
    | _ => rfl
  have hb : hlive (hset s.H (Nat.succ id) (.tarr g [])) s.F (Nat.succ id) = some (.tarr g []) := by
    unfold hlive; rw [hF, cond_false, hget_hset, if_pos rfl]
  have hel : elems (hset s.H (Nat.succ id) (.tarr g [])) (opnd s.fr x) = some ps := by
    rw [← hps]
    refine elems_foot fun b hb' => ?_
    rw [hget_hset, if_neg]
    intro e
    subst e
    rw [(isIn_iff _ _).2 hb'] at hX; cases hX
  have hne : (Nat.succ id).beq id = false := by
    cases hq : (Nat.succ id).beq id with
    | false => rfl
    | true => have := beq_eq' hq; omega
  obtain ⟨v, e', rd, fz, v1, e1, rd1, ⟨q1, q2, q3⟩, k2, k3, k4⟩ := appGs_some (k := fun v e rd fz => v = .gs g id ys.length ∧ e = [(id, some (.tarr g ys)), (Nat.succ id, none)] ∧ fz = []) (id := id) (by_ := by_) (n := 0) (l := []) (g1 := g) (rd := idOf (.gs g (Nat.succ id) 0) ++ idOf (opnd s.fr x)) hb rfl hne hr ⟨⟨rfl, h3⟩, rfl, rfl, rfl⟩
  subst q1; subst q2; subst q3
  refine ⟨_, _, _, _, ⟨_, s.fr.set i (.gs g (Nat.succ id) 0), _, v1, e1, rd1, .inr ⟨g, rfl⟩, ⟨fun j => ?_, fun j => Fr.has_set _ _ _ _, fun j hj => ?_⟩, .refl _, ?_, ?_, k4⟩, h4⟩
  · rw [hgt]
    by_cases e : j = i
    · subst e
      rw [if_pos rfl]
      intro ok hh m v hv
      rcases hi with hi | hi <;> rw [hi] at hv <;> cases hv <;> exact .gsE
    · rw [if_neg e]; exact .refl _
  · rw [hgt, if_neg]
    intro e
    subst e
    rcases hi with hi | hi <;> rw [hi] at hj <;> rcases hj with ⟨_, hj⟩ | hj <;> cases hj
  · have hoi : opnd (s.fr.set i (.gs g (Nat.succ id) 0)) (.tmp i) = .gs g (Nat.succ id) 0 := by
      show (s.fr.set i (.gs g (Nat.succ id) 0)).get i = _
      rw [hgt, if_pos rfl]
    simp only [aop, opCall, opnds, abuiltin, aappend, SE.env, hts, he, hby, srcKind_elems hsk, hxo, hoi, hel]
    rw [hsz, hr.fits, cond_true]
    exact k2
  · have := k3 _ (HLe.refl (hset s.H (Nat.succ id) (.tarr g [])))
    refine HLe.trans this fun b => ?_
    show (hget (hdel (hset (hset s.H (Nat.succ id) (.tarr g [])) id (.tarr g ys)) (Nat.succ id)) b = none ∧ hget (hdel (hset s.H id (.tarr g ys)) (Nat.succ id)) b = none) ∨ ∃ o o1, hget (hdel (hset (hset s.H (Nat.succ id) (.tarr g [])) id (.tarr g ys)) (Nat.succ id)) b = some o ∧ hget (hdel (hset s.H id (.tarr g ys)) (Nat.succ id)) b = some o1 ∧ ObjLe o o1
    have e0 : hget (hdel (hset (hset s.H (Nat.succ id) (.tarr g [])) id (.tarr g ys)) (Nat.succ id)) b = hget (hdel (hset s.H id (.tarr g ys)) (Nat.succ id)) b := by
      simp only [hget_hdel, hget_hset]
      by_cases e : Nat.succ id = b
      · rw [if_pos e, if_pos e]
      · simp only [if_neg e]
    rw [e0]
    cases hget (hdel (hset s.H id (.tarr g ys)) (Nat.succ id)) b with
    | none => exact .inl ⟨rfl, rfl⟩
    | some o => exact .inr ⟨o, o, rfl, rfl, .refl _⟩

theorem appC_some {ts : Array TypeId} {a x : Operand} (h : appC S s id ts.toList k (apart2 a x) (opnd s.fr a) (opnd s.fr x)) :
    ∃ v e rd fz, OpStep (S.env false) s id (.call ⟨.builtin .append, #[a, x], ts⟩) v e fz ∧ k v e rd fz := by
  unfold appC at h
  split at h
  · rename_i st xt r hts
    obtain ⟨hsk, h⟩ := must_and h
    obtain ⟨e, he, h⟩ := optC_some h
    obtain ⟨by_, hby, h⟩ := optC_some h
    obtain ⟨g, hg, h⟩ := optC_some h
    obtain ⟨hsz, h⟩ := must_and h
    have hsz := beq_eq' hsz
    -- by what the append makes over some heap
    have fin : ∀ {H1 : Heap} {ps : List AV} {ys : List g.T}, HLe s.H H1 → HLe H1 s.H → elems H1 (opnd s.fr x) = some ps → DRow g ps ys →
        (∃ v e' rd' fz v1 e1 rd1, k v e' rd' fz ∧ appendV H1 s.F id g.size by_ (idOf (opnd s.fr a) ++ idOf (opnd s.fr x)) (opnd s.fr a) ps = .ok v1 e1 rd1 fz ∧ (∀ H0, HLe H1 H0 → HLe (happ H1 e1) (happ H0 e')) ∧ VLe v1 v) →
        ∃ v e rd fz, OpStep (S.env false) s id (.call ⟨.builtin .append, #[a, x], ts⟩) v e fz ∧ k v e rd fz := by
      intro H1 ps ys hH1 hH2 hps hr ⟨v, e', rd', fz, v1, e1, rd1, k1, k2, k3, k4⟩
      refine ⟨v, e', rd', fz, .heap ⟨H1, v1, e1, rd1, hH1, ?_, k3 _ hH2, k4⟩, k1⟩
      simp only [aop, opCall, opnds, abuiltin, aappend, SE.env, hts, he, hby, srcKind_elems hsk, hps]
      rw [hsz, hr.fits, cond_true]
      exact k2
    generalize ha : opnd s.fr a = base at h
    -- which base
    have hel : ∀ {H1 : Heap}, HArr s.H H1 → ∃ ps ys, elems H1 (opnd s.fr x) = some ps ∧ DRow g ps ys ∧ appBase s id by_ g k (apart2 a x && !(isIn (Nat.succ id) s.F) && !(isIn (Nat.succ id) (idOf (opnd s.fr x)))) ys base := fun hH => elemsC_some hH h
    unfold appBase at hel
    split at hel
    · obtain ⟨ps, ys, k1, k2, k3⟩ := hel (HArr.refl _)
      cases hap : (apart2 a x && !(isIn (Nat.succ id) s.F) && !(isIn (Nat.succ id) (idOf (opnd s.fr x)))) with
      | false =>
        rw [hap] at k3
        exact fin (HLe.refl _) (HLe.refl _) k1 k2 (by rw [ha]; exact appNew_some (.inl rfl) k2 k3)
      | true =>
        rw [hap] at k3
        cases a with
        | tmp i => exact appNil_step hts hsk he hby hsz (.inl ha) hap k1 k2 k3
        | _ => simp [apart2] at hap
    · obtain ⟨ps, ys, k1, k2, k3⟩ := hel (HArr.refl _)
      cases hap : (apart2 a x && !(isIn (Nat.succ id) s.F) && !(isIn (Nat.succ id) (idOf (opnd s.fr x)))) with
      | false =>
        rw [hap] at k3
        exact fin (HLe.refl _) (HLe.refl _) k1 k2 (by rw [ha]; exact appNew_some (.inr rfl) k2 k3)
      | true =>
        rw [hap] at k3
        cases a with
        | tmp i => exact appNil_step hts hsk he hby hsz (.inr ha) hap k1 k2 k3
        | _ => simp [apart2] at hap
    · rename_i g1 b n
      cases hl : hlive s.H s.F b with
      | none =>
        obtain ⟨ps, ys, k1, k2, k3⟩ := hel (HArr.refl _)
        rw [hl] at k3
        exact (must_and k3).2.elim
      | some o =>
        obtain ⟨ps, ys, k1, k2, k3⟩ := hel (HArr.refl _)
        rw [hl] at k3
        cases o with
        | tarr g' l0 =>
          obtain ⟨k4, k5⟩ := must_and k3
          obtain ⟨l, k8, k9⟩ := optC_some k5
          obtain ⟨e', rfl⟩ := listOf_tl k8
          subst e'
          simp only [Bool.and_eq_true] at k4
          exact fin (HLe.refl _) (HLe.refl _) k1 k2 (by rw [ha]; exact appGs_some hl (beq_eq' k4.1) (by simpa using k4.2) k2 k9)
        | _ => exact (must_and k3).2.elim
    · rename_i n b lo len
      cases hl : hlive s.H s.F b with
      | none =>
        obtain ⟨ps, ys, k1, k2, k3⟩ := hel (HArr.refl _)
        rw [hl] at k3
        exact (must_and k3).2.elim
      | some o =>
        rw [hl] at hel
        obtain ⟨hb, hbF⟩ := hlive_some hl
        cases o with
        | cells _ =>
          obtain ⟨ps, ys, k1, k2, k3⟩ := hel (HArr.refl _)
          exact (must_and k3).2.elim
        | map _ =>
          obtain ⟨ps, ys, k1, k2, k3⟩ := hel (HArr.refl _)
          exact (must_and k3).2.elim
        | arr m xs =>
          obtain ⟨ps, ys, k1, k2, k3⟩ := hel (HArr.refl _)
          obtain ⟨k4, k5⟩ := must_and k3
          obtain ⟨k6, k7⟩ := must_and k5
          obtain ⟨l, k8, k9⟩ := optC_some k7
          have hn := beq_eq' k4
          have hm := beq_eq' k6
          subst hn; subst hm
          exact fin (HLe.refl _) (HLe.refl _) k1 k2 (by rw [ha]; exact appOld_some hl (decAll_row (dec_dec g) k8) k2 k9)
        | tarr g' l0 =>
          have hH := HArr.put hb
          obtain ⟨ps, ys, k1, k2, k3⟩ := hel hH
          obtain ⟨k4, k5⟩ := must_and k3
          obtain ⟨l, k8, k9⟩ := optC_some k5
          obtain ⟨e', rfl⟩ := listOf_tl k8
          subst e'
          have hn := beq_eq' k4
          subst hn
          refine fin (HLe.put hb (tarr_le g' l0)) (HLe.back hb (arr_le g' l0)) k1 k2 (by
            rw [ha]
            refine appOld_some ?_ (DRow.encs g' l0) k2 k9
            unfold hlive
            rw [(isIn_false b s.F).2 hbF, cond_false, hget_hset, if_pos rfl])
    · obtain ⟨ps, ys, k1, k2, k3⟩ := hel (HArr.refl _)
      exact k3.elim
  · exact h.elim

theorem DRow.set {g : GT} {ps : List AV} {xs : List g.T} (h : DRow g ps xs) {a : AV} {x : g.T} (hx : Dec1 g a x) : ∀ i, DRow g (ps.set i a) (xs.set i x) := by
  induction h with
  | nil => intro i; exact .nil
  | cons h1 h2 ih =>
    intro i
    cases i with
    | zero => exact .cons hx h2
    | succ i => exact .cons h1 (ih i)

theorem storeC_some {t : TypeId} {a x : Operand} (h : storeC S s (opD S false (.store t a x) s id k) t k (opnd s.fr x) (opnd s.fr a)) : ∃ v e rd fz, OpStep (S.env false) s id (.store t a x) v e fz ∧ k v e rd fz := by
  unfold storeC at h
  split at h
  · rename_i b i off ha
    split at h
    · rename_i g xs hl
      obtain ⟨hb, hbF⟩ := hlive_some hl
      unfold storeE at h
      obtain ⟨n, h1, h⟩ := optC_some h
      obtain ⟨h2, h3, h⟩ := must_and h
      obtain ⟨y, h4, h⟩ := optC_some h
      obtain ⟨z, h5, h⟩ := decP_some h
      refine ⟨_, _, _, _, .heap ⟨hset s.H b (.arr g.size (encs g xs)), und, [(b, some (.arr g.size ((encs g xs).set i y)))], [b], HLe.put hb (tarr_le g xs), ?_, ?_, .refl _⟩, h⟩
      · simp only [aop, ha, astore, SE.env, h1, h2, cond_true, astoreE]
        have e1 : hlive (hset s.H b (.arr g.size (encs g xs))) s.F b = some (.arr g.size (encs g xs)) := by
          unfold hlive
          rw [(isIn_false b s.F).2 hbF, cond_false, hget_hset, if_pos rfl]
        have e2 : (encs g xs)[i]? = some (enc g (xs.getD i g.nought)) := by simp only [encs, List.getElem?_map, getD_some g.nought h3, Option.map_some]
        simp only [e1, e2, h4, rw, idOf]
      · have hrow := (DRow.encs g xs).set h5 i
        exact (HLe.back hb (arr_le g xs)).set hrow.obj b
    · obtain ⟨v, e, rd, fz, h1, h2⟩ := opD_some h
      exact ⟨v, e, rd, fz, .same h1, h2⟩
  · obtain ⟨v, e, rd, fz, h1, h2⟩ := opD_some h
    exact ⟨v, e, rd, fz, .same h1, h2⟩

theorem bytesC_some {a b : TypeId} {x : Operand} (h : bytesC S id (opD S false (.convert a b x) s id k) a b k (opnd s.fr x)) : ∃ v e rd fz, OpStep (S.env false) s id (.convert a b x) v e fz ∧ k v e rd fz := by
  unfold bytesC at h
  split at h
  · rename_i l hx
    split at h
    · rename_i e hd hs
      obtain ⟨h1, h2, h3⟩ := must_and h
      refine ⟨_, [(id, some (.tarr .u8 l))], _, _, .heap ⟨s.H, .osl 1 id 0 l.length, [(id, some (.arr 1 (l.map byteV)))], [], .refl _, ?_, (HLe.refl s.H).set (DRow.encs .u8 l).obj id, .refl _⟩, h3⟩
      simp only [aop, hx, aconvert, SE.env, hd, bytesOfStr, hs, ofStr, h1, show l.length.ble 1099511627776 = true from Nat.ble_eq_true_of_le h2, Bool.and_self, cond_true]
    · obtain ⟨v, e, rd, fz, h1, h2⟩ := opD_some h
      exact ⟨v, e, rd, fz, .same h1, h2⟩
  · obtain ⟨v, e, rd, fz, h1, h2⟩ := opD_some h
    exact ⟨v, e, rd, fz, .same h1, h2⟩

theorem makeC_some {t : TypeId} {l c : Operand} (h : makeC S id t k (opnd s.fr l) (opnd s.fr c)) : ∃ v e rd fz, OpStep (S.env false) s id (.makeSlice t l c) v e fz ∧ k v e rd fz := by
  unfold makeC at h
  split at h
  · rename_i k1 n k2 m hl hc
    obtain ⟨e, he, h⟩ := optC_some h
    obtain ⟨by_, hby, h⟩ := optC_some h
    obtain ⟨g, hg, h⟩ := optC_some h
    obtain ⟨z, hz, h⟩ := optC_some h
    obtain ⟨h1, ⟨h2, h3, h4⟩, h5⟩ := must_and h
    subst h3
    obtain ⟨j, rfl⟩ := Int.eq_ofNat_of_zero_le h2
    have hsz := beq_eq' h1
    have hrow := DRow.replicate (dec_dec g _ _ hz) j
    refine ⟨_, [(id, some (.tarr g (List.replicate j z)))], _, _, .heap ⟨s.H, .osl g.size id 0 j, [(id, some (.arr g.size (List.replicate j e.2.2)))], [], .refl _, ?_, (HLe.refl s.H).set hrow.obj id, .refl _⟩, h5⟩
    have hj : j ≤ 1099511627776 := by
      unfold roomP at h4
      have : (j : Int).toNat = j := rfl
      rw [this] at h4
      have := Nat.le_mul_of_pos_right j (show 0 < by_ + 1 by omega)
      omega
    simp only [aop, opMakeSlice, hl, hc, SE.env, he, hby]
    rw [show j.ble j = true from Nat.ble_eq_true_of_le (Nat.le_refl _), show j.ble 1099511627776 = true from Nat.ble_eq_true_of_le hj, show room j by_ = true from room_of h4]
    simp only [Bool.and_self, cond_true, newArr, hsz]
  · exact h.elim

theorem pickU_some {c a b : Operand} (h : pickU k (opnd s.fr a) (opnd s.fr b) (opnd s.fr c)) : ∃ v e rd fz, OpStep (S.env false) s id (.pick c a b) v e fz ∧ k v e rd fz := by
  unfold pickU at h
  split at h
  · rename_i q hq
    have hop : aop (S.env false) s id (.pick c a b) = rv (bif q then opnd s.fr a else opnd s.fr b) := by simp only [aop, hq, opPick]
    cases q
    · exact ⟨_, _, _, _, .same hop, h⟩
    · exact ⟨_, _, _, _, .same hop, h⟩
  · rename_i q hq
    have hop : ∀ b', q = b' → OpStep (S.env false) s id (.pick c a b) (bif b' then opnd s.fr a else opnd s.fr b) [] [] := by
      intro b' e
      subst e
      have hc : Go.Proofs.Ytjihnbjdclobgaa.VS.unub (AV.ub q) = .bool q := rfl
      refine ⟨s.H, s.fr.map Go.Proofs.Ytjihnbjdclobgaa.VS.unub, s.H, (bif q then Go.Proofs.Ytjihnbjdclobgaa.VS.unub (opnd s.fr a) else Go.Proofs.Ytjihnbjdclobgaa.VS.unub (opnd s.fr b)), [], [], .inl rfl, (FEq.unub _).le, .refl _, by simp only [aop, opnd_unub, hq, hc, opPick, rv], .refl _, ?_⟩
      cases q
      · exact le_unub _
      · exact le_unub _
    cases hb : q with
    | true => exact ⟨_, _, _, _, hop true hb, h.1 hb⟩
    | false => exact ⟨_, _, _, _, hop false hb, h.2 hb⟩
  · exact h.elim

theorem notU_some {o : UnOp} {t : TypeId} {x : Operand} (h : notU (opD S false (.unOp o t x) s id k) o k (opnd s.fr x)) : ∃ v e rd fz, OpStep (S.env false) s id (.unOp o t x) v e fz ∧ k v e rd fz := by
  unfold notU at h
  split at h
  · rename_i q hq
    split at h
    · refine ⟨_, _, _, _, ⟨s.H, s.fr.map Go.Proofs.Ytjihnbjdclobgaa.VS.unub, s.H, .bool !q, [], [], .inl rfl, (FEq.unub _).le, .refl _, by simp only [aop, opnd_unub, hq, Go.Proofs.Ytjihnbjdclobgaa.VS.unub, aun, ro], .refl _, ub_le _⟩, h⟩
    · exact h.elim
  · obtain ⟨v, e, rd, fz, h1, h2⟩ := opD_some h
    exact ⟨v, e, rd, fz, .same h1, h2⟩

omit [Syms] in
theorem isBoolV_some {x : AV} {a : Bool} (h : isBoolV x = some a) : Go.Proofs.Ytjihnbjdclobgaa.VS.unub x = .bool a := by
  unfold isBoolV at h
  split at h
  · cases h; rfl
  · cases h; rfl
  · cases h

omit [Syms] in
theorem kind_ty {T : Tabs} {t : TypeId} (h : kindOf T t = .bool) : ∃ i, T.ty.get t = some i ∧ i.k = .bool := by
  unfold kindOf at h
  split at h
  · rename_i i hi; exact ⟨i, hi, h⟩
  · cases h

omit [Syms] in
theorem aeq_bool {T : Tabs} {t : TypeId} {a b : Bool} (h : kindOf T t = .bool) : aeq T DEQ t (.bool a) (.bool b) = some (a == b) := by
  obtain ⟨i, h1, h2⟩ := kind_ty h
  rw [show DEQ = 9 + 1 from rfl, aeq, h1]
  simp only [h2, eqOne]

theorem eqUb_some {o : BinOp} {t z : TypeId} {x y : Operand} (h : eqUb S (opD S false (.binOp o t x y z) s id fun v e rd fz => k (toUb v) e rd fz) o t k (opnd s.fr x) (opnd s.fr y)) : ∃ v e rd fz, OpStep (S.env false) s id (.binOp o t x y z) v e fz ∧ k v e rd fz := by
  unfold eqUb at h
  cases hu : isUb (opnd s.fr x) || isUb (opnd s.fr y) with
  | true =>
    rw [hu, cond_true] at h
    split at h
    · rename_i a b ha hb hk
      refine ⟨_, _, _, _, ⟨s.H, s.fr.map Go.Proofs.Ytjihnbjdclobgaa.VS.unub, s.H, .bool (a == b), [], [], .inl rfl, (FEq.unub _).le, .refl _, ?_, .refl _, ub_le _⟩, h⟩
      simp only [aop, opnd_unub, isBoolV_some ha, isBoolV_some hb, abin, aeqOp, SE.env, aeq_bool hk, yesO, ro]
    · rename_i a b ha hb hk
      refine ⟨_, _, _, _, ⟨s.H, s.fr.map Go.Proofs.Ytjihnbjdclobgaa.VS.unub, s.H, .bool !(a == b), [], [], .inl rfl, (FEq.unub _).le, .refl _, ?_, .refl _, ub_le _⟩, h⟩
      simp only [aop, opnd_unub, isBoolV_some ha, isBoolV_some hb, abin, aeqOp, SE.env, aeq_bool hk, notO, ro]
    · exact h.elim
  | false =>
    rw [hu, cond_false] at h
    obtain ⟨v, e, rd, fz, h1, h2⟩ := opD_some h
    exact ⟨_, e, rd, fz, (OpStep.same h1).up (toUb_le v), h2⟩

/-- Either a step of the machine's, or a call of a function that works on its caller's own rows. -/
theorem opC_some {op : Op} (h : opC S op s id k) : (∃ v e rd fz, OpStep (S.env false) s id op v e fz ∧ k v e rd fz) ∨
    (∃ f args ts g caps hk, op = .call ⟨.value f, args, ts⟩ ∧ opnd s.fr f = .fn g caps ∧ S.hook g = some hk ∧ hk (opnds s.fr args.toList ++ caps) s.H s.F id k) := by
  unfold opC at h
  simp only [opndK_eq, opndsK_eq] at h
  split at h
  · exact .inl (storeC_some h)
  · exact .inl (bytesC_some h)
  · exact .inl (makeC_some h)
  · exact .inl (pickU_some h)
  · exact .inl (notU_some h)
  · exact .inl (eqUb_some h)
  · rename_i args ts
    split at h
    · rename_i a x hargs
      have : args = #[a, x] := by rw [← Array.toArray_toList (xs := args), hargs]
      subst this
      exact .inl (appC_some h)
    · exact h.elim
  · rename_i f args ts
    unfold hookC at h
    split at h
    · rename_i g caps hf
      split at h
      · rename_i hk hhk
        exact .inr ⟨f, args, ts, g, caps, hk, rfl, hf, hhk, h⟩
      · obtain ⟨v, e, rd, fz, h1, h2⟩ := callC_some (f := f) (args := args) (ts := ts) (by rw [hf]; exact h)
        exact .inl ⟨v, e, rd, fz, .same h1, h2⟩
    · exact h.elim
  · obtain ⟨v, e, rd, fz, h1, h2⟩ := opD_some h
    exact .inl ⟨v, e, rd, fz, .same h1, h2⟩

end
end Go.Proofs.Ytjihnbjdclobgaa.VS

/- The text of a function, for values that are not known: what its proposition asks is what it leaves. Conditions: none. -/
namespace Go.Proofs.Ytjihnbjdclobgaa.VS
variable [Syms]

omit [Syms] in
theorem Fr.set_not : ∀ (t : Fr) (k : Nat) (a : AV), t.has k = false → t.set k a = t
  | .nil, k, a, _ => rfl
  | .nd v l r, k, a, h => by
    rw [Fr.has] at h
    rw [Fr.set_nd]
    by_cases h0 : k = 0
    · rw [if_pos h0] at h; cases h
    · rw [if_neg h0] at h ⊢
      by_cases h1 : k % 2 = 1
      · rw [if_pos h1] at h ⊢; rw [Fr.set_not l _ a h]
      · rw [if_neg h1] at h ⊢; rw [Fr.set_not r _ a h]

omit [Syms] in
theorem Fr.get_set_or' (t : Fr) (k j : Nat) (a : AV) : (t.set k a).get j = t.get j ∨ (j = k ∧ (t.set k a).get j = a) := by
  cases h : t.has k with
  | false => rw [Fr.set_not t k a h]; exact .inl rfl
  | true =>
    rw [Fr.get_set _ _ _ _ h]
    split
    · rename_i e; exact .inr ⟨e, rfl⟩
    · exact .inl rfl


/-- A state, and that all that was there at the call is as it was. -/
structure Good (n : Nat) (c : Ctx) (wE : World) (m : Map) (s : St) (a : Act) (w : World) : Prop where
  here : At n c m s a w
  old : ∀ β C e z, ¬ c.X β → wE.heap[β]? = some (.cells C e z) → okB c.X m s.H s.F β ∧ w.heap[β]? = some (.cells C e z)

theorem Good.moves {n : Nat} {c : Ctx} {wE w w' : World} {m m' : Map} {s s' : St} {a a' : Act} (h : Good n c wE m s a w) (ha : At n c m' s' a' w') (hx : Ext c m s.H s.F w m' s'.H s'.F w') : Good n c wE m' s' a' w' :=
  ⟨ha, fun β C e z h1 h2 => by
    obtain ⟨k1, k2⟩ := h.old β C e z h1 h2
    exact hx.kk β C e z k1 k2⟩

theorem Good.le {n : Nat} {c : Ctx} {wE w : World} {m : Map} {s : St} {a : Act} (h : Good n c wE m s a w) {H1 : Heap} (hl : HLe s.H H1) : Good n c wE m { s with H := H1 } a w :=
  ⟨h.here.le hl, fun β C e z h1 h2 => let ⟨k1, k2⟩ := h.old β C e z h1 h2; ⟨okB_le hl k1, k2⟩⟩

theorem Good.step {n : Nat} {c : Ctx} {wE w : World} {m : Map} {s : St} {a : Act} (h : Good n c wE m s a w) {fr1 : Fr} {H1 : Heap} (hf : FEq s.fr fr1) (hl : HLe s.H H1) : Good n c wE m ⟨fr1, H1, s.F, s.nx⟩ a w :=
  ⟨⟨h.here.sr.le hl, fun t => hf.to t _ _ _ _ ((h.here.fr t).mono (fun β C e z ho hh => ⟨okB_le hl ho, hh⟩) (MLe.refl m)), fun k hk => by rw [hf.has]; exact h.here.has k hk, h.here.sz, h.here.nx⟩,
    fun β C e z h1 h2 => let ⟨k1, k2⟩ := h.old β C e z h1 h2; ⟨okB_le hl k1, k2⟩⟩

theorem Good.set {n : Nat} {c : Ctx} {wE w : World} {m : Map} {s : St} {a : Act} (h : Good n c wE m s a w) {d : Nat} {v : AV} (hv : VLe (s.fr.get d) v) : Good n c wE m ⟨s.fr.set d v, s.H, s.F, s.nx⟩ a w :=
  ⟨⟨h.here.sr, fun t => by
    cases hd : s.fr.has d with
    | false => rw [Fr.set_not _ _ _ hd]; exact h.here.fr t
    | true =>
      show VR _ _ _ ((s.fr.set d v).get t) _
      rw [Fr.get_set _ _ _ _ hd]
      by_cases e : t = d
      · rw [if_pos e]; subst e; exact hv _ _ _ _ (h.here.fr t)
      · rw [if_neg e]; exact h.here.fr t, fun k hk => by rw [Fr.has_set]; exact h.here.has k hk, h.here.sz, h.here.nx⟩, h.old⟩

theorem Good.slot {n : Nat} {c : Ctx} {wE w : World} {m : Map} {fr : Fr} {H : Heap} {F : List Nat} {nx : Nat} {dst : Option Tmp} {v1 v : AV} {a : Act} {fr1 : Fr} (h : Good n c wE m ⟨put fr1 dst v1, H, F, nx⟩ a w) (hh : ∀ k, k < n → fr.has k = true) (hd : ∀ d, dst = some d → d < n) (hf : FEq fr fr1) (hv : VLe v1 v) :
    Good n c wE m ⟨put fr dst v, H, F, nx⟩ a w := by
  refine ⟨⟨h.here.sr, ?_, put_has hh dst v, h.here.sz, h.here.nx⟩, h.old⟩
  cases dst with
  | none => exact fun t => hf.from_ t _ _ _ _ (h.here.fr t)
  | some d =>
    intro t
    have := h.here.fr t
    show VR _ _ _ ((fr.set d v).get t) _
    change VR _ _ _ ((fr1.set d v1).get t) _ at this
    rw [Fr.get_set _ _ _ _ (by rw [hf.has]; exact hh d (hd d rfl))] at this
    rw [Fr.get_set _ _ _ _ (hh d (hd d rfl))]
    by_cases e : t = d
    · rw [if_pos e] at this ⊢; exact hv _ _ _ _ this
    · rw [if_neg e] at this ⊢; exact hf.from_ t _ _ _ _ this

/-- Behind an operation that was told over another frame. -/
theorem Good.slot2 {n : Nat} {c : Ctx} {wE w w' : World} {m m' : Map} {s : St} {H' : Heap} {F' : List Nat} {nx' : Nat} {dst : Option Tmp} {v1 v : AV} {a : Act} {cv : Value} {fr1 : Fr} (h : Good n c wE m' ⟨put fr1 dst v1, H', F', nx'⟩ (a.put dst cv) w') (h0 : Good n c wE m s a w) (hx : Ext c m s.H s.F w m' H' F' w')
    (hd : ∀ d, dst = some d → d < n) (hf : ∀ k, fr1.has k = s.fr.has k) (hv : VLe v1 v) : Good n c wE m' ⟨put s.fr dst v, H', F', nx'⟩ (a.put dst cv) w' := by
  refine ⟨⟨h.here.sr, ?_, put_has h0.here.has dst v, h.here.sz, h.here.nx⟩, h.old⟩
  have hold := FrR.ext hx h0.here.fr
  cases dst with
  | none => exact hold
  | some d =>
    have hhd := h0.here.has d (hd d rfl)
    intro t
    have := h.here.fr t
    show VR _ _ _ ((s.fr.set d v).get t) _
    change VR _ _ _ ((fr1.set d v1).get t) _ at this
    rw [Fr.get_set _ _ _ _ (by rw [hf]; exact hhd)] at this
    rw [Fr.get_set _ _ _ _ hhd]
    by_cases e : t = d
    · rw [if_pos e] at this ⊢; exact hv _ _ _ _ this
    · rw [if_neg e]
      have ht := hold t
      show VR _ _ _ _ ((a.tmps.setIfInBounds d cv).getD t undef)
      simpa [Array.getElem?_setIfInBounds_ne (Ne.symm e)] using ht

/-- A row of data that may be none, under a new number. -/
theorem Good.void {n : Nat} {c : Ctx} {wE w : World} {m : Map} {s : St} {a : Act} (h : Good n c wE m s a w) {b : Nat} (hb : m b = none) (g : GT) : Good n c wE m { s with H := hset s.H b (.tarr g []) } a w := by
  obtain ⟨x1, x2⟩ := h.here.sr.void hb g
  exact h.moves (s' := { s with H := hset s.H b (.tarr g []) }) ⟨x2, fun t => x1.vr (h.here.fr t), h.here.has, h.here.sz, h.here.nx⟩ x1

section
variable {P : Program} {S : SE}

theorem guardU_some {n : Nat} {c : Ctx} {wE w : World} {m : Map} {s : St} {a : Act} (hg : Good n c wE m s a w) {ops : List Oper} {go skip : St → Prop} {g : Option (Nat × Bool)} (h : guardU ops s go skip g) :
    ∃ s', Good n c wE m s' a w ∧ s'.nx = s.nx ∧ ((awanted ops g s'.fr = some true ∧ go s') ∨ (awanted ops g s'.fr = some false ∧ skip s')) := by
  cases g with
  | none => exact ⟨s, hg, rfl, .inl ⟨rfl, h⟩⟩
  | some p =>
    obtain ⟨j, q⟩ := p
    have h : (match guardTmp ops j with
      | some d => (match getK s.fr d with
        | .bool b => @Bool.rec (fun _ => Prop) (bK q (skip s) (go s)) (bK q (go s) (skip s)) b
        | .ub b => (b = true → bK q (go ⟨setK s.fr d (.bool true), s.H, s.F, s.nx⟩) (skip ⟨setK s.fr d (.bool true), s.H, s.F, s.nx⟩)) ∧ (b = false → bK q (skip ⟨setK s.fr d (.bool false), s.H, s.F, s.nx⟩) (go ⟨setK s.fr d (.bool false), s.H, s.F, s.nx⟩))
        | .tup [] => skip s
        | _ => False)
      | none => False) := h
    have lit : ∀ {d : Nat} {s' : St} {b : Bool}, guardTmp ops j = some d → s'.fr.get d = .bool b → Good n c wE m s' a w → s'.nx = s.nx → (@Bool.rec (fun _ => Prop) (bK q (skip s') (go s')) (bK q (go s') (skip s')) b) →
        ∃ s', Good n c wE m s' a w ∧ s'.nx = s.nx ∧ ((awanted ops (some (j, q)) s'.fr = some true ∧ go s') ∨ (awanted ops (some (j, q)) s'.fr = some false ∧ skip s')) := by
      intro d s' b hd hb hgd hnx hh
      refine ⟨s', hgd, hnx, ?_⟩
      have : awanted ops (some (j, q)) s'.fr = some (b == q) := by rw [awanted, hd]; simp only [hb, guardIs]
      rw [this]
      cases b <;> cases q <;> first | exact .inl ⟨rfl, hh⟩ | exact .inr ⟨rfl, hh⟩
    have two : ∀ {d : Nat} {b : Bool} (b' : Bool), guardTmp ops j = some d → s.fr.get d = .ub b → b = b' → Good n c wE m ⟨s.fr.set d (.bool b'), s.H, s.F, s.nx⟩ a w ∧ (s.fr.has d = true → (s.fr.set d (.bool b')).get d = .bool b') := by
      intro d b b' hd hb e
      subst e
      exact ⟨hg.set (by rw [hb]; exact bool_le b), fun hh => by rw [Fr.get_set _ _ _ _ hh, if_pos rfl]⟩
    split at h
    · rename_i d hd
      rw [getK_eq] at h
      simp only [setK_eq] at h
      have hasd : ∀ {b}, s.fr.get d = .ub b → s.fr.has d = true := by
        intro b hb
        cases hh : s.fr.has d with
        | true => rfl
        | false =>
          have : ∀ (t : Fr) (k : Nat), t.has k = false → t.get k = und := by
            intro t
            induction t with
            | nil => intro k _; rfl
            | nd v l r ihl ihr =>
              intro k hk
              rw [Fr.has] at hk
              rw [Fr.get_nd]
              split
              · rename_i h0; rw [if_pos h0] at hk; cases hk
              · rename_i h0
                rw [if_neg h0] at hk
                split
                · rename_i h1; rw [if_pos h1] at hk; exact ihl _ hk
                · rename_i h1; rw [if_neg h1] at hk; exact ihr _ hk
          rw [this s.fr d hh] at hb
          cases hb
      split at h
      · rename_i b hb
        exact lit hd hb hg rfl h
      · rename_i b hb
        cases hbb : b with
        | true =>
          obtain ⟨k1, k2⟩ := two true hd hb hbb
          exact lit hd (k2 (hasd hb)) k1 rfl (h.1 hbb)
        | false =>
          obtain ⟨k1, k2⟩ := two false hd hb hbb
          exact lit hd (k2 (hasd hb)) k1 rfl (h.2 hbb)
      · rename_i hb
        refine ⟨s, hg, rfl, .inr ⟨?_, h⟩⟩
        rw [awanted, hd]; simp only [hb, guardIs]
      · exact h.elim
    · exact h.elim

/-- A call of a function that works on its caller's own rows, as a step. -/
theorem hook_step {n : Nat} {c : Ctx} {m : Map} {s : St} {a : Act} {w : World} (ha : At n c m s a w) {id : Nat} (hid : ∀ b, id ≤ b → b < id + STRIDE → m b = none) (hlt : id + STRIDE ≤ s.nx) {ops : Array Oper} {i : Nat} {o : Oper} (ho : ops[i]? = some o)
    (hd : dstOk n o) (hw : awanted ops.toList o.guard s.fr = some true) {f : Operand} {args : Array Operand} {ts : Array TypeId} (hop : o.op = .call ⟨.value f, args, ts⟩) {g : FuncId} {caps : List AV} (hf : opnd s.fr f = .fn g caps) {k : Kont}
    (hcalls : ∀ cargs : Array Value, CR (okB c.X m s.H s.F) w.heap m (opnds s.fr args.toList ++ caps) cargs 0 → cargs.size = (opnds s.fr args.toList ++ caps).length → CallsTo P g cargs w fun cv w' => ∃ v e rd fz m', k v e rd fz ∧ Done c m s.H s.F w id v e fz cv m' w')
    {Q : Exit → Act → World → Prop} {K : Act → World → Prop}
    (hK : ∀ v e rd fz cv m' w', k v e rd fz → At n c m' ⟨put s.fr o.dst v, happ s.H e, fz ++ s.F, s.nx⟩ (a.put o.dst cv) w' → Ext c m s.H s.F w m' (happ s.H e) (fz ++ s.F) w' → (∀ b, m' b ≠ none → m b ≠ none ∨ (id ≤ b ∧ b < id + STRIDE)) → K (a.put o.dst cv) w') : wpOp P ops Q i K a w := by
  unfold wpOp
  rw [ho]
  simp only
  rw [wanted_eq ha.fr hw, if_pos rfl]
  left
  obtain ⟨dst, op, oty, pos, after, guard⟩ := o
  simp only at hop
  subst hop
  have hfv := opnd_vr ha.fr f
  rw [hf] at hfv
  obtain ⟨vs, hvs, hsz, hcr⟩ := hfv.fn_inv
  have hargs := opnds_vr ha.fr args.toList
  have key := hcalls (args.map a.eval ++ vs) (fun j x hx => by
    rcases Nat.lt_or_ge j (opnds s.fr args.toList).length with hj | hj
    · rw [List.getElem?_append_left hj] at hx
      obtain ⟨v, hv, hr⟩ := hargs j x hx
      refine ⟨v, ?_, hr⟩
      rw [Nat.zero_add] at hv ⊢
      rw [map_eval, Array.getElem?_append_left (by simpa [opnds_length] using hj)]
      exact hv
    · rw [List.getElem?_append_right hj] at hx
      obtain ⟨v, hv, hr⟩ := hcr _ x hx
      refine ⟨v, ?_, hr⟩
      rw [Nat.zero_add] at hv ⊢
      have hl : (args.map a.eval).size = (opnds s.fr args.toList).length := by simp [opnds_length]
      rw [Array.getElem?_append_right (by omega), hl]
      exact hv) (by simp [opnds_length, hsz])
  have hrun : (execOp a.eval ⟨dst, .call ⟨.value f, args, ts⟩, oty, pos, after, guard⟩).run P w = (callFunc g (args.map a.eval ++ vs)).run P w := by
    simp only [execOp, Go.resolve, hvs, Deferred.ofValue, Sem.run_bind, Sem.run_pure, Result.andThen_ok, invoke]
    simp
  have hop : OpWp P a ⟨dst, .call ⟨.value f, args, ts⟩, oty, pos, after, guard⟩ w fun cv w' => ∃ v e rd fz m', k v e rd fz ∧ Done c m s.H s.F w id v e fz cv m' w' := by
    rcases key with ⟨v, w', h1, h2⟩ | ⟨h1, h2⟩
    · exact .inl ⟨v, w', .inl (by rw [hrun]; exact h1), h2⟩
    · exact .inr ⟨g, _, by rw [hrun]; exact h1, h2⟩
  refine hop.wp (fun cv w' ⟨v, e, rd, fz, m', hk, hp⟩ => ?_) Q
  refine hK v e rd fz cv m' w' hk ⟨hp.sr, put_vr (FrR.ext hp.ext ha.fr) ha.has ha.sz hd hp.vr, put_has ha.has _ _, by rw [put_size]; exact ha.sz, fun b hb => ?_⟩ hp.ext hp.dom
  cases hm : m' b with
  | none => rfl
  | some L =>
    exfalso
    rcases hp.dom b (by rw [hm]; simp) with h1 | ⟨h1, h2⟩
    · exact h1 (ha.nx b hb)
    · have hb : s.nx ≤ b := hb
      omega

omit [Syms] in
theorem ownC_not {v : AV} (h : ownV v = true) : (∀ b, v ≠ .bool b) ∧ v ≠ .tup [] := by
  constructor
  · rintro b rfl; cases h
  · rintro rfl; cases h

/-- Rows that are taken whole ahead of an operation. -/
theorem preC_some {n : Nat} {c : Ctx} {wE w : World} {m : Map} {s : St} {a : Act} (hg : Good n c wE m s a w) {op : Op} {k : St → Prop} (h : preC op s k) : ∃ s1, k s1 ∧ Good n c wE m s1 a w ∧ s1.nx = s.nx ∧ ∀ (ops : List Oper) g, awanted ops g s.fr = some true → awanted ops g s1.fr = some true := by
  have same : k s → ∃ s1, k s1 ∧ Good n c wE m s1 a w ∧ s1.nx = s.nx ∧ ∀ (ops : List Oper) g, awanted ops g s.fr = some true → awanted ops g s1.fr = some true := fun h => ⟨s, h, hg, rfl, fun _ _ h => h⟩
  -- numbers that are written no more: their rows lie where they lay
  have frz : ∀ is : List Nat, Good n c wE m ⟨s.fr, s.H, is ++ s.F, s.nx⟩ a w := fun is => by
    obtain ⟨hx, hsr⟩ := hg.here.sr.freeze is
    exact hg.moves (s' := ⟨s.fr, s.H, is ++ s.F, s.nx⟩) ⟨hsr, fun t => hx.vr (hg.here.fr t), hg.here.has, hg.here.sz, hg.here.nx⟩ hx
  have tok : ∀ is : List Nat, ∀ b ∈ is, ∀ o L, hget s.H b = some o → m b = some L → okB c.X m s.H (is ++ s.F) L.blk := fun is b hb o L h1 h2 =>
    ⟨hg.here.sr.nox b o L h1 h2, fun q p L' h3 h4 h5 e => h4 (List.mem_append_left _ (by
      have := hg.here.sr.inj q p b o L' L h3 h1 h5 h2 e
      rw [this]; exact hb))⟩
  have hokF : ∀ is : List Nat, ∀ β, okB c.X m s.H s.F β → okB c.X m s.H (is ++ s.F) β := fun is β ho => ⟨ho.1, fun q p L h1 h2 h3 => ho.2 q p L h1 (fun h => h2 (List.mem_append_right _ h)) h3⟩
  have val : ∀ {v y : AV} {is : List Nat} {u : Value} {d : Nat}, resolve true s.H d v = some (y, is) → VR (okB c.X m s.H s.F) w.heap m v u → VR (okB c.X m s.H (is ++ s.F)) w.heap m y u := fun {v y is u d} hr hv =>
    (resolve_vr (I := fun b => b ∈ is) (hokF is) hg.here.sr.arrs (fun b L hb hm hgo => by
      cases hgo' : hget s.H b with
      | none => exact absurd hgo' hgo
      | some o => exact tok is b hb o L hgo' hm) d v y is u hr (fun b hb => hb) hv).mono (fun β C e z h1 h2 => ⟨h1, h2⟩) (fun b L hb => by cases hb)
  unfold preC at h
  split at h
  · split at h
    · rename_i x _
      rw [opndK_eq] at h
      unfold preApp at h
      split at h
      · rename_i nn b lo len _
        split at h
        · rename_i mm xs hb
          obtain ⟨hb, hbF⟩ := hlive_some hb
          cases ho : xs.any ownV with
          | false => rw [ho] at h; exact same h
          | true =>
            rw [ho] at h
            obtain ⟨p, h1, h2⟩ := resAllC_some _ _ h
            refine ⟨_, h2, ?_, rfl, fun _ _ h => h⟩
            have hgf := frz p.2
            have hra : resAll true s.H DEEP xs = some p := resAll_of h1
            have hlen := (resAll_some hra).1
            have hobj : ∀ L, m b = some L → ObjR (okB c.X m s.H (p.2 ++ s.F)) w.heap m L (.arr mm p.1) := fun L hL => by
              obtain ⟨j1, j2, j3, j4, C, e, z, j5, j6, j7, j8, j9⟩ := hg.here.sr.objm hb hL
              have ihs : ∀ d', d' ≤ DEEP → ∀ a y is v, resolve true s.H d' a = some (y, is) → (∀ b ∈ is, b ∈ p.2) → VR (okB c.X m s.H s.F) w.heap m a v → VR (okB c.X m s.H (p.2 ++ s.F)) w.heap noMap y v := fun d' _ a y is v hr hi hv =>
                resolve_vr (I := fun b => b ∈ p.2) (hokF p.2) hg.here.sr.arrs (fun b L hb hm hgo => by
                  cases hgo' : hget s.H b with
                  | none => exact absurd hgo' hgo
                  | some o => exact tok p.2 b hb o L hgo' hm) d' a y is v hr hi hv
              obtain ⟨q1, q2⟩ := resAll_flat (I := fun b => b ∈ p.2) ihs hra (fun b hb => hb) j4 j9
              refine ⟨j1, j2, by rw [hlen]; exact j3, q1, C, e, z, j5, j6, j7, by rw [hlen]; exact j8, ?_⟩
              intro j x hx
              obtain ⟨v, k1, k2⟩ := q2 j x hx
              exact ⟨v, k1, k2.mono (fun β C e z h1 h2 => ⟨h1, h2⟩) (fun b L hb => by cases hb)⟩
            have hsr := hgf.here.sr.retell (o1 := .arr mm p.1) hb hobj (fun hv => by
              rcases hv with ⟨t, hv⟩ | ⟨t, hv⟩
              · cases hv
              · cases hv
                have : p.1 = [] := List.length_eq_zero_iff.1 (by rw [hlen]; rfl)
                rw [this]; exact .inr ⟨_, rfl⟩)
            have hkk : ∀ β C e z, okB c.X m s.H (p.2 ++ s.F) β → w.heap[β]? = some (.cells C e z) → okB c.X m (hset s.H b (.arr mm p.1)) (p.2 ++ s.F) β ∧ w.heap[β]? = some (.cells C e z) := fun β C e z h1 h2 => ⟨(okB_set hb).1 h1, h2⟩
            exact hgf.moves (s' := ⟨s.fr, hset s.H b (.arr mm p.1), p.2 ++ s.F, s.nx⟩) ⟨hsr, fun t => (hgf.here.fr t).mono hkk (MLe.refl m), hg.here.has, hg.here.sz, hg.here.nx⟩ ⟨MLe.refl m, hkk⟩
        · exact same h
      · exact same h
    · exact same h
  · rename_i ty ad t
    rw [opndK_eq, getK_eq] at h
    unfold preSto at h
    split at h
    · rename_i b i off _
      split at h
      · rename_i g l hb
        cases ho : ownV (s.fr.get t) with
        | false => rw [ho] at h; exact same h
        | true =>
          rw [ho] at h
          obtain ⟨y, is, h1, h2⟩ := resC_some _ _ _ h
          rw [setK_eq] at h2
          refine ⟨_, h2, ?_, rfl, fun ops g hgw => ?_⟩
          · have hgf := frz is
            refine ⟨⟨hgf.here.sr, fun j => ?_, fun k hk => ?_, hgf.here.sz, hgf.here.nx⟩, hgf.old⟩
            · show VR (okB c.X m s.H (is ++ s.F)) w.heap m ((s.fr.set t y).get j) _
              rcases Fr.get_set_or' s.fr t j y with e | ⟨rfl, e⟩
              · rw [e]; exact hgf.here.fr j
              · rw [e]; exact val h1 (hg.here.fr j)
            · show (s.fr.set t y).has k = true
              rw [Fr.has_set]; exact hg.here.has k hk
          · obtain ⟨q1, q2⟩ := ownC_not ho
            cases g with
            | none => rfl
            | some p =>
              rw [awanted] at hgw ⊢
              split at hgw
              · rename_i d hd
                have : (s.fr.set t y).get d = s.fr.get d := by
                  rcases Fr.get_set_or' s.fr t d y with e | ⟨rfl, e⟩
                  · exact e
                  · exfalso
                    unfold guardIs at hgw
                    split at hgw
                    · rename_i b0 hb0; exact q1 b0 hb0
                    · rename_i hb0; exact q2 hb0
                    · cases hgw
                show guardIs p.2 ((s.fr.set t y).get d) = _
                rw [this]; exact hgw
              · cases hgw
      · exact same h
    · exact same h
  · exact same h

theorem opsC_wp (hT : TyOK P S.T) (hC : CallOK P (S.env false).call) (hH : HookOK P S) {n : Nat} {c : Ctx} {wE : World} {ops : Array Oper} {base : Nat} (hd : ∀ (i : Nat) (o : Oper), ops[i]? = some o → dstOk n o) {Q : Exit → Act → World → Prop} {k : St → Prop} :
    ∀ (r : List Oper) (i : Nat), ops.toList.drop i = r → ∀ {m : Map} {s : St} {a : Act} {w : World}, Good n c wE m s a w → (∀ j, i ≤ j → j < ops.size → ∀ b, base + STRIDE * j ≤ b → b < base + STRIDE * j + STRIDE → m b = none) →
    base + STRIDE * ops.size ≤ s.nx → opsC S ops.toList r (base + STRIDE * i) s k → (∀ s' m' a' w', k s' → Good n c wE m' s' a' w' → a'.defers = a.defers → Q .normal a' w') → wpOps P ops Q (List.range' i r.length) a w
  | [], i, _, m, s, a, w, hg, _, _, h, hQ => hQ s m a w h hg rfl
  | o :: r, i, hr, m, s, a, w, hg, hfree, hlt, h, hQ => by
    have ho : ops[i]? = some o := by
      rw [← Array.getElem?_toList]
      have : (ops.toList.drop i)[0]? = some o := by rw [hr]; rfl
      simpa using this
    have hi : i < ops.size := (Array.getElem?_eq_some_iff.1 ho).1
    have hr' : ops.toList.drop (i + 1) = r := by rw [← List.drop_drop, hr]; rfl
    have hmul : STRIDE * i + STRIDE ≤ STRIDE * ops.size := by
      rw [← Nat.mul_succ]; exact Nat.mul_le_mul_left _ hi
    rw [List.length_cons, List.range'_succ, wpOps_cons]
    have next : ∀ {m1 : Map} {s1 : St} {a1 : Act} {w1 : World}, Good n c wE m1 s1 a1 w1 → a1.defers = a.defers → s1.nx = s.nx → (∀ b, m1 b ≠ none → m b ≠ none ∨ (base + STRIDE * i ≤ b ∧ b < base + STRIDE * i + STRIDE) ∨ (s.nx ≤ b ∧ b < s1.nx)) →
        opsC S ops.toList r (Nat.add (base + STRIDE * i) (nat_lit 64)) s1 k → wpOps P ops Q (List.range' (i + 1) r.length) a1 w1 := by
      intro m1 s1 a1 w1 hg1 hd1 hnx hdom h1
      refine opsC_wp hT hC hH hd r (i + 1) hr' hg1 (fun j hj hjs b hb1 hb2 => ?_) (by rw [hnx]; exact hlt) (by rw [Nat.mul_succ, ← Nat.add_assoc]; exact h1) fun s' m' a' w' hk hgood hdef => hQ s' m' a' w' hk hgood (hdef.trans hd1)
      cases hm : m1 b with
      | none => rfl
      | some L =>
        exfalso
        rcases hdom b (by rw [hm]; simp) with h2 | ⟨h2, h3⟩ | ⟨h2, h3⟩
        · exact h2 (hfree j (by omega) hjs b hb1 hb2)
        · unfold STRIDE at *; omega
        · omega
    have h : guardU ops.toList s (fun s => preC o.op s fun s => opC S o.op s (base + STRIDE * i) fun v e _ fz => opsC S ops.toList r (Nat.add (base + STRIDE * i) (nat_lit 64)) ⟨putK o.dst s.fr v, happ s.H e, fz ++ s.F, s.nx⟩ k)
      (fun s => opsC S ops.toList r (Nat.add (base + STRIDE * i) (nat_lit 64)) ⟨putK o.dst s.fr und, s.H, s.F, s.nx⟩ k) o.guard := h
    obtain ⟨s00, hg00, hnx00, hw0⟩ := guardU_some hg h
    simp only [putK_eq] at hw0
    rcases hw0 with ⟨hw0, hgo0⟩ | ⟨hw, hskip⟩
    · obtain ⟨s0, hgo, hg0, hnx01, hwt⟩ := preC_some hg00 hgo0
      have hnx0 := hnx01.trans hnx00
      have hw := hwt _ _ hw0
      rcases opC_some hgo with ⟨v, e, rd, fz, ⟨H0, fr1, H1, v1, e1, rd1, kz, k0, k1, k2, k3, k4⟩, k5⟩ | ⟨f, args, ts, g, caps, hk, g1, g2, g3, g4⟩
      case inr =>
        refine hook_step hg0.here (hfree i (Nat.le_refl _) hi) (Nat.le_trans (by rw [Nat.add_assoc]; exact Nat.add_le_add_left hmul base) (by rw [hnx0]; exact hlt)) ho (hd i o ho) hw g1 g2 (fun cargs hcr hsz => hH g hk g3 _ _ _ _ _ g4 c m w cargs hg0.here.sr hcr hsz (hfree i (Nat.le_refl _) hi))
          fun v e rd fz cv m' w' hk' ha' hx hdom => ?_
        exact next (hg0.moves ha' hx) (put_defers _ _ _) hnx0 (fun b hb => (hdom b hb).imp id fun h => .inl h) hk'
      have hgv : Good n c wE m ⟨s0.fr, H0, s0.F, s0.nx⟩ a w ∧ Ext c m s0.H s0.F w m H0 s0.F w := by
        rcases kz with rfl | ⟨g, rfl⟩
        · exact ⟨hg0, Ext.refl _ _ _ _ _⟩
        · have hfree1 := hfree i (Nat.le_refl _) hi (Nat.succ (base + STRIDE * i)) (by omega) (by unfold STRIDE; omega)
          exact ⟨hg0.void hfree1 g, (hg0.here.sr.void hfree1 g).1⟩
      have hg1 : Good n c wE m ⟨fr1, H1, s0.F, s0.nx⟩ a w := by
        refine ⟨⟨hgv.1.here.sr.le k1, fun t => k0.to t _ _ _ _ ((hgv.1.here.fr t).mono (fun β C e z ho hh => ⟨okB_le k1 ho, hh⟩) (MLe.refl m)), fun k hk => by rw [k0.has]; exact hg0.here.has k hk, hg0.here.sz, hg0.here.nx⟩,
          fun β C e z h1 h2 => let ⟨k1', k2'⟩ := hgv.1.old β C e z h1 h2; ⟨okB_le k1 k1', k2'⟩⟩
      have hx1 : Ext c m s0.H s0.F w m H1 s0.F w := hgv.2.trans ⟨MLe.refl m, fun β C e z ho hh => ⟨okB_le k1 ho, hh⟩⟩
      have hw1 : awanted ops.toList o.guard fr1 = some true := by
        cases hgd : o.guard with
        | none => rfl
        | some p =>
          rw [hgd] at hw
          rw [awanted] at hw ⊢
          split at hw
          · rename_i d hd
            unfold guardIs at hw ⊢
            split at hw
            · rename_i b hb
              rw [k0.keeps d (.inl ⟨b, hb⟩), hb]; exact hw
            · rename_i hb
              rw [k0.keeps d (.inr hb), hb]; exact hw
            · cases hw
          · cases hw
      have hstep : stepOp (S.env false) ops.toList (base + STRIDE * i) o ⟨fr1, H1, s0.F, s0.nx⟩ = .at ⟨put fr1 o.dst v1, happ H1 e1, fz ++ s0.F, s0.nx⟩ := by
        unfold stepOp
        simp only [hw1, k2, behind]
      refine sim_step hT rfl hC hg1.here (hfree i (Nat.le_refl _) hi) (Nat.le_trans (by rw [Nat.add_assoc]; exact Nat.add_le_add_left hmul base) (by rw [hnx0]; exact hlt)) ho (hd i o ho) hstep fun cv m' w' ha' hmv hdom => ?_
      have hg2 := hg1.moves ha' hmv.ext
      have hg3 := hg2.slot2 hg0 (hx1.trans hmv.ext) (hd i o ho) k0.has k4
      exact next (hg3.le k3) (put_defers _ _ _) hnx0 (by simpa [hnx0] using hdom) k5
    · have hg0 := hg00
      have hnx0 := hnx00
      have hstep : stepOp (S.env false) ops.toList (base + STRIDE * i) o s00 = .at ⟨put s00.fr o.dst und, s00.H, s00.F, s00.nx⟩ := by
        unfold stepOp
        simp only [hw]
      refine sim_step hT rfl hC hg0.here (hfree i (Nat.le_refl _) hi) (Nat.le_trans (by rw [Nat.add_assoc]; exact Nat.add_le_add_left hmul base) (by rw [hnx0]; exact hlt)) ho (hd i o ho) hstep fun cv m' w' ha' hmv hdom => ?_
      exact next (hg0.moves ha' hmv.ext) (put_defers _ _ _) hnx0 (by simpa [hnx0] using hdom) hskip

omit [Syms] in
theorem Fr.set_get : ∀ (t : Fr) (k : Nat), t.set k (t.get k) = t
  | .nil, k => rfl
  | .nd v l r, k => by
    rw [Fr.set_nd, Fr.get_nd]
    by_cases h0 : k = 0
    · simp [h0]
    · rw [if_neg h0, if_neg h0]
      by_cases h1 : k % 2 = 1
      · rw [if_pos h1, if_pos h1, Fr.set_get l]
      · rw [if_neg h1, if_neg h1, Fr.set_get r]

/-- What is told as known is so. -/
def KN (_ : Nat) (kn : List (Nat × Bool)) (fr : Fr) : Prop := ∀ d b, knOf kn d = some b → fr.get d = .bool b

omit [Syms] in
theorem knOf_del (d x : Nat) : ∀ kn : List (Nat × Bool), knOf (knDel d kn) x = if d = x then none else knOf kn x
  | [] => by simp [knDel, knOf]
  | p :: r => by
    rw [knDel]
    by_cases h : p.1 = d
    · rw [h, beq_same, cond_true, knOf_del d x r, knOf, h]
      by_cases e : d = x
      · simp [e]
      · rw [if_neg e, beq_ne e, if_neg e]; rfl
    · rw [beq_ne h, cond_false, knOf, knOf, knOf_del d x r]
      by_cases e : d = x
      · subst e; rw [if_pos rfl, if_pos rfl, beq_ne h]; rfl
      · simp [e]

omit [Syms] in
theorem KN.put {n : Nat} {kn : List (Nat × Bool)} {fr : Fr} (h : KN n kn fr) (hh : ∀ k, k < n → fr.has k = true) {dst : Option Tmp} (hd : ∀ d, dst = some d → d < n) {v : AV} {q : Option Bool} (hq : ∀ b, q = some b → v = .bool b) : KN n (knPut kn dst q) (put fr dst v) := by
  intro x b hx
  cases dst with
  | none => exact h x b hx
  | some d =>
    have hd := hd d rfl
    show (fr.set d v).get x = .bool b
    rw [Fr.get_set _ _ _ _ (hh d hd)]
    by_cases e : x = d
    · subst e
      rw [if_pos rfl]
      cases q with
      | none =>
        have hx : knOf (knDel x kn) x = some b := hx
        rw [knOf_del, if_pos rfl] at hx; cases hx
      | some c =>
        have hx : knOf ((x, c) :: knDel x kn) x = some b := hx
        rw [knOf, beq_same, cond_true] at hx
        cases hx
        exact hq _ rfl
    · rw [if_neg e]
      refine h x b ?_
      cases q with
      | none =>
        have hx : knOf (knDel d kn) x = some b := hx
        rw [knOf_del, if_neg (fun e' => e e'.symm)] at hx; exact hx
      | some c =>
        have hx : knOf ((d, c) :: knDel d kn) x = some b := hx
        rw [knOf, beq_ne (fun e' => e e'.symm), cond_false, knOf_del, if_neg (fun e' => e e'.symm)] at hx; exact hx

omit [Syms] in
theorem kb_some {n : Nat} {kn : List (Nat × Bool)} {fr : Fr} (h : KN n kn fr) {x : Operand} {b : Bool} (hx : kb kn x = some b) : opnd fr x = .bool b := by
  unfold kb at hx
  split at hx
  · exact h _ b hx
  · cases hx; rfl
  · cases hx

omit [Syms] in
theorem knOp_some {n : Nat} {E : Env} {kn : List (Nat × Bool)} {s : St} (h : KN n kn s.fr) {id : Nat} {op : Op} {b : Bool} (hb : knOp kn op = some b) {v : AV} {e : Eff} {rd fz : List Nat} (ha : aop E s id op = .ok v e rd fz) : v = .bool b := by
  unfold knOp at hb
  split at hb
  · simp only [aop, kb_some h hb, rv, Res.ok.injEq] at ha; exact ha.1.symm
  · simp only [aop, kb_some h hb, rv, Res.ok.injEq] at ha; exact ha.1.symm
  · rename_i c x y
    unfold knPick at hb
    split at hb
    · rename_i hc
      simp only [aop, kb_some h hc, kb_some h hb, opPick, rv, cond_true, Res.ok.injEq] at ha; exact ha.1.symm
    · rename_i hc
      simp only [aop, kb_some h hc, kb_some h hb, opPick, rv, cond_false, Res.ok.injEq] at ha; exact ha.1.symm
    · cases hb
  · rename_i t x
    unfold knNot at hb
    split at hb
    · rename_i c hc
      cases hb
      simp only [aop, kb_some h hc, aun, ro, Res.ok.injEq] at ha; exact ha.1.symm
    · cases hb
  · cases hb

omit [Syms] in
theorem guardD_some {n : Nat} {ops : List Oper} {s : St} {kn : List (Nat × Bool)} (hkn : KN n kn s.fr) {go skip : DK} {g : Option (Nat × Bool)} (h : guardD ops s kn go skip g) :
    ∃ kn', KN n kn' s.fr ∧ ((awanted ops g s.fr = some true ∧ go s kn') ∨ (awanted ops g s.fr = some false ∧ skip s kn')) := by
  cases g with
  | none => exact ⟨kn, hkn, .inl ⟨rfl, h⟩⟩
  | some p =>
    obtain ⟨j, q⟩ := p
    have h : (match guardTmp ops j with
      | some d => (match knOf kn d with
        | some b => bK b (bK q (go s kn) (skip s kn)) (bK q (skip s kn) (go s kn))
        | none => (match getK s.fr d with
          | .bool b => (b = true → bK q (go ⟨setK s.fr d (.bool true), s.H, s.F, s.nx⟩ ((d, true) :: kn)) (skip ⟨setK s.fr d (.bool true), s.H, s.F, s.nx⟩ ((d, true) :: kn))) ∧
            (b = false → bK q (skip ⟨setK s.fr d (.bool false), s.H, s.F, s.nx⟩ ((d, false) :: kn)) (go ⟨setK s.fr d (.bool false), s.H, s.F, s.nx⟩ ((d, false) :: kn)))
          | .tup [] => skip s kn
          | _ => False))
      | none => False) := h
    have lit : ∀ {d : Nat} {b : Bool} {kn' : List (Nat × Bool)}, guardTmp ops j = some d → s.fr.get d = .bool b → KN n kn' s.fr → (bK b (bK q (go s kn') (skip s kn')) (bK q (skip s kn') (go s kn'))) →
        ∃ kn', KN n kn' s.fr ∧ ((awanted ops (some (j, q)) s.fr = some true ∧ go s kn') ∨ (awanted ops (some (j, q)) s.fr = some false ∧ skip s kn')) := by
      intro d b kn' hd hb hk hh
      refine ⟨kn', hk, ?_⟩
      have : awanted ops (some (j, q)) s.fr = some (b == q) := by rw [awanted, hd]; simp only [hb, guardIs]
      rw [this]
      cases b <;> cases q <;> first | exact .inl ⟨rfl, hh⟩ | exact .inr ⟨rfl, hh⟩
    split at h
    · rename_i d hd
      split at h
      · rename_i b hb
        exact lit hd (hkn d b hb) hkn h
      · rename_i hnone
        rw [getK_eq] at h
        simp only [setK_eq] at h
        have cons : ∀ {b : Bool}, s.fr.get d = .bool b → KN n ((d, b) :: kn) s.fr := by
          intro b hb x c hx
          rw [knOf] at hx
          by_cases e : d = x
          · subst e; rw [beq_same, cond_true] at hx; cases hx; exact hb
          · rw [beq_ne e, cond_false] at hx; exact hkn x c hx
        split at h
        · rename_i b hb
          cases hbb : b with
          | true =>
            rw [hbb] at hb
            have hs : s.fr.set d (.bool true) = s.fr := by rw [← hb]; exact Fr.set_get _ _
            have h1 := h.1 hbb
            rw [hs] at h1
            exact lit hd hb (cons hb) h1
          | false =>
            rw [hbb] at hb
            have hs : s.fr.set d (.bool false) = s.fr := by rw [← hb]; exact Fr.set_get _ _
            have h1 := h.2 hbb
            rw [hs] at h1
            exact lit hd hb (cons hb) h1
        · rename_i hb
          refine ⟨kn, hkn, .inr ⟨?_, h⟩⟩
          rw [awanted, hd]; simp only [hb, guardIs]
        · exact h.elim
    · exact h.elim

omit [Syms] in
theorem opDk_some {n : Nat} {s : St} {kn : List (Nat × Bool)} (hkn : KN n kn s.fr) {op : Op} {id : Nat} {k : Kont} (h : opDk S kn op s id k) : ∃ v e rd fz, aop (S.env true) s id op = .ok v e rd fz ∧ k v e rd fz := by
  unfold opDk at h
  split at h
  · rename_i c a b
    simp only [opndK_eq] at h
    split at h
    · rename_i hc
      have := kb_some hkn hc
      exact ⟨_, _, _, _, by simp only [aop, this, opPick, cond_true]; rfl, h⟩
    · rename_i hc
      have := kb_some hkn hc
      exact ⟨_, _, _, _, by simp only [aop, this, opPick, cond_false]; rfl, h⟩
    · exact opD_some h
  · exact opD_some h

omit [Syms] in
theorem opsD_some {n : Nat} {ops : List Oper} : ∀ (r : List Oper), (∀ o ∈ r, dstOk n o) → ∀ (id : Nat) (s : St) (kn : List (Nat × Bool)) (fs : List Foot) (k : St → List (Nat × Bool) → List Foot → Prop), KN n kn s.fr → (∀ k, k < n → s.fr.has k = true) →
    opsD S ops r id s kn fs k → ∃ s' kn' fs', seqD (S.env true) ops r id s fs = .at s' fs' ∧ k s' kn' fs'
  | [], _, id, s, kn, fs, k, _, _, h => ⟨s, kn, fs, rfl, h⟩
  | o :: r, hd, id, s, kn, fs, k, hkn, hh, h => by
    have h : guardD ops s kn (fun s kn => opDk S kn o.op s id fun v e rd fz => must (fz.all (isIn · s.F)) (opsD S ops r (Nat.add id (nat_lit 64)) ⟨putK o.dst s.fr v, happ s.H e, s.F, s.nx⟩ (knPut kn o.dst (knOp kn o.op)) (fs ++ [⟨rd, e.map (·.1), false⟩]) k))
      (fun s kn => opsD S ops r (Nat.add id (nat_lit 64)) ⟨putK o.dst s.fr und, s.H, s.F, s.nx⟩ (knPut kn o.dst none) (fs ++ [⟨[], [], false⟩]) k) o.guard := h
    simp only [putK_eq] at h
    have ho := hd o List.mem_cons_self
    have hr : ∀ o ∈ r, dstOk n o := fun o h => hd o (List.mem_cons_of_mem _ h)
    obtain ⟨kn1, hkn1, hw⟩ := guardD_some hkn h
    rcases hw with ⟨hw, hgo⟩ | ⟨hw, hskip⟩
    · obtain ⟨v, e, rd, fz, h1, h2⟩ := opDk_some hkn1 hgo
      obtain ⟨h3, h4⟩ := must_and h2
      obtain ⟨s', kn', fs', h5, h6⟩ := opsD_some r hr _ _ _ _ _ (hkn1.put hh ho fun b hb => knOp_some hkn1 hb h1) (put_has hh _ _) h4
      refine ⟨s', kn', fs', ?_, h6⟩
      rw [seqD]
      have : stepD (S.env true) ops id o s = .at ⟨put s.fr o.dst v, happ s.H e, s.F, s.nx⟩ [⟨rd, e.map (·.1), false⟩] := by
        unfold stepD
        simp only [hw, h1, behindD, h3, cond_true]
      rw [this]
      exact h5
    · obtain ⟨s', kn', fs', h5, h6⟩ := opsD_some r hr _ _ _ _ _ (hkn1.put hh ho (q := none) (v := und) fun b hb => by cases hb) (put_has hh _ _) hskip
      refine ⟨s', kn', fs', ?_, h6⟩
      rw [seqD]
      have : stepD (S.env true) ops id o s = .at ⟨put s.fr o.dst und, s.H, s.F, s.nx⟩ [⟨[], [], false⟩] := by
        unfold stepD
        simp only [hw]
      rw [this]
      exact h5

/-- From a state that is told so a text leads to states that are told so. -/
def Sem (P : Program) (n : Nat) (code : Code) (s : St) (K : AX → St → Prop) : Prop :=
  ∀ (c : Ctx) (wE : World) (m : Map) (a : Act) (w : World) (Q : Exit → Act → World → Prop), Good n c wE m s a w → a.defers = [] →
    (∀ x s' m' a' w', K x s' → Good n c wE m' s' a' w' → a'.defers = [] → Q x.out a' w') → code.wp P Q a w

/-- What tells a state tells another one. -/
def SEnt (n : Nat) (s s' : St) : Prop := ∀ (c : Ctx) (wE : World) (m : Map) (a : Act) (w : World), Good n c wE m s a w → ∃ m', Good n c wE m' s' a w

theorem Sem.weaken {n : Nat} {code : Code} {s s' : St} {K K' : AX → St → Prop} (h : Sem P n code s' K') (hs : SEnt n s s') (hK : ∀ x t, K' x t → ∃ t', K x t' ∧ SEnt n t t') : Sem P n code s K := by
  intro c wE m a w Q hg hd hQ
  obtain ⟨m', hg'⟩ := hs c wE m a w hg
  refine h c wE m' a w Q hg' hd fun x t m1 a1 w1 hk hg1 hd1 => ?_
  obtain ⟨t', h1, h2⟩ := hK x t hk
  obtain ⟨m2, hg2⟩ := h2 c wE m1 a1 w1 hg1
  exact hQ x t' m2 a1 w1 h1 hg2 hd1

omit [Syms] in
theorem SEnt.refl [Syms] (n : Nat) (s : St) : SEnt n s s := fun _ _ m _ _ h => ⟨m, h⟩

theorem SEnt.trans {n : Nat} {a b c : St} (h : SEnt n a b) (k : SEnt n b c) : SEnt n a c := fun x wE m y w hg => by
  obtain ⟨m1, h1⟩ := h x wE m y w hg
  exact k x wE m1 y w h1

theorem Good.nxt {n : Nat} {c : Ctx} {wE : World} {m : Map} {s : St} {a : Act} {w : World} (h : Good n c wE m s a w) (k : Nat) : Good n c wE m (withF s s.F k) a w := ⟨h.here.nxt k, h.old⟩

theorem ubAll_good {n : Nat} {c : Ctx} {wE w : World} {m : Map} {a : Act} {kn : List (Nat × Bool)} {H : Heap} {F : List Nat} {nx : Nat} : ∀ (ops : List Oper) {fr : Fr}, Good n c wE m ⟨fr, H, F, nx⟩ a w → Good n c wE m ⟨ubAll kn ops fr, H, F, nx⟩ a w
  | [], fr, h => h
  | o :: r, fr, h => by
    rw [ubAll]
    split
    · rename_i d hd
      split
      · exact ubAll_good r h
      · rw [setK_eq, getK_eq]
        exact ubAll_good r (h.set (d := d) (toUb_le _))
    · exact ubAll_good r h

omit [Syms] in
theorem allBits_bit {k b : Nat} (h : allBits k b = true) {j : Nat} (hj : j < k) : b.testBit j = true := by
  have : b = 2 ^ k - 1 := Nat.eq_of_beq_eq_true h
  rw [this, Nat.testBit_two_pow_sub_one]
  exact decide_eq_true hj

omit [Syms] in
theorem cutGo_ok : ∀ (bs : List Nat) (n : Nat), bs.length = n → cutGo bs n ≤ n ∧ ∀ i j, cutGo bs n ≤ i → i < n → j < i → (bs.reverse.getD i 0).testBit j = true
  | [], n, h => ⟨Nat.zero_le _, fun i j _ h2 => by simp at h; omega⟩
  | b :: r, n, h => by
    obtain ⟨n, rfl⟩ : ∃ k, n = k + 1 := ⟨n - 1, by simp at h; omega⟩
    have hr : r.length = n := by simpa using h
    obtain ⟨i1, i2⟩ := cutGo_ok r n hr
    rw [cutGo]
    cases hb : allBits (Nat.pred (n + 1)) b with
    | false => exact ⟨Nat.le_refl _, fun i j h1 h2 => by simp only [cond_false] at h1; omega⟩
    | true =>
      simp only [cond_true, Nat.pred_succ] at hb ⊢
      refine ⟨by omega, fun i j h1 h2 h3 => ?_⟩
      rw [List.reverse_cons]
      by_cases e : i = n
      · subst e
        have : (r.reverse ++ [b]).getD i 0 = b := by
          simp only [List.getD_eq_getElem?_getD]
          rw [List.getElem?_append_right (by simp [hr])]
          simp [hr]
        rw [this]
        exact allBits_bit hb h3
      · have : (r.reverse ++ [b]).getD i 0 = r.reverse.getD i 0 := by
          simp only [List.getD_eq_getElem?_getD]
          rw [List.getElem?_append_left (by simp [hr]; omega)]
        rw [this]
        exact i2 i j h1 (by omega) h3

omit [Syms] in
theorem cutOf_ok (ops : Array Oper) : cutOf ops.toList ≤ ops.size ∧ CutOK ops (cutOf ops.toList) := by
  obtain ⟨⟨t, h1, h2⟩, _⟩ := befL_spec ops.toList []
  have hl : (befL ops.toList []).reverse.length = ops.toList.length := by rw [List.length_reverse, h1]; simpa using h2
  obtain ⟨k1, k2⟩ := cutGo_ok _ _ hl
  refine ⟨by simpa [cutOf] using k1, fun i j h3 h4 h5 => ?_⟩
  have := k2 i j h3 (by simpa using h4) h5
  rw [List.reverse_reverse] at this
  exact this

theorem regC_sem (hT : TyOK P S.T) (hC : ConOK P S) (hmx : P.follows .mixedOrders = true) {n id : Nat} {ops : Array Oper} {draw : Bool} (hd : dstsOk n ops.toList = true) (hdr : drawsOk (.region id ops draw) = true) {s : St} {k : St → Prop} (h : regC S ops.toList draw s k) :
    Sem P n (.region id ops draw) s fun x s' => x = .normal ∧ k s' := by
  intro c wE m a w Q hg hdf hQ
  cases draw with
  | false =>
    have h : opsC S ops.toList ops.toList s.nx (withF s s.F ops.toList.length) k := h
    refine wp_region ?_
    have := opsC_wp hT (conCall_ok false hC) hC.hook (base := s.nx) (dsts_of hd) (Q := Q) (k := k) ops.toList 0 rfl (hg.nxt ops.toList.length) (fun j _ _ b hb _ => hg.here.nx b (by omega)) (by simp [withF]) h fun s' m' a' w' hk hg' hd' => hQ .normal s' m' a' w' ⟨rfl, hk⟩ hg' (hd'.trans hdf)
    rw [List.range_eq_range', ← Array.length_toList]
    exact this
  | true =>
    have hg1 : Good n c wE m ⟨s.fr.map unub, s.H, s.F, s.nx⟩ a w := hg.step (FEq.unub s.fr) (.refl _)
    generalize hN : cutOf ops.toList = N at h
    have h : opsD S ops.toList (ops.toList.take (cutOf ops.toList)) s.nx (withF ⟨s.fr.map unub, s.H, s.F, s.nx⟩ (frzX S (ops.toList.take (cutOf ops.toList)) s ++ s.F) ops.toList.length) [] [] fun s' kn fs => must (feetOk fs (befL ops.toList []) 0)
      (opsC S ops.toList (ops.toList.drop (cutOf ops.toList)) (s.nx + STRIDE * cutOf ops.toList) ⟨ubAll kn (ops.toList.take (cutOf ops.toList)) s'.fr, s'.H, s'.F, s'.nx⟩ k) := h
    rw [hN] at h
    obtain ⟨hle, hcut⟩ := cutOf_ok ops
    rw [hN] at hle hcut
    obtain ⟨s', kn, fs', h1, h2⟩ := opsD_some (n := n) (ops.toList.take N) (fun o ho => dstsOk_spec hd o (List.mem_of_mem_take ho)) _ _ _ _ _ (fun d b hb => by cases hb) (by intro q hq; exact hg1.here.has q hq) h
    obtain ⟨h3, h4⟩ := must_and h2
    have hok : drawOk ops.toList = true := by simpa [drawsOk] using hdr
    refine sim_drawT hT rfl (conCall_ok true hC) hmx hd hok hle hcut h1 h3 hg1.here fun a' w' m' ha' hd' hmv hfr hlt => ?_
    have hg2 := ubAll_good (kn := kn) (ops.toList.take N) (hg1.moves ha' hmv.ext)
    have := opsC_wp hT (conCall_ok false hC) hC.hook (base := s.nx) (dsts_of hd) (Q := Q) (k := k) (ops.toList.drop N) N rfl hg2 hfr hlt h4 fun s1 m1 a1 w1 hk hg1 hd1 => hQ .normal s1 m1 a1 w1 ⟨rfl, hk⟩ hg1 ((hd1.trans hd').trans hdf)
    rw [List.length_drop, Array.length_toList] at this
    exact this

/-- The loops of a text. -/
def loopsOf : Code → List Code
  | .seq a b => loopsOf a ++ loopsOf b
  | .cond _ a b => loopsOf a ++ loopsOf b
  | .block _ b => loopsOf b
  | .loop b => [b]
  | _ => []

/-- What is known of a loop holds. -/
def LoopOK (P : Program) (n : Nat) (L : St → (AX → St → Prop) → Prop) (b : Code) : Prop :=
  ∀ (s : St) (K : AX → St → Prop), L s K → Sem P n (.loop b) s K

def LoopsOK (P : Program) (S : SE) (n : Nat) (code : Code) : Prop := ∀ b ∈ loopsOf code, ∀ L, S.loop (keyOf b) = some L → LoopOK P n L b

end
end Go.Proofs.Ytjihnbjdclobgaa.VS

