/- One operation that the machine itself makes: what its proposition asks is that it is made. Conditions: none. -/
import Derived.Test.YtjihnbjdclobgaaVW2
namespace Go.Proofs.Ytjihnbjdclobgaa.VS
section
variable {S : SE} {un : Bool} {s : St} {id : Nat} {k : Kont}

theorem resK_some {r : Res} (h : resK k r) : ∃ v e rd fz, r = .ok v e rd fz ∧ k v e rd fz := by
  cases r with
  | no => exact h.elim
  | ok v e rd fz => exact ⟨v, e, rd, fz, rfl, h⟩
  | all v H F nx => exact h.elim

theorem dflt_some {op : Op} (h : resK k (aopK op (S.env un) s id)) : ∃ v e rd fz, aop (S.env un) s id op = .ok v e rd fz ∧ k v e rd fz := by
  rw [aopK_eq] at h
  exact resK_some h

theorem elemN_some {T : Tabs} {t : TypeId} {n : Nat} (h : elemN T t n = true) : ∃ e, kindOf T t = .slice e ∧ szOf T e = some n ∧ 0 < n := by
  unfold elemN at h
  split at h
  · rename_i e hk
    split at h
    · rename_i m hm
      rw [Bool.and_eq_true] at h
      exact ⟨e, hk, by rw [hm, beq_eq' h.1], blt_lt h.2⟩
    · cases h
  · cases h

theorem getD_some {α : Type} {xs : List α} {i : Nat} (d : α) (h : i < xs.length) : xs[i]? = some (xs.getD i d) := by
  rw [List.getD_eq_getElem?_getD, List.getElem?_eq_getElem h]; rfl

theorem idxC_some {t : TypeId} {x i : Operand} (h : idxC S (resK k (aopK (.indexAddr t x i) (S.env un) s id)) t k (opnd s.fr x) (opnd s.fr i)) :
    ∃ v e rd fz, aop (S.env un) s id (.indexAddr t x i) = .ok v e rd fz ∧ k v e rd fz := by
  unfold idxC at h
  split at h
  · rename_i g xs kk n hx hi
    obtain ⟨h1, ⟨h2, h3⟩, h4⟩ := must_and h
    obtain ⟨e, k1, k2, k3⟩ := elemN_some h1
    obtain ⟨j, rfl⟩ := Int.eq_ofNat_of_zero_le h2
    refine ⟨_, _, _, _, ?_, h4⟩
    simp only [aop, hx, hi, aindexAddr, SE.env, k1, k2, idxSl]
    rw [show ((j : Int).toNat) = j from rfl, getD_some g.nought (by omega : j < xs.length)]
    simp only [beq_same, cond_true, ro]
  · rename_i sz b lo len kk n hx hi
    obtain ⟨h1, ⟨h2, h3⟩, h4⟩ := must_and h
    obtain ⟨e, k1, k2, k3⟩ := elemN_some h1
    obtain ⟨j, rfl⟩ := Int.eq_ofNat_of_zero_le h2
    refine ⟨_, _, _, _, ?_, h4⟩
    simp only [aop, hx, hi, aindexAddr, SE.env, k1, k2, idxSl]
    have : Nat.blt j len = true := Nat.ble_eq_true_of_le (by omega)
    simp only [this, beq_same, Bool.and_self, cond_true, ro]
    rfl
  · exact dflt_some h

theorem indexC_some {t : TypeId} {x i : Operand} (h : indexC S (resK k (aopK (.index t x i) (S.env un) s id)) t k (opnd s.fr x) (opnd s.fr i)) :
    ∃ v e rd fz, aop (S.env un) s id (.index t x i) = .ok v e rd fz ∧ k v e rd fz := by
  unfold indexC at h
  split at h
  · rename_i l kk n hx hi
    split at h
    · rename_i hk
      obtain ⟨⟨h2, h3⟩, h4⟩ := h
      obtain ⟨j, rfl⟩ := Int.eq_ofNat_of_zero_le h2
      refine ⟨_, _, _, _, ?_, h4⟩
      simp only [aop, hx, hi, aindex, SE.env, hk]
      rw [show ((j : Int).toNat) = j from rfl, getD_some (0 : UInt8) (by omega : j < l.length)]
      rfl
    · exact h.elim
  · exact dflt_some h

theorem loadC_some {t : TypeId} {a : Operand} (h : loadC S s.H (resK k (aopK (.load t a) (S.env un) s id)) t k (opnd s.fr a)) :
    ∃ v e rd fz, aop (S.env un) s id (.load t a) = .ok v e rd fz ∧ k v e rd fz := by
  unfold loadC at h
  split at h
  · rename_i b i off ha
    split at h
    · rename_i g xs hb
      obtain ⟨h1, h2⟩ := h
      obtain ⟨v, h3, h4⟩ := optC_some h2
      refine ⟨_, _, _, _, ?_, h4⟩
      simp only [aop, ha, aload, cellsAt, hb, getD_some g.nought h1, SE.env, h3, rr, idOf]
    · exact dflt_some h
  · exact dflt_some h

theorem bnd_of {d : Nat} {o : Option AV} {z : Int} (h : bndZ d o = some z) (hz : 0 ≤ z) : bnd d o = some z.toNat := by
  unfold bndZ at h
  split at h
  · cases h; rfl
  · rename_i n
    cases h
    obtain ⟨j, rfl⟩ := Int.eq_ofNat_of_zero_le hz
    rfl
  · cases h

theorem bnds_of {n : Nat} {lo hi : Option AV} {l h : Int} (h1 : bndZ 0 lo = some l) (h2 : bndZ n hi = some h) (h3 : 0 ≤ l ∧ l ≤ h ∧ h ≤ n) : bnds n lo hi = some (l.toNat, h.toNat) := by
  unfold bnds
  rw [show (0 : Int) = ((0 : Nat) : Int) from rfl] at h1
  rw [bnd_of h1 h3.1, bnd_of h2 (by omega)]
  simp only
  rw [show (l.toNat.ble h.toNat && h.toNat.ble n) = true by rw [Bool.and_eq_true]; exact ⟨Nat.ble_eq_true_of_le (by omega), Nat.ble_eq_true_of_le (by omega)⟩]
  rfl

theorem mapO_none (fr : Fr) : mapO fr none = none := rfl

theorem sliceC_some {t : TypeId} {x : Operand} {lo hi : Option Operand} (h : sliceC S (resK k (aopK (.slice t x lo hi none) (S.env un) s id)) t k (mapO s.fr lo) (mapO s.fr hi) (opnd s.fr x)) :
    ∃ v e rd fz, aop (S.env un) s id (.slice t x lo hi none) = .ok v e rd fz ∧ k v e rd fz := by
  unfold sliceC at h
  split at h
  · rename_i g xs hx
    obtain ⟨h1, h⟩ := must_and h
    obtain ⟨e, k1, k2, k3⟩ := elemN_some h1
    split at h
    · rename_i l hh hl hhi
      obtain ⟨h2, h4⟩ := h
      refine ⟨_, _, _, _, ?_, h4⟩
      obtain ⟨n, hn⟩ : ∃ n, g.size = n + 1 := ⟨g.size - 1, by omega⟩
      simp only [aop, hx, aslice, mapO_none, SE.env, k1, k2, hn, asliceV, bnds_of hl hhi h2, beq_same, cond_true, ro]
    · exact h.elim
  · rename_i sz b o len hx
    obtain ⟨h1, h⟩ := must_and h
    obtain ⟨e, k1, k2, k3⟩ := elemN_some h1
    split at h
    · rename_i l hh hl hhi
      obtain ⟨h2, h4⟩ := h
      refine ⟨_, _, _, _, ?_, h4⟩
      obtain ⟨n, hn⟩ : ∃ n, sz = n + 1 := ⟨sz - 1, by omega⟩
      subst hn
      simp only [aop, hx, aslice, mapO_none, SE.env, k1, k2, asliceV, bnds_of hl hhi h2, beq_same, cond_true, ro]
    · exact h.elim
  · rename_i l hx
    split at h
    · rename_i hk
      split at h
      · rename_i lz hz hl hhi
        obtain ⟨h2, h4⟩ := h
        refine ⟨_, _, _, _, ?_, h4⟩
        simp only [aop, hx, aslice, mapO_none, SE.env, hk, bnds_of hl hhi h2, ro]
      · exact h.elim
    · exact h.elim
  · exact dflt_some h

theorem allFieldsB_eq {f f' : Fd → Option Bool} (hf : ∀ x b, f' x = some b → f x = some b) : ∀ {l : List Fd} {b : Bool}, allFieldsB f' l = some b → allFields f l = some b
  | [], b, h => h
  | [x], b, h => by
    rw [allFieldsB] at h
    rw [allFields]
    cases hb : x.blank with
    | true => rw [hb] at h; exact h
    | false =>
      rw [hb, cond_false] at h
      rw [cond_false, hf x b h]
      cases b <;> rfl
  | x :: y :: r, b, h => by
    rw [allFieldsB] at h
    · rw [allFields]
      cases hb : x.blank with
      | true => rw [hb, cond_true] at h; rw [cond_true]; exact allFieldsB_eq hf h
      | false =>
        rw [hb, cond_false] at h
        rw [cond_false]
        split at h
        · rename_i a c ha hc
          cases h
          rw [hf x a ha]
          cases a
          · rfl
          · simp only [Bool.true_and]; exact allFieldsB_eq hf hc
        · cases h
    · nofun

theorem aeqB_eq (T : Tabs) : ∀ (d : Nat) (t : TypeId) (x y : AV) (b : Bool), aeqB T d t x y = some b → aeq T d t x y = some b
  | 0, _, _, _, _, h => by cases h
  | d + 1, t, x, y, b, h => by
    rw [aeqB] at h
    rw [aeq]
    split at h
    · rename_i i hi
      rw [hi]
      split at h
      · rename_i fs xs ys hk
        simp only [hk]
        cases hc : i.cmp with
        | false => rw [hc] at h; cases h
        | true =>
          rw [hc, cond_true] at h
          rw [cond_true]
          refine allFieldsB_eq (fun f c hf => ?_) h
          unfold both at hf ⊢
          split at hf
          · rename_i p q hp hq
            exact aeqB_eq T d _ _ _ _ hf
          · cases hf
      · rename_i hne
        simp only
        exact h
    · cases h

theorem binC_some {op : BinOp} {t : TypeId} {x y : Operand} {c : TypeId} (h : binC S (resK k (aopK (.binOp op t x y c) (S.env un) s id)) op t k (opnd s.fr x) (opnd s.fr y)) :
    ∃ v e rd fz, aop (S.env un) s id (.binOp op t x y c) = .ok v e rd fz ∧ k v e rd fz := by
  unfold binC at h
  split at h
  · rename_i a b hx hy
    split at h
    · obtain ⟨h1, h2⟩ := h
      refine ⟨_, _, _, _, ?_, h2⟩
      simp only [aop, hx, hy, abin, astr]
      rw [show (a.length + b.length).ble 1099511627776 = true from Nat.ble_eq_true_of_le h1]
      rfl
    · exact dflt_some h
  · rename_i xs ys hx hy
    split at h
    · obtain ⟨b, h1, h2⟩ := optC_some h
      refine ⟨_, _, _, _, ?_, h2⟩
      simp only [aop, hx, hy, abin, aeqOp, SE.env, aeqB_eq _ _ _ _ _ _ h1, yesO, ro]
    · obtain ⟨b, h1, h2⟩ := optC_some h
      refine ⟨_, _, _, _, ?_, h2⟩
      simp only [aop, hx, hy, abin, aeqOp, SE.env, aeqB_eq _ _ _ _ _ _ h1, notO, ro]
    · exact dflt_some h
  · exact dflt_some h

theorem toBytes_encs : ∀ xs : List UInt8, toBytes (encs .u8 xs) = some xs
  | [] => rfl
  | b :: r => by
    show (match toBytes (encs .u8 r) with
      | some s => some (UInt8.ofNat ((b.toNat : Int)).toNat :: s)
      | none => none) = _
    rw [toBytes_encs r]
    show some (UInt8.ofNat b.toNat :: r) = _
    rw [UInt8.ofNat_toNat]

theorem strC_some {a b : TypeId} {x : Operand} (h : strC S s.H (resK k (aopK (.convert a b x) (S.env un) s id)) a b k (opnd s.fr x)) :
    ∃ v e rd fz, aop (S.env un) s id (.convert a b x) = .ok v e rd fz ∧ k v e rd fz := by
  unfold strC at h
  split at h
  · rename_i el hd hs
    split at h
    · rename_i xs hx
      obtain ⟨h1, h2⟩ := must_and h
      refine ⟨_, _, _, _, ?_, h2⟩
      simp only [aop, hx, SE.env, aconvert, hd, strOf, hs, toStr, h1, cond_true, elems, toBytes_encs, idOf]
    · rename_i bb lo len hx
      split at h
      · rename_i xs hb
        obtain ⟨h1, h3, h2⟩ := must_and h
        refine ⟨_, _, _, _, ?_, h2⟩
        have e1 : ((encs .u8 xs).drop lo).take len = encs .u8 ((xs.drop lo).take len) := by simp [encs, List.map_take, List.map_drop]
        simp only [aop, hx, SE.env, aconvert, hd, strOf, hs, toStr, h1, cond_true, elems, hb, show (lo + len).ble xs.length = true from Nat.ble_eq_true_of_le h3, e1, toBytes_encs, idOf]
      · exact dflt_some h
    · exact dflt_some h
  · exact dflt_some h

theorem callC_some {f : Operand} {args : Array Operand} {ts : Array TypeId} (h : callC S un s id k (opnd s.fr f) (opnds s.fr args.toList)) :
    ∃ v e rd fz, aop (S.env un) s id (.call ⟨.value f, args, ts⟩) = .ok v e rd fz ∧ k v e rd fz := by
  unfold callC at h
  split at h
  · rename_i _ _ g caps hf
    cases hp : (opnds s.fr args.toList ++ caps).any (hasPtr DEEP) with
    | true => rw [hp] at h; exact h.elim
    | false =>
      rw [hp, cond_false] at h
      obtain ⟨cn, h1, h2⟩ := optC_some h
      obtain ⟨p, h3, h4⟩ := resAllC_some _ _ h2
      obtain ⟨c, h5, h6, h7⟩ := optC_some h4
      have hcall : conCall S un g p.1 [] [] 0 = .ok (ansV un c.v) c.H [] WIDE := by
        simp only [conCall, h1, h5]
        exact if_pos h6
      unfold pureC at h7
      have hop : aop (S.env un) s id (.call ⟨.value f, args, ts⟩) = pureAns (S.own g) id p.2 (.ok (ansV un c.v) c.H [] WIDE) := by
        simp only [aop, opCall, hf, acallee, acallOp, SE.env, SE.cfg, hp, Bool.or_self, Bool.not_false, cond_false, h3, hcall]
      rw [hop]
      cases ho : S.own g with
      | true =>
        rw [ho, cond_true] at h7
        exact resK_some h7
      | false =>
        rw [ho, cond_false] at h7
        obtain ⟨r, h8, h9⟩ := optC_some h7
        refine ⟨_, _, _, _, ?_, h9⟩
        simp only [pureAns, cond_false, h8]
  · exact h.elim

theorem opD_some {op : Op} (h : opD S un op s id k) : ∃ v e rd fz, aop (S.env un) s id op = .ok v e rd fz ∧ k v e rd fz := by
  unfold opD at h
  simp only [opndK_eq, opndsK_eq] at h
  split at h
  · exact idxC_some h
  · exact indexC_some h
  · exact loadC_some h
  · exact sliceC_some h
  · exact binC_some h
  · rename_i c a b
    unfold pickC at h
    split at h
    · rename_i q hq
      refine ⟨_, _, _, _, by simp only [aop, hq, opPick]; rfl, ?_⟩
      cases q
      · exact h.2 rfl
      · exact h.1 rfl
    · exact h.elim
  · exact strC_some h
  · exact callC_some h
  · exact dflt_some h

end

/-- The contracts hold. -/
def ConOK [Syms] (P : Program) (S : SE) : Prop :=
  ∀ f g args c, S.con f = some g → g args = some c → c.pre → ∀ (cx : Ctx) (m : Map) (w : World) (cargs : Array Value), SR cx m [] [] w → CR (okB cx.X m [] []) w.heap m args cargs 0 → cargs.size = args.length →
    (∀ b, m b = none) → CallsTo P f cargs w fun cv w' => ∃ m', After cx m [] [] w 0 c.v c.H [] WIDE cv m' w'

theorem unubD_le [Syms] : ∀ (d : Nat) (v : AV), VLe v (unubD d v)
  | 0, v => .refl v
  | d + 1, v => by
    have all : ∀ cs : List AV, CLe cs (cs.map (unubD d)) := fun cs => by
      induction cs with
      | nil => exact .nil
      | cons a cs ih => exact .cons (unubD_le d a) ih
    cases v with
    | ub b => exact bool_le b
    | agg cs => exact .agg (all cs)
    | tup cs => exact .tup (all cs)
    | _ => exact .refl _

theorem ansV_le [Syms] (un : Bool) (v : AV) : VLe v (ansV un v) := by
  cases un
  · exact .refl v
  · exact unubD_le 4 v

theorem conCall_ok [Syms] {P : Program} {S : SE} (un : Bool) (h : ConOK P S) : CallOK P (S.env un).call := by
  intro f args H F nx v H' F' nx' hc cx m w cargs hs hr hsz hnx
  have hc : conCall S un f args H F nx = .ok v H' F' nx' := hc
  unfold conCall at hc
  split at hc
  · split at hc
    · rename_i g hg
      split at hc
      · rename_i c hgc
        split at hc
        · rename_i hp
          cases hc
          refine (h f g args c hg hgc hp cx m w cargs hs hr hsz fun b => hnx b (Nat.zero_le b)).mono fun cv w' ⟨m', ha⟩ => ⟨m', ha.ext, ha.sr, ansV_le un c.v _ _ _ _ ha.vr, ha.le, ha.dom⟩
        · cases hc
      · cases hc
    · cases hc
  · cases hc

end Go.Proofs.Ytjihnbjdclobgaa.VS
