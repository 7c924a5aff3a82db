/- Operations that turn rows of trees into rows of data: what they leave. Conditions: none. -/
import Derived.Test.YtjihnbjdclobgaaVW3
namespace Go.Proofs.Ytjihnbjdclobgaa.VS
variable [Syms]

/-- What tells an object tells another one. -/
def ObjLe (o o1 : AObj) : Prop := ∀ (ok : Nat → Prop) (h : Array Obj) (m : Map) (L : Loc), ObjR ok h m L o → ObjR ok h m L o1

theorem ObjLe.refl (o : AObj) : ObjLe o o := fun _ _ _ _ h => h

def HLe (H H1 : Heap) : Prop := ∀ b, (hget H b = none ∧ hget H1 b = none) ∨ ∃ o o1, hget H b = some o ∧ hget H1 b = some o1 ∧ ObjLe o o1

theorem HLe.refl (H : Heap) : HLe H H := fun b => by
  cases h : hget H b with
  | none => exact .inl ⟨rfl, rfl⟩
  | some o => exact .inr ⟨o, o, rfl, rfl, .refl o⟩

theorem HLe.set {H H1 : Heap} (h : HLe H H1) {o o1 : AObj} (ho : ObjLe o o1) (b : Nat) : HLe (hset H b o) (hset H1 b o1) := fun x => by
  rw [hget_hset, hget_hset]
  by_cases e : b = x
  · rw [if_pos e, if_pos e]; exact .inr ⟨o, o1, rfl, rfl, ho⟩
  · rw [if_neg e, if_neg e]; exact h x

theorem HLe.del {H H1 : Heap} (h : HLe H H1) (b : Nat) : HLe (hdel H b) (hdel H1 b) := fun x => by
  rw [hget_hdel, hget_hdel]
  by_cases e : b = x
  · rw [if_pos e, if_pos e]; exact .inl ⟨rfl, rfl⟩
  · rw [if_neg e, if_neg e]; exact h x

/-- An object that stands in another one's place. -/
theorem HLe.put {H : Heap} {b : Nat} {o o1 : AObj} (hb : hget H b = some o) (h : ObjLe o o1) : HLe H (hset H b o1) := fun x => by
  rw [hget_hset]
  by_cases e : b = x
  · subst e; rw [if_pos rfl]; exact .inr ⟨o, o1, hb, rfl, h⟩
  · rw [if_neg e]; exact HLe.refl H x
theorem HLe.back {H : Heap} {b : Nat} {o o1 : AObj} (hb : hget H b = some o) (h : ObjLe o1 o) : HLe (hset H b o1) H := fun x => by
  rw [hget_hset]
  by_cases e : b = x
  · subst e; rw [if_pos rfl]; exact .inr ⟨o1, o, rfl, hb, h⟩
  · rw [if_neg e]; exact HLe.refl H x

theorem okB_le {X : Nat → Prop} {m : Map} {H H1 : Heap} {F : List Nat} (h : HLe H H1) {β : Nat} : okB X m H F β → okB X m H1 F β := fun ho =>
  ⟨ho.1, fun b o L hb hf hm => by
    rcases h b with ⟨_, h2⟩ | ⟨o', o1, h1, h2, _⟩
    · rw [h2] at hb; cases hb
    · exact ho.2 b o' L h1 hf hm⟩

theorem SR.le {c : Ctx} {m : Map} {H H1 : Heap} {F : List Nat} {w : World} (hs : SR c m H F w) (h : HLe H H1) : SR c m H1 F w := by
  have back : ∀ {b o}, hget H1 b = some o → ∃ o', hget H b = some o' ∧ ObjLe o' o := fun {b o} hb => by
    rcases h b with ⟨_, h2⟩ | ⟨o', o1, h1, h2, h3⟩
    · rw [h2] at hb; cases hb
    · rw [h2] at hb; cases hb; exact ⟨o', h1, h3⟩
  refine ⟨hs.xlt, fun b o hb => ?_, fun b o b' o' L L' h1 h2 => ?_, fun b o L hb => ?_, fun b o L hb => ?_, hs.keep⟩
  · obtain ⟨o', h1, h2⟩ := back hb
    obtain ⟨L, k1, k2⟩ := hs.obj b o' h1
    exact ⟨L, k1, (h2 _ _ _ _ k2).mono (fun β C e z ho hh => ⟨okB_le h ho, hh⟩) (MLe.refl m) rfl⟩
  · obtain ⟨p, p1, _⟩ := back h1
    obtain ⟨q, q1, _⟩ := back h2
    exact hs.inj b p b' q L L' p1 q1
  · obtain ⟨p, p1, _⟩ := back hb
    exact hs.nox b p L p1
  · obtain ⟨p, p1, _⟩ := back hb
    exact hs.own b p L p1

theorem At.le {n : Nat} {c : Ctx} {m : Map} {s : St} {a : Act} {w : World} (ha : At n c m s a w) {H1 : Heap} (h : HLe s.H H1) : At n c m { s with H := H1 } a w :=
  ⟨ha.sr.le h, fun t => (ha.fr t).mono (fun _ _ _ _ ho hh => ⟨okB_le h ho, hh⟩) (MLe.refl m), ha.has, ha.sz, ha.nx⟩

theorem DRow.obj {g : GT} {ps : List AV} {xs : List g.T} (h : DRow g ps xs) : ObjLe (.arr g.size ps) (.tarr g xs) := fun ok hh m L hr => by
  obtain ⟨h1, h2, h3, h4, C, e, z, h5, h6, h7, h8, h9⟩ := hr
  exact ⟨h1, h2, by rw [h3, h.length, encs_length], encs_size g xs, C, e, z, h5, h6, h7, by rw [encs_length, ← h.length]; exact h8, h9.le h.flat⟩

theorem tarr_le (g : GT) (xs : List g.T) : ObjLe (.tarr g xs) (.arr g.size (encs g xs)) := fun _ _ _ _ h => h
theorem arr_le (g : GT) (xs : List g.T) : ObjLe (.arr g.size (encs g xs)) (.tarr g xs) := fun _ _ _ _ h => h

/-- Frames that tell the same. -/
structure FEq (fr fr1 : Fr) : Prop where
  to : ∀ k, VLe (fr.get k) (fr1.get k)
  from_ : ∀ k, VLe (fr1.get k) (fr.get k)
  has : ∀ k, fr1.has k = fr.has k
  keeps : ∀ k, ((∃ b, fr.get k = .bool b) ∨ fr.get k = .tup []) → fr1.get k = fr.get k

theorem FEq.refl (fr : Fr) : FEq fr fr := ⟨fun _ => .refl _, fun _ => .refl _, fun _ => rfl, fun _ _ => rfl⟩

/-- What an operation leaves, told better. -/
def OpStep (E : Env) (s : St) (id : Nat) (op : Op) (v : AV) (e : Eff) (fz : List Nat) : Prop :=
  ∃ fr1 H1 v1 e1 rd1, FEq s.fr fr1 ∧ HLe s.H H1 ∧ aop E ⟨fr1, H1, s.F, s.nx⟩ id op = .ok v1 e1 rd1 fz ∧ HLe (happ H1 e1) (happ s.H e) ∧ VLe v1 v

theorem OpStep.heap {E : Env} {s : St} {id : Nat} {op : Op} {v : AV} {e : Eff} {fz : List Nat} (h : ∃ H1 v1 e1 rd1, HLe s.H H1 ∧ aop E { s with H := H1 } id op = .ok v1 e1 rd1 fz ∧ HLe (happ H1 e1) (happ s.H e) ∧ VLe v1 v) : OpStep E s id op v e fz := by
  obtain ⟨H1, v1, e1, rd1, h1, h2, h3, h4⟩ := h
  exact ⟨s.fr, H1, v1, e1, rd1, .refl _, h1, h2, h3, h4⟩

theorem OpStep.same {E : Env} {s : St} {id : Nat} {op : Op} {v : AV} {e : Eff} {rd fz : List Nat} (h : aop E s id op = .ok v e rd fz) : OpStep E s id op v e fz :=
  .heap ⟨s.H, v, e, rd, .refl _, h, .refl _, .refl _⟩

theorem OpStep.up {E : Env} {s : St} {id : Nat} {op : Op} {v v' : AV} {e : Eff} {fz : List Nat} (h : OpStep E s id op v e fz) (hv : VLe v v') : OpStep E s id op v' e fz := by
  obtain ⟨fr1, H1, v1, e1, rd1, h0, h1, h2, h3, h4⟩ := h
  exact ⟨fr1, H1, v1, e1, rd1, h0, h1, h2, h3, h4.trans hv⟩

omit [Syms] in
theorem Fr.get_map {f : AV → AV} (hf : f und = und) : ∀ (t : Fr) (k : Nat), (t.map f).get k = f (t.get k)
  | .nil, k => hf.symm
  | .nd v l r, k => by
    rw [Fr.map, Fr.get_nd, Fr.get_nd]
    split
    · rfl
    · split
      · exact Fr.get_map hf l _
      · exact Fr.get_map hf r _

omit [Syms] in
theorem Fr.has_map {f : AV → AV} : ∀ (t : Fr) (k : Nat), (t.map f).has k = t.has k
  | .nil, k => rfl
  | .nd v l r, k => by
    rw [Fr.map, Fr.has, Fr.has]
    split
    · rfl
    · split
      · exact Fr.has_map l _
      · exact Fr.has_map r _

theorem unub_le (v : AV) : VLe v (unub v) := by cases v <;> first | exact bool_le _ | exact .refl _
theorem le_unub (v : AV) : VLe (unub v) v := by cases v <;> first | exact ub_le _ | exact .refl _

theorem FEq.unub (fr : Fr) : FEq fr (fr.map unub) :=
  ⟨fun k => by rw [Fr.get_map rfl]; exact unub_le _, fun k => by rw [Fr.get_map rfl]; exact le_unub _, fun k => Fr.has_map fr k, fun k h => by
    rw [Fr.get_map rfl]
    rcases h with ⟨b, h⟩ | h <;> rw [h] <;> rfl⟩

omit [Syms] in
theorem unub_ofV1 (v : Value) : Go.Proofs.Ytjihnbjdclobgaa.VS.unub (ofV1 v) = ofV1 v := by unfold ofV1; split <;> rfl
omit [Syms] in
theorem opnd_unub (fr : Fr) (x : Operand) : opnd (fr.map Go.Proofs.Ytjihnbjdclobgaa.VS.unub) x = Go.Proofs.Ytjihnbjdclobgaa.VS.unub (opnd fr x) := by
  cases x with
  | tmp t => exact Fr.get_map rfl fr t
  | const v =>
    show ofV v = _
    cases v <;> first | rfl | exact (unub_ofV1 _).symm
  | func f => rfl
  | global g => rfl

section
variable {S : SE} {s : St} {id : Nat} {k : Kont}

omit [Syms] in
theorem listOf_tl {g g' : GT} {d : AV → Option g.T} {xs : List g'.T} {l : List g.T} (h : listOf g d (.tl g' xs) = some l) : ∃ e : g' = g, l = e ▸ xs := by
  unfold listOf at h
  simp only at h
  split at h
  · rename_i e; cases h; exact ⟨e, rfl⟩
  · cases h

/-- The heap but for rows of data that are told as rows of trees. -/
def HArr (H H1 : Heap) : Prop := ∀ b, hget H1 b = hget H b ∨ ∃ t xs, hget H b = some (.tarr t xs) ∧ hget H1 b = some (.arr t.size (encs t xs))

theorem elemsC_some {H H1 : Heap} (hH : HArr H H1) {g : GT} {K : List g.T → Prop} {x : AV} (h : elemsC H g K x) : ∃ ps ys, elems H1 x = some ps ∧ DRow g ps ys ∧ K ys := by
  unfold elemsC at h
  split at h
  · rename_i g' xs
    obtain ⟨l, h1, h2⟩ := optC_some h
    obtain ⟨e, rfl⟩ := listOf_tl h1
    subst e
    exact ⟨_, _, rfl, DRow.encs _ _, h2⟩
  · rename_i s' b lo len
    split at h
    · rename_i n xs hb
      obtain ⟨h1, h2⟩ := h
      obtain ⟨l, h3, h4⟩ := optC_some h2
      have : hget H1 b = some (.arr n xs) := by
        rcases hH b with h5 | ⟨t, q, h5, h6⟩
        · rw [h5, hb]
        · rw [hb] at h5; cases h5
      refine ⟨_, _, ?_, decAll_row (dec_dec g) h3, h4⟩
      simp only [elems, this, show (lo + len).ble xs.length = true from Nat.ble_eq_true_of_le h1, cond_true]
    · rename_i g' xs hb
      obtain ⟨h1, h2⟩ := h
      obtain ⟨l, h3, h4⟩ := optC_some h2
      obtain ⟨e, rfl⟩ := listOf_tl h3
      subst e
      refine ⟨((encs g' xs).drop lo).take len, _, ?_, ((DRow.encs g' xs).drop lo).take len, h4⟩
      rcases hH b with h5 | ⟨t, q, h5, h6⟩
      · simp only [elems, h5, hb, show (lo + len).ble xs.length = true from Nat.ble_eq_true_of_le h1, cond_true]
      · rw [hb] at h5; cases h5
        simp only [elems, h6, encs_length, show (lo + len).ble xs.length = true from Nat.ble_eq_true_of_le h1, cond_true]
    · exact h.elim
  · exact ⟨_, _, rfl, .nil, h⟩
  · exact ⟨_, _, rfl, .nil, h⟩
  · obtain ⟨l, h3, h4⟩ := optC_some h
    exact ⟨_, _, rfl, decAll_row (dec_dec g) h3, h4⟩
  · rename_i l
    split at h
    · exact ⟨_, _, rfl, DRow.encs .u8 l, h⟩
    · exact h.elim
  · exact h.elim

omit [Syms] in
theorem room_of {n by_ : Nat} (h : roomP n by_) : room n by_ = true := Nat.ble_eq_true_of_le h

omit [Syms] in
theorem row_nil {g : GT} {ps : List AV} {ys : List g.T} (h : ps.length = ys.length) : ys = [] → ps = [] := fun e => by subst e; exact List.length_eq_zero_iff.1 h

omit [Syms] in
theorem HArr.refl (H : Heap) : HArr H H := fun _ => .inl rfl

omit [Syms] in
theorem HArr.put {H : Heap} {b : Nat} {g : GT} {xs : List g.T} (hb : hget H b = some (.tarr g xs)) : HArr H (hset H b (.arr g.size (encs g xs))) := fun x => by
  rw [hget_hset]
  by_cases e : b = x
  · subst e; rw [if_pos rfl]; exact .inr ⟨g, xs, hb, rfl⟩
  · rw [if_neg e]; exact .inl rfl

omit [Syms] in
theorem srcKind_elems {T : Tabs} {H : Heap} {z x : AV} {xt : TypeId} (h : srcKind T xt = true) : appended T H z xt x = elems H x := by
  unfold srcKind at h
  unfold appended
  split at h
  · rename_i hk; rw [hk]
  · rename_i e hk; rw [hk]
  · cases h

theorem appNew_some {H : Heap} {F : List Nat} {by_ : Nat} {g : GT} {base : AV} (hbase : base = .nils ∨ base = .emp) {ps : List AV} {ys : List g.T} (hr : DRow g ps ys) {rd : List Nat} (h : appNew id by_ g k base ys) :
    ∃ v e rd' fz v1 e1 rd1, k v e rd' fz ∧ appendV H F id g.size by_ rd base ps = .ok v1 e1 rd1 fz ∧ (∀ H0, HLe H H0 → HLe (happ H e1) (happ H0 e)) ∧ VLe v1 v := by
  cases hr with
  | nil =>
    rcases hbase with rfl | rfl <;> exact ⟨_, _, _, _, _, _, _, h.1 rfl, rfl, fun _ h => h, .refl _⟩
  | @cons a x ps xs h1 h2 =>
    obtain ⟨h3, h4⟩ := h.2 (by simp)
    have hl : (a :: ps).length = (x :: xs).length := by simp [h2.length]
    refine ⟨_, _, _, _, .osl g.size id 0 (x :: xs).length, [(id, some (.arr g.size (a :: ps)))], rd, h4, ?_, fun H0 hH => hH.set (DRow.obj (.cons h1 h2)) id, .refl _⟩
    rcases hbase with rfl | rfl <;> simp only [appendV, hl, room_of h3, cond_true, newArr]

theorem appOld_some {H : Heap} {F : List Nat} {by_ b lo len : Nat} {g : GT} {xs ps : List AV} {l ys : List g.T} (hb : hlive H F b = some (.arr g.size xs)) (hx : DRow g xs l) (hr : DRow g ps ys) {rd : List Nat} (h : appOld id by_ g k b lo len l ys) :
    ∃ v e rd' fz v1 e1 rd1, k v e rd' fz ∧ appendV H F id g.size by_ rd (.osl g.size b lo len) ps = .ok v1 e1 rd1 fz ∧ (∀ H0, HLe H H0 → HLe (happ H e1) (happ H0 e)) ∧ VLe v1 v := by
  obtain ⟨⟨rfl, rfl⟩, h1, h2⟩ := h
  cases hr with
  | nil => exact ⟨_, _, _, _, _, _, _, h1 rfl, rfl, fun _ h => h, .refl _⟩
  | @cons a y ps ys q1 q2 =>
    obtain ⟨h3, h4⟩ := h2 (by simp)
    have hrow : DRow g (xs ++ a :: ps) (l ++ y :: ys) := hx.append (.cons q1 q2)
    have hlx := hx.length
    have hlp := q2.length
    refine ⟨_, _, _, _, .osl g.size id 0 (l ++ y :: ys).length, [(id, some (.arr g.size (xs ++ a :: ps))), (b, none)], rd, h4, ?_, fun H0 hH => (hH.set hrow.obj id).del b, .refl _⟩
    simp only [appendV, appendTo, hb, beq_same, Bool.and_self, Bool.true_and]
    have e1 : (0 + l.length).ble xs.length = true := Nat.ble_eq_true_of_le (by omega)
    have e2 : room (l.length + (a :: ps).length) by_ = true := by
      have := room_of h3
      rw [List.length_append, List.length_cons] at this
      rw [List.length_cons, hlp]; exact this
    have e3 : (0 + l.length + (a :: ps).length).ble xs.length = false := by
      cases hq : (0 + l.length + (a :: ps).length).ble xs.length with
      | false => rfl
      | true =>
        have := Nat.le_of_ble_eq_true hq
        simp only [List.length_cons] at this
        omega
    rw [e1, e2, e3]
    simp only [Bool.and_self, cond_true, cond_false, newArr, List.drop_zero]
    rw [← hlx, List.take_length]
    congr 2
    rw [hlx, List.length_append, List.length_cons, List.length_cons, hlp]

theorem appC_some {ts : Array TypeId} {a x : Operand} (h : appC S s id ts.toList k (opnd s.fr a) (opnd s.fr x)) :
    ∃ v e rd fz, OpStep (S.env false) s id (.call ⟨.builtin .append, #[a, x], ts⟩) v e fz ∧ k v e rd fz := by
  unfold appC at h
  split at h
  · rename_i st xt r hts
    obtain ⟨hsk, h⟩ := must_and h
    obtain ⟨e, he, h⟩ := optC_some h
    obtain ⟨by_, hby, h⟩ := optC_some h
    obtain ⟨g, hg, h⟩ := optC_some h
    obtain ⟨hsz, h⟩ := must_and h
    have hsz := beq_eq' hsz
    -- by what the append makes over some heap
    have fin : ∀ {H1 : Heap} {ps : List AV} {ys : List g.T}, HLe s.H H1 → HLe H1 s.H → elems H1 (opnd s.fr x) = some ps → DRow g ps ys →
        (∃ v e' rd' fz v1 e1 rd1, k v e' rd' fz ∧ appendV H1 s.F id g.size by_ (idOf (opnd s.fr a) ++ idOf (opnd s.fr x)) (opnd s.fr a) ps = .ok v1 e1 rd1 fz ∧ (∀ H0, HLe H1 H0 → HLe (happ H1 e1) (happ H0 e')) ∧ VLe v1 v) →
        ∃ v e rd fz, OpStep (S.env false) s id (.call ⟨.builtin .append, #[a, x], ts⟩) v e fz ∧ k v e rd fz := by
      intro H1 ps ys hH1 hH2 hps hr ⟨v, e', rd', fz, v1, e1, rd1, k1, k2, k3, k4⟩
      refine ⟨v, e', rd', fz, .heap ⟨H1, v1, e1, rd1, hH1, ?_, k3 _ hH2, k4⟩, k1⟩
      simp only [aop, opCall, opnds, abuiltin, aappend, SE.env, hts, he, hby, srcKind_elems hsk, hps]
      rw [hsz, hr.fits, cond_true]
      exact k2
    generalize ha : opnd s.fr a = base at h
    -- which base
    have hel : ∀ {H1 : Heap}, HArr s.H H1 → ∃ ps ys, elems H1 (opnd s.fr x) = some ps ∧ DRow g ps ys ∧ appBase s id by_ g k ys base := fun hH => elemsC_some hH h
    unfold appBase at hel
    split at hel
    · obtain ⟨ps, ys, k1, k2, k3⟩ := hel (HArr.refl _)
      exact fin (HLe.refl _) (HLe.refl _) k1 k2 (by rw [ha]; exact appNew_some (.inl rfl) k2 k3)
    · obtain ⟨ps, ys, k1, k2, k3⟩ := hel (HArr.refl _)
      exact fin (HLe.refl _) (HLe.refl _) k1 k2 (by rw [ha]; exact appNew_some (.inr rfl) k2 k3)
    · rename_i n b lo len
      cases hl : hlive s.H s.F b with
      | none =>
        obtain ⟨ps, ys, k1, k2, k3⟩ := hel (HArr.refl _)
        rw [hl] at k3
        exact (must_and k3).2.elim
      | some o =>
        rw [hl] at hel
        obtain ⟨hb, hbF⟩ := hlive_some hl
        cases o with
        | cells _ =>
          obtain ⟨ps, ys, k1, k2, k3⟩ := hel (HArr.refl _)
          exact (must_and k3).2.elim
        | map _ =>
          obtain ⟨ps, ys, k1, k2, k3⟩ := hel (HArr.refl _)
          exact (must_and k3).2.elim
        | arr m xs =>
          obtain ⟨ps, ys, k1, k2, k3⟩ := hel (HArr.refl _)
          obtain ⟨k4, k5⟩ := must_and k3
          obtain ⟨k6, k7⟩ := must_and k5
          obtain ⟨l, k8, k9⟩ := optC_some k7
          have hn := beq_eq' k4
          have hm := beq_eq' k6
          subst hn; subst hm
          exact fin (HLe.refl _) (HLe.refl _) k1 k2 (by rw [ha]; exact appOld_some hl (decAll_row (dec_dec g) k8) k2 k9)
        | tarr g' l0 =>
          have hH := HArr.put hb
          obtain ⟨ps, ys, k1, k2, k3⟩ := hel hH
          obtain ⟨k4, k5⟩ := must_and k3
          obtain ⟨l, k8, k9⟩ := optC_some k5
          obtain ⟨e', rfl⟩ := listOf_tl k8
          subst e'
          have hn := beq_eq' k4
          subst hn
          refine fin (HLe.put hb (tarr_le g' l0)) (HLe.back hb (arr_le g' l0)) k1 k2 (by
            rw [ha]
            refine appOld_some ?_ (DRow.encs g' l0) k2 k9
            unfold hlive
            rw [(isIn_false b s.F).2 hbF, cond_false, hget_hset, if_pos rfl])
    · obtain ⟨ps, ys, k1, k2, k3⟩ := hel (HArr.refl _)
      exact k3.elim
  · exact h.elim

theorem DRow.set {g : GT} {ps : List AV} {xs : List g.T} (h : DRow g ps xs) {a : AV} {x : g.T} (hx : Dec1 g a x) : ∀ i, DRow g (ps.set i a) (xs.set i x) := by
  induction h with
  | nil => intro i; exact .nil
  | cons h1 h2 ih =>
    intro i
    cases i with
    | zero => exact .cons hx h2
    | succ i => exact .cons h1 (ih i)

theorem storeC_some {t : TypeId} {a x : Operand} (h : storeC S s (opD S false (.store t a x) s id k) t k (opnd s.fr x) (opnd s.fr a)) : ∃ v e rd fz, OpStep (S.env false) s id (.store t a x) v e fz ∧ k v e rd fz := by
  unfold storeC at h
  split at h
  · rename_i b i off ha
    split at h
    · rename_i g xs hl
      obtain ⟨hb, hbF⟩ := hlive_some hl
      unfold storeE at h
      obtain ⟨n, h1, h⟩ := optC_some h
      obtain ⟨h2, h3, h⟩ := must_and h
      obtain ⟨y, h4, h⟩ := optC_some h
      obtain ⟨z, h5, h⟩ := optC_some h
      refine ⟨_, _, _, _, .heap ⟨hset s.H b (.arr g.size (encs g xs)), und, [(b, some (.arr g.size ((encs g xs).set i y)))], [b], HLe.put hb (tarr_le g xs), ?_, ?_, .refl _⟩, h⟩
      · simp only [aop, ha, astore, SE.env, h1, h2, cond_true, astoreE]
        have e1 : hlive (hset s.H b (.arr g.size (encs g xs))) s.F b = some (.arr g.size (encs g xs)) := by
          unfold hlive
          rw [(isIn_false b s.F).2 hbF, cond_false, hget_hset, if_pos rfl]
        have e2 : (encs g xs)[i]? = some (enc g (xs.getD i g.nought)) := by simp only [encs, List.getElem?_map, getD_some g.nought h3, Option.map_some]
        simp only [e1, e2, h4, rw, idOf]
      · have hrow := (DRow.encs g xs).set (dec_dec g _ _ h5) i
        exact (HLe.back hb (arr_le g xs)).set hrow.obj b
    · obtain ⟨v, e, rd, fz, h1, h2⟩ := opD_some h
      exact ⟨v, e, rd, fz, .same h1, h2⟩
  · obtain ⟨v, e, rd, fz, h1, h2⟩ := opD_some h
    exact ⟨v, e, rd, fz, .same h1, h2⟩

theorem bytesC_some {a b : TypeId} {x : Operand} (h : bytesC S id (opD S false (.convert a b x) s id k) a b k (opnd s.fr x)) : ∃ v e rd fz, OpStep (S.env false) s id (.convert a b x) v e fz ∧ k v e rd fz := by
  unfold bytesC at h
  split at h
  · rename_i l hx
    split at h
    · rename_i e hd hs
      obtain ⟨h1, h2, h3⟩ := must_and h
      refine ⟨_, [(id, some (.tarr .u8 l))], _, _, .heap ⟨s.H, .osl 1 id 0 l.length, [(id, some (.arr 1 (l.map byteV)))], [], .refl _, ?_, (HLe.refl s.H).set (DRow.encs .u8 l).obj id, .refl _⟩, h3⟩
      simp only [aop, hx, aconvert, SE.env, hd, bytesOfStr, hs, ofStr, h1, show l.length.ble 1099511627776 = true from Nat.ble_eq_true_of_le h2, Bool.and_self, cond_true]
    · obtain ⟨v, e, rd, fz, h1, h2⟩ := opD_some h
      exact ⟨v, e, rd, fz, .same h1, h2⟩
  · obtain ⟨v, e, rd, fz, h1, h2⟩ := opD_some h
    exact ⟨v, e, rd, fz, .same h1, h2⟩

theorem makeC_some {t : TypeId} {l c : Operand} (h : makeC S id t k (opnd s.fr l) (opnd s.fr c)) : ∃ v e rd fz, OpStep (S.env false) s id (.makeSlice t l c) v e fz ∧ k v e rd fz := by
  unfold makeC at h
  split at h
  · rename_i k1 n k2 m hl hc
    obtain ⟨e, he, h⟩ := optC_some h
    obtain ⟨by_, hby, h⟩ := optC_some h
    obtain ⟨g, hg, h⟩ := optC_some h
    obtain ⟨z, hz, h⟩ := optC_some h
    obtain ⟨h1, ⟨h2, h3, h4⟩, h5⟩ := must_and h
    subst h3
    obtain ⟨j, rfl⟩ := Int.eq_ofNat_of_zero_le h2
    have hsz := beq_eq' h1
    have hrow := DRow.replicate (dec_dec g _ _ hz) j
    refine ⟨_, [(id, some (.tarr g (List.replicate j z)))], _, _, .heap ⟨s.H, .osl g.size id 0 j, [(id, some (.arr g.size (List.replicate j e.2.2)))], [], .refl _, ?_, (HLe.refl s.H).set hrow.obj id, .refl _⟩, h5⟩
    have hj : j ≤ 1099511627776 := by
      unfold roomP at h4
      have : (j : Int).toNat = j := rfl
      rw [this] at h4
      have := Nat.le_mul_of_pos_right j (show 0 < by_ + 1 by omega)
      omega
    simp only [aop, opMakeSlice, hl, hc, SE.env, he, hby]
    rw [show j.ble j = true from Nat.ble_eq_true_of_le (Nat.le_refl _), show j.ble 1099511627776 = true from Nat.ble_eq_true_of_le hj, show room j by_ = true from room_of h4]
    simp only [Bool.and_self, cond_true, newArr, hsz]
  · exact h.elim

theorem pickU_some {c a b : Operand} (h : pickU k (opnd s.fr a) (opnd s.fr b) (opnd s.fr c)) : ∃ v e rd fz, OpStep (S.env false) s id (.pick c a b) v e fz ∧ k v e rd fz := by
  unfold pickU at h
  split at h
  · rename_i q hq
    have hop : aop (S.env false) s id (.pick c a b) = rv (bif q then opnd s.fr a else opnd s.fr b) := by simp only [aop, hq, opPick]
    cases q
    · exact ⟨_, _, _, _, .same hop, h⟩
    · exact ⟨_, _, _, _, .same hop, h⟩
  · rename_i q hq
    have hop : ∀ b', q = b' → OpStep (S.env false) s id (.pick c a b) (bif b' then opnd s.fr a else opnd s.fr b) [] [] := by
      intro b' e
      subst e
      have hc : Go.Proofs.Ytjihnbjdclobgaa.VS.unub (AV.ub q) = .bool q := rfl
      refine ⟨s.fr.map Go.Proofs.Ytjihnbjdclobgaa.VS.unub, s.H, (bif q then Go.Proofs.Ytjihnbjdclobgaa.VS.unub (opnd s.fr a) else Go.Proofs.Ytjihnbjdclobgaa.VS.unub (opnd s.fr b)), [], [], FEq.unub _, .refl _, by simp only [aop, opnd_unub, hq, hc, opPick, rv], .refl _, ?_⟩
      cases q
      · exact le_unub _
      · exact le_unub _
    cases hb : q with
    | true => exact ⟨_, _, _, _, hop true hb, h.1 hb⟩
    | false => exact ⟨_, _, _, _, hop false hb, h.2 hb⟩
  · exact h.elim

theorem notU_some {o : UnOp} {t : TypeId} {x : Operand} (h : notU (opD S false (.unOp o t x) s id k) o k (opnd s.fr x)) : ∃ v e rd fz, OpStep (S.env false) s id (.unOp o t x) v e fz ∧ k v e rd fz := by
  unfold notU at h
  split at h
  · rename_i q hq
    split at h
    · refine ⟨_, _, _, _, ⟨s.fr.map Go.Proofs.Ytjihnbjdclobgaa.VS.unub, s.H, .bool !q, [], [], FEq.unub _, .refl _, by simp only [aop, opnd_unub, hq, Go.Proofs.Ytjihnbjdclobgaa.VS.unub, aun, ro], .refl _, ub_le _⟩, h⟩
    · exact h.elim
  · obtain ⟨v, e, rd, fz, h1, h2⟩ := opD_some h
    exact ⟨v, e, rd, fz, .same h1, h2⟩

omit [Syms] in
theorem isBoolV_some {x : AV} {a : Bool} (h : isBoolV x = some a) : Go.Proofs.Ytjihnbjdclobgaa.VS.unub x = .bool a := by
  unfold isBoolV at h
  split at h
  · cases h; rfl
  · cases h; rfl
  · cases h

omit [Syms] in
theorem kind_ty {T : Tabs} {t : TypeId} (h : kindOf T t = .bool) : ∃ i, T.ty.get t = some i ∧ i.k = .bool := by
  unfold kindOf at h
  split at h
  · rename_i i hi; exact ⟨i, hi, h⟩
  · cases h

omit [Syms] in
theorem aeq_bool {T : Tabs} {t : TypeId} {a b : Bool} (h : kindOf T t = .bool) : aeq T DEQ t (.bool a) (.bool b) = some (a == b) := by
  obtain ⟨i, h1, h2⟩ := kind_ty h
  rw [show DEQ = 9 + 1 from rfl, aeq, h1]
  simp only [h2, eqOne]

theorem eqUb_some {o : BinOp} {t z : TypeId} {x y : Operand} (h : eqUb S (opD S false (.binOp o t x y z) s id fun v e rd fz => k (toUb v) e rd fz) o t k (opnd s.fr x) (opnd s.fr y)) : ∃ v e rd fz, OpStep (S.env false) s id (.binOp o t x y z) v e fz ∧ k v e rd fz := by
  unfold eqUb at h
  cases hu : isUb (opnd s.fr x) || isUb (opnd s.fr y) with
  | true =>
    rw [hu, cond_true] at h
    split at h
    · rename_i a b ha hb hk
      refine ⟨_, _, _, _, ⟨s.fr.map Go.Proofs.Ytjihnbjdclobgaa.VS.unub, s.H, .bool (a == b), [], [], FEq.unub _, .refl _, ?_, .refl _, ub_le _⟩, h⟩
      simp only [aop, opnd_unub, isBoolV_some ha, isBoolV_some hb, abin, aeqOp, SE.env, aeq_bool hk, yesO, ro]
    · rename_i a b ha hb hk
      refine ⟨_, _, _, _, ⟨s.fr.map Go.Proofs.Ytjihnbjdclobgaa.VS.unub, s.H, .bool !(a == b), [], [], FEq.unub _, .refl _, ?_, .refl _, ub_le _⟩, h⟩
      simp only [aop, opnd_unub, isBoolV_some ha, isBoolV_some hb, abin, aeqOp, SE.env, aeq_bool hk, notO, ro]
    · exact h.elim
  | false =>
    rw [hu, cond_false] at h
    obtain ⟨v, e, rd, fz, h1, h2⟩ := opD_some h
    exact ⟨_, e, rd, fz, (OpStep.same h1).up (toUb_le v), h2⟩

/-- One operation: what is asked of it is what it leaves. -/
theorem opC_some {op : Op} (h : opC S op s id k) : ∃ v e rd fz, OpStep (S.env false) s id op v e fz ∧ k v e rd fz := by
  unfold opC at h
  simp only [opndK_eq] at h
  split at h
  · exact storeC_some h
  · exact bytesC_some h
  · exact makeC_some h
  · exact pickU_some h
  · exact notU_some h
  · exact eqUb_some h
  · rename_i args ts
    split at h
    · rename_i a x hargs
      have : args = #[a, x] := by rw [← Array.toArray_toList (xs := args), hargs]
      subst this
      exact appC_some h
    · exact h.elim
  · obtain ⟨v, e, rd, fz, h1, h2⟩ := opD_some h
    exact ⟨v, e, rd, fz, .same h1, h2⟩

end
end Go.Proofs.Ytjihnbjdclobgaa.VS
