/- Values and heaps that tell others; rows of trees as rows of data. Conditions: none. -/
import Derived.Test.YtopkeglpafdlfaaGreatVS14
namespace Go.Proofs.YtopkeglpafdlfaaGreat.VS
variable [Syms]

/-- What tells a value tells another one. -/
def VLe (a b : AV) : Prop := ∀ (ok : Nat → Prop) (h : Array Obj) (m : Map) (v : Value), VR ok h m a v → VR ok h m b v

theorem VLe.refl (a : AV) : VLe a a := fun _ _ _ _ h => h
theorem VLe.trans {a b c : AV} (h : VLe a b) (k : VLe b c) : VLe a c := fun ok hh m v x => k ok hh m v (h ok hh m v x)
theorem VLe.dead (a : AV) : VLe a .dead := fun _ _ _ _ _ => .dead

/-- Cells that tell cells. -/
def CLe (ps qs : List AV) : Prop := ps.length = qs.length ∧ ∀ (j : Nat) (a b : AV), ps[j]? = some a → qs[j]? = some b → VLe a b

theorem CLe.refl (ps : List AV) : CLe ps ps := ⟨rfl, fun j a b h k => by rw [h] at k; cases k; exact VLe.refl a⟩
theorem CLe.nil : CLe [] [] := CLe.refl []
theorem CLe.cons {a b : AV} {ps qs : List AV} (h : VLe a b) (k : CLe ps qs) : CLe (a :: ps) (b :: qs) :=
  ⟨by simp [k.1], fun j x y hx hy => by
    cases j with
    | zero => simp at hx hy; subst hx; subst hy; exact h
    | succ j => exact k.2 j x y (by simpa using hx) (by simpa using hy)⟩
theorem CLe.append {ps qs cs ds : List AV} (h : CLe ps qs) (k : CLe cs ds) : CLe (ps ++ cs) (qs ++ ds) :=
  ⟨by simp [h.1, k.1], fun j x y hx hy => by
    rcases Nat.lt_or_ge j ps.length with hj | hj
    · rw [List.getElem?_append_left hj] at hx
      rw [List.getElem?_append_left (by rw [← h.1]; exact hj)] at hy
      exact h.2 j x y hx hy
    · rw [List.getElem?_append_right hj] at hx
      rw [List.getElem?_append_right (by rw [← h.1]; exact hj), ← h.1] at hy
      exact k.2 _ x y hx hy⟩

theorem CR.le {ok : Nat → Prop} {h : Array Obj} {m : Map} {ps qs : List AV} {C : Array Value} {o : Nat} (H : CR ok h m ps C o) (hl : CLe ps qs) : CR ok h m qs C o := fun j b hb => by
  have hj : j < qs.length := by
    rcases Nat.lt_or_ge j qs.length with hj | hj
    · exact hj
    · simp [List.getElem?_eq_none hj] at hb
  have hj' : j < ps.length := by rw [hl.1]; exact hj
  obtain ⟨v, hv, hr⟩ := H j ps[j] (List.getElem?_eq_getElem hj')
  exact ⟨v, hv, hl.2 j _ b (List.getElem?_eq_getElem hj') hb _ _ _ _ hr⟩

theorem VLe.agg {ps qs : List AV} (h : CLe ps qs) : VLe (.agg ps) (.agg qs) := fun ok hh m v hv => by
  obtain ⟨vs, rfl, h1, h2⟩ := hv.agg_inv
  exact .agg' (by rw [h1, h.1]) (h2.le h)
theorem VLe.tup {ps qs : List AV} (h : CLe ps qs) : VLe (.tup ps) (.tup qs) := fun ok hh m v hv => by
  obtain ⟨vs, rfl, h1, h2⟩ := hv.tup_inv
  exact .tup' (by rw [h1, h.1]) (h2.le h)
theorem VLe.fn {f : FuncId} {ps qs : List AV} (h : CLe ps qs) : VLe (.fn f ps) (.fn f qs) := fun ok hh m v hv => by
  obtain ⟨vs, rfl, h1, h2⟩ := hv.fn_inv
  exact .fn' (by rw [h1, h.1]) (h2.le h)

/-- An element that is told as data. -/
structure Dec1 (g : GT) (a : AV) (x : g.T) : Prop where
  fits : a.fits = true
  cells : CLe a.cells (enc g x).cells
  le : VLe a (enc g x)

theorem Dec1.size {g : GT} {a : AV} {x : g.T} (h : Dec1 g a x) : a.cells.length = g.size := by rw [h.cells.1, enc_size]

theorem Dec1.one {g : GT} {a : AV} {x : g.T} (h1 : a.cells = [a]) (h2 : (enc g x).cells = [enc g x]) (hf : a.fits = true) (h : VLe a (enc g x)) : Dec1 g a x :=
  ⟨hf, by rw [h1, h2]; exact .cons h .nil, h⟩

theorem Dec1.aggs {g : GT} {x : g.T} {ps qs : List AV} (h2 : enc g x = .agg qs) (hf : ps.all AV.one = true) (h : CLe ps qs) : Dec1 g (.agg ps) x :=
  ⟨hf, by rw [h2]; exact h, by rw [h2]; exact .agg h⟩

theorem Dec1.enc (g : GT) (x : g.T) : Dec1 g (enc g x) x := ⟨enc_one g x, CLe.refl _, VLe.refl _⟩

theorem Dec1.of_eq {g : GT} {a : AV} {x : g.T} (h : Go.Proofs.YtopkeglpafdlfaaGreat.VS.enc g x = a) : Dec1 g a x := h ▸ Dec1.enc g x

/-- A row of elements, as data. -/
inductive DRow (g : GT) : List AV → List g.T → Prop
  | nil : DRow g [] []
  | cons {a x ps xs} : Dec1 g a x → DRow g ps xs → DRow g (a :: ps) (x :: xs)

theorem DRow.length {g : GT} {ps : List AV} {xs : List g.T} (h : DRow g ps xs) : ps.length = xs.length := by
  induction h with
  | nil => rfl
  | cons _ _ ih => simp [ih]

theorem DRow.flat {g : GT} {ps : List AV} {xs : List g.T} (h : DRow g ps xs) : CLe (flat ps) (flat (encs g xs)) := by
  induction h with
  | nil => exact .nil
  | cons h1 _ ih => rw [flat_cons, show encs g (_ :: _) = enc g _ :: encs g _ from rfl, flat_cons]; exact h1.cells.append ih

theorem DRow.sizes {g : GT} {ps : List AV} {xs : List g.T} (h : DRow g ps xs) : ∀ a ∈ ps, a.cells.length = g.size := by
  induction h with
  | nil => intro a ha; simp at ha
  | cons h1 _ ih =>
    intro a ha
    rcases List.mem_cons.1 ha with rfl | ha
    · exact h1.size
    · exact ih a ha

theorem DRow.fits {g : GT} {ps : List AV} {xs : List g.T} (h : DRow g ps xs) : ps.all (fitsN g.size) = true := by
  induction h with
  | nil => rfl
  | cons h1 _ ih =>
    rw [List.all_cons, ih, Bool.and_true]
    unfold fitsN
    rw [h1.fits, h1.size, beq_same]; rfl

theorem DRow.append {g : GT} {ps qs : List AV} {xs ys : List g.T} (h : DRow g ps xs) (k : DRow g qs ys) : DRow g (ps ++ qs) (xs ++ ys) := by
  induction h with
  | nil => exact k
  | cons h1 _ ih => exact .cons h1 ih

theorem DRow.encs (g : GT) : ∀ xs : List g.T, DRow g (encs g xs) xs
  | [] => .nil
  | x :: xs => .cons (Dec1.enc g x) (DRow.encs g xs)

theorem DRow.take {g : GT} {ps : List AV} {xs : List g.T} (h : DRow g ps xs) : ∀ n, DRow g (ps.take n) (xs.take n) := by
  induction h with
  | nil => intro n; simp; exact .nil
  | cons h1 _ ih =>
    intro n
    cases n with
    | zero => exact .nil
    | succ n => exact .cons h1 (ih n)

theorem DRow.drop {g : GT} {ps : List AV} {xs : List g.T} (h : DRow g ps xs) : ∀ n, DRow g (ps.drop n) (xs.drop n) := by
  induction h with
  | nil => intro n; simp; exact .nil
  | cons h1 h2 ih =>
    intro n
    cases n with
    | zero => exact .cons h1 h2
    | succ n => exact ih n

theorem DRow.replicate {g : GT} {a : AV} {x : g.T} (h : Dec1 g a x) : ∀ n, DRow g (List.replicate n a) (List.replicate n x)
  | 0 => .nil
  | n + 1 => by rw [List.replicate_succ, List.replicate_succ]; exact .cons h (DRow.replicate h n)

theorem VLe.row {g : GT} {ps : List AV} {xs : List g.T} (h : DRow g ps xs) : VLe (.sl ps) (.tl g xs) := fun ok hh m v hv => by
  refine .tl ?_
  cases hv with
  | slE h1 => cases h; exact .slE h1
  | sl gg h1 hn h2 h3 h4 h5 h6 h7 h8 =>
    obtain ⟨gg', k1, k2⟩ := ((CR.mk h7 h8).le h.flat).fun
    have hsz : ∀ {s : Nat}, (∀ x ∈ ps, x.cells.length = s) → ps ≠ [] → s = g.size := by
      intro s hs hne
      cases h with
      | nil => exact absurd rfl hne
      | @cons a x ps xs q1 q2 => rw [← hs a (by simp)]; exact q1.size
    have := hsz h5 h1
    subst this
    exact .sl gg' (fun e => h1 (List.length_eq_zero_iff.1 (by rw [h.length, ← encs_length g, e]; rfl))) (by rw [hn, h.length, encs_length]) h2 h3 h4 (encs_size g xs) h6 k1 k2

section decoders
theorem byteOf_dec {a : AV} {x : UInt8} (h : byteOf a = some x) : Dec1 .u8 a x := by
  unfold byteOf at h
  split at h
  · rename_i n
    split at h
    · rename_i hn
      cases h
      have e : enc .u8 (UInt8.ofNat n.toNat) = .int .u8 n := by
        show AV.int .u8 ((UInt8.ofNat n.toNat).toNat : Int) = _
        congr 1
        rw [UInt8.toNat_ofNat']
        omega
      exact .one rfl rfl rfl (by rw [e]; exact .refl _)
    · cases h
  · cases h

theorem decAll_row {g : GT} {d : AV → Option g.T} (hd : ∀ a x, d a = some x → Dec1 g a x) : ∀ {ps : List AV} {xs : List g.T}, decAll d ps = some xs → DRow g ps xs
  | [], xs, h => by simp [decAll] at h; subst h; exact .nil
  | a :: ps, xs, h => by
    rw [decAll] at h
    split at h
    · rename_i x l hx hl
      cases h
      exact .cons (hd a x hx) (decAll_row hd hl)
    · cases h

theorem listOf_le {g : GT} {d : AV → Option g.T} (hd : ∀ a x, d a = some x → Dec1 g a x) {a : AV} {xs : List g.T} (h : listOf g d a = some xs) : VLe a (.tl g xs) := by
  unfold listOf at h
  split at h
  · rename_i t' ys
    split at h
    · rename_i e
      subst e
      cases h
      exact .refl _
    · cases h
  · cases h; exact fun ok hh m v hv => by cases hv; exact .tl (.slE fun _ => rfl)
  · cases h; exact fun ok hh m v hv => by cases hv; exact .tl (.slE fun _ => rfl)
  · cases h; exact fun ok hh m v hv => by cases hv; exact .tl (.slE nofun)
  · exact .row (decAll_row hd h)
  · cases h

omit [Syms] in
theorem listOf_one {g : GT} {d : AV → Option g.T} {a : AV} {xs : List g.T} (h : listOf g d a = some xs) : a.one = true := by
  unfold listOf at h
  split at h <;> first | rfl | cases h

omit [Syms] in
theorem int_one (n : Int) : (AV.int .i64 n).one = true := rfl

theorem decNam_dec {a : AV} {x : Nam} (h : decNam a = some x) : Dec1 .nam a x := by
  unfold decNam at h
  split at h
  · cases h; exact .of_eq rfl
  · cases h
theorem decStr_dec {a : AV} {x : Str} (h : decStr a = some x) : Dec1 .str a x := by
  unfold decStr at h
  split at h
  · cases h; exact .of_eq rfl
  · cases h
theorem decInt_dec {a : AV} {x : Int} (h : decInt a = some x) : Dec1 .int a x := by
  unfold decInt at h
  split at h
  · cases h; exact .of_eq rfl
  · cases h
theorem ub_le (b : Bool) : VLe (.bool b) (.ub b) := fun ok hh m v hv => by cases hv; exact .ub b
theorem bool_le (b : Bool) : VLe (.ub b) (.bool b) := fun ok hh m v hv => by cases hv; exact .bool b
theorem decBool_dec {a : AV} {x : Bool} (h : decBool a = some x) : Dec1 .bool a x := by
  unfold decBool at h
  split at h
  · cases h; exact .one rfl rfl rfl (ub_le _)
  · cases h; exact .of_eq rfl
  · cases h
theorem list_cells {g g' : GT} {d : AV → Option g.T} {a : AV} {xs : List g.T} (h : listOf g d a = some xs) (hd : ∀ a x, d a = some x → Dec1 g a x) {y : g'.T} (he : enc g' y = .tl g xs) : Dec1 g' a y := by
  have h1 := listOf_one h
  refine .one ?_ (by rw [he]; rfl) ?_ (by rw [he]; exact listOf_le hd h)
  · unfold listOf at h
    split at h <;> first | rfl | cases h
  · unfold listOf at h
    split at h <;> first | rfl | cases h
theorem decStrs_dec {a : AV} {x : List Str} (h : decStrs a = some x) : Dec1 .strs a x := list_cells (g := .str) h (fun _ _ => decStr_dec) rfl
theorem decBlk_dec {a : AV} {x : Blk} (h : decBlk a = some x) : Dec1 .blk a x := by
  unfold decBlk at h
  split at h
  · split at h
    · rename_i d b hb
      cases h
      exact .aggs rfl (by simp only [List.all_cons, List.all_nil, listOf_one (g := .u8) hb]; rfl) (.cons (.refl _) (.cons (listOf_le (g := .u8) (fun _ _ => byteOf_dec) hb) .nil))
    · cases h
  · cases h
theorem decNod_dec {a : AV} {x : Nod} (h : decNod a = some x) : Dec1 .nod a x := by
  unfold decNod at h
  split at h
  · split at h
    · rename_i _ _ l n hl hn
      cases h
      exact .aggs rfl (by simp only [List.all_cons, List.all_nil, listOf_one (g := .blk) hl, listOf_one (g := .nam) hn]; rfl) (.cons (.refl _) (.cons (.refl _) (.cons (.refl _) (.cons (.refl _) (.cons (.refl _) (.cons (listOf_le (g := .blk) (fun _ _ => decBlk_dec) hl) (.cons (.refl _) (.cons (listOf_le (g := .nam) (fun _ _ => decNam_dec) hn) .nil))))))))
    · cases h
  · cases h
theorem decDsk_dec {a : AV} {x : Dsk} (h : decDsk a = some x) : Dec1 .dsk a x := by
  unfold decDsk at h
  split at h
  · split at h
    · rename_i _ l hl
      cases h
      exact .aggs rfl (by simp only [List.all_cons, List.all_nil, listOf_one (g := .nod) hl]; rfl) (.cons (.refl _) (.cons (.refl _) (.cons (.refl _) (.cons (listOf_le (g := .nod) (fun _ _ => decNod_dec) hl) .nil))))
    · cases h
  · cases h
theorem decOpn_dec {a : AV} {x : Opn} (h : decOpn a = some x) : Dec1 .opn a x := by
  unfold decOpn at h
  split at h
  · split at h
    · rename_i _ l hl
      cases h
      exact .aggs rfl (by simp only [List.all_cons, List.all_nil, listOf_one (g := .u8) hl]; rfl) (.cons (.refl _) (.cons (.refl _) (.cons (.refl _) (.cons (.refl _) (.cons (.refl _) (.cons (.refl _) (.cons (listOf_le (g := .u8) (fun _ _ => byteOf_dec) hl) .nil)))))))
    · cases h
  · cases h
theorem decSpt_dec {a : AV} {x : Spt} (h : decSpt a = some x) : Dec1 .spt a x := by
  unfold decSpt at h
  split at h
  · cases h; exact .of_eq rfl
  · cases h
theorem decRow_dec {a : AV} {x : Rwo} (h : decRow a = some x) : Dec1 .row a x := by
  unfold decRow at h
  split at h
  · cases h; exact .of_eq rfl
  · cases h
theorem decAkt_dec {a : AV} {x : Akt} (h : decAkt a = some x) : Dec1 .akt a x := by
  unfold decAkt at h
  split at h
  · split at h
    · rename_i _ l hl
      cases h
      exact .aggs rfl (by simp only [List.all_cons, List.all_nil, listOf_one (g := .u8) hl]; rfl) (.cons (.refl _) (.cons (.refl _) (.cons (listOf_le (g := .u8) (fun _ _ => byteOf_dec) hl) .nil)))
    · cases h
  · cases h

theorem dec_dec : ∀ (g : GT) (a : AV) (x : g.T), dec g a = some x → Dec1 g a x
  | .u8, _, _, h => byteOf_dec h
  | .bool, _, _, h => decBool_dec h
  | .int, _, _, h => decInt_dec h
  | .str, _, _, h => decStr_dec h
  | .strs, _, _, h => decStrs_dec h
  | .nam, _, _, h => decNam_dec h
  | .blk, _, _, h => decBlk_dec h
  | .nod, _, _, h => decNod_dec h
  | .dsk, _, _, h => decDsk_dec h
  | .opn, _, _, h => decOpn_dec h
  | .opns, _, _, h => list_cells (g := .opn) h (fun _ _ => decOpn_dec) rfl
  | .spt, _, _, h => decSpt_dec h
  | .row, _, _, h => decRow_dec h
  | .akt, _, _, h => decAkt_dec h

theorem decL_le {g : GT} {a : AV} {xs : List g.T} (h : decL g a = some xs) : VLe a (.tl g xs) := listOf_le (dec_dec g) h
end decoders

/-- What tells an object tells another one. -/
def ObjLe (o o1 : AObj) : Prop := (∀ (ok : Nat → Prop) (h : Array Obj) (m : Map) (L : Loc), ObjR ok h m L o → ObjR ok h m L o1) ∧ (Void o → Void o1)

theorem ObjLe.refl (o : AObj) : ObjLe o o := ⟨fun _ _ _ _ h => h, id⟩

def HLe (H H1 : Heap) : Prop := ∀ b, (hget H b = none ∧ hget H1 b = none) ∨ ∃ o o1, hget H b = some o ∧ hget H1 b = some o1 ∧ ObjLe o o1

theorem HLe.refl (H : Heap) : HLe H H := fun b => by
  cases h : hget H b with
  | none => exact .inl ⟨rfl, rfl⟩
  | some o => exact .inr ⟨o, o, rfl, rfl, .refl o⟩

theorem HLe.trans {A B C : Heap} (h : HLe A B) (k : HLe B C) : HLe A C := fun x => by
  rcases h x with ⟨h1, h2⟩ | ⟨o, o1, h1, h2, h3⟩
  · rcases k x with ⟨k1, k2⟩ | ⟨o, o1, k1, k2, k3⟩
    · exact .inl ⟨h1, k2⟩
    · rw [h2] at k1; cases k1
  · rcases k x with ⟨k1, k2⟩ | ⟨o', o1', k1, k2, k3⟩
    · rw [h2] at k1; cases k1
    · rw [h2] at k1; cases k1
      exact .inr ⟨o, o1', h1, k2, fun ok hh m L hr => k3.1 ok hh m L (h3.1 ok hh m L hr), fun hv => k3.2 (h3.2 hv)⟩
theorem HLe.set {H H1 : Heap} (h : HLe H H1) {o o1 : AObj} (ho : ObjLe o o1) (b : Nat) : HLe (hset H b o) (hset H1 b o1) := fun x => by
  rw [hget_hset, hget_hset]
  by_cases e : b = x
  · rw [if_pos e, if_pos e]; exact .inr ⟨o, o1, rfl, rfl, ho⟩
  · rw [if_neg e, if_neg e]; exact h x

theorem HLe.del {H H1 : Heap} (h : HLe H H1) (b : Nat) : HLe (hdel H b) (hdel H1 b) := fun x => by
  rw [hget_hdel, hget_hdel]
  by_cases e : b = x
  · rw [if_pos e, if_pos e]; exact .inl ⟨rfl, rfl⟩
  · rw [if_neg e, if_neg e]; exact h x

/-- An object that stands in another one's place. -/
theorem HLe.put {H : Heap} {b : Nat} {o o1 : AObj} (hb : hget H b = some o) (h : ObjLe o o1) : HLe H (hset H b o1) := fun x => by
  rw [hget_hset]
  by_cases e : b = x
  · subst e; rw [if_pos rfl]; exact .inr ⟨o, o1, hb, rfl, h⟩
  · rw [if_neg e]; exact HLe.refl H x
theorem HLe.back {H : Heap} {b : Nat} {o o1 : AObj} (hb : hget H b = some o) (h : ObjLe o1 o) : HLe (hset H b o1) H := fun x => by
  rw [hget_hset]
  by_cases e : b = x
  · subst e; rw [if_pos rfl]; exact .inr ⟨o1, o, rfl, hb, h⟩
  · rw [if_neg e]; exact HLe.refl H x

theorem okB_le {X : Nat → Prop} {m : Map} {H H1 : Heap} {F : List Nat} (h : HLe H H1) {β : Nat} : okB X m H F β → okB X m H1 F β := fun ho =>
  ⟨ho.1, fun b o L hb hf hm => by
    rcases h b with ⟨_, h2⟩ | ⟨o', o1, h1, h2, _⟩
    · rw [h2] at hb; cases hb
    · exact ho.2 b o' L h1 hf hm⟩

theorem SR.le {c : Ctx} {m : Map} {H H1 : Heap} {F : List Nat} {w : World} (hs : SR c m H F w) (h : HLe H H1) : SR c m H1 F w := by
  have back : ∀ {b o}, hget H1 b = some o → ∃ o', hget H b = some o' ∧ ObjLe o' o := fun {b o} hb => by
    rcases h b with ⟨_, h2⟩ | ⟨o', o1, h1, h2, h3⟩
    · rw [h2] at hb; cases hb
    · rw [h2] at hb; cases hb; exact ⟨o', h1, h3⟩
  refine ⟨hs.xlt, fun b o hb => ?_, fun b o b' o' L L' h1 h2 => ?_, fun b o L hb => ?_, fun b o L hb => ?_, hs.keep⟩
  · obtain ⟨o', h1, h2⟩ := back hb
    exact (hs.all b o' h1).imp (fun ⟨L, k1, k2⟩ => ⟨L, k1, (h2.1 _ _ _ _ k2).mono (fun β C e z ho hh => ⟨okB_le h ho, hh⟩) (MLe.refl m) rfl⟩) (fun ⟨k1, k2⟩ => ⟨k1, h2.2 k2⟩)
  · obtain ⟨p, p1, _⟩ := back h1
    obtain ⟨q, q1, _⟩ := back h2
    exact hs.inj b p b' q L L' p1 q1
  · obtain ⟨p, p1, _⟩ := back hb
    exact hs.nox b p L p1
  · obtain ⟨p, p1, _⟩ := back hb
    exact hs.own b p L p1

theorem DRow.obj {g : GT} {ps : List AV} {xs : List g.T} (h : DRow g ps xs) : ObjLe (.arr g.size ps) (.tarr g xs) := ⟨fun ok hh m L hr => by
  obtain ⟨h1, h2, h3, h4, C, e, z, h5, h6, h7, h8, h9⟩ := hr
  exact ⟨h1, h2, by rw [h3, h.length, encs_length], encs_size g xs, C, e, z, h5, h6, h7, by rw [encs_length, ← h.length]; exact h8, h9.le h.flat⟩, fun hv => by
  rcases hv with ⟨t, hv⟩ | ⟨t, hv⟩
  · cases hv
  · have := (AObj.arr.inj hv).2
    subst this
    cases h
    exact .inl ⟨_, rfl⟩⟩

theorem tarr_le (g : GT) (xs : List g.T) : ObjLe (.tarr g xs) (.arr g.size (encs g xs)) := ⟨fun _ _ _ _ h => h, fun h => by
  rcases h with ⟨t, h⟩ | ⟨t, h⟩ <;> cases h
  exact .inr ⟨_, rfl⟩⟩
theorem arr_le (g : GT) (xs : List g.T) : ObjLe (.arr g.size (encs g xs)) (.tarr g xs) := ⟨fun _ _ _ _ h => h, fun h => by
  rcases h with ⟨t, h⟩ | ⟨t, h⟩
  · cases h
  · have := (AObj.arr.inj h).2
    have : xs = [] := List.length_eq_zero_iff.1 (by rw [← encs_length g xs, this]; rfl)
    subst this
    exact .inl ⟨_, rfl⟩⟩

omit [Syms] in
theorem listOf_tl {g g' : GT} {d : AV → Option g.T} {xs : List g'.T} {l : List g.T} (h : listOf g d (.tl g' xs) = some l) : ∃ e : g' = g, l = e ▸ xs := by
  unfold listOf at h
  simp only at h
  split at h
  · rename_i e; cases h; exact ⟨e, rfl⟩
  · cases h

omit [Syms] in
/-- A row that was told as data again, or as it was. -/
theorem tellB_inv {tell : Bool} {H : Heap} {F : List Nat} {b : Builtin} {args : List AV} {r : Res} {v : AV} {e : Eff} {rd fz : List Nat} (h : tellB tell H F b args r = .ok v e rd fz) :
    r = .ok v e rd fz ∨ ∃ g bb n x g' l zs i n' cs b', b = .append ∧ args = [.gs g bb n, x] ∧ hlive H F bb = some (.tarr g' l) ∧ dataOf H g' x = some zs ∧ r = .ok v [(i, some (.arr n' cs)), (b', none)] rd fz ∧ e = [(i, some (.tarr g' (l ++ zs))), (b', none)] := by
  unfold tellB at h
  cases tell with
  | false => exact .inl h
  | true =>
    rw [cond_true] at h
    split at h
    · rename_i s x
      unfold tellApp at h
      split at h
      · rename_i g bb n
        split at h
        · rename_i g' l hb
          split at h
          · rename_i zs hz
            split at h
            · rename_i v0 i n' cs b' rd0 fz0
              simp only [Res.ok.injEq] at h
              obtain ⟨rfl, rfl, rfl, rfl⟩ := h
              exact .inr ⟨g, bb, n, x, g', l, zs, i, n', cs, b', rfl, rfl, hb, hz, rfl, rfl⟩
            · exact .inl h
          · exact .inl h
        · exact .inl h
      · exact .inl h
    · exact .inl h

omit [Syms] in
theorem tellB_notAll {tell : Bool} {H : Heap} {F : List Nat} {b : Builtin} {args : List AV} {r : Res} {v : AV} {H' : Heap} {F' : List Nat} {nx : Nat} (h : tellB tell H F b args r = .all v H' F' nx) : r = .all v H' F' nx := by
  unfold tellB at h
  cases tell with
  | false => exact h
  | true =>
    rw [cond_true] at h
    split at h
    · unfold tellApp at h
      split at h
      · split at h
        · split at h
          · split at h
            · cases h
            · exact h
          · exact h
        · exact h
      · exact h
    · exact h

theorem dataOf_row {T : Tabs} {H : Heap} {g : GT} {x z : AV} {xt : TypeId} {ys : List AV} {zs : List g.T} (h : dataOf H g x = some zs) (ha : appended T H z xt x = some ys) : DRow g ys zs := by
  have el : elems H x = some ys := by
    unfold appended at ha
    split at ha
    · split at ha
      · simp [dataOf, elems] at h
      · cases ha
    · exact ha
    · exact ha
    · cases ha
  unfold dataOf at h
  split at h
  · rename_i g' xs
    obtain ⟨rfl, hl⟩ := listOf_tl h
    simp only at hl
    subst hl
    have : ys = encs g' zs := by simpa [elems] using el.symm
    subst this
    exact DRow.encs g' zs
  · rw [el] at h
    exact decAll_row (dec_dec g) h

/-- What an append leaves, its row told as data again. -/
theorem Done.tell {T : Tabs} {c : Ctx} {m : Map} {H : Heap} {F : List Nat} {w : World} {id : Nat} {ts : List TypeId} {b : Builtin} {args : List AV} {tell : Bool} {v : AV} {e : Eff} {rd fz : List Nat}
    (h : tellB tell H F b args (abuiltin T H F id b ts args) = .ok v e rd fz) : ∃ e0, abuiltin T H F id b ts args = .ok v e0 rd fz ∧ ∀ {cv : Value} {m' : Map} {w' : World}, Done c m H F w id v e0 fz cv m' w' → Done c m H F w id v e fz cv m' w' := by
  rcases tellB_inv h with h | ⟨g, bb, n, x, g', l, zs, i, n', cs, b', rfl, rfl, hb, hz, hr, rfl⟩
  · exact ⟨e, h, fun h => h⟩
  · refine ⟨_, hr, fun {cv m' w'} hd => ?_⟩
    have ha : aappend T H F id ts (.gs g bb n) x = .ok v [(i, some (.arr n' cs)), (b', none)] rd fz := hr
    have key : ∃ ys, n' = g'.size ∧ cs = encs g' l ++ ys ∧ DRow g' ys zs := by
      unfold aappend at ha
      split at ha
      · split at ha
        · rename_i q hq
          split at ha
          · rename_i by_ ys hby hap
            cases hf : ys.all (fitsN q.2.1) with
            | false => rw [hf, cond_false] at ha; cases ha
            | true =>
              rw [hf, cond_true] at ha
              have hv : appendV H F id q.2.1 by_ (idOf (.gs g bb n) ++ idOf x) (.gs g bb n) ys = appendGs H F id q.2.1 by_ (idOf (.gs g bb n) ++ idOf x) ys g bb n := by cases ys <;> rfl
              rw [hv] at ha
              unfold appendGs at ha
              rw [hb] at ha
              simp only at ha
              revert ha
              cases hc : (_ && _) with
              | false => intro ha; rw [cond_false] at ha; cases ha
              | true =>
                intro ha
                rw [cond_true] at ha
                simp only [Bool.and_eq_true] at hc
                have hs := beq_eq' hc.1.1.2
                cases ys with
                | nil => simp at ha
                | cons y r =>
                  simp only [Res.ok.injEq, List.cons.injEq, Prod.mk.injEq, Option.some.injEq, AObj.arr.injEq] at ha
                  exact ⟨y :: r, by rw [hs]; exact ha.2.1.1.2.1.symm, ha.2.1.1.2.2.symm, dataOf_row hz hap⟩
          · cases ha
        · cases ha
      · cases ha
    obtain ⟨ys, rfl, rfl, hrow⟩ := key
    have hle : HLe (happ H [(i, some (.arr g'.size (encs g' l ++ ys))), (b', none)]) (happ H [(i, some (.tarr g' (l ++ zs))), (b', none)]) := ((HLe.refl H).set ((DRow.encs g' l).append hrow).obj i).del b'
    exact ⟨hd.ext.trans ⟨MLe.refl _, fun β C e z ho hh => ⟨okB_le hle ho, hh⟩⟩, hd.sr.le hle, hd.vr.mono (fun β C e z ho hh => ⟨okB_le hle ho, hh⟩) (MLe.refl _), hd.dom⟩

end Go.Proofs.YtopkeglpafdlfaaGreat.VS
