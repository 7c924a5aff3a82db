/- What is told of values that are not known: trees as data, values taken whole. Conditions: none. -/
import Derived.Test.YtjihnbjdclobgaaVW1
namespace Go.Proofs.Ytjihnbjdclobgaa.VS
variable [Syms]

/-- What tells a value tells another one. -/
def VLe (a b : AV) : Prop := ∀ (ok : Nat → Prop) (h : Array Obj) (m : Map) (v : Value), VR ok h m a v → VR ok h m b v

theorem VLe.refl (a : AV) : VLe a a := fun _ _ _ _ h => h
theorem VLe.trans {a b c : AV} (h : VLe a b) (k : VLe b c) : VLe a c := fun ok hh m v x => k ok hh m v (h ok hh m v x)
theorem VLe.dead (a : AV) : VLe a .dead := fun _ _ _ _ _ => .dead

/-- Cells that tell cells. -/
def CLe (ps qs : List AV) : Prop := ps.length = qs.length ∧ ∀ (j : Nat) (a b : AV), ps[j]? = some a → qs[j]? = some b → VLe a b

theorem CLe.refl (ps : List AV) : CLe ps ps := ⟨rfl, fun j a b h k => by rw [h] at k; cases k; exact VLe.refl a⟩
theorem CLe.nil : CLe [] [] := CLe.refl []
theorem CLe.cons {a b : AV} {ps qs : List AV} (h : VLe a b) (k : CLe ps qs) : CLe (a :: ps) (b :: qs) :=
  ⟨by simp [k.1], fun j x y hx hy => by
    cases j with
    | zero => simp at hx hy; subst hx; subst hy; exact h
    | succ j => exact k.2 j x y (by simpa using hx) (by simpa using hy)⟩
theorem CLe.append {ps qs cs ds : List AV} (h : CLe ps qs) (k : CLe cs ds) : CLe (ps ++ cs) (qs ++ ds) :=
  ⟨by simp [h.1, k.1], fun j x y hx hy => by
    rcases Nat.lt_or_ge j ps.length with hj | hj
    · rw [List.getElem?_append_left hj] at hx
      rw [List.getElem?_append_left (by rw [← h.1]; exact hj)] at hy
      exact h.2 j x y hx hy
    · rw [List.getElem?_append_right hj] at hx
      rw [List.getElem?_append_right (by rw [← h.1]; exact hj), ← h.1] at hy
      exact k.2 _ x y hx hy⟩

theorem CR.le {ok : Nat → Prop} {h : Array Obj} {m : Map} {ps qs : List AV} {C : Array Value} {o : Nat} (H : CR ok h m ps C o) (hl : CLe ps qs) : CR ok h m qs C o := fun j b hb => by
  have hj : j < qs.length := by
    rcases Nat.lt_or_ge j qs.length with hj | hj
    · exact hj
    · simp [List.getElem?_eq_none hj] at hb
  have hj' : j < ps.length := by rw [hl.1]; exact hj
  obtain ⟨v, hv, hr⟩ := H j ps[j] (List.getElem?_eq_getElem hj')
  exact ⟨v, hv, hl.2 j _ b (List.getElem?_eq_getElem hj') hb _ _ _ _ hr⟩

theorem VLe.agg {ps qs : List AV} (h : CLe ps qs) : VLe (.agg ps) (.agg qs) := fun ok hh m v hv => by
  obtain ⟨vs, rfl, h1, h2⟩ := hv.agg_inv
  exact .agg' (by rw [h1, h.1]) (h2.le h)
theorem VLe.tup {ps qs : List AV} (h : CLe ps qs) : VLe (.tup ps) (.tup qs) := fun ok hh m v hv => by
  obtain ⟨vs, rfl, h1, h2⟩ := hv.tup_inv
  exact .tup' (by rw [h1, h.1]) (h2.le h)
theorem VLe.fn {f : FuncId} {ps qs : List AV} (h : CLe ps qs) : VLe (.fn f ps) (.fn f qs) := fun ok hh m v hv => by
  obtain ⟨vs, rfl, h1, h2⟩ := hv.fn_inv
  exact .fn' (by rw [h1, h.1]) (h2.le h)

/-- An element that is told as data. -/
structure Dec1 (g : GT) (a : AV) (x : g.T) : Prop where
  fits : a.fits = true
  cells : CLe a.cells (enc g x).cells
  le : VLe a (enc g x)

theorem Dec1.size {g : GT} {a : AV} {x : g.T} (h : Dec1 g a x) : a.cells.length = g.size := by rw [h.cells.1, enc_size]

theorem Dec1.one {g : GT} {a : AV} {x : g.T} (h1 : a.cells = [a]) (h2 : (enc g x).cells = [enc g x]) (hf : a.fits = true) (h : VLe a (enc g x)) : Dec1 g a x :=
  ⟨hf, by rw [h1, h2]; exact .cons h .nil, h⟩

theorem Dec1.aggs {g : GT} {x : g.T} {ps qs : List AV} (h2 : enc g x = .agg qs) (hf : ps.all AV.one = true) (h : CLe ps qs) : Dec1 g (.agg ps) x :=
  ⟨hf, by rw [h2]; exact h, by rw [h2]; exact .agg h⟩

theorem Dec1.enc (g : GT) (x : g.T) : Dec1 g (enc g x) x := ⟨enc_one g x, CLe.refl _, VLe.refl _⟩

theorem Dec1.of_eq {g : GT} {a : AV} {x : g.T} (h : Go.Proofs.Ytjihnbjdclobgaa.VS.enc g x = a) : Dec1 g a x := h ▸ Dec1.enc g x

/-- A row of elements, as data. -/
inductive DRow (g : GT) : List AV → List g.T → Prop
  | nil : DRow g [] []
  | cons {a x ps xs} : Dec1 g a x → DRow g ps xs → DRow g (a :: ps) (x :: xs)

theorem DRow.length {g : GT} {ps : List AV} {xs : List g.T} (h : DRow g ps xs) : ps.length = xs.length := by
  induction h with
  | nil => rfl
  | cons _ _ ih => simp [ih]

theorem DRow.flat {g : GT} {ps : List AV} {xs : List g.T} (h : DRow g ps xs) : CLe (flat ps) (flat (encs g xs)) := by
  induction h with
  | nil => exact .nil
  | cons h1 _ ih => rw [flat_cons, show encs g (_ :: _) = enc g _ :: encs g _ from rfl, flat_cons]; exact h1.cells.append ih

theorem DRow.sizes {g : GT} {ps : List AV} {xs : List g.T} (h : DRow g ps xs) : ∀ a ∈ ps, a.cells.length = g.size := by
  induction h with
  | nil => intro a ha; simp at ha
  | cons h1 _ ih =>
    intro a ha
    rcases List.mem_cons.1 ha with rfl | ha
    · exact h1.size
    · exact ih a ha

theorem DRow.fits {g : GT} {ps : List AV} {xs : List g.T} (h : DRow g ps xs) : ps.all (fitsN g.size) = true := by
  induction h with
  | nil => rfl
  | cons h1 _ ih =>
    rw [List.all_cons, ih, Bool.and_true]
    unfold fitsN
    rw [h1.fits, h1.size, beq_same]; rfl

theorem DRow.append {g : GT} {ps qs : List AV} {xs ys : List g.T} (h : DRow g ps xs) (k : DRow g qs ys) : DRow g (ps ++ qs) (xs ++ ys) := by
  induction h with
  | nil => exact k
  | cons h1 _ ih => exact .cons h1 ih

theorem DRow.encs (g : GT) : ∀ xs : List g.T, DRow g (encs g xs) xs
  | [] => .nil
  | x :: xs => .cons (Dec1.enc g x) (DRow.encs g xs)

theorem DRow.take {g : GT} {ps : List AV} {xs : List g.T} (h : DRow g ps xs) : ∀ n, DRow g (ps.take n) (xs.take n) := by
  induction h with
  | nil => intro n; simp; exact .nil
  | cons h1 _ ih =>
    intro n
    cases n with
    | zero => exact .nil
    | succ n => exact .cons h1 (ih n)

theorem DRow.drop {g : GT} {ps : List AV} {xs : List g.T} (h : DRow g ps xs) : ∀ n, DRow g (ps.drop n) (xs.drop n) := by
  induction h with
  | nil => intro n; simp; exact .nil
  | cons h1 h2 ih =>
    intro n
    cases n with
    | zero => exact .cons h1 h2
    | succ n => exact ih n

theorem DRow.replicate {g : GT} {a : AV} {x : g.T} (h : Dec1 g a x) : ∀ n, DRow g (List.replicate n a) (List.replicate n x)
  | 0 => .nil
  | n + 1 => by rw [List.replicate_succ, List.replicate_succ]; exact .cons h (DRow.replicate h n)

theorem VLe.row {g : GT} {ps : List AV} {xs : List g.T} (h : DRow g ps xs) : VLe (.sl ps) (.tl g xs) := fun ok hh m v hv => by
  refine .tl ?_
  cases hv with
  | slE h1 => cases h; exact .slE h1
  | sl gg h1 hn h2 h3 h4 h5 h6 h7 h8 =>
    obtain ⟨gg', k1, k2⟩ := ((CR.mk h7 h8).le h.flat).fun
    have hsz : ∀ {s : Nat}, (∀ x ∈ ps, x.cells.length = s) → ps ≠ [] → s = g.size := by
      intro s hs hne
      cases h with
      | nil => exact absurd rfl hne
      | @cons a x ps xs q1 q2 => rw [← hs a (by simp)]; exact q1.size
    have := hsz h5 h1
    subst this
    exact .sl gg' (fun e => h1 (List.length_eq_zero_iff.1 (by rw [h.length, ← encs_length g, e]; rfl))) (by rw [hn, h.length, encs_length]) h2 h3 h4 (encs_size g xs) h6 k1 k2

section decoders
theorem byteOf_dec {a : AV} {x : UInt8} (h : byteOf a = some x) : Dec1 .u8 a x := by
  unfold byteOf at h
  split at h
  · rename_i n
    split at h
    · rename_i hn
      cases h
      have e : enc .u8 (UInt8.ofNat n.toNat) = .int .u8 n := by
        show AV.int .u8 ((UInt8.ofNat n.toNat).toNat : Int) = _
        congr 1
        rw [UInt8.toNat_ofNat']
        omega
      exact .one rfl rfl rfl (by rw [e]; exact .refl _)
    · cases h
  · cases h

theorem decAll_row {g : GT} {d : AV → Option g.T} (hd : ∀ a x, d a = some x → Dec1 g a x) : ∀ {ps : List AV} {xs : List g.T}, decAll d ps = some xs → DRow g ps xs
  | [], xs, h => by simp [decAll] at h; subst h; exact .nil
  | a :: ps, xs, h => by
    rw [decAll] at h
    split at h
    · rename_i x l hx hl
      cases h
      exact .cons (hd a x hx) (decAll_row hd hl)
    · cases h

theorem listOf_le {g : GT} {d : AV → Option g.T} (hd : ∀ a x, d a = some x → Dec1 g a x) {a : AV} {xs : List g.T} (h : listOf g d a = some xs) : VLe a (.tl g xs) := by
  unfold listOf at h
  split at h
  · rename_i t' ys
    split at h
    · rename_i e
      subst e
      cases h
      exact .refl _
    · cases h
  · cases h; exact fun ok hh m v hv => by cases hv; exact .tl (.slE fun _ => rfl)
  · cases h; exact fun ok hh m v hv => by cases hv; exact .tl (.slE fun _ => rfl)
  · cases h; exact fun ok hh m v hv => by cases hv; exact .tl (.slE nofun)
  · exact .row (decAll_row hd h)
  · cases h

omit [Syms] in
theorem listOf_one {g : GT} {d : AV → Option g.T} {a : AV} {xs : List g.T} (h : listOf g d a = some xs) : a.one = true := by
  unfold listOf at h
  split at h <;> first | rfl | cases h

omit [Syms] in
theorem int_one (n : Int) : (AV.int .i64 n).one = true := rfl

theorem decNam_dec {a : AV} {x : Nam} (h : decNam a = some x) : Dec1 .nam a x := by
  unfold decNam at h
  split at h
  · cases h; exact .of_eq rfl
  · cases h
theorem decStr_dec {a : AV} {x : Str} (h : decStr a = some x) : Dec1 .str a x := by
  unfold decStr at h
  split at h
  · cases h; exact .of_eq rfl
  · cases h
theorem decInt_dec {a : AV} {x : Int} (h : decInt a = some x) : Dec1 .int a x := by
  unfold decInt at h
  split at h
  · cases h; exact .of_eq rfl
  · cases h
theorem ub_le (b : Bool) : VLe (.bool b) (.ub b) := fun ok hh m v hv => by cases hv; exact .ub b
theorem bool_le (b : Bool) : VLe (.ub b) (.bool b) := fun ok hh m v hv => by cases hv; exact .bool b
theorem toUb_le (v : AV) : VLe v (toUb v) := by
  cases v <;> first | exact ub_le _ | exact .refl _

theorem decBool_dec {a : AV} {x : Bool} (h : decBool a = some x) : Dec1 .bool a x := by
  unfold decBool at h
  split at h
  · cases h; exact .one rfl rfl rfl (ub_le _)
  · cases h; exact .of_eq rfl
  · cases h
theorem list_cells {g g' : GT} {d : AV → Option g.T} {a : AV} {xs : List g.T} (h : listOf g d a = some xs) (hd : ∀ a x, d a = some x → Dec1 g a x) {y : g'.T} (he : enc g' y = .tl g xs) : Dec1 g' a y := by
  have h1 := listOf_one h
  refine .one ?_ (by rw [he]; rfl) ?_ (by rw [he]; exact listOf_le hd h)
  · unfold listOf at h
    split at h <;> first | rfl | cases h
  · unfold listOf at h
    split at h <;> first | rfl | cases h
theorem decStrs_dec {a : AV} {x : List Str} (h : decStrs a = some x) : Dec1 .strs a x := list_cells (g := .str) h (fun _ _ => decStr_dec) rfl
theorem decBlk_dec {a : AV} {x : Blk} (h : decBlk a = some x) : Dec1 .blk a x := by
  unfold decBlk at h
  split at h
  · split at h
    · rename_i d b hb
      cases h
      exact .aggs rfl (by simp only [List.all_cons, List.all_nil, listOf_one (g := .u8) hb]; rfl) (.cons (.refl _) (.cons (listOf_le (g := .u8) (fun _ _ => byteOf_dec) hb) .nil))
    · cases h
  · cases h
theorem decNod_dec {a : AV} {x : Nod} (h : decNod a = some x) : Dec1 .nod a x := by
  unfold decNod at h
  split at h
  · split at h
    · rename_i _ _ l n hl hn
      cases h
      exact .aggs rfl (by simp only [List.all_cons, List.all_nil, listOf_one (g := .blk) hl, listOf_one (g := .nam) hn]; rfl) (.cons (.refl _) (.cons (.refl _) (.cons (.refl _) (.cons (.refl _) (.cons (.refl _) (.cons (listOf_le (g := .blk) (fun _ _ => decBlk_dec) hl) (.cons (.refl _) (.cons (listOf_le (g := .nam) (fun _ _ => decNam_dec) hn) .nil))))))))
    · cases h
  · cases h
theorem decDsk_dec {a : AV} {x : Dsk} (h : decDsk a = some x) : Dec1 .dsk a x := by
  unfold decDsk at h
  split at h
  · split at h
    · rename_i _ l hl
      cases h
      exact .aggs rfl (by simp only [List.all_cons, List.all_nil, listOf_one (g := .nod) hl]; rfl) (.cons (.refl _) (.cons (.refl _) (.cons (.refl _) (.cons (listOf_le (g := .nod) (fun _ _ => decNod_dec) hl) .nil))))
    · cases h
  · cases h
theorem decOpn_dec {a : AV} {x : Opn} (h : decOpn a = some x) : Dec1 .opn a x := by
  unfold decOpn at h
  split at h
  · split at h
    · rename_i _ l hl
      cases h
      exact .aggs rfl (by simp only [List.all_cons, List.all_nil, listOf_one (g := .u8) hl]; rfl) (.cons (.refl _) (.cons (.refl _) (.cons (.refl _) (.cons (.refl _) (.cons (.refl _) (.cons (.refl _) (.cons (listOf_le (g := .u8) (fun _ _ => byteOf_dec) hl) .nil)))))))
    · cases h
  · cases h
theorem decSpt_dec {a : AV} {x : Spt} (h : decSpt a = some x) : Dec1 .spt a x := by
  unfold decSpt at h
  split at h
  · cases h; exact .of_eq rfl
  · cases h
theorem decRow_dec {a : AV} {x : Rwo} (h : decRow a = some x) : Dec1 .row a x := by
  unfold decRow at h
  split at h
  · cases h; exact .of_eq rfl
  · cases h
theorem decAkt_dec {a : AV} {x : Akt} (h : decAkt a = some x) : Dec1 .akt a x := by
  unfold decAkt at h
  split at h
  · split at h
    · rename_i _ l hl
      cases h
      exact .aggs rfl (by simp only [List.all_cons, List.all_nil, listOf_one (g := .u8) hl]; rfl) (.cons (.refl _) (.cons (.refl _) (.cons (listOf_le (g := .u8) (fun _ _ => byteOf_dec) hl) .nil)))
    · cases h
  · cases h

theorem dec_dec : ∀ (g : GT) (a : AV) (x : g.T), dec g a = some x → Dec1 g a x
  | .u8, _, _, h => byteOf_dec h
  | .bool, _, _, h => decBool_dec h
  | .int, _, _, h => decInt_dec h
  | .str, _, _, h => decStr_dec h
  | .strs, _, _, h => decStrs_dec h
  | .nam, _, _, h => decNam_dec h
  | .blk, _, _, h => decBlk_dec h
  | .nod, _, _, h => decNod_dec h
  | .dsk, _, _, h => decDsk_dec h
  | .opn, _, _, h => decOpn_dec h
  | .opns, _, _, h => list_cells (g := .opn) h (fun _ _ => decOpn_dec) rfl
  | .spt, _, _, h => decSpt_dec h
  | .row, _, _, h => decRow_dec h
  | .akt, _, _, h => decAkt_dec h

theorem decL_le {g : GT} {a : AV} {xs : List g.T} (h : decL g a = some xs) : VLe a (.tl g xs) := listOf_le (dec_dec g) h
end decoders

/-! ### Values taken whole -/

omit [Syms] in
theorem optC_some {α : Type} {k : α → Prop} {o : Option α} (h : optC k o) : ∃ a, o = some a ∧ k a := by
  cases o with
  | none => exact h.elim
  | some a => exact ⟨a, rfl, h⟩

omit [Syms] in
theorem must_and {b : Bool} {p : Prop} (h : must b p) : b = true ∧ p := by
  cases b with
  | false => exact h.elim
  | true => exact ⟨rfl, h⟩

section
variable {nz : Bool} {H : Heap}

/-- A list's part of 'resC'. -/
noncomputable def resL (nz : Bool) (H : Heap) (d : Nat) : List AV → (List AV → List Nat → Prop) → Prop :=
  @List.rec AV (fun _ => (List AV → List Nat → Prop) → Prop) (fun k => k [] []) (fun x _ jh k => jh fun ys js => resC nz H d x fun y is => k (y :: ys) (is ++ js))

omit [Syms] in
theorem resL_all {d : Nat} (ih : ∀ a k, resC nz H d a k → ∃ y is, resolve nz H d a = some (y, is) ∧ k y is) : ∀ (l : List AV) (k : List AV → List Nat → Prop), resL nz H d l k → ∃ r, resAll nz H d l = some r ∧ k r.1 r.2
  | [], k, h => ⟨([], []), rfl, h⟩
  | x :: l, k, h => by
    obtain ⟨r, h1, h2⟩ := resL_all ih l _ h
    obtain ⟨y, is, h3, h4⟩ := ih _ _ h2
    refine ⟨(y :: r.1, is ++ r.2), ?_, h4⟩
    show (match resAll nz H d l, resolve nz H d x with
      | some ys, some y => some (y.1 :: ys.1, y.2 ++ ys.2)
      | _, _ => none) = _
    rw [h1, h3]

omit [Syms] in
theorem resC_some : ∀ (d : Nat) (a : AV) (k : AV → List Nat → Prop), resC nz H d a k → ∃ y is, resolve nz H d a = some (y, is) ∧ k y is
  | 0, a, k, h => h.elim
  | d + 1, a, k, h => by
    have ih := resC_some d
    cases a with
    | agg cs =>
      obtain ⟨r, h1, h2⟩ := resL_all ih cs _ h
      refine ⟨_, _, ?_, h2⟩
      show (match resAll nz H d cs with
        | some r => some (AV.agg r.1, r.2)
        | none => none) = _
      rw [h1]
    | tup cs =>
      obtain ⟨r, h1, h2⟩ := resL_all ih cs _ h
      refine ⟨_, _, ?_, h2⟩
      show (match resAll nz H d cs with
        | some r => some (AV.tup r.1, r.2)
        | none => none) = _
      rw [h1]
    | fn f cs =>
      obtain ⟨r, h1, h2⟩ := resL_all ih cs _ h
      refine ⟨_, _, ?_, h2⟩
      show (match resAll nz H d cs with
        | some r => some (AV.fn f r.1, r.2)
        | none => none) = _
      rw [h1]
    | ifc t v =>
      obtain ⟨y, is, h1, h2⟩ := ih v _ h
      refine ⟨_, _, ?_, h2⟩
      show (match resolve nz H d v with
        | some r => some (AV.ifc t r.1, r.2)
        | none => none) = _
      rw [h1]
    | osl s b lo len =>
      have h' : (match hget H b with
        | some (.arr _ xs) => lo + len ≤ xs.length ∧ resL nz H d xs fun r is => k (.sl ((r.drop lo).take len)) (b :: is)
        | some (.tarr t xs) => lo + len ≤ xs.length ∧ k (.tl t ((xs.drop lo).take len)) [b]
        | _ => False) := h
      clear h
      split at h'
      · rename_i s' xs hb
        obtain ⟨r, h1, h2⟩ := resL_all ih xs _ h'.2
        refine ⟨_, _, ?_, h2⟩
        show (match hget H b with
          | some (.arr _ xs) => bif (lo + len).ble xs.length then
              match resAll nz H d xs with
              | some r => some (AV.sl ((r.1.drop lo).take len), b :: r.2)
              | none => none
            else none
          | some (.tarr t xs) => bif (lo + len).ble xs.length then some (AV.tl t ((xs.drop lo).take len), [b]) else none
          | _ => none) = _
        rw [hb]
        simp only
        rw [show (lo + len).ble xs.length = true from Nat.ble_eq_true_of_le h'.1, cond_true, h1]
      · rename_i t xs hb
        refine ⟨_, _, ?_, h'.2⟩
        show (match hget H b with
          | some (.arr _ xs) => bif (lo + len).ble xs.length then
              match resAll nz H d xs with
              | some r => some (AV.sl ((r.1.drop lo).take len), b :: r.2)
              | none => none
            else none
          | some (.tarr t xs) => bif (lo + len).ble xs.length then some (AV.tl t ((xs.drop lo).take len), [b]) else none
          | _ => none) = _
        rw [hb]
        simp only
        rw [show (lo + len).ble xs.length = true from Nat.ble_eq_true_of_le h'.1, cond_true]
      · exact h'.elim
    | dead => exact h.elim
    | ptr _ _ => exact h.elim
    | eptr _ _ _ => exact h.elim
    | cptr _ => exact h.elim
    | mp _ => exact h.elim
    | _ => exact ⟨_, _, rfl, h⟩

omit [Syms] in
theorem resAllC_some : ∀ (l : List AV) (k : List AV → List Nat → Prop), resAllC nz H l k → ∃ p, resolveAll nz H l = some p ∧ k p.1 p.2
  | [], k, h => ⟨([], []), rfl, h⟩
  | x :: l, k, h => by
    obtain ⟨p, h1, h2⟩ := resAllC_some l _ h
    obtain ⟨y, is, h3, h4⟩ := resC_some _ _ _ h2
    exact ⟨(y :: p.1, is ++ p.2), by rw [resolveAll, h3, h1], h4⟩
end

end Go.Proofs.Ytjihnbjdclobgaa.VS
