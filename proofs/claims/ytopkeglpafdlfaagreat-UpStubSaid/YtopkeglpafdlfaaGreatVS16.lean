/- Values taken whole, and values under other numbers: what they tell. Conditions: none. -/
import Derived.Test.YtopkeglpafdlfaaGreatVS15
namespace Go.Proofs.YtopkeglpafdlfaaGreat.VS
variable [Syms]

section
variable {ok ok' : Nat → Prop} {h : Array Obj} {m m' : Map} {H : Heap}

def resAll (nz : Bool) (H : Heap) (d : Nat) (l : List AV) : Option (List AV × List Nat) :=
  l.foldr (fun x acc => match acc, resolve nz H d x with
    | some ys, some y => some (y.1 :: ys.1, y.2 ++ ys.2)
    | _, _ => none) (some ([], []))

omit [Syms] in
theorem resAll_some {nz : Bool} {d : Nat} : ∀ {l : List AV} {r : List AV × List Nat}, resAll nz H d l = some r → r.1.length = l.length ∧
    ∀ (j : Nat) (x : AV), l[j]? = some x → ∃ y is, r.1[j]? = some y ∧ resolve nz H d x = some (y, is) ∧ ∀ b ∈ is, b ∈ r.2
  | [], r, hr => by simp [resAll] at hr; subst hr; exact ⟨rfl, fun j x hx => by simp at hx⟩
  | a :: l, r, hr => by
    unfold resAll at hr
    rw [List.foldr_cons] at hr
    change (match resAll nz H d l, resolve nz H d a with
      | some ys, some y => some (y.1 :: ys.1, y.2 ++ ys.2)
      | _, _ => none) = some r at hr
    split at hr
    · rename_i ys y hys hy
      cases hr
      obtain ⟨h1, h2⟩ := resAll_some hys
      refine ⟨by simp [h1], fun j x hx => ?_⟩
      cases j with
      | zero => simp at hx; subst hx; exact ⟨y.1, y.2, rfl, hy, fun b hb => List.mem_append.2 (.inl hb)⟩
      | succ j =>
        obtain ⟨y', is, g1, g2, g3⟩ := h2 j x (by simpa using hx)
        exact ⟨y', is, by simpa using g1, g2, fun b hb => List.mem_append.2 (.inr (g3 b hb))⟩
    · cases hr

/-- The arrays of a heap, told. -/
def ArrsR (ok : Nat → Prop) (h : Array Obj) (m : Map) (H : Heap) : Prop :=
  ∀ b o L, hget H b = some o → m b = some L → ObjR ok h m L o

theorem SR.arrs {c : Ctx} {F : List Nat} {w : World} (hs : SR c m H F w) : ArrsR (okB c.X m H F) w.heap m H := fun _ _ _ hb hL => hs.objm hb hL

def leafV : AV → Bool
  | .bool _ | .int _ _ | .str _ | .nilp | .nilf | .nili | .nilm | .sl _ | .rng _ _ _ _ | .ustr _ _ | .lin _ _ _ _ _ | .tl _ _ | .ub _ => true
  | _ => false

/-- One step of a value taken whole. -/
inductive Rsv (nz : Bool) (H : Heap) (d : Nat) : AV → AV → List Nat → Prop
  | agg {cs r} : resAll nz H d cs = some r → Rsv nz H d (.agg cs) (.agg r.1) r.2
  | tup {cs r} : resAll nz H d cs = some r → Rsv nz H d (.tup cs) (.tup r.1) r.2
  | fn {f cs r} : resAll nz H d cs = some r → Rsv nz H d (.fn f cs) (.fn f r.1) r.2
  | ifc {t v r} : resolve nz H d v = some r → Rsv nz H d (.ifc t v) (.ifc t r.1) r.2
  | osl {s b lo len s' xs r} : hget H b = some (.arr s' xs) → lo + len ≤ xs.length → resAll nz H d xs = some r → Rsv nz H d (.osl s b lo len) (.sl ((r.1.drop lo).take len)) (b :: r.2)
  | tosl {s b lo len t xs} : hget H b = some (.tarr t xs) → lo + len ≤ xs.length → Rsv nz H d (.osl s b lo len) (.tl t ((xs.drop lo).take len)) [b]
  | ptr {b cs r} : hget H b = some (.cells cs) → resAll nz H d cs = some r → Rsv nz H d (.ptr b 0) (.cptr (.agg r.1)) (b :: r.2)
  | cptr {x} : Rsv nz H d (.cptr x) (.cptr x) []
  | gs {g b n t xs} : hget H b = some (.tarr t xs) → n = xs.length → Rsv nz H d (.gs g b n) (.tl t xs) [b]
  | nev : Rsv nz H d .nev (bif nz then .sl [] else .nev) []
  | nils : Rsv nz H d .nils (bif nz then .sl [] else .nils) []
  | emp : Rsv nz H d .emp (bif nz then .sl [] else .emp) []
  | leaf {v} : leafV v = true → Rsv nz H d v v []

omit [Syms] in
theorem resolve_rsv {nz : Bool} {d : Nat} {a y : AV} {is : List Nat} (hr : resolve nz H (d + 1) a = some (y, is)) : Rsv nz H d a y is := by
  cases a with
  | agg cs =>
    change (match resAll nz H d cs with
      | some r => some (.agg r.1, r.2)
      | none => none) = some (y, is) at hr
    split at hr
    · rename_i r hr'; cases hr; exact .agg hr'
    · cases hr
  | tup cs =>
    change (match resAll nz H d cs with
      | some r => some (.tup r.1, r.2)
      | none => none) = some (y, is) at hr
    split at hr
    · rename_i r hr'; cases hr; exact .tup hr'
    · cases hr
  | fn f cs =>
    change (match resAll nz H d cs with
      | some r => some (.fn f r.1, r.2)
      | none => none) = some (y, is) at hr
    split at hr
    · rename_i r hr'; cases hr; exact .fn hr'
    · cases hr
  | ifc t v =>
    change (match resolve nz H d v with
      | some r => some (.ifc t r.1, r.2)
      | none => none) = some (y, is) at hr
    split at hr
    · rename_i r hr'; cases hr; exact .ifc hr'
    · cases hr
  | osl s b lo len =>
    change (match hget H b with
      | some (.arr _ xs) => bif (lo + len).ble xs.length then
          match resAll nz H d xs with
          | some r => some (.sl ((r.1.drop lo).take len), b :: r.2)
          | none => none
        else none
      | some (.tarr t xs) => bif (lo + len).ble xs.length then some (.tl t ((xs.drop lo).take len), [b]) else none
      | _ => none) = some (y, is) at hr
    split at hr
    · rename_i s' xs hb
      cases hc : (lo + len).ble xs.length with
      | false => simp [hc] at hr
      | true =>
        simp only [hc, cond_true] at hr
        split at hr
        · rename_i r hr'; cases hr; exact .osl hb (ble_le hc) hr'
        · cases hr
    · rename_i t xs hb
      cases hc : (lo + len).ble xs.length with
      | false => simp [hc] at hr
      | true => simp only [hc, cond_true] at hr; cases hr; exact .tosl hb (ble_le hc)
    · cases hr
  | gs g b n =>
    change (match hget H b with
      | some (.tarr t xs) => bif n.beq xs.length then some (.tl t xs, [b]) else none
      | _ => none) = some (y, is) at hr
    split at hr
    · rename_i t xs hb
      cases hc : n.beq xs.length with
      | false => simp [hc] at hr
      | true => simp only [hc, cond_true] at hr; cases hr; exact .gs hb (Nat.eq_of_beq_eq_true hc)
    · cases hr
  | nils => cases hr; exact .nils
  | nev => cases hr; exact .nev
  | emp => cases hr; exact .emp
  | bool _ => cases hr; exact .leaf rfl
  | int _ _ => cases hr; exact .leaf rfl
  | rng _ _ _ _ => cases hr; exact .leaf rfl
  | ustr _ _ => cases hr; exact .leaf rfl
  | lin _ _ _ _ _ => cases hr; exact .leaf rfl
  | str _ => cases hr; exact .leaf rfl
  | nilp => cases hr; exact .leaf rfl
  | nilf => cases hr; exact .leaf rfl
  | nili => cases hr; exact .leaf rfl
  | nilm => cases hr; exact .leaf rfl
  | sl _ => cases hr; exact .leaf rfl
  | tl _ _ => cases hr; exact .leaf rfl
  | ub _ => cases hr; exact .leaf rfl
  | dead => cases hr
  | ptr b o =>
    change (match hget H b with
      | some (.cells cs) => bif o.beq 0 then
          match resAll nz H d cs with
          | some r => some (.cptr (.agg r.1), b :: r.2)
          | none => none
        else none
      | _ => none) = some (y, is) at hr
    split at hr
    · rename_i cs hb
      cases hc : o.beq 0 with
      | false => simp [hc] at hr
      | true =>
        have := Nat.eq_of_beq_eq_true hc
        subst this
        simp only [hc, cond_true] at hr
        split at hr
        · rename_i r hr'; cases hr; exact .ptr hb hr'
        · cases hr
    · cases hr
  | eptr _ _ _ => cases hr
  | cptr _ => cases hr; exact .cptr
  | mp _ => cases hr

theorem sl_vr {xs : List AV} (hok : ∀ β, ok β → ok' β) {u : Value} (hv : VR ok h m (.sl xs) u) : VR ok' h m' (.sl xs) u := by
  cases hv with
  | slE h1 => exact .slE h1
  | sl g h1 h2 h3 h4 h5 h6 h7 h8 h9 => exact .sl g h1 h2 (hok _ h3) h4 h5 h6 h7 h8 fun j x hx => (h9 j x hx).mono (fun β C e z k1 k2 => ⟨hok _ k1, k2⟩) (MLe.refl _)

theorem leaf_vr {v : AV} (hl : leafV v = true) (hok : ∀ β, ok β → ok' β) {u : Value} (hv : VR ok h m v u) : VR ok' h m' v u := by
  have : VR ok' h noMap v u ∨ (∃ xs, v = .sl xs) ∨ ∃ t xs, v = .tl t xs := by
    cases hv <;> first | (exact .inr (.inl ⟨_, rfl⟩)) | (exact .inr (.inr ⟨_, _, rfl⟩)) | (left; constructor; done) | (left; exact .str _ _ (by assumption)) | (left; exact .rng _ _ _ _ _ (by assumption) (by assumption) (by assumption)) | (left; exact .ustr _ _ _ (by assumption) (by assumption)) | (left; exact .lin _ _ _ _ _ _ (by assumption) (by assumption) (by assumption)) | (simp [leafV] at hl)
  rcases this with hh | ⟨xs, rfl⟩ | ⟨t, xs, rfl⟩
  · exact hh.mono (fun β C e z h1 h2 => ⟨h1, h2⟩) (fun b L hb => by cases hb)
  · exact sl_vr hok hv
  · exact .tl (sl_vr hok (VR.tl_iff.1 hv))

/-- Values taken whole, part by part. -/
theorem resAll_vr {nz : Bool} {d : Nat} {I : Nat → Prop} (ih : ∀ a y is v, resolve nz H d a = some (y, is) → (∀ b ∈ is, I b) → VR ok h m a v → VR ok' h noMap y v) {cs : List AV} {r : List AV × List Nat} (hr : resAll nz H d cs = some r)
    (hI : ∀ b ∈ r.2, I b) {C : Array Value} {o : Nat} (hc : CR ok h m cs C o) : CR ok' h noMap r.1 C o := by
  obtain ⟨h1, h2⟩ := resAll_some hr
  intro j y hy
  have hj : j < cs.length := by
    rcases Nat.lt_or_ge j cs.length with hj | hj
    · exact hj
    · rw [List.getElem?_eq_none (by omega)] at hy; cases hy
  obtain ⟨y', is, g1, g2, g3⟩ := h2 j cs[j] (List.getElem?_eq_getElem hj)
  rw [hy] at g1; cases g1
  obtain ⟨v, hv, hr'⟩ := hc j cs[j] (List.getElem?_eq_getElem hj)
  exact ⟨v, hv, ih _ _ is v g2 (fun b hb => hI b (g3 b hb)) hr'⟩

theorem resolve_cells {nz : Bool} {d : Nat} {I : Nat → Prop} (ih : ∀ d', d' ≤ d → ∀ a y is v, resolve nz H d' a = some (y, is) → (∀ b ∈ is, I b) → VR ok h m a v → VR ok' h noMap y v) {a y : AV} {is : List Nat}
    (hr : resolve nz H d a = some (y, is)) (hI : ∀ b ∈ is, I b) {C : Array Value} {o : Nat} (hc : CR ok h m a.cells C o) : y.cells.length = a.cells.length ∧ CR ok' h noMap y.cells C o := by
  cases d with
  | zero => simp [resolve] at hr
  | succ d =>
    have one : a.cells = [a] → y.cells = [y] → y.cells.length = a.cells.length ∧ CR ok' h noMap y.cells C o := by
      intro h1 h2
      refine ⟨by rw [h1, h2]; rfl, ?_⟩
      rw [h2]
      intro j x hx
      cases j with
      | zero =>
        simp at hx; subst hx
        obtain ⟨v, hv, hr'⟩ := hc 0 a (by rw [h1]; rfl)
        exact ⟨v, hv, ih (d + 1) (Nat.le_refl _) _ _ is v hr hI hr'⟩
      | succ j => simp at hx
    cases resolve_rsv hr with
    | agg hr' => exact ⟨(resAll_some hr').1, resAll_vr (ih d (Nat.le_succ d)) hr' hI hc⟩
    | tup hr' => exact one rfl rfl
    | fn hr' => exact one rfl rfl
    | ifc hr' => exact one rfl rfl
    | osl h1 h2 h3 => exact one rfl rfl
    | tosl h1 h2 => exact one rfl rfl
    | gs h1 h2 => exact one rfl rfl
    | ptr h1 h2 => exact one rfl rfl
    | cptr => exact one rfl rfl
    | nils => exact one rfl (by cases nz <;> rfl)
    | nev => exact one rfl (by cases nz <;> rfl)
    | emp => exact one rfl (by cases nz <;> rfl)
    | leaf hl =>
      cases a <;> first | exact one rfl rfl | (simp [leafV] at hl)

theorem resAll_flat {nz : Bool} {d : Nat} {I : Nat → Prop} (ih : ∀ d', d' ≤ d → ∀ a y is v, resolve nz H d' a = some (y, is) → (∀ b ∈ is, I b) → VR ok h m a v → VR ok' h noMap y v) {s : Nat} : ∀ {cs : List AV} {r : List AV × List Nat}, resAll nz H d cs = some r →
    (∀ b ∈ r.2, I b) → (∀ x ∈ cs, x.cells.length = s) → ∀ {C : Array Value} {o : Nat}, CR ok h m (flat cs) C o → (∀ y ∈ r.1, y.cells.length = s) ∧ CR ok' h noMap (flat r.1) C o
  | [], r, hr, _, _, C, o, _ => by
    simp [resAll] at hr; subst hr
    exact ⟨fun y hy => by simp at hy, fun j x hx => by simp [flat] at hx⟩
  | a :: l, r, hr, hI, hs, C, o, hc => by
    unfold resAll at hr
    rw [List.foldr_cons] at hr
    change (match resAll nz H d l, resolve nz H d a with
      | some ys, some y => some (y.1 :: ys.1, y.2 ++ ys.2)
      | _, _ => none) = some r at hr
    split at hr
    · rename_i ys y hys hy
      cases hr
      rw [flat_cons] at hc
      have ha := hs a (by simp)
      obtain ⟨g1, g2⟩ := resolve_cells ih hy (fun b hb => hI b (List.mem_append.2 (.inl hb))) (fun j x hx => hc j x (by rw [List.getElem?_append_left (List.getElem?_eq_some_iff.1 hx).1]; exact hx))
      obtain ⟨k1, k2⟩ := resAll_flat ih hys (fun b hb => hI b (List.mem_append.2 (.inr hb))) (fun x hx => hs x (by simp [hx])) (C := C) (o := o + s) (fun j x hx => by
        obtain ⟨v, hv, hr'⟩ := hc (s + j) x (by rw [List.getElem?_append_right (by omega), ha, Nat.add_sub_cancel_left]; exact hx)
        exact ⟨v, by rw [Nat.add_assoc]; exact hv, hr'⟩)
      refine ⟨fun z hz => ?_, fun j x hx => ?_⟩
      · rcases List.mem_cons.1 hz with rfl | hz
        · omega
        · exact k1 z hz
      · rw [flat_cons] at hx
        rcases Nat.lt_or_ge j y.1.cells.length with hj | hj
        · rw [List.getElem?_append_left hj] at hx; exact g2 j x hx
        · rw [List.getElem?_append_right hj] at hx
          obtain ⟨v, hv, hr'⟩ := k2 _ x hx
          exact ⟨v, by rw [← hv]; congr 1; omega, hr'⟩
    · cases hr

/-- A part of an array, as a tree. -/
theorem osl_tree {s b lo len s' : Nat} {xs : List AV} {L : Loc} {C : Array Value} {e : TypeId} {z : Nat × Nat} {v : Value} (hm : m b = some L) (j1 : L.sz = s') (j2 : 0 < s') (j3 : L.ext = xs.length) (j5 : h[L.blk]? = some (.cells C e z))
    (k1 : ∀ y ∈ xs, y.cells.length = s') (k2 : CR ok' h noMap (flat xs) C L.off) (hb : ok' L.blk) (hle : lo + len ≤ xs.length) (hv : VR ok h m (.osl s b lo len) v) : VR ok' h noMap (.sl ((xs.drop lo).take len)) v := by
  obtain ⟨L', q1, q2, q3, q4⟩ := hv.osl_inv
  rw [hm] at q1; cases q1
  have hss : s = s' := by omega
  subst hss
  rcases q4 with ⟨q5, q6, a, rfl⟩ | ⟨cp, rfl, q5, q6, q7⟩
  · subst q5; rw [List.take_zero]; exact .slE nofun
  · by_cases h0 : len = 0
    · subst h0; rw [List.take_zero]; exact .slE nofun
    · have hlen : ((xs.drop lo).take len).length = len := by simp; omega
      have hfl : flat ((xs.drop lo).take len) = ((flat xs).drop (lo * s)).take (len * s) := by
        rw [flat_take len (fun y hy => k1 y (List.mem_of_mem_drop hy)), flat_drop lo k1]
      have hcr : CR ok' h noMap (flat ((xs.drop lo).take len)) C (L.off + lo * s) := by
        rw [hfl]; exact (k2.drop (lo * s)).take (len * s)
      obtain ⟨g, g1, g2⟩ := hcr.fun
      refine .sl g (fun e => h0 (by rw [e] at hlen; simpa using hlen.symm)) hlen.symm hb j5 j2 (fun y hy => k1 y (List.mem_of_mem_drop (List.mem_of_mem_take hy))) ?_ g1 g2
      omega

omit [Syms] in
theorem enc_leaf (t : GT) (x : t.T) : ∀ y ∈ (enc t x).cells, leafV y = true := by
  have : (enc t x).cells.all leafV = true := by cases t <;> rfl
  exact List.all_eq_true.1 this

theorem encs_flat_vr (hok : ∀ β, ok β → ok' β) {t : GT} {xs : List t.T} {C : Array Value} {o : Nat} (hc : CR ok h m (flat (encs t xs)) C o) : CR ok' h m' (flat (encs t xs)) C o := by
  intro j x hx
  obtain ⟨v, hv, hr⟩ := hc j x hx
  refine ⟨v, hv, leaf_vr ?_ hok hr⟩
  obtain ⟨y, hy, hxy⟩ := List.mem_flatMap.1 (List.mem_of_getElem? hx)
  obtain ⟨q, _, rfl⟩ := List.mem_map.1 hy
  exact enc_leaf t q x hxy

/-- A value taken whole. -/
theorem resolve_vr {nz : Bool} {I : Nat → Prop} (hok : ∀ β, ok β → ok' β) (hA : ArrsR ok h m H) (hI : ∀ b L, I b → m b = some L → hget H b ≠ none → ok' L.blk) : ∀ d a y is v, resolve nz H d a = some (y, is) → (∀ b ∈ is, I b) → VR ok h m a v → VR ok' h noMap y v := by
  intro d
  induction d using Nat.strongRecOn with
  | _ d ih =>
    intro a y is v hr hi hv
    cases d with
    | zero => simp [resolve] at hr
    | succ d =>
      have ih' := ih d (Nat.lt_succ_self d)
      have ihs : ∀ d', d' ≤ d → ∀ a y is v, resolve nz H d' a = some (y, is) → (∀ b ∈ is, I b) → VR ok h m a v → VR ok' h noMap y v := fun d' hd' => ih d' (by omega)
      cases resolve_rsv hr with
      | agg hr' =>
        obtain ⟨us, rfl, h1, h2⟩ := hv.agg_inv
        exact .agg' (by rw [(resAll_some hr').1]; exact h1) (resAll_vr ih' hr' hi h2)
      | tup hr' =>
        obtain ⟨us, rfl, h1, h2⟩ := hv.tup_inv
        exact .tup' (by rw [(resAll_some hr').1]; exact h1) (resAll_vr ih' hr' hi h2)
      | fn hr' =>
        obtain ⟨us, rfl, h1, h2⟩ := hv.fn_inv
        exact .fn' (by rw [(resAll_some hr').1]; exact h1) (resAll_vr ih' hr' hi h2)
      | ifc hr' =>
        cases hv with
        | ifc hv' => exact .ifc (ih' _ _ _ _ hr' hi hv')
      | nils =>
        cases hv
        cases nz
        · exact .nils
        · exact .slE fun _ => rfl
      | nev =>
        cases hv
        cases nz
        · exact .nev
        · exact .slE nofun
      | emp =>
        cases hv
        cases nz
        · exact .emp
        · exact .slE fun _ => rfl
      | leaf hl => exact leaf_vr hl hok hv
      | @osl s b lo len s' xs r hb hle hr' =>
        obtain ⟨L, hm, _⟩ := hv.osl_inv
        obtain ⟨j1, j2, j3, j4, C, e, z, j5, j6, j7, j8, j9⟩ := hA b _ L hb hm
        obtain ⟨k1, k2⟩ := resAll_flat ihs hr' (fun b' hb' => hi b' (List.mem_cons_of_mem _ hb')) j4 j9
        have hrl := (resAll_some hr').1
        exact osl_tree hm j1 j2 (by omega) j5 k1 k2 (hI b L (hi b (by simp)) hm (by rw [hb]; simp)) (by omega) hv
      | @tosl s b lo len t xs hb hle =>
        obtain ⟨L, hm, _⟩ := hv.osl_inv
        obtain ⟨j1, j2, j3, j4, C, e, z, j5, j6, j7, j8, j9⟩ := hA b _ L hb hm
        have hflat : CR ok' h noMap (flat (encs t xs)) C L.off := encs_flat_vr hok j9
        have := osl_tree hm j1 j2 (by omega) j5 j4 hflat (hI b L (hi b (by simp)) hm (by rw [hb]; simp)) (by rw [encs_length]; exact hle) hv
        refine .tl ?_
        have e1 : encs t ((xs.drop lo).take len) = ((encs t xs).drop lo).take len := by simp [encs, List.map_take, List.map_drop]
        rw [e1]; exact this
      | cptr =>
        cases hv with
        | cptr g h1 h2 h3 h4 => exact .cptr g (hok _ h1) h2 h3 fun j y hy => (h4 j y hy).mono (fun β C e z k1 k2 => ⟨hok _ k1, k2⟩) (MLe.refl _)
      | @ptr b cs r hb hr' =>
        obtain ⟨L, hm, rfl⟩ := hv.ptr_inv
        obtain ⟨j1, C, e, z, j2, j3, j4, j5⟩ := hA b _ L hb hm
        have hcr := resAll_vr ih' hr' (fun b' hb' => hi b' (List.mem_cons_of_mem _ hb')) j5
        obtain ⟨g, g1, g2⟩ := hcr.fun
        rw [j1]
        exact .cptr g (hI b L (hi b (by simp)) hm (by rw [hb]; simp)) j2 g1 g2
      | @gs g b n t xs hb hn =>
        cases hv with
        | gsE =>
          obtain rfl : xs = [] := List.length_eq_zero_iff.1 hn.symm
          exact .tl (.slE fun _ => rfl)
        | gs hv =>
          obtain ⟨L, hm, _⟩ := hv.osl_inv
          obtain ⟨j1, j2, j3, j4, C, e, z, j5, j6, j7, j8, j9⟩ := hA b _ L hb hm
          have hflat : CR ok' h noMap (flat (encs t xs)) C L.off := encs_flat_vr hok j9
          have := osl_tree hm j1 j2 (by omega) j5 j4 hflat (hI b L (hi b (by simp)) hm (by rw [hb]; simp)) (by rw [encs_length]; omega) hv
          refine .tl ?_
          have e1 : encs t xs = ((encs t xs).drop 0).take n := by rw [List.drop_zero, hn, ← encs_length t xs, List.take_length]
          rw [e1]; exact this

end
end Go.Proofs.YtopkeglpafdlfaaGreat.VS
