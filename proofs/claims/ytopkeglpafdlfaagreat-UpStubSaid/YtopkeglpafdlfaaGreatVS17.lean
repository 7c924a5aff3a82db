/- Values under other numbers, and values that hold no memory: what they tell. Conditions: none. -/
import Derived.Test.YtopkeglpafdlfaaGreatVS16
namespace Go.Proofs.YtopkeglpafdlfaaGreat.VS
variable [Syms]

section
variable {ok ok' : Nat → Prop} {h h' : Array Obj} {m m' : Map} {H : Heap} {ρ : Nat → Option Nat}

omit [Syms] in
theorem renAll_cons (d : Nat) (a : AV) (l : List AV) : renAll ρ d (a :: l) = (match renAll ρ d l, ren ρ d a with
    | some ys, some y => some (y :: ys)
    | _, _ => none) := rfl

omit [Syms] in
theorem renAll_some {d : Nat} : ∀ {l r : List AV}, renAll ρ d l = some r → r.length = l.length ∧
    ∀ (j : Nat) (x : AV), l[j]? = some x → ∃ y, r[j]? = some y ∧ ren ρ d x = some y
  | [], r, hr => by simp [renAll] at hr; subst hr; exact ⟨rfl, fun j x hx => by simp at hx⟩
  | a :: l, r, hr => by
    rw [renAll_cons] at hr
    split at hr
    · rename_i ys y hys hy
      cases hr
      obtain ⟨h1, h2⟩ := renAll_some hys
      refine ⟨by simp [h1], fun j x hx => ?_⟩
      cases j with
      | zero => simp at hx; subst hx; exact ⟨y, rfl, hy⟩
      | succ j =>
        obtain ⟨y', g1, g2⟩ := h2 j x (by simpa using hx)
        exact ⟨y', by simpa using g1, g2⟩
    · cases hr

def leafR : AV → Bool
  | .nils | .emp | .nev => true
  | v => leafV v

inductive Rn (ρ : Nat → Option Nat) (d : Nat) : AV → AV → Prop
  | agg {cs r} : renAll ρ d cs = some r → Rn ρ d (.agg cs) (.agg r)
  | tup {cs r} : renAll ρ d cs = some r → Rn ρ d (.tup cs) (.tup r)
  | fn {f cs r} : renAll ρ d cs = some r → Rn ρ d (.fn f cs) (.fn f r)
  | ifc {t v r} : ren ρ d v = some r → Rn ρ d (.ifc t v) (.ifc t r)
  | osl {s b lo len c} : ρ b = some c → Rn ρ d (.osl s b lo len) (.osl s c lo len)
  | gs {g b n c} : ρ b = some c → Rn ρ d (.gs g b n) (.gs g c n)
  | leaf {v} : leafR v = true → Rn ρ d v v

omit [Syms] in
theorem ren_rn {d : Nat} {a y : AV} (hr : ren ρ (d + 1) a = some y) : Rn ρ d a y := by
  cases a with
  | agg cs =>
    change (match renAll ρ d cs with
      | some r => some (.agg r)
      | none => none) = some y at hr
    split at hr
    · rename_i r hr'; cases hr; exact .agg hr'
    · cases hr
  | tup cs =>
    change (match renAll ρ d cs with
      | some r => some (.tup r)
      | none => none) = some y at hr
    split at hr
    · rename_i r hr'; cases hr; exact .tup hr'
    · cases hr
  | fn f cs =>
    change (match renAll ρ d cs with
      | some r => some (.fn f r)
      | none => none) = some y at hr
    split at hr
    · rename_i r hr'; cases hr; exact .fn hr'
    · cases hr
  | ifc t v =>
    change (match ren ρ d v with
      | some r => some (.ifc t r)
      | none => none) = some y at hr
    split at hr
    · rename_i r hr'; cases hr; exact .ifc hr'
    · cases hr
  | gs g b n =>
    change (match ρ b with
      | some c => some (.gs g c n)
      | none => none) = some y at hr
    split at hr
    · rename_i c hc; cases hr; exact .gs hc
    · cases hr
  | osl s b lo len =>
    change (match ρ b with
      | some c => some (.osl s c lo len)
      | none => none) = some y at hr
    split at hr
    · rename_i c hc; cases hr; exact .osl hc
    · cases hr
  | nils => cases hr; exact .leaf rfl
  | nev => cases hr; exact .leaf rfl
  | emp => cases hr; exact .leaf rfl
  | bool _ => cases hr; exact .leaf rfl
  | int _ _ => cases hr; exact .leaf rfl
  | rng _ _ _ _ => cases hr; exact .leaf rfl
  | ustr _ _ => cases hr; exact .leaf rfl
  | lin _ _ _ _ _ => cases hr; exact .leaf rfl
  | str _ => cases hr; exact .leaf rfl
  | nilp => cases hr; exact .leaf rfl
  | nilf => cases hr; exact .leaf rfl
  | nili => cases hr; exact .leaf rfl
  | nilm => cases hr; exact .leaf rfl
  | sl _ => cases hr; exact .leaf rfl
  | tl _ _ => cases hr; exact .leaf rfl
  | ub _ => cases hr; exact .leaf rfl
  | dead => cases hr
  | ptr _ _ => cases hr
  | eptr _ _ _ => cases hr
  | cptr _ => cases hr
  | mp _ => cases hr

theorem leafR_vr {v : AV} (hl : leafR v = true) (hok : ∀ β, ok β → ok' β) {u : Value} (hv : VR ok h m v u) : VR ok' h m' v u := by
  by_cases h1 : v = .nils
  · subst h1; cases hv; exact .nils
  · by_cases h2 : v = .emp
    · subst h2; cases hv; exact .emp
    · by_cases h3 : v = .nev
      · subst h3; cases hv; exact .nev
      · refine leaf_vr ?_ hok hv
        cases v <;> first | exact hl | exact absurd rfl h1 | exact absurd rfl h2 | exact absurd rfl h3

theorem renAll_vr {d : Nat} (ih : ∀ a y v, ren ρ d a = some y → VR ok h m a v → VR ok' h m' y v) {cs r : List AV} (hr : renAll ρ d cs = some r) {C : Array Value} {o : Nat} (hc : CR ok h m cs C o) : CR ok' h m' r C o := by
  obtain ⟨h1, h2⟩ := renAll_some hr
  intro j y hy
  have hj : j < cs.length := by rw [← h1]; exact (List.getElem?_eq_some_iff.1 hy).1
  obtain ⟨y', g1, g2⟩ := h2 j cs[j] (List.getElem?_eq_getElem hj)
  rw [hy] at g1; cases g1
  obtain ⟨v, hv, hr'⟩ := hc j cs[j] (List.getElem?_eq_getElem hj)
  exact ⟨v, hv, ih _ _ v g2 hr'⟩

/-- A value under other numbers. -/
theorem ren_vr (hok : ∀ β, ok β → ok' β) (hm : ∀ b c, ρ b = some c → m' c = m b) : ∀ d a y v, ren ρ d a = some y → VR ok h m a v → VR ok' h m' y v := by
  intro d
  induction d with
  | zero => intro a y v hr; simp [ren] at hr
  | succ d ih =>
    intro a y v hr hv
    cases ren_rn hr with
    | agg hr' =>
      obtain ⟨us, rfl, h1, h2⟩ := hv.agg_inv
      exact .agg' (by rw [(renAll_some hr').1]; exact h1) (renAll_vr ih hr' h2)
    | tup hr' =>
      obtain ⟨us, rfl, h1, h2⟩ := hv.tup_inv
      exact .tup' (by rw [(renAll_some hr').1]; exact h1) (renAll_vr ih hr' h2)
    | fn hr' =>
      obtain ⟨us, rfl, h1, h2⟩ := hv.fn_inv
      exact .fn' (by rw [(renAll_some hr').1]; exact h1) (renAll_vr ih hr' h2)
    | ifc hr' =>
      cases hv with
      | ifc hv' => exact .ifc (ih _ _ _ hr' hv')
    | leaf hl => exact leafR_vr hl hok hv
    | gs hc =>
      cases hv with
      | gsE => exact .gsE
      | gs hv' =>
        cases hv' with
        | oslE h1 h2 h3 h4 => exact .gs (.oslE (by rw [hm _ _ hc]; exact h1) h2 h3 h4)
        | osl h1 h2 h3 h4 h5 h6 h7 h8 => exact .gs (.osl (by rw [hm _ _ hc]; exact h1) h2 h3 h4 h5 h6 h7 h8)
    | osl hc =>
      cases hv with
      | oslE h1 h2 h3 h4 => exact .oslE (by rw [hm _ _ hc]; exact h1) h2 h3 h4
      | osl h1 h2 h3 h4 h5 h6 h7 h8 => exact .osl (by rw [hm _ _ hc]; exact h1) h2 h3 h4 h5 h6 h7 h8

theorem ren_cells (hok : ∀ β, ok β → ok' β) (hm : ∀ b c, ρ b = some c → m' c = m b) {d : Nat} {a y : AV} (hr : ren ρ d a = some y) {C : Array Value} {o : Nat} (hc : CR ok h m a.cells C o) : y.cells.length = a.cells.length ∧ CR ok' h m' y.cells C o := by
  cases d with
  | zero => simp [ren] at hr
  | succ d =>
    have one : a.cells = [a] → y.cells = [y] → y.cells.length = a.cells.length ∧ CR ok' h m' y.cells C o := by
      intro h1 h2
      refine ⟨by rw [h1, h2]; rfl, ?_⟩
      rw [h2]
      intro j x hx
      cases j with
      | zero =>
        simp at hx; subst hx
        obtain ⟨v, hv, hr'⟩ := hc 0 a (by rw [h1]; rfl)
        exact ⟨v, hv, ren_vr hok hm _ _ _ v hr hr'⟩
      | succ j => simp at hx
    cases ren_rn hr with
    | agg hr' => exact ⟨(renAll_some hr').1, renAll_vr (fun a y v h1 h2 => ren_vr hok hm d a y v h1 h2) hr' hc⟩
    | tup hr' => exact one rfl rfl
    | fn hr' => exact one rfl rfl
    | ifc hr' => exact one rfl rfl
    | osl h1 => exact one rfl rfl
    | gs h1 => exact one rfl rfl
    | leaf hl =>
      cases a <;> first | exact one rfl rfl | (simp [leafR, leafV] at hl)

theorem renAll_flat (hok : ∀ β, ok β → ok' β) (hm : ∀ b c, ρ b = some c → m' c = m b) {d s : Nat} : ∀ {cs r : List AV}, renAll ρ d cs = some r → (∀ x ∈ cs, x.cells.length = s) → ∀ {C : Array Value} {o : Nat}, CR ok h m (flat cs) C o →
    (∀ y ∈ r, y.cells.length = s) ∧ CR ok' h m' (flat r) C o
  | [], r, hr, _, C, o, _ => by
    simp [renAll] at hr; subst hr
    exact ⟨fun y hy => by simp at hy, fun j x hx => by simp [flat] at hx⟩
  | a :: l, r, hr, hs, C, o, hc => by
    rw [renAll_cons] at hr
    split at hr
    · rename_i ys y hys hy
      cases hr
      rw [flat_cons] at hc
      have ha := hs a (by simp)
      obtain ⟨g1, g2⟩ := ren_cells hok hm hy (fun j x hx => hc j x (by rw [List.getElem?_append_left (List.getElem?_eq_some_iff.1 hx).1]; exact hx))
      obtain ⟨k1, k2⟩ := renAll_flat hok hm hys (fun x hx => hs x (by simp [hx])) (C := C) (o := o + s) (fun j x hx => by
        obtain ⟨v, hv, hr'⟩ := hc (s + j) x (by rw [List.getElem?_append_right (by omega), ha, Nat.add_sub_cancel_left]; exact hx)
        exact ⟨v, by rw [Nat.add_assoc]; exact hv, hr'⟩)
      refine ⟨fun z hz => ?_, fun j x hx => ?_⟩
      · rcases List.mem_cons.1 hz with rfl | hz
        · omega
        · exact k1 z hz
      · rw [flat_cons] at hx
        rcases Nat.lt_or_ge j y.cells.length with hj | hj
        · rw [List.getElem?_append_left hj] at hx; exact g2 j x hx
        · rw [List.getElem?_append_right hj] at hx
          obtain ⟨v, hv, hr'⟩ := k2 _ x hx
          exact ⟨v, by rw [← hv]; congr 1; omega, hr'⟩
    · cases hr

/-- A value that holds no memory is told wherever. -/
theorem flat_vr : ∀ d a v, flatV d a = true → VR ok h m a v → VR ok' h' m' a v := by
  intro d
  induction d with
  | zero => intro a v hf; simp [flatV] at hf
  | succ d ih =>
    intro a v hf hv
    have parts : ∀ {cs : List AV} {C : Array Value}, cs.all (flatV d) = true → CR ok h m cs C 0 → CR ok' h' m' cs C 0 := by
      intro cs C hcs hc j x hx
      obtain ⟨u, hu, hr⟩ := hc j x hx
      exact ⟨u, hu, ih _ _ (List.all_eq_true.1 hcs x (List.mem_of_getElem? hx)) hr⟩
    cases a with
    | agg cs =>
      obtain ⟨us, rfl, h1, h2⟩ := hv.agg_inv
      exact .agg' h1 (parts hf h2)
    | tup cs =>
      obtain ⟨us, rfl, h1, h2⟩ := hv.tup_inv
      exact .tup' h1 (parts hf h2)
    | ifc t a =>
      cases hv with
      | ifc hv' => exact .ifc (ih _ _ hf hv')
    | fn f cs =>
      cases cs with
      | nil =>
        obtain ⟨us, rfl, h1, h2⟩ := hv.fn_inv
        exact .fn' h1 (fun j x hx => by simp at hx)
      | cons _ _ => simp [flatV] at hf
    | sl xs =>
      cases xs with
      | nil => cases hv with
        | slE h1 => exact .slE h1
        | sl g h1 => exact absurd rfl h1
      | cons _ _ => simp [flatV] at hf
    | nils => cases hv; exact .nils
    | emp => cases hv; exact .emp
    | bool _ => cases hv; exact .bool _
    | ub _ => cases hv; exact .ub _
    | int _ _ => cases hv; exact .int _ _
    | str _ => obtain ⟨s, rfl, hs⟩ := hv.str_inv; exact .str _ _ hs
    | nilp => cases hv; exact .nilp
    | nilf => cases hv; exact .nilf
    | nili => cases hv; exact .nili
    | nilm => cases hv; exact .nilm
    | dead => simp [flatV] at hf
    | osl _ _ _ _ => simp [flatV] at hf
    | ptr _ _ => simp [flatV] at hf
    | eptr _ _ _ => simp [flatV] at hf
    | cptr _ => simp [flatV] at hf
    | mp _ => simp [flatV] at hf
    | rng _ _ _ _ => simp [flatV] at hf
    | ustr _ _ => simp [flatV] at hf
    | lin _ _ _ _ _ => simp [flatV] at hf
    | nev => simp [flatV] at hf
    | tl _ _ => simp [flatV] at hf
    | gs _ _ _ => simp [flatV] at hf

end
end Go.Proofs.YtopkeglpafdlfaaGreat.VS
