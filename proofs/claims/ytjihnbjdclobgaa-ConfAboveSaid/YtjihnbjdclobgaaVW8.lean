/- Arguments that read as data, told as the machine's values. Conditions: none. -/
import Derived.Test.YtjihnbjdclobgaaVW7
import Derived.ReadAgain
import Derived.Deep.Slices
import Derived.ProofKit
namespace Go.Proofs.Ytjihnbjdclobgaa.VS
open Go.ChangeShapes
variable [Syms]

section
variable {H : Type} {enc : TypeId × Value → H} {P : Program} {W : World} {sp : Nat → Bool}

/-- A type whose values read so. -/
structure RdT {H : Type} (enc : TypeId × Value → H) (P : Program) (W : World) (sp : Nat → Bool) {α : Type} (n : Nat) (ec : α → List AV) (fit : α → Prop) (t : TypeId) : Prop where
  cells : P.cellsOf t = n
  rd : ∀ (fuel : Nat) (cs : List Value) (x : DataW H × List MemPlace), DataW.trod enc P W 0 sp true fuel t cs = some x → cs.length = n ∧ ∃ y, (ec y).length = n ∧ CR (fun _ => True) W.heap noMap (ec y) cs.toArray 0 ∧ fit y

omit [Syms] in
theorem cr_single [Syms] {ok : Nat → Prop} {h : Array Obj} {m : Map} {a : AV} {c : Value} (H : VR ok h m a c) : CR ok h m [a] [c].toArray 0 := fun j x hx => by
  cases j with
  | zero => simp at hx; subst hx; exact ⟨c, rfl, H⟩
  | succ j => simp at hx

theorem rd_int {t : TypeId} {k : IntKind} (ht : P.underlying t = some (.int k)) (hc : P.cellsOf t = 1) : RdT enc P W sp 1 (fun n : Int => [.int k n]) (fun n => (Lit.int k n).wf = true) t := by
  refine ⟨hc, fun fuel cs x h => ?_⟩
  cases fuel with
  | zero => simp [DataW.trod] at h
  | succ fuel =>
    have : ∃ n, cs = [.int k n] ∧ (Lit.int k n).wf = true := by
      unfold DataW.trod at h
      rw [ht] at h
      split at h <;> simp_all
    obtain ⟨n, rfl, hw⟩ := this
    exact ⟨rfl, n, rfl, cr_single (.int _ _), hw⟩

theorem rd_bool {t : TypeId} (ht : P.underlying t = some .bool) (hc : P.cellsOf t = 1) : RdT enc P W sp 1 (fun b : Bool => [.ub b]) (fun _ => True) t := by
  refine ⟨hc, fun fuel cs x h => ?_⟩
  cases fuel with
  | zero => simp [DataW.trod] at h
  | succ fuel =>
    have : ∃ n, cs = [.bool n] := by
      unfold DataW.trod at h
      rw [ht] at h
      split at h <;> simp_all
    obtain ⟨b, rfl⟩ := this
    exact ⟨rfl, b, rfl, cr_single (.ub _), trivial⟩

theorem rd_str {t : TypeId} (ht : P.underlying t = some .string) (hc : P.cellsOf t = 1) : RdT enc P W sp 1 (fun s : Str => [.str s]) (fun s => s.length ≤ maxLen) t := by
  refine ⟨hc, fun fuel cs x h => ?_⟩
  cases fuel with
  | zero => simp [DataW.trod] at h
  | succ fuel =>
    have : ∃ s : ByteArray, cs = [.string s] ∧ s.size ≤ maxLen := by
      unfold DataW.trod at h
      rw [ht] at h
      split at h <;> simp_all
    obtain ⟨s, rfl, hs⟩ := this
    exact ⟨rfl, s.data.toList, rfl, cr_single (.str _ _ rfl), hs⟩

/-- A byte. -/
theorem rd_u8 {t : TypeId} (ht : P.underlying t = some (.int .u8)) (hc : P.cellsOf t = 1) : RdT enc P W sp 1 (fun b : UInt8 => [.int .u8 b.toNat]) (fun _ => True) t :=
  ⟨hc, fun fuel cs x h => by
    obtain ⟨h1, n, _, h3, h4⟩ := (rd_int ht hc).rd fuel cs x h
    have h4 : 0 ≤ n ∧ n ≤ 255 := by
      simp only [Lit.wf, Bool.and_eq_true, decide_eq_true_eq] at h4
      exact h4
    have e : (((UInt8.ofNat n.toNat).toNat : Nat) : Int) = n := by rw [UInt8.toNat_ofNat']; omega
    exact ⟨h1, UInt8.ofNat n.toNat, rfl, by rw [e]; exact h3, trivial⟩⟩

/-- What fits a row's elements. -/
def fitL {α : Type} (fit : α → Prop) (l : List α) : Prop := l.length ≤ maxLen ∧ ∀ x ∈ l, fit x

omit [Syms] in
theorem cells?_some {w : World} {a : Addr} {n : Nat} {cs : List Value} (h : w.cells? 0 a n = some cs) : cs.length = n ∧ ∀ (j : Nat) (v : Value), cs[j]? = some v → w.cell? (a.add j) = some v := by
  unfold World.cells? at h
  rw [if_pos (Nat.zero_le _)] at h
  have hl : cs.length = n := by simpa using mapM_some_length h
  refine ⟨hl, fun j v hj => ?_⟩
  have hjl : j < n := by rw [← hl]; exact (List.getElem?_eq_some_iff.1 hj).1
  rw [mapM_some_get h j j (by simp [hjl]), hj]

omit [Syms] in
/-- A row of things, each there. -/
theorem row_of {α : Type} (n : Nat) {p : Nat → α → Prop} (h : ∀ i, i < n → ∃ x, p i x) : ∃ xs : List α, xs.length = n ∧ ∀ i x, xs[i]? = some x → p i x := by
  induction n with
  | zero => exact ⟨[], rfl, fun i x hx => by simp at hx⟩
  | succ n ih =>
    obtain ⟨xs, h1, h2⟩ := ih fun i hi => h i (by omega)
    obtain ⟨x, hx⟩ := h n (by omega)
    refine ⟨xs ++ [x], by simp [h1], fun i y hy => ?_⟩
    rcases Nat.lt_or_ge i xs.length with hi | hi
    · rw [List.getElem?_append_left hi] at hy; exact h2 i y hy
    · rw [List.getElem?_append_right hi] at hy
      have : i = n := by
        have := (List.getElem?_eq_some_iff.1 hy).1
        simp at this; omega
      subst this
      rw [h1, Nat.sub_self] at hy
      simp at hy; subst hy; exact hx

theorem rd_slice {g : GT} {t e : TypeId} {fit : g.T → Prop} (ht : P.underlying t = some (.slice e)) (hc : P.cellsOf t = 1) (he : RdT enc P W sp g.size (fun x : g.T => (Go.Proofs.Ytjihnbjdclobgaa.VS.enc g x).cells) fit e) :
    RdT enc P W sp 1 (fun l : List g.T => [.tl g l]) (fitL fit) t := by
  refine ⟨hc, fun fuel cs x h => ?_⟩
  rcases Go.Deep.open_slice ht h with ⟨rfl, _⟩ | ⟨a, len, cap, m, n, D, Pl, rfl, _, h2, h3, h4, _, h6⟩
  · exact ⟨rfl, [], rfl, cr_single (.tl (.slE fun _ => rfl)), Nat.zero_le _, fun x hx => by simp at hx⟩
  · have hm : len ≤ m := by rw [h4]; split <;> omega
    have hall : ∀ i, i < len → ∃ y : g.T, (∃ cs', W.cells? 0 (a.add (i * g.size)) g.size = some cs' ∧ CR (fun _ => True) W.heap noMap (Go.Proofs.Ytjihnbjdclobgaa.VS.enc g y).cells cs'.toArray 0) ∧ fit y := by
      intro i hi
      obtain ⟨cs', k1, k2⟩ := h6 i (by omega)
      obtain ⟨q1, y, q2, q3, q4⟩ := he.rd _ _ _ k2
      rw [he.cells] at k1
      exact ⟨y, ⟨cs', k1, q3⟩, q4⟩
    obtain ⟨ys, r1, r2⟩ := row_of len hall
    refine ⟨rfl, ys, rfl, cr_single (.tl ?_), by show ys.length ≤ maxLen; omega, fun y hy => ?_⟩
    · by_cases h0 : len = 0
      · subst h0
        obtain rfl : ys = [] := List.length_eq_zero_iff.1 r1
        exact .slE nofun
      · have hpos := g.size_pos
        have cell : ∀ i y, ys[i]? = some y → ∀ j b, (Go.Proofs.Ytjihnbjdclobgaa.VS.enc g y).cells[j]? = some b → ∃ v, W.cell? ((a.add (i * g.size)).add j) = some v ∧ VR (fun _ => True) W.heap noMap b v := by
          intro i y hy j b hb
          obtain ⟨⟨cs', q1, q2⟩, _⟩ := r2 i y hy
          obtain ⟨v, hv, hr⟩ := q2 j b hb
          obtain ⟨_, q4⟩ := cells?_some q1
          exact ⟨v, q4 j v (by simpa using hv), hr⟩
        have hy0 : ys[0]? = some (ys[0]'(by omega)) := List.getElem?_eq_getElem _
        have hlen0 := enc_size g (ys[0]'(by omega))
        obtain ⟨v0, hv0, _⟩ := cell 0 _ hy0 0 _ (List.getElem?_eq_getElem (by rw [hlen0]; exact hpos))
        rw [Nat.zero_mul] at hv0
        have ha0 : (a.add 0).add 0 = a := rfl
        rw [ha0] at hv0
        unfold World.cell? at hv0
        split at hv0
        · rename_i C e' z hC
          split at hv0
          · cases hv0
          · rename_i hspot
            obtain ⟨β, o, spot⟩ := a
            have : spot = none := by cases spot <;> simp_all
            subst this
            have hcellC : ∀ j, W.cell? ⟨β, j, none⟩ = C[j]? := fun j => by unfold World.cell?; rw [show W.heap[(⟨β, j, none⟩ : Addr).block]? = some (.cells C e' z) from hC]; rfl
            have hcr : CR (fun _ => True) W.heap noMap (flat (encs g ys)) C o := by
              intro j b hb
              have hfl := flat_length (encs_size g ys)
              rw [encs_length] at hfl
              have hj : j < ys.length * g.size := by rw [← hfl]; exact (List.getElem?_eq_some_iff.1 hb).1
              have hi : j / g.size < ys.length := (Nat.div_lt_iff_lt_mul hpos).2 hj
              have hr : j % g.size < g.size := Nat.mod_lt j hpos
              have hjd : j / g.size * g.size + j % g.size = j := Nat.div_add_mod' j g.size
              have hyi : ys[j / g.size]? = some (ys[j / g.size]'hi) := List.getElem?_eq_getElem hi
              have hei : (encs g ys)[j / g.size]? = some (Go.Proofs.Ytjihnbjdclobgaa.VS.enc g (ys[j / g.size]'hi)) := by simp [encs, hyi]
              have := flat_getElem? (encs_size g ys) hei hr
              rw [hjd, hb] at this
              obtain ⟨v, hv, hvr⟩ := cell _ _ hyi _ _ this.symm
              rw [add_none, add_none, hcellC] at hv
              exact ⟨v, by rw [← hv]; congr 1; omega, hvr⟩
            exact .sl' (fun e0 => by have := congrArg List.length e0; rw [encs_length, List.length_nil] at this; omega) (by rw [encs_length, r1]) trivial hC hpos (encs_size g ys) h2 hcr
        · cases hv0
    · obtain ⟨i, hi, rfl⟩ := List.mem_iff_getElem.1 hy
      exact (r2 i _ (List.getElem?_eq_getElem hi)).2

/-- Fields in a row. -/
def RdF {H : Type} (enc : TypeId × Value → H) (P : Program) (W : World) (sp : Nat → Bool) {α : Type} (off n : Nat) (ec : α → List AV) (fit : α → Prop) (fs : List Field) : Prop :=
  ∀ (fuel : Nat) (cs : List Value), (∀ (i : Nat) (f : Field), fs[i]? = some f → ∃ x, DataW.trod enc P W 0 sp true fuel f.type ((cs.drop f.offset).take (P.cellsOf f.type)) = some x) →
    ∃ y, (ec y).length = n ∧ CR (fun _ => True) W.heap noMap (ec y) cs.toArray off ∧ fit y

theorem rdF_nil {off : Nat} : RdF enc P W sp off 0 (fun _ : Unit => []) (fun _ => True) [] := fun fuel cs _ => ⟨(), rfl, fun j x hx => by simp at hx, trivial⟩

theorem rdF_cons {α β : Type} {off n1 n2 : Nat} {e1 : α → List AV} {e2 : β → List AV} {p1 : α → Prop} {p2 : β → Prop} {f : Field} {fs : List Field} (h0 : f.offset = off) (h1 : RdT enc P W sp n1 e1 p1 f.type) (h2 : RdF enc P W sp (off + n1) n2 e2 p2 fs) :
    RdF enc P W sp off (n1 + n2) (fun y : α × β => e1 y.1 ++ e2 y.2) (fun y => p1 y.1 ∧ p2 y.2) (f :: fs) := by
  intro fuel cs h
  obtain ⟨x, hx⟩ := h 0 f rfl
  obtain ⟨_, y1, k1, k2, k3⟩ := h1.rd _ _ _ hx
  obtain ⟨y2, q1, q2, q3⟩ := h2 fuel cs fun i f' hf' => h (i + 1) f' (by simpa using hf')
  refine ⟨(y1, y2), by simp [k1, q1], fun j b hb => ?_, k3, q3⟩
  rcases Nat.lt_or_ge j (e1 y1).length with hj | hj
  · rw [List.getElem?_append_left hj] at hb
    obtain ⟨v, hv, hr⟩ := k2 j b hb
    refine ⟨v, ?_, hr⟩
    rw [Nat.zero_add, List.getElem?_toArray, h1.cells, h0, List.getElem?_take, if_pos (by omega), List.getElem?_drop] at hv
    rw [List.getElem?_toArray]; exact hv
  · rw [List.getElem?_append_right hj] at hb
    obtain ⟨v, hv, hr⟩ := q2 _ b hb
    exact ⟨v, by rw [← hv]; congr 1; omega, hr⟩

theorem rd_struct {α : Type} {n : Nat} {ec : α → List AV} {fit : α → Prop} {t : TypeId} {fs : Array Field} (ht : P.underlying t = some (.struct fs)) (hc : P.cellsOf t = n) (h : RdF enc P W sp 0 n ec fit fs.toList) : RdT enc P W sp n ec fit t := by
  refine ⟨hc, fun fuel cs x hx => ?_⟩
  obtain ⟨xs, m, rfl, _, h3, h4, h5⟩ := DataW.trod_struct ht hx
  refine ⟨by rw [h3, hc], h m cs fun i f hf => ?_⟩
  have hf' : fs[i]? = some f := by rw [← Array.getElem?_toList]; exact hf
  have hi : i < xs.length := by rw [h4]; exact (Array.getElem?_eq_some_iff.1 hf').1
  exact ⟨xs[i], by rw [h5 i f hf', List.getElem?_eq_getElem hi]⟩

theorem RdT.map {α β : Type} {n : Nat} {ec : α → List AV} {fit : α → Prop} {t : TypeId} (h : RdT enc P W sp n ec fit t) (f : α → β) {ec' : β → List AV} {fit' : β → Prop} (h1 : ∀ a, ec' (f a) = ec a) (h2 : ∀ a, fit a → fit' (f a)) : RdT enc P W sp n ec' fit' t :=
  ⟨h.cells, fun fuel cs x hx => by
    obtain ⟨k1, y, k2, k3, k4⟩ := h.rd fuel cs x hx
    exact ⟨k1, f y, by rw [h1]; exact k2, by rw [h1]; exact k3, h2 y k4⟩⟩

/-- An argument whose cells lie in the value: a struct. -/
theorem rd_agg {α : Type} {n : Nat} {ec : α → List AV} {fit : α → Prop} {t : TypeId} (h : RdT enc P W sp n ec fit t) {v : Value} {d : DataW H} {ps : List MemPlace} (hv : DataW.Trod enc P W 0 sp true t v d ps) (hok : ∃ cs, v = .agg cs ∧ cs.size = P.cellsOf t) :
    ∃ y, VR (fun _ => True) W.heap noMap (.agg (ec y)) v ∧ fit y := by
  obtain ⟨fuel, hx⟩ := hv
  obtain ⟨cs, rfl, hs⟩ := hok
  obtain ⟨k1, y, k2, k3, k4⟩ := h.rd fuel _ _ hx
  have k3 : CR (fun _ => True) W.heap noMap (ec y) cs 0 := by simpa [Value.cells] using k3
  exact ⟨y, .agg' (by rw [k2, hs, h.cells]) k3, k4⟩

/-- An argument of one cell. -/
theorem rd_one {α : Type} {ec : α → AV} {fit : α → Prop} {t : TypeId} (h : RdT enc P W sp 1 (fun a => [ec a]) fit t) {v : Value} {d : DataW H} {ps : List MemPlace} (hv : DataW.Trod enc P W 0 sp true t v d ps) (hok : v.cells = #[v]) :
    ∃ y, VR (fun _ => True) W.heap noMap (ec y) v ∧ fit y := by
  obtain ⟨fuel, hx⟩ := hv
  rw [hok] at hx
  obtain ⟨k1, y, k2, k3, k4⟩ := h.rd fuel _ _ hx
  obtain ⟨u, hu, hr⟩ := k3 0 (ec y) rfl
  simp at hu; subst hu
  exact ⟨y, hr, k4⟩

end
end Go.Proofs.Ytjihnbjdclobgaa.VS
