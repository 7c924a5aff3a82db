/- The row of a law that answers true and leaves all as it was, whatever its arguments' types; structs by their fields' places. Conditions: none. -/
import Derived.Test.YtjihnbjdclobgaaVW10
import Derived.OpenShut
namespace Go.Proofs.Ytjihnbjdclobgaa.VS
open Go.ChangeShapes Go.WideShapes Go.RowKit

section
variable {H : Type} {enc : TypeId × Value → H} {P : Program} {W W' : World}

theorem sameAt_kept (hk : Kept W W') {p : MemPlace} (hp : p.block < W.heap.size) : W.sameAt W' p := by
  cases p with
  | cell b off =>
    show W'.cell? ⟨b, off, none⟩ = W.cell? ⟨b, off, none⟩
    unfold World.cell?
    rw [show W'.heap[(⟨b, off, none⟩ : Addr).block]? = W.heap[(⟨b, off, none⟩ : Addr).block]? from hk.block b hp fun h => h]
  | map b => exact hk.block b hp fun h => h

theorem trodAll_kept {sp : Nat → Bool} (hk : Kept W W') : ∀ {ts : List TypeId} {vs : List Value} {ds : List (DataW H)} {ps : List MemPlace}, DataW.TrodAll enc P W 0 sp true ts vs ds ps → (∀ p ∈ ps, p.block < W.heap.size) → DataW.TrodAll enc P W' 0 sp true ts vs ds ps
  | [], [], [], _, h, _ => h
  | _ :: _, _ :: _, _ :: _, _, ⟨p, q, ⟨n, h1⟩, h2, e⟩, hs =>
    ⟨p, q, ⟨n, DataW.trod_carry n _ _ _ h1 fun x hx => sameAt_kept hk (hs x (by rw [e]; exact List.mem_append_left _ hx))⟩, trodAll_kept hk h2 (fun x hx => hs x (by rw [e]; exact List.mem_append_right _ hx)), e⟩

/-- The post of a law that answers true, changes nothing, and has no variables. -/
theorem post_law (K : Kids P (· < P.types.size)) (hz : ∀ t e, t < P.types.size → P.underlying t = some (.slice e) → 0 < P.cellsOf e) {f : Func} {s : ChangeSpec} {apart fresh handsOn again : Bool} {args : Array Value} {ds gs : List (DataW H)} {before : List MemPlace} {tb : TypeId}
    (hW : DataW.Whole enc P f.params.toList s.vars apart W args.toList ds gs before) (hT : ∀ t ∈ f.params.toList, t < P.types.size) (hv : s.vars = []) (hrt : f.resultTypes = #[tb]) (hb : P.underlying tb = some .bool)
    (hres : (s.fn H (ds ++ gs)).results = [.lit (.bool true)]) (hargs : (s.fn H (ds ++ gs)).args = ds) (hvars : (s.fn H (ds ++ gs)).vars = []) (hk : Kept W W') :
    s.post enc P f apart fresh handsOn again W args (.bool true) W' := by
  have hlt : ∀ p ∈ before, p.block < W.heap.size := fun p hp => hW.lt p hp
  have hA := hW
  obtain ⟨p, q, hA0, hV, e, _, _⟩ := hA
  rw [hv] at hV
  obtain ⟨rfl, rfl⟩ := trodVars_none hV
  rw [List.append_nil] at e
  subst e
  refine post_kept (pa := before) (pv := []) hW (fun b sp hd => ?_) (fun sp hsp => ?_) (fun sp _ => ?_) (by rw [List.append_nil]) hk (ok_one hrt rfl (okWide_bool_mk hb _))
  · rw [hrt, hres]; exact trodAll_cons_mk (shut_bool hb _) trodAll_mk0
  · rw [hargs]
    exact trodAll_kept hk (DataW.TrodAll.respare K hz hT hA0 hsp) hlt
  · rw [hv, hvars]; exact rfl

theorem agg_of {t : TypeId} {v : Value} (h : Value.okWide P W .any 0 t v) {fs : Array Field} (ht : P.underlying t = some (.struct fs)) : ∃ cs, v = .agg cs ∧ cs.size = P.cellsOf t := by
  unfold Value.okWide at h
  rw [ht] at h
  obtain ⟨cs, h1, h2, _⟩ := h
  exact ⟨cs, h1, h2⟩

def fieldsOf (P : Program) (t : TypeId) : Option (List (Nat × TypeId)) :=
  match P.underlying t with
  | some (.struct fs) => some (fs.toList.map fun f => (f.offset, f.type))
  | _ => none

theorem fieldsOf_some {t : TypeId} {l : List (Nat × TypeId)} (h : fieldsOf P t = some l) : ∃ fs, P.underlying t = some (.struct fs) ∧ fs.toList.map (fun f => (f.offset, f.type)) = l := by
  unfold fieldsOf at h
  split at h
  · rename_i fs hfs
    exact ⟨fs, hfs, Option.some.inj h⟩
  · cases h

section
variable [Syms] {sp : Nat → Bool}

/-- Fields by their places and types. -/
def RdG {H : Type} (enc : TypeId × Value → H) (P : Program) (W : World) (sp : Nat → Bool) {α : Type} (off n : Nat) (ec : α → List AV) (fit : α → Prop) (l : List (Nat × TypeId)) : Prop :=
  ∀ fs : List Field, fs.map (fun f => (f.offset, f.type)) = l → RdF enc P W sp off n ec fit fs

theorem rdG_nil {off : Nat} : RdG enc P W sp off 0 (fun _ : Unit => []) (fun _ => True) [] := fun fs h => by
  obtain rfl : fs = [] := by simpa using h
  exact rdF_nil

theorem rdG_cons {α β : Type} {off n1 n2 : Nat} {e1 : α → List AV} {e2 : β → List AV} {p1 : α → Prop} {p2 : β → Prop} {t : TypeId} {l : List (Nat × TypeId)} (h1 : RdT enc P W sp n1 e1 p1 t) (h2 : RdG enc P W sp (off + n1) n2 e2 p2 l) :
    RdG enc P W sp off (n1 + n2) (fun y : α × β => e1 y.1 ++ e2 y.2) (fun y => p1 y.1 ∧ p2 y.2) ((off, t) :: l) := fun fs h => by
  cases fs with
  | nil => cases h
  | cons f fs =>
    rw [List.map_cons] at h
    injection h with h3 h4
    injection h3 with h5 h6
    subst h6
    exact rdF_cons h5 h1 (h2 fs h4)

theorem rd_fields {α : Type} {n : Nat} {ec : α → List AV} {fit : α → Prop} {t : TypeId} {l : List (Nat × TypeId)} (ht : fieldsOf P t = some l) (hc : P.cellsOf t = n) (h : RdG enc P W sp 0 n ec fit l) : RdT enc P W sp n ec fit t := by
  obtain ⟨fs, h1, h2⟩ := fieldsOf_some ht
  exact rd_struct h1 hc (h _ h2)

/-- A struct argument. -/
theorem rd_arg {α : Type} {n : Nat} {ec : α → List AV} {fit : α → Prop} {t : TypeId} {l : List (Nat × TypeId)} (ht : fieldsOf P t = some l) (h : RdT enc P W sp n ec fit t) {v : Value} {d : DataW H} {ps : List MemPlace} (hv : DataW.Trod enc P W 0 sp true t v d ps) (hok : Value.okWide P W .any 0 t v) :
    ∃ y, VR (fun _ => True) W.heap noMap (.agg (ec y)) v ∧ fit y := by
  obtain ⟨fs, h1, _⟩ := fieldsOf_some ht
  exact rd_agg h hv (agg_of hok h1)

/-! ### The program's structs -/

theorem rd_cnf {t tw ti : TypeId} {p1 : List Int → Prop} {p2 : Int → Prop} (ht : fieldsOf P t = some [(0, tw), (1, ti)]) (hc : P.cellsOf t = 2) (h1 : RdT enc P W sp 1 (fun l : List Int => [.tl .int l]) p1 tw) (h2 : RdT enc P W sp 1 (fun n : Int => [.int .i64 n]) p2 ti) :
    RdT enc P W sp 2 (fun c : Cnf => [.tl .int c.ways, .int .i64 c.policy]) (fun c => p1 c.ways ∧ p2 c.policy) t :=
  (rd_fields ht hc (rdG_cons h1 (rdG_cons h2 rdG_nil))).map (fun y => ⟨y.1, y.2.1⟩) (fun _ => rfl) (fun _ h => ⟨h.1, h.2.1⟩)

end
end
end Go.Proofs.Ytjihnbjdclobgaa.VS
