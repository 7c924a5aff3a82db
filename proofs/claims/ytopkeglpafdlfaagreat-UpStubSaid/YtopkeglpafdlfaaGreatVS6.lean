/- Each operation that only reckons or reads: the model answers what the abstract machine does. Conditions: none. -/
import Derived.Test.YtopkeglpafdlfaaGreatVS5
namespace Go.Proofs.YtopkeglpafdlfaaGreat.VS
variable [Syms]

omit [Syms] in
theorem ble_le {a b : Nat} (h : a.ble b = true) : a ≤ b := Nat.le_of_ble_eq_true h
omit [Syms] in
theorem blt_lt {a b : Nat} (h : a.blt b = true) : a < b := Nat.le_of_ble_eq_true h
omit [Syms] in
theorem beq_eq' {a b : Nat} (h : a.beq b = true) : a = b := Nat.eq_of_beq_eq_true h

section
variable {P : Program} {T : Tabs} {ok : Nat → Prop} {m : Map} {w : World}

omit [Syms] in
/-- Cells filled: on both sides. -/
theorem foldl_setArr (off : Nat) : ∀ (vs : List Value) (k : Nat) (C : Array Value),
    (vs.zipIdx k).foldl (fun cs (p : Value × Nat) => cs.setIfInBounds (off + p.2) p.1) C = setArr C (off + k) vs
  | [], _, _ => rfl
  | v :: r, k, C => by
    rw [List.zipIdx_cons, List.foldl_cons, foldl_setArr off r (k + 1), setArr]
    rfl

omit [Syms] in
theorem fill_step (place : Nat → Option (Nat × Nat)) (C : Array Value) (i : Nat) (v : Value) (rest : List (Nat × Value)) {off size : Nat} (hp : place i = some (off, size)) (hs : v.cells.size = size) (hle : off + size ≤ C.size) :
    Instr.fill place C ((i, v) :: rest) = Instr.fill place (setArr C off v.cells.toList) rest := by
  have hf : Array.foldl (fun cs (x : Value × Nat) => Array.setIfInBounds cs (off + x.2) x.1) C v.cells.zipIdx = setArr C off v.cells.toList := by
    rw [← Array.foldl_toList, Array.toList_zipIdx]
    exact foldl_setArr off v.cells.toList 0 C
  simp only [Instr.fill, hp]
  rw [if_neg (by simp; omega)]
  exact congrArg (fun c => Instr.fill place c rest) hf

theorem sim_fill {place place' : Nat → Option (Nat × Nat)} (hpl : ∀ i q, place i = some q → place' i = some q) : ∀ (ps : List (Nat × AV)) (vs : List (Nat × Value)) (cs : List AV) (C : Array Value) (out : List AV),
    vs.length = ps.length → (∀ (j : Nat) (p : Nat × AV) (q : Nat × Value), ps[j]? = some p → vs[j]? = some q → p.1 = q.1 ∧ VR ok w.heap m p.2 q.2) → C.size = cs.length → CR ok w.heap m cs C 0 → fillA place cs ps = some out →
    ∃ D, Instr.fill place' C vs = some D ∧ D.size = out.length ∧ CR ok w.heap m out D 0
  | [], vs, cs, C, out, hl, _, hs, hr, ho => by
    have : vs = [] := List.length_eq_zero_iff.1 (by simpa using hl)
    subst this
    simp [fillA] at ho; subst ho
    exact ⟨C, rfl, hs, hr⟩
  | p :: ps, [], _, _, _, hl, _, _, _, _ => by simp at hl
  | p :: ps, (i, v) :: vs, cs, C, out, hl, hv, hs, hr, ho => by
    obtain ⟨h1, h2⟩ := hv 0 p (i, v) (by simp) (by simp)
    simp only at h1 h2
    rw [fillA] at ho
    split at ho
    · cases ho
    · rename_i q hq
      cases hc : fitsN q.2 p.2 && (q.1 + q.2).ble cs.length with
      | false => simp [hc] at ho
      | true =>
        simp only [hc, cond_true] at ho
        simp only [Bool.and_eq_true] at hc
        obtain ⟨hfit, hlen⟩ := fitsN_some hc.1
        have hle := ble_le hc.2
        obtain ⟨k1, k2, k3⟩ := h2.stored hfit
        rw [h1] at hq
        rw [fill_step place' C i v vs (off := q.1) (size := q.2) (hpl i q hq) (by omega) (by omega)]
        refine sim_fill hpl ps vs _ _ out (by simpa using hl) (fun j a b ha hb => hv (j + 1) a b (by simpa using ha) (by simpa using hb)) (by rw [size_setArr, setCells_length (by omega)]; exact hs) ?_ ho
        have := CR.set (o := 0) (off := q.1) hr k2 k1 (by omega) (by omega)
        rwa [Nat.zero_add] at this

omit [Syms] in
theorem run_zeroValue {t : TypeId} {i : TypeInfo} {z : Value} (hi : P.info? t = some i) (hz : i.zero = some z) : (zeroValue t).run P w = .ok z w := by
  simp [zeroValue, typeInfo, hi, hz]

omit [Syms] in
theorem run_mapPlaces (hT : TyOK P T) : ∀ (fs : List Field) (l : List (Nat × Nat)), placesOf T (fs.map fdOf) = some l →
    (fs.mapM (m := Sem) fun f => do pure (f.offset, ← sizeOf f.type)).run P w = .ok l w
  | [], l, h => by simp [placesOf] at h; subst h; rfl
  | f :: fs, l, h => by
    simp only [List.map_cons, placesOf] at h
    split at h
    · rename_i n l' hn hl
      cases h
      obtain ⟨i, hi, hin⟩ := szOf_some hT hn
      have hi' : P.info? f.type = some i := hi
      have := run_mapPlaces hT fs l' hl
      simp only [List.mapM_cons, Sem.run_bind, run_sizeOf' hi', Result.andThen_ok, Sem.run_pure, this, hin]
      rfl
    · cases h

omit [Syms] in
theorem parts_length (fr : Fr) : ∀ l : List (Nat × Operand), (parts fr l).length = l.length
  | [] => rfl
  | _ :: l => by simp [parts, parts_length fr l]

theorem parts_vr {fr : Fr} {a : Act} (hf : FrR ok w.heap m fr a.tmps) : ∀ (l : List (Nat × Operand)) (j : Nat) (p : Nat × AV) (q : Nat × Value), (parts fr l)[j]? = some p → (l.map fun x => (x.1, a.eval x.2))[j]? = some q → p.1 = q.1 ∧ VR ok w.heap m p.2 q.2
  | [], j, p, q, hp, _ => by simp [parts] at hp
  | x :: l, 0, p, q, hp, hq => by
    simp [parts] at hp hq
    subst hp; subst hq
    exact ⟨rfl, opnd_vr hf x.2⟩
  | x :: l, j + 1, p, q, hp, hq => by
    simp only [parts, List.getElem?_cons_succ, List.map_cons] at hp hq
    exact parts_vr hf l j p q hp hq

theorem sim_build (hT : TyOK P T) {fr : Fr} {a : Act} (hf : FrR ok w.heap m fr a.tmps) {t : TypeId} {ps : Array (Nat × Operand)} {v : AV} (h : abuild T t (parts fr ps.toList) = some v) :
    ∃ cv, (Instr.build t (ps.map fun (i, x) => (i, a.eval x))).run P w = .ok cv w ∧ VR ok w.heap m v cv := by
  unfold abuild at h
  split at h
  · rename_i z pl hz hpl
    split at h
    · rename_i cs hcs
      cases h
      obtain ⟨i, zv, hi, hzv, hza⟩ := zeroOf_some hT hz
      have hzr : VR ok w.heap m (.agg z) zv := by rw [hza]; exact ofV_vr zv
      obtain ⟨zs, rfl, hzs, hzc⟩ := hzr.agg_inv
      have hl : (ps.map fun (x : Nat × Operand) => (x.1, a.eval x.2)).toList.length = (parts fr ps.toList).length := by simp [parts_length]
      have hv := parts_vr hf ps.toList
      unfold places at hpl
      split at hpl
      · rename_i fs hfs
        split at hpl
        · rename_i l hl'
          cases hpl
          obtain ⟨fields, hu, rfl⟩ := kind_struct hT hfs
          have hm := run_mapPlaces (w := w) hT fields.toList l hl'
          obtain ⟨D, hD, hDs, hDr⟩ := sim_fill (w := w) (place := (l[·]?)) (place' := (l.toArray[·]?)) (fun i q hq => by simpa using hq) _ (ps.map fun (x : Nat × Operand) => (x.1, a.eval x.2)).toList z zs cs hl
            (by intro j p q hp hq; exact hv j p q hp (by simpa using hq)) hzs hzc hcs
          refine ⟨.agg D, ?_, .agg' hDs hDr⟩
          simp only [Instr.build, Sem.run_bind, run_zeroValue hi hzv, Result.andThen_ok, run_underlying hu]
          rw [← Array.toArray_toList (xs := fields), List.mapM_toArray]
          simp only [Sem.run_map, hm, Result.andThen_ok]
          simp only [Value.cells] at hD ⊢
          rw [hD]
          rfl
        · cases hpl
      · rename_i n e hk
        split at hpl
        · rename_i s hs
          cases hpl
          have hu := kind_array hT hk
          obtain ⟨i', hi', rfl⟩ := szOf_some hT hs
          obtain ⟨D, hD, hDs, hDr⟩ := sim_fill (w := w) (place := fun i => some (i * i'.size, i'.size)) (place' := fun i => some (i * i'.size, i'.size)) (fun i q hq => hq) _ (ps.map fun (x : Nat × Operand) => (x.1, a.eval x.2)).toList z zs cs hl
            (by intro j p q hp hq; exact hv j p q hp (by simpa using hq)) hzs hzc hcs
          refine ⟨.agg D, ?_, .agg' hDs hDr⟩
          simp only [Instr.build, Sem.run_bind, run_zeroValue hi hzv, Result.andThen_ok, run_underlying hu, run_sizeOf' hi']
          simp only [Value.cells] at hD ⊢
          rw [hD]
          rfl
        · cases hpl
      · cases hpl
    · cases h
  · cases h

theorem sim_fieldAddr (hT : TyOK P T) {t : TypeId} {x v : AV} {f : Nat} (h : afieldAddr T t x f = some v) {vx : Value} (hx : VR ok w.heap m x vx) :
    ∃ cv, (Instr.fieldAt t vx f).run P w = .ok cv w ∧ VR ok w.heap m v cv := by
  unfold afieldAddr at h
  split at h
  · rename_i fd hfd
    obtain ⟨fields, y, hu, hy, rfl⟩ := fieldOf_some hT hfd
    split at h
    · rename_i n hn
      obtain ⟨i, hi, hin⟩ := szOf_some hT hn
      have hi' : P.info? y.type = some i := hi
      have key : ∀ (β o : Nat), (Instr.fieldAt t (.pointer (some ⟨β, o, none⟩)) f).run P w = .ok (.pointer (some ⟨β, o + y.offset, none⟩)) w := by
        intro β o
        simp [Instr.fieldAt, run_underlying hu, hy, Instr.sureAddr, fieldPlace, run_sizeOf' hi', hin, add_none]
      split at h
      · cases h
        obtain ⟨L, h1, rfl⟩ := hx.ptr_inv
        exact ⟨_, key _ _, .ptr h1 rfl (by simp [fdOf]; omega)⟩
      · cases h
        obtain ⟨L, h1, rfl⟩ := hx.eptr_inv
        exact ⟨_, key _ _, .eptr h1 rfl (by simp [fdOf]; omega)⟩
      · rename_i u
        split at h
        · rename_i x' hx'
          cases hfit : x'.fits with
          | false => simp [hfit] at h
          | true =>
            simp only [hfit, cond_true, Option.some.injEq] at h
            subst h
            cases hx with
            | cptr g h1 h2 h3 h4 =>
              rename_i β o C e z
              refine ⟨_, key _ _, ?_⟩
              -- the part's cells lie behind the field's place
              have hcr : CR ok w.heap noMap u.cells C o := CR.mk h3 h4
              have hpart : ∃ s : Nat, s + y.offset = y.offset + s ∧ ∀ j q, x'.cells[j]? = some q → ∃ cv, C[o + y.offset + j]? = some cv ∧ VR ok w.heap noMap q cv := by
                refine ⟨0, by omega, fun j q hq => ?_⟩
                unfold takeT at hx'
                split at hx'
                · rename_i ti hti
                  cases hag : ti.ag with
                  | true =>
                    simp only [hag, takeCells, cond_true] at hx'
                    cases hle : ((fdOf y).off + ti.size).ble u.cells.length with
                    | false => simp [hle] at hx'
                    | true =>
                      simp only [hle, cond_true, Option.some.injEq] at hx'
                      subst hx'
                      simp only [AV.cells] at hq
                      obtain ⟨cv, hcv, hr⟩ := (hcr.drop (fdOf y).off).take ti.size j q hq
                      exact ⟨cv, hcv, hr⟩
                  | false =>
                    simp only [hag, takeCells, cond_false] at hx'
                    split at hx'
                    · rename_i q' hq'
                      cases hone : q'.one with
                      | false => simp [hone] at hx'
                      | true =>
                        simp only [hone, cond_true, Option.some.injEq] at hx'
                        subst hx'
                        obtain ⟨cv, hcv, hr⟩ := hcr _ _ hq'
                        have hc1 : q'.cells = [q'] := by cases q' <;> first | rfl | simp [AV.one] at hone
                        rw [hc1] at hq
                        cases j with
                        | zero => simp at hq; subst hq; exact ⟨cv, hcv, hr⟩
                        | succ j => simp at hq
                    · cases hx'
                · cases hx'
              obtain ⟨_, _, hp⟩ := hpart
              obtain ⟨g', k1, k2⟩ := CR.fun (cs := x'.cells) (C := C) (o := o + y.offset) hp
              exact .cptr g' h1 h2 k1 k2
        · cases h
      · cases h
    · cases h
  · cases h

theorem sim_field (hT : TyOK P T) {t : TypeId} {x v : AV} {f : Nat} (h : afield T t x f = some v) {vx : Value} (hx : VR ok w.heap m x vx) :
    ∃ cv, (Instr.field t vx f).run P w = .ok cv w ∧ VR ok w.heap m v cv := by
  unfold afield at h
  split at h
  · split at h
    · rename_i fd hfd
      obtain ⟨fields, y, hu, hy, rfl⟩ := fieldOf_some hT hfd
      obtain ⟨vs, rfl, hs, hr⟩ := hx.agg_inv
      obtain ⟨cv, h1, h2⟩ := sim_part hT h hr hs
      exact ⟨cv, by simpa [Instr.field, run_underlying hu, hy, asAgg, fdOf] using h1, h2⟩
    · cases h
  · cases h

end
end Go.Proofs.YtopkeglpafdlfaaGreat.VS
