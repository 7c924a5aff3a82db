/- Each operation that leaves the heap alone: the model's answer is the abstract machine's. Conditions: none. -/
import Derived.Test.YtopkeglpafdlfaaGreatVS3
import Derived.Laws.IdiomCopy
import Derived.WalkLawsBesides
namespace Go.Proofs.YtopkeglpafdlfaaGreat.VS
variable [Syms]

omit [Syms] in
theorem cell_of {w : World} {β : Nat} {C : Array Value} {e : TypeId} {z : Nat × Nat} (h : w.heap[β]? = some (.cells C e z)) (j : Nat) : w.cell? ⟨β, j, none⟩ = C[j]? := by
  simp [World.cell?, h]

omit [Syms] in
theorem frozen_of {w : World} {β : Nat} {C : Array Value} {e : TypeId} {z : Nat × Nat} (h : w.heap[β]? = some (.cells C e z)) {s : Nat} (hz : NoFz s C z) {j : Nat} (hj : j < C.size) : w.frozen? ⟨β, j, none⟩ = false := by
  have : ¬ (z.1 ≤ j ∧ j < z.2) := by rcases hz with h | h <;> omega
  simp only [World.frozen?, h]
  simp only [Bool.and_eq_false_iff, decide_eq_false_iff_not]
  omega

omit [Syms] in
theorem add_none (β o n : Nat) : (⟨β, o, none⟩ : Addr).add n = ⟨β, o + n, none⟩ := by unfold Addr.add; split <;> simp_all

/-- The tables tell what the program's own say. -/
def TyOK (P : Program) (T : Tabs) : Prop :=
  ∀ t i, T.ty.get t = some i → ∃ (j : TypeInfo) (d : TypeDesc), P.info? t = some j ∧ P.underlying t = some d ∧ i.size = j.size ∧ i.bytes = j.bytes ∧ i.zero = zeroV j.zero ∧ i.ag = isAggD d ∧ i.k = tkOf d ∧
    (i.cmp = true → P.eqGuardType P.depth t = false ∧ P.stoodInHeld t = false)

section types
variable {P : Program} {T : Tabs} (hT : TyOK P T)
include hT

omit [Syms] in
theorem szOf_some {t : TypeId} {n : Nat} (h : szOf T t = some n) : ∃ i, P.info? t = some i ∧ i.size = n := by
  unfold szOf at h
  split at h
  · rename_i i hi
    obtain ⟨j, d, h1, h2, h3, _⟩ := hT t i hi
    exact ⟨j, h1, by rw [← h3]; simpa using h⟩
  · cases h

omit [Syms] in
theorem bytesOf_some {t : TypeId} {n : Nat} (h : bytesOf T t = some n) : ∃ i, P.info? t = some i ∧ i.bytes = n := by
  unfold bytesOf at h
  split at h
  · rename_i i hi
    obtain ⟨j, d, h1, h2, _, h3, _⟩ := hT t i hi
    exact ⟨j, h1, by rw [← h3]; simpa using h⟩
  · cases h

omit [Syms] in
theorem zeroOf_some {t : TypeId} {a : AV} (h : zeroOf T t = some a) : ∃ i v, P.info? t = some i ∧ i.zero = some v ∧ a = ofV v := by
  unfold zeroOf at h
  split at h
  · rename_i i hi
    obtain ⟨j, d, h1, h2, _, _, h3, _⟩ := hT t i hi
    rw [h3] at h
    cases hz : j.zero with
    | none => simp [hz, zeroV] at h
    | some v => simp [hz, zeroV] at h; exact ⟨j, v, h1, hz, h.symm⟩
  · cases h

omit [Syms] in
theorem kindOf_some {t : TypeId} {k : TK} (h : kindOf T t = k) (hk : k ≠ .other) : ∃ d, P.underlying t = some d ∧ tkOf d = k := by
  unfold kindOf at h
  split at h
  · rename_i i hi
    obtain ⟨j, d, h1, h2, _, _, _, _, h3, _⟩ := hT t i hi
    exact ⟨d, h2, by rw [← h3]; exact h⟩
  · exact absurd h.symm hk

omit [Syms] in
theorem kind_slice {t e : TypeId} (h : kindOf T t = .slice e) : P.underlying t = some (.slice e) := by
  obtain ⟨d, h1, h2⟩ := kindOf_some hT h (by simp)
  cases d <;> simp [tkOf] at h2
  rw [h1, h2]

omit [Syms] in
theorem kind_str {t : TypeId} (h : kindOf T t = .str) : P.underlying t = some .string := by
  obtain ⟨d, h1, h2⟩ := kindOf_some hT h (by simp)
  cases d <;> simp [tkOf] at h2
  rw [h1]

omit [Syms] in
theorem kind_int {t : TypeId} {k : IntKind} (h : kindOf T t = .int k) : P.underlying t = some (.int k) := by
  obtain ⟨d, h1, h2⟩ := kindOf_some hT h (by simp)
  cases d <;> simp [tkOf] at h2
  rw [h1, h2]

omit [Syms] in
theorem kind_bool {t : TypeId} (h : kindOf T t = .bool) : P.underlying t = some .bool := by
  obtain ⟨d, h1, h2⟩ := kindOf_some hT h (by simp)
  cases d <;> simp [tkOf] at h2
  rw [h1]

omit [Syms] in
theorem kind_array {t e : TypeId} {n : Nat} (h : kindOf T t = .array n e) : P.underlying t = some (.array n e) := by
  obtain ⟨d, h1, h2⟩ := kindOf_some hT h (by simp)
  cases d <;> simp [tkOf] at h2
  rw [h1, h2.1, h2.2]

omit [Syms] in
theorem kind_map {t k e : TypeId} (h : kindOf T t = .map k e) : P.underlying t = some (.map k e) := by
  obtain ⟨d, h1, h2⟩ := kindOf_some hT h (by simp)
  cases d <;> simp [tkOf] at h2
  rw [h1, h2.1, h2.2]

omit [Syms] in
theorem kind_struct {t : TypeId} {fs : List Fd} (h : kindOf T t = .struct fs) : ∃ fields : Array Field, P.underlying t = some (.struct fields) ∧ fs = fields.toList.map fdOf := by
  obtain ⟨d, h1, h2⟩ := kindOf_some hT h (by simp)
  cases d <;> simp [tkOf] at h2
  rename_i fields
  exact ⟨fields, h1, h2.symm⟩

omit [Syms] in
theorem elemOf_some {t e : TypeId} (h : elemOf T t = some e) : P.underlying t = some (.slice e) := by
  unfold elemOf at h
  split at h
  · rename_i e' he; simp at h; subst h; exact kind_slice hT he
  · cases h

omit [Syms] in
theorem fieldOf_some {t : TypeId} {f : Nat} {fd : Fd} (h : fieldOf T t f = some fd) : ∃ (fields : Array Field) (x : Field), P.underlying t = some (.struct fields) ∧ fields[f]? = some x ∧ fd = fdOf x := by
  unfold fieldOf at h
  split at h
  · rename_i fs hfs
    obtain ⟨fields, h1, h2⟩ := kind_struct hT hfs
    subst h2
    rw [List.getElem?_map, Array.getElem?_toList] at h
    cases hx : fields[f]? with
    | none => simp [hx] at h
    | some x => simp [hx] at h; exact ⟨fields, x, h1, hx, h.symm⟩
  · cases h

omit hT
omit [Syms] in
theorem run_isAgg' {t : TypeId} {d : TypeDesc} (h : P.underlying t = some d) (w : World) : (isAgg t).run P w = .ok (isAggD d) w := by
  unfold isAgg
  simp only [Sem.run_bind, run_underlying h, Result.andThen_ok]
  cases d <;> rfl

omit [Syms] in
theorem run_sizeOf' {t : TypeId} {i : TypeInfo} (h : P.info? t = some i) (w : World) : (sizeOf t).run P w = .ok i.size w := by
  simp [sizeOf, typeInfo, h]

end types

section
variable {P : Program} {T : Tabs} {ok : Nat → Prop} {m : Map} {w : World}

theorem ofV1_vr (v : Value) : VR ok w.heap m (ofV1 v) v := by
  unfold ofV1
  split
  · exact .bool _
  · exact .int _ _
  · exact .str _ _ rfl
  · exact .nilp
  · exact .nilf
  · exact .nili
  · exact .nils
  · exact .nilm
  · exact .dead

theorem ofV_vr (v : Value) : VR ok w.heap m (ofV v) v := by
  unfold ofV
  split
  · rename_i cs
    refine .agg' (by simp) fun j x hx => ?_
    simp only [List.getElem?_map, Array.getElem?_toList] at hx
    cases hc : cs[j]? with
    | none => simp [hc] at hx
    | some u =>
      simp [hc] at hx
      subst hx
      exact ⟨u, by simpa using hc, ofV1_vr u⟩
  · exact ofV1_vr v

def FrR (ok : Nat → Prop) (h : Array Obj) (m : Map) (fr : Fr) (tmps : Array Value) : Prop := ∀ t, VR ok h m (fr.get t) (tmps.getD t undef)

theorem opnd_vr {fr : Fr} {a : Act} (hf : FrR ok w.heap m fr a.tmps) (x : Operand) : VR ok w.heap m (opnd fr x) (a.eval x) := by
  cases x with
  | tmp t => exact hf t
  | const v => exact ofV_vr v
  | global g => exact .dead
  | func f => exact .fn' rfl (fun j x hx => by simp at hx)

theorem opnds_vr {fr : Fr} {a : Act} (hf : FrR ok w.heap m fr a.tmps) : ∀ l : List Operand, CR ok w.heap m (opnds fr l) (l.map a.eval).toArray 0
  | [] => fun j x hx => by simp [opnds] at hx
  | y :: l => fun j x hx => by
    cases j with
    | zero => simp [opnds] at hx; subst hx; exact ⟨a.eval y, by simp, opnd_vr hf y⟩
    | succ j =>
      simp only [opnds, List.getElem?_cons_succ] at hx
      obtain ⟨v, hv, hr⟩ := opnds_vr hf l j x hx
      exact ⟨v, by simpa using hv, hr⟩

omit [Syms] in
theorem opnds_length (fr : Fr) : ∀ l : List Operand, (opnds fr l).length = l.length
  | [] => rfl
  | _ :: l => by simp [opnds, opnds_length fr l]

/-- Cells read as a value of a type. -/
theorem sim_take (hT : TyOK P T) {t : TypeId} {cs : List AV} {off : Nat} {v : AV} (ht : takeT T t cs off = some v) {β o : Nat} {C : Array Value} {e : TypeId} {z : Nat × Nat}
    (hC : w.heap[β]? = some (.cells C e z)) (hr : CR ok w.heap m cs C o) :
    ∃ cv, (loadVar t ⟨β, o + off, none⟩).run P w = .ok cv w ∧ VR ok w.heap m v cv := by
  unfold takeT at ht
  split at ht
  · rename_i ti hti
    obtain ⟨i, d, hi, hd, hin, _, _, hda, _⟩ := hT t ti hti
    rw [hin] at ht
    cases hag : ti.ag with
    | true =>
      rw [hag] at hda
      have hda := hda.symm
      simp only [hag, takeCells, cond_true] at ht
      cases hle : (off + i.size).ble cs.length with
      | false => simp [hle] at ht
      | true =>
        simp only [hle, cond_true, Option.some.injEq] at ht
        have hle' := Nat.le_of_ble_eq_true hle
        subst ht
        obtain ⟨g, h1, h2⟩ := hr.fun
        have hl := run_loadCells (P := P) w ⟨β, o + off, none⟩ i.size (fun j => g (off + j)) (fun j hj => by
          rw [add_none, cell_of hC, Nat.add_assoc]; exact h1 _ (by omega))
        refine ⟨.agg (List.map (fun j => g (off + j)) (List.range i.size)).toArray, by
          simp only [loadVar, Sem.run_bind, run_isAgg' hd, hda, Result.andThen_ok, if_true, run_sizeOf' hi, hl, Sem.run_pure], .agg' (by simp; omega) fun j x hx => ?_⟩
        rw [List.getElem?_take] at hx
        split at hx
        · rename_i hj
          rw [List.getElem?_drop] at hx
          exact ⟨g (off + j), by simp [hj], h2 _ _ hx⟩
        · cases hx
    | false =>
      rw [hag] at hda
      have hda := hda.symm
      simp only [hag, takeCells, cond_false] at ht
      split at ht
      · rename_i x hx
        cases hone : x.one with
        | false => simp [hone] at ht
        | true =>
          simp only [hone, cond_true, Option.some.injEq] at ht
          subst ht
          obtain ⟨u, hu, hv⟩ := hr off x hx
          exact ⟨u, by simp [loadVar, run_isAgg' hd, hda, cell_of hC, hu], hv⟩
      · cases ht
  · cases ht

/-- Cells of an aggregate taken as a value of a type. -/
theorem sim_part (hT : TyOK P T) {t : TypeId} {cs : List AV} {off : Nat} {v : AV} (ht : takeT T t cs off = some v) {C : Array Value} (hr : CR ok w.heap m cs C 0) (hsz : C.size = cs.length) :
    ∃ cv, (part t C off).run P w = .ok cv w ∧ VR ok w.heap m v cv := by
  unfold takeT at ht
  split at ht
  · rename_i ti hti
    obtain ⟨i, d, hi, hd, hin, _, _, hda, _⟩ := hT t ti hti
    rw [hin] at ht
    cases hag : ti.ag with
    | true =>
      rw [hag] at hda
      have hda := hda.symm
      simp only [hag, takeCells, cond_true] at ht
      cases hle : (off + i.size).ble cs.length with
      | false => simp [hle] at ht
      | true =>
        simp only [hle, cond_true, Option.some.injEq] at ht
        have hle' := Nat.le_of_ble_eq_true hle
        subst ht
        refine ⟨.agg (C.extract off (off + i.size)), by simp [part, run_isAgg' hd, hda, run_sizeOf' hi], .agg' (by simp; omega) fun j x hx => ?_⟩
        rw [List.getElem?_take] at hx
        split at hx
        · rename_i hj
          rw [List.getElem?_drop] at hx
          obtain ⟨u, hu, hv⟩ := hr _ _ hx
          refine ⟨u, ?_, hv⟩
          rw [Array.getElem?_extract, if_pos (by omega)]
          simpa [Nat.zero_add] using hu
        · cases hx
    | false =>
      rw [hag] at hda
      have hda := hda.symm
      simp only [hag, takeCells, cond_false] at ht
      split at ht
      · rename_i x hx
        cases hone : x.one with
        | false => simp [hone] at ht
        | true =>
          simp only [hone, cond_true, Option.some.injEq] at ht
          subst ht
          obtain ⟨u, hu, hv⟩ := hr off x hx
          rw [Nat.zero_add] at hu
          exact ⟨u, by simp [part, run_isAgg' hd, hda, hu], hv⟩
      · cases ht
  · cases ht

end
end Go.Proofs.YtopkeglpafdlfaaGreat.VS
