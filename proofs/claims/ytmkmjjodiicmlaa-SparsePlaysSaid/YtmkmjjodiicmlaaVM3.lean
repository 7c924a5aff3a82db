/- A library of an abstract machine, joined from 4 texts. Conditions: none. -/
import Derived.Test.YtmkmjjodiicmlaaVM2
import Derived.Lib.ConvBytes
import Derived.Laws.IdiomStrings
set_option linter.unusedVariables false
set_option linter.unusedSimpArgs false
set_option linter.unusedSectionVars false
/- What makes memory, and what writes it: new variables, slices made, appended to, copied. Conditions: none. -/
namespace Go.Proofs.Ytmkmjjodiicmlaa.VS
variable [Syms]

section runs
variable {P : Program} {w : World}

/-- A type of what is appended that is no number. -/
def plainSrc (P : Program) (xt : TypeId) : Prop := P.underlying xt = some .string ∨ ∃ e, P.underlying xt = some (.slice e)

omit [Syms] in
theorem run_append_grow' {ts : Array TypeId} {ty st xt e : TypeId} {i : TypeInfo} {z : Value} (h0 : ts[0]? = some st) (h1 : ts[1]? = some xt) (hu : P.underlying st = some (.slice e)) (hxt : plainSrc P xt)
    (hi : P.info? e = some i) (hz : i.zero = some z) {base : Option Addr} {sLen sCap n : Nat} {x : Value} {old new : Array Value}
    (hlen : Builtin.lenOf x = pure n) (hold : ∀ w' : World, w'.heap = w.heap → (Builtin.firstCells i.size sLen (.slice base sLen sCap)).run P w' = .ok old w')
    (hnew : ∀ w' : World, w'.heap = w.heap → (Builtin.firstCells i.size n x).run P w' = .ok new w')
    (hg : sCap < sLen + n) (h63 : ((sLen + n : Nat) : Int) ≤ 9223372036854775807) (hfit : Builtin.nextslicecap (sLen + n) sCap * i.bytes ≤ 281474976710656) :
    (Builtin.append_ ts ty #[.slice base sLen sCap, x]).run P w =
      .ok (.slice (some ⟨w.heap.size, 0, none⟩) (sLen + n) (grownCap w (sLen + n) sCap e))
        (w.drew.alloc (.cells (old ++ new ++ Builtin.zeroCells z.cells (grownCap w (sLen + n) sCap e - (sLen + n))) e)) := by
  have hn : ¬ (sLen + n ≤ sCap) := by omega
  have h63' : ¬ (9223372036854775807 < ((sLen : Int) + (n : Int))) := by omega
  have h48' : ¬ (281474976710656 < Builtin.nextslicecap (sLen + n) sCap * i.bytes) := by omega
  have hf := hnew w.drew rfl
  have hfo := hold w.drew rfl
  rcases hxt with hxt | ⟨e', hxt⟩ <;>
    simp [Builtin.append_, h0, h1, run_underlying hu, run_underlying hxt, sizeOf, typeInfo, zeroValue, hi, hz, hlen, hn, h63', h48', Question.forced, hf, hfo, newRow, grownCap]

omit [Syms] in
theorem run_append_room' {ts : Array TypeId} {ty st xt e : TypeId} {i : TypeInfo} (h0 : ts[0]? = some st) (h1 : ts[1]? = some xt) (hu : P.underlying st = some (.slice e)) (hxt : plainSrc P xt)
    (hi : P.info? e = some i) {a : Addr} {sLen sCap n : Nat} {x : Value} {new : Array Value} {w1 : World}
    (hlen : Builtin.lenOf x = pure n) (hnew : (Builtin.firstCells i.size n x).run P w = .ok new w) (hst : (storeCells (a.add (sLen * i.size)) new.toList).run P w = .ok () w1) (hg : sLen + n ≤ sCap) :
    (Builtin.append_ ts ty #[.slice (some a) sLen sCap, x]).run P w = .ok (.slice (some a) (sLen + n) sCap) w1 := by
  rcases hxt with hxt | ⟨e', hxt⟩ <;>
    simp [Builtin.append_, h0, h1, run_underlying hu, run_underlying hxt, sizeOf, typeInfo, hi, hlen, hg, hnew, hst]

omit [Syms] in
theorem run_append_nothing {ts : Array TypeId} {ty st xt e : TypeId} {i : TypeInfo} (h0 : ts[0]? = some st) (h1 : ts[1]? = some xt) (hu : P.underlying st = some (.slice e)) (hxt : plainSrc P xt)
    (hi : P.info? e = some i) {base : Option Addr} {sLen sCap : Nat} {x : Value}
    (hlen : Builtin.lenOf x = pure 0) (hnew : (Builtin.firstCells i.size 0 x).run P w = .ok #[] w) (hg : sLen ≤ sCap) :
    (Builtin.append_ ts ty #[.slice base sLen sCap, x]).run P w = .ok (.slice base sLen sCap) w := by
  rcases hxt with hxt | ⟨e', hxt⟩ <;> cases base <;>
    simp [Builtin.append_, h0, h1, run_underlying hu, run_underlying hxt, sizeOf, typeInfo, hi, hlen, hg, hnew, storeCells]

omit [Syms] in
theorem run_append_make_grow {ts : Array TypeId} {ty st xt e : TypeId} {k : IntKind} {i : TypeInfo} {z : Value} (h0 : ts[0]? = some st) (h1 : ts[1]? = some xt) (hu : P.underlying st = some (.slice e)) (hxt : P.underlying xt = some (.int k))
    (hi : P.info? e = some i) (hz : i.zero = some z) {base : Option Addr} {sLen sCap n : Nat} {kx : IntKind} {old : Array Value}
    (hold : ∀ w' : World, w'.heap = w.heap → (Builtin.firstCells i.size sLen (.slice base sLen sCap)).run P w' = .ok old w')
    (hg : sCap < sLen + n) (h63 : ((sLen + n : Nat) : Int) ≤ 9223372036854775807) (hby : n * i.bytes ≤ 281474976710656) (hfit : Builtin.nextslicecap (sLen + n) sCap * i.bytes ≤ 281474976710656) (hpos : 0 < i.size) (hn0 : 0 < n) :
    (Builtin.append_ ts ty #[.slice base sLen sCap, .int kx (n : Int)]).run P w =
      .ok (.slice (some ⟨w.heap.size, 0, none⟩) (sLen + n) (grownCap w (sLen + n) sCap e))
        (w.drew.alloc (.cells (old ++ Builtin.zeroCells z.cells n ++ Builtin.zeroCells z.cells (grownCap w (sLen + n) sCap e - (sLen + n))) e)) := by
  have hn : ¬ (sLen + n ≤ sCap) := by omega
  have h63' : ¬ (9223372036854775807 < ((sLen : Int) + (n : Int))) := by omega
  have h48' : ¬ (281474976710656 < Builtin.nextslicecap (sLen + n) sCap * i.bytes) := by omega
  have hw : IntKind.i64.wrap (n : Int) = n := by rw [IntKind.wrap_i64]; omega
  have hb' : ¬ (281474976710656 < (n : Int) * (i.bytes : Int)) := by
    have h : ((n * i.bytes : Nat) : Int) ≤ 281474976710656 := by omega
    rw [Int.natCast_mul] at h
    omega
  have hneg : ¬ ((n : Int) < 0) := by omega
  have hfo := hold w.drew rfl
  have hns : n * i.size = 0 → False := fun h => by
    rcases Nat.mul_eq_zero.1 h with h | h <;> omega
  simp [Builtin.append_, h0, h1, run_underlying hu, run_underlying hxt, sizeOf, typeInfo, zeroValue, hi, hz, asInt, asIntOf, hw, hneg, hb', hn, h63', h48', Question.forced, hfo, newRow, grownCap]
  exact fun h => (hns h).elim

omit [Syms] in
theorem run_append_make_room {ts : Array TypeId} {ty st xt e : TypeId} {k : IntKind} {i : TypeInfo} {z : Value} (h0 : ts[0]? = some st) (h1 : ts[1]? = some xt) (hu : P.underlying st = some (.slice e)) (hxt : P.underlying xt = some (.int k))
    (hi : P.info? e = some i) (hz : i.zero = some z) {a : Addr} {sLen sCap n : Nat} {kx : IntKind} {w1 : World} (hst : (storeCells (a.add (sLen * i.size)) (Builtin.zeroCells z.cells n).toList).run P w = .ok () w1)
    (hg : sLen + n ≤ sCap) (h63 : (n : Int) ≤ 9223372036854775807) (hby : n * i.bytes ≤ 281474976710656) (hpos : 0 < i.size) (hn0 : 0 < n) :
    (Builtin.append_ ts ty #[.slice (some a) sLen sCap, .int kx (n : Int)]).run P w = .ok (.slice (some a) (sLen + n) sCap) w1 := by
  have hw : IntKind.i64.wrap (n : Int) = n := by rw [IntKind.wrap_i64]; omega
  have hb' : ¬ (281474976710656 < (n : Int) * (i.bytes : Int)) := by
    have h : ((n * i.bytes : Nat) : Int) ≤ 281474976710656 := by omega
    rw [Int.natCast_mul] at h
    omega
  have hneg : ¬ ((n : Int) < 0) := by omega
  have hns : ¬ (n * i.size = 0) := fun h => by
    rcases Nat.mul_eq_zero.1 h with h | h <;> omega
  simp [Builtin.append_, h0, h1, run_underlying hu, run_underlying hxt, sizeOf, typeInfo, zeroValue, hi, hz, asInt, asIntOf, hw, hneg, hb', hg, hst]
  exact fun h => (hns h).elim

omit [Syms] in
theorem run_append_make_nothing {ts : Array TypeId} {ty st xt e : TypeId} {k : IntKind} {i : TypeInfo} {z : Value} (h0 : ts[0]? = some st) (h1 : ts[1]? = some xt) (hu : P.underlying st = some (.slice e)) (hxt : P.underlying xt = some (.int k))
    (hi : P.info? e = some i) (hz : i.zero = some z) {base : Option Addr} {sLen sCap : Nat} {kx : IntKind} (hg : sLen ≤ sCap) :
    (Builtin.append_ ts ty #[.slice base sLen sCap, .int kx 0]).run P w = .ok (.slice base sLen sCap) w := by
  have hw : IntKind.i64.wrap 0 = 0 := by decide
  cases base <;>
    simp [Builtin.append_, h0, h1, run_underlying hu, run_underlying hxt, sizeOf, typeInfo, zeroValue, hi, hz, asInt, asIntOf, hw, hg, storeCells]

end runs

section
variable {P : Program} {T : Tabs} {c : Ctx} {m : Map} {H : Heap} {F : List Nat} {w : World}

omit [Syms] in
theorem byteV_one (l : List UInt8) : flat (l.map byteV) = l.map byteV := by
  induction l with
  | nil => rfl
  | cons a l ih => rw [List.map_cons, flat_cons, ih]; rfl

omit [Syms] in
theorem run_loadCells_row {β o : Nat} {C : Array Value} {e : TypeId} {z : Nat × Nat} {n : Nat} {g : Nat → Value} (w : World) (hC : w.heap[β]? = some (.cells C e z)) (hg : ∀ j, j < n → C[o + j]? = some (g j)) :
    (loadCells ⟨β, o, none⟩ n).run P w = .ok ((List.range n).map g).toArray w :=
  run_loadCells w _ n g fun j hj => by rw [add_none, cell_of hC]; exact hg j hj

/-- The first elements of a slice, on both sides. -/
theorem sim_elemsK (hs : SR c m H F w) {x : AV} {ys : List AV} (he : elems H x = some ys) {vx : Value} (hx : VR (okB c.X m H F) w.heap m x vx) {s : Nat} (hsz : ∀ y ∈ ys, y.cells.length = s) {k : Nat} (hk : k ≤ ys.length) :
    ∃ new : Array Value, new.size = k * s ∧ CR (okB c.X m H F) w.heap m (flat (ys.take k)) new 0 ∧ Builtin.lenOf vx = pure ys.length ∧
      ∀ w' : World, w'.heap = w.heap → (Builtin.firstCells s k vx).run P w' = .ok new w' := by
  have none_ : ∀ {ys : List AV} {k : Nat} (a : Option Addr) (c' : Nat), ys = [] → k ≤ ys.length → ∃ new : Array Value, new.size = k * s ∧ CR (okB c.X m H F) w.heap m (flat (ys.take k)) new 0 ∧ Builtin.lenOf (.slice a 0 c') = pure ys.length ∧
      ∀ w' : World, w'.heap = w.heap → (Builtin.firstCells s k (.slice a 0 c')).run P w' = .ok new w' := by
    intro ys k a c' hy hk
    subst hy
    obtain rfl : k = 0 := by simpa using hk
    exact ⟨#[], by simp, fun j x hx => by simp [flat] at hx, rfl, fun w' _ => by cases a <;> simp [Builtin.firstCells, loadCells, loadCellsFrom]⟩
  have row : ∀ {zs : List AV} {k : Nat} {β o : Nat} {C : Array Value} {e : TypeId} {z : Nat × Nat} {c' : Nat}, k ≤ zs.length → w.heap[β]? = some (.cells C e z) → (∀ y ∈ zs, y.cells.length = s) → CR (okB c.X m H F) w.heap m (flat zs) C o →
      ∃ new : Array Value, new.size = k * s ∧ CR (okB c.X m H F) w.heap m (flat (zs.take k)) new 0 ∧ Builtin.lenOf (.slice (some ⟨β, o, none⟩) zs.length c') = pure zs.length ∧
      ∀ w' : World, w'.heap = w.heap → (Builtin.firstCells s k (.slice (some ⟨β, o, none⟩) zs.length c')).run P w' = .ok new w' := by
    intro zs k β o C e z c' hk hC hzs hcr
    obtain ⟨g, g1, g2⟩ := hcr.fun
    have hl := flat_length hzs
    have hm : k * s ≤ zs.length * s := Nat.mul_le_mul_right s hk
    refine ⟨((List.range (k * s)).map g).toArray, by simp, fun j y hy => ?_, rfl, fun w' hw' => ?_⟩
    · rw [flat_take k hzs, List.getElem?_take] at hy
      split at hy
      · rename_i hj
        exact ⟨g j, by simp [hj], g2 j y hy⟩
      · cases hy
    · simp only [Builtin.firstCells]
      exact run_loadCells_row w' (by rw [hw']; exact hC) fun j hj => g1 j (by omega)
  have slc : ∀ {ys : List AV}, (∀ y ∈ ys, y.cells.length = s) → k ≤ ys.length → VR (okB c.X m H F) w.heap m (.sl ys) vx → ∃ new : Array Value, new.size = k * s ∧ CR (okB c.X m H F) w.heap m (flat (ys.take k)) new 0 ∧ Builtin.lenOf vx = pure ys.length ∧
      ∀ w' : World, w'.heap = w.heap → (Builtin.firstCells s k vx).run P w' = .ok new w' := by
    intro ys hsz hk hx
    by_cases hne : ys = []
    · subst hne
      obtain ⟨a, c', rfl, _⟩ := hx.sl_any
      exact none_ _ _ rfl hk
    · obtain ⟨β, o, C, e, z, s', c', rfl, k1, k2, k3, k4, k5, k6⟩ := hx.sl_inv hne
      exact row hk k2 hsz k6.any
  have oslc : ∀ {s0 b lo len s' : Nat} {xs : List AV}, VR (okB c.X m H F) w.heap m (.osl s0 b lo len) vx → (∀ L, m b = some L → ArrR (okB c.X m H F) w.heap m L s' xs) → lo + len ≤ xs.length → (xs.drop lo).take len = ys →
      ∃ new : Array Value, new.size = k * s ∧ CR (okB c.X m H F) w.heap m (flat (ys.take k)) new 0 ∧ Builtin.lenOf vx = pure ys.length ∧
      ∀ w' : World, w'.heap = w.heap → (Builtin.firstCells s k vx).run P w' = .ok new w' := by
    intro s0 b lo len s' xs hx hb hle he
    obtain ⟨L, k1, k2, k3, k4⟩ := hx.osl_inv
    obtain ⟨js, jp, je, jl, C, e, z, j2, j3, j4, j5, j6⟩ := hb L k1
    have hylen : ys.length = len := by rw [← he]; simp; omega
    rcases k4 with ⟨k5, _, a, rfl⟩ | ⟨c', rfl, k5, k6, k7⟩
    · exact none_ _ _ (List.length_eq_zero_iff.1 (by omega)) hk
    · by_cases h0 : len = 0
      · subst h0
        exact none_ _ _ (List.length_eq_zero_iff.1 (by omega)) hk
      · have hss : s0 = s := by
          have hmem : ys[0]'(by omega) ∈ ys := List.getElem_mem _
          have h1 := hsz _ hmem
          have h2 := jl (ys[0]'(by omega)) (List.mem_of_mem_drop (List.mem_of_mem_take (by rw [he]; exact hmem)))
          omega
        have hfl : flat ys = ((flat xs).drop (lo * s)).take (len * s) := by
          have hss' : s' = s := by omega
          subst hss'
          rw [← he, flat_take len (fun y hy => jl y (List.mem_of_mem_drop hy)), flat_drop lo jl]
        rw [← hylen, hss]
        refine row (zs := ys) hk j2 hsz ?_
        rw [hfl]
        have := (j6.drop (lo * s)).take (len * s)
        exact this
  unfold elems at he
  split at he
  · cases he; cases hx; exact none_ _ _ rfl hk
  · cases he; cases hx; exact none_ _ _ rfl hk
  · cases he; cases hx; exact none_ _ _ rfl hk
  · cases he
    exact slc hsz hk hx
  · rename_i s0 b lo len
    split at he
    · rename_i s' xs hb
      cases hc : (lo + len).ble xs.length with
      | false => simp [hc] at he
      | true =>
        simp only [hc, cond_true, Option.some.injEq] at he
        exact oslc hx (fun L hL => hs.objm hb hL) (ble_le hc) he
    · rename_i gt xs hb
      cases hc : (lo + len).ble xs.length with
      | false => simp [hc] at he
      | true =>
        simp only [hc, cond_true, Option.some.injEq] at he
        exact oslc hx (fun L hL => hs.objm hb hL) (by rw [encs_length]; exact ble_le hc) he
    · cases he
  · rename_i g b n
    split at he
    · rename_i s' xs hb
      cases hc : n.beq xs.length with
      | false => simp [hc] at he
      | true =>
        simp only [hc, cond_true, Option.some.injEq] at he
        have hn := beq_eq' hc
        subst he
        cases hx with
        | gsE => exact none_ _ _ (List.length_eq_zero_iff.1 hn.symm) hk
        | gs hx => exact oslc hx (fun L hL => hs.objm hb hL) (by omega) (by rw [List.drop_zero, hn, List.take_length])
    · rename_i gt xs hb
      cases hc : n.beq xs.length with
      | false => simp [hc] at he
      | true =>
        simp only [hc, cond_true, Option.some.injEq] at he
        have hn := beq_eq' hc
        subst he
        cases hx with
        | gsE => exact none_ _ _ (by rw [List.length_eq_zero_iff.1 hn.symm]; rfl) hk
        | gs hx => exact oslc hx (fun L hL => hs.objm hb hL) (by rw [encs_length]; omega) (by rw [List.drop_zero, hn, ← encs_length gt xs, List.take_length])
    · cases he
  · rename_i str
    cases he
    obtain ⟨bs, rfl, hbs⟩ := hx.str_inv
    have hsize : bs.size = str.length := by rw [← hbs]; exact Array.length_toList.symm
    rw [List.length_map] at hk
    have hdata : (bs.extract 0 k).data.toList = str.take k := by
      rw [ByteArray.data_extract, Array.toList_extract, hbs, List.extract_eq_take_drop, List.drop_zero, Nat.sub_zero]
    refine ⟨(bs.extract 0 k).data.map fun b => .int .u8 b.toNat, ?_, fun j y hy => ?_, ?_, fun w' _ => ?_⟩
    · rw [Array.size_map, ← Array.length_toList, hdata, List.length_take]
      cases str with
      | nil => simp at hk; subst hk; simp
      | cons a l =>
        have := hsz (byteV a) (by simp)
        simp only [byteV, AV.cells, List.length_singleton] at this
        rw [← this, Nat.mul_one]; omega
    · rw [← List.map_take, byteV_one, List.getElem?_map] at hy
      cases hj : (str.take k)[j]? with
      | none => simp [hj] at hy
      | some b =>
        simp [hj] at hy
        subst hy
        refine ⟨.int .u8 b.toNat, ?_, .int _ _⟩
        rw [← hdata, Array.getElem?_toList] at hj
        rw [Nat.zero_add, Array.getElem?_map, hj]
        rfl
    · simp [Builtin.lenOf, hsize]
    · simp only [Builtin.firstCells]
      rfl
  · rename_i gt xs
    cases he
    cases hx with
    | tl hx => exact slc hsz hk hx
  · cases he

/-- The elements of a slice, on both sides. -/
theorem sim_elems (hs : SR c m H F w) {x : AV} {ys : List AV} (he : elems H x = some ys) {vx : Value} (hx : VR (okB c.X m H F) w.heap m x vx) {s : Nat} (hsz : ∀ y ∈ ys, y.cells.length = s) :
    ∃ new : Array Value, new.size = ys.length * s ∧ CR (okB c.X m H F) w.heap m (flat ys) new 0 ∧ Builtin.lenOf vx = pure ys.length ∧
      ∀ w' : World, w'.heap = w.heap → (Builtin.firstCells s ys.length vx).run P w' = .ok new w' := by
  obtain ⟨new, h1, h2, h3, h4⟩ := sim_elemsK (P := P) hs he hx hsz (Nat.le_refl ys.length)
  rw [List.take_length] at h2
  exact ⟨new, h1, h2, h3, h4⟩

omit [Syms] in
theorem ones_of {ys : List AV} {s : Nat} (hf : ∀ y ∈ ys, fitsN s y = true) : (∀ y ∈ ys, y.cells.length = s) ∧ ∀ q ∈ flat ys, q.one = true := by
  refine ⟨fun y hy => (fitsN_some (hf y hy)).2, fun q hq => ?_⟩
  obtain ⟨y, hy, hqy⟩ := List.mem_flatMap.1 hq
  exact fits_one (fitsN_some (hf y hy)).1 q hqy

theorem CR.ones {ok : Nat → Prop} {h : Array Obj} {cs : List AV} {C : Array Value} (hr : CR ok h m cs C 0) (hs : C.size = cs.length) (h1 : ∀ q ∈ cs, q.one = true) : ∀ v ∈ C, v.oneCell' = true := by
  intro v hv
  obtain ⟨j, hj, rfl⟩ := Array.mem_iff_getElem.1 hv
  obtain ⟨u, hu, hr'⟩ := hr j cs[j] (List.getElem?_eq_getElem (by omega))
  rw [Nat.zero_add, Array.getElem?_eq_getElem hj] at hu
  cases hu
  exact (hr'.one (h1 _ (List.getElem_mem _))).1

/-- What an operation leaves, on both sides. -/
structure Done (c : Ctx) (m : Map) (H : Heap) (F : List Nat) (w : World) (id : Nat) (v : AV) (e : Eff) (fz : List Nat) (cv : Value) (m' : Map) (w' : World) : Prop where
  ext : Ext c m H F w m' (happ H e) (fz ++ F) w'
  sr : SR c m' (happ H e) (fz ++ F) w'
  vr : VR (okB c.X m' (happ H e) (fz ++ F)) w'.heap m' v cv
  dom : ∀ b, m' b ≠ none → m b ≠ none ∨ (id ≤ b ∧ b < id + STRIDE)

theorem Done.quiet (hs : SR c m H F w) {id : Nat} {v : AV} {cv : Value} (hv : VR (okB c.X m H F) w.heap m v cv) : Done c m H F w id v [] [] cv m w :=
  ⟨Ext.refl _ _ _ _ _, hs, hv, fun _ h => .inl h⟩

/-- A new row for a new number, whose elements are a row's. -/
theorem SR.newArr (hs : SR c m H F w) {id : Nat} (hid : m id = none) {w' : World} (ha : Alike w w') {C : Array Value} {e : TypeId} {z : Nat × Nat} (hsz : w'.heap.size = w.heap.size + 1)
    (hold : ∀ β, β < w.heap.size → w'.heap[β]? = w.heap[β]?) (hnew : w'.heap[w.heap.size]? = some (.cells C e z)) {s : Nat} (hz : NoFz s C z) (hs0 : 0 < s) {xs : List AV} (hxs : ∀ x ∈ xs, x.cells.length = s)
    (hC : xs.length * s ≤ C.size) (hr : CR (okB c.X m H F) w.heap m (flat xs) C 0) :
    Ext c m H F w (upd m id ⟨w.heap.size, 0, s, xs.length, C.size, fun _ => none⟩) (hset H id (.arr s xs)) F w' ∧ SR c (upd m id ⟨w.heap.size, 0, s, xs.length, C.size, fun _ => none⟩) (hset H id (.arr s xs)) F w' := by
  obtain ⟨hx, hsr⟩ := hs.new hid ha hsz hold (L := ⟨w.heap.size, 0, s, xs.length, C.size, fun _ => none⟩) rfl (o := .arr s xs)
  exact ⟨hx, hsr ⟨rfl, hs0, rfl, hxs, C, e, z, hnew, rfl, hz, by simpa using hC, hr.mono hx.kk hx.mm⟩⟩

omit [Syms] in
theorem alloc_facts (w : World) (o : Obj) : (w.alloc o).heap.size = w.heap.size + 1 ∧ (∀ β, β < w.heap.size → (w.alloc o).heap[β]? = w.heap[β]?) ∧ (w.alloc o).heap[w.heap.size]? = some o ∧ Alike w (w.alloc o) :=
  ⟨by simp, fun β hβ => by rw [show (w.alloc o).heap = w.heap.push o from rfl, Array.getElem?_push, if_neg (by omega)], by rw [show (w.alloc o).heap = w.heap.push o from rfl]; simp, ⟨rfl, rfl, rfl⟩⟩

omit [Syms] in
theorem NoFz_zero {s : Nat} (C : Array Value) : NoFz s C (0, 0) := .inl rfl

/-- One's own row is given up, and what was in it is told of another number. -/
theorem SR.moveG (hs : SR c m H F w) {b id : Nat} {o : AObj} (hb : hget H b = some o) (hf : b ∉ F) {L L' : Loc} (hm : m b = some L) (hid : m id = none) {w' : World} (ha : Alike w w')
    (hsz : w'.heap.size = w.heap.size) (hold : ∀ β, ¬ fp o L β → w'.heap[β]? = w.heap[β]?) {o' : AObj} (hfo : ∀ β, fp o' L' β → fp o L β) :
    Ext c m H F w (upd m id L') (hdel (hset H id o') b) F w' ∧
    (ObjR (okB c.X (upd m id L') (hdel (hset H id o') b) F) w'.heap (upd m id L') L' o' → SR c (upd m id L') (hdel (hset H id o') b) F w') := by
  have hbi : b ≠ id := fun e => by rw [e, hid] at hm; cases hm
  have get : ∀ {x : Nat} {y : AObj}, hget (hdel (hset H id o') b) x = some y → (x = id ∧ y = o') ∨ (x ≠ b ∧ x ≠ id ∧ hget H x = some y) := by
    intro x y hy
    rw [hget_hdel] at hy
    by_cases e1 : b = x
    · rw [if_pos e1] at hy; cases hy
    · rw [if_neg e1, hget_hset] at hy
      by_cases e2 : id = x
      · rw [if_pos e2] at hy; cases hy; exact .inl ⟨e2.symm, rfl⟩
      · rw [if_neg e2] at hy; exact .inr ⟨fun e => e1 e.symm, fun e => e2 e.symm, hy⟩
  have hx : Ext c m H F w (upd m id L') (hdel (hset H id o') b) F w' := by
    refine ⟨upd_le L' hid, fun β C e z ho hh => ⟨⟨ho.1, fun b1 o1 L1 hb1 hf1 hm1 => ?_⟩, by rw [hold β (ho.2 b o L hb hf hm)]; exact hh⟩⟩
    rcases get hb1 with ⟨rfl, rfl⟩ | ⟨_, h2, h3⟩
    · rw [upd_same] at hm1; cases hm1; exact fun h => ho.2 b o L hb hf hm (hfo β h)
    · rw [upd_ne m L' h2] at hm1; exact ho.2 b1 o1 L1 h3 hf1 hm1
  refine ⟨hx, fun hobj => ⟨hs.xlt, fun b1 o1 hb1 => ?_, fun b1 o1 b2 o2 L1 L2 β h1 h2 h3 h4 h5 h6 => ?_, fun b1 o1 L1 β hb1 hm1 hfp => ?_, fun b1 o1 L1 β hb1 hm1 hfp => ?_, ?_⟩⟩
  · rcases get hb1 with ⟨rfl, rfl⟩ | ⟨h1, h2, h3⟩
    · exact .inl ⟨L', upd_same _ _ _, hobj⟩
    · rcases hs.all b1 o1 h3 with ⟨L1, k1, k2⟩ | k1
      · refine .inl ⟨L1, by rw [upd_ne m L' h2]; exact k1, ObjR.mono k2 hx.kk hx.mm (fun β hβ => hold β fun h => h1 ?_)⟩
        exact hs.injf b1 o1 b o L1 L β h3 hb k1 hm hβ h
      · exact .inr (by rw [upd_ne m L' h2]; exact k1)
  · rcases get h1 with ⟨rfl, rfl⟩ | ⟨p1, p2, p3⟩ <;> rcases get h2 with ⟨rfl, rfl⟩ | ⟨q1, q2, q3⟩
    · rfl
    · rw [upd_same] at h3; cases h3
      rw [upd_ne m L' q2] at h4
      exact absurd (hs.injf b o b2 o2 L L2 β hb q3 hm h4 (hfo β h5) h6).symm q1
    · rw [upd_same] at h4; cases h4
      rw [upd_ne m L' p2] at h3
      exact absurd (hs.injf b1 o1 b o L1 L β p3 hb h3 hm h5 (hfo β h6)) p1
    · rw [upd_ne m L' p2] at h3
      rw [upd_ne m L' q2] at h4
      exact hs.injf b1 o1 b2 o2 L1 L2 β p3 q3 h3 h4 h5 h6
  · rcases get hb1 with ⟨rfl, rfl⟩ | ⟨p1, p2, p3⟩
    · rw [upd_same] at hm1; cases hm1; exact hs.noxf b o L β hb hm (hfo β hfp)
    · rw [upd_ne m L' p2] at hm1; exact hs.noxf b1 o1 L1 β p3 hm1 hfp
  · rcases get hb1 with ⟨rfl, rfl⟩ | ⟨p1, p2, p3⟩
    · rw [upd_same] at hm1; cases hm1; exact hs.ownf b o L β hb hm (hfo β hfp)
    · rw [upd_ne m L' p2] at hm1; exact hs.ownf b1 o1 L1 β p3 hm1 hfp
  · have hk := hs.keep
    refine ⟨ha.os.trans hk.os, ha.tape.trans hk.tape, ha.output.trans hk.output, by have := hk.size; omega, fun β hb' ho => ?_⟩
    rw [hold β fun h => ?_]
    · exact hk.block β hb' ho
    · rcases hs.ownf b o L β hb hm h with h | h
      · exact ho h
      · omega

/-- One's own row is given up, and what was in it is told of another number. -/
theorem SR.move (hs : SR c m H F w) {b id : Nat} {o : AObj} (hb : hget H b = some o) (hf : b ∉ F) {L L' : Loc} (hm : m b = some L) (hid : m id = none) (hL : L'.blk = L.blk) {w' : World} (ha : Alike w w')
    (hsz : w'.heap.size = w.heap.size) (hold : ∀ β, β ≠ L.blk → w'.heap[β]? = w.heap[β]?) {o' : AObj} (hfo : Flat o' := by first | exact flat_cells _ | exact flat_arr _ _ | exact flat_tarr _ _ | exact flat_map _ | assumption) :
    Ext c m H F w (upd m id L') (hdel (hset H id o') b) F w' ∧
    (ObjR (okB c.X (upd m id L') (hdel (hset H id o') b) F) w'.heap (upd m id L') L' o' → SR c (upd m id L') (hdel (hset H id o') b) F w') :=
  hs.moveG hb hf hm hid ha hsz (fun β h => hold β fun e => h (.inl e.symm)) fun β h => .inl (hL.symm.trans (hfo.fp h))

omit [Syms] in
theorem dom_upd {id : Nat} {L : Loc} {m : Map} : ∀ b, upd m id L b ≠ none → m b ≠ none ∨ (id ≤ b ∧ b < id + STRIDE) := by
  intro b hb
  by_cases e : b = id
  · subst e; exact .inr ⟨Nat.le_refl _, by unfold STRIDE; omega⟩
  · rw [upd_ne m L e] at hb; exact .inl hb

end
end Go.Proofs.Ytmkmjjodiicmlaa.VS

/- append, copy, slices made, variables made: what each leaves, on both sides. Conditions: none. -/
namespace Go.Proofs.Ytmkmjjodiicmlaa.VS
variable [Syms]

section
variable {P : Program} {T : Tabs} {c : Ctx} {m : Map} {H : Heap} {F : List Nat} {w : World}

omit [Syms] in
theorem elemT_some (hT : TyOK P T) {t : TypeId} {q : TypeId × Nat × AV} (h : elemT T t = some q) :
    ∃ (i : TypeInfo) (z : Value), P.underlying t = some (.slice q.1) ∧ P.info? q.1 = some i ∧ i.size = q.2.1 ∧ i.zero = some z ∧ q.2.2 = ofV z ∧ fitsN q.2.1 q.2.2 = true ∧ 0 < q.2.1 := by
  unfold elemT at h
  split at h
  · rename_i e he
    split at h
    · rename_i s z hs hz
      cases hc : fitsN s z && Nat.blt 0 s with
      | false => simp [hc] at h
      | true =>
        simp only [hc, cond_true, Option.some.injEq] at h
        subst h
        simp only [Bool.and_eq_true] at hc
        obtain ⟨i, hi, his⟩ := szOf_some hT hs
        obtain ⟨i', zv, hi', hzv, hza⟩ := zeroOf_some hT hz
        rw [hi] at hi'; cases hi'
        exact ⟨i, zv, elemOf_some hT he, hi, his, hzv, hza, hc.1, blt_lt hc.2⟩
    · cases h
  · cases h

/-- The nought of an element: its cells. -/
theorem zero_cells {z : Value} {s : Nat} (hf : fitsN s (ofV z) = true) : z.cells.size = s ∧ (∀ (ok : Nat → Prop) (h : Array Obj) (m : Map), CR ok h m (ofV z).cells z.cells 0) ∧ (ofV z).cells.length = s := by
  obtain ⟨h1, h2⟩ := fitsN_some hf
  refine ⟨?_, fun ok h m => ?_, h2⟩
  · have := ((ofV_vr (ok := fun _ => True) (m := noMap) (w := (default : World)) z).stored h1).1
    omega
  · exact ((ofV_vr (ok := ok) (m := m) (w := { (default : World) with heap := h }) z).stored h1).2.1

omit [Syms] in
theorem getElem?_zeroCells (z : Array Value) (n j : Nat) (hj : j < n * z.size) : (Builtin.zeroCells z n)[j]? = z[j % z.size]? := by
  have hz : 0 < z.size := by
    rcases Nat.eq_zero_or_pos z.size with h | h
    · rw [h] at hj; omega
    · exact h
  have hm := Nat.mod_lt j hz
  simp [Builtin.zeroCells, hj]
  rw [getElem!_pos z _ hm]
  exact (getElem?_pos z _ hm).symm

omit [Syms] in
theorem flat_replicate (z : AV) (n : Nat) {s : Nat} (hs : z.cells.length = s) (j : Nat) (hj : j < n * s) : (flat (List.replicate n z))[j]? = z.cells[j % s]? := by
  have hpos : 0 < s := by
    rcases Nat.eq_zero_or_pos s with h | h
    · rw [h] at hj; omega
    · exact h
  have h1 : j / s < n := Nat.div_lt_of_lt_mul (by rwa [Nat.mul_comm] at hj)
  have := flat_getElem? (s := s) (xs := List.replicate n z) (i := j / s) (j := j % s) (x := z) (fun x hx => by rw [List.eq_of_mem_replicate hx]; exact hs) (by simp [h1]) (Nat.mod_lt _ hpos)
  rw [← this]
  congr 1
  rw [Nat.mul_comm]; exact (Nat.div_add_mod j s).symm

theorem zeros_cr {z : Value} {s : Nat} (hf : fitsN s (ofV z) = true) (n : Nat) (ok : Nat → Prop) (h : Array Obj) (m : Map) : CR ok h m (flat (List.replicate n (ofV z))) (Builtin.zeroCells z.cells n) 0 := by
  obtain ⟨h1, h2, h3⟩ := zero_cells hf
  intro j x hx
  have hlen : (flat (List.replicate n (ofV z))).length = n * s := by
    rw [flat_length (s := s) fun x hx => by rw [List.eq_of_mem_replicate hx]; exact h3]; simp
  have hj : j < n * s := by
    rcases Nat.lt_or_ge j (n * s) with hj | hj
    · exact hj
    · rw [List.getElem?_eq_none (by omega)] at hx; cases hx
  rw [flat_replicate _ n h3 j hj] at hx
  obtain ⟨v, hv, hr⟩ := h2 ok h m _ _ hx
  rw [Nat.zero_add] at hv
  exact ⟨v, by rw [Nat.zero_add, getElem?_zeroCells _ _ _ (by rw [h1]; exact hj), h1]; exact hv, hr⟩

omit [Syms] in
theorem run_stores {β o : Nat} {C : Array Value} {e : TypeId} {z : Nat × Nat} (hC : w.heap[β]? = some (.cells C e z)) {s : Nat} (hz : NoFz s C z) (vs : List Value) (hle : o + vs.length ≤ C.size) (h1 : ∀ x ∈ vs, x.oneCell' = true) :
    (storeCells ⟨β, o, none⟩ vs).run P w = .ok () (w.setCells β o vs) := by
  have := run_storeCells_cells (P := P) β o vs 0 w (fun j hj => by
      rw [cell_of hC, Nat.add_zero]
      simp [show o + j < C.size by omega]) (fun j hj => frozen_of hC hz (by omega)) h1
  rw [this, Nat.add_zero]

omit [Syms] in
theorem splice_flat {s : Nat} {xs ys : List AV} {k : Nat} (hxs : ∀ x ∈ xs, x.cells.length = s) (hys : ∀ y ∈ ys, y.cells.length = s) (_ : k + ys.length ≤ xs.length) :
    flat (xs.take k ++ ys ++ xs.drop (k + ys.length)) = setCells (flat xs) (k * s) (flat ys) := by
  rw [flat_append, flat_append, flat_take k hxs, flat_drop _ hxs]
  unfold setCells
  rw [flat_length hys, Nat.add_mul]

theorem zeroTail_cr {ok : Nat → Prop} {h : Array Obj} {cs : List AV} {A B : Array Value} (hr : CR ok h m cs A 0) : CR ok h m cs (A ++ B) 0 := by
  intro j x hx
  obtain ⟨v, hv, hr'⟩ := hr j x hx
  rw [Nat.zero_add] at hv
  have hj : j < A.size := by
    rcases Nat.lt_or_ge j A.size with hj | hj
    · exact hj
    · simp [Array.getElem?_eq_none hj] at hv
  exact ⟨v, by rw [Nat.zero_add, Array.getElem?_append, if_pos hj]; exact hv, hr'⟩

theorem app_cr {ok : Nat → Prop} {h : Array Obj} {cs ds : List AV} {A B : Array Value} (hA : A.size = cs.length) (hr : CR ok h m cs A 0) (hr' : CR ok h m ds B 0) : CR ok h m (cs ++ ds) (A ++ B) 0 := by
  intro j x hx
  by_cases hj : j < cs.length
  · rw [List.getElem?_append_left hj] at hx
    obtain ⟨v, hv, hr1⟩ := hr j x hx
    exact ⟨v, by rw [Nat.zero_add] at hv ⊢; rw [Array.getElem?_append, if_pos (by omega)]; exact hv, hr1⟩
  · rw [List.getElem?_append_right (by omega)] at hx
    obtain ⟨v, hv, hr1⟩ := hr' _ x hx
    exact ⟨v, by rw [Nat.zero_add] at hv ⊢; rw [Array.getElem?_append, if_neg (by omega), hA]; exact hv, hr1⟩

/-- The ground that an append stands on: types, and what is appended. -/
structure App (P : Program) (T : Tabs) (c : Ctx) (m : Map) (H : Heap) (F : List Nat) (w : World) (ts : Array TypeId) (ty : TypeId) (vx : Value) (s by_ : Nat) (ys : List AV) : Prop where
  sz : ∀ y ∈ ys, y.cells.length = s
  one : ∀ q ∈ flat ys, q.one = true
  pos : 0 < s
  nothing : ys = [] → ∀ (base : Option Addr) (n cp : Nat), n ≤ cp → (Builtin.append_ ts ty #[.slice base n cp, vx]).run P w = .ok (.slice base n cp) w
  new : ∃ new : Array Value, new.size = ys.length * s ∧ CR (okB c.X m H F) w.heap m (flat ys) new 0 ∧
    (∀ (a : Addr) (n cp : Nat) (w1 : World), ys ≠ [] → n + ys.length ≤ cp → room (n + ys.length) by_ = true → (storeCells (a.add (n * s)) new.toList).run P w = .ok () w1 → (Builtin.append_ ts ty #[.slice (some a) n cp, vx]).run P w = .ok (.slice (some a) (n + ys.length) cp) w1) ∧
    (∀ (base : Option Addr) (n cp : Nat) (old : Array Value), ys ≠ [] → cp < n + ys.length → room (n + ys.length) by_ = true → old.size = n * s →
      (∀ w' : World, w'.heap = w.heap → (Builtin.firstCells s n (.slice base n cp)).run P w' = .ok old w') →
      ∃ (C : Array Value) (e : TypeId) (cap : Nat), (Builtin.append_ ts ty #[.slice base n cp, vx]).run P w = .ok (.slice (some ⟨w.heap.size, 0, none⟩) (n + ys.length) cap) (w.drew.alloc (.cells (old ++ new ++ C) e)) ∧
        n + ys.length ≤ cap ∧ (old ++ new ++ C).size = cap * s)

theorem App.ones_new {ts : Array TypeId} {ty : TypeId} {vx : Value} {s by_ : Nat} {ys : List AV} (A : App P T c m H F w ts ty vx s by_ ys) {new : Array Value} (h1 : new.size = ys.length * s)
    (h2 : CR (okB c.X m H F) w.heap m (flat ys) new 0) : ∀ v ∈ new, v.oneCell' = true :=
  h2.ones (by rw [h1, flat_length A.sz]) A.one

omit [Syms] in
theorem room_le {n b : Nat} (h : room n b = true) : n * (b + 1) ≤ 1099511627776 := ble_le h

omit [Syms] in
theorem room_facts {n b cp : Nat} (h : room n b = true) (hg : cp < n) : (n : Int) ≤ 9223372036854775807 ∧ Builtin.nextslicecap n cp * b ≤ 281474976710656 ∧ n * b ≤ 281474976710656 := by
  have h1 := room_le h
  have h2 : n * b ≤ 1099511627776 := Nat.le_trans (Nat.mul_le_mul_left n (Nat.le_succ b)) h1
  have h3 : n ≤ 1099511627776 := Nat.le_trans (Nat.le_mul_of_pos_right n (Nat.succ_pos b)) h1
  refine ⟨by omega, ?_, by omega⟩
  exact growslice_fits hg (by omega)

theorem app_of (hT : TyOK P T) (hs : SR c m H F w) {st xt : TypeId} {ts : Array TypeId} {ty : TypeId} (h0 : ts[0]? = some st) (h1 : ts[1]? = some xt) {q : TypeId × Nat × AV} (hq : elemT T st = some q) {by_ : Nat} (hby : bytesOf T q.1 = some by_)
    {x : AV} {ys : List AV} (hap : appended T H q.2.2 xt x = some ys) (hf : ys.all (fitsN q.2.1) = true) {vx : Value} (hx : VR (okB c.X m H F) w.heap m x vx) : App P T c m H F w ts ty vx q.2.1 by_ ys := by
  obtain ⟨i, z, hu, hi, hsz, hz, hza, hzf, hpos⟩ := elemT_some hT hq
  obtain ⟨i', hi', hbb⟩ := bytesOf_some hT hby
  rw [hi] at hi'; cases hi'
  obtain ⟨o1, o2⟩ := ones_of (s := q.2.1) (fun y hy => List.all_eq_true.1 hf y hy)
  have plain : plainSrc P xt → elems H x = some ys → App P T c m H F w ts ty vx q.2.1 by_ ys := by
    intro hp he
    obtain ⟨new, n1, n2, n3, n4⟩ := sim_elems (P := P) hs he hx o1
    refine ⟨o1, o2, hpos, fun hy base n cp hn => ?_, new, n1, n2, fun a n cp w1 hy hn hr hst => ?_, fun base n cp old hy hn hr ho hold => ?_⟩
    · subst hy
      have hn0 : new = #[] := Array.size_eq_zero_iff.1 (by simpa using n1)
      have := n4 w rfl
      rw [hn0] at this
      exact run_append_nothing h0 h1 hu hp hi n3 (by rw [hsz]; exact this) hn
    · exact run_append_room' h0 h1 hu hp hi n3 (by rw [hsz]; exact n4 w rfl) (by rw [hsz]; exact hst) hn
    · obtain ⟨r1, r2, r3⟩ := room_facts hr hn
      have := run_append_grow' (P := P) (w := w) (ty := ty) h0 h1 hu hp hi hz n3 (by rw [hsz]; exact hold) (by rw [hsz]; exact n4) hn r1 (by rw [hbb]; exact r2)
      refine ⟨_, _, _, this, grownCap_ge w _ _ _, ?_⟩
      rw [Array.size_append, Array.size_append, size_zeroCells, (zero_cells (by rw [← hza]; exact hzf)).1, ho, n1, ← Nat.add_mul, ← Nat.add_mul]
      congr 1
      have := grownCap_ge w (n + ys.length) cp q.1
      omega
  unfold appended at hap
  split at hap
  · rename_i k hk
    have hxt := kind_int hT hk
    split at hap
    · rename_i kx n
      cases hc : n.ble 1099511627776 with
      | false => simp [hc] at hap
      | true =>
        simp only [hc, cond_true, Option.some.injEq] at hap
        subst hap
        have hnle := ble_le hc
        cases hx
        have hzf' : fitsN q.2.1 (ofV z) = true := by rw [← hza]; exact hzf
        obtain ⟨z1, z2, z3⟩ := zero_cells hzf'
        refine ⟨o1, o2, hpos, fun hy base n' cp hn => ?_, Builtin.zeroCells z.cells n, by rw [size_zeroCells, z1]; simp, by rw [hza]; exact zeros_cr hzf' n _ _ _, fun a n' cp w1 hy hn hr hst => ?_, fun base n' cp old hy hn hr ho hold => ?_⟩
        · have : n = 0 := by simpa using hy
          subst this
          exact run_append_make_nothing h0 h1 hu hxt hi hz hn
        · have hn0 : 0 < n := by
            rcases Nat.eq_zero_or_pos n with h | h
            · subst h; exact absurd rfl hy
            · exact h
          simp only [List.length_replicate] at hn hr ⊢
          have hnb : n * i.bytes ≤ 281474976710656 := by
            rw [hbb]
            have h1 := room_le hr
            have h2 : n * by_ ≤ (n' + n) * (by_ + 1) := Nat.mul_le_mul (by omega) (by omega)
            omega
          exact run_append_make_room h0 h1 hu hxt hi hz (by rw [hsz]; exact hst) hn (by omega) hnb (by omega) hn0
        · have hn0 : 0 < n := by
            rcases Nat.eq_zero_or_pos n with h | h
            · subst h; exact absurd rfl hy
            · exact h
          simp only [List.length_replicate] at hn hr ⊢
          obtain ⟨r1, r2, r3⟩ := room_facts hr hn
          have hnb : n * i.bytes ≤ 281474976710656 := by
            rw [hbb]
            exact Nat.le_trans (Nat.mul_le_mul_right by_ (Nat.le_add_left n n')) r3
          have := run_append_make_grow (P := P) (w := w) (ty := ty) (kx := ‹IntKind›) h0 h1 hu hxt hi hz (by rw [hsz]; exact hold) hn r1 hnb (by rw [hbb]; exact r2) (by omega) hn0
          refine ⟨_, _, _, this, grownCap_ge w _ _ _, ?_⟩
          rw [Array.size_append, Array.size_append, size_zeroCells, size_zeroCells, z1, ho, ← Nat.add_mul, ← Nat.add_mul]
          congr 1
          have := grownCap_ge w (n' + n) cp q.1
          omega
    · cases hap
  · rename_i hk
    exact plain (.inl (kind_str hT hk)) hap
  · rename_i e hk
    exact plain (.inr ⟨_, kind_slice hT hk⟩) hap
  · cases hap

omit [Syms] in
theorem isEmpty_of {ys : List AV} : ys = [] ∨ ∃ y r, ys = y :: r := by cases ys <;> simp

/-- Nothing appended to nothing. -/
theorem sim_append_none (hT : TyOK P T) (hs : SR c m H F w) {id : Nat} {ts : Array TypeId} {ty : TypeId} {s : AV} {g : GT} {v : AV} {rd fz : List Nat} (hs0 : s = .nils ∨ s = .emp)
    (h : aappend T H F id ts.toList s (.tl g []) = .ok v [] rd fz) {vs vx : Value} (hvs : VR (okB c.X m H F) w.heap m s vs) (hvx : VR (okB c.X m H F) w.heap m (.tl g []) vx) :
    (Builtin.append_ ts ty #[vs, vx]).run P w = .ok vs w ∧ fz = [] ∧ ∃ a, vs = .slice a 0 0 := by
  unfold aappend at h
  split at h
  · rename_i st xt rest hts
    have h0 : ts[0]? = some st := by rw [← Array.getElem?_toList, hts]; rfl
    have h1 : ts[1]? = some xt := by rw [← Array.getElem?_toList, hts]; rfl
    split at h
    · rename_i q hq
      split at h
      · rename_i by_ ys hby hap
        have hys : ys = [] := by
          unfold appended at hap
          split at hap
          · cases hap
          · simpa [elems, encs] using hap.symm
          · simpa [elems, encs] using hap.symm
          · cases hap
        subst hys
        have A := app_of (ty := ty) hT hs h0 h1 hq hby hap (by rfl) hvx
        simp only [List.all_nil, cond_true] at h
        rcases hs0 with rfl | rfl
        · simp only [appendV, Res.ok.injEq] at h
          cases hvs; exact ⟨A.nothing rfl _ 0 0 (Nat.le_refl _), h.2.2.2.symm, _, rfl⟩
        · simp only [appendV, Res.ok.injEq] at h
          cases hvs; exact ⟨A.nothing rfl _ 0 0 (Nat.le_refl _), h.2.2.2.symm, _, rfl⟩
      · cases h
    · cases h
  · cases h

/-- append. -/
theorem sim_append (hT : TyOK P T) (hs : SR c m H F w) {id : Nat} (hid : m id = none) {ts : Array TypeId} {ty : TypeId} {s x : AV} {v : AV} {e : Eff} {rd fz : List Nat}
    (h : aappend T H F id ts.toList s x = .ok v e rd fz) {vs vx : Value} (hvs : VR (okB c.X m H F) w.heap m s vs) (hvx : VR (okB c.X m H F) w.heap m x vx) :
    ∃ cv m' w', (Builtin.append_ ts ty #[vs, vx]).run P w = .ok cv w' ∧ Done c m H F w id v e fz cv m' w' := by
  unfold aappend at h
  split at h
  · rename_i st xt rest hts
    have h0 : ts[0]? = some st := by rw [← Array.getElem?_toList, hts]; rfl
    have h1 : ts[1]? = some xt := by rw [← Array.getElem?_toList, hts]; rfl
    split at h
    · rename_i q hq
      split at h
      · rename_i by_ ys hby hap
        cases hf : ys.all (fitsN q.2.1) with
        | false => simp [hf] at h
        | true =>
          simp only [hf, cond_true] at h
          have A := app_of (ty := ty) hT hs h0 h1 hq hby hap hf hvx
          obtain ⟨new, n1, n2, n3, n4⟩ := A.new
          have hn1 := A.ones_new n1 n2
          -- a new row behind nothing
          have fresh : ∀ {base : Option Addr} {rd0 : List Nat} {v : AV} {e : Eff} {rd fz : List Nat}, vs = .slice base 0 0 → ys ≠ [] → room ys.length by_ = true → newArr id q.2.1 ys ys.length [] rd0 = .ok v e rd fz →
              ∃ cv m' w', (Builtin.append_ ts ty #[vs, vx]).run P w = .ok cv w' ∧ Done c m H F w id v e fz cv m' w' := by
            intro base rd0 v e rd fz hb hne hroom hres
            subst hb
            obtain ⟨C, et, cap, k1, k2, k3⟩ := n4 base 0 0 #[] hne (by rw [Nat.zero_add]; exact List.length_pos_iff.2 hne) (by rw [Nat.zero_add]; exact hroom) (by simp) (fun w' _ => by cases base <;> simp [Builtin.firstCells, loadCells, loadCellsFrom])
            simp only [newArr, Res.ok.injEq] at hres
            obtain ⟨rfl, rfl, rfl, rfl⟩ := hres
            obtain ⟨f1, f2, f3, f4⟩ := alloc_facts w.drew (.cells (#[] ++ new ++ C) et)
            simp only [Array.empty_append] at k1 k3 f1 f2 f3 f4
            obtain ⟨hx, hsr⟩ := hs.newArr hid (w' := w.drew.alloc (.cells (new ++ C) et)) ⟨f4.os, f4.tape, f4.output⟩ f1 f2 f3 (NoFz_zero _) A.pos A.sz (by rw [k3]; exact Nat.mul_le_mul_right _ (by omega)) (zeroTail_cr n2)
            refine ⟨_, _, _, k1, hx, hsr, ?_, dom_upd⟩
            rw [Nat.zero_add]
            refine .osl (upd_same _ _ _) (by simp) A.pos rfl rfl (by simp) (by simp; omega) ?_
            show 0 + (0 + cap) * q.2.1 ≤ (new ++ C).size
            rw [k3, Nat.zero_add, Nat.zero_add]; exact Nat.le_refl _
          have same : ∀ {base : Option Addr} {n cp : Nat}, vs = .slice base n cp → n ≤ cp → ys = [] → Res.ok s [] (idOf s ++ idOf x) [] = .ok v e rd fz →
              ∃ cv m' w', (Builtin.append_ ts ty #[vs, vx]).run P w = .ok cv w' ∧ Done c m H F w id v e fz cv m' w' := by
            intro base n cp hb hle hy hres
            simp only [Res.ok.injEq] at hres
            obtain ⟨rfl, rfl, rfl, rfl⟩ := hres
            have := A.nothing hy base n cp hle
            rw [hb] at hvs ⊢
            exact ⟨_, m, w, this, Done.quiet hs hvs⟩
          have into : ∀ {s0 b lo len m0 : Nat} {xs : List AV} {o0 : AObj} {rd0 : List Nat} {v : AV} {e : Eff} {rd fz : List Nat}, hget H b = some o0 → b ∉ F → (∀ L, m b = some L → ArrR (okB c.X m H F) w.heap m L m0 xs) → VR (okB c.X m H F) w.heap m (.osl s0 b lo len) vs → ys ≠ [] →
              m0 = q.2.1 → s0 = q.2.1 → lo + len ≤ xs.length → room (len + ys.length) by_ = true →
              (bif (lo + len + ys.length).ble xs.length then
                .ok (.osl s0 b lo (len + ys.length)) [(b, some (.arr m0 (xs.take (lo + len) ++ ys ++ xs.drop (lo + len + ys.length))))] rd0 []
              else newArr id q.2.1 ((xs.drop lo).take len ++ ys) (len + ys.length) [(b, none)] rd0 : Res) = .ok v e rd fz →
              ∃ cv m' w', (Builtin.append_ ts ty #[vs, vx]).run P w = .ok cv w' ∧ Done c m H F w id v e fz cv m' w' := by
                intro s0 b lo len m0 xs o0 rd0 v e rd fz hb hbF hobj hvs hne c1 c2 c3 c4 h
                obtain ⟨L, j1, k2, k3, k4⟩ := hvs.osl_inv
                obtain ⟨js, jp, je, jl, C, et, z, j2, j3, j4, j5, j6⟩ := hobj L j1
                subst c1
                have hss : s0 = q.2.1 := c2
                subst hss
                have hlen := flat_length jl
                have hylen := flat_length A.sz
                have hmul : (lo + len) * q.2.1 ≤ xs.length * q.2.1 := Nat.mul_le_mul_right _ c3
                cases hroom : (lo + len + ys.length).ble xs.length with
                | true =>
                  simp only [hroom, cond_true, Res.ok.injEq] at h
                  obtain ⟨rfl, rfl, rfl, rfl⟩ := h
                  have c5 := ble_le hroom
                  have hyp : 0 < ys.length := List.length_pos_iff.2 hne
                  rcases k4 with ⟨k5, k6, _⟩ | ⟨cp, rfl, k5, k6, k7⟩
                  · omega
                  · have hsub : (lo + len + ys.length) * q.2.1 ≤ xs.length * q.2.1 := Nat.mul_le_mul_right _ c5
                    have e1 : (lo + len + ys.length) * q.2.1 = lo * q.2.1 + len * q.2.1 + ys.length * q.2.1 := by rw [Nat.add_mul, Nat.add_mul]
                    have e2 : (lo + len) * q.2.1 = lo * q.2.1 + len * q.2.1 := Nat.add_mul _ _ _
                    have hst := run_stores (P := P) j2 j4 (o := L.off + lo * q.2.1 + len * q.2.1) new.toList (by rw [Array.length_toList]; omega) (fun u hu => hn1 u (by simpa using hu))
                    have hrun := n3 ⟨L.blk, L.off + lo * q.2.1, none⟩ len cp _ hne (by omega) c4 (by rw [add_none]; exact hst)
                    obtain ⟨al, asz⟩ := setCells_alike new.toList w L.blk (L.off + lo * q.2.1 + len * q.2.1)
                    obtain ⟨hx, hsr⟩ := hs.write hb hbF j1 al asz (o' := .arr q.2.1 (xs.take (lo + len) ++ ys ++ xs.drop (lo + len + ys.length))) (fun γ hγ => heap_setCells_ne _ _ _ _ _ hγ)
                    have hnl : (xs.take (lo + len) ++ ys ++ xs.drop (lo + len + ys.length)).length = xs.length := by simp; omega
                    refine ⟨_, m, _, hrun, hx, hsr ⟨js, jp, by rw [hnl]; exact je, fun u hu => ?_, _, _, _, heap_setCells _ j2 _, by rw [size_setArr]; exact j3, by rw [NoFz, size_setArr]; exact j4, by rw [size_setArr, hnl]; exact j5, ?_⟩, ?_, fun _ h => .inl h⟩
                    · rcases List.mem_append.1 hu with hu | hu
                      · rcases List.mem_append.1 hu with hu | hu
                        · exact jl u (List.mem_of_mem_take hu)
                        · exact A.sz u hu
                      · exact jl u (List.mem_of_mem_drop hu)
                    · rw [splice_flat jl A.sz c5]
                      have h9 := CR.set (o := L.off) (off := (lo + len) * q.2.1) (j6.mono hx.kk hx.mm) (n2.mono hx.kk hx.mm) (by omega) (by omega) (by omega)
                      rw [e2, ← Nat.add_assoc] at h9
                      rw [e2]
                      exact h9
                    · exact .osl j1 (by omega) jp js rfl rfl k6 k7
                | false =>
                  simp only [hroom, cond_false, newArr, Res.ok.injEq] at h
                  obtain ⟨rfl, rfl, rfl, rfl⟩ := h
                  have c5 : ¬ (lo + len + ys.length ≤ xs.length) := fun hh => by rw [Nat.ble_eq_true_of_le hh] at hroom; cases hroom
                  have hxs' : ∀ u ∈ (xs.drop lo).take len ++ ys, u.cells.length = q.2.1 := by
                    intro u hu
                    rcases List.mem_append.1 hu with hu | hu
                    · exact jl u (List.mem_of_mem_drop (List.mem_of_mem_take hu))
                    · exact A.sz u hu
                  have hl' : ((xs.drop lo).take len ++ ys).length = len + ys.length := by simp; omega
                  have hfl : flat ((xs.drop lo).take len ++ ys) = ((flat xs).drop (lo * q.2.1)).take (len * q.2.1) ++ flat ys := by
                    rw [flat_append, flat_take len (fun u hu => jl u (List.mem_of_mem_drop hu)), flat_drop lo jl]
                  -- what is appended to a row that is full
                  have e2 : (lo + len) * q.2.1 = lo * q.2.1 + len * q.2.1 := Nat.add_mul _ _ _
                  have grow : ∀ {base : Option Addr} {cp : Nat} {old : Array Value}, vs = .slice base len cp → cp < len + ys.length → old.size = len * q.2.1 →
                      CR (okB c.X m H F) w.heap m (((flat xs).drop (lo * q.2.1)).take (len * q.2.1)) old 0 → (∀ w' : World, w'.heap = w.heap → (Builtin.firstCells q.2.1 len (.slice base len cp)).run P w' = .ok old w') →
                      ∃ cv m' w', (Builtin.append_ ts ty #[vs, vx]).run P w = .ok cv w' ∧ Done c m H F w id (.osl q.2.1 id 0 (len + ys.length)) [(id, some (.arr q.2.1 ((xs.drop lo).take len ++ ys))), (b, none)] [] cv m' w' := by
                    intro base cp old hv hlt hosz hor hold
                    subst hv
                    obtain ⟨D, et', cap, q1, q2, q3⟩ := n4 base len cp old hne hlt c4 hosz hold
                    obtain ⟨f1, f2, f3, f4⟩ := alloc_facts w.drew (.cells (old ++ new ++ D) et')
                    have hcr : CR (okB c.X m H F) w.heap m (flat ((xs.drop lo).take len ++ ys)) (old ++ new ++ D) 0 := by
                      rw [hfl]
                      refine zeroTail_cr (app_cr ?_ hor n2)
                      rw [hosz, List.length_take, List.length_drop]
                      omega
                    obtain ⟨hx, hsr⟩ := hs.newArr hid (w' := w.drew.alloc (.cells (old ++ new ++ D) et')) ⟨f4.os, f4.tape, f4.output⟩ f1 f2 f3 (NoFz_zero _) A.pos hxs' (by rw [q3, hl']; exact Nat.mul_le_mul_right _ q2) hcr
                    obtain ⟨hx2, hsr2⟩ := hsr.del b
                    refine ⟨_, _, _, q1, hx.trans hx2, hsr2, ?_, dom_upd⟩
                    refine .osl (upd_same _ _ _) (by rw [Nat.zero_add]; exact Nat.le_of_eq hl'.symm) A.pos rfl rfl (by simp) (by rw [Nat.zero_add]; exact Nat.le_trans (Nat.le_of_eq hl') q2) ?_
                    show 0 + (0 + cap) * q.2.1 ≤ (old ++ new ++ D).size
                    rw [q3, Nat.zero_add, Nat.zero_add]; exact Nat.le_refl _
                  rcases k4 with ⟨rfl, k6, a, hv⟩ | ⟨cp, hv, k5, k6, k7⟩
                  · refine grow (old := #[]) hv (by simp; exact List.length_pos_iff.2 hne) (by simp) (fun j u hu => by simp at hu) (fun w' _ => by simp [Builtin.firstCells, loadCells, loadCellsFrom])
                  · by_cases hcp : len + ys.length ≤ cp
                    · -- in place, behind what was told
                      subst hv
                      have hsub : (lo + (len + ys.length)) * q.2.1 ≤ (lo + cp) * q.2.1 := Nat.mul_le_mul_right _ (by omega)
                      have e1 : (lo + (len + ys.length)) * q.2.1 = lo * q.2.1 + len * q.2.1 + ys.length * q.2.1 := by rw [Nat.add_mul, Nat.add_mul]; omega
                      have e2 : (lo + len) * q.2.1 = lo * q.2.1 + len * q.2.1 := Nat.add_mul _ _ _
                      have hst := run_stores (P := P) j2 j4 (o := L.off + lo * q.2.1 + len * q.2.1) new.toList (by rw [Array.length_toList]; omega) (fun u hu => hn1 u (by simpa using hu))
                      have hrun := n3 ⟨L.blk, L.off + lo * q.2.1, none⟩ len cp _ hne hcp c4 (by rw [add_none]; exact hst)
                      obtain ⟨al, asz⟩ := setCells_alike new.toList w L.blk (L.off + lo * q.2.1 + len * q.2.1)
                      obtain ⟨hx, hsr⟩ := hs.move hb hbF j1 hid (L' := ⟨L.blk, L.off + lo * q.2.1, q.2.1, len + ys.length, L.csz, fun _ => none⟩) rfl al asz (o' := .arr q.2.1 ((xs.drop lo).take len ++ ys)) (fun γ hγ => heap_setCells_ne _ _ _ _ _ hγ)
                      refine ⟨_, _, _, hrun, hx, hsr ⟨rfl, jp, hl'.symm, hxs', _, _, _, heap_setCells _ j2 _, by rw [size_setArr]; exact j3, by rw [NoFz, size_setArr]; exact j4, ?_, ?_⟩, ?_, dom_upd⟩
                      · rw [size_setArr, hl', Nat.add_mul]
                        show L.off + lo * q.2.1 + _ ≤ _
                        omega
                      · rw [hfl]
                        intro j u hu
                        show ∃ v, (setArr C (L.off + lo * q.2.1 + len * q.2.1) new.toList)[L.off + lo * q.2.1 + j]? = some v ∧ _
                        have hl1 : (((flat xs).drop (lo * q.2.1)).take (len * q.2.1)).length = len * q.2.1 := by rw [List.length_take, List.length_drop]; omega
                        by_cases hj : j < len * q.2.1
                        · rw [List.getElem?_append_left (by omega)] at hu
                          obtain ⟨v, hv, hr⟩ := ((j6.drop (lo * q.2.1)).take (len * q.2.1)) j u hu
                          refine ⟨v, ?_, hr.mono hx.kk hx.mm⟩
                          rw [getElem?_setArr _ _ _ _ (by rw [Array.length_toList]; omega), if_neg (by omega)]
                          exact hv
                        · rw [List.getElem?_append_right (by omega), hl1] at hu
                          obtain ⟨v, hv, hr⟩ := n2 _ u hu
                          rw [Nat.zero_add] at hv
                          have hjs : j - len * q.2.1 < new.size := by
                            rcases Nat.lt_or_ge (j - len * q.2.1) new.size with hh | hh
                            · exact hh
                            · simp [Array.getElem?_eq_none hh] at hv
                          refine ⟨v, ?_, hr.mono hx.kk hx.mm⟩
                          rw [getElem?_setArr _ _ _ _ (by rw [Array.length_toList]; omega), if_pos (by rw [Array.length_toList]; omega), show L.off + lo * q.2.1 + j - (L.off + lo * q.2.1 + len * q.2.1) = j - len * q.2.1 by omega]
                          simpa using hv
                      · refine .osl (upd_same _ _ _) (by simp) jp rfl rfl (by simp) (by simp; omega) ?_
                        show L.off + lo * q.2.1 + (0 + cp) * q.2.1 ≤ L.csz
                        have : (lo + cp) * q.2.1 = lo * q.2.1 + cp * q.2.1 := Nat.add_mul _ _ _
                        rw [Nat.zero_add]; omega
                    · obtain ⟨g, g1, g2⟩ := ((j6.drop (lo * q.2.1)).take (len * q.2.1)).fun
                      have hl1 : (((flat xs).drop (lo * q.2.1)).take (len * q.2.1)).length = len * q.2.1 := by rw [List.length_take, List.length_drop]; omega
                      refine grow (old := ((List.range (len * q.2.1)).map g).toArray) hv (by omega) (by simp) (fun j u hu => ?_) (fun w' hw' => ?_)
                      · have hj : j < len * q.2.1 := by
                          rcases Nat.lt_or_ge j (len * q.2.1) with hj | hj
                          · exact hj
                          · rw [List.getElem?_eq_none (by omega)] at hu; cases hu
                        exact ⟨g j, by simp [hj], g2 j u hu⟩
                      · simp only [Builtin.firstCells]
                        exact run_loadCells_row w' (by rw [hw']; exact j2) fun j hj => g1 j (by omega)
          unfold appendV at h
          split at h
          · cases hvs; exact same rfl (Nat.le_refl _) rfl h
          · cases hvs; exact same rfl (Nat.le_refl _) rfl h
          · obtain ⟨a, cp, hv, hle⟩ := hvs.sl_any; exact same hv hle rfl h
          · obtain ⟨a, cp, hv, hle⟩ := hvs.osl_any; exact same hv hle rfl h
          · rename_i y r
            cases hr : room (y :: r).length by_ with
            | false => rw [hr] at h; cases h
            | true =>
              rw [hr] at h
              cases hvs; exact fresh rfl (by simp) hr h
          · rename_i y r
            cases hr : room (y :: r).length by_ with
            | false => rw [hr] at h; cases h
            | true =>
              rw [hr] at h
              cases hvs; exact fresh rfl (by simp) hr h
          · rename_i y r s0 b lo len
            have hne : (y :: r) ≠ [] := by simp
            generalize hys : (y :: r : List AV) = ys at *
            unfold appendTo at h
            split at h
            · rename_i m0 xs hb
              obtain ⟨hb, hbF⟩ := hlive_some hb
              cases hc : m0.beq q.2.1 && s0.beq q.2.1 && (lo + len).ble xs.length && room (len + ys.length) by_ with
              | false => simp [hc] at h
              | true =>
                simp only [hc, cond_true] at h
                simp only [Bool.and_eq_true] at hc
                obtain ⟨⟨⟨c1, c2⟩, c3⟩, c4⟩ := hc
                exact into hb hbF (fun L hL => hs.objm hb hL) hvs hne (beq_eq' c1) (beq_eq' c2) (ble_le c3) c4 h
            · cases h
          · rename_i ys0 s0 g b len
            unfold appendGs at h
            split at h
            · rename_i g' l hb
              obtain ⟨hb, hbF⟩ := hlive_some hb
              cases hc : len.beq l.length && g.size.beq q.2.1 && g'.size.beq q.2.1 && room (len + ys.length) by_ && !(b.beq id) with
              | false => simp [hc] at h
              | true =>
                simp only [hc, cond_true] at h
                simp only [Bool.and_eq_true] at hc
                obtain ⟨⟨⟨⟨c1, c2⟩, c3⟩, c4⟩, c5⟩ := hc
                have c1 := beq_eq' c1
                have c2 := beq_eq' c2
                have c3 := beq_eq' c3
                have hbid : id ≠ b := fun hh => by rw [hh, beq_same] at c5; cases c5
                have nilEff : ∀ {o : AObj}, happ H [(id, some o), (b, none)] = hdel (hset H id o) b := fun {o} => rfl
                have later : ∀ {v0 : AV} {o : AObj} {cv : Value} {m' : Map} {w' : World}, Done c m H F w id v0 [(id, some o)] [] cv m' w' → (∀ ok h, VR ok h m' v0 cv → VR ok h m' v cv) → e = [(id, some o), (b, none)] → fz = [] →
                    Done c m H F w id v e fz cv m' w' := by
                  intro v0 o cv m' w' hd hv he hf
                  subst he; subst hf
                  obtain ⟨x1, x2⟩ := hd.sr.del b
                  exact ⟨hd.ext.trans x1, x2, hv _ _ (x1.vr hd.vr), hd.dom⟩
                cases ys with
                | nil =>
                  simp only [Res.ok.injEq] at h
                  obtain ⟨rfl, rfl, rfl, rfl⟩ := h
                  obtain ⟨ba, cp, hvv⟩ := hvs.gs_any
                  have hcl : len ≤ cp := by
                    cases hvs with
                    | gsE => cases hvv; exact Nat.le_refl _
                    | gs hv' =>
                      cases hvv
                      obtain ⟨a', c', hv2, hle⟩ := hv'.osl_any
                      cases hv2; exact hle
                  have hrun := A.nothing rfl ba len cp hcl
                  subst hvv
                  cases hvs with
                  | gsE =>
                    obtain rfl : l = [] := List.length_eq_zero_iff.1 c1.symm
                    obtain ⟨x1, x2⟩ := hs.void hid g'
                    exact ⟨_, m, w, hrun, later ⟨x1, x2, .gsE, fun _ hh => .inl hh⟩ (fun _ _ hh => hh) rfl rfl⟩
                  | gs hv' =>
                    obtain ⟨L, j1, k2, k3, k4⟩ := hv'.osl_inv
                    have hr := hs.rename hb hbF j1 hid
                    have hsw : ∀ x, hget (hdel (hset H id (.tarr g' l)) b) x = hget (hset (hdel H b) id (.tarr g' l)) x := fun x => by
                      simp only [hget_hdel, hget_hset]
                      by_cases e1 : b = x
                      · subst e1
                        rw [if_pos rfl, if_neg hbid, if_pos rfl]
                      · simp only [if_neg e1]
                    obtain ⟨x1, x2⟩ := hr
                    have hokB : okB c.X (upd m id L) (hdel (hset H id (.tarr g' l)) b) F = okB c.X (upd m id L) (hset (hdel H b) id (.tarr g' l)) F := by
                      funext β; unfold okB; simp only [hsw]
                    refine ⟨_, upd m id L, w, hrun, ⟨⟨x1.mm, fun β C et z ho hh => ?_⟩, ⟨x2.xlt, fun b1 o1 h1 => ?_, fun b1 o1 b2 o2 L1 L2 β h1 h2 => ?_, fun b1 o1 L1 β h1 => ?_, fun b1 o1 L1 β h1 => ?_, x2.keep⟩, ?_, dom_upd⟩⟩
                    · show okB c.X (upd m id L) (hdel (hset H id (.tarr g' l)) b) F β ∧ _
                      rw [hokB]; exact x1.kk β C et z ho hh
                    · show _ ∨ _
                      rw [show okB c.X (upd m id L) (happ H [(id, some (.tarr g' l)), (b, none)]) ([] ++ F) = okB c.X (upd m id L) (hset (hdel H b) id (.tarr g' l)) F from hokB]
                      exact x2.all b1 o1 (by rw [← hsw]; exact h1)
                    · exact x2.injf b1 o1 b2 o2 L1 L2 β (by rw [← hsw]; exact h1) (by rw [← hsw]; exact h2)
                    · exact x2.noxf b1 o1 L1 β (by rw [← hsw]; exact h1)
                    · exact x2.ownf b1 o1 L1 β (by rw [← hsw]; exact h1)
                    · refine .gs ?_
                      cases hv' with
                      | oslE h1 h2 h3 h4 => rw [j1] at h1; cases h1; exact .oslE (upd_same _ _ _) h2 h3 h4
                      | osl h1 h2 h3 h4 h5 h6 h7 h8 => rw [j1] at h1; cases h1; exact .osl (upd_same _ _ _) h2 h3 h4 h5 h6 h7 h8
                | cons y r =>
                  have hne : (y :: r) ≠ [] := by simp
                  simp only [Res.ok.injEq] at h
                  obtain ⟨rfl, rfl, rfl, rfl⟩ := h
                  cases hvs with
                  | gsE =>
                    obtain rfl : l = [] := List.length_eq_zero_iff.1 c1.symm
                    obtain ⟨cv, m', w', h5, h6⟩ := fresh (rd0 := []) rfl hne (by rw [Nat.zero_add] at c4; exact c4) rfl
                    obtain ⟨z1, z2, z3⟩ : ∃ a n c, cv = .slice a n c := by
                      obtain ⟨a', c', hv2, _⟩ := h6.vr.osl_any
                      exact ⟨_, _, _, hv2⟩
                    refine ⟨cv, m', w', h5, later h6 (fun ok hh hv => ?_) (by rw [show encs g' [] = [] from rfl, List.nil_append]) rfl⟩
                    obtain ⟨a', c', hv2, _⟩ := hv.osl_any
                    subst hv2
                    rw [Nat.zero_add]
                    exact .gs (by rw [c2]; exact hv)
                  | gs hv' =>
                    obtain ⟨cv, m', w', h5, h6⟩ := into (s0 := g.size) (m0 := g'.size) (xs := encs g' l) (lo := 0) (len := len) (rd0 := []) hb hbF (fun L hL => hs.objm hb hL) hv' hne c3 c2 (by rw [encs_length]; omega) c4 (by
                      rw [show (0 + len + (y :: r).length).ble (encs g' l).length = false from by
                        rw [encs_length, ← c1]
                        cases hq2 : (0 + len + (y :: r).length).ble len with
                        | false => rfl
                        | true => have := ble_le hq2; simp at this; omega, cond_false]
                      rfl)
                    have e1 : ((encs g' l).drop 0).take len = encs g' l := by rw [List.drop_zero, c1, ← encs_length g' l, List.take_length]
                    rw [e1] at h6
                    refine ⟨cv, m', w', h5, h6.ext, h6.sr, ?_, h6.dom⟩
                    have hv := h6.vr
                    obtain ⟨a', c', hv2, _⟩ := hv.osl_any
                    subst hv2
                    exact .gs (by rw [c2]; exact hv)
            · cases h
          · cases h
      · cases h
    · cases h
  · cases h

end
end Go.Proofs.Ytmkmjjodiicmlaa.VS

/- copy, slices and variables made, texts and bytes, maps: what each leaves, on both sides. Conditions: none. -/
namespace Go.Proofs.Ytmkmjjodiicmlaa.VS
variable [Syms]

section
variable {P : Program} {T : Tabs} {c : Ctx} {m : Map} {H : Heap} {F : List Nat} {w : World}

omit [Syms] in
theorem List.take_take_len {α : Type} (l : List α) (k : Nat) (h : k ≤ l.length) : (l.take k).length = k := by rw [List.length_take]; omega

omit [Syms] in
theorem run_copy' {ts : Array TypeId} {ty dt e : TypeId} {i : TypeInfo} (h0 : ts[0]? = some dt) (hu : P.underlying dt = some (.slice e)) (hi : P.info? e = some i) {a : Option Addr} {dLen dCap n : Nat} {x : Value} {cells : Array Value} {w1 : World}
    (hlen : Builtin.lenOf x = pure n) (hcells : (Builtin.firstCells i.size (Nat.min n dLen) x).run P w = .ok cells w) (hst : ∀ b, a = some b → (storeCells b cells.toList).run P w = .ok () w1) (hno : a = none → w1 = w) :
    (Builtin.copy_ ts ty #[.slice a dLen dCap, x]).run P w = .ok (goInt (Nat.min n dLen)) w1 := by
  cases a with
  | none =>
    have := hno rfl; subst this
    simp [Builtin.copy_, h0, run_underlying hu, sizeOf, typeInfo, hi, hlen, hcells]
  | some b =>
    simp [Builtin.copy_, h0, run_underlying hu, sizeOf, typeInfo, hi, hlen, hcells, hst b rfl]

theorem sim_copy (hT : TyOK P T) (hs : SR c m H F w) {id : Nat} {ts : Array TypeId} {ty : TypeId} {d x : AV} {v : AV} {e : Eff} {rd fz : List Nat}
    (h : acopy T H F ts.toList d x = .ok v e rd fz) {vd vx : Value} (hvd : VR (okB c.X m H F) w.heap m d vd) (hvx : VR (okB c.X m H F) w.heap m x vx) :
    ∃ cv m' w', (Builtin.copy_ ts ty #[vd, vx]).run P w = .ok cv w' ∧ Done c m H F w id v e fz cv m' w' := by
  unfold acopy at h
  split at h
  · rename_i dt rest hts
    have h0 : ts[0]? = some dt := by rw [← Array.getElem?_toList, hts]; rfl
    split at h
    · rename_i q ys hq hys
      obtain ⟨i, z, hu, hi, hsz, hz, hza, hzf, hpos⟩ := elemT_some hT hq
      cases hf : ys.all (fitsN q.2.1) with
      | false => simp [hf] at h
      | true =>
        simp only [hf, cond_true] at h
        obtain ⟨o1, o2⟩ := ones_of (s := q.2.1) (fun y hy => List.all_eq_true.1 hf y hy)
        have none_ : ∀ {a : Option Addr}, vd = .slice a 0 0 → Res.ok (.int .i64 0) [] (idOf x) [] = .ok v e rd fz → ∃ cv m' w', (Builtin.copy_ ts ty #[vd, vx]).run P w = .ok cv w' ∧ Done c m H F w id v e fz cv m' w' := by
          intro a hv hres
          subst hv
          simp only [Res.ok.injEq] at hres
          obtain ⟨rfl, rfl, rfl, rfl⟩ := hres
          obtain ⟨new, n1, n2, n3, n4⟩ := sim_elemsK (P := P) hs hys hvx o1 (k := 0) (Nat.zero_le _)
          have hn0 : new = #[] := Array.size_eq_zero_iff.1 (by simpa using n1)
          have hmin : Nat.min ys.length 0 = 0 := Nat.min_zero _
          refine ⟨_, m, w, run_copy' h0 hu hi n3 (by rw [hmin, hsz]; exact n4 w rfl) (fun b _ => by rw [hn0]; rfl) (fun _ => rfl), Done.quiet hs ?_⟩
          rw [hmin]; exact .int _ _
        split at h
        · cases hvd; exact none_ rfl h
        · cases hvd; exact none_ rfl h
        · rename_i s0 b lo len
          unfold copyTo at h
          split at h
          · rename_i m0 xs hb
            obtain ⟨hb, hbF⟩ := hlive_some hb
            cases hc : m0.beq q.2.1 && s0.beq q.2.1 && (lo + len).ble xs.length with
            | false => simp [hc] at h
            | true =>
              simp only [hc, cond_true, Res.ok.injEq] at h
              obtain ⟨rfl, rfl, rfl, rfl⟩ := h
              simp only [Bool.and_eq_true] at hc
              obtain ⟨⟨c1, c2⟩, c3⟩ := hc
              have c1 := beq_eq' c1
              have c2 := beq_eq' c2
              have c3 := ble_le c3
              subst c1
              have hss : s0 = q.2.1 := c2
              subst hss
              obtain ⟨L, j1, k2, k3, k4⟩ := hvd.osl_inv
              obtain ⟨js, jp, je, jl, C, et, zz, j2, j3, j4, j5, j6⟩ := hs.objm hb j1
              have hk : min ys.length len ≤ ys.length := Nat.min_le_left _ _
              obtain ⟨new, n1, n2, n3, n4⟩ := sim_elemsK (P := P) hs hys hvx o1 hk
              have hyk : ∀ y ∈ ys.take (min ys.length len), y.cells.length = q.2.1 := fun y hy => o1 y (List.mem_of_mem_take hy)
              have hlk : (ys.take (min ys.length len)).length = min ys.length len := List.take_take_len _ _ hk
              have hmul : (lo + min ys.length len) * q.2.1 ≤ xs.length * q.2.1 := Nat.mul_le_mul_right _ (by have := Nat.min_le_right ys.length len; omega)
              have e2 : (lo + min ys.length len) * q.2.1 = lo * q.2.1 + min ys.length len * q.2.1 := Nat.add_mul _ _ _
              have hflx := flat_length jl
              have hfly := flat_length hyk
              rw [hlk] at hfly
              have hn1 : ∀ u ∈ new, u.oneCell' = true := n2.ones (by rw [n1, hfly]) (fun u hu => o2 u (by
                rw [flat_take _ o1] at hu; exact List.mem_of_mem_take hu))
              have hspl : flat (xs.take lo ++ ys.take (min ys.length len) ++ xs.drop (lo + min ys.length len)) = setCells (flat xs) (lo * q.2.1) (flat (ys.take (min ys.length len))) := by
                have := splice_flat (k := lo) jl hyk (by rw [hlk]; have := Nat.min_le_right ys.length len; omega)
                rwa [hlk] at this
              have hnl : (xs.take lo ++ ys.take (min ys.length len) ++ xs.drop (lo + min ys.length len)).length = xs.length := by
                have := Nat.min_le_right ys.length len
                simp; omega
              have hst := run_stores (P := P) j2 j4 (o := L.off + lo * q.2.1) new.toList (by rw [Array.length_toList]; omega) (fun u hu => hn1 u (by simpa using hu))
              obtain ⟨al, asz⟩ := setCells_alike new.toList w L.blk (L.off + lo * q.2.1)
              obtain ⟨hx, hsr⟩ := hs.write hb hbF j1 al asz (o' := .arr q.2.1 (xs.take lo ++ ys.take (min ys.length len) ++ xs.drop (lo + min ys.length len))) (fun γ hγ => heap_setCells_ne _ _ _ _ _ hγ)
              have hsr' := hsr ⟨js, jp, by rw [hnl]; exact je, fun u hu => by
                rcases List.mem_append.1 hu with hu | hu
                · rcases List.mem_append.1 hu with hu | hu
                  · exact jl u (List.mem_of_mem_take hu)
                  · exact hyk u hu
                · exact jl u (List.mem_of_mem_drop hu), _, _, _, heap_setCells _ j2 _, by rw [size_setArr]; exact j3, by rw [NoFz, size_setArr]; exact j4, by rw [size_setArr, hnl]; exact j5, by
                  rw [hspl]
                  exact CR.set (o := L.off) (off := lo * q.2.1) (j6.mono hx.kk hx.mm) (n2.mono hx.kk hx.mm) (by omega) (by omega) (by omega)⟩
              rcases k4 with ⟨k5, k6, a, rfl⟩ | ⟨cp, rfl, k5, k6, k7⟩
              · -- nothing is copied into nothing
                subst k5
                have hmin : min ys.length 0 = 0 := Nat.min_zero _
                have hn0 : new = #[] := Array.size_eq_zero_iff.1 (by rw [n1, hmin, Nat.zero_mul])
                have hw : w.setCells L.blk (L.off + lo * q.2.1) new.toList = w := by rw [hn0]; rfl
                rw [hw] at hx hsr'
                have hr := run_copy' (P := P) (w := w) (w1 := w) (ty := ty) (a := some a) (dLen := 0) (dCap := 0) h0 hu hi n3 (by rw [hsz]; exact n4 w rfl) (fun b _ => by rw [hn0]; rfl) (fun h => by cases h)
                exact ⟨_, m, w, hr, hx, hsr', .int _ _, fun _ h => .inl h⟩
              · have hr := run_copy' (P := P) (ty := ty) (a := some ⟨L.blk, L.off + lo * q.2.1, none⟩) (dLen := len) (dCap := cp) h0 hu hi n3 (by rw [hsz]; exact n4 w rfl) (fun b hb => by cases hb; exact hst) (fun h => by cases h)
                exact ⟨_, m, _, hr, hx, hsr', .int _ _, fun _ h => .inl h⟩
          · cases h
        · cases h
    · cases h
  · cases h

omit [Syms] in
theorem run_clear' {S E : TypeId} {i0 : TypeInfo} {z : Value} {ts : Array TypeId} (h0 : ts[0]? = some S) (hu : P.underlying S = some (.slice E)) (hi : P.info? E = some i0) (hz : i0.zero = some z) {ty : TypeId} {a : Addr} {n cc : Nat} {w w1 : World}
    (hst : (storeCells a (Builtin.zeroCells z.cells n).toList).run P w = .ok () w1) : (Builtin.clear_ ts ty #[.slice (some a) n cc]).run P w = .ok (.tuple #[]) w1 := by
  cases n with
  | zero =>
    have : Builtin.zeroCells z.cells 0 = #[] := Array.size_eq_zero_iff.1 (by simp [Builtin.zeroCells])
    rw [this] at hst
    simp [Builtin.clear_, h0, run_underlying hu]
    simpa [storeCells] using hst
  | succ n => simp [Builtin.clear_, h0, run_underlying hu, zeroValue, typeInfo, hi, hz, hst]

theorem sim_clear (hT : TyOK P T) (hs : SR c m H F w) {id : Nat} {ts : Array TypeId} {ty : TypeId} {x : AV} {v : AV} {e : Eff} {rd fz : List Nat}
    (h : aclear T H F ts.toList x = .ok v e rd fz) {vx : Value} (hvx : VR (okB c.X m H F) w.heap m x vx) :
    ∃ cv m' w', (Builtin.clear_ ts ty #[vx]).run P w = .ok cv w' ∧ Done c m H F w id v e fz cv m' w' := by
  unfold aclear at h
  split at h
  · rename_i dt rest hts
    have h0 : ts[0]? = some dt := by rw [← Array.getElem?_toList, hts]; rfl
    split at h
    · rename_i q hq
      obtain ⟨i, z, hu, hi, hsz, hz, hza, hzf, hpos⟩ := elemT_some hT hq
      split at h
      · rename_i s0 b lo len
        unfold clearTo at h
        split at h
        · rename_i m0 xs hb
          obtain ⟨hb, hbF⟩ := hlive_some hb
          cases hc : m0.beq q.2.1 && s0.beq q.2.1 && (lo + len).ble xs.length with
          | false => simp [hc] at h
          | true =>
            simp only [hc, cond_true, Res.ok.injEq] at h
            obtain ⟨rfl, rfl, rfl, rfl⟩ := h
            simp only [Bool.and_eq_true] at hc
            obtain ⟨⟨c1, c2⟩, c3⟩ := hc
            have c1 := beq_eq' c1
            have c2 := beq_eq' c2
            have c3 := ble_le c3
            subst c1
            have hss : s0 = q.2.1 := c2
            subst hss
            obtain ⟨L, j1, k2, k3, k4⟩ := hvx.osl_inv
            obtain ⟨js, jp, je, jl, C, et, zz, j2, j3, j4, j5, j6⟩ := hs.objm hb j1
            have hzf' : fitsN q.2.1 (ofV z) = true := by rw [← hza]; exact hzf
            obtain ⟨zc1, zc2, zc3⟩ := zero_cells hzf'
            have hyk : ∀ y ∈ List.replicate len q.2.2, y.cells.length = q.2.1 := fun y hy => by rw [List.eq_of_mem_replicate hy, hza]; exact zc3
            have n1 : (Builtin.zeroCells z.cells len).size = len * q.2.1 := by simp [Builtin.zeroCells, zc1]
            have n2 : CR (okB c.X m H F) w.heap m (flat (List.replicate len q.2.2)) (Builtin.zeroCells z.cells len) 0 := by rw [hza]; exact zeros_cr hzf' len _ _ _
            have hfly := flat_length hyk
            rw [List.length_replicate] at hfly
            have hmul : (lo + len) * q.2.1 ≤ xs.length * q.2.1 := Nat.mul_le_mul_right _ c3
            have e2 : (lo + len) * q.2.1 = lo * q.2.1 + len * q.2.1 := Nat.add_mul _ _ _
            have hflx := flat_length jl
            have hn1 : ∀ u ∈ Builtin.zeroCells z.cells len, u.oneCell' = true := n2.ones (by rw [n1, hfly]) (fun u hu => by
              obtain ⟨y, hy, hqy⟩ := List.mem_flatMap.1 hu
              rw [List.eq_of_mem_replicate hy, hza] at hqy
              exact fits_one (fitsN_some hzf').1 u hqy)
            have hspl : flat (xs.take lo ++ List.replicate len q.2.2 ++ xs.drop (lo + len)) = setCells (flat xs) (lo * q.2.1) (flat (List.replicate len q.2.2)) := by
              have := splice_flat (k := lo) jl hyk (by rw [List.length_replicate]; exact c3)
              rwa [List.length_replicate] at this
            have hnl : (xs.take lo ++ List.replicate len q.2.2 ++ xs.drop (lo + len)).length = xs.length := by
              simp; omega
            have hst := run_stores (P := P) j2 j4 (o := L.off + lo * q.2.1) (Builtin.zeroCells z.cells len).toList (by rw [Array.length_toList]; omega) (fun u hu => hn1 u (by simpa using hu))
            obtain ⟨al, asz⟩ := setCells_alike (Builtin.zeroCells z.cells len).toList w L.blk (L.off + lo * q.2.1)
            obtain ⟨hx, hsr⟩ := hs.write hb hbF j1 al asz (o' := .arr q.2.1 (xs.take lo ++ List.replicate len q.2.2 ++ xs.drop (lo + len))) (fun γ hγ => heap_setCells_ne _ _ _ _ _ hγ)
            have hsr' := hsr ⟨js, jp, by rw [hnl]; exact je, fun u hu => by
              rcases List.mem_append.1 hu with hu | hu
              · rcases List.mem_append.1 hu with hu | hu
                · exact jl u (List.mem_of_mem_take hu)
                · exact hyk u hu
              · exact jl u (List.mem_of_mem_drop hu), _, _, _, heap_setCells _ j2 _, by rw [size_setArr]; exact j3, by rw [NoFz, size_setArr]; exact j4, by rw [size_setArr, hnl]; exact j5, by
                rw [hspl]
                exact CR.set (o := L.off) (off := lo * q.2.1) (j6.mono hx.kk hx.mm) (n2.mono hx.kk hx.mm) (by omega) (by omega) (by omega)⟩
            rcases k4 with ⟨k5, k6, a, rfl⟩ | ⟨cp, rfl, k5, k6, k7⟩
            · -- nothing is cleared
              subst k5
              have hn0 : Builtin.zeroCells z.cells 0 = #[] := Array.size_eq_zero_iff.1 (by rw [n1, Nat.zero_mul])
              have hw : w.setCells L.blk (L.off + lo * q.2.1) (Builtin.zeroCells z.cells 0).toList = w := by rw [hn0]; rfl
              rw [hw] at hx hsr'
              have hr := run_clear' (P := P) (w := w) (w1 := w) (ty := ty) (a := a) (n := 0) (cc := 0) h0 hu hi hz (by rw [hn0]; rfl)
              exact ⟨_, m, w, hr, hx, hsr', .tup (fun _ => .bool true) rfl (fun j hj => absurd hj (Nat.not_lt_zero j)) (fun j x hx => by simp at hx), fun _ h => .inl h⟩
            · have hr := run_clear' (P := P) (ty := ty) (a := ⟨L.blk, L.off + lo * q.2.1, none⟩) (n := len) (cc := cp) h0 hu hi hz hst
              exact ⟨_, m, _, hr, hx, hsr', .tup (fun _ => .bool true) rfl (fun j hj => absurd hj (Nat.not_lt_zero j)) (fun j x hx => by simp at hx), fun _ h => .inl h⟩
        · cases h
      · cases h
    · cases h
  · cases h

/-- A new variable. -/
theorem sim_newCells (hs : SR c m H F w) {id : Nat} (hid : m id = none) {x v : AV} {e : Eff} {rd fz : List Nat} (h : newCells id x = .ok v e rd fz) {vx : Value} (hvx : VR (okB c.X m H F) w.heap m x vx) (t : TypeId) :
    ∃ cv m' w', (newVar t vx).run P w = .ok ⟨w.heap.size, 0, none⟩ w' ∧ cv = .pointer (some ⟨w.heap.size, 0, none⟩) ∧ Done c m H F w id v e fz cv m' w' := by
  unfold newCells at h
  cases hf : x.fits with
  | false => simp [hf] at h
  | true =>
    simp only [hf, cond_true, Res.ok.injEq] at h
    obtain ⟨rfl, rfl, rfl, rfl⟩ := h
    obtain ⟨k1, k2, k3⟩ := hvx.stored hf
    obtain ⟨f1, f2, f3, f4⟩ := alloc_facts w (.cells vx.cells t)
    obtain ⟨hx, hsr⟩ := hs.new hid f4 f1 f2 (L := ⟨w.heap.size, 0, 0, 0, 0, fun _ => none⟩) rfl (o := .cells x.cells)
    refine ⟨_, _, _, rfl, rfl, hx, hsr ⟨rfl, _, _, _, f3, k1, NoFz_zero _, k2.mono hx.kk hx.mm⟩, .ptr (upd_same _ _ _) rfl rfl, dom_upd⟩

omit [Syms] in
theorem range_zero (z : Array Value) (n : Nat) : ((Array.range n).map (z[· % z.size]!)).size = n := by simp

theorem zeros_row {z : Value} {s : Nat} (hf : fitsN s (ofV z) = true) (n : Nat) (ok : Nat → Prop) (h : Array Obj) (m : Map) :
    CR ok h m (flat (List.replicate n (ofV z))) ((Array.range (n * s)).map (z.cells[· % z.cells.size]!)) 0 := by
  obtain ⟨h1, h2, h3⟩ := zero_cells hf
  have := zeros_cr hf n ok h m
  unfold Builtin.zeroCells at this
  rw [h1] at this
  rw [h1]
  exact this

omit [Syms] in
theorem zRow_cases (tell : Bool) (s : Nat) (z : AV) (m : Nat) : zRow tell s z m = .arr s (List.replicate m z) ∨ (zRow tell s z m = .tarr .u8 (List.replicate m 0) ∧ s = 1 ∧ z = .int .u8 0) := by
  unfold zRow
  cases tell with
  | false => exact .inl rfl
  | true =>
    rw [cond_true]
    split
    · cases hs : s.beq 1 with
      | true => exact .inr ⟨rfl, beq_eq' hs, rfl⟩
      | false => exact .inl rfl
    · exact .inl rfl

/-- A row under its number, told otherwise. -/
theorem SR.swap {c : Ctx} {m : Map} {H : Heap} {F : List Nat} {w w0 : World} {m0 : Map} {H0 : Heap} {F0 : List Nat} {b : Nat} {o o' : AObj} (hx : Ext c m0 H0 F0 w0 m (hset H b o) F w) (hs : SR c m (hset H b o) F w) (h : ∀ ok hh mm L, ObjR ok hh mm L o → ObjR ok hh mm L o') (hv : Void o → Void o') (hf : Flat o := by first | exact flat_cells _ | exact flat_arr _ _ | exact flat_tarr _ _ | exact flat_map _ | assumption) (hf' : Flat o' := by first | exact flat_cells _ | exact flat_arr _ _ | exact flat_tarr _ _ | exact flat_map _ | assumption) :
    Ext c m0 H0 F0 w0 m (hset H b o') F w ∧ SR c m (hset H b o') F w ∧ okB c.X m (hset H b o') F = okB c.X m (hset H b o) F := by
  have dom : ∀ {o o' : AObj} (_ : Flat o) q p, hget (hset H b o) q = some p → ∃ p', hget (hset H b o') q = some p' ∧ (∀ L β, fp p L β → fp p' L β) := fun {o o'} hfo q p hq => by
    rw [hget_hset] at hq ⊢
    split at hq
    · rename_i e; subst e; cases hq; exact ⟨o', if_pos rfl, fun L β h => .inl (hfo.fp h)⟩
    · rename_i e; rw [if_neg e]; exact ⟨p, hq, fun L β h => h⟩
  have hok : okB c.X m (hset H b o') F = okB c.X m (hset H b o) F := by
    funext β
    refine propext ⟨fun ho => ⟨ho.1, fun q p L h1 h2 h3 => ?_⟩, fun ho => ⟨ho.1, fun q p L h1 h2 h3 => ?_⟩⟩
    · obtain ⟨p', k, k'⟩ := dom (o' := o') hf q p h1; exact fun h => ho.2 q p' L k h2 h3 (k' L β h)
    · obtain ⟨p', k, k'⟩ := dom (o' := o) hf' q p h1; exact fun h => ho.2 q p' L k h2 h3 (k' L β h)
  refine ⟨⟨hx.mm, by rw [hok]; exact hx.kk⟩, ⟨hs.xlt, fun q p hq => ?_, fun q1 p1 q2 p2 L1 L2 β h1 h2 h3 h4 h5 h6 => ?_, fun q p L β h1 h2 h3 => ?_, fun q p L β h1 h2 h3 => ?_, hs.keep⟩, hok⟩
  · rw [hok]
    rw [hget_hset] at hq
    split at hq
    · rename_i e
      subst e
      cases hq
      exact (hs.all b o (by rw [hget_hset, if_pos rfl])).imp (fun ⟨L, k1, k2⟩ => ⟨L, k1, h _ _ _ _ k2⟩) (fun ⟨k1, k2⟩ => ⟨k1, hv k2⟩)
    · rename_i e
      exact hs.all q p (by rw [hget_hset, if_neg e]; exact hq)
  · obtain ⟨p1', k1, k1'⟩ := dom (o' := o) hf' q1 p1 h1
    obtain ⟨p2', k2, k2'⟩ := dom (o' := o) hf' q2 p2 h2
    exact hs.injf q1 p1' q2 p2' L1 L2 β k1 k2 h3 h4 (k1' L1 β h5) (k2' L2 β h6)
  · obtain ⟨p', k, k'⟩ := dom (o' := o) hf' q p h1; exact hs.noxf q p' L β k h2 (k' L β h3)
  · obtain ⟨p', k, k'⟩ := dom (o' := o) hf' q p h1; exact hs.ownf q p' L β k h2 (k' L β h3)

theorem sim_makeSlice (hT : TyOK P T) (hs : SR c m H F w) {E : Env} (hE : E.T = T) {id : Nat} (hid : m id = none) {t : TypeId} {l k v : AV} {e : Eff} {rd fz : List Nat} (h : opMakeSlice E id t l k = .ok v e rd fz)
    {vl vk : Value} (hl : VR (okB c.X m H F) w.heap m l vl) (hk : VR (okB c.X m H F) w.heap m k vk) :
    ∃ cv m' w', (Instr.makeSlice t vl vk).run P w = .ok cv w' ∧ Done c m H F w id v e fz cv m' w' := by
  unfold opMakeSlice at h
  rw [hE] at h
  split at h
  · rename_i q n' a k' b hq
    cases hl; cases hk
    obtain ⟨i, z, hu, hi, hsz, hz, hza, hzf, hpos⟩ := elemT_some hT hq
    split at h
    · rename_i by_ hby
      obtain ⟨i', hi', hbb⟩ := bytesOf_some hT hby
      rw [hi] at hi'; cases hi'
      cases hc : a.ble b && b.ble 1099511627776 && room b by_ with
      | false => simp [hc] at h
      | true =>
        simp only [hc, cond_true, Res.ok.injEq] at h
        obtain ⟨rfl, rfl, rfl, rfl⟩ := h
        simp only [Bool.and_eq_true] at hc
        have c1 := ble_le hc.1.1
        have c2 := ble_le hc.1.2
        have c3 := room_le hc.2
        have c4 : b * by_ ≤ 1099511627776 := Nat.le_trans (Nat.mul_le_mul_left b (Nat.le_succ by_)) c3
        have hb48 : (i.bytes : Int) * (b : Int) ≤ 281474976710656 := by
          have : ((i.bytes * b : Nat) : Int) ≤ 281474976710656 := by rw [hbb, Nat.mul_comm]; omega
          rwa [Int.natCast_mul] at this
        have hrun := run_make (P := P) w t q.1 i z hu hi hz n' k' (a : Int) (b : Int) (by omega) (by omega) hb48 (by omega)
        simp only [Int.toNat_natCast] at hrun
        have hzf' : fitsN q.2.1 (ofV z) = true := by rw [← hza]; exact hzf
        obtain ⟨z1, z2, z3⟩ := zero_cells hzf'
        obtain ⟨f1, f2, f3, f4⟩ := alloc_facts w (.cells (madeCells z.cells (b * i.size)) q.1)
        have hCsz : (madeCells z.cells (b * i.size)).size = b * q.2.1 := by rw [size_madeCells, hsz]
        have hcr : CR (okB c.X m H F) w.heap m (flat (List.replicate b q.2.2)) (madeCells z.cells (b * i.size)) 0 := by
          rw [hza, hsz]; exact zeros_row hzf' b _ _ _
        obtain ⟨hx, hsr⟩ := hs.newArr hid (w' := w.alloc (.cells (madeCells z.cells (b * i.size)) q.1)) f4 f1 f2 f3 (NoFz_zero _) hpos (fun x hx => by rw [List.eq_of_mem_replicate hx, hza]; exact z3) (by rw [hCsz, List.length_replicate]; exact Nat.le_refl _) hcr
        obtain ⟨hx, hsr, hoo⟩ : Ext c m H F w _ (hset H id (zRow E.cfg.tell q.2.1 q.2.2 b)) F _ ∧ SR c _ (hset H id (zRow E.cfg.tell q.2.1 q.2.2 b)) F _ ∧ okB c.X _ (hset H id (zRow E.cfg.tell q.2.1 q.2.2 b)) F = okB c.X _ (hset H id (.arr q.2.1 (List.replicate b q.2.2))) F := by
          rcases zRow_cases E.cfg.tell q.2.1 q.2.2 b with e | ⟨e, e1, e2⟩
          · rw [e]; exact ⟨hx, hsr, rfl⟩
          · rw [e]
            refine SR.swap hx hsr (fun ok hh mm L ho => ?_) (fun hv => ?_)
            · have : encs .u8 (List.replicate b 0) = List.replicate b q.2.2 := by rw [e2]; simp [encs, enc]
              show ArrR ok hh mm L 1 (encs .u8 (List.replicate b 0))
              rw [this, ← e1]; exact ho
            · rcases hv with ⟨t, hv⟩ | ⟨t, hv⟩ | ⟨t, hv⟩
              · cases hv
              rotate_left
              · cases hv
              · have : b = 0 := by
                  have hv : List.replicate b q.2.2 = [] := by injection hv
                  simpa using hv
                subst this
                exact .inl ⟨.u8, rfl⟩
        refine ⟨_, _, _, hrun, hx, hsr, .osl (upd_same _ _ _) ?_ hpos rfl rfl (by simp) ?_ ?_, dom_upd⟩
        · show 0 + a ≤ (List.replicate b q.2.2).length; rw [List.length_replicate]; omega
        · show (List.replicate b q.2.2).length ≤ 0 + b; rw [List.length_replicate]; omega
        · show 0 + (0 + b) * q.2.1 ≤ _
          rw [hCsz, Nat.zero_add, Nat.zero_add]; exact Nat.le_refl _
    · cases h
  · cases h

theorem sim_fillE {ok : Nat → Prop} {s : Nat} : ∀ (ps : List (Nat × AV)) (vs : List (Nat × Value)) (xs : List AV) (C : Array Value) (out : List AV),
    vs.length = ps.length → (∀ (j : Nat) (p : Nat × AV) (q : Nat × Value), ps[j]? = some p → vs[j]? = some q → p.1 = q.1 ∧ VR ok w.heap m p.2 q.2) → C.size = xs.length * s → (∀ x ∈ xs, x.cells.length = s) → CR ok w.heap m (flat xs) C 0 → fillE s xs ps = some out →
    ∃ D, Instr.fill (fun i => some (i * s, s)) C vs = some D ∧ D.size = xs.length * s ∧ out.length = xs.length ∧ (∀ x ∈ out, x.cells.length = s) ∧ CR ok w.heap m (flat out) D 0
  | [], vs, xs, C, out, hl, _, hs, hxs, hr, ho => by
    have : vs = [] := List.length_eq_zero_iff.1 (by simpa using hl)
    subst this
    simp [fillE] at ho; subst ho
    exact ⟨C, rfl, hs, rfl, hxs, hr⟩
  | p :: ps, [], _, _, _, hl, _, _, _, _, _ => by simp at hl
  | p :: ps, (i, v) :: vs, xs, C, out, hl, hv, hs, hxs, hr, ho => by
    obtain ⟨h1, h2⟩ := hv 0 p (i, v) (by simp) (by simp)
    simp only at h1 h2
    rw [fillE] at ho
    cases hc : fitsN s p.2 && p.1.blt xs.length with
    | false => simp [hc] at ho
    | true =>
      simp only [hc, cond_true] at ho
      simp only [Bool.and_eq_true] at hc
      obtain ⟨hfit, hlen⟩ := fitsN_some hc.1
      have hlt := blt_lt hc.2
      obtain ⟨k1, k2, k3⟩ := h2.stored hfit
      have hfl := flat_length hxs
      rw [h1] at hlt ho
      have hmul : (i + 1) * s ≤ xs.length * s := Nat.mul_le_mul_right s hlt
      rw [Nat.add_mul, Nat.one_mul] at hmul
      rw [fill_step (fun i => some (i * s, s)) C i v vs (off := i * s) (size := s) rfl (by omega) (by omega)]
      have hset := flat_set (y := p.2) hxs (List.getElem?_eq_getElem hlt) hlen
      obtain ⟨D, d1, d2, d3, d4, d5⟩ := sim_fillE ps vs (xs.set i p.2) (setArr C (i * s) v.cells.toList) out (by simpa using hl) (fun j a b ha hb => hv (j + 1) a b (by simpa using ha) (by simpa using hb))
        (by rw [size_setArr, List.length_set]; exact hs) (fun x hx => by
          rcases List.mem_or_eq_of_mem_set hx with hx | rfl
          · exact hxs x hx
          · exact hlen) (by
          rw [hset]
          have := CR.set (o := 0) (off := i * s) hr k2 k1 (by omega) (by omega)
          rwa [Nat.zero_add] at this) ho
      rw [List.length_set] at d2 d3
      exact ⟨D, d1, d2, d3, d4, d5⟩

theorem sim_buildSlice (hT : TyOK P T) (hs : SR c m H F w) {E : Env} (hE : E.T = T) {id : Nat} (hid : m id = none) {fr : Fr} {a : Act} (hf : FrR (okB c.X m H F) w.heap m fr a.tmps) {t : TypeId} {len : Nat} {ps : Array (Nat × Operand)} {v : AV} {e : Eff} {rd fz : List Nat}
    (h : opBuildSlice E id t len (parts fr ps.toList) = .ok v e rd fz) :
    ∃ cv m' w', (Instr.buildSlice t len (ps.map fun (i, x) => (i, a.eval x))).run P w = .ok cv w' ∧ Done c m H F w id v e fz cv m' w' := by
  unfold opBuildSlice at h
  rw [hE] at h
  split at h
  · rename_i q hq
    obtain ⟨i, z, hu, hi, hsz, hz, hza, hzf, hpos⟩ := elemT_some hT hq
    have hzf' : fitsN q.2.1 (ofV z) = true := by rw [← hza]; exact hzf
    obtain ⟨z1, z2, z3⟩ := zero_cells hzf'
    have hl : (ps.map fun (x : Nat × Operand) => (x.1, a.eval x.2)).toList.length = (parts fr ps.toList).length := by simp [parts_length]
    cases hc : len.beq 0 with
    | true =>
      have hc := beq_eq' hc
      subst hc
      simp only [show Nat.beq 0 0 = true from rfl, cond_true] at h
      split at h
      · rename_i hps
        simp only [rv, Res.ok.injEq] at h
        obtain ⟨rfl, rfl, rfl, rfl⟩ := h
        have hps0 : ps = #[] := by
          have : ps.toList.length = 0 := by rw [← parts_length fr, hps]; rfl
          exact Array.size_eq_zero_iff.1 (by simpa using this)
        subst hps0
        obtain ⟨f1, f2, f3, f4⟩ := alloc_facts w (.cells #[] q.1)
        have hx : Ext c m H F w m H F (w.alloc (.cells #[] q.1)) := ⟨MLe.refl m, fun β C e z ho hh => ⟨ho, by rw [f2 β (lt_of_some hh)]; exact hh⟩⟩
        have hsr : SR c m H F (w.alloc (.cells #[] q.1)) := ⟨hs.xlt, fun b1 o1 hb1 => by
            exact (hs.all b1 o1 hb1).imp (fun ⟨L, k1, k2⟩ => ⟨L, k1, ObjR.mono k2 hx.kk hx.mm (fun β hβ => f2 β (ObjR.fplt k2 hβ))⟩) (fun h => h), hs.injf, hs.noxf, hs.ownf,
          ⟨hs.keep.os, hs.keep.tape, hs.keep.output, by rw [f1]; have := hs.keep.size; omega, fun β h1 h2 => by rw [f2 β (by have := hs.keep.size; omega)]; exact hs.keep.block β h1 h2⟩⟩
        refine ⟨.slice (some ⟨w.heap.size, 0, none⟩) 0 0, m, w.alloc (.cells #[] q.1), ?_, ⟨hx, hsr, .emp, fun _ h => .inl h⟩⟩
        simp only [Instr.buildSlice, Sem.run_bind, run_underlying hu, Result.andThen_ok, run_sizeOf' hi, Nat.zero_mul]
        simp [Instr.fill, newRow, Array.range_zero']
      · cases h
    | false =>
      simp only [hc, cond_false] at h
      cases hb : (len * q.2.1).ble 16777216 with
      | false => simp [hb] at h
      | true =>
        simp only [hb, cond_true] at h
        have hble := ble_le hb
        split at h
        · rename_i xs hxs
          simp only [newArr, Res.ok.injEq] at h
          obtain ⟨rfl, rfl, rfl, rfl⟩ := h
          have hlen0 : len ≠ 0 := fun e => by subst e; simp at hc
          obtain ⟨D, d1, d2, d3, d4, d5⟩ := sim_fillE (w := w) (s := q.2.1) _ (ps.map fun (x : Nat × Operand) => (x.1, a.eval x.2)).toList (List.replicate len q.2.2) ((Array.range (len * q.2.1)).map (z.cells[· % z.cells.size]!)) xs hl
            (by intro j p r hp hr; exact parts_vr hf ps.toList j p r hp (by simpa using hr)) (by simp) (fun x hx => by rw [List.eq_of_mem_replicate hx, hza]; exact z3) (by rw [hza]; exact zeros_row hzf' len _ _ _) hxs
          rw [List.length_replicate] at d2 d3
          obtain ⟨f1, f2, f3, f4⟩ := alloc_facts w (.cells D q.1)
          obtain ⟨hx, hsr⟩ := hs.newArr hid (w' := w.alloc (.cells D q.1)) f4 f1 f2 f3 (NoFz_zero _) hpos d4 (by rw [d2, d3]; exact Nat.le_refl _) d5
          refine ⟨.slice (some ⟨w.heap.size, 0, none⟩) len len, _, _, ?_, hx, hsr, .osl (upd_same _ _ _) ?_ hpos rfl rfl (by simp) ?_ ?_, dom_upd⟩
          · have hno : ¬ (2 ^ 24 < len * i.size) := by rw [hsz]; omega
            have hn0 : ¬ (len * i.size = 0) := by
              rw [hsz]
              intro e
              rcases Nat.mul_eq_zero.1 e with h | h <;> omega
            simp only [Instr.buildSlice, Sem.run_bind, run_underlying hu, Result.andThen_ok, run_sizeOf' hi, gt_iff_lt, hsz]
            rw [hsz] at hno hn0
            simp only [hno, if_false, hn0, Sem.run_bind, run_zeroValue hi hz, Result.andThen_ok, Sem.run_pure, d1]
            rfl
          · show 0 + len ≤ xs.length; omega
          · show xs.length ≤ 0 + len; omega
          · show 0 + (0 + len) * q.2.1 ≤ D.size
            rw [d2, Nat.zero_add, Nat.zero_add]; exact Nat.le_refl _
        · cases h
  · cases h

end
end Go.Proofs.Ytmkmjjodiicmlaa.VS

/- Texts and bytes, maps, lengths: what each leaves, on both sides. Conditions: none. -/
namespace Go.Proofs.Ytmkmjjodiicmlaa.VS
variable [Syms]

section
variable {P : Program} {T : Tabs} {c : Ctx} {m : Map} {H : Heap} {F : List Nat} {w : World}

omit [Syms] in
theorem isByte_some (hT : TyOK P T) {e : TypeId} (h : isByte T e = true) : P.underlying e = some (.int .u8) := by
  unfold isByte at h
  split at h
  · rename_i hk; exact kind_int hT hk
  · cases h

omit [Syms] in
theorem toBytes_some : ∀ {xs : List AV} {s : List UInt8}, toBytes xs = some s → ∃ ns : List Int, xs = ns.map (AV.int .u8) ∧ s = ns.map fun n => UInt8.ofNat n.toNat
  | [], s, h => by simp [toBytes] at h; subst h; exact ⟨[], rfl, rfl⟩
  | x :: r, s, h => by
    cases x with
    | int k n =>
      cases k <;> simp only [toBytes] at h <;> try (cases h; done)
      split at h
      · rename_i s' hs'
        cases h
        obtain ⟨ns, h1, h2⟩ := toBytes_some hs'
        exact ⟨n :: ns, by rw [h1]; rfl, by rw [h2]; rfl⟩
      · cases h
    | _ => simp [toBytes] at h

omit [Syms] in
theorem flat_ints (k : IntKind) (ns : List Int) : flat (ns.map (AV.int k)) = ns.map (AV.int k) := by
  induction ns with
  | nil => rfl
  | cons a l ih => rw [List.map_cons, flat_cons, ih]; rfl

theorem cr_ints {ok : Nat → Prop} {h : Array Obj} {k : IntKind} {ns : List Int} {C : Array Value} (hr : CR ok h m (ns.map (AV.int k)) C 0) (hs : C.size = ns.length) : C = (ns.map (Value.int k)).toArray := by
  apply Array.ext
  · simpa using hs
  · intro i h1 h2
    obtain ⟨v, hv, hr'⟩ := hr i (.int k (ns[i]'(by omega))) (by simp [List.getElem?_map, List.getElem?_eq_getElem (show i < ns.length by omega)])
    rw [Nat.zero_add, Array.getElem?_eq_getElem h1] at hv
    cases hv
    generalize C[i]'h1 = u at hr'
    cases hr'
    simp

omit [Syms] in
theorem elems_gs {g : GT} {b n : Nat} {ys : List AV} (h : elems H (.gs g b n) = some ys) : ys.length = n := by
  simp only [elems] at h
  split at h
  · rename_i q zs hb
    cases hcc : n.beq zs.length with
    | false => simp [hcc] at h
    | true => simp only [hcc, cond_true, Option.some.injEq] at h; rw [← h]; exact (beq_eq' hcc).symm
  · rename_i q zs hb
    cases hcc : n.beq zs.length with
    | false => simp [hcc] at h
    | true => simp only [hcc, cond_true, Option.some.injEq] at h; rw [← h, encs_length]; exact (beq_eq' hcc).symm
  · cases h

omit [Syms] in
theorem elems_osl {s0 b lo len : Nat} {ys : List AV} (h : elems H (.osl s0 b lo len) = some ys) : ys.length = len := by
  simp only [elems] at h
  split at h
  · rename_i q zs hb
    cases hcc : (lo + len).ble zs.length with
    | false => simp [hcc] at h
    | true =>
      simp only [hcc, cond_true, Option.some.injEq] at h
      have := ble_le hcc
      rw [← h]; simp; omega
  · rename_i t zs hb
    cases hcc : (lo + len).ble zs.length with
    | false => simp [hcc] at h
    | true =>
      simp only [hcc, cond_true, Option.some.injEq] at h
      have := ble_le hcc
      rw [← h]; simp [encs_length]; omega
  · cases h

theorem sim_toStr (hT : TyOK P T) (hs : SR c m H F w) {id : Nat} {src dst el : TypeId} (hsrc : kindOf T src = .slice el) (hd : kindOf T dst = .str) {x v : AV} (hns : ∀ s, x = .str s → False) {e : Eff} {rd fz : List Nat} (h : toStr T H el x = .ok v e rd fz)
    {vx : Value} (hx : VR (okB c.X m H F) w.heap m x vx) :
    ∃ cv m' w', (convert src dst vx).run P w = .ok cv w' ∧ Done c m H F w id v e fz cv m' w' := by
  unfold toStr at h
  cases hc : isByte T el with
  | false => simp [hc] at h
  | true =>
    simp only [hc, cond_true] at h
    split at h
    · rename_i xs hxs
      split at h
      · rename_i s hsb
        simp only [Res.ok.injEq] at h
        obtain ⟨rfl, rfl, rfl, rfl⟩ := h
        obtain ⟨ns, rfl, rfl⟩ := toBytes_some hsb
        obtain ⟨new, n1, n2, n3, n4⟩ := sim_elems (P := P) hs hxs hx (s := 1) (fun y hy => by obtain ⟨b, _, rfl⟩ := List.mem_map.1 hy; rfl)
        rw [flat_ints] at n2
        rw [List.length_map, Nat.mul_one] at n1
        have hnew := cr_ints n2 n1
        have hrun := n4 w rfl
        have hconv : ∀ (a : Option Addr) (l cp : Nat), (convert src dst (.slice a l cp)).run P w = (Conv.bytesToString (.slice a l cp)).run P w := fun a l cp =>
          run_convert_bytes_string w src dst el a l cp (kind_slice hT hsrc) (isByte_some hT hc) (kind_str hT hd)
        have hdone : VR (okB c.X m H F) w.heap m (.str (ns.map fun n => UInt8.ofNat n.toNat)) (.string (ns.foldl (fun r n => r.push (UInt8.ofNat n.toNat)) ByteArray.empty)) := by
          refine .str _ _ ?_
          rw [foldl_push_bytes]
          simp [ByteArray.empty, ByteArray.emptyWithCapacity]
          try rfl
        have some_ : ∀ (a : Addr) (cp : Nat), vx = .slice (some a) ns.length cp → ∃ cv m' w', (convert src dst vx).run P w = .ok cv w' ∧ Done c m H F w id (.str (ns.map fun n => UInt8.ofNat n.toNat)) [] [] cv m' w' := by
          intro a cp hv
          subst hv
          simp only [Builtin.firstCells, List.length_map, Nat.mul_one, hnew] at hrun
          exact ⟨_, m, w, by rw [hconv, run_bytesToString w a _ _ ns hrun], Done.quiet hs hdone⟩
        have nil_ : ∀ (cp : Nat), vx = .slice none 0 cp → ns = [] → ∃ cv m' w', (convert src dst vx).run P w = .ok cv w' ∧ Done c m H F w id (.str (ns.map fun n => UInt8.ofNat n.toNat)) [] [] cv m' w' := by
          intro cp hv hn
          subst hv; subst hn
          exact ⟨_, m, w, by rw [hconv]; rfl, Done.quiet hs hdone⟩
        have slc : ∀ {ys : List AV}, VR (okB c.X m H F) w.heap m (.sl ys) vx → ys = ns.map (AV.int .u8) → ∃ cv m' w', (convert src dst vx).run P w = .ok cv w' ∧ Done c m H F w id (.str (ns.map fun n => UInt8.ofNat n.toNat)) [] [] cv m' w' := by
          intro ys hx hxs
          obtain ⟨a, cp, hv, _⟩ := hx.sl_any
          have hl : ys.length = ns.length := by rw [hxs]; simp
          rw [hl] at hv
          cases a with
          | none =>
            have : ns = [] := by
              cases hx with
              | slE h1 => exact List.length_eq_zero_iff.1 hl.symm
              | sl => cases hv
            subst this; exact nil_ _ hv rfl
          | some a => exact some_ a _ hv
        cases x with
        | nils => cases hx; simp [elems] at hxs; exact nil_ _ rfl (by simpa using hxs)
        | emp =>
          simp [elems] at hxs
          have hn : ns = [] := by simpa using hxs
          cases hx with
          | emp =>
            rename_i a
            cases a with
            | none => exact nil_ _ rfl hn
            | some a => subst hn; exact some_ a _ rfl
        | nev =>
          simp [elems] at hxs
          have hn : ns = [] := by simpa using hxs
          cases hx with
          | nev => subst hn; exact some_ _ _ rfl
        | sl ys =>
          simp [elems] at hxs
          exact slc hx hxs
        | tl gt xs =>
          simp [elems] at hxs
          exact slc (VR.tl_iff.1 hx) hxs
        | osl s0 b lo len =>
          obtain ⟨a, cp, hv, _⟩ := hx.osl_any
          have hl : len = ns.length := by
            have := elems_osl hxs; simpa using this.symm
          rw [hl] at hv
          exact some_ a _ hv
        | gs g b n =>
          have hl : n = ns.length := by
            have := elems_gs hxs; simpa using this.symm
          cases hx with
          | gsE =>
            rename_i a
            have hn : ns = [] := List.length_eq_zero_iff.1 hl.symm
            cases a with
            | none => exact nil_ _ rfl hn
            | some a => subst hn; exact some_ a _ rfl
          | gs hx =>
            obtain ⟨a, cp, hv, _⟩ := hx.osl_any
            cases hv
            exact some_ a _ (by rw [← hl])
        | str q => exact (hns q rfl).elim
        | _ => simp [elems] at hxs
      · cases h
    · cases h

omit [Syms] in
/-- The mark of bytes that were a text. -/
theorem run_mark {w : World} {β : Nat} (o : Nat) {C : Array Value} {e : TypeId} {z : Nat × Nat} (hC : w.heap[β]? = some (.cells C e z)) (hz : NoFz 1 C z) :
    ∃ w', (markStringish ⟨β, o, none⟩).run P w = .ok () w' ∧ (Alike w w' ∧ w'.heap.size = w.heap.size) ∧ (∀ γ, γ ≠ β → w'.heap[γ]? = w.heap[γ]?) ∧ ∃ z', w'.heap[β]? = some (.cells C e z') ∧ NoFz 1 C z' := by
  have hsh : w.shape? β = some (e, C.size) := by
    unfold World.shape?
    rw [hC]
  refine ⟨w.freeze ⟨β, C.size, none⟩ 1, by simp [markStringish, hsh], ⟨⟨rfl, rfl, rfl⟩, by simp [World.freeze]⟩, fun γ hγ => ?_, ?_⟩
  · simp [World.freeze, Array.getElem?_modify, Ne.symm hγ]
  · simp only [World.freeze, Nat.one_ne_zero, if_false, Array.getElem?_modify, if_true, hC, Option.map_some, Option.some.injEq, Obj.cells.injEq, true_and]
    refine ⟨_, rfl, ?_⟩
    rcases hz with hz | hz
    · rw [if_pos (by simp [hz])]; exact .inr ⟨rfl, Nat.le_refl _⟩
    · split
      · exact .inr ⟨rfl, Nat.le_refl _⟩
      · exact .inr ⟨rfl, by show C.size ≤ min z.1 C.size; omega⟩

theorem sim_convert (hT : TyOK P T) (hs : SR c m H F w) {id : Nat} (hid : m id = none) {src dst : TypeId} {x v : AV} {e : Eff} {rd fz : List Nat} (h : aconvert T H F id src dst x = .ok v e rd fz)
    {vx : Value} (hx : VR (okB c.X m H F) w.heap m x vx) :
    ∃ cv m' w', (convert src dst vx).run P w = .ok cv w' ∧ Done c m H F w id v e fz cv m' w' := by
  unfold aconvert at h
  split at h
  · rename_i k hd
    unfold intOf at h
    split at h
    · rename_i k2 k' n hsrc
      cases hx
      simp only [intv, ro, Res.ok.injEq] at h
      obtain ⟨rfl, rfl, rfl, rfl⟩ := h
      exact ⟨_, m, w, by simp [convert, run_underlying (kind_int hT hsrc), run_underlying (kind_int hT hd), Conv.intToInt], Done.quiet hs (.int _ _)⟩
    · cases h
  · rename_i hd
    unfold strOf at h
    split at h
    · rename_i hsrc
      split at h
      · rename_i s
        obtain ⟨bs, rfl, hbs⟩ := hx.str_inv
        simp only [rv, Res.ok.injEq] at h
        obtain ⟨rfl, rfl, rfl, rfl⟩ := h
        exact ⟨_, m, w, by simp [convert, run_underlying (kind_str hT hsrc), run_underlying (kind_str hT hd)], Done.quiet hs (.str _ _ hbs)⟩
      · cases h
    · rename_i el hsrc
      split at h
      · cases h
      · rename_i hns
        exact sim_toStr hT hs hsrc hd hns h hx
    · cases h
  · rename_i el hd
    unfold bytesOfStr at h
    split at h
    · rename_i s hsrc
      obtain ⟨bs, rfl, hbs⟩ := hx.str_inv
      unfold ofStr at h
      cases hc : isByte T el && s.length.ble 1099511627776 with
      | false => simp [hc] at h
      | true =>
        simp only [hc, cond_true, Res.ok.injEq] at h
        obtain ⟨rfl, rfl, rfl, rfl⟩ := h
        simp only [Bool.and_eq_true] at hc
        have hbl := ble_le hc.2
        have hsize : bs.size = s.length := by rw [← hbs]; exact Array.length_toList.symm
        have hrun := run_bytes_of_string (P := P) w src dst el bs (kind_str hT hsrc) (kind_slice hT hd) (isByte_some hT hc.1)
        have hge := grownCap_ge w bs.size 0 el
        generalize hcap : grownCap w bs.size 0 el = cap at hrun hge
        have hrow : (bytesRow bs cap).size = cap := by
          unfold bytesRow
          rw [Array.size_append, Array.size_map, Array.size_replicate]
          show bs.size + _ = _
          omega
        obtain ⟨f1, f2, f3, f4⟩ := alloc_facts w.drew (.cells (bytesRow bs cap) el ((bytesRow bs cap).size, (bytesRow bs cap).size + 1))
        have hcr : CR (okB c.X m H F) w.heap m (flat (s.map byteV)) (bytesRow bs cap) 0 := by
          rw [byteV_one]
          unfold bytesRow
          refine zeroTail_cr fun j y hy => ?_
          rw [List.getElem?_map] at hy
          cases hj : s[j]? with
          | none => simp [hj] at hy
          | some b =>
            simp [hj] at hy
            subst hy
            refine ⟨.int .u8 b.toNat, ?_, .int _ _⟩
            rw [← hbs, Array.getElem?_toList] at hj
            rw [Nat.zero_add, Array.getElem?_map, hj]; rfl
        obtain ⟨hx2, hsr⟩ := hs.newArr hid (w' := w.drew.alloc (.cells (bytesRow bs cap) el ((bytesRow bs cap).size, (bytesRow bs cap).size + 1))) ⟨f4.os, f4.tape, f4.output⟩ f1 f2 f3 (.inr ⟨rfl, Nat.le_refl _⟩) (s := 1) (by omega)
          (fun y hy => by obtain ⟨b, _, rfl⟩ := List.mem_map.1 hy; rfl) (by rw [hrow, List.length_map]; omega) hcr
        refine ⟨_, _, _, hrun, hx2, hsr, ?_, dom_upd⟩
        rw [← hsize]
        refine .osl (upd_same _ _ _) ?_ (by omega) rfl rfl rfl ?_ ?_
        · show 0 + bs.size ≤ (s.map byteV).length; rw [List.length_map]; omega
        · show (s.map byteV).length ≤ 0 + cap; rw [List.length_map]; omega
        · show 0 + (0 + cap) * 1 ≤ (bytesRow bs cap).size; rw [hrow]; omega
    · rename_i s b lo len hsrc
      cases hc : src.beq dst && isByte T el with
      | false => simp [hc] at h
      | true =>
        simp only [hc, cond_true] at h
        simp only [Bool.and_eq_true] at hc
        have hsd := Nat.eq_of_beq_eq_true hc.1
        subst hsd
        unfold keptArr at h
        split at h
        · rename_i s' xs hb
          obtain ⟨hb, hbF⟩ := hlive_some hb
          cases h1 : s'.beq 1 with
          | false => simp [h1] at h
          | true =>
          have h1 := Nat.eq_of_beq_eq_true h1
          subst h1
          simp only [beq_same, cond_true, Res.ok.injEq] at h
          obtain ⟨rfl, rfl, rfl, rfl⟩ := h
          have hx' := hx
          obtain ⟨L, j1, k2, k3, k4⟩ := hx.osl_inv
          obtain ⟨js, jp, je, jl, C, et, z, j2, j3, j4, j5, j6⟩ := hs.objm hb j1
          rcases k4 with ⟨k5, _⟩ | ⟨c', rfl, k5, k6, k7⟩
          · omega
          · obtain ⟨w', g1, g2, g3, z', g4, g5⟩ := run_mark (P := P) (L.off + lo * s) j2 j4
            obtain ⟨hx1, hsr⟩ := hs.write hb hbF j1 g2.1 g2.2 (o' := .arr 1 xs) g3
            refine ⟨_, m, w', ?_, hx1, hsr ⟨js, jp, je, jl, C, et, z', g4, j3, g5, j5, j6.mono hx1.kk hx1.mm⟩, hx'.mono hx1.kk hx1.mm, fun _ h => .inl h⟩
            simp [convert, run_underlying (kind_slice hT hd), run_underlying (isByte_some hT hc.2), g1]
        · cases h
    · cases h
  · cases h

end
end Go.Proofs.Ytmkmjjodiicmlaa.VS

