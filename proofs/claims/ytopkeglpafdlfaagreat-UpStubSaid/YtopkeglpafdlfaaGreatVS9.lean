/- What makes memory, and what writes it: new variables, slices made, appended to, copied. Conditions: none. -/
import Derived.Test.YtopkeglpafdlfaaGreatVS8
import Derived.Lib.ConvBytes
namespace Go.Proofs.YtopkeglpafdlfaaGreat.VS
variable [Syms]

section runs
variable {P : Program} {w : World}

/-- A type of what is appended that is no number. -/
def plainSrc (P : Program) (xt : TypeId) : Prop := P.underlying xt = some .string ∨ ∃ e, P.underlying xt = some (.slice e)

omit [Syms] in
theorem run_append_grow' {ts : Array TypeId} {ty st xt e : TypeId} {i : TypeInfo} {z : Value} (h0 : ts[0]? = some st) (h1 : ts[1]? = some xt) (hu : P.underlying st = some (.slice e)) (hxt : plainSrc P xt)
    (hi : P.info? e = some i) (hz : i.zero = some z) {base : Option Addr} {sLen sCap n : Nat} {x : Value} {old new : Array Value}
    (hlen : Builtin.lenOf x = pure n) (hold : ∀ w' : World, w'.heap = w.heap → (Builtin.firstCells i.size sLen (.slice base sLen sCap)).run P w' = .ok old w')
    (hnew : ∀ w' : World, w'.heap = w.heap → (Builtin.firstCells i.size n x).run P w' = .ok new w')
    (hg : sCap < sLen + n) (h63 : ((sLen + n : Nat) : Int) ≤ 9223372036854775807) (hfit : Builtin.nextslicecap (sLen + n) sCap * i.bytes ≤ 281474976710656) :
    (Builtin.append_ ts ty #[.slice base sLen sCap, x]).run P w =
      .ok (.slice (some ⟨w.heap.size, 0, none⟩) (sLen + n) (grownCap w (sLen + n) sCap e))
        (w.drew.alloc (.cells (old ++ new ++ Builtin.zeroCells z.cells (grownCap w (sLen + n) sCap e - (sLen + n))) e)) := by
  have hn : ¬ (sLen + n ≤ sCap) := by omega
  have h63' : ¬ (9223372036854775807 < ((sLen : Int) + (n : Int))) := by omega
  have h48' : ¬ (281474976710656 < Builtin.nextslicecap (sLen + n) sCap * i.bytes) := by omega
  have hf := hnew w.drew rfl
  have hfo := hold w.drew rfl
  rcases hxt with hxt | ⟨e', hxt⟩ <;>
    simp [Builtin.append_, h0, h1, run_underlying hu, run_underlying hxt, sizeOf, typeInfo, zeroValue, hi, hz, hlen, hn, h63', h48', Question.forced, hf, hfo, newRow, grownCap]

omit [Syms] in
theorem run_append_room' {ts : Array TypeId} {ty st xt e : TypeId} {i : TypeInfo} (h0 : ts[0]? = some st) (h1 : ts[1]? = some xt) (hu : P.underlying st = some (.slice e)) (hxt : plainSrc P xt)
    (hi : P.info? e = some i) {a : Addr} {sLen sCap n : Nat} {x : Value} {new : Array Value} {w1 : World}
    (hlen : Builtin.lenOf x = pure n) (hnew : (Builtin.firstCells i.size n x).run P w = .ok new w) (hst : (storeCells (a.add (sLen * i.size)) new.toList).run P w = .ok () w1) (hg : sLen + n ≤ sCap) :
    (Builtin.append_ ts ty #[.slice (some a) sLen sCap, x]).run P w = .ok (.slice (some a) (sLen + n) sCap) w1 := by
  rcases hxt with hxt | ⟨e', hxt⟩ <;>
    simp [Builtin.append_, h0, h1, run_underlying hu, run_underlying hxt, sizeOf, typeInfo, hi, hlen, hg, hnew, hst]

omit [Syms] in
theorem run_append_nothing {ts : Array TypeId} {ty st xt e : TypeId} {i : TypeInfo} (h0 : ts[0]? = some st) (h1 : ts[1]? = some xt) (hu : P.underlying st = some (.slice e)) (hxt : plainSrc P xt)
    (hi : P.info? e = some i) {base : Option Addr} {sLen sCap : Nat} {x : Value}
    (hlen : Builtin.lenOf x = pure 0) (hnew : (Builtin.firstCells i.size 0 x).run P w = .ok #[] w) (hg : sLen ≤ sCap) :
    (Builtin.append_ ts ty #[.slice base sLen sCap, x]).run P w = .ok (.slice base sLen sCap) w := by
  rcases hxt with hxt | ⟨e', hxt⟩ <;> cases base <;>
    simp [Builtin.append_, h0, h1, run_underlying hu, run_underlying hxt, sizeOf, typeInfo, hi, hlen, hg, hnew, storeCells]

omit [Syms] in
theorem run_append_make_grow {ts : Array TypeId} {ty st xt e : TypeId} {k : IntKind} {i : TypeInfo} {z : Value} (h0 : ts[0]? = some st) (h1 : ts[1]? = some xt) (hu : P.underlying st = some (.slice e)) (hxt : P.underlying xt = some (.int k))
    (hi : P.info? e = some i) (hz : i.zero = some z) {base : Option Addr} {sLen sCap n : Nat} {kx : IntKind} {old : Array Value}
    (hold : ∀ w' : World, w'.heap = w.heap → (Builtin.firstCells i.size sLen (.slice base sLen sCap)).run P w' = .ok old w')
    (hg : sCap < sLen + n) (h63 : ((sLen + n : Nat) : Int) ≤ 9223372036854775807) (hby : n * i.bytes ≤ 281474976710656) (hfit : Builtin.nextslicecap (sLen + n) sCap * i.bytes ≤ 281474976710656) (hpos : 0 < i.size) (hn0 : 0 < n) :
    (Builtin.append_ ts ty #[.slice base sLen sCap, .int kx (n : Int)]).run P w =
      .ok (.slice (some ⟨w.heap.size, 0, none⟩) (sLen + n) (grownCap w (sLen + n) sCap e))
        (w.drew.alloc (.cells (old ++ Builtin.zeroCells z.cells n ++ Builtin.zeroCells z.cells (grownCap w (sLen + n) sCap e - (sLen + n))) e)) := by
  have hn : ¬ (sLen + n ≤ sCap) := by omega
  have h63' : ¬ (9223372036854775807 < ((sLen : Int) + (n : Int))) := by omega
  have h48' : ¬ (281474976710656 < Builtin.nextslicecap (sLen + n) sCap * i.bytes) := by omega
  have hw : IntKind.i64.wrap (n : Int) = n := by rw [IntKind.wrap_i64]; omega
  have hb' : ¬ (281474976710656 < (n : Int) * (i.bytes : Int)) := by
    have h : ((n * i.bytes : Nat) : Int) ≤ 281474976710656 := by omega
    rw [Int.natCast_mul] at h
    omega
  have hneg : ¬ ((n : Int) < 0) := by omega
  have hfo := hold w.drew rfl
  have hns : n * i.size = 0 → False := fun h => by
    rcases Nat.mul_eq_zero.1 h with h | h <;> omega
  simp [Builtin.append_, h0, h1, run_underlying hu, run_underlying hxt, sizeOf, typeInfo, zeroValue, hi, hz, asInt, asIntOf, hw, hneg, hb', hn, h63', h48', Question.forced, hfo, newRow, grownCap]
  exact fun h => (hns h).elim

omit [Syms] in
theorem run_append_make_room {ts : Array TypeId} {ty st xt e : TypeId} {k : IntKind} {i : TypeInfo} {z : Value} (h0 : ts[0]? = some st) (h1 : ts[1]? = some xt) (hu : P.underlying st = some (.slice e)) (hxt : P.underlying xt = some (.int k))
    (hi : P.info? e = some i) (hz : i.zero = some z) {a : Addr} {sLen sCap n : Nat} {kx : IntKind} {w1 : World} (hst : (storeCells (a.add (sLen * i.size)) (Builtin.zeroCells z.cells n).toList).run P w = .ok () w1)
    (hg : sLen + n ≤ sCap) (h63 : (n : Int) ≤ 9223372036854775807) (hby : n * i.bytes ≤ 281474976710656) (hpos : 0 < i.size) (hn0 : 0 < n) :
    (Builtin.append_ ts ty #[.slice (some a) sLen sCap, .int kx (n : Int)]).run P w = .ok (.slice (some a) (sLen + n) sCap) w1 := by
  have hw : IntKind.i64.wrap (n : Int) = n := by rw [IntKind.wrap_i64]; omega
  have hb' : ¬ (281474976710656 < (n : Int) * (i.bytes : Int)) := by
    have h : ((n * i.bytes : Nat) : Int) ≤ 281474976710656 := by omega
    rw [Int.natCast_mul] at h
    omega
  have hneg : ¬ ((n : Int) < 0) := by omega
  have hns : ¬ (n * i.size = 0) := fun h => by
    rcases Nat.mul_eq_zero.1 h with h | h <;> omega
  simp [Builtin.append_, h0, h1, run_underlying hu, run_underlying hxt, sizeOf, typeInfo, zeroValue, hi, hz, asInt, asIntOf, hw, hneg, hb', hg, hst]
  exact fun h => (hns h).elim

omit [Syms] in
theorem run_append_make_nothing {ts : Array TypeId} {ty st xt e : TypeId} {k : IntKind} {i : TypeInfo} {z : Value} (h0 : ts[0]? = some st) (h1 : ts[1]? = some xt) (hu : P.underlying st = some (.slice e)) (hxt : P.underlying xt = some (.int k))
    (hi : P.info? e = some i) (hz : i.zero = some z) {base : Option Addr} {sLen sCap : Nat} {kx : IntKind} (hg : sLen ≤ sCap) :
    (Builtin.append_ ts ty #[.slice base sLen sCap, .int kx 0]).run P w = .ok (.slice base sLen sCap) w := by
  have hw : IntKind.i64.wrap 0 = 0 := by decide
  cases base <;>
    simp [Builtin.append_, h0, h1, run_underlying hu, run_underlying hxt, sizeOf, typeInfo, zeroValue, hi, hz, asInt, asIntOf, hw, hg, storeCells]

end runs

section
variable {P : Program} {T : Tabs} {c : Ctx} {m : Map} {H : Heap} {F : List Nat} {w : World}

omit [Syms] in
theorem byteV_one (l : List UInt8) : flat (l.map byteV) = l.map byteV := by
  induction l with
  | nil => rfl
  | cons a l ih => rw [List.map_cons, flat_cons, ih]; rfl

omit [Syms] in
theorem run_loadCells_row {β o : Nat} {C : Array Value} {e : TypeId} {z : Nat × Nat} {n : Nat} {g : Nat → Value} (w : World) (hC : w.heap[β]? = some (.cells C e z)) (hg : ∀ j, j < n → C[o + j]? = some (g j)) :
    (loadCells ⟨β, o, none⟩ n).run P w = .ok ((List.range n).map g).toArray w :=
  run_loadCells w _ n g fun j hj => by rw [add_none, cell_of hC]; exact hg j hj

/-- The first elements of a slice, on both sides. -/
theorem sim_elemsK (hs : SR c m H F w) {x : AV} {ys : List AV} (he : elems H x = some ys) {vx : Value} (hx : VR (okB c.X m H F) w.heap m x vx) {s : Nat} (hsz : ∀ y ∈ ys, y.cells.length = s) {k : Nat} (hk : k ≤ ys.length) :
    ∃ new : Array Value, new.size = k * s ∧ CR (okB c.X m H F) w.heap m (flat (ys.take k)) new 0 ∧ Builtin.lenOf vx = pure ys.length ∧
      ∀ w' : World, w'.heap = w.heap → (Builtin.firstCells s k vx).run P w' = .ok new w' := by
  have none_ : ∀ {ys : List AV} {k : Nat} (a : Option Addr) (c' : Nat), ys = [] → k ≤ ys.length → ∃ new : Array Value, new.size = k * s ∧ CR (okB c.X m H F) w.heap m (flat (ys.take k)) new 0 ∧ Builtin.lenOf (.slice a 0 c') = pure ys.length ∧
      ∀ w' : World, w'.heap = w.heap → (Builtin.firstCells s k (.slice a 0 c')).run P w' = .ok new w' := by
    intro ys k a c' hy hk
    subst hy
    obtain rfl : k = 0 := by simpa using hk
    exact ⟨#[], by simp, fun j x hx => by simp [flat] at hx, rfl, fun w' _ => by cases a <;> simp [Builtin.firstCells, loadCells, loadCellsFrom]⟩
  have row : ∀ {zs : List AV} {k : Nat} {β o : Nat} {C : Array Value} {e : TypeId} {z : Nat × Nat} {c' : Nat}, k ≤ zs.length → w.heap[β]? = some (.cells C e z) → (∀ y ∈ zs, y.cells.length = s) → CR (okB c.X m H F) w.heap m (flat zs) C o →
      ∃ new : Array Value, new.size = k * s ∧ CR (okB c.X m H F) w.heap m (flat (zs.take k)) new 0 ∧ Builtin.lenOf (.slice (some ⟨β, o, none⟩) zs.length c') = pure zs.length ∧
      ∀ w' : World, w'.heap = w.heap → (Builtin.firstCells s k (.slice (some ⟨β, o, none⟩) zs.length c')).run P w' = .ok new w' := by
    intro zs k β o C e z c' hk hC hzs hcr
    obtain ⟨g, g1, g2⟩ := hcr.fun
    have hl := flat_length hzs
    have hm : k * s ≤ zs.length * s := Nat.mul_le_mul_right s hk
    refine ⟨((List.range (k * s)).map g).toArray, by simp, fun j y hy => ?_, rfl, fun w' hw' => ?_⟩
    · rw [flat_take k hzs, List.getElem?_take] at hy
      split at hy
      · rename_i hj
        exact ⟨g j, by simp [hj], g2 j y hy⟩
      · cases hy
    · simp only [Builtin.firstCells]
      exact run_loadCells_row w' (by rw [hw']; exact hC) fun j hj => g1 j (by omega)
  have slc : ∀ {ys : List AV}, (∀ y ∈ ys, y.cells.length = s) → k ≤ ys.length → VR (okB c.X m H F) w.heap m (.sl ys) vx → ∃ new : Array Value, new.size = k * s ∧ CR (okB c.X m H F) w.heap m (flat (ys.take k)) new 0 ∧ Builtin.lenOf vx = pure ys.length ∧
      ∀ w' : World, w'.heap = w.heap → (Builtin.firstCells s k vx).run P w' = .ok new w' := by
    intro ys hsz hk hx
    by_cases hne : ys = []
    · subst hne
      obtain ⟨a, c', rfl, _⟩ := hx.sl_any
      exact none_ _ _ rfl hk
    · obtain ⟨β, o, C, e, z, s', c', rfl, k1, k2, k3, k4, k5, k6⟩ := hx.sl_inv hne
      exact row hk k2 hsz k6.any
  have oslc : ∀ {s0 b lo len s' : Nat} {xs : List AV}, VR (okB c.X m H F) w.heap m (.osl s0 b lo len) vx → (∀ L, m b = some L → ArrR (okB c.X m H F) w.heap m L s' xs) → lo + len ≤ xs.length → (xs.drop lo).take len = ys →
      ∃ new : Array Value, new.size = k * s ∧ CR (okB c.X m H F) w.heap m (flat (ys.take k)) new 0 ∧ Builtin.lenOf vx = pure ys.length ∧
      ∀ w' : World, w'.heap = w.heap → (Builtin.firstCells s k vx).run P w' = .ok new w' := by
    intro s0 b lo len s' xs hx hb hle he
    obtain ⟨L, k1, k2, k3, k4⟩ := hx.osl_inv
    obtain ⟨js, jp, je, jl, C, e, z, j2, j3, j4, j5, j6⟩ := hb L k1
    have hylen : ys.length = len := by rw [← he]; simp; omega
    rcases k4 with ⟨k5, _, a, rfl⟩ | ⟨c', rfl, k5, k6, k7⟩
    · exact none_ _ _ (List.length_eq_zero_iff.1 (by omega)) hk
    · by_cases h0 : len = 0
      · subst h0
        exact none_ _ _ (List.length_eq_zero_iff.1 (by omega)) hk
      · have hss : s0 = s := by
          have hmem : ys[0]'(by omega) ∈ ys := List.getElem_mem _
          have h1 := hsz _ hmem
          have h2 := jl (ys[0]'(by omega)) (List.mem_of_mem_drop (List.mem_of_mem_take (by rw [he]; exact hmem)))
          omega
        have hfl : flat ys = ((flat xs).drop (lo * s)).take (len * s) := by
          have hss' : s' = s := by omega
          subst hss'
          rw [← he, flat_take len (fun y hy => jl y (List.mem_of_mem_drop hy)), flat_drop lo jl]
        rw [← hylen, hss]
        refine row (zs := ys) hk j2 hsz ?_
        rw [hfl]
        have := (j6.drop (lo * s)).take (len * s)
        exact this
  unfold elems at he
  split at he
  · cases he; cases hx; exact none_ _ _ rfl hk
  · cases he; cases hx; exact none_ _ _ rfl hk
  · cases he; cases hx; exact none_ _ _ rfl hk
  · cases he
    exact slc hsz hk hx
  · rename_i s0 b lo len
    split at he
    · rename_i s' xs hb
      cases hc : (lo + len).ble xs.length with
      | false => simp [hc] at he
      | true =>
        simp only [hc, cond_true, Option.some.injEq] at he
        exact oslc hx (fun L hL => hs.objm hb hL) (ble_le hc) he
    · rename_i gt xs hb
      cases hc : (lo + len).ble xs.length with
      | false => simp [hc] at he
      | true =>
        simp only [hc, cond_true, Option.some.injEq] at he
        exact oslc hx (fun L hL => hs.objm hb hL) (by rw [encs_length]; exact ble_le hc) he
    · cases he
  · rename_i g b n
    split at he
    · rename_i s' xs hb
      cases hc : n.beq xs.length with
      | false => simp [hc] at he
      | true =>
        simp only [hc, cond_true, Option.some.injEq] at he
        have hn := beq_eq' hc
        subst he
        cases hx with
        | gsE => exact none_ _ _ (List.length_eq_zero_iff.1 hn.symm) hk
        | gs hx => exact oslc hx (fun L hL => hs.objm hb hL) (by omega) (by rw [List.drop_zero, hn, List.take_length])
    · rename_i gt xs hb
      cases hc : n.beq xs.length with
      | false => simp [hc] at he
      | true =>
        simp only [hc, cond_true, Option.some.injEq] at he
        have hn := beq_eq' hc
        subst he
        cases hx with
        | gsE => exact none_ _ _ (by rw [List.length_eq_zero_iff.1 hn.symm]; rfl) hk
        | gs hx => exact oslc hx (fun L hL => hs.objm hb hL) (by rw [encs_length]; omega) (by rw [List.drop_zero, hn, ← encs_length gt xs, List.take_length])
    · cases he
  · rename_i str
    cases he
    obtain ⟨bs, rfl, hbs⟩ := hx.str_inv
    have hsize : bs.size = str.length := by rw [← hbs]; exact Array.length_toList.symm
    rw [List.length_map] at hk
    have hdata : (bs.extract 0 k).data.toList = str.take k := by
      rw [ByteArray.data_extract, Array.toList_extract, hbs, List.extract_eq_take_drop, List.drop_zero, Nat.sub_zero]
    refine ⟨(bs.extract 0 k).data.map fun b => .int .u8 b.toNat, ?_, fun j y hy => ?_, ?_, fun w' _ => ?_⟩
    · rw [Array.size_map, ← Array.length_toList, hdata, List.length_take]
      cases str with
      | nil => simp at hk; subst hk; simp
      | cons a l =>
        have := hsz (byteV a) (by simp)
        simp only [byteV, AV.cells, List.length_singleton] at this
        rw [← this, Nat.mul_one]; omega
    · rw [← List.map_take, byteV_one, List.getElem?_map] at hy
      cases hj : (str.take k)[j]? with
      | none => simp [hj] at hy
      | some b =>
        simp [hj] at hy
        subst hy
        refine ⟨.int .u8 b.toNat, ?_, .int _ _⟩
        rw [← hdata, Array.getElem?_toList] at hj
        rw [Nat.zero_add, Array.getElem?_map, hj]
        rfl
    · simp [Builtin.lenOf, hsize]
    · simp only [Builtin.firstCells]
      rfl
  · rename_i gt xs
    cases he
    cases hx with
    | tl hx => exact slc hsz hk hx
  · cases he

/-- The elements of a slice, on both sides. -/
theorem sim_elems (hs : SR c m H F w) {x : AV} {ys : List AV} (he : elems H x = some ys) {vx : Value} (hx : VR (okB c.X m H F) w.heap m x vx) {s : Nat} (hsz : ∀ y ∈ ys, y.cells.length = s) :
    ∃ new : Array Value, new.size = ys.length * s ∧ CR (okB c.X m H F) w.heap m (flat ys) new 0 ∧ Builtin.lenOf vx = pure ys.length ∧
      ∀ w' : World, w'.heap = w.heap → (Builtin.firstCells s ys.length vx).run P w' = .ok new w' := by
  obtain ⟨new, h1, h2, h3, h4⟩ := sim_elemsK (P := P) hs he hx hsz (Nat.le_refl ys.length)
  rw [List.take_length] at h2
  exact ⟨new, h1, h2, h3, h4⟩

omit [Syms] in
theorem ones_of {ys : List AV} {s : Nat} (hf : ∀ y ∈ ys, fitsN s y = true) : (∀ y ∈ ys, y.cells.length = s) ∧ ∀ q ∈ flat ys, q.one = true := by
  refine ⟨fun y hy => (fitsN_some (hf y hy)).2, fun q hq => ?_⟩
  obtain ⟨y, hy, hqy⟩ := List.mem_flatMap.1 hq
  exact fits_one (fitsN_some (hf y hy)).1 q hqy

theorem CR.ones {ok : Nat → Prop} {h : Array Obj} {cs : List AV} {C : Array Value} (hr : CR ok h m cs C 0) (hs : C.size = cs.length) (h1 : ∀ q ∈ cs, q.one = true) : ∀ v ∈ C, v.oneCell' = true := by
  intro v hv
  obtain ⟨j, hj, rfl⟩ := Array.mem_iff_getElem.1 hv
  obtain ⟨u, hu, hr'⟩ := hr j cs[j] (List.getElem?_eq_getElem (by omega))
  rw [Nat.zero_add, Array.getElem?_eq_getElem hj] at hu
  cases hu
  exact (hr'.one (h1 _ (List.getElem_mem _))).1

/-- What an operation leaves, on both sides. -/
structure Done (c : Ctx) (m : Map) (H : Heap) (F : List Nat) (w : World) (id : Nat) (v : AV) (e : Eff) (fz : List Nat) (cv : Value) (m' : Map) (w' : World) : Prop where
  ext : Ext c m H F w m' (happ H e) (fz ++ F) w'
  sr : SR c m' (happ H e) (fz ++ F) w'
  vr : VR (okB c.X m' (happ H e) (fz ++ F)) w'.heap m' v cv
  dom : ∀ b, m' b ≠ none → m b ≠ none ∨ (id ≤ b ∧ b < id + STRIDE)

theorem Done.quiet (hs : SR c m H F w) {id : Nat} {v : AV} {cv : Value} (hv : VR (okB c.X m H F) w.heap m v cv) : Done c m H F w id v [] [] cv m w :=
  ⟨Ext.refl _ _ _ _ _, hs, hv, fun _ h => .inl h⟩

/-- A new row for a new number, whose elements are a row's. -/
theorem SR.newArr (hs : SR c m H F w) {id : Nat} (hid : m id = none) {w' : World} (ha : Alike w w') {C : Array Value} {e : TypeId} {z : Nat × Nat} (hsz : w'.heap.size = w.heap.size + 1)
    (hold : ∀ β, β < w.heap.size → w'.heap[β]? = w.heap[β]?) (hnew : w'.heap[w.heap.size]? = some (.cells C e z)) {s : Nat} (hz : NoFz s C z) (hs0 : 0 < s) {xs : List AV} (hxs : ∀ x ∈ xs, x.cells.length = s)
    (hC : xs.length * s ≤ C.size) (hr : CR (okB c.X m H F) w.heap m (flat xs) C 0) :
    Ext c m H F w (upd m id ⟨w.heap.size, 0, s, xs.length, C.size⟩) (hset H id (.arr s xs)) F w' ∧ SR c (upd m id ⟨w.heap.size, 0, s, xs.length, C.size⟩) (hset H id (.arr s xs)) F w' := by
  obtain ⟨hx, hsr⟩ := hs.new hid ha hsz hold (L := ⟨w.heap.size, 0, s, xs.length, C.size⟩) rfl (o := .arr s xs)
  exact ⟨hx, hsr ⟨rfl, hs0, rfl, hxs, C, e, z, hnew, rfl, hz, by simpa using hC, hr.mono hx.kk hx.mm⟩⟩

omit [Syms] in
theorem alloc_facts (w : World) (o : Obj) : (w.alloc o).heap.size = w.heap.size + 1 ∧ (∀ β, β < w.heap.size → (w.alloc o).heap[β]? = w.heap[β]?) ∧ (w.alloc o).heap[w.heap.size]? = some o ∧ Alike w (w.alloc o) :=
  ⟨by simp, fun β hβ => by rw [show (w.alloc o).heap = w.heap.push o from rfl, Array.getElem?_push, if_neg (by omega)], by rw [show (w.alloc o).heap = w.heap.push o from rfl]; simp, ⟨rfl, rfl, rfl⟩⟩

omit [Syms] in
theorem NoFz_zero {s : Nat} (C : Array Value) : NoFz s C (0, 0) := .inl rfl

/-- One's own row is given up, and what was in it is told of another number. -/
theorem SR.move (hs : SR c m H F w) {b id : Nat} {o : AObj} (hb : hget H b = some o) (hf : b ∉ F) {L L' : Loc} (hm : m b = some L) (hid : m id = none) (hL : L'.blk = L.blk) {w' : World} (ha : Alike w w')
    (hsz : w'.heap.size = w.heap.size) (hold : ∀ β, β ≠ L.blk → w'.heap[β]? = w.heap[β]?) {o' : AObj} :
    Ext c m H F w (upd m id L') (hdel (hset H id o') b) F w' ∧
    (ObjR (okB c.X (upd m id L') (hdel (hset H id o') b) F) w'.heap (upd m id L') L' o' → SR c (upd m id L') (hdel (hset H id o') b) F w') := by
  have hbi : b ≠ id := fun e => by rw [e, hid] at hm; cases hm
  have get : ∀ {x : Nat} {y : AObj}, hget (hdel (hset H id o') b) x = some y → (x = id ∧ y = o') ∨ (x ≠ b ∧ x ≠ id ∧ hget H x = some y) := by
    intro x y hy
    rw [hget_hdel] at hy
    by_cases e1 : b = x
    · rw [if_pos e1] at hy; cases hy
    · rw [if_neg e1, hget_hset] at hy
      by_cases e2 : id = x
      · rw [if_pos e2] at hy; cases hy; exact .inl ⟨e2.symm, rfl⟩
      · rw [if_neg e2] at hy; exact .inr ⟨fun e => e1 e.symm, fun e => e2 e.symm, hy⟩
  have hx : Ext c m H F w (upd m id L') (hdel (hset H id o') b) F w' := by
    refine ⟨upd_le L' hid, fun β C e z ho hh => ⟨⟨ho.1, fun b1 o1 L1 hb1 hf1 hm1 => ?_⟩, by rw [hold β (fun e => ho.2 b o L hb hf hm e.symm)]; exact hh⟩⟩
    rcases get hb1 with ⟨rfl, _⟩ | ⟨_, h2, h3⟩
    · rw [upd_same] at hm1; cases hm1; rw [hL]; exact ho.2 b o L hb hf hm
    · rw [upd_ne m L' h2] at hm1; exact ho.2 b1 o1 L1 h3 hf1 hm1
  refine ⟨hx, fun hobj => ⟨hs.xlt, fun b1 o1 hb1 => ?_, fun b1 o1 b2 o2 L1 L2 h1 h2 h3 h4 h5 => ?_, fun b1 o1 L1 hb1 hm1 => ?_, fun b1 o1 L1 hb1 hm1 => ?_, ?_⟩⟩
  · rcases get hb1 with ⟨rfl, rfl⟩ | ⟨h1, h2, h3⟩
    · exact .inl ⟨L', upd_same _ _ _, hobj⟩
    · rcases hs.all b1 o1 h3 with ⟨L1, k1, k2⟩ | k1
      · refine .inl ⟨L1, by rw [upd_ne m L' h2]; exact k1, ObjR.mono k2 hx.kk hx.mm (hold _ fun e => h1 ?_)⟩
        exact hs.inj b1 o1 b o L1 L h3 hb k1 hm e
      · exact .inr (by rw [upd_ne m L' h2]; exact k1)
  · rcases get h1 with ⟨rfl, _⟩ | ⟨p1, p2, p3⟩ <;> rcases get h2 with ⟨rfl, _⟩ | ⟨q1, q2, q3⟩
    · rfl
    · rw [upd_same] at h3; cases h3
      rw [upd_ne m L' q2] at h4
      exact absurd (hs.inj b o b2 o2 L L2 hb q3 hm h4 (hL.symm.trans h5)).symm q1
    · rw [upd_same] at h4; cases h4
      rw [upd_ne m L' p2] at h3
      exact absurd (hs.inj b1 o1 b o L1 L p3 hb h3 hm (h5.trans hL)) p1
    · rw [upd_ne m L' p2] at h3
      rw [upd_ne m L' q2] at h4
      exact hs.inj b1 o1 b2 o2 L1 L2 p3 q3 h3 h4 h5
  · rcases get hb1 with ⟨rfl, _⟩ | ⟨p1, p2, p3⟩
    · rw [upd_same] at hm1; cases hm1; rw [hL]; exact hs.nox b o L hb hm
    · rw [upd_ne m L' p2] at hm1; exact hs.nox b1 o1 L1 p3 hm1
  · rcases get hb1 with ⟨rfl, _⟩ | ⟨p1, p2, p3⟩
    · rw [upd_same] at hm1; cases hm1; rw [hL]; exact hs.own b o L hb hm
    · rw [upd_ne m L' p2] at hm1; exact hs.own b1 o1 L1 p3 hm1
  · have hk := hs.keep
    refine ⟨ha.os.trans hk.os, ha.tape.trans hk.tape, ha.output.trans hk.output, by have := hk.size; omega, fun β hb' ho => ?_⟩
    rw [hold β fun e => ?_]
    · exact hk.block β hb' ho
    · rcases hs.own b o L hb hm with h | h
      · rw [← e] at h; exact ho h
      · omega

omit [Syms] in
theorem dom_upd {id : Nat} {L : Loc} {m : Map} : ∀ b, upd m id L b ≠ none → m b ≠ none ∨ (id ≤ b ∧ b < id + STRIDE) := by
  intro b hb
  by_cases e : b = id
  · subst e; exact .inr ⟨Nat.le_refl _, by unfold STRIDE; omega⟩
  · rw [upd_ne m L e] at hb; exact .inl hb

end
end Go.Proofs.YtopkeglpafdlfaaGreat.VS
