/- Indexes, cuts, sums, comparisons, lengths: the model answers what the abstract machine does. Conditions: none. -/
import Derived.Test.YtopkeglpafdlfaaGreatVS6
namespace Go.Proofs.YtopkeglpafdlfaaGreat.VS
variable [Syms]

section
variable {ok : Nat → Prop} {h : Array Obj} {m : Map}

theorem VR.sl_inv {xs : List AV} {v : Value} (H : VR ok h m (.sl xs) v) (hne : xs ≠ []) :
    ∃ (β o : Nat) (C : Array Value) (e : TypeId) (z : Nat × Nat) (s c : Nat), v = .slice (some ⟨β, o, none⟩) xs.length c ∧ ok β ∧ h[β]? = some (.cells C e z) ∧ 0 < s ∧ (∀ x ∈ xs, x.cells.length = s) ∧ xs.length ≤ c ∧ CR ok h noMap (flat xs) C o := by
  cases H with
  | slE h1 => exact absurd rfl hne
  | sl g h1 h2 h3 h4 h5 h6 h7 h8 h9 => subst h2; exact ⟨_, _, _, _, _, _, _, rfl, h3, h4, h5, h6, h7, CR.mk h8 h9⟩

theorem VR.sl_any {xs : List AV} {v : Value} (H : VR ok h m (.sl xs) v) : ∃ a c, v = .slice a xs.length c ∧ xs.length ≤ c := by
  cases H with
  | slE h1 => exact ⟨_, _, rfl, Nat.zero_le _⟩
  | sl g h1 h2 h3 h4 h5 h6 h7 h8 h9 => subst h2; exact ⟨_, _, rfl, h7⟩

theorem VR.osl_inv {s b lo len : Nat} {v : Value} (H : VR ok h m (.osl s b lo len) v) : ∃ L, m b = some L ∧ 0 < s ∧ L.sz = s ∧
    ((len = 0 ∧ L.ext ≤ lo ∧ ∃ a, v = .slice (some a) 0 0) ∨
     (∃ c, v = .slice (some ⟨L.blk, L.off + lo * s, none⟩) len c ∧ lo + len ≤ L.ext ∧ L.ext ≤ lo + c ∧ L.off + (lo + c) * s ≤ L.csz)) := by
  cases H with
  | oslE h1 h2 h3 h4 => exact ⟨_, h1, h3, h4, .inl ⟨rfl, h2, _, rfl⟩⟩
  | osl h1 h2 h3 h4 h5 h6 h7 h8 => subst h5; subst h6; exact ⟨_, h1, h3, h4, .inr ⟨_, rfl, h2, h7, h8⟩⟩

theorem VR.osl_any {s b lo len : Nat} {v : Value} (H : VR ok h m (.osl s b lo len) v) : ∃ a c, v = .slice (some a) len c ∧ len ≤ c := by
  obtain ⟨L, h1, h2, h3, h4⟩ := H.osl_inv
  rcases h4 with ⟨rfl, _, a, rfl⟩ | ⟨c, rfl, h5, h6, _⟩
  · exact ⟨_, _, rfl, Nat.le_refl _⟩
  · exact ⟨_, _, rfl, by omega⟩

/-- An option of a value on both sides. -/
def OVR (ok : Nat → Prop) (h : Array Obj) (m : Map) : Option AV → Option Value → Prop
  | none, none => True
  | some a, some v => VR ok h m a v
  | _, _ => False
end

section
variable {P : Program} {T : Tabs} {ok : Nat → Prop} {m : Map} {w : World}

theorem mapO_vr {fr : Fr} {a : Act} (hf : FrR ok w.heap m fr a.tmps) (x : Option Operand) : OVR ok w.heap m (mapO fr x) (x.map a.eval) := by
  cases x with
  | none => trivial
  | some x => exact opnd_vr hf x

theorem sim_indexAddr (hT : TyOK P T) {t : TypeId} {x ix v : AV} (h : aindexAddr T t x ix = some v) {vx vi : Value} (hx : VR ok w.heap m x vx) (hi : VR ok w.heap m ix vi) :
    ∃ cv, (Instr.indexAt t vx vi).run P w = .ok cv w ∧ VR ok w.heap m v cv := by
  unfold aindexAddr at h
  split at h
  · rename_i k i
    cases hi
    split at h
    · rename_i e hk
      have hu := kind_slice hT hk
      split at h
      · rename_i n hn
        obtain ⟨ti, hti, hsz⟩ := szOf_some hT hn
        have row : ∀ {xs : List AV} {y : AV}, VR ok w.heap m (.sl xs) vx → xs[i]? = some y → y.cells.length = n → 0 < n →
            ∃ cv, (Instr.indexAt t vx (.int k i)).run P w = .ok cv w ∧ VR ok w.heap m (.cptr y) cv := by
          intro xs y hx hy hyn hn0
          have hil : i < xs.length := by
            rcases Nat.lt_or_ge i xs.length with hil | hil
            · exact hil
            · simp [List.getElem?_eq_none hil] at hy
          obtain ⟨β, o, C, et, z, s, c, rfl, k1, k2, k3, k4, k5, k6⟩ := hx.sl_inv (by intro e; subst e; simp at hil)
          have hys := k4 y (List.mem_of_getElem? hy)
          refine ⟨.pointer (some ⟨β, o + i * s, none⟩), ?_, ?_⟩
          · simp [Instr.indexAt, asIntOf, run_underlying hu, hil, run_sizeOf' hti, hsz, add_none, ← hyn, hys]
          · have hcr : CR ok w.heap noMap y.cells C (o + i * s) := by
              intro j q hq
              have hj : j < y.cells.length := by
                rcases Nat.lt_or_ge j y.cells.length with hj | hj
                · exact hj
                · simp [List.getElem?_eq_none hj] at hq
              obtain ⟨u, hu', hr⟩ := k6 _ _ ((flat_getElem? k4 hy (by omega)).trans hq)
              exact ⟨u, by rw [Nat.add_assoc]; exact hu', hr⟩
            obtain ⟨g, g1, g2⟩ := hcr.fun
            exact .cptr g k1 k2 g1 g2
        unfold idxSl at h
        split at h
        · rename_i xs
          split at h
          · rename_i y hy
            cases hc : y.cells.length.beq n && Nat.blt 0 n with
            | false => simp [hc] at h
            | true =>
              simp only [hc, cond_true, Option.some.injEq] at h
              simp only [Bool.and_eq_true] at hc
              subst h
              exact row hx hy (beq_eq' hc.1) (blt_lt hc.2)
          · cases h
        · rename_i s b lo len
          cases hc : i.blt len && s.beq n with
          | false => simp [hc] at h
          | true =>
            simp only [hc, cond_true, Option.some.injEq] at h
            simp only [Bool.and_eq_true] at hc
            have hil := blt_lt hc.1
            have hsn := beq_eq' hc.2
            subst h
            obtain ⟨L, k1, k2, k3, k4⟩ := hx.osl_inv
            rcases k4 with ⟨k5, _⟩ | ⟨c, rfl, _, _, _⟩
            · omega
            · refine ⟨.pointer (some ⟨L.blk, L.off + lo * s + i * s, none⟩), ?_, .eptr k1 rfl (by rw [k3, Nat.add_mul]; omega)⟩
              simp [Instr.indexAt, asIntOf, run_underlying hu, hil, run_sizeOf' hti, hsz, add_none, ← hsn]
        · rename_i g b len
          cases hc : i.blt len && g.size.beq n with
          | false => simp [hc] at h
          | true =>
            simp only [hc, cond_true, Option.some.injEq] at h
            simp only [Bool.and_eq_true] at hc
            have hil := blt_lt hc.1
            have hsn := beq_eq' hc.2
            subst h
            cases hx with
            | gsE => omega
            | gs hx =>
              obtain ⟨L, k1, k2, k3, k4⟩ := hx.osl_inv
              rcases k4 with ⟨k5, _⟩ | ⟨c, hv2, _, _, _⟩
              · omega
              · cases hv2
                refine ⟨.pointer (some ⟨L.blk, L.off + 0 * g.size + i * g.size, none⟩), ?_, .eptr k1 rfl (by rw [k3, Nat.zero_mul]; omega)⟩
                simp [Instr.indexAt, asIntOf, run_underlying hu, hil, run_sizeOf' hti, hsz, add_none, ← hsn]
        · rename_i gt xs
          split at h
          · rename_i y hy
            cases hc : gt.size.beq n with
            | false => simp [hc] at h
            | true =>
              simp only [hc, cond_true, Option.some.injEq] at h
              subst h
              have hn' := beq_eq' hc
              cases hx with
              | tl hx => exact row (y := enc gt y) hx (by simp [encs, hy]) (by rw [enc_size]; exact hn') (by rw [← hn']; exact gt.size_pos)
          · cases h
        · cases h
      · cases h
    · rename_i len e hk
      have hu := kind_array hT hk
      split at h
      · rename_i n hn
        obtain ⟨ti, hti, hsz⟩ := szOf_some hT hn
        unfold idxArr at h
        split at h
        · rename_i b off
          cases hc : i.blt len with
          | false => simp [hc] at h
          | true =>
            simp only [hc, cond_true, Option.some.injEq] at h
            have hil := blt_lt hc
            subst h
            obtain ⟨L, k1, rfl⟩ := hx.ptr_inv
            refine ⟨.pointer (some ⟨L.blk, L.off + off + i * n, none⟩), ?_, .ptr k1 rfl (by omega)⟩
            simp [Instr.indexAt, asIntOf, run_underlying hu, Instr.sureAddr, hil, run_sizeOf' hti, hsz, add_none]
        · cases h
      · cases h
    · cases h
  · cases h

omit [Syms] in
theorem str_get {l : List UInt8} {s : ByteArray} (hs : s.data.toList = l) (i : Nat) : s[i]? = l[i]? := by
  subst hs
  by_cases h : i < s.size
  · rw [getElem?_pos s i h]
    simp [ByteArray.getElem_eq_getElem_data]
  · rw [getElem?_neg s i h]
    simp
    exact Nat.le_of_not_lt h

theorem sim_index (hT : TyOK P T) {t : TypeId} {x ix v : AV} (h : aindex T t x ix = some v) {vx vi : Value} (hx : VR ok w.heap m x vx) (hi : VR ok w.heap m ix vi) :
    ∃ cv, (Instr.index t vx vi).run P w = .ok cv w ∧ VR ok w.heap m v cv := by
  unfold aindex at h
  split at h
  · rename_i s k i hk
    have hu := kind_str hT hk
    cases hi
    obtain ⟨bs, rfl, hbs⟩ := hx.str_inv
    split at h
    · rename_i c hc
      cases h
      refine ⟨.int .u8 c.toNat, ?_, .int _ _⟩
      have := (str_get hbs i).trans hc
      simp [Instr.index, asIntOf, run_underlying hu, this]
    · cases h
  · rename_i len e cs k i hk
    have hu := kind_array hT hk
    cases hi
    split at h
    · rename_i n hn
      obtain ⟨ti, hti, hsz⟩ := szOf_some hT hn
      cases hc : i.blt len with
      | false => simp [hc] at h
      | true =>
        simp only [hc, cond_true] at h
        have hil := blt_lt hc
        obtain ⟨vs, rfl, hs, hr⟩ := hx.agg_inv
        obtain ⟨cv, h1, h2⟩ := sim_part hT h hr hs
        exact ⟨cv, by simpa [Instr.index, asIntOf, run_underlying hu, hil, run_sizeOf' hti, hsz] using h1, h2⟩
    · cases h
  · cases h

theorem run_bound {a : AV} {v : Value} {i y : Nat} (hb : bnd 0 (some a) = some i) (hv : VR ok w.heap m a v) (hle : i ≤ y) (code : BoundsCode) : (Instr.sliceBound v y code).run P w = .ok i w := by
  unfold bnd at hb
  split at hb
  · rename_i heq; cases heq
  · rename_i k n heq
    cases heq; cases hb
    cases hv
    simp [Instr.sliceBound, asIntOf, hle]
  · cases hb

theorem run_sliceBounds {lo hi : Option AV} {clo chi : Option Value} (hlo : OVR ok w.heap m lo clo) (hhi : OVR ok w.heap m hi chi) {n c l r : Nat} (hb : bnds n lo hi = some (l, r)) (hnc : n ≤ c) (isS : Bool) :
    (Instr.sliceBounds isS n c clo chi none).run P w = .ok (l, r, c) w ∧ l ≤ r ∧ r ≤ n := by
  unfold bnds at hb
  split at hb
  · rename_i l' r' h1 h2
    cases hc : l'.ble r' && r'.ble n with
    | false => simp [hc] at hb
    | true =>
      simp only [hc, cond_true, Option.some.injEq, Prod.mk.injEq] at hb
      obtain ⟨rfl, rfl⟩ := hb
      simp only [Bool.and_eq_true] at hc
      have hlr := ble_le hc.1
      have hrn := ble_le hc.2
      refine ⟨?_, hlr, hrn⟩
      have hnone : ∀ d e : Nat, bnd d none = some e → e = d := fun d e h => by simpa [bnd] using h.symm
      have hany : ∀ (a : AV) (d d' : Nat), bnd d (some a) = bnd d' (some a) := fun a d d' => by
        cases a <;> try rfl
        rename_i k n; cases n <;> rfl
      cases lo with
      | none =>
        cases clo with
        | some _ => exact hlo.elim
        | none =>
          have := hnone _ _ h1; subst this
          cases hi with
          | none =>
            cases chi with
            | some _ => exact hhi.elim
            | none => have := hnone _ _ h2; subst this; simp [Instr.sliceBounds]
          | some b =>
            cases chi with
            | none => exact hhi.elim
            | some vb =>
              have := run_bound (P := P) (y := c) ((hany b 0 n).trans h2) hhi (by omega) (if isS then .sliceAcap else .sliceAlen)
              simp [Instr.sliceBounds, this]
      | some a =>
        cases clo with
        | none => exact hlo.elim
        | some va =>
          cases hi with
          | none =>
            cases chi with
            | some _ => exact hhi.elim
            | none =>
              have := hnone _ _ h2; subst this
              have := run_bound (P := P) h1 hlo hlr .sliceB
              simp [Instr.sliceBounds, this]
          | some b =>
            cases chi with
            | none => exact hhi.elim
            | some vb =>
              have k1 := run_bound (P := P) (y := c) ((hany b 0 n).trans h2) hhi (by omega) (if isS then .sliceAcap else .sliceAlen)
              have k2 := run_bound (P := P) h1 hlo hlr .sliceB
              simp [Instr.sliceBounds, k1, k2]
  · cases hb

omit [Syms] in
theorem run_cut {t e : TypeId} {ti : TypeInfo} (hu : P.underlying t = some (.slice e)) (hti : P.info? e = some ti) {a : Option Addr} {n c l r : Nat} {clo chi : Option Value}
    (hr : (Instr.sliceBounds true n c clo chi none).run P w = .ok (l, r, c) w) :
    (Instr.sliceAt t (.slice a n c) clo chi none).run P w = .ok (.slice (if c = l then a else a.map (·.add (l * ti.size))) (r - l) (c - l)) w := by
  simp only [Instr.sliceAt, Sem.run_bind, run_underlying hu, Result.andThen_ok, Instr.slice, hr, run_sizeOf' hti, Sem.run_pure]

theorem sim_slice (hT : TyOK P T) {t : TypeId} {x v : AV} {lo hi mx : Option AV} (h : aslice T t x lo hi mx = some v) {vx : Value} {clo chi cmx : Option Value} (hx : VR ok w.heap m x vx)
    (hlo : OVR ok w.heap m lo clo) (hhi : OVR ok w.heap m hi chi) (hmx : OVR ok w.heap m mx cmx) :
    ∃ cv, (Instr.sliceAt t vx clo chi cmx).run P w = .ok cv w ∧ VR ok w.heap m v cv := by
  unfold aslice at h
  cases mx with
  | some _ => cases h
  | none =>
  cases cmx with
  | some _ => exact hmx.elim
  | none =>
  simp only at h
  split at h
  · rename_i hk
    have hu := kind_str hT hk
    split at h
    · rename_i s
      obtain ⟨bs, rfl, hbs⟩ := hx.str_inv
      split at h
      · rename_i p hp
        cases h
        have hsz : bs.size = s.length := by rw [← hbs]; exact Array.length_toList.symm
        obtain ⟨hr, hl, hn⟩ := run_sliceBounds (P := P) hlo hhi (l := p.1) (r := p.2) hp (Nat.le_refl _) false
        rw [← hsz] at hr
        refine ⟨.string (bs.extract p.1 p.2), by
          simp only [Instr.sliceAt, Sem.run_bind, run_underlying hu, Result.andThen_ok, Instr.slice, Option.isSome_none, Bool.false_eq_true, if_false, hr, Sem.run_pure], .str _ _ ?_⟩
        rw [ByteArray.data_extract, Array.toList_extract, hbs, List.extract_eq_take_drop, List.drop_take]
      · cases h
    · cases h
  · rename_i e hk
    have hu := kind_slice hT hk
    split at h
    · rename_i n hn
      obtain ⟨ti, hti, hsz⟩ := szOf_some hT hn
      have row0 : ∀ {p : Nat × Nat}, VR ok w.heap m (.sl []) vx → bnds 0 lo hi = some p → ∃ cv, (Instr.sliceAt t vx clo chi none).run P w = .ok cv w ∧ VR ok w.heap m (.sl []) cv := by
        intro p hx hp
        have hnil : ∀ (a : Option Addr) (c : Nat), vx = .slice a 0 c → a = none → c = 0 := by
          intro a c hv
          subst hv
          cases hx with
          | slE h1 => exact h1
          | sl g h1 => exact absurd rfl h1
        obtain ⟨a, c, rfl, hc⟩ := hx.sl_any
        obtain ⟨hr, hl, hn'⟩ := run_sliceBounds (P := P) hlo hhi (l := p.1) (r := p.2) hp hc true
        refine ⟨_, run_cut hu hti hr, ?_⟩
        have h1 : p.1 = 0 := by omega
        have h2 : p.2 = 0 := by omega
        simp only [h1, h2]
        refine .slE fun hn => ?_
        cases a with
        | none => simp [hnil none c rfl rfl]
        | some a => simp only [Option.map_some] at hn; split at hn <;> cases hn
      have row1 : ∀ {p : Nat × Nat} {x : AV} {xs : List AV}, VR ok w.heap m (.sl (x :: xs)) vx → bnds (x :: xs).length lo hi = some p → x.cells.length = n + 1 →
          ∃ cv, (Instr.sliceAt t vx clo chi none).run P w = .ok cv w ∧ VR ok w.heap m (.sl (((x :: xs).take p.2).drop p.1)) cv := by
        intro p x xs hx hp hxn
        obtain ⟨β, o, C, et, z, s, c, rfl, k1, k2, k3, k4, k5, k6⟩ := hx.sl_inv (by simp)
        have hxs := k4 x (by simp)
        obtain ⟨hr, hl, hn'⟩ := run_sliceBounds (P := P) hlo hhi (l := p.1) (r := p.2) (by simpa using hp) k5 true
        refine ⟨_, run_cut hu hti hr, ?_⟩
        by_cases he : p.2 = p.1
        · have : List.drop p.1 (List.take p.2 (x :: xs)) = [] := by
            rw [he]; exact List.drop_of_length_le (by simp; omega)
          rw [this, he, Nat.sub_self]
          exact .slE (by intro hn; simp only [Option.map_some] at hn; split at hn <;> cases hn)
        · have hcl : ¬ c = p.1 := by omega
          rw [if_neg hcl]
          simp only [Option.map_some, add_none]
          have hss : ti.size = s := by omega
          rw [hss]
          refine .sl' (C := C) (e := et) (z := z) (s := s) ?_ ?_ k1 k2 k3 (fun y hy => k4 y (List.mem_of_mem_take (List.mem_of_mem_drop hy))) (by omega) ?_
          · intro e'
            have := congrArg List.length e'
            rw [List.length_drop, List.length_take, List.length_nil] at this
            omega
          · rw [List.length_drop, List.length_take]; omega
          · rw [flat_drop p.1 (fun y hy => k4 y (List.mem_of_mem_take hy)), flat_take p.2 k4]
            exact (k6.take _).drop _
      unfold asliceV at h
      split at h
      · split at h
        · rename_i p hp
          cases h
          cases hx
          obtain ⟨hr, hl, hn'⟩ := run_sliceBounds (P := P) hlo hhi (l := p.1) (r := p.2) hp (Nat.le_refl _) true
          refine ⟨_, run_cut hu hti hr, ?_⟩
          have h1 : p.1 = 0 := by omega
          have h2 : p.2 = 0 := by omega
          simp only [h1, h2]
          exact .nils
        · cases h
      · split at h
        · rename_i p hp
          cases h
          cases hx
          obtain ⟨hr, hl, hn'⟩ := run_sliceBounds (P := P) hlo hhi (l := p.1) (r := p.2) hp (Nat.le_refl _) true
          refine ⟨_, run_cut hu hti hr, ?_⟩
          have h1 : p.1 = 0 := by omega
          have h2 : p.2 = 0 := by omega
          simp only [h1, h2]
          exact .emp
        · cases h
      · split at h
        · rename_i p hp
          cases h
          exact row0 hx hp
        · cases h
      · rename_i x xs
        split at h
        · rename_i p hp
          cases hc : x.cells.length.beq (n + 1) with
          | false => simp [hc] at h
          | true =>
            simp only [hc, cond_true, Option.some.injEq] at h
            subst h
            exact row1 (x := x) (xs := xs) hx (by simpa using hp) (beq_eq' hc)
        · cases h
      · rename_i s b o len
        split at h
        · rename_i p hp
          cases hc : s.beq (n + 1) with
          | false => simp [hc] at h
          | true =>
            simp only [hc, cond_true, Option.some.injEq] at h
            have hsn := beq_eq' hc
            subst h
            obtain ⟨L, k1, k2, k3, k4⟩ := hx.osl_inv
            rcases k4 with ⟨k5, k6, a, rfl⟩ | ⟨c, rfl, k5, k6, k7⟩
            · subst k5
              obtain ⟨hr, hl, hn'⟩ := run_sliceBounds (P := P) hlo hhi (l := p.1) (r := p.2) hp (Nat.le_refl _) true
              refine ⟨_, run_cut hu hti hr, ?_⟩
              have h1 : p.1 = 0 := by omega
              have h2 : p.2 = 0 := by omega
              simp only [h1, h2, if_true, Nat.add_zero, Nat.sub_self]
              exact .oslE k1 k6 k2 k3
            · obtain ⟨hr, hl, hn'⟩ := run_sliceBounds (P := P) hlo hhi (l := p.1) (r := p.2) hp (show len ≤ c by omega) true
              refine ⟨_, run_cut hu hti hr, ?_⟩
              by_cases he : c = p.1
              · have h2 : p.2 - p.1 = 0 := by omega
                have h3 : c - p.1 = 0 := by omega
                rw [if_pos he, h2, h3]
                exact .oslE k1 (by omega) k2 k3
              · rw [if_neg he]
                simp only [Option.map_some, add_none]
                have hss : ti.size = s := by omega
                rw [hss]
                refine .osl k1 (by omega) k2 k3 rfl (by rw [Nat.add_mul]; omega) (by omega) ?_
                rw [show o + p.1 + (c - p.1) = o + c by omega]; exact k7
        · cases h
      · rename_i gt xs
        split at h
        · rename_i p hp
          cases hc : gt.size.beq (n + 1) with
          | false => simp [hc] at h
          | true =>
            simp only [hc, cond_true, Option.some.injEq] at h
            subst h
            cases hx with
            | tl hx =>
              cases xs with
              | nil =>
                obtain ⟨cv, g1, g2⟩ := row0 hx hp
                exact ⟨cv, g1, .tl (by simpa [encs] using g2)⟩
              | cons y ys =>
                obtain ⟨cv, g1, g2⟩ := row1 (x := enc gt y) (xs := encs gt ys) hx (by simpa [encs] using hp) (by rw [enc_size]; exact beq_eq' hc)
                refine ⟨cv, g1, .tl ?_⟩
                have : encs gt (((y :: ys).take p.2).drop p.1) = (((enc gt y :: encs gt ys).take p.2).drop p.1) := by
                  simp [encs, List.map_take, List.map_drop]
                rw [this]; exact g2
        · cases h
      · cases h
    · cases h
  · cases h

end
end Go.Proofs.YtopkeglpafdlfaaGreat.VS
