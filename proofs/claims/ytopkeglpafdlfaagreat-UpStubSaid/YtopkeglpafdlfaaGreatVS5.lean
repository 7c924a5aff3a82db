/- Loads, stores, new variables: the model's and the abstract machine's. Conditions: none. -/
import Derived.Test.YtopkeglpafdlfaaGreatVS4
namespace Go.Proofs.YtopkeglpafdlfaaGreat.VS
variable [Syms]

/-- A row with some cells set. -/
def setArr (C : Array Value) : Nat → List Value → Array Value
  | _, [] => C
  | o, v :: r => setArr (C.setIfInBounds o v) (o + 1) r

omit [Syms] in
theorem size_setArr : ∀ (vs : List Value) (C : Array Value) (o : Nat), (setArr C o vs).size = C.size
  | [], _, _ => rfl
  | v :: r, C, o => by rw [setArr, size_setArr r]; simp

omit [Syms] in
theorem getElem?_setArr : ∀ (vs : List Value) (C : Array Value) (o j : Nat), o + vs.length ≤ C.size →
    (setArr C o vs)[j]? = if o ≤ j ∧ j < o + vs.length then vs[j - o]? else C[j]?
  | [], C, o, j, _ => by simp [setArr]; omega
  | v :: r, C, o, j, h => by
    simp only [List.length_cons] at h ⊢
    rw [setArr, getElem?_setArr r _ _ _ (by simp; omega), Array.getElem?_setIfInBounds]
    by_cases h1 : o + 1 ≤ j ∧ j < o + 1 + r.length
    · rw [if_pos h1, if_pos (by omega), show j - o = (j - (o + 1)) + 1 by omega, List.getElem?_cons_succ]
    · rw [if_neg h1]
      by_cases h2 : o = j
      · subst h2
        rw [if_pos rfl, if_pos (by omega), if_pos (by omega)]
        simp
      · rw [if_neg h2, if_neg (by omega)]

omit [Syms] in
theorem heap_setCell_at {w : World} {β : Nat} {C : Array Value} {e : TypeId} {z : Nat × Nat} (h : w.heap[β]? = some (.cells C e z)) (o : Nat) (v : Value) :
    (w.setCell ⟨β, o, none⟩ v).heap[β]? = some (.cells (C.setIfInBounds o v) e z) := by
  simp only [World.setCell, Array.getElem?_modify, h]
  simp

omit [Syms] in
theorem heap_setCells : ∀ (vs : List Value) {w : World} {β : Nat} {C : Array Value} {e : TypeId} {z : Nat × Nat} (_ : w.heap[β]? = some (.cells C e z)) (o : Nat),
    (w.setCells β o vs).heap[β]? = some (.cells (setArr C o vs) e z)
  | [], _, _, _, _, _, h, _ => h
  | v :: r, w, β, C, e, z, h, o => by rw [World.setCells, setArr]; exact heap_setCells r (heap_setCell_at h o v) (o + 1)

omit [Syms] in
theorem heap_setCells_ne : ∀ (vs : List Value) (w : World) (β o γ : Nat), γ ≠ β → (w.setCells β o vs).heap[γ]? = w.heap[γ]?
  | [], _, _, _, _, _ => rfl
  | v :: r, w, β, o, γ, h => by
    rw [World.setCells, heap_setCells_ne r _ _ _ _ h, heap_setCell_other _ _ _ _ h]

omit [Syms] in
theorem setCells_alike : ∀ (vs : List Value) (w : World) (β o : Nat), Alike w (w.setCells β o vs) ∧ (w.setCells β o vs).heap.size = w.heap.size
  | [], w, _, _ => ⟨⟨rfl, rfl, rfl⟩, rfl⟩
  | v :: r, w, β, o => by
    have := setCells_alike r (w.setCell ⟨β, o, none⟩ v) β (o + 1)
    rw [World.setCells]
    exact ⟨⟨this.1.os, this.1.tape, this.1.output⟩, by rw [this.2]; simp⟩

omit [Syms] in
theorem setCells_length {cs : List AV} {off : Nat} {new : List AV} (h : off + new.length ≤ cs.length) : (setCells cs off new).length = cs.length := by
  simp [setCells]; omega

omit [Syms] in
theorem getElem?_setCells {cs : List AV} {off : Nat} {new : List AV} (h : off + new.length ≤ cs.length) (j : Nat) :
    (setCells cs off new)[j]? = if off ≤ j ∧ j < off + new.length then new[j - off]? else cs[j]? := by
  unfold setCells
  have hl : (cs.take off).length = off := by rw [List.length_take]; omega
  by_cases h1 : j < off
  · rw [if_neg (by omega), List.append_assoc, List.getElem?_append_left (by omega), List.getElem?_take, if_pos h1]
  · by_cases h2 : j < off + new.length
    · rw [if_pos (by omega), List.append_assoc, List.getElem?_append_right (by omega), List.getElem?_append_left (by omega), hl]
    · rw [if_neg (by omega), List.getElem?_append_right (by simp; omega), List.getElem?_drop]
      congr 1
      simp
      omega

section
variable {P : Program} {ok : Nat → Prop} {m : Map} {h : Array Obj}

/-- Cells set on both sides. -/
theorem CR.set {cs : List AV} {C : Array Value} {o off : Nat} {new : List AV} {vs : Array Value} (hr : CR ok h m cs C o) (hn : CR ok h m new vs 0) (hs : vs.size = new.length)
    (hle : off + new.length ≤ cs.length) (hC : o + cs.length ≤ C.size) : CR ok h m (setCells cs off new) (setArr C (o + off) vs.toList) o := by
  intro j x hx
  rw [getElem?_setCells hle] at hx
  rw [getElem?_setArr _ _ _ _ (by simp; omega)]
  simp only [Array.length_toList, hs]
  by_cases h1 : off ≤ j ∧ j < off + new.length
  · rw [if_pos h1] at hx
    obtain ⟨v, hv, hr'⟩ := hn _ _ hx
    refine ⟨v, ?_, hr'⟩
    rw [if_pos (by omega)]
    rw [Nat.zero_add] at hv
    rw [show o + j - (o + off) = j - off by omega]
    simpa using hv
  · rw [if_neg h1] at hx
    obtain ⟨v, hv, hr'⟩ := hr _ _ hx
    exact ⟨v, by rw [if_neg (by omega)]; exact hv, hr'⟩

omit [Syms] in
theorem noMap_le (m : Map) : MLe noMap m := fun _ _ h => by cases h

theorem CR.any {cs : List AV} {C : Array Value} {o : Nat} (hr : CR ok h noMap cs C o) : CR ok h m cs C o := hr.mono (fun _ _ _ _ a b => ⟨a, b⟩) (noMap_le m)

omit [Syms] in
theorem fits_one {a : AV} (hf : a.fits = true) : ∀ x ∈ a.cells, x.one = true := by
  intro x hx
  cases a with
  | agg cs => exact (List.all_eq_true.1 hf) x hx
  | dead => simp [AV.fits] at hf
  | tup vs => simp [AV.fits] at hf
  | _ => simp [AV.cells] at hx; subst hx; rfl

/-- A value that may be stored: its cells, on both sides. -/
theorem VR.stored {a : AV} {v : Value} (H : VR ok h m a v) (hf : a.fits = true) :
    v.cells.size = a.cells.length ∧ CR ok h m a.cells v.cells 0 ∧ ∀ x ∈ v.cells, x.oneCell' = true := by
  obtain ⟨h1, h2⟩ := H.cells (fun vs e => by subst e; simp [AV.fits] at hf) (fun e => by subst e; simp [AV.fits] at hf)
  refine ⟨h1, h2, fun x hx => ?_⟩
  obtain ⟨j, hj, rfl⟩ := Array.mem_iff_getElem.1 hx
  have hj' : j < a.cells.length := by omega
  obtain ⟨u, hu, hr⟩ := h2 j a.cells[j] (List.getElem?_eq_getElem hj')
  rw [Nat.zero_add, Array.getElem?_eq_getElem hj] at hu
  cases hu
  exact (hr.one (fits_one hf _ (List.getElem_mem hj'))).1

end

section
variable {P : Program} {T : Tabs} {c : Ctx} {m : Map} {H : Heap} {F : List Nat} {w : World}

/-- The cells that an address leads to, on both sides. -/
theorem SR.addr (hs : SR c m H F w) {a : AV} {q : List AV × Nat} (hc : cellsAt H a = some q) {v : Value} (hv : VR (okB c.X m H F) w.heap m a v) :
    ∃ (β o : Nat) (C : Array Value) (e : TypeId) (z : Nat × Nat), v = .pointer (some ⟨β, o + q.2, none⟩) ∧ w.heap[β]? = some (.cells C e z) ∧ CR (okB c.X m H F) w.heap m q.1 C o := by
  unfold cellsAt at hc
  split at hc
  · rename_i b off
    split at hc
    · rename_i cs hb
      cases hc
      cases hv with
      | ptr h1 h2 h3 =>
        obtain ⟨L', k1, k0, C, e, z, k2, k3, k4, k5⟩ := hs.obj b _ hb
        rw [h1] at k1; cases k1
        subst h2; subst h3
        exact ⟨_, 0, C, e, z, by simp [k0], k2, k5⟩
    · cases hc
  · rename_i b i off
    have arr : ∀ {s : Nat} {xs : List AV}, (∀ L, m b = some L → ArrR (okB c.X m H F) w.heap m L s xs) → ∀ {x : AV}, xs[i]? = some x → q = (x.cells, off) →
        ∃ (β o : Nat) (C : Array Value) (e : TypeId) (z : Nat × Nat), v = .pointer (some ⟨β, o + q.2, none⟩) ∧ w.heap[β]? = some (.cells C e z) ∧ CR (okB c.X m H F) w.heap m q.1 C o := by
      intro s xs hA x hx hq
      subst hq
      cases hv with
      | eptr h1 h2 h3 =>
        obtain ⟨ks, kp, ke, kl, C, e, z, k2, k3, k4, k5, k6⟩ := hA _ h1
        subst h2; subst h3
        refine ⟨_, _, C, e, z, rfl, k2, fun j y hy => ?_⟩
        have hj : j < x.cells.length := by
          rcases Nat.lt_or_ge j x.cells.length with hj | hj
          · exact hj
          · simp [List.getElem?_eq_none hj] at hy
        rw [kl x (List.mem_of_getElem? hx)] at hj
        obtain ⟨u, hu, hr⟩ := k6 _ _ ((flat_getElem? kl hx hj).trans hy)
        exact ⟨u, by rw [ks, Nat.add_assoc]; exact hu, hr⟩
    split at hc
    · rename_i s xs hb
      split at hc
      · rename_i x hx
        cases hc
        exact arr (fun L hL => by
          exact hs.objm hb hL) hx rfl
      · cases hc
    · rename_i t xs hb
      split at hc
      · rename_i x hx
        cases hc
        exact arr (s := t.size) (xs := encs t xs) (fun L hL => hs.objm hb hL) (x := enc t x) (by simp [encs, hx]) rfl
      · cases hc
    · cases hc
  · rename_i x
    cases hc
    cases hv with
    | cptr g h1 h2 h3 h4 => exact ⟨_, _, _, _, _, by simp, h2, (CR.mk h3 h4).any⟩
  · cases hc

theorem sim_aload (hT : TyOK P T) (hs : SR c m H F w) {t : TypeId} {a x : AV} (ha : aload T H t a = some x) {v : Value} (hv : VR (okB c.X m H F) w.heap m a v) :
    ∃ cv, (Instr.loadAt t v).run P w = .ok cv w ∧ VR (okB c.X m H F) w.heap m x cv := by
  unfold aload at ha
  split at ha
  · rename_i q hq
    obtain ⟨β, o, C, e, z, rfl, hC, hr⟩ := hs.addr hq hv
    obtain ⟨cv, h1, h2⟩ := sim_take hT ha hC hr
    exact ⟨cv, by simp [Instr.loadAt, Instr.sureAddr, h1], h2⟩
  · cases ha

omit [Syms] in
theorem hlive_some {b : Nat} {o : AObj} (h : hlive H F b = some o) : hget H b = some o ∧ b ∉ F := by
  unfold hlive at h
  cases hb : isIn b F with
  | true => simp [hb] at h
  | false => simp [hb] at h; exact ⟨h, (isIn_false b F).1 hb⟩

omit [Syms] in
theorem fitsN_some {n : Nat} {v : AV} (h : fitsN n v = true) : v.fits = true ∧ v.cells.length = n := by
  unfold fitsN at h
  simp only [Bool.and_eq_true] at h
  exact ⟨h.1, Nat.eq_of_beq_eq_true h.2⟩

omit [Syms] in
/-- Cells stored at an address. -/
theorem run_stored {β o : Nat} {C : Array Value} {e : TypeId} {z : Nat × Nat} (hC : w.heap[β]? = some (.cells C e z)) {s : Nat} (hz : NoFz s C z) {t : TypeId} {i : TypeInfo} (hi : P.info? t = some i) {v : Value}
    (hsz : v.cells.size = i.size) (hle : o + i.size ≤ C.size) (h1 : ∀ x ∈ v.cells, x.oneCell' = true) :
    (Instr.storeAt t (.pointer (some ⟨β, o, none⟩)) v).run P w = .ok () (w.setCells β o v.cells.toList) := by
  have := run_storeCells_cells (P := P) β o v.cells.toList 0 w (fun j hj => by
      rw [cell_of hC, Nat.add_zero]
      simp only [Array.length_toList] at hj
      simp [show o + j < C.size by omega]) (fun j hj => frozen_of hC hz (by simp only [Array.length_toList] at hj; omega)) (fun x hx => h1 x (by simpa using hx))
  simp [Instr.storeAt, Instr.sureAddr, storeVar, run_sizeOf' hi, hsz, this]

omit [Syms] in
theorem flat_set {s : Nat} {xs : List AV} {i : Nat} {x y : AV} (h : ∀ x ∈ xs, x.cells.length = s) (hx : xs[i]? = some x) (hy : y.cells.length = s) :
    flat (xs.set i y) = setCells (flat xs) (i * s) y.cells := by
  have hi : i < xs.length := by
    rcases Nat.lt_or_ge i xs.length with hi | hi
    · exact hi
    · simp [List.getElem?_eq_none hi] at hx
  rw [List.set_eq_take_append_cons_drop, if_pos hi, flat_append, flat_cons, flat_take i h, flat_drop (i + 1) h]
  simp only [setCells, hy, List.append_assoc]
  congr 3
  rw [Nat.add_mul]; omega

omit [Syms] in
theorem setPart_some {x y : AV} {off : Nat} {new : List AV} (h : setPart x off new = some y) (h1 : ∀ z ∈ new, z.one = true) :
    off + new.length ≤ x.cells.length ∧ y.cells = setCells x.cells off new ∧ y.cells.length = x.cells.length := by
  have single : ∀ {x : AV} {y : AV} {off : Nat} {new : List AV}, x.cells = [x] → (match off, new with | 0, [v] => some v | _, _ => none) = some y → (∀ z ∈ new, z.one = true) →
      off + new.length ≤ x.cells.length ∧ y.cells = setCells x.cells off new ∧ y.cells.length = x.cells.length := by
    intro x y off new hx hm hn
    split at hm
    · cases hm
      have hc : ∀ v : AV, v.one = true → v.cells = [v] := fun v hv => by cases v <;> first | rfl | simp [AV.one] at hv
      rw [hx, hc y (hn y (by simp))]
      simp [setCells]
    · cases hm
  unfold setPart at h
  split at h
  · rename_i cs
    cases hle : (off + new.length).ble cs.length with
    | false => simp [hle] at h
    | true =>
      simp only [hle, cond_true, Option.some.injEq] at h
      subst h
      have := Nat.le_of_ble_eq_true hle
      exact ⟨this, rfl, setCells_length this⟩
  · cases h
  · cases h
  · rename_i h3 h4 h5
    refine single ?_ h h1
    cases x <;> first | rfl | exact absurd rfl (h3 _) | exact absurd rfl (h5 _)

/-- A store. -/
theorem sim_astore (hT : TyOK P T) (hs : SR c m H F w) {t : TypeId} {a x : AV} {q : Nat × AObj} (ha : astore T H F t a x = some q) {va vx : Value} (hva : VR (okB c.X m H F) w.heap m a va) (hvx : VR (okB c.X m H F) w.heap m x vx) :
    ∃ w', (Instr.storeAt t va vx).run P w = .ok () w' ∧ Ext c m H F w m (hset H q.1 q.2) F w' ∧ SR c m (hset H q.1 q.2) F w' := by
  unfold astore at ha
  split at ha
  · rename_i n hn
    obtain ⟨i, hi, hin⟩ := szOf_some hT hn
    cases hf : fitsN n x with
    | false => simp [hf] at ha
    | true =>
      simp only [hf, cond_true] at ha
      obtain ⟨hfit, hlen⟩ := fitsN_some hf
      obtain ⟨k1, k2, k3⟩ := hvx.stored hfit
      split at ha
      · rename_i b off
        unfold astoreP at ha
        split at ha
        · rename_i cs hb
          obtain ⟨hb, hbF⟩ := hlive_some hb
          cases hle : (off + x.cells.length).ble cs.length with
          | false => simp [hle] at ha
          | true =>
            simp only [hle, cond_true, Option.some.injEq] at ha
            have hle := Nat.le_of_ble_eq_true hle
            subst ha
            obtain ⟨L, h1, rfl⟩ := hva.ptr_inv
            · obtain ⟨L', j1, j0, C, e, z, j2, j3, j4, j5⟩ := hs.obj b _ hb
              rw [h1] at j1; cases j1
              rw [j0, Nat.zero_add]
              have hrun := run_stored (o := off) j2 j4 hi (v := vx) (by omega) (by omega) k3
              obtain ⟨al, asz⟩ := setCells_alike vx.cells.toList w L.blk off
              obtain ⟨hx, hsr⟩ := hs.write hb hbF h1 al asz (o' := .cells (setCells cs off x.cells)) (fun γ hγ => heap_setCells_ne _ _ _ _ _ hγ)
              refine ⟨_, hrun, hx, hsr ⟨j0, _, _, _, heap_setCells _ j2 off, by rw [size_setArr, setCells_length hle]; exact j3, by rw [NoFz, size_setArr]; exact j4, ?_⟩⟩
              have := CR.set (j5.mono hx.kk hx.mm) (k2.mono hx.kk hx.mm) k1 hle (by omega)
              rwa [Nat.zero_add] at this
        · cases ha
      · rename_i b i' off
        unfold astoreE at ha
        split at ha
        · rename_i s xs hb
          obtain ⟨hb, hbF⟩ := hlive_some hb
          split at ha
          · rename_i y hy
            split at ha
            · rename_i y' hy'
              cases ha
              obtain ⟨p1, p2, p3⟩ := setPart_some hy' (fits_one hfit)
              obtain ⟨L, h1, rfl⟩ := hva.eptr_inv
              · obtain ⟨js, jp, je, jl, C, e, z, j2, j3, j4, j5, j6⟩ := hs.objm hb h1
                have hyl := jl y (List.mem_of_getElem? hy)
                have hi' : i' < xs.length := by
                  rcases Nat.lt_or_ge i' xs.length with hi | hi
                  · exact hi
                  · simp [List.getElem?_eq_none hi] at hy
                have hmul : i' * s + s ≤ xs.length * s := by
                  have := Nat.mul_le_mul_right s (show i' + 1 ≤ xs.length from hi')
                  rw [Nat.add_mul] at this; omega
                have hfl := flat_length jl
                have hrun := run_stored (o := L.off + i' * L.sz + off) j2 j4 hi (v := vx) (by omega) (by rw [js]; omega) k3
                obtain ⟨al, asz⟩ := setCells_alike vx.cells.toList w L.blk (L.off + i' * L.sz + off)
                obtain ⟨hx, hsr⟩ := hs.write hb hbF h1 al asz (o' := .arr s (xs.set i' y')) (fun γ hγ => heap_setCells_ne _ _ _ _ _ hγ)
                refine ⟨_, hrun, hx, hsr ⟨js, jp, by simpa using je, fun u hu => ?_, _, _, _, heap_setCells _ j2 _, by rw [size_setArr]; exact j3, by rw [NoFz, size_setArr]; exact j4, by rw [size_setArr]; simpa using j5, ?_⟩⟩
                · rcases List.mem_or_eq_of_mem_set hu with hu | rfl
                  · exact jl u hu
                  · omega
                · have hset : flat (xs.set i' y') = setCells (flat xs) (i' * s + off) x.cells := by
                    rw [flat_set jl hy (by omega), p2]
                    apply List.ext_getElem?
                    intro j
                    rw [getElem?_setCells (cs := flat xs) (off := i' * s) (by rw [setCells_length p1]; omega), getElem?_setCells (cs := flat xs) (off := i' * s + off) (by omega), setCells_length p1]
                    by_cases q1 : i' * s ≤ j ∧ j < i' * s + y.cells.length
                    · rw [if_pos q1, getElem?_setCells p1]
                      by_cases q2 : off ≤ j - i' * s ∧ j - i' * s < off + x.cells.length
                      · rw [if_pos q2, if_pos (by omega)]; congr 1; omega
                      · rw [if_neg q2, if_neg (by omega), ← flat_getElem? jl hy (j := j - i' * s) (by omega)]; congr 1; omega
                    · rw [if_neg q1, if_neg (by omega)]
                  rw [hset]
                  subst js
                  have h9 := CR.set (o := L.off) (off := i' * L.sz + off) (j6.mono hx.kk hx.mm) (k2.mono hx.kk hx.mm) k1 (by omega) (by omega)
                  rw [← Nat.add_assoc] at h9
                  exact h9
            · cases ha
          · cases ha
        · cases ha
      · cases ha
  · cases ha

end
end Go.Proofs.YtopkeglpafdlfaaGreat.VS
