/- append, copy, slices made, variables made: what each leaves, on both sides. Conditions: none. -/
import Derived.Test.YtopkeglpafdlfaaGreatVS9
namespace Go.Proofs.YtopkeglpafdlfaaGreat.VS
variable [Syms]

section
variable {P : Program} {T : Tabs} {c : Ctx} {m : Map} {H : Heap} {F : List Nat} {w : World}

omit [Syms] in
theorem elemT_some (hT : TyOK P T) {t : TypeId} {q : TypeId × Nat × AV} (h : elemT T t = some q) :
    ∃ (i : TypeInfo) (z : Value), P.underlying t = some (.slice q.1) ∧ P.info? q.1 = some i ∧ i.size = q.2.1 ∧ i.zero = some z ∧ q.2.2 = ofV z ∧ fitsN q.2.1 q.2.2 = true ∧ 0 < q.2.1 := by
  unfold elemT at h
  split at h
  · rename_i e he
    split at h
    · rename_i s z hs hz
      cases hc : fitsN s z && Nat.blt 0 s with
      | false => simp [hc] at h
      | true =>
        simp only [hc, cond_true, Option.some.injEq] at h
        subst h
        simp only [Bool.and_eq_true] at hc
        obtain ⟨i, hi, his⟩ := szOf_some hT hs
        obtain ⟨i', zv, hi', hzv, hza⟩ := zeroOf_some hT hz
        rw [hi] at hi'; cases hi'
        exact ⟨i, zv, elemOf_some hT he, hi, his, hzv, hza, hc.1, blt_lt hc.2⟩
    · cases h
  · cases h

/-- The nought of an element: its cells. -/
theorem zero_cells {z : Value} {s : Nat} (hf : fitsN s (ofV z) = true) : z.cells.size = s ∧ (∀ (ok : Nat → Prop) (h : Array Obj) (m : Map), CR ok h m (ofV z).cells z.cells 0) ∧ (ofV z).cells.length = s := by
  obtain ⟨h1, h2⟩ := fitsN_some hf
  refine ⟨?_, fun ok h m => ?_, h2⟩
  · have := ((ofV_vr (ok := fun _ => True) (m := noMap) (w := (default : World)) z).stored h1).1
    omega
  · exact ((ofV_vr (ok := ok) (m := m) (w := { (default : World) with heap := h }) z).stored h1).2.1

omit [Syms] in
theorem getElem?_zeroCells (z : Array Value) (n j : Nat) (hj : j < n * z.size) : (Builtin.zeroCells z n)[j]? = z[j % z.size]? := by
  have hz : 0 < z.size := by
    rcases Nat.eq_zero_or_pos z.size with h | h
    · rw [h] at hj; omega
    · exact h
  have hm := Nat.mod_lt j hz
  simp [Builtin.zeroCells, hj]
  rw [getElem!_pos z _ hm]
  exact (getElem?_pos z _ hm).symm

omit [Syms] in
theorem flat_replicate (z : AV) (n : Nat) {s : Nat} (hs : z.cells.length = s) (j : Nat) (hj : j < n * s) : (flat (List.replicate n z))[j]? = z.cells[j % s]? := by
  have hpos : 0 < s := by
    rcases Nat.eq_zero_or_pos s with h | h
    · rw [h] at hj; omega
    · exact h
  have h1 : j / s < n := Nat.div_lt_of_lt_mul (by rwa [Nat.mul_comm] at hj)
  have := flat_getElem? (s := s) (xs := List.replicate n z) (i := j / s) (j := j % s) (x := z) (fun x hx => by rw [List.eq_of_mem_replicate hx]; exact hs) (by simp [h1]) (Nat.mod_lt _ hpos)
  rw [← this]
  congr 1
  rw [Nat.mul_comm]; exact (Nat.div_add_mod j s).symm

theorem zeros_cr {z : Value} {s : Nat} (hf : fitsN s (ofV z) = true) (n : Nat) (ok : Nat → Prop) (h : Array Obj) (m : Map) : CR ok h m (flat (List.replicate n (ofV z))) (Builtin.zeroCells z.cells n) 0 := by
  obtain ⟨h1, h2, h3⟩ := zero_cells hf
  intro j x hx
  have hlen : (flat (List.replicate n (ofV z))).length = n * s := by
    rw [flat_length (s := s) fun x hx => by rw [List.eq_of_mem_replicate hx]; exact h3]; simp
  have hj : j < n * s := by
    rcases Nat.lt_or_ge j (n * s) with hj | hj
    · exact hj
    · rw [List.getElem?_eq_none (by omega)] at hx; cases hx
  rw [flat_replicate _ n h3 j hj] at hx
  obtain ⟨v, hv, hr⟩ := h2 ok h m _ _ hx
  rw [Nat.zero_add] at hv
  exact ⟨v, by rw [Nat.zero_add, getElem?_zeroCells _ _ _ (by rw [h1]; exact hj), h1]; exact hv, hr⟩

omit [Syms] in
theorem run_stores {β o : Nat} {C : Array Value} {e : TypeId} {z : Nat × Nat} (hC : w.heap[β]? = some (.cells C e z)) {s : Nat} (hz : NoFz s C z) (vs : List Value) (hle : o + vs.length ≤ C.size) (h1 : ∀ x ∈ vs, x.oneCell' = true) :
    (storeCells ⟨β, o, none⟩ vs).run P w = .ok () (w.setCells β o vs) := by
  have := run_storeCells_cells (P := P) β o vs 0 w (fun j hj => by
      rw [cell_of hC, Nat.add_zero]
      simp [show o + j < C.size by omega]) (fun j hj => frozen_of hC hz (by omega)) h1
  rw [this, Nat.add_zero]

omit [Syms] in
theorem splice_flat {s : Nat} {xs ys : List AV} {k : Nat} (hxs : ∀ x ∈ xs, x.cells.length = s) (hys : ∀ y ∈ ys, y.cells.length = s) (_ : k + ys.length ≤ xs.length) :
    flat (xs.take k ++ ys ++ xs.drop (k + ys.length)) = setCells (flat xs) (k * s) (flat ys) := by
  rw [flat_append, flat_append, flat_take k hxs, flat_drop _ hxs]
  unfold setCells
  rw [flat_length hys, Nat.add_mul]

theorem zeroTail_cr {ok : Nat → Prop} {h : Array Obj} {cs : List AV} {A B : Array Value} (hr : CR ok h m cs A 0) : CR ok h m cs (A ++ B) 0 := by
  intro j x hx
  obtain ⟨v, hv, hr'⟩ := hr j x hx
  rw [Nat.zero_add] at hv
  have hj : j < A.size := by
    rcases Nat.lt_or_ge j A.size with hj | hj
    · exact hj
    · simp [Array.getElem?_eq_none hj] at hv
  exact ⟨v, by rw [Nat.zero_add, Array.getElem?_append, if_pos hj]; exact hv, hr'⟩

theorem app_cr {ok : Nat → Prop} {h : Array Obj} {cs ds : List AV} {A B : Array Value} (hA : A.size = cs.length) (hr : CR ok h m cs A 0) (hr' : CR ok h m ds B 0) : CR ok h m (cs ++ ds) (A ++ B) 0 := by
  intro j x hx
  by_cases hj : j < cs.length
  · rw [List.getElem?_append_left hj] at hx
    obtain ⟨v, hv, hr1⟩ := hr j x hx
    exact ⟨v, by rw [Nat.zero_add] at hv ⊢; rw [Array.getElem?_append, if_pos (by omega)]; exact hv, hr1⟩
  · rw [List.getElem?_append_right (by omega)] at hx
    obtain ⟨v, hv, hr1⟩ := hr' _ x hx
    exact ⟨v, by rw [Nat.zero_add] at hv ⊢; rw [Array.getElem?_append, if_neg (by omega), hA]; exact hv, hr1⟩

/-- The ground that an append stands on: types, and what is appended. -/
structure App (P : Program) (T : Tabs) (c : Ctx) (m : Map) (H : Heap) (F : List Nat) (w : World) (ts : Array TypeId) (ty : TypeId) (vx : Value) (s by_ : Nat) (ys : List AV) : Prop where
  sz : ∀ y ∈ ys, y.cells.length = s
  one : ∀ q ∈ flat ys, q.one = true
  pos : 0 < s
  nothing : ys = [] → ∀ (base : Option Addr) (n cp : Nat), n ≤ cp → (Builtin.append_ ts ty #[.slice base n cp, vx]).run P w = .ok (.slice base n cp) w
  new : ∃ new : Array Value, new.size = ys.length * s ∧ CR (okB c.X m H F) w.heap m (flat ys) new 0 ∧
    (∀ (a : Addr) (n cp : Nat) (w1 : World), ys ≠ [] → n + ys.length ≤ cp → room (n + ys.length) by_ = true → (storeCells (a.add (n * s)) new.toList).run P w = .ok () w1 → (Builtin.append_ ts ty #[.slice (some a) n cp, vx]).run P w = .ok (.slice (some a) (n + ys.length) cp) w1) ∧
    (∀ (base : Option Addr) (n cp : Nat) (old : Array Value), ys ≠ [] → cp < n + ys.length → room (n + ys.length) by_ = true → old.size = n * s →
      (∀ w' : World, w'.heap = w.heap → (Builtin.firstCells s n (.slice base n cp)).run P w' = .ok old w') →
      ∃ (C : Array Value) (e : TypeId) (cap : Nat), (Builtin.append_ ts ty #[.slice base n cp, vx]).run P w = .ok (.slice (some ⟨w.heap.size, 0, none⟩) (n + ys.length) cap) (w.drew.alloc (.cells (old ++ new ++ C) e)) ∧
        n + ys.length ≤ cap ∧ (old ++ new ++ C).size = cap * s)

theorem App.ones_new {ts : Array TypeId} {ty : TypeId} {vx : Value} {s by_ : Nat} {ys : List AV} (A : App P T c m H F w ts ty vx s by_ ys) {new : Array Value} (h1 : new.size = ys.length * s)
    (h2 : CR (okB c.X m H F) w.heap m (flat ys) new 0) : ∀ v ∈ new, v.oneCell' = true :=
  h2.ones (by rw [h1, flat_length A.sz]) A.one

omit [Syms] in
theorem room_le {n b : Nat} (h : room n b = true) : n * (b + 1) ≤ 1099511627776 := ble_le h

omit [Syms] in
theorem room_facts {n b cp : Nat} (h : room n b = true) (hg : cp < n) : (n : Int) ≤ 9223372036854775807 ∧ Builtin.nextslicecap n cp * b ≤ 281474976710656 ∧ n * b ≤ 281474976710656 := by
  have h1 := room_le h
  have h2 : n * b ≤ 1099511627776 := Nat.le_trans (Nat.mul_le_mul_left n (Nat.le_succ b)) h1
  have h3 : n ≤ 1099511627776 := Nat.le_trans (Nat.le_mul_of_pos_right n (Nat.succ_pos b)) h1
  refine ⟨by omega, ?_, by omega⟩
  exact growslice_fits hg (by omega)

theorem app_of (hT : TyOK P T) (hs : SR c m H F w) {st xt : TypeId} {ts : Array TypeId} {ty : TypeId} (h0 : ts[0]? = some st) (h1 : ts[1]? = some xt) {q : TypeId × Nat × AV} (hq : elemT T st = some q) {by_ : Nat} (hby : bytesOf T q.1 = some by_)
    {x : AV} {ys : List AV} (hap : appended T H q.2.2 xt x = some ys) (hf : ys.all (fitsN q.2.1) = true) {vx : Value} (hx : VR (okB c.X m H F) w.heap m x vx) : App P T c m H F w ts ty vx q.2.1 by_ ys := by
  obtain ⟨i, z, hu, hi, hsz, hz, hza, hzf, hpos⟩ := elemT_some hT hq
  obtain ⟨i', hi', hbb⟩ := bytesOf_some hT hby
  rw [hi] at hi'; cases hi'
  obtain ⟨o1, o2⟩ := ones_of (s := q.2.1) (fun y hy => List.all_eq_true.1 hf y hy)
  have plain : plainSrc P xt → elems H x = some ys → App P T c m H F w ts ty vx q.2.1 by_ ys := by
    intro hp he
    obtain ⟨new, n1, n2, n3, n4⟩ := sim_elems (P := P) hs he hx o1
    refine ⟨o1, o2, hpos, fun hy base n cp hn => ?_, new, n1, n2, fun a n cp w1 hy hn hr hst => ?_, fun base n cp old hy hn hr ho hold => ?_⟩
    · subst hy
      have hn0 : new = #[] := Array.size_eq_zero_iff.1 (by simpa using n1)
      have := n4 w rfl
      rw [hn0] at this
      exact run_append_nothing h0 h1 hu hp hi n3 (by rw [hsz]; exact this) hn
    · exact run_append_room' h0 h1 hu hp hi n3 (by rw [hsz]; exact n4 w rfl) (by rw [hsz]; exact hst) hn
    · obtain ⟨r1, r2, r3⟩ := room_facts hr hn
      have := run_append_grow' (P := P) (w := w) (ty := ty) h0 h1 hu hp hi hz n3 (by rw [hsz]; exact hold) (by rw [hsz]; exact n4) hn r1 (by rw [hbb]; exact r2)
      refine ⟨_, _, _, this, grownCap_ge w _ _ _, ?_⟩
      rw [Array.size_append, Array.size_append, size_zeroCells, (zero_cells (by rw [← hza]; exact hzf)).1, ho, n1, ← Nat.add_mul, ← Nat.add_mul]
      congr 1
      have := grownCap_ge w (n + ys.length) cp q.1
      omega
  unfold appended at hap
  split at hap
  · rename_i k hk
    have hxt := kind_int hT hk
    split at hap
    · rename_i kx n
      cases hc : n.ble 1099511627776 with
      | false => simp [hc] at hap
      | true =>
        simp only [hc, cond_true, Option.some.injEq] at hap
        subst hap
        have hnle := ble_le hc
        cases hx
        have hzf' : fitsN q.2.1 (ofV z) = true := by rw [← hza]; exact hzf
        obtain ⟨z1, z2, z3⟩ := zero_cells hzf'
        refine ⟨o1, o2, hpos, fun hy base n' cp hn => ?_, Builtin.zeroCells z.cells n, by rw [size_zeroCells, z1]; simp, by rw [hza]; exact zeros_cr hzf' n _ _ _, fun a n' cp w1 hy hn hr hst => ?_, fun base n' cp old hy hn hr ho hold => ?_⟩
        · have : n = 0 := by simpa using hy
          subst this
          exact run_append_make_nothing h0 h1 hu hxt hi hz hn
        · have hn0 : 0 < n := by
            rcases Nat.eq_zero_or_pos n with h | h
            · subst h; exact absurd rfl hy
            · exact h
          simp only [List.length_replicate] at hn hr ⊢
          have hnb : n * i.bytes ≤ 281474976710656 := by
            rw [hbb]
            have h1 := room_le hr
            have h2 : n * by_ ≤ (n' + n) * (by_ + 1) := Nat.mul_le_mul (by omega) (by omega)
            omega
          exact run_append_make_room h0 h1 hu hxt hi hz (by rw [hsz]; exact hst) hn (by omega) hnb (by omega) hn0
        · have hn0 : 0 < n := by
            rcases Nat.eq_zero_or_pos n with h | h
            · subst h; exact absurd rfl hy
            · exact h
          simp only [List.length_replicate] at hn hr ⊢
          obtain ⟨r1, r2, r3⟩ := room_facts hr hn
          have hnb : n * i.bytes ≤ 281474976710656 := by
            rw [hbb]
            exact Nat.le_trans (Nat.mul_le_mul_right by_ (Nat.le_add_left n n')) r3
          have := run_append_make_grow (P := P) (w := w) (ty := ty) (kx := ‹IntKind›) h0 h1 hu hxt hi hz (by rw [hsz]; exact hold) hn r1 hnb (by rw [hbb]; exact r2) (by omega) hn0
          refine ⟨_, _, _, this, grownCap_ge w _ _ _, ?_⟩
          rw [Array.size_append, Array.size_append, size_zeroCells, size_zeroCells, z1, ho, ← Nat.add_mul, ← Nat.add_mul]
          congr 1
          have := grownCap_ge w (n' + n) cp q.1
          omega
    · cases hap
  · rename_i hk
    exact plain (.inl (kind_str hT hk)) hap
  · rename_i e hk
    exact plain (.inr ⟨_, kind_slice hT hk⟩) hap
  · cases hap

omit [Syms] in
theorem isEmpty_of {ys : List AV} : ys = [] ∨ ∃ y r, ys = y :: r := by cases ys <;> simp

/-- append. -/
theorem sim_append (hT : TyOK P T) (hs : SR c m H F w) {id : Nat} (hid : m id = none) {ts : Array TypeId} {ty : TypeId} {s x : AV} {v : AV} {e : Eff} {rd fz : List Nat}
    (h : aappend T H F id ts.toList s x = .ok v e rd fz) {vs vx : Value} (hvs : VR (okB c.X m H F) w.heap m s vs) (hvx : VR (okB c.X m H F) w.heap m x vx) :
    ∃ cv m' w', (Builtin.append_ ts ty #[vs, vx]).run P w = .ok cv w' ∧ Done c m H F w id v e fz cv m' w' := by
  unfold aappend at h
  split at h
  · rename_i st xt rest hts
    have h0 : ts[0]? = some st := by rw [← Array.getElem?_toList, hts]; rfl
    have h1 : ts[1]? = some xt := by rw [← Array.getElem?_toList, hts]; rfl
    split at h
    · rename_i q hq
      split at h
      · rename_i by_ ys hby hap
        cases hf : ys.all (fitsN q.2.1) with
        | false => simp [hf] at h
        | true =>
          simp only [hf, cond_true] at h
          have A := app_of (ty := ty) hT hs h0 h1 hq hby hap hf hvx
          obtain ⟨new, n1, n2, n3, n4⟩ := A.new
          have hn1 := A.ones_new n1 n2
          -- a new row behind nothing
          have fresh : ∀ {base : Option Addr} {rd0 : List Nat} {v : AV} {e : Eff} {rd fz : List Nat}, vs = .slice base 0 0 → ys ≠ [] → room ys.length by_ = true → newArr id q.2.1 ys ys.length [] rd0 = .ok v e rd fz →
              ∃ cv m' w', (Builtin.append_ ts ty #[vs, vx]).run P w = .ok cv w' ∧ Done c m H F w id v e fz cv m' w' := by
            intro base rd0 v e rd fz hb hne hroom hres
            subst hb
            obtain ⟨C, et, cap, k1, k2, k3⟩ := n4 base 0 0 #[] hne (by rw [Nat.zero_add]; exact List.length_pos_iff.2 hne) (by rw [Nat.zero_add]; exact hroom) (by simp) (fun w' _ => by cases base <;> simp [Builtin.firstCells, loadCells, loadCellsFrom])
            simp only [newArr, Res.ok.injEq] at hres
            obtain ⟨rfl, rfl, rfl, rfl⟩ := hres
            obtain ⟨f1, f2, f3, f4⟩ := alloc_facts w.drew (.cells (#[] ++ new ++ C) et)
            simp only [Array.empty_append] at k1 k3 f1 f2 f3 f4
            obtain ⟨hx, hsr⟩ := hs.newArr hid (w' := w.drew.alloc (.cells (new ++ C) et)) ⟨f4.os, f4.tape, f4.output⟩ f1 f2 f3 (NoFz_zero _) A.pos A.sz (by rw [k3]; exact Nat.mul_le_mul_right _ (by omega)) (zeroTail_cr n2)
            refine ⟨_, _, _, k1, hx, hsr, ?_, dom_upd⟩
            rw [Nat.zero_add]
            refine .osl (upd_same _ _ _) (by simp) A.pos rfl rfl (by simp) (by simp; omega) ?_
            show 0 + (0 + cap) * q.2.1 ≤ (new ++ C).size
            rw [k3, Nat.zero_add, Nat.zero_add]; exact Nat.le_refl _
          have same : ∀ {base : Option Addr} {n cp : Nat}, vs = .slice base n cp → n ≤ cp → ys = [] → Res.ok s [] (idOf s ++ idOf x) [] = .ok v e rd fz →
              ∃ cv m' w', (Builtin.append_ ts ty #[vs, vx]).run P w = .ok cv w' ∧ Done c m H F w id v e fz cv m' w' := by
            intro base n cp hb hle hy hres
            simp only [Res.ok.injEq] at hres
            obtain ⟨rfl, rfl, rfl, rfl⟩ := hres
            have := A.nothing hy base n cp hle
            rw [hb] at hvs ⊢
            exact ⟨_, m, w, this, Done.quiet hs hvs⟩
          have into : ∀ {s0 b lo len m0 : Nat} {xs : List AV} {o0 : AObj} {rd0 : List Nat} {v : AV} {e : Eff} {rd fz : List Nat}, hget H b = some o0 → b ∉ F → (∀ L, m b = some L → ArrR (okB c.X m H F) w.heap m L m0 xs) → VR (okB c.X m H F) w.heap m (.osl s0 b lo len) vs → ys ≠ [] →
              m0 = q.2.1 → s0 = q.2.1 → lo + len ≤ xs.length → room (len + ys.length) by_ = true →
              (bif (lo + len + ys.length).ble xs.length then
                .ok (.osl s0 b lo (len + ys.length)) [(b, some (.arr m0 (xs.take (lo + len) ++ ys ++ xs.drop (lo + len + ys.length))))] rd0 []
              else newArr id q.2.1 ((xs.drop lo).take len ++ ys) (len + ys.length) [(b, none)] rd0 : Res) = .ok v e rd fz →
              ∃ cv m' w', (Builtin.append_ ts ty #[vs, vx]).run P w = .ok cv w' ∧ Done c m H F w id v e fz cv m' w' := by
                intro s0 b lo len m0 xs o0 rd0 v e rd fz hb hbF hobj hvs hne c1 c2 c3 c4 h
                obtain ⟨L, j1, k2, k3, k4⟩ := hvs.osl_inv
                obtain ⟨js, jp, je, jl, C, et, z, j2, j3, j4, j5, j6⟩ := hobj L j1
                subst c1
                have hss : s0 = q.2.1 := c2
                subst hss
                have hlen := flat_length jl
                have hylen := flat_length A.sz
                have hmul : (lo + len) * q.2.1 ≤ xs.length * q.2.1 := Nat.mul_le_mul_right _ c3
                cases hroom : (lo + len + ys.length).ble xs.length with
                | true =>
                  simp only [hroom, cond_true, Res.ok.injEq] at h
                  obtain ⟨rfl, rfl, rfl, rfl⟩ := h
                  have c5 := ble_le hroom
                  have hyp : 0 < ys.length := List.length_pos_iff.2 hne
                  rcases k4 with ⟨k5, k6, _⟩ | ⟨cp, rfl, k5, k6, k7⟩
                  · omega
                  · have hsub : (lo + len + ys.length) * q.2.1 ≤ xs.length * q.2.1 := Nat.mul_le_mul_right _ c5
                    have e1 : (lo + len + ys.length) * q.2.1 = lo * q.2.1 + len * q.2.1 + ys.length * q.2.1 := by rw [Nat.add_mul, Nat.add_mul]
                    have e2 : (lo + len) * q.2.1 = lo * q.2.1 + len * q.2.1 := Nat.add_mul _ _ _
                    have hst := run_stores (P := P) j2 j4 (o := L.off + lo * q.2.1 + len * q.2.1) new.toList (by rw [Array.length_toList]; omega) (fun u hu => hn1 u (by simpa using hu))
                    have hrun := n3 ⟨L.blk, L.off + lo * q.2.1, none⟩ len cp _ hne (by omega) c4 (by rw [add_none]; exact hst)
                    obtain ⟨al, asz⟩ := setCells_alike new.toList w L.blk (L.off + lo * q.2.1 + len * q.2.1)
                    obtain ⟨hx, hsr⟩ := hs.write hb hbF j1 al asz (o' := .arr q.2.1 (xs.take (lo + len) ++ ys ++ xs.drop (lo + len + ys.length))) (fun γ hγ => heap_setCells_ne _ _ _ _ _ hγ)
                    have hnl : (xs.take (lo + len) ++ ys ++ xs.drop (lo + len + ys.length)).length = xs.length := by simp; omega
                    refine ⟨_, m, _, hrun, hx, hsr ⟨js, jp, by rw [hnl]; exact je, fun u hu => ?_, _, _, _, heap_setCells _ j2 _, by rw [size_setArr]; exact j3, by rw [NoFz, size_setArr]; exact j4, by rw [size_setArr, hnl]; exact j5, ?_⟩, ?_, fun _ h => .inl h⟩
                    · rcases List.mem_append.1 hu with hu | hu
                      · rcases List.mem_append.1 hu with hu | hu
                        · exact jl u (List.mem_of_mem_take hu)
                        · exact A.sz u hu
                      · exact jl u (List.mem_of_mem_drop hu)
                    · rw [splice_flat jl A.sz c5]
                      have h9 := CR.set (o := L.off) (off := (lo + len) * q.2.1) (j6.mono hx.kk hx.mm) (n2.mono hx.kk hx.mm) (by omega) (by omega) (by omega)
                      rw [e2, ← Nat.add_assoc] at h9
                      rw [e2]
                      exact h9
                    · exact .osl j1 (by omega) jp js rfl rfl k6 k7
                | false =>
                  simp only [hroom, cond_false, newArr, Res.ok.injEq] at h
                  obtain ⟨rfl, rfl, rfl, rfl⟩ := h
                  have c5 : ¬ (lo + len + ys.length ≤ xs.length) := fun hh => by rw [Nat.ble_eq_true_of_le hh] at hroom; cases hroom
                  have hxs' : ∀ u ∈ (xs.drop lo).take len ++ ys, u.cells.length = q.2.1 := by
                    intro u hu
                    rcases List.mem_append.1 hu with hu | hu
                    · exact jl u (List.mem_of_mem_drop (List.mem_of_mem_take hu))
                    · exact A.sz u hu
                  have hl' : ((xs.drop lo).take len ++ ys).length = len + ys.length := by simp; omega
                  have hfl : flat ((xs.drop lo).take len ++ ys) = ((flat xs).drop (lo * q.2.1)).take (len * q.2.1) ++ flat ys := by
                    rw [flat_append, flat_take len (fun u hu => jl u (List.mem_of_mem_drop hu)), flat_drop lo jl]
                  -- what is appended to a row that is full
                  have e2 : (lo + len) * q.2.1 = lo * q.2.1 + len * q.2.1 := Nat.add_mul _ _ _
                  have grow : ∀ {base : Option Addr} {cp : Nat} {old : Array Value}, vs = .slice base len cp → cp < len + ys.length → old.size = len * q.2.1 →
                      CR (okB c.X m H F) w.heap m (((flat xs).drop (lo * q.2.1)).take (len * q.2.1)) old 0 → (∀ w' : World, w'.heap = w.heap → (Builtin.firstCells q.2.1 len (.slice base len cp)).run P w' = .ok old w') →
                      ∃ cv m' w', (Builtin.append_ ts ty #[vs, vx]).run P w = .ok cv w' ∧ Done c m H F w id (.osl q.2.1 id 0 (len + ys.length)) [(id, some (.arr q.2.1 ((xs.drop lo).take len ++ ys))), (b, none)] [] cv m' w' := by
                    intro base cp old hv hlt hosz hor hold
                    subst hv
                    obtain ⟨D, et', cap, q1, q2, q3⟩ := n4 base len cp old hne hlt c4 hosz hold
                    obtain ⟨f1, f2, f3, f4⟩ := alloc_facts w.drew (.cells (old ++ new ++ D) et')
                    have hcr : CR (okB c.X m H F) w.heap m (flat ((xs.drop lo).take len ++ ys)) (old ++ new ++ D) 0 := by
                      rw [hfl]
                      refine zeroTail_cr (app_cr ?_ hor n2)
                      rw [hosz, List.length_take, List.length_drop]
                      omega
                    obtain ⟨hx, hsr⟩ := hs.newArr hid (w' := w.drew.alloc (.cells (old ++ new ++ D) et')) ⟨f4.os, f4.tape, f4.output⟩ f1 f2 f3 (NoFz_zero _) A.pos hxs' (by rw [q3, hl']; exact Nat.mul_le_mul_right _ q2) hcr
                    obtain ⟨hx2, hsr2⟩ := hsr.del b
                    refine ⟨_, _, _, q1, hx.trans hx2, hsr2, ?_, dom_upd⟩
                    refine .osl (upd_same _ _ _) (by rw [Nat.zero_add]; exact Nat.le_of_eq hl'.symm) A.pos rfl rfl (by simp) (by rw [Nat.zero_add]; exact Nat.le_trans (Nat.le_of_eq hl') q2) ?_
                    show 0 + (0 + cap) * q.2.1 ≤ (old ++ new ++ D).size
                    rw [q3, Nat.zero_add, Nat.zero_add]; exact Nat.le_refl _
                  rcases k4 with ⟨rfl, k6, a, hv⟩ | ⟨cp, hv, k5, k6, k7⟩
                  · refine grow (old := #[]) hv (by simp; exact List.length_pos_iff.2 hne) (by simp) (fun j u hu => by simp at hu) (fun w' _ => by simp [Builtin.firstCells, loadCells, loadCellsFrom])
                  · by_cases hcp : len + ys.length ≤ cp
                    · -- in place, behind what was told
                      subst hv
                      have hsub : (lo + (len + ys.length)) * q.2.1 ≤ (lo + cp) * q.2.1 := Nat.mul_le_mul_right _ (by omega)
                      have e1 : (lo + (len + ys.length)) * q.2.1 = lo * q.2.1 + len * q.2.1 + ys.length * q.2.1 := by rw [Nat.add_mul, Nat.add_mul]; omega
                      have e2 : (lo + len) * q.2.1 = lo * q.2.1 + len * q.2.1 := Nat.add_mul _ _ _
                      have hst := run_stores (P := P) j2 j4 (o := L.off + lo * q.2.1 + len * q.2.1) new.toList (by rw [Array.length_toList]; omega) (fun u hu => hn1 u (by simpa using hu))
                      have hrun := n3 ⟨L.blk, L.off + lo * q.2.1, none⟩ len cp _ hne hcp c4 (by rw [add_none]; exact hst)
                      obtain ⟨al, asz⟩ := setCells_alike new.toList w L.blk (L.off + lo * q.2.1 + len * q.2.1)
                      obtain ⟨hx, hsr⟩ := hs.move hb hbF j1 hid (L' := ⟨L.blk, L.off + lo * q.2.1, q.2.1, len + ys.length, L.csz⟩) rfl al asz (o' := .arr q.2.1 ((xs.drop lo).take len ++ ys)) (fun γ hγ => heap_setCells_ne _ _ _ _ _ hγ)
                      refine ⟨_, _, _, hrun, hx, hsr ⟨rfl, jp, hl'.symm, hxs', _, _, _, heap_setCells _ j2 _, by rw [size_setArr]; exact j3, by rw [NoFz, size_setArr]; exact j4, ?_, ?_⟩, ?_, dom_upd⟩
                      · rw [size_setArr, hl', Nat.add_mul]
                        show L.off + lo * q.2.1 + _ ≤ _
                        omega
                      · rw [hfl]
                        intro j u hu
                        show ∃ v, (setArr C (L.off + lo * q.2.1 + len * q.2.1) new.toList)[L.off + lo * q.2.1 + j]? = some v ∧ _
                        have hl1 : (((flat xs).drop (lo * q.2.1)).take (len * q.2.1)).length = len * q.2.1 := by rw [List.length_take, List.length_drop]; omega
                        by_cases hj : j < len * q.2.1
                        · rw [List.getElem?_append_left (by omega)] at hu
                          obtain ⟨v, hv, hr⟩ := ((j6.drop (lo * q.2.1)).take (len * q.2.1)) j u hu
                          refine ⟨v, ?_, hr.mono hx.kk hx.mm⟩
                          rw [getElem?_setArr _ _ _ _ (by rw [Array.length_toList]; omega), if_neg (by omega)]
                          exact hv
                        · rw [List.getElem?_append_right (by omega), hl1] at hu
                          obtain ⟨v, hv, hr⟩ := n2 _ u hu
                          rw [Nat.zero_add] at hv
                          have hjs : j - len * q.2.1 < new.size := by
                            rcases Nat.lt_or_ge (j - len * q.2.1) new.size with hh | hh
                            · exact hh
                            · simp [Array.getElem?_eq_none hh] at hv
                          refine ⟨v, ?_, hr.mono hx.kk hx.mm⟩
                          rw [getElem?_setArr _ _ _ _ (by rw [Array.length_toList]; omega), if_pos (by rw [Array.length_toList]; omega), show L.off + lo * q.2.1 + j - (L.off + lo * q.2.1 + len * q.2.1) = j - len * q.2.1 by omega]
                          simpa using hv
                      · refine .osl (upd_same _ _ _) (by simp) jp rfl rfl (by simp) (by simp; omega) ?_
                        show L.off + lo * q.2.1 + (0 + cp) * q.2.1 ≤ L.csz
                        have : (lo + cp) * q.2.1 = lo * q.2.1 + cp * q.2.1 := Nat.add_mul _ _ _
                        rw [Nat.zero_add]; omega
                    · obtain ⟨g, g1, g2⟩ := ((j6.drop (lo * q.2.1)).take (len * q.2.1)).fun
                      have hl1 : (((flat xs).drop (lo * q.2.1)).take (len * q.2.1)).length = len * q.2.1 := by rw [List.length_take, List.length_drop]; omega
                      refine grow (old := ((List.range (len * q.2.1)).map g).toArray) hv (by omega) (by simp) (fun j u hu => ?_) (fun w' hw' => ?_)
                      · have hj : j < len * q.2.1 := by
                          rcases Nat.lt_or_ge j (len * q.2.1) with hj | hj
                          · exact hj
                          · rw [List.getElem?_eq_none (by omega)] at hu; cases hu
                        exact ⟨g j, by simp [hj], g2 j u hu⟩
                      · simp only [Builtin.firstCells]
                        exact run_loadCells_row w' (by rw [hw']; exact j2) fun j hj => g1 j (by omega)
          unfold appendV at h
          split at h
          · cases hvs; exact same rfl (Nat.le_refl _) rfl h
          · cases hvs; exact same rfl (Nat.le_refl _) rfl h
          · obtain ⟨a, cp, hv, hle⟩ := hvs.sl_any; exact same hv hle rfl h
          · obtain ⟨a, cp, hv, hle⟩ := hvs.osl_any; exact same hv hle rfl h
          · rename_i y r
            cases hr : room (y :: r).length by_ with
            | false => rw [hr] at h; cases h
            | true =>
              rw [hr] at h
              cases hvs; exact fresh rfl (by simp) hr h
          · rename_i y r
            cases hr : room (y :: r).length by_ with
            | false => rw [hr] at h; cases h
            | true =>
              rw [hr] at h
              cases hvs; exact fresh rfl (by simp) hr h
          · rename_i y r s0 b lo len
            have hne : (y :: r) ≠ [] := by simp
            generalize hys : (y :: r : List AV) = ys at *
            unfold appendTo at h
            split at h
            · rename_i m0 xs hb
              obtain ⟨hb, hbF⟩ := hlive_some hb
              cases hc : m0.beq q.2.1 && s0.beq q.2.1 && (lo + len).ble xs.length && room (len + ys.length) by_ with
              | false => simp [hc] at h
              | true =>
                simp only [hc, cond_true] at h
                simp only [Bool.and_eq_true] at hc
                obtain ⟨⟨⟨c1, c2⟩, c3⟩, c4⟩ := hc
                exact into hb hbF (fun L hL => hs.objm hb hL) hvs hne (beq_eq' c1) (beq_eq' c2) (ble_le c3) c4 h
            · cases h
          · rename_i ys0 s0 g b len
            unfold appendGs at h
            split at h
            · rename_i g' l hb
              obtain ⟨hb, hbF⟩ := hlive_some hb
              cases hc : len.beq l.length && g.size.beq q.2.1 && g'.size.beq q.2.1 && room (len + ys.length) by_ && !(b.beq id) with
              | false => simp [hc] at h
              | true =>
                simp only [hc, cond_true] at h
                simp only [Bool.and_eq_true] at hc
                obtain ⟨⟨⟨⟨c1, c2⟩, c3⟩, c4⟩, c5⟩ := hc
                have c1 := beq_eq' c1
                have c2 := beq_eq' c2
                have c3 := beq_eq' c3
                have hbid : id ≠ b := fun hh => by rw [hh, beq_same] at c5; cases c5
                have nilEff : ∀ {o : AObj}, happ H [(id, some o), (b, none)] = hdel (hset H id o) b := fun {o} => rfl
                have later : ∀ {v0 : AV} {o : AObj} {cv : Value} {m' : Map} {w' : World}, Done c m H F w id v0 [(id, some o)] [] cv m' w' → (∀ ok h, VR ok h m' v0 cv → VR ok h m' v cv) → e = [(id, some o), (b, none)] → fz = [] →
                    Done c m H F w id v e fz cv m' w' := by
                  intro v0 o cv m' w' hd hv he hf
                  subst he; subst hf
                  obtain ⟨x1, x2⟩ := hd.sr.del b
                  exact ⟨hd.ext.trans x1, x2, hv _ _ (x1.vr hd.vr), hd.dom⟩
                cases ys with
                | nil =>
                  simp only [Res.ok.injEq] at h
                  obtain ⟨rfl, rfl, rfl, rfl⟩ := h
                  obtain ⟨ba, cp, hvv⟩ := hvs.gs_any
                  have hcl : len ≤ cp := by
                    cases hvs with
                    | gsE => cases hvv; exact Nat.le_refl _
                    | gs hv' =>
                      cases hvv
                      obtain ⟨a', c', hv2, hle⟩ := hv'.osl_any
                      cases hv2; exact hle
                  have hrun := A.nothing rfl ba len cp hcl
                  subst hvv
                  cases hvs with
                  | gsE =>
                    obtain rfl : l = [] := List.length_eq_zero_iff.1 c1.symm
                    obtain ⟨x1, x2⟩ := hs.void hid g'
                    exact ⟨_, m, w, hrun, later ⟨x1, x2, .gsE, fun _ hh => .inl hh⟩ (fun _ _ hh => hh) rfl rfl⟩
                  | gs hv' =>
                    obtain ⟨L, j1, k2, k3, k4⟩ := hv'.osl_inv
                    have hr := hs.rename hb hbF j1 hid
                    have hsw : ∀ x, hget (hdel (hset H id (.tarr g' l)) b) x = hget (hset (hdel H b) id (.tarr g' l)) x := fun x => by
                      simp only [hget_hdel, hget_hset]
                      by_cases e1 : b = x
                      · subst e1
                        rw [if_pos rfl, if_neg hbid, if_pos rfl]
                      · simp only [if_neg e1]
                    obtain ⟨x1, x2⟩ := hr
                    have hokB : okB c.X (upd m id L) (hdel (hset H id (.tarr g' l)) b) F = okB c.X (upd m id L) (hset (hdel H b) id (.tarr g' l)) F := by
                      funext β; unfold okB; simp only [hsw]
                    refine ⟨_, upd m id L, w, hrun, ⟨⟨x1.mm, fun β C et z ho hh => ?_⟩, ⟨x2.xlt, fun b1 o1 h1 => ?_, fun b1 o1 b2 o2 L1 L2 h1 h2 => ?_, fun b1 o1 L1 h1 => ?_, fun b1 o1 L1 h1 => ?_, x2.keep⟩, ?_, dom_upd⟩⟩
                    · show okB c.X (upd m id L) (hdel (hset H id (.tarr g' l)) b) F β ∧ _
                      rw [hokB]; exact x1.kk β C et z ho hh
                    · show _ ∨ _
                      rw [show okB c.X (upd m id L) (happ H [(id, some (.tarr g' l)), (b, none)]) ([] ++ F) = okB c.X (upd m id L) (hset (hdel H b) id (.tarr g' l)) F from hokB]
                      exact x2.all b1 o1 (by rw [← hsw]; exact h1)
                    · exact x2.inj b1 o1 b2 o2 L1 L2 (by rw [← hsw]; exact h1) (by rw [← hsw]; exact h2)
                    · exact x2.nox b1 o1 L1 (by rw [← hsw]; exact h1)
                    · exact x2.own b1 o1 L1 (by rw [← hsw]; exact h1)
                    · refine .gs ?_
                      cases hv' with
                      | oslE h1 h2 h3 h4 => rw [j1] at h1; cases h1; exact .oslE (upd_same _ _ _) h2 h3 h4
                      | osl h1 h2 h3 h4 h5 h6 h7 h8 => rw [j1] at h1; cases h1; exact .osl (upd_same _ _ _) h2 h3 h4 h5 h6 h7 h8
                | cons y r =>
                  have hne : (y :: r) ≠ [] := by simp
                  simp only [Res.ok.injEq] at h
                  obtain ⟨rfl, rfl, rfl, rfl⟩ := h
                  cases hvs with
                  | gsE =>
                    obtain rfl : l = [] := List.length_eq_zero_iff.1 c1.symm
                    obtain ⟨cv, m', w', h5, h6⟩ := fresh (rd0 := []) rfl hne (by rw [Nat.zero_add] at c4; exact c4) rfl
                    obtain ⟨z1, z2, z3⟩ : ∃ a n c, cv = .slice a n c := by
                      obtain ⟨a', c', hv2, _⟩ := h6.vr.osl_any
                      exact ⟨_, _, _, hv2⟩
                    refine ⟨cv, m', w', h5, later h6 (fun ok hh hv => ?_) (by rw [show encs g' [] = [] from rfl, List.nil_append]) rfl⟩
                    obtain ⟨a', c', hv2, _⟩ := hv.osl_any
                    subst hv2
                    rw [Nat.zero_add]
                    exact .gs (by rw [c2]; exact hv)
                  | gs hv' =>
                    obtain ⟨cv, m', w', h5, h6⟩ := into (s0 := g.size) (m0 := g'.size) (xs := encs g' l) (lo := 0) (len := len) (rd0 := []) hb hbF (fun L hL => hs.objm hb hL) hv' hne c3 c2 (by rw [encs_length]; omega) c4 (by
                      rw [show (0 + len + (y :: r).length).ble (encs g' l).length = false from by
                        rw [encs_length, ← c1]
                        cases hq2 : (0 + len + (y :: r).length).ble len with
                        | false => rfl
                        | true => have := ble_le hq2; simp at this; omega, cond_false]
                      rfl)
                    have e1 : ((encs g' l).drop 0).take len = encs g' l := by rw [List.drop_zero, c1, ← encs_length g' l, List.take_length]
                    rw [e1] at h6
                    refine ⟨cv, m', w', h5, h6.ext, h6.sr, ?_, h6.dom⟩
                    have hv := h6.vr
                    obtain ⟨a', c', hv2, _⟩ := hv.osl_any
                    subst hv2
                    exact .gs (by rw [c2]; exact hv)
            · cases h
          · cases h
      · cases h
    · cases h
  · cases h

end
end Go.Proofs.YtopkeglpafdlfaaGreat.VS
