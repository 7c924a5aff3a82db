/- copy, slices and variables made, texts and bytes, maps: what each leaves, on both sides. Conditions: none. -/
import Derived.Test.YtopkeglpafdlfaaGreatVS10
namespace Go.Proofs.YtopkeglpafdlfaaGreat.VS
variable [Syms]

section
variable {P : Program} {T : Tabs} {c : Ctx} {m : Map} {H : Heap} {F : List Nat} {w : World}

omit [Syms] in
theorem List.take_take_len {α : Type} (l : List α) (k : Nat) (h : k ≤ l.length) : (l.take k).length = k := by rw [List.length_take]; omega

omit [Syms] in
theorem run_copy' {ts : Array TypeId} {ty dt e : TypeId} {i : TypeInfo} (h0 : ts[0]? = some dt) (hu : P.underlying dt = some (.slice e)) (hi : P.info? e = some i) {a : Option Addr} {dLen dCap n : Nat} {x : Value} {cells : Array Value} {w1 : World}
    (hlen : Builtin.lenOf x = pure n) (hcells : (Builtin.firstCells i.size (Nat.min n dLen) x).run P w = .ok cells w) (hst : ∀ b, a = some b → (storeCells b cells.toList).run P w = .ok () w1) (hno : a = none → w1 = w) :
    (Builtin.copy_ ts ty #[.slice a dLen dCap, x]).run P w = .ok (goInt (Nat.min n dLen)) w1 := by
  cases a with
  | none =>
    have := hno rfl; subst this
    simp [Builtin.copy_, h0, run_underlying hu, sizeOf, typeInfo, hi, hlen, hcells]
  | some b =>
    simp [Builtin.copy_, h0, run_underlying hu, sizeOf, typeInfo, hi, hlen, hcells, hst b rfl]

theorem sim_copy (hT : TyOK P T) (hs : SR c m H F w) {id : Nat} {ts : Array TypeId} {ty : TypeId} {d x : AV} {v : AV} {e : Eff} {rd fz : List Nat}
    (h : acopy T H F ts.toList d x = .ok v e rd fz) {vd vx : Value} (hvd : VR (okB c.X m H F) w.heap m d vd) (hvx : VR (okB c.X m H F) w.heap m x vx) :
    ∃ cv m' w', (Builtin.copy_ ts ty #[vd, vx]).run P w = .ok cv w' ∧ Done c m H F w id v e fz cv m' w' := by
  unfold acopy at h
  split at h
  · rename_i dt rest hts
    have h0 : ts[0]? = some dt := by rw [← Array.getElem?_toList, hts]; rfl
    split at h
    · rename_i q ys hq hys
      obtain ⟨i, z, hu, hi, hsz, hz, hza, hzf, hpos⟩ := elemT_some hT hq
      cases hf : ys.all (fitsN q.2.1) with
      | false => simp [hf] at h
      | true =>
        simp only [hf, cond_true] at h
        obtain ⟨o1, o2⟩ := ones_of (s := q.2.1) (fun y hy => List.all_eq_true.1 hf y hy)
        have none_ : ∀ {a : Option Addr}, vd = .slice a 0 0 → Res.ok (.int .i64 0) [] (idOf x) [] = .ok v e rd fz → ∃ cv m' w', (Builtin.copy_ ts ty #[vd, vx]).run P w = .ok cv w' ∧ Done c m H F w id v e fz cv m' w' := by
          intro a hv hres
          subst hv
          simp only [Res.ok.injEq] at hres
          obtain ⟨rfl, rfl, rfl, rfl⟩ := hres
          obtain ⟨new, n1, n2, n3, n4⟩ := sim_elemsK (P := P) hs hys hvx o1 (k := 0) (Nat.zero_le _)
          have hn0 : new = #[] := Array.size_eq_zero_iff.1 (by simpa using n1)
          have hmin : Nat.min ys.length 0 = 0 := Nat.min_zero _
          refine ⟨_, m, w, run_copy' h0 hu hi n3 (by rw [hmin, hsz]; exact n4 w rfl) (fun b _ => by rw [hn0]; rfl) (fun _ => rfl), Done.quiet hs ?_⟩
          rw [hmin]; exact .int _ _
        split at h
        · cases hvd; exact none_ rfl h
        · cases hvd; exact none_ rfl h
        · rename_i s0 b lo len
          unfold copyTo at h
          split at h
          · rename_i m0 xs hb
            obtain ⟨hb, hbF⟩ := hlive_some hb
            cases hc : m0.beq q.2.1 && s0.beq q.2.1 && (lo + len).ble xs.length with
            | false => simp [hc] at h
            | true =>
              simp only [hc, cond_true, Res.ok.injEq] at h
              obtain ⟨rfl, rfl, rfl, rfl⟩ := h
              simp only [Bool.and_eq_true] at hc
              obtain ⟨⟨c1, c2⟩, c3⟩ := hc
              have c1 := beq_eq' c1
              have c2 := beq_eq' c2
              have c3 := ble_le c3
              subst c1
              have hss : s0 = q.2.1 := c2
              subst hss
              obtain ⟨L, j1, k2, k3, k4⟩ := hvd.osl_inv
              obtain ⟨js, jp, je, jl, C, et, zz, j2, j3, j4, j5, j6⟩ := hs.objm hb j1
              have hk : min ys.length len ≤ ys.length := Nat.min_le_left _ _
              obtain ⟨new, n1, n2, n3, n4⟩ := sim_elemsK (P := P) hs hys hvx o1 hk
              have hyk : ∀ y ∈ ys.take (min ys.length len), y.cells.length = q.2.1 := fun y hy => o1 y (List.mem_of_mem_take hy)
              have hlk : (ys.take (min ys.length len)).length = min ys.length len := List.take_take_len _ _ hk
              have hmul : (lo + min ys.length len) * q.2.1 ≤ xs.length * q.2.1 := Nat.mul_le_mul_right _ (by have := Nat.min_le_right ys.length len; omega)
              have e2 : (lo + min ys.length len) * q.2.1 = lo * q.2.1 + min ys.length len * q.2.1 := Nat.add_mul _ _ _
              have hflx := flat_length jl
              have hfly := flat_length hyk
              rw [hlk] at hfly
              have hn1 : ∀ u ∈ new, u.oneCell' = true := n2.ones (by rw [n1, hfly]) (fun u hu => o2 u (by
                rw [flat_take _ o1] at hu; exact List.mem_of_mem_take hu))
              have hspl : flat (xs.take lo ++ ys.take (min ys.length len) ++ xs.drop (lo + min ys.length len)) = setCells (flat xs) (lo * q.2.1) (flat (ys.take (min ys.length len))) := by
                have := splice_flat (k := lo) jl hyk (by rw [hlk]; have := Nat.min_le_right ys.length len; omega)
                rwa [hlk] at this
              have hnl : (xs.take lo ++ ys.take (min ys.length len) ++ xs.drop (lo + min ys.length len)).length = xs.length := by
                have := Nat.min_le_right ys.length len
                simp; omega
              have hst := run_stores (P := P) j2 j4 (o := L.off + lo * q.2.1) new.toList (by rw [Array.length_toList]; omega) (fun u hu => hn1 u (by simpa using hu))
              obtain ⟨al, asz⟩ := setCells_alike new.toList w L.blk (L.off + lo * q.2.1)
              obtain ⟨hx, hsr⟩ := hs.write hb hbF j1 al asz (o' := .arr q.2.1 (xs.take lo ++ ys.take (min ys.length len) ++ xs.drop (lo + min ys.length len))) (fun γ hγ => heap_setCells_ne _ _ _ _ _ hγ)
              have hsr' := hsr ⟨js, jp, by rw [hnl]; exact je, fun u hu => by
                rcases List.mem_append.1 hu with hu | hu
                · rcases List.mem_append.1 hu with hu | hu
                  · exact jl u (List.mem_of_mem_take hu)
                  · exact hyk u hu
                · exact jl u (List.mem_of_mem_drop hu), _, _, _, heap_setCells _ j2 _, by rw [size_setArr]; exact j3, by rw [NoFz, size_setArr]; exact j4, by rw [size_setArr, hnl]; exact j5, by
                  rw [hspl]
                  exact CR.set (o := L.off) (off := lo * q.2.1) (j6.mono hx.kk hx.mm) (n2.mono hx.kk hx.mm) (by omega) (by omega) (by omega)⟩
              rcases k4 with ⟨k5, k6, a, rfl⟩ | ⟨cp, rfl, k5, k6, k7⟩
              · -- nothing is copied into nothing
                subst k5
                have hmin : min ys.length 0 = 0 := Nat.min_zero _
                have hn0 : new = #[] := Array.size_eq_zero_iff.1 (by rw [n1, hmin, Nat.zero_mul])
                have hw : w.setCells L.blk (L.off + lo * q.2.1) new.toList = w := by rw [hn0]; rfl
                rw [hw] at hx hsr'
                have hr := run_copy' (P := P) (w := w) (w1 := w) (ty := ty) (a := some a) (dLen := 0) (dCap := 0) h0 hu hi n3 (by rw [hsz]; exact n4 w rfl) (fun b _ => by rw [hn0]; rfl) (fun h => by cases h)
                exact ⟨_, m, w, hr, hx, hsr', .int _ _, fun _ h => .inl h⟩
              · have hr := run_copy' (P := P) (ty := ty) (a := some ⟨L.blk, L.off + lo * q.2.1, none⟩) (dLen := len) (dCap := cp) h0 hu hi n3 (by rw [hsz]; exact n4 w rfl) (fun b hb => by cases hb; exact hst) (fun h => by cases h)
                exact ⟨_, m, _, hr, hx, hsr', .int _ _, fun _ h => .inl h⟩
          · cases h
        · cases h
    · cases h
  · cases h

omit [Syms] in
theorem run_clear' {S E : TypeId} {i0 : TypeInfo} {z : Value} {ts : Array TypeId} (h0 : ts[0]? = some S) (hu : P.underlying S = some (.slice E)) (hi : P.info? E = some i0) (hz : i0.zero = some z) {ty : TypeId} {a : Addr} {n cc : Nat} {w w1 : World}
    (hst : (storeCells a (Builtin.zeroCells z.cells n).toList).run P w = .ok () w1) : (Builtin.clear_ ts ty #[.slice (some a) n cc]).run P w = .ok (.tuple #[]) w1 := by
  cases n with
  | zero =>
    have : Builtin.zeroCells z.cells 0 = #[] := Array.size_eq_zero_iff.1 (by simp [Builtin.zeroCells])
    rw [this] at hst
    simp [Builtin.clear_, h0, run_underlying hu]
    simpa [storeCells] using hst
  | succ n => simp [Builtin.clear_, h0, run_underlying hu, zeroValue, typeInfo, hi, hz, hst]

theorem sim_clear (hT : TyOK P T) (hs : SR c m H F w) {id : Nat} {ts : Array TypeId} {ty : TypeId} {x : AV} {v : AV} {e : Eff} {rd fz : List Nat}
    (h : aclear T H F ts.toList x = .ok v e rd fz) {vx : Value} (hvx : VR (okB c.X m H F) w.heap m x vx) :
    ∃ cv m' w', (Builtin.clear_ ts ty #[vx]).run P w = .ok cv w' ∧ Done c m H F w id v e fz cv m' w' := by
  unfold aclear at h
  split at h
  · rename_i dt rest hts
    have h0 : ts[0]? = some dt := by rw [← Array.getElem?_toList, hts]; rfl
    split at h
    · rename_i q hq
      obtain ⟨i, z, hu, hi, hsz, hz, hza, hzf, hpos⟩ := elemT_some hT hq
      split at h
      · rename_i s0 b lo len
        unfold clearTo at h
        split at h
        · rename_i m0 xs hb
          obtain ⟨hb, hbF⟩ := hlive_some hb
          cases hc : m0.beq q.2.1 && s0.beq q.2.1 && (lo + len).ble xs.length with
          | false => simp [hc] at h
          | true =>
            simp only [hc, cond_true, Res.ok.injEq] at h
            obtain ⟨rfl, rfl, rfl, rfl⟩ := h
            simp only [Bool.and_eq_true] at hc
            obtain ⟨⟨c1, c2⟩, c3⟩ := hc
            have c1 := beq_eq' c1
            have c2 := beq_eq' c2
            have c3 := ble_le c3
            subst c1
            have hss : s0 = q.2.1 := c2
            subst hss
            obtain ⟨L, j1, k2, k3, k4⟩ := hvx.osl_inv
            obtain ⟨js, jp, je, jl, C, et, zz, j2, j3, j4, j5, j6⟩ := hs.objm hb j1
            have hzf' : fitsN q.2.1 (ofV z) = true := by rw [← hza]; exact hzf
            obtain ⟨zc1, zc2, zc3⟩ := zero_cells hzf'
            have hyk : ∀ y ∈ List.replicate len q.2.2, y.cells.length = q.2.1 := fun y hy => by rw [List.eq_of_mem_replicate hy, hza]; exact zc3
            have n1 : (Builtin.zeroCells z.cells len).size = len * q.2.1 := by simp [Builtin.zeroCells, zc1]
            have n2 : CR (okB c.X m H F) w.heap m (flat (List.replicate len q.2.2)) (Builtin.zeroCells z.cells len) 0 := by rw [hza]; exact zeros_cr hzf' len _ _ _
            have hfly := flat_length hyk
            rw [List.length_replicate] at hfly
            have hmul : (lo + len) * q.2.1 ≤ xs.length * q.2.1 := Nat.mul_le_mul_right _ c3
            have e2 : (lo + len) * q.2.1 = lo * q.2.1 + len * q.2.1 := Nat.add_mul _ _ _
            have hflx := flat_length jl
            have hn1 : ∀ u ∈ Builtin.zeroCells z.cells len, u.oneCell' = true := n2.ones (by rw [n1, hfly]) (fun u hu => by
              obtain ⟨y, hy, hqy⟩ := List.mem_flatMap.1 hu
              rw [List.eq_of_mem_replicate hy, hza] at hqy
              exact fits_one (fitsN_some hzf').1 u hqy)
            have hspl : flat (xs.take lo ++ List.replicate len q.2.2 ++ xs.drop (lo + len)) = setCells (flat xs) (lo * q.2.1) (flat (List.replicate len q.2.2)) := by
              have := splice_flat (k := lo) jl hyk (by rw [List.length_replicate]; exact c3)
              rwa [List.length_replicate] at this
            have hnl : (xs.take lo ++ List.replicate len q.2.2 ++ xs.drop (lo + len)).length = xs.length := by
              simp; omega
            have hst := run_stores (P := P) j2 j4 (o := L.off + lo * q.2.1) (Builtin.zeroCells z.cells len).toList (by rw [Array.length_toList]; omega) (fun u hu => hn1 u (by simpa using hu))
            obtain ⟨al, asz⟩ := setCells_alike (Builtin.zeroCells z.cells len).toList w L.blk (L.off + lo * q.2.1)
            obtain ⟨hx, hsr⟩ := hs.write hb hbF j1 al asz (o' := .arr q.2.1 (xs.take lo ++ List.replicate len q.2.2 ++ xs.drop (lo + len))) (fun γ hγ => heap_setCells_ne _ _ _ _ _ hγ)
            have hsr' := hsr ⟨js, jp, by rw [hnl]; exact je, fun u hu => by
              rcases List.mem_append.1 hu with hu | hu
              · rcases List.mem_append.1 hu with hu | hu
                · exact jl u (List.mem_of_mem_take hu)
                · exact hyk u hu
              · exact jl u (List.mem_of_mem_drop hu), _, _, _, heap_setCells _ j2 _, by rw [size_setArr]; exact j3, by rw [NoFz, size_setArr]; exact j4, by rw [size_setArr, hnl]; exact j5, by
                rw [hspl]
                exact CR.set (o := L.off) (off := lo * q.2.1) (j6.mono hx.kk hx.mm) (n2.mono hx.kk hx.mm) (by omega) (by omega) (by omega)⟩
            rcases k4 with ⟨k5, k6, a, rfl⟩ | ⟨cp, rfl, k5, k6, k7⟩
            · -- nothing is cleared
              subst k5
              have hn0 : Builtin.zeroCells z.cells 0 = #[] := Array.size_eq_zero_iff.1 (by rw [n1, Nat.zero_mul])
              have hw : w.setCells L.blk (L.off + lo * q.2.1) (Builtin.zeroCells z.cells 0).toList = w := by rw [hn0]; rfl
              rw [hw] at hx hsr'
              have hr := run_clear' (P := P) (w := w) (w1 := w) (ty := ty) (a := a) (n := 0) (cc := 0) h0 hu hi hz (by rw [hn0]; rfl)
              exact ⟨_, m, w, hr, hx, hsr', .tup (fun _ => .bool true) rfl (fun j hj => absurd hj (Nat.not_lt_zero j)) (fun j x hx => by simp at hx), fun _ h => .inl h⟩
            · have hr := run_clear' (P := P) (ty := ty) (a := ⟨L.blk, L.off + lo * q.2.1, none⟩) (n := len) (cc := cp) h0 hu hi hz hst
              exact ⟨_, m, _, hr, hx, hsr', .tup (fun _ => .bool true) rfl (fun j hj => absurd hj (Nat.not_lt_zero j)) (fun j x hx => by simp at hx), fun _ h => .inl h⟩
        · cases h
      · cases h
    · cases h
  · cases h

/-- A new variable. -/
theorem sim_newCells (hs : SR c m H F w) {id : Nat} (hid : m id = none) {x v : AV} {e : Eff} {rd fz : List Nat} (h : newCells id x = .ok v e rd fz) {vx : Value} (hvx : VR (okB c.X m H F) w.heap m x vx) (t : TypeId) :
    ∃ cv m' w', (newVar t vx).run P w = .ok ⟨w.heap.size, 0, none⟩ w' ∧ cv = .pointer (some ⟨w.heap.size, 0, none⟩) ∧ Done c m H F w id v e fz cv m' w' := by
  unfold newCells at h
  cases hf : x.fits with
  | false => simp [hf] at h
  | true =>
    simp only [hf, cond_true, Res.ok.injEq] at h
    obtain ⟨rfl, rfl, rfl, rfl⟩ := h
    obtain ⟨k1, k2, k3⟩ := hvx.stored hf
    obtain ⟨f1, f2, f3, f4⟩ := alloc_facts w (.cells vx.cells t)
    obtain ⟨hx, hsr⟩ := hs.new hid f4 f1 f2 (L := ⟨w.heap.size, 0, 0, 0, 0⟩) rfl (o := .cells x.cells)
    refine ⟨_, _, _, rfl, rfl, hx, hsr ⟨rfl, _, _, _, f3, k1, NoFz_zero _, k2.mono hx.kk hx.mm⟩, .ptr (upd_same _ _ _) rfl rfl, dom_upd⟩

omit [Syms] in
theorem range_zero (z : Array Value) (n : Nat) : ((Array.range n).map (z[· % z.size]!)).size = n := by simp

theorem zeros_row {z : Value} {s : Nat} (hf : fitsN s (ofV z) = true) (n : Nat) (ok : Nat → Prop) (h : Array Obj) (m : Map) :
    CR ok h m (flat (List.replicate n (ofV z))) ((Array.range (n * s)).map (z.cells[· % z.cells.size]!)) 0 := by
  obtain ⟨h1, h2, h3⟩ := zero_cells hf
  have := zeros_cr hf n ok h m
  unfold Builtin.zeroCells at this
  rw [h1] at this
  rw [h1]
  exact this

theorem sim_makeSlice (hT : TyOK P T) (hs : SR c m H F w) {E : Env} (hE : E.T = T) {id : Nat} (hid : m id = none) {t : TypeId} {l k v : AV} {e : Eff} {rd fz : List Nat} (h : opMakeSlice E id t l k = .ok v e rd fz)
    {vl vk : Value} (hl : VR (okB c.X m H F) w.heap m l vl) (hk : VR (okB c.X m H F) w.heap m k vk) :
    ∃ cv m' w', (Instr.makeSlice t vl vk).run P w = .ok cv w' ∧ Done c m H F w id v e fz cv m' w' := by
  unfold opMakeSlice at h
  rw [hE] at h
  split at h
  · rename_i q n' a k' b hq
    cases hl; cases hk
    obtain ⟨i, z, hu, hi, hsz, hz, hza, hzf, hpos⟩ := elemT_some hT hq
    split at h
    · rename_i by_ hby
      obtain ⟨i', hi', hbb⟩ := bytesOf_some hT hby
      rw [hi] at hi'; cases hi'
      cases hc : a.ble b && b.ble 1099511627776 && room b by_ with
      | false => simp [hc] at h
      | true =>
        simp only [hc, cond_true, newArr, Res.ok.injEq] at h
        obtain ⟨rfl, rfl, rfl, rfl⟩ := h
        simp only [Bool.and_eq_true] at hc
        have c1 := ble_le hc.1.1
        have c2 := ble_le hc.1.2
        have c3 := room_le hc.2
        have c4 : b * by_ ≤ 1099511627776 := Nat.le_trans (Nat.mul_le_mul_left b (Nat.le_succ by_)) c3
        have hb48 : (i.bytes : Int) * (b : Int) ≤ 281474976710656 := by
          have : ((i.bytes * b : Nat) : Int) ≤ 281474976710656 := by rw [hbb, Nat.mul_comm]; omega
          rwa [Int.natCast_mul] at this
        have hrun := run_make (P := P) w t q.1 i z hu hi hz n' k' (a : Int) (b : Int) (by omega) (by omega) hb48 (by omega)
        simp only [Int.toNat_natCast] at hrun
        have hzf' : fitsN q.2.1 (ofV z) = true := by rw [← hza]; exact hzf
        obtain ⟨z1, z2, z3⟩ := zero_cells hzf'
        obtain ⟨f1, f2, f3, f4⟩ := alloc_facts w (.cells (madeCells z.cells (b * i.size)) q.1)
        have hCsz : (madeCells z.cells (b * i.size)).size = b * q.2.1 := by rw [size_madeCells, hsz]
        have hcr : CR (okB c.X m H F) w.heap m (flat (List.replicate b q.2.2)) (madeCells z.cells (b * i.size)) 0 := by
          rw [hza, hsz]; exact zeros_row hzf' b _ _ _
        obtain ⟨hx, hsr⟩ := hs.newArr hid (w' := w.alloc (.cells (madeCells z.cells (b * i.size)) q.1)) f4 f1 f2 f3 (NoFz_zero _) hpos (fun x hx => by rw [List.eq_of_mem_replicate hx, hza]; exact z3) (by rw [hCsz, List.length_replicate]; exact Nat.le_refl _) hcr
        refine ⟨_, _, _, hrun, hx, hsr, .osl (upd_same _ _ _) ?_ hpos rfl rfl (by simp) ?_ ?_, dom_upd⟩
        · show 0 + a ≤ (List.replicate b q.2.2).length; rw [List.length_replicate]; omega
        · show (List.replicate b q.2.2).length ≤ 0 + b; rw [List.length_replicate]; omega
        · show 0 + (0 + b) * q.2.1 ≤ _
          rw [hCsz, Nat.zero_add, Nat.zero_add]; exact Nat.le_refl _
    · cases h
  · cases h

theorem sim_fillE {ok : Nat → Prop} {s : Nat} : ∀ (ps : List (Nat × AV)) (vs : List (Nat × Value)) (xs : List AV) (C : Array Value) (out : List AV),
    vs.length = ps.length → (∀ (j : Nat) (p : Nat × AV) (q : Nat × Value), ps[j]? = some p → vs[j]? = some q → p.1 = q.1 ∧ VR ok w.heap m p.2 q.2) → C.size = xs.length * s → (∀ x ∈ xs, x.cells.length = s) → CR ok w.heap m (flat xs) C 0 → fillE s xs ps = some out →
    ∃ D, Instr.fill (fun i => some (i * s, s)) C vs = some D ∧ D.size = xs.length * s ∧ out.length = xs.length ∧ (∀ x ∈ out, x.cells.length = s) ∧ CR ok w.heap m (flat out) D 0
  | [], vs, xs, C, out, hl, _, hs, hxs, hr, ho => by
    have : vs = [] := List.length_eq_zero_iff.1 (by simpa using hl)
    subst this
    simp [fillE] at ho; subst ho
    exact ⟨C, rfl, hs, rfl, hxs, hr⟩
  | p :: ps, [], _, _, _, hl, _, _, _, _, _ => by simp at hl
  | p :: ps, (i, v) :: vs, xs, C, out, hl, hv, hs, hxs, hr, ho => by
    obtain ⟨h1, h2⟩ := hv 0 p (i, v) (by simp) (by simp)
    simp only at h1 h2
    rw [fillE] at ho
    cases hc : fitsN s p.2 && p.1.blt xs.length with
    | false => simp [hc] at ho
    | true =>
      simp only [hc, cond_true] at ho
      simp only [Bool.and_eq_true] at hc
      obtain ⟨hfit, hlen⟩ := fitsN_some hc.1
      have hlt := blt_lt hc.2
      obtain ⟨k1, k2, k3⟩ := h2.stored hfit
      have hfl := flat_length hxs
      rw [h1] at hlt ho
      have hmul : (i + 1) * s ≤ xs.length * s := Nat.mul_le_mul_right s hlt
      rw [Nat.add_mul, Nat.one_mul] at hmul
      rw [fill_step (fun i => some (i * s, s)) C i v vs (off := i * s) (size := s) rfl (by omega) (by omega)]
      have hset := flat_set (y := p.2) hxs (List.getElem?_eq_getElem hlt) hlen
      obtain ⟨D, d1, d2, d3, d4, d5⟩ := sim_fillE ps vs (xs.set i p.2) (setArr C (i * s) v.cells.toList) out (by simpa using hl) (fun j a b ha hb => hv (j + 1) a b (by simpa using ha) (by simpa using hb))
        (by rw [size_setArr, List.length_set]; exact hs) (fun x hx => by
          rcases List.mem_or_eq_of_mem_set hx with hx | rfl
          · exact hxs x hx
          · exact hlen) (by
          rw [hset]
          have := CR.set (o := 0) (off := i * s) hr k2 k1 (by omega) (by omega)
          rwa [Nat.zero_add] at this) ho
      rw [List.length_set] at d2 d3
      exact ⟨D, d1, d2, d3, d4, d5⟩

theorem sim_buildSlice (hT : TyOK P T) (hs : SR c m H F w) {E : Env} (hE : E.T = T) {id : Nat} (hid : m id = none) {fr : Fr} {a : Act} (hf : FrR (okB c.X m H F) w.heap m fr a.tmps) {t : TypeId} {len : Nat} {ps : Array (Nat × Operand)} {v : AV} {e : Eff} {rd fz : List Nat}
    (h : opBuildSlice E id t len (parts fr ps.toList) = .ok v e rd fz) :
    ∃ cv m' w', (Instr.buildSlice t len (ps.map fun (i, x) => (i, a.eval x))).run P w = .ok cv w' ∧ Done c m H F w id v e fz cv m' w' := by
  unfold opBuildSlice at h
  rw [hE] at h
  split at h
  · rename_i q hq
    obtain ⟨i, z, hu, hi, hsz, hz, hza, hzf, hpos⟩ := elemT_some hT hq
    have hzf' : fitsN q.2.1 (ofV z) = true := by rw [← hza]; exact hzf
    obtain ⟨z1, z2, z3⟩ := zero_cells hzf'
    have hl : (ps.map fun (x : Nat × Operand) => (x.1, a.eval x.2)).toList.length = (parts fr ps.toList).length := by simp [parts_length]
    cases hc : len.beq 0 with
    | true =>
      have hc := beq_eq' hc
      subst hc
      simp only [show Nat.beq 0 0 = true from rfl, cond_true] at h
      split at h
      · rename_i hps
        simp only [rv, Res.ok.injEq] at h
        obtain ⟨rfl, rfl, rfl, rfl⟩ := h
        have hps0 : ps = #[] := by
          have : ps.toList.length = 0 := by rw [← parts_length fr, hps]; rfl
          exact Array.size_eq_zero_iff.1 (by simpa using this)
        subst hps0
        obtain ⟨f1, f2, f3, f4⟩ := alloc_facts w (.cells #[] q.1)
        have hx : Ext c m H F w m H F (w.alloc (.cells #[] q.1)) := ⟨MLe.refl m, fun β C e z ho hh => ⟨ho, by rw [f2 β (lt_of_some hh)]; exact hh⟩⟩
        have hsr : SR c m H F (w.alloc (.cells #[] q.1)) := ⟨hs.xlt, fun b1 o1 hb1 => by
            exact (hs.all b1 o1 hb1).imp (fun ⟨L, k1, k2⟩ => ⟨L, k1, ObjR.mono k2 hx.kk hx.mm (f2 _ (ObjR.lt k2))⟩) (fun h => h), hs.inj, hs.nox, hs.own,
          ⟨hs.keep.os, hs.keep.tape, hs.keep.output, by rw [f1]; have := hs.keep.size; omega, fun β h1 h2 => by rw [f2 β (by have := hs.keep.size; omega)]; exact hs.keep.block β h1 h2⟩⟩
        refine ⟨.slice (some ⟨w.heap.size, 0, none⟩) 0 0, m, w.alloc (.cells #[] q.1), ?_, ⟨hx, hsr, .emp, fun _ h => .inl h⟩⟩
        simp only [Instr.buildSlice, Sem.run_bind, run_underlying hu, Result.andThen_ok, run_sizeOf' hi, Nat.zero_mul]
        simp [Instr.fill, newRow, Array.range_zero']
      · cases h
    | false =>
      simp only [hc, cond_false] at h
      cases hb : (len * q.2.1).ble 16777216 with
      | false => simp [hb] at h
      | true =>
        simp only [hb, cond_true] at h
        have hble := ble_le hb
        split at h
        · rename_i xs hxs
          simp only [newArr, Res.ok.injEq] at h
          obtain ⟨rfl, rfl, rfl, rfl⟩ := h
          have hlen0 : len ≠ 0 := fun e => by subst e; simp at hc
          obtain ⟨D, d1, d2, d3, d4, d5⟩ := sim_fillE (w := w) (s := q.2.1) _ (ps.map fun (x : Nat × Operand) => (x.1, a.eval x.2)).toList (List.replicate len q.2.2) ((Array.range (len * q.2.1)).map (z.cells[· % z.cells.size]!)) xs hl
            (by intro j p r hp hr; exact parts_vr hf ps.toList j p r hp (by simpa using hr)) (by simp) (fun x hx => by rw [List.eq_of_mem_replicate hx, hza]; exact z3) (by rw [hza]; exact zeros_row hzf' len _ _ _) hxs
          rw [List.length_replicate] at d2 d3
          obtain ⟨f1, f2, f3, f4⟩ := alloc_facts w (.cells D q.1)
          obtain ⟨hx, hsr⟩ := hs.newArr hid (w' := w.alloc (.cells D q.1)) f4 f1 f2 f3 (NoFz_zero _) hpos d4 (by rw [d2, d3]; exact Nat.le_refl _) d5
          refine ⟨.slice (some ⟨w.heap.size, 0, none⟩) len len, _, _, ?_, hx, hsr, .osl (upd_same _ _ _) ?_ hpos rfl rfl (by simp) ?_ ?_, dom_upd⟩
          · have hno : ¬ (2 ^ 24 < len * i.size) := by rw [hsz]; omega
            have hn0 : ¬ (len * i.size = 0) := by
              rw [hsz]
              intro e
              rcases Nat.mul_eq_zero.1 e with h | h <;> omega
            simp only [Instr.buildSlice, Sem.run_bind, run_underlying hu, Result.andThen_ok, run_sizeOf' hi, gt_iff_lt, hsz]
            rw [hsz] at hno hn0
            simp only [hno, if_false, hn0, Sem.run_bind, run_zeroValue hi hz, Result.andThen_ok, Sem.run_pure, d1]
            rfl
          · show 0 + len ≤ xs.length; omega
          · show xs.length ≤ 0 + len; omega
          · show 0 + (0 + len) * q.2.1 ≤ D.size
            rw [d2, Nat.zero_add, Nat.zero_add]; exact Nat.le_refl _
        · cases h
  · cases h

end
end Go.Proofs.YtopkeglpafdlfaaGreat.VS
