/- slices.Insert over the caller's own heap: a contract. Conditions: none. -/
import Derived.Test.YtopkeglpafdlfaaGreatVX1
namespace Go.Proofs.YtopkeglpafdlfaaGreat.VS
open Go.Shelf Go.RowKit

theorem dropAll {α : Type} (l : List α) {i : Nat} (h : l.length ≤ i) : l.drop i = [] := List.drop_eq_nil_of_le h

theorem set_shift {k n m i : Nat} {fl fy : List AV} (hi : i ≤ n) (hl : fl.length = n * k) (hy : fy.length = m * k) :
    setCells (setCells (fl ++ List.replicate (m * k) .dead) ((i + m) * k) (fl.drop (i * k))) (i * k) fy = fl.take (i * k) ++ fy ++ fl.drop (i * k) := by
  have h1 : i * k ≤ n * k := Nat.mul_le_mul_right k hi
  have h2 : (i + m) * k = i * k + m * k := Nat.add_mul _ _ _
  unfold setCells
  rw [List.length_drop, hl, hy, h2]
  have e1 : ((fl ++ List.replicate (m * k) AV.dead).take (i * k + m * k) ++ fl.drop (i * k) ++ (fl ++ List.replicate (m * k) AV.dead).drop (i * k + m * k + (n * k - i * k))).take (i * k) = fl.take (i * k) := by
    rw [List.append_assoc, List.take_append_of_le_length (by rw [List.length_take, List.length_append, List.length_replicate]; omega), List.take_take, Nat.min_eq_left (by omega), List.take_append_of_le_length (by omega)]
  have e2 : ((fl ++ List.replicate (m * k) AV.dead).take (i * k + m * k) ++ fl.drop (i * k) ++ (fl ++ List.replicate (m * k) AV.dead).drop (i * k + m * k + (n * k - i * k))).drop (i * k + m * k) = fl.drop (i * k) := by
    rw [dropAll (fl ++ List.replicate (m * k) AV.dead) (by rw [List.length_append, List.length_replicate]; omega), List.append_nil,
      List.drop_append_of_le_length (by rw [List.length_take, List.length_append, List.length_replicate]; omega), List.drop_eq_nil_of_le (by rw [List.length_take]; omega), List.nil_append]
  rw [e1, e2]

theorem set_grow {k n m i : Nat} {fl fy ze : List AV} (hi : i ≤ n) (hl : fl.length = n * k) (hy : fy.length = m * k) (hz : ze.length = (n + m - i) * k) :
    setCells (setCells (fl.take (i * k) ++ ze) (i * k) fy) ((i + m) * k) (fl.drop (i * k)) = fl.take (i * k) ++ fy ++ fl.drop (i * k) := by
  have h1 : i * k ≤ n * k := Nat.mul_le_mul_right k hi
  have h2 : (i + m) * k = i * k + m * k := Nat.add_mul _ _ _
  have h3 : (n + m - i) * k = n * k + m * k - i * k := by rw [Nat.sub_mul, Nat.add_mul]
  have ht : (fl.take (i * k)).length = i * k := by rw [List.length_take]; omega
  have e0 : setCells (fl.take (i * k) ++ ze) (i * k) fy = fl.take (i * k) ++ fy ++ ze.drop (m * k) := by
    unfold setCells
    rw [List.take_left' ht, hy, List.drop_append, ht, dropAll (fl.take (i * k)) (by omega), List.nil_append, show i * k + m * k - i * k = m * k by omega]
  rw [e0]
  unfold setCells
  rw [h2, List.take_left' (by rw [List.length_append, ht, hy]), List.length_drop, hl, List.drop_append, List.length_append, ht, hy, dropAll (fl.take (i * k) ++ fy) (by rw [List.length_append, ht, hy]; omega), List.nil_append,
    List.drop_drop, dropAll (ze) (by omega), List.append_nil]

theorem flat_insL {k i : Nat} {xs ys : List AV} (hxs : ∀ x ∈ xs, x.cells.length = k) : flat (insL xs ys i) = (flat xs).take (i * k) ++ flat ys ++ (flat xs).drop (i * k) := by
  unfold insL
  rw [flat_append, flat_append, flat_take i hxs, flat_drop i hxs]

theorem insL_length {i : Nat} {xs ys : List AV} (hi : i ≤ xs.length) : (insL xs ys i).length = xs.length + ys.length := by
  unfold insL; simp; omega

theorem insL_mem {i : Nat} {xs ys : List AV} {x : AV} (h : x ∈ insL xs ys i) : x ∈ xs ∨ x ∈ ys := by
  unfold insL at h
  rcases List.mem_append.1 h with h | h
  · rcases List.mem_append.1 h with h | h
    · exact .inl (List.mem_of_mem_take h)
    · exact .inr h
  · exact .inl (List.mem_of_mem_drop h)

variable [Syms]
section
variable {P : Program} {T : Tabs} {c : Ctx} {m : Map} {H : Heap} {F : List Nat} {w : World}

/-- What an operation leaves, as a call's. -/
theorem Done.after {nx : Nat} {v : AV} {e : Eff} {cv : Value} {m' : Map} {w' : World} (h : Done c m H F w nx v e [] cv m' w') : After c m H F w nx v (happ H e) F (nx + STRIDE) cv m' w' :=
  ⟨h.ext, h.sr, h.vr, by omega, h.dom⟩

theorem SR.drew (hs : SR c m H F w) : Ext c m H F w m H F w.drew ∧ SR c m H F w.drew := hs.still ⟨rfl, rfl, rfl⟩ rfl

theorem insEnd_ok (hT : TyOK P T) {ρ : Ren} {f : FuncId} (A : InsP P ρ f) {s v : AV} {nx : Nat} {r : AV × Heap × List Nat × Nat} (h : insEnd T (ρ.t 24) s v H F nx = some r) (hs : SR c m H F w) (hnx : m nx = none)
    {base vb : Option Addr} {n cp k vc : Nat} (hk : 0 < k) (hn : n ≤ cp) (hb : base = none → cp = 0) (hsv : VR (okB c.X m H F) w.heap m s (.slice base n cp)) (hvv : VR (okB c.X m H F) w.heap m v (.slice vb k vc))
    {E : TypeId} (tS : P.underlying (ρ.t 24) = some (.slice E)) {sz : Nat} (z9 : ∀ w, (Go.sizeOf E).run P w = .ok sz w) :
    Calls P f #[.slice base n cp, .int .i64 n, .slice vb k vc] w fun e w' => ∃ cv, e = .returned cv ∧ ∃ m', After c m H F w nx r.1 r.2.1 r.2.2.1 r.2.2.2 cv m' w' := by
  unfold insEnd at h
  split at h
  · rename_i r' e rd hap
    cases h
    obtain ⟨cv, m', w', h1, h2⟩ := sim_append (ty := ρ.t 24) hT hs hnx (ts := #[ρ.t 24, ρ.t 24]) hap hsv hvv
    refine (ins_end A tS z9 base vb n cp k vc w w' cv hk hn hb h1).mono ?_
    rintro e w'' ⟨rfl, rfl⟩
    exact ⟨cv, rfl, m', h2.after⟩
  · cases h

omit [Syms] in
theorem condS {α : Type} {b : Bool} {a r : α} (h : (bif b then some a else none) = some r) : b = true ∧ a = r := by
  cases b
  · cases h
  · exact ⟨rfl, Option.some.inj h⟩

theorem CR.part {ok : Nat → Prop} {h : Array Obj} {m : Map} {cs : List AV} {C : Array Value} {o : Nat} (hr : CR ok h m cs C o) (a n : Nat) (hle : a + n ≤ cs.length) :
    ∃ new : Array Value, new.size = n ∧ CR ok h m ((cs.drop a).take n) new 0 ∧ ∀ (w : World) (β : Nat) (e : TypeId) (z : Nat × Nat), w.heap[β]? = some (.cells C e z) → (loadCells ⟨β, o + a, none⟩ n).run P w = .ok new w := by
  obtain ⟨g, g1, g2⟩ := hr.fun
  refine ⟨((List.range n).map fun j => g (a + j)).toArray, by simp, fun j x hx => ?_, fun w β e z hC => ?_⟩
  · rw [List.getElem?_take] at hx
    split at hx
    · rename_i hj
      rw [List.getElem?_drop] at hx
      exact ⟨g (a + j), by simp [hj], g2 _ _ hx⟩
    · cases hx
  · exact run_loadCells_row (g := fun j => g (a + j)) w hC fun j hj => by
      rw [Nat.add_assoc]; exact g1 (a + j) (by omega)

theorem CR.deads {ok : Nat → Prop} {h : Array Obj} {m : Map} {cs : List AV} {C : Array Value} {o n : Nat} (hr : CR ok h m cs C o) (hle : o + cs.length + n ≤ C.size) : CR ok h m (cs ++ List.replicate n .dead) C o := by
  intro j x hx
  by_cases hj : j < cs.length
  · rw [List.getElem?_append_left hj] at hx; exact hr j x hx
  · rw [List.getElem?_append_right (by omega), List.getElem?_replicate] at hx
    split at hx
    · cases hx
      exact ⟨C[o + j]'(by omega), Array.getElem?_eq_getElem (by omega), .dead⟩
    · cases hx

theorem insMid_ok (hT : TyOK P T) {ρ : Ren} {f : FuncId} (A : InsP P ρ f) {s1 b lo len i s2 b2 lo2 k : Nat} {nx : Nat} {r : AV × Heap × List Nat × Nat} (h : insMid T (ρ.t 24) s1 b lo len i s2 b2 lo2 k H F nx = some r)
    (hs : SR c m H F w) (hnx : m nx = none) {v1 v2 : Value} (hsv : VR (okB c.X m H F) w.heap m (.osl s1 b lo len) v1) (hvv : VR (okB c.X m H F) w.heap m (.osl s2 b2 lo2 k) v2) :
    Calls P f #[v1, .int .i64 i, v2] w fun e w' => ∃ cv, e = .returned cv ∧ ∃ m', After c m H F w nx r.1 r.2.1 r.2.2.1 r.2.2.2 cv m' w' := by
  unfold insMid at h
  split at h
  · rename_i q hq
    split at h
    · rename_i by_ hby
      split at h
      · rename_i m1 xs hb
        split at h
        · rename_i m2 ys hb2
          unfold insMid2 at h
          obtain ⟨hc, rfl⟩ := condS h
          clear h
          simp only [Bool.and_eq_true, Bool.not_eq_true'] at hc
          obtain ⟨c0, c1, c2, c3, c4, c5, c6, c7, c8, c9, c10, c11, c12⟩ := hc
          obtain ⟨i0, z, hu, hi, hsz, hz, hza, hzf, hpos⟩ := elemT_some hT hq
          obtain ⟨E, sz, za⟩ := q
          simp only at *
          have c2 := Nat.eq_of_beq_eq_true c2
          have c3 := Nat.eq_of_beq_eq_true c3
          have c4 := Nat.eq_of_beq_eq_true c4
          have c5 := Nat.eq_of_beq_eq_true c5
          subst c2; subst c3; subst c4; subst c5
          have c1 : 1 < m2 := Nat.le_of_ble_eq_true c1
          have c6 := Nat.le_of_ble_eq_true c6
          have c7 : i < len := Nat.le_of_ble_eq_true c7
          have c8 := Nat.le_of_ble_eq_true c8
          have c9 : 0 < k := Nat.le_of_ble_eq_true c9
          obtain ⟨i', hi', hbb⟩ := bytesOf_some hT hby
          rw [hi] at hi'; cases hi'
          have z9 : ∀ w, (Go.sizeOf E).run P w = .ok m2 w := fun w => by simp [Go.sizeOf, typeInfo, hi, hsz]
          obtain ⟨hb, hbF⟩ := hlive_some hb
          have hbne : b ≠ b2 := fun e => by subst e; rw [beq_same] at c0; cases c0
          obtain ⟨L, j1, _, jsz, jv⟩ := hsv.osl_inv
          obtain ⟨M, k1, _, ksz, kv⟩ := hvv.osl_inv
          obtain ⟨_, _, je, jl, C, et, z1, j2, j3, j4, j5, j6⟩ := hs.objm hb j1
          obtain ⟨_, _, ke, kl, D, dt, z2, k2, k3, k4, k5, k6⟩ := hs.objm hb2 k1
          have hblk : M.blk ≠ L.blk := fun e => hbne (hs.inj b _ b2 _ L M hb hb2 j1 k1 e.symm)
          rcases jv with ⟨jv, _⟩ | ⟨cp, rfl, g1, g2, g3⟩
          · omega
          rcases kv with ⟨kv, _⟩ | ⟨cq, rfl, q1, q2, q3⟩
          · omega
          obtain ⟨x1, x2⟩ := ones_of (s := m2) (fun y hy => List.all_eq_true.1 c11 y hy)
          obtain ⟨y1, y2⟩ := ones_of (s := m2) (fun y hy => List.all_eq_true.1 c12 y hy)
          -- the elements of both
          have hXl : ((xs.drop lo).take len).length = len := by rw [List.length_take, List.length_drop]; omega
          have hYl : ((ys.drop lo2).take k).length = k := by rw [List.length_take, List.length_drop]; omega
          have hX : ∀ x ∈ (xs.drop lo).take len, x.cells.length = m2 := fun x hx => x1 x (List.mem_of_mem_drop (List.mem_of_mem_take hx))
          have hY : ∀ y ∈ (ys.drop lo2).take k, y.cells.length = m2 := fun y hy => y1 y (List.mem_of_mem_drop (List.mem_of_mem_take hy))
          have sub : ∀ {zs : List AV} {a n o : Nat} {B : Array Value}, (∀ y ∈ zs, y.cells.length = m2) → CR (okB c.X m H F) w.heap m (flat zs) B o → CR (okB c.X m H F) w.heap m (flat ((zs.drop a).take n)) B (o + a * m2) := by
            intro zs a n o B hzs hr j x hx
            rw [flat_take n (fun y hy => hzs y (List.mem_of_mem_drop hy)), List.getElem?_take] at hx
            split at hx
            · rw [flat_drop a hzs, List.getElem?_drop] at hx
              obtain ⟨v, hv, hr'⟩ := hr _ x hx
              exact ⟨v, by rw [← hv]; congr 1; omega, hr'⟩
            · cases hx
          have hCX := sub (a := lo) (n := len) x1 j6
          have hCY := sub (a := lo2) (n := k) y1 k6
          have hfX : (flat ((xs.drop lo).take len)).length = len * m2 := by rw [flat_length hX, hXl]
          have hfY : (flat ((ys.drop lo2).take k)).length = k * m2 := by rw [flat_length hY, hYl]
          generalize hXL : (xs.drop lo).take len = XL at *
          generalize hYL : (ys.drop lo2).take k = YL at *
          have oX : ∀ q ∈ flat XL, q.one = true := fun q hq => x2 q (by
            rw [← hXL] at hq
            rw [flat_take len (fun y hy => x1 y (List.mem_of_mem_drop hy)), flat_drop lo x1] at hq
            exact List.mem_of_mem_drop (List.mem_of_mem_take hq))
          have oY : ∀ q ∈ flat YL, q.one = true := fun q hq => y2 q (by
            rw [← hYL] at hq
            rw [flat_take k (fun y hy => y1 y (List.mem_of_mem_drop hy)), flat_drop lo2 y1] at hq
            exact List.mem_of_mem_drop (List.mem_of_mem_take hq))
          have hik : i * m2 + (len - i) * m2 = len * m2 := by rw [← Nat.add_mul]; congr 1; omega
          obtain ⟨new1, n1s, n1c, n1r⟩ := hCX.part (P := P) (i * m2) ((len - i) * m2) (by omega)
          obtain ⟨new2, n2s, n2c, n2r⟩ := hCY.part (P := P) 0 (k * m2) (by omega)
          rw [List.take_of_length_le (by rw [List.length_drop]; omega)] at n1c
          rw [List.drop_zero, List.take_of_length_le (by omega)] at n2c
          simp only [Nat.add_zero] at n2r
          have o1 : ∀ v ∈ new1, v.oneCell' = true := n1c.ones (by rw [n1s, List.length_drop]; omega) fun q hq => oX q (List.mem_of_mem_drop hq)
          have o2 : ∀ v ∈ new2, v.oneCell' = true := n2c.ones (by rw [n2s]; omega) oY
          have him : (i + k) * m2 = i * m2 + k * m2 := Nat.add_mul _ _ _
          have hlk : (len + k) * m2 = len * m2 + k * m2 := Nat.add_mul _ _ _
          have hnl : (insL XL YL i).length = len + k := by rw [insL_length (by omega), hXl, hYl]
          have hnc : ∀ x ∈ insL XL YL i, x.cells.length = m2 := fun x hx => (insL_mem hx).elim (hX x) (hY x)
          have hlen63 : len + k ≤ 1099511627776 := Nat.le_trans (Nat.le_mul_of_pos_right _ (Nat.succ_pos by_)) (room_le c10)
          by_cases hroom : len + k ≤ cp
          · -- there is room
            have hcpm : (len + k) * m2 ≤ cp * m2 := Nat.mul_le_mul_right _ hroom
            have hlc : (lo + cp) * m2 = lo * m2 + cp * m2 := Nat.add_mul _ _ _
            have hbig : L.off + lo * m2 + (len + k) * m2 ≤ C.size := by omega
            have hh1 : (w.drew.setCells L.blk (L.off + lo * m2 + (i + k) * m2) new1.toList).heap[L.blk]? = some (.cells (setArr C (L.off + lo * m2 + (i + k) * m2) new1.toList) et z1) := heap_setCells _ (w := w.drew) j2 _
            have hst1 := run_stores (P := P) (w := w.drew) j2 j4 (o := L.off + lo * m2 + (i + k) * m2) new1.toList (by rw [Array.length_toList]; omega) (fun u hu => o1 u (by simpa using hu))
            have hst2 := run_stores (P := P) hh1 (z := z1) (s := m2) (by rw [NoFz, size_setArr]; exact j4) (o := L.off + lo * m2 + i * m2) new2.toList (by rw [Array.length_toList, size_setArr]; omega) (fun u hu => o2 u (by simpa using hu))
            have hcp1 : ∀ dc sc, (Builtin.copy_ #[ρ.t 24, ρ.t 24] (ρ.t 3) #[.slice (some ⟨L.blk, L.off + lo * m2 + (i + k) * m2, none⟩) (len + k - (i + k)) dc, .slice (some ⟨L.blk, L.off + lo * m2 + i * m2, none⟩) (len + k - i) sc]).run P w.drew = .ok (goInt (len - i : Nat)) (w.drew.setCells L.blk (L.off + lo * m2 + (i + k) * m2) new1.toList) := fun dc sc => by
              have hmin : Nat.min (len + k - i) (len + k - (i + k)) = len - i := by simp only [Nat.min_def]; split <;> omega
              have := run_copy' (P := P) (w := w.drew) (ts := #[ρ.t 24, ρ.t 24]) (ty := ρ.t 3) rfl hu hi (a := some ⟨L.blk, L.off + lo * m2 + (i + k) * m2, none⟩) (dLen := len + k - (i + k)) (dCap := dc) (n := len + k - i)
                (x := .slice (some ⟨L.blk, L.off + lo * m2 + i * m2, none⟩) (len + k - i) sc) (cells := new1) rfl (by rw [hmin, hsz]; exact n1r w.drew L.blk et z1 j2) (fun b hb => by cases hb; exact hst1) (fun h => by cases h)
              rw [hmin] at this; exact this
            have hcp2 : ∀ dc, (Builtin.copy_ #[ρ.t 24, ρ.t 24] (ρ.t 3) #[.slice (some ⟨L.blk, L.off + lo * m2 + i * m2, none⟩) (len + k - i) dc, .slice (some ⟨M.blk, M.off + lo2 * m2, none⟩) k cq]).run P (w.drew.setCells L.blk (L.off + lo * m2 + (i + k) * m2) new1.toList) = .ok (goInt k) ((w.drew.setCells L.blk (L.off + lo * m2 + (i + k) * m2) new1.toList).setCells L.blk (L.off + lo * m2 + i * m2) new2.toList) := fun dc => by
              have hmin : Nat.min k (len + k - i) = k := by simp only [Nat.min_def]; split <;> omega
              have := run_copy' (P := P) (w := w.drew.setCells L.blk (L.off + lo * m2 + (i + k) * m2) new1.toList) (ts := #[ρ.t 24, ρ.t 24]) (ty := ρ.t 3) rfl hu hi (a := some ⟨L.blk, L.off + lo * m2 + i * m2, none⟩) (dLen := len + k - i) (dCap := dc) (n := k)
                (x := .slice (some ⟨M.blk, M.off + lo2 * m2, none⟩) k cq) (cells := new2) rfl (by rw [hmin, hsz]; exact n2r _ M.blk dt z2 (by rw [heap_setCells_ne _ _ _ _ _ hblk]; exact k2)) (fun b hb => by cases hb; exact hst2) (fun h => by cases h)
              rw [hmin] at this; exact this
            have hov : ∀ lb cb, (callFunc (ρ.f 29) #[.slice (some ⟨M.blk, M.off + lo2 * m2, none⟩) k cq, .slice (some ⟨L.blk, L.off + lo * m2 + (i + k) * m2, none⟩) lb cb]).run P w = .ok (.value (.bool false)) w := fun lb cb => by
              refine A.ov _ _ w (Go.Lib.run_overlaps_apart w (ρ.t 24) (ρ.t 4) E hu m2 z9 ⟨M.blk, M.off + lo2 * m2, none⟩ ⟨L.blk, L.off + lo * m2 + (i + k) * m2, none⟩ k cq lb cb hblk dt et D.size C.size ?_ ?_ ?_ ?_ ?_)
              · simp only [World.shape?, k2]
              · simp only [World.shape?, j2]
              · have := Nat.mul_pos c9 hpos
                omega
              · refine frozen_of k2 k4 (j := M.off + lo2 * m2) ?_
                have h1 := Nat.mul_pos c9 hpos
                have h2 : (lo2 + k) * m2 ≤ ys.length * m2 := Nat.mul_le_mul_right _ c8
                have h3 : (lo2 + k) * m2 = lo2 * m2 + k * m2 := Nat.add_mul _ _ _
                omega
              · rcases k4 with k4 | ⟨k4, _⟩
                · simp only [World.frozen?, k2]
                  simp only [Bool.and_eq_false_iff, decide_eq_false_iff_not]
                  omega
                · omega
            refine (ins_shift A hu z9 L.blk (L.off + lo * m2) len cp i M.blk (M.off + lo2 * m2) k cq w _ _ c7 c9 hroom ?_ hov hcp1 hcp2).mono ?_
            · exact hlen63
            · rintro e w' ⟨rfl, rfl⟩
              obtain ⟨al1, as1⟩ := setCells_alike new1.toList w.drew L.blk (L.off + lo * m2 + (i + k) * m2)
              obtain ⟨al2, as2⟩ := setCells_alike new2.toList (w.drew.setCells L.blk (L.off + lo * m2 + (i + k) * m2) new1.toList) L.blk (L.off + lo * m2 + i * m2)
              obtain ⟨hx, hsr⟩ := hs.move hb hbF j1 hnx (L' := ⟨L.blk, L.off + lo * m2, m2, len + k, L.csz⟩) rfl (w' := (w.drew.setCells L.blk (L.off + lo * m2 + (i + k) * m2) new1.toList).setCells L.blk (L.off + lo * m2 + i * m2) new2.toList)
                ⟨al2.os.trans al1.os, al2.tape.trans al1.tape, al2.output.trans al1.output⟩ (as2.trans as1) (o' := .arr m2 (insL XL YL i)) (fun γ hγ => by rw [heap_setCells_ne _ _ _ _ _ hγ, heap_setCells_ne _ _ _ _ _ hγ]; rfl)
              have hcr0 := hCX.deads (n := k * m2) (by omega)
              have hcr1 := CR.set hcr0 n1c (off := (i + k) * m2) (by rw [n1s, List.length_drop]; omega) (by rw [List.length_append, List.length_replicate, List.length_drop]; omega) (by rw [List.length_append, List.length_replicate]; omega)
              have hcr2 := CR.set hcr1 n2c (off := i * m2) (by rw [n2s]; omega) (by rw [setCells_length (by rw [List.length_append, List.length_replicate, List.length_drop]; omega), List.length_append, List.length_replicate]; omega)
                (by rw [setCells_length (by rw [List.length_append, List.length_replicate, List.length_drop]; omega), List.length_append, List.length_replicate, size_setArr]; omega)
              rw [set_shift (n := len) (by omega) hfX hfY, ← flat_insL hX] at hcr2
              have hsr' := hsr ⟨rfl, hpos, hnl.symm, hnc, _, _, _, heap_setCells _ hh1 _, by rw [size_setArr, size_setArr]; exact j3, by rw [NoFz, size_setArr, size_setArr]; exact j4, by rw [size_setArr, size_setArr, hnl]; exact hbig, hcr2.mono hx.kk hx.mm⟩
              refine ⟨_, rfl, _, hx, hsr', .osl (upd_same _ _ _) (by show 0 + (len + k) ≤ len + k; omega) hpos rfl rfl (by show _ = L.off + lo * m2 + 0 * m2; omega) (by show len + k ≤ 0 + cp; omega) (by show L.off + lo * m2 + (0 + cp) * m2 ≤ L.csz; rw [Nat.zero_add]; omega), Nat.le_succ _, fun x hx => ?_⟩
              by_cases e : x = nx
              · subst e; exact .inr ⟨Nat.le_refl _, Nat.lt_succ_self _⟩
              · rw [upd_ne m _ e] at hx; exact .inl hx
          · -- a new row
            have hroom' : cp < len + k := by omega
            obtain ⟨r1, r2, r3⟩ := room_facts c10 hroom'
            have hrow : i + (len + k - i) = len + k := by omega
            have hint : ((len + k - i : Nat) : Int) = (len : Int) + (k : Int) - (i : Int) := by omega
            obtain ⟨new0, n0s, n0c, n0r⟩ := hCX.part (P := P) 0 (i * m2) (by omega)
            simp only [Nat.add_zero, List.drop_zero] at n0r n0c
            have hap := run_append_make_grow (P := P) (w := w) (ts := #[ρ.t 24, ρ.t 3]) (ty := ρ.t 24) rfl rfl hu A.tI hi hz (base := some ⟨L.blk, L.off + lo * m2, none⟩) (sLen := i) (sCap := cp) (n := len + k - i) (kx := .i64) (old := new0)
              (fun w' hw' => by rw [hsz]; exact n0r w' L.blk et z1 (by rw [hw']; exact j2)) (by omega) (by rw [hrow]; exact r1) (by
                rw [hbb]
                exact Nat.le_trans (Nat.mul_le_mul_right _ (by omega)) r3) (by rw [hrow, hbb]; exact r2) (by rw [hsz]; exact hpos) (by omega)
            rw [hrow, hint] at hap
            have hzf' : fitsN m2 (ofV z) = true := by rw [← hza]; exact hzf
            obtain ⟨zc1, zc2, zc3⟩ := zero_cells hzf'
            generalize hG : grownCap w (len + k) cp E = G at hap
            have hGn : len + k ≤ G := by rw [← hG]; exact grownCap_ge w _ _ _
            generalize hROW : new0 ++ Builtin.zeroCells z.cells (len + k - i) ++ Builtin.zeroCells z.cells (G - (len + k)) = ROW at hap
            have hzs : ∀ n, (Builtin.zeroCells z.cells n).size = n * m2 := fun n => by simp [Builtin.zeroCells, zc1]
            have hRs : ROW.size = G * m2 := by
              rw [← hROW, Array.size_append, Array.size_append, n0s, hzs, hzs, ← Nat.add_mul, ← Nat.add_mul]
              congr 1; omega
            have hRb : (len + k) * m2 ≤ ROW.size := by rw [hRs]; exact Nat.mul_le_mul_right _ hGn
            obtain ⟨f1, f2, f3, f4⟩ := alloc_facts w.drew (.cells ROW E)
            have hne1 : L.blk ≠ w.heap.size := Nat.ne_of_lt (lt_of_some j2)
            have hne2 : M.blk ≠ w.heap.size := Nat.ne_of_lt (lt_of_some k2)
            have hh1 : ((w.drew.alloc (.cells ROW E)).setCells w.heap.size (i * m2) new2.toList).heap[w.heap.size]? = some (.cells (setArr ROW (i * m2) new2.toList) E (0, 0)) := heap_setCells _ f3 _
            have hst1 := run_stores (P := P) (w := w.drew.alloc (.cells ROW E)) (β := w.heap.size) f3 (NoFz_zero (s := m2) _) (o := i * m2) new2.toList (by rw [Array.length_toList]; omega) (fun u hu => o2 u (by simpa using hu))
            have hst2 := run_stores (P := P) (w := ((w.drew.alloc (.cells ROW E)).setCells w.heap.size (i * m2) new2.toList).drew) (β := w.heap.size) hh1 (NoFz_zero (s := m2) _) (o := (i + k) * m2) new1.toList (by rw [Array.length_toList, size_setArr]; omega) (fun u hu => o1 u (by simpa using hu))
            have hcp1 : ∀ dc, (Builtin.copy_ #[ρ.t 24, ρ.t 24] (ρ.t 3) #[.slice (some ⟨w.heap.size, i * m2, none⟩) (len + k - i) dc, .slice (some ⟨M.blk, M.off + lo2 * m2, none⟩) k cq]).run P (w.drew.alloc (.cells ROW E)) = .ok (goInt k) ((w.drew.alloc (.cells ROW E)).setCells w.heap.size (i * m2) new2.toList) := fun dc => by
              have hmin : Nat.min k (len + k - i) = k := by simp only [Nat.min_def]; split <;> omega
              have := run_copy' (P := P) (w := w.drew.alloc (.cells ROW E)) (ts := #[ρ.t 24, ρ.t 24]) (ty := ρ.t 3) rfl hu hi (a := some ⟨w.heap.size, i * m2, none⟩) (dLen := len + k - i) (dCap := dc) (n := k)
                (x := .slice (some ⟨M.blk, M.off + lo2 * m2, none⟩) k cq) (cells := new2) rfl (by rw [hmin, hsz]; exact n2r _ M.blk dt z2 (by rw [f2 _ (lt_of_some (h := w.drew.heap) k2)]; exact k2)) (fun b hb => by cases hb; exact hst1) (fun h => by cases h)
              rw [hmin] at this; exact this
            have hcp2 : ∀ dc sc, (Builtin.copy_ #[ρ.t 24, ρ.t 24] (ρ.t 3) #[.slice (some ⟨w.heap.size, (i + k) * m2, none⟩) (len + k - (i + k)) dc, .slice (some ⟨L.blk, L.off + lo * m2 + i * m2, none⟩) (len - i) sc]).run P ((w.drew.alloc (.cells ROW E)).setCells w.heap.size (i * m2) new2.toList).drew = .ok (goInt (len - i : Nat)) (((w.drew.alloc (.cells ROW E)).setCells w.heap.size (i * m2) new2.toList).drew.setCells w.heap.size ((i + k) * m2) new1.toList) := fun dc sc => by
              have hmin : Nat.min (len - i) (len + k - (i + k)) = len - i := by simp only [Nat.min_def]; split <;> omega
              have := run_copy' (P := P) (w := ((w.drew.alloc (.cells ROW E)).setCells w.heap.size (i * m2) new2.toList).drew) (ts := #[ρ.t 24, ρ.t 24]) (ty := ρ.t 3) rfl hu hi (a := some ⟨w.heap.size, (i + k) * m2, none⟩) (dLen := len + k - (i + k)) (dCap := dc) (n := len - i)
                (x := .slice (some ⟨L.blk, L.off + lo * m2 + i * m2, none⟩) (len - i) sc) (cells := new1) rfl (by
                  rw [hmin, hsz]
                  exact n1r _ L.blk et z1 (by
                    show ((w.drew.alloc (.cells ROW E)).setCells w.heap.size (i * m2) new2.toList).heap[L.blk]? = _
                    rw [heap_setCells_ne _ _ _ _ _ hne1, f2 _ (lt_of_some (h := w.drew.heap) j2)]; exact j2)) (fun b hb => by cases hb; exact hst2) (fun h => by cases h)
              rw [hmin] at this; exact this
            refine (ins_grow A hu z9 L.blk (L.off + lo * m2) len cp i w.heap.size G (some ⟨M.blk, M.off + lo2 * m2, none⟩) k cq w _ _ _ c7 c9 (by omega) hroom' hGn hlen63 hap hcp1 hcp2).mono ?_
            rintro e w' ⟨rfl, rfl⟩
            obtain ⟨al1, as1⟩ := setCells_alike new2.toList (w.drew.alloc (.cells ROW E)) w.heap.size (i * m2)
            obtain ⟨al2, as2⟩ := setCells_alike new1.toList ((w.drew.alloc (.cells ROW E)).setCells w.heap.size (i * m2) new2.toList).drew w.heap.size ((i + k) * m2)
            have hcr0 : CR (okB c.X m H F) w.heap m ((flat XL).take (i * m2) ++ List.replicate ((len + k - i) * m2) .dead) ROW 0 := by
              refine CR.deads (fun j x hx => ?_) ?_
              · obtain ⟨v, hv, hr⟩ := n0c j x hx
                have hj : j < new0.size := by
                  rcases Nat.lt_or_ge j new0.size with hj | hj
                  · exact hj
                  · rw [Nat.zero_add, Array.getElem?_eq_none hj] at hv; cases hv
                refine ⟨v, ?_, hr⟩
                rw [← hROW, Array.append_assoc, Nat.zero_add, Array.getElem?_append_left hj]
                rw [Nat.zero_add] at hv; exact hv
              · rw [List.length_take, Nat.min_eq_left (by omega), Nat.zero_add, ← Nat.add_mul, hrow]; exact hRb
            have hl0 : ((flat XL).take (i * m2) ++ List.replicate ((len + k - i) * m2) AV.dead).length = (len + k) * m2 := by
              rw [List.length_append, List.length_take, List.length_replicate, Nat.min_eq_left (by omega), ← Nat.add_mul, hrow]
            have hcr1 := CR.set hcr0 n2c (off := i * m2) (by rw [n2s]; omega) (by omega) (by omega)
            have hl1 := setCells_length (cs := (flat XL).take (i * m2) ++ List.replicate ((len + k - i) * m2) AV.dead) (new := flat YL) (off := i * m2) (by omega)
            have hcr2 := CR.set hcr1 n1c (off := (i + k) * m2) (by rw [n1s, List.length_drop]; omega) (by rw [hl1, List.length_drop]; omega) (by rw [hl1, size_setArr]; omega)
            rw [set_grow (n := len) (by omega) hfX hfY (by rw [List.length_replicate]), ← flat_insL hX] at hcr2
            simp only [Nat.zero_add] at hcr2
            obtain ⟨hx, hsr⟩ := hs.newArr hnx (w' := ((w.drew.alloc (.cells ROW E)).setCells w.heap.size (i * m2) new2.toList).drew.setCells w.heap.size ((i + k) * m2) new1.toList)
              ⟨al2.os.trans (al1.os.trans f4.os), al2.tape.trans (al1.tape.trans f4.tape), al2.output.trans (al1.output.trans f4.output)⟩ (as2.trans (as1.trans f1))
              (fun β hβ => by
                have hn : β ≠ w.heap.size := Nat.ne_of_lt hβ
                rw [heap_setCells_ne _ _ _ _ _ hn]
                show ((w.drew.alloc (.cells ROW E)).setCells w.heap.size (i * m2) new2.toList).heap[β]? = _
                rw [heap_setCells_ne _ _ _ _ _ hn]; exact f2 β hβ)
              (heap_setCells _ (w := ((w.drew.alloc (.cells ROW E)).setCells w.heap.size (i * m2) new2.toList).drew) hh1 _) (NoFz_zero _) hpos hnc (by rw [size_setArr, size_setArr, hnl]; exact hRb) hcr2
            obtain ⟨hx2, hsr2⟩ := hsr.del b
            refine ⟨_, rfl, _, hx.trans hx2, hsr2, .osl (upd_same _ _ _) (by show 0 + (len + k) ≤ (insL XL YL i).length; omega) hpos rfl rfl (by show _ = 0 + 0 * m2; omega) (by show (insL XL YL i).length ≤ 0 + G; omega) (by show 0 + (0 + G) * m2 ≤ _; rw [size_setArr, size_setArr, hRs, Nat.zero_add, Nat.zero_add]; exact Nat.le_refl _), Nat.le_succ _, fun x hx => ?_⟩
            by_cases e : x = nx
            · subst e; exact .inr ⟨Nat.le_refl _, Nat.lt_succ_self _⟩
            · rw [upd_ne m _ e] at hx; exact .inl hx
        · cases h
      · cases h
    · cases h
  · cases h

/-- A contract over the caller's own heap holds; only the first of its numbers is asked to be free. -/
def HOK1 (P : Program) (f : FuncId) (p : List AV → Heap → List Nat → Nat → Option (AV × Heap × List Nat × Nat)) : Prop :=
  ∀ args H F nx r, p args H F nx = some r → ∀ (c : Ctx) (m : Map) (w : World) (cargs : Array Value), SR c m H F w → CR (okB c.X m H F) w.heap m args cargs 0 → cargs.size = args.length →
    m nx = none → CallsTo P f cargs w fun cv w' => ∃ m', After c m H F w nx r.1 r.2.1 r.2.2.1 r.2.2.2 cv m' w'

theorem HOK1.hok {f : FuncId} {p : List AV → Heap → List Nat → Nat → Option (AV × Heap × List Nat × Nat)} (h : HOK1 P f p) : HOK P f p :=
  fun args H F nx r hr c m w cargs hs hc hsz hnx => h args H F nx r hr c m w cargs hs hc hsz (hnx nx (Nat.le_refl _))

theorem insH_ok1 (hT : TyOK P T) {ρ : Ren} {f : FuncId} (A : InsP P ρ f) {S : TypeId} (hS : ρ.t 24 = S) (he : ∀ args w, (callFunc f args).run P w = .ok (.enter f args) w) : HOK1 P f (insH T S) := by
  subst hS
  intro args H F nx r hr c m w cargs hs hc hsz hnx
  unfold insH at hr
  split at hr
  · rename_i s i s2 b2 lo2 k
    obtain ⟨v0, h0, g0⟩ := hc 0 _ rfl
    obtain ⟨v1, h1, g1⟩ := hc 1 _ rfl
    obtain ⟨v2, h2, g2⟩ := hc 2 _ rfl
    cases g1
    have hargs : cargs = #[v0, .int .i64 i, v2] := by
      apply Array.ext
      · simpa using hsz
      · intro j hj1 hj2
        have hj : j = 0 ∨ j = 1 ∨ j = 2 := by simp at hj2; omega
        rcases hj with rfl | rfl | rfl
        · rw [Nat.zero_add, Array.getElem?_eq_getElem hj1] at h0; simpa using h0
        · rw [Nat.zero_add, Array.getElem?_eq_getElem hj1] at h1; simpa using h1
        · rw [Nat.zero_add, Array.getElem?_eq_getElem hj1] at h2; simpa using h2
    subst hargs
    refine .inr ⟨he _ w, ?_⟩
    have tE : ∀ {s v}, insEnd T (ρ.t 24) s v H F nx = some r → ∃ q : TypeId × Nat × AV, elemT T (ρ.t 24) = some q := by
      intro s v h
      unfold insEnd at h
      split at h
      · rename_i hap
        unfold aappend at hap
        simp only at hap
        split at hap
        · exact ⟨_, by assumption⟩
        · cases hap
      · cases h
    have facts : ∀ {q : TypeId × Nat × AV}, elemT T (ρ.t 24) = some q → P.underlying (ρ.t 24) = some (.slice q.1) ∧ ∀ w, (Go.sizeOf q.1).run P w = .ok q.2.1 w := by
      intro q hq
      obtain ⟨i0, z, hu, hi, hsz, _⟩ := elemT_some hT hq
      exact ⟨hu, fun w => by simp [Go.sizeOf, typeInfo, hi, hsz]⟩
    unfold insS at hr
    split at hr
    · cases hi : i.beq 0 with
      | false => rw [hi, cond_false] at hr; cases hr
      | true =>
        rw [hi, cond_true] at hr
        have := Nat.eq_of_beq_eq_true hi
        subst this
        obtain ⟨q, hq⟩ := tE hr
        obtain ⟨t1, t2⟩ := facts hq
        cases g0
        obtain ⟨M, _, _, _, kv⟩ := g2.osl_inv
        rcases kv with ⟨kv, _⟩ | ⟨cq, rfl, _⟩
        · omega
        exact insEnd_ok hT A hr hs hnx (Nat.succ_pos k) (Nat.le_refl 0) (fun _ => rfl) .nils g2 t1 t2
    · cases hi : i.beq 0 with
      | false => rw [hi, cond_false] at hr; cases hr
      | true =>
        rw [hi, cond_true] at hr
        have := Nat.eq_of_beq_eq_true hi
        subst this
        obtain ⟨q, hq⟩ := tE hr
        obtain ⟨t1, t2⟩ := facts hq
        cases g0
        obtain ⟨M, _, _, _, kv⟩ := g2.osl_inv
        rcases kv with ⟨kv, _⟩ | ⟨cq, rfl, _⟩
        · omega
        exact insEnd_ok hT A hr hs hnx (Nat.succ_pos k) (Nat.le_refl 0) (fun _ => rfl) .emp g2 t1 t2
    · rename_i s1 b lo len
      cases hi : i.beq len with
      | false =>
        rw [hi, cond_false] at hr
        exact insMid_ok hT A hr hs hnx g0 g2
      | true =>
        rw [hi, cond_true] at hr
        have := Nat.eq_of_beq_eq_true hi
        subst this
        obtain ⟨q, hq⟩ := tE hr
        obtain ⟨t1, t2⟩ := facts hq
        obtain ⟨M, _, _, _, kv⟩ := g2.osl_inv
        rcases kv with ⟨kv, _⟩ | ⟨cq, rfl, _⟩
        · omega
        obtain ⟨L, _, _, _, jv⟩ := g0.osl_inv
        rcases jv with ⟨rfl, _, a, rfl⟩ | ⟨cp, rfl, e1, e2, _⟩
        · exact insEnd_ok hT A hr hs hnx (Nat.succ_pos k) (Nat.le_refl 0) (fun _ => rfl) g0 g2 t1 t2
        · exact insEnd_ok hT A hr hs hnx (Nat.succ_pos k) (by omega) (fun h => by cases h) g0 g2 t1 t2
    · cases hr
  · cases hr

theorem insH_ok (hT : TyOK P T) {ρ : Ren} {f : FuncId} (A : InsP P ρ f) {S : TypeId} (hS : ρ.t 24 = S) (he : ∀ args w, (callFunc f args).run P w = .ok (.enter f args) w) : HOK P f (insH T S) := (insH_ok1 hT A hS he).hok

end
end Go.Proofs.YtopkeglpafdlfaaGreat.VS
