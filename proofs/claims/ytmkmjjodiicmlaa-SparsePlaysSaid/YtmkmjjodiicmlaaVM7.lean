/- A library of an abstract machine, joined from 5 texts. Conditions: none. -/
import Derived.Test.YtmkmjjodiicmlaaVM6
import Derived.Shelf.Lays8
set_option linter.unusedVariables false
set_option linter.unusedSimpArgs false
set_option linter.unusedSectionVars false
/- slices.Insert over the caller's own heap: a contract. Conditions: none. -/
namespace Go.Proofs.Ytmkmjjodiicmlaa.VS
open Go.Shelf Go.RowKit

theorem dropAll {α : Type} (l : List α) {i : Nat} (h : l.length ≤ i) : l.drop i = [] := List.drop_eq_nil_of_le h

theorem set_shift {k n m i : Nat} {fl fy : List AV} (hi : i ≤ n) (hl : fl.length = n * k) (hy : fy.length = m * k) :
    setCells (setCells (fl ++ List.replicate (m * k) .dead) ((i + m) * k) (fl.drop (i * k))) (i * k) fy = fl.take (i * k) ++ fy ++ fl.drop (i * k) := by
  have h1 : i * k ≤ n * k := Nat.mul_le_mul_right k hi
  have h2 : (i + m) * k = i * k + m * k := Nat.add_mul _ _ _
  unfold setCells
  rw [List.length_drop, hl, hy, h2]
  have e1 : ((fl ++ List.replicate (m * k) AV.dead).take (i * k + m * k) ++ fl.drop (i * k) ++ (fl ++ List.replicate (m * k) AV.dead).drop (i * k + m * k + (n * k - i * k))).take (i * k) = fl.take (i * k) := by
    rw [List.append_assoc, List.take_append_of_le_length (by rw [List.length_take, List.length_append, List.length_replicate]; omega), List.take_take, Nat.min_eq_left (by omega), List.take_append_of_le_length (by omega)]
  have e2 : ((fl ++ List.replicate (m * k) AV.dead).take (i * k + m * k) ++ fl.drop (i * k) ++ (fl ++ List.replicate (m * k) AV.dead).drop (i * k + m * k + (n * k - i * k))).drop (i * k + m * k) = fl.drop (i * k) := by
    rw [dropAll (fl ++ List.replicate (m * k) AV.dead) (by rw [List.length_append, List.length_replicate]; omega), List.append_nil,
      List.drop_append_of_le_length (by rw [List.length_take, List.length_append, List.length_replicate]; omega), List.drop_eq_nil_of_le (by rw [List.length_take]; omega), List.nil_append]
  rw [e1, e2]

theorem set_grow {k n m i : Nat} {fl fy ze : List AV} (hi : i ≤ n) (hl : fl.length = n * k) (hy : fy.length = m * k) (hz : ze.length = (n + m - i) * k) :
    setCells (setCells (fl.take (i * k) ++ ze) (i * k) fy) ((i + m) * k) (fl.drop (i * k)) = fl.take (i * k) ++ fy ++ fl.drop (i * k) := by
  have h1 : i * k ≤ n * k := Nat.mul_le_mul_right k hi
  have h2 : (i + m) * k = i * k + m * k := Nat.add_mul _ _ _
  have h3 : (n + m - i) * k = n * k + m * k - i * k := by rw [Nat.sub_mul, Nat.add_mul]
  have ht : (fl.take (i * k)).length = i * k := by rw [List.length_take]; omega
  have e0 : setCells (fl.take (i * k) ++ ze) (i * k) fy = fl.take (i * k) ++ fy ++ ze.drop (m * k) := by
    unfold setCells
    rw [List.take_left' ht, hy, List.drop_append, ht, dropAll (fl.take (i * k)) (by omega), List.nil_append, show i * k + m * k - i * k = m * k by omega]
  rw [e0]
  unfold setCells
  rw [h2, List.take_left' (by rw [List.length_append, ht, hy]), List.length_drop, hl, List.drop_append, List.length_append, ht, hy, dropAll (fl.take (i * k) ++ fy) (by rw [List.length_append, ht, hy]; omega), List.nil_append,
    List.drop_drop, dropAll (ze) (by omega), List.append_nil]

theorem flat_insL {k i : Nat} {xs ys : List AV} (hxs : ∀ x ∈ xs, x.cells.length = k) : flat (insL xs ys i) = (flat xs).take (i * k) ++ flat ys ++ (flat xs).drop (i * k) := by
  unfold insL
  rw [flat_append, flat_append, flat_take i hxs, flat_drop i hxs]

theorem insL_length {i : Nat} {xs ys : List AV} (hi : i ≤ xs.length) : (insL xs ys i).length = xs.length + ys.length := by
  unfold insL; simp; omega

theorem insL_mem {i : Nat} {xs ys : List AV} {x : AV} (h : x ∈ insL xs ys i) : x ∈ xs ∨ x ∈ ys := by
  unfold insL at h
  rcases List.mem_append.1 h with h | h
  · rcases List.mem_append.1 h with h | h
    · exact .inl (List.mem_of_mem_take h)
    · exact .inr h
  · exact .inl (List.mem_of_mem_drop h)

variable [Syms]
section
variable {P : Program} {T : Tabs} {c : Ctx} {m : Map} {H : Heap} {F : List Nat} {w : World}

/-- What an operation leaves, as a call's. -/
theorem Done.after {nx : Nat} {v : AV} {e : Eff} {cv : Value} {m' : Map} {w' : World} (h : Done c m H F w nx v e [] cv m' w') : After c m H F w nx v (happ H e) F (nx + STRIDE) cv m' w' :=
  ⟨h.ext, h.sr, h.vr, by omega, h.dom⟩

theorem SR.drew (hs : SR c m H F w) : Ext c m H F w m H F w.drew ∧ SR c m H F w.drew := hs.still ⟨rfl, rfl, rfl⟩ rfl

theorem insEnd_ok (hT : TyOK P T) {ρ : Ren} {f : FuncId} (A : InsP P ρ f) {s v : AV} {nx : Nat} {r : AV × Heap × List Nat × Nat} (h : insEnd T (ρ.t 24) s v H F nx = some r) (hs : SR c m H F w) (hnx : m nx = none)
    {base vb : Option Addr} {n cp k vc : Nat} (hk : 0 < k) (hn : n ≤ cp) (hb : base = none → cp = 0) (hsv : VR (okB c.X m H F) w.heap m s (.slice base n cp)) (hvv : VR (okB c.X m H F) w.heap m v (.slice vb k vc))
    {E : TypeId} (tS : P.underlying (ρ.t 24) = some (.slice E)) {sz : Nat} (z9 : ∀ w, (Go.sizeOf E).run P w = .ok sz w) :
    Calls P f #[.slice base n cp, .int .i64 n, .slice vb k vc] w fun e w' => ∃ cv, e = .returned cv ∧ ∃ m', After c m H F w nx r.1 r.2.1 r.2.2.1 r.2.2.2 cv m' w' := by
  unfold insEnd at h
  split at h
  · rename_i r' e rd hap
    cases h
    obtain ⟨cv, m', w', h1, h2⟩ := sim_append (ty := ρ.t 24) hT hs hnx (ts := #[ρ.t 24, ρ.t 24]) hap hsv hvv
    refine (ins_end A tS z9 base vb n cp k vc w w' cv hk hn hb h1).mono ?_
    rintro e w'' ⟨rfl, rfl⟩
    exact ⟨cv, rfl, m', h2.after⟩
  · cases h

omit [Syms] in
theorem condS {α : Type} {b : Bool} {a r : α} (h : (bif b then some a else none) = some r) : b = true ∧ a = r := by
  cases b
  · cases h
  · exact ⟨rfl, Option.some.inj h⟩

theorem CR.part {ok : Nat → Prop} {h : Array Obj} {m : Map} {cs : List AV} {C : Array Value} {o : Nat} (hr : CR ok h m cs C o) (a n : Nat) (hle : a + n ≤ cs.length) :
    ∃ new : Array Value, new.size = n ∧ CR ok h m ((cs.drop a).take n) new 0 ∧ ∀ (w : World) (β : Nat) (e : TypeId) (z : Nat × Nat), w.heap[β]? = some (.cells C e z) → (loadCells ⟨β, o + a, none⟩ n).run P w = .ok new w := by
  obtain ⟨g, g1, g2⟩ := hr.fun
  refine ⟨((List.range n).map fun j => g (a + j)).toArray, by simp, fun j x hx => ?_, fun w β e z hC => ?_⟩
  · rw [List.getElem?_take] at hx
    split at hx
    · rename_i hj
      rw [List.getElem?_drop] at hx
      exact ⟨g (a + j), by simp [hj], g2 _ _ hx⟩
    · cases hx
  · exact run_loadCells_row (g := fun j => g (a + j)) w hC fun j hj => by
      rw [Nat.add_assoc]; exact g1 (a + j) (by omega)

theorem CR.deads {ok : Nat → Prop} {h : Array Obj} {m : Map} {cs : List AV} {C : Array Value} {o n : Nat} (hr : CR ok h m cs C o) (hle : o + cs.length + n ≤ C.size) : CR ok h m (cs ++ List.replicate n .dead) C o := by
  intro j x hx
  by_cases hj : j < cs.length
  · rw [List.getElem?_append_left hj] at hx; exact hr j x hx
  · rw [List.getElem?_append_right (by omega), List.getElem?_replicate] at hx
    split at hx
    · cases hx
      exact ⟨C[o + j]'(by omega), Array.getElem?_eq_getElem (by omega), .dead⟩
    · cases hx

theorem insMid_ok (hT : TyOK P T) {ρ : Ren} {f : FuncId} (A : InsP P ρ f) {s1 b lo len i s2 b2 lo2 k : Nat} {nx : Nat} {r : AV × Heap × List Nat × Nat} (h : insMid T (ρ.t 24) s1 b lo len i s2 b2 lo2 k H F nx = some r)
    (hs : SR c m H F w) (hnx : m nx = none) {v1 v2 : Value} (hsv : VR (okB c.X m H F) w.heap m (.osl s1 b lo len) v1) (hvv : VR (okB c.X m H F) w.heap m (.osl s2 b2 lo2 k) v2) :
    Calls P f #[v1, .int .i64 i, v2] w fun e w' => ∃ cv, e = .returned cv ∧ ∃ m', After c m H F w nx r.1 r.2.1 r.2.2.1 r.2.2.2 cv m' w' := by
  unfold insMid at h
  split at h
  · rename_i q hq
    split at h
    · rename_i by_ hby
      split at h
      · rename_i m1 xs hb
        split at h
        · rename_i m2 ys hb2
          unfold insMid2 at h
          obtain ⟨hc, rfl⟩ := condS h
          clear h
          simp only [Bool.and_eq_true, Bool.not_eq_true'] at hc
          obtain ⟨c0, c1, c2, c3, c4, c5, c6, c7, c8, c9, c10, c11, c12⟩ := hc
          obtain ⟨i0, z, hu, hi, hsz, hz, hza, hzf, hpos⟩ := elemT_some hT hq
          obtain ⟨E, sz, za⟩ := q
          simp only at *
          have c2 := Nat.eq_of_beq_eq_true c2
          have c3 := Nat.eq_of_beq_eq_true c3
          have c4 := Nat.eq_of_beq_eq_true c4
          have c5 := Nat.eq_of_beq_eq_true c5
          subst c2; subst c3; subst c4; subst c5
          have c1 : 1 < m2 := Nat.le_of_ble_eq_true c1
          have c6 := Nat.le_of_ble_eq_true c6
          have c7 : i < len := Nat.le_of_ble_eq_true c7
          have c8 := Nat.le_of_ble_eq_true c8
          have c9 : 0 < k := Nat.le_of_ble_eq_true c9
          obtain ⟨i', hi', hbb⟩ := bytesOf_some hT hby
          rw [hi] at hi'; cases hi'
          have z9 : ∀ w, (Go.sizeOf E).run P w = .ok m2 w := fun w => by simp [Go.sizeOf, typeInfo, hi, hsz]
          obtain ⟨hb, hbF⟩ := hlive_some hb
          have hbne : b ≠ b2 := fun e => by subst e; rw [beq_same] at c0; cases c0
          obtain ⟨L, j1, _, jsz, jv⟩ := hsv.osl_inv
          obtain ⟨M, k1, _, ksz, kv⟩ := hvv.osl_inv
          obtain ⟨_, _, je, jl, C, et, z1, j2, j3, j4, j5, j6⟩ := hs.objm hb j1
          obtain ⟨_, _, ke, kl, D, dt, z2, k2, k3, k4, k5, k6⟩ := hs.objm hb2 k1
          have hblk : M.blk ≠ L.blk := fun e => hbne (hs.inj b _ b2 _ L M hb hb2 j1 k1 e.symm)
          rcases jv with ⟨jv, _⟩ | ⟨cp, rfl, g1, g2, g3⟩
          · omega
          rcases kv with ⟨kv, _⟩ | ⟨cq, rfl, q1, q2, q3⟩
          · omega
          obtain ⟨x1, x2⟩ := ones_of (s := m2) (fun y hy => List.all_eq_true.1 c11 y hy)
          obtain ⟨y1, y2⟩ := ones_of (s := m2) (fun y hy => List.all_eq_true.1 c12 y hy)
          -- the elements of both
          have hXl : ((xs.drop lo).take len).length = len := by rw [List.length_take, List.length_drop]; omega
          have hYl : ((ys.drop lo2).take k).length = k := by rw [List.length_take, List.length_drop]; omega
          have hX : ∀ x ∈ (xs.drop lo).take len, x.cells.length = m2 := fun x hx => x1 x (List.mem_of_mem_drop (List.mem_of_mem_take hx))
          have hY : ∀ y ∈ (ys.drop lo2).take k, y.cells.length = m2 := fun y hy => y1 y (List.mem_of_mem_drop (List.mem_of_mem_take hy))
          have sub : ∀ {zs : List AV} {a n o : Nat} {B : Array Value}, (∀ y ∈ zs, y.cells.length = m2) → CR (okB c.X m H F) w.heap m (flat zs) B o → CR (okB c.X m H F) w.heap m (flat ((zs.drop a).take n)) B (o + a * m2) := by
            intro zs a n o B hzs hr j x hx
            rw [flat_take n (fun y hy => hzs y (List.mem_of_mem_drop hy)), List.getElem?_take] at hx
            split at hx
            · rw [flat_drop a hzs, List.getElem?_drop] at hx
              obtain ⟨v, hv, hr'⟩ := hr _ x hx
              exact ⟨v, by rw [← hv]; congr 1; omega, hr'⟩
            · cases hx
          have hCX := sub (a := lo) (n := len) x1 j6
          have hCY := sub (a := lo2) (n := k) y1 k6
          have hfX : (flat ((xs.drop lo).take len)).length = len * m2 := by rw [flat_length hX, hXl]
          have hfY : (flat ((ys.drop lo2).take k)).length = k * m2 := by rw [flat_length hY, hYl]
          generalize hXL : (xs.drop lo).take len = XL at *
          generalize hYL : (ys.drop lo2).take k = YL at *
          have oX : ∀ q ∈ flat XL, q.one = true := fun q hq => x2 q (by
            rw [← hXL] at hq
            rw [flat_take len (fun y hy => x1 y (List.mem_of_mem_drop hy)), flat_drop lo x1] at hq
            exact List.mem_of_mem_drop (List.mem_of_mem_take hq))
          have oY : ∀ q ∈ flat YL, q.one = true := fun q hq => y2 q (by
            rw [← hYL] at hq
            rw [flat_take k (fun y hy => y1 y (List.mem_of_mem_drop hy)), flat_drop lo2 y1] at hq
            exact List.mem_of_mem_drop (List.mem_of_mem_take hq))
          have hik : i * m2 + (len - i) * m2 = len * m2 := by rw [← Nat.add_mul]; congr 1; omega
          obtain ⟨new1, n1s, n1c, n1r⟩ := hCX.part (P := P) (i * m2) ((len - i) * m2) (by omega)
          obtain ⟨new2, n2s, n2c, n2r⟩ := hCY.part (P := P) 0 (k * m2) (by omega)
          rw [List.take_of_length_le (by rw [List.length_drop]; omega)] at n1c
          rw [List.drop_zero, List.take_of_length_le (by omega)] at n2c
          simp only [Nat.add_zero] at n2r
          have o1 : ∀ v ∈ new1, v.oneCell' = true := n1c.ones (by rw [n1s, List.length_drop]; omega) fun q hq => oX q (List.mem_of_mem_drop hq)
          have o2 : ∀ v ∈ new2, v.oneCell' = true := n2c.ones (by rw [n2s]; omega) oY
          have him : (i + k) * m2 = i * m2 + k * m2 := Nat.add_mul _ _ _
          have hlk : (len + k) * m2 = len * m2 + k * m2 := Nat.add_mul _ _ _
          have hnl : (insL XL YL i).length = len + k := by rw [insL_length (by omega), hXl, hYl]
          have hnc : ∀ x ∈ insL XL YL i, x.cells.length = m2 := fun x hx => (insL_mem hx).elim (hX x) (hY x)
          have hlen63 : len + k ≤ 1099511627776 := Nat.le_trans (Nat.le_mul_of_pos_right _ (Nat.succ_pos by_)) (room_le c10)
          by_cases hroom : len + k ≤ cp
          · -- there is room
            have hcpm : (len + k) * m2 ≤ cp * m2 := Nat.mul_le_mul_right _ hroom
            have hlc : (lo + cp) * m2 = lo * m2 + cp * m2 := Nat.add_mul _ _ _
            have hbig : L.off + lo * m2 + (len + k) * m2 ≤ C.size := by omega
            have hh1 : (w.drew.setCells L.blk (L.off + lo * m2 + (i + k) * m2) new1.toList).heap[L.blk]? = some (.cells (setArr C (L.off + lo * m2 + (i + k) * m2) new1.toList) et z1) := heap_setCells _ (w := w.drew) j2 _
            have hst1 := run_stores (P := P) (w := w.drew) j2 j4 (o := L.off + lo * m2 + (i + k) * m2) new1.toList (by rw [Array.length_toList]; omega) (fun u hu => o1 u (by simpa using hu))
            have hst2 := run_stores (P := P) hh1 (z := z1) (s := m2) (by rw [NoFz, size_setArr]; exact j4) (o := L.off + lo * m2 + i * m2) new2.toList (by rw [Array.length_toList, size_setArr]; omega) (fun u hu => o2 u (by simpa using hu))
            have hcp1 : ∀ dc sc, (Builtin.copy_ #[ρ.t 24, ρ.t 24] (ρ.t 3) #[.slice (some ⟨L.blk, L.off + lo * m2 + (i + k) * m2, none⟩) (len + k - (i + k)) dc, .slice (some ⟨L.blk, L.off + lo * m2 + i * m2, none⟩) (len + k - i) sc]).run P w.drew = .ok (goInt (len - i : Nat)) (w.drew.setCells L.blk (L.off + lo * m2 + (i + k) * m2) new1.toList) := fun dc sc => by
              have hmin : Nat.min (len + k - i) (len + k - (i + k)) = len - i := by simp only [Nat.min_def]; split <;> omega
              have := run_copy' (P := P) (w := w.drew) (ts := #[ρ.t 24, ρ.t 24]) (ty := ρ.t 3) rfl hu hi (a := some ⟨L.blk, L.off + lo * m2 + (i + k) * m2, none⟩) (dLen := len + k - (i + k)) (dCap := dc) (n := len + k - i)
                (x := .slice (some ⟨L.blk, L.off + lo * m2 + i * m2, none⟩) (len + k - i) sc) (cells := new1) rfl (by rw [hmin, hsz]; exact n1r w.drew L.blk et z1 j2) (fun b hb => by cases hb; exact hst1) (fun h => by cases h)
              rw [hmin] at this; exact this
            have hcp2 : ∀ dc, (Builtin.copy_ #[ρ.t 24, ρ.t 24] (ρ.t 3) #[.slice (some ⟨L.blk, L.off + lo * m2 + i * m2, none⟩) (len + k - i) dc, .slice (some ⟨M.blk, M.off + lo2 * m2, none⟩) k cq]).run P (w.drew.setCells L.blk (L.off + lo * m2 + (i + k) * m2) new1.toList) = .ok (goInt k) ((w.drew.setCells L.blk (L.off + lo * m2 + (i + k) * m2) new1.toList).setCells L.blk (L.off + lo * m2 + i * m2) new2.toList) := fun dc => by
              have hmin : Nat.min k (len + k - i) = k := by simp only [Nat.min_def]; split <;> omega
              have := run_copy' (P := P) (w := w.drew.setCells L.blk (L.off + lo * m2 + (i + k) * m2) new1.toList) (ts := #[ρ.t 24, ρ.t 24]) (ty := ρ.t 3) rfl hu hi (a := some ⟨L.blk, L.off + lo * m2 + i * m2, none⟩) (dLen := len + k - i) (dCap := dc) (n := k)
                (x := .slice (some ⟨M.blk, M.off + lo2 * m2, none⟩) k cq) (cells := new2) rfl (by rw [hmin, hsz]; exact n2r _ M.blk dt z2 (by rw [heap_setCells_ne _ _ _ _ _ hblk]; exact k2)) (fun b hb => by cases hb; exact hst2) (fun h => by cases h)
              rw [hmin] at this; exact this
            have hov : ∀ lb cb, (callFunc (ρ.f 29) #[.slice (some ⟨M.blk, M.off + lo2 * m2, none⟩) k cq, .slice (some ⟨L.blk, L.off + lo * m2 + (i + k) * m2, none⟩) lb cb]).run P w = .ok (.value (.bool false)) w := fun lb cb => by
              refine A.ov _ _ w (Go.Lib.run_overlaps_apart w (ρ.t 24) (ρ.t 4) E hu m2 z9 ⟨M.blk, M.off + lo2 * m2, none⟩ ⟨L.blk, L.off + lo * m2 + (i + k) * m2, none⟩ k cq lb cb hblk dt et D.size C.size ?_ ?_ ?_ ?_ ?_)
              · simp only [World.shape?, k2]
              · simp only [World.shape?, j2]
              · have := Nat.mul_pos c9 hpos
                omega
              · refine frozen_of k2 k4 (j := M.off + lo2 * m2) ?_
                have h1 := Nat.mul_pos c9 hpos
                have h2 : (lo2 + k) * m2 ≤ ys.length * m2 := Nat.mul_le_mul_right _ c8
                have h3 : (lo2 + k) * m2 = lo2 * m2 + k * m2 := Nat.add_mul _ _ _
                omega
              · rcases k4 with k4 | ⟨k4, _⟩
                · simp only [World.frozen?, k2]
                  simp only [Bool.and_eq_false_iff, decide_eq_false_iff_not]
                  omega
                · omega
            refine (ins_shift A hu z9 L.blk (L.off + lo * m2) len cp i M.blk (M.off + lo2 * m2) k cq w _ _ c7 c9 hroom ?_ hov hcp1 hcp2).mono ?_
            · exact hlen63
            · rintro e w' ⟨rfl, rfl⟩
              obtain ⟨al1, as1⟩ := setCells_alike new1.toList w.drew L.blk (L.off + lo * m2 + (i + k) * m2)
              obtain ⟨al2, as2⟩ := setCells_alike new2.toList (w.drew.setCells L.blk (L.off + lo * m2 + (i + k) * m2) new1.toList) L.blk (L.off + lo * m2 + i * m2)
              obtain ⟨hx, hsr⟩ := hs.move hb hbF j1 hnx (L' := ⟨L.blk, L.off + lo * m2, m2, len + k, L.csz, fun _ => none⟩) rfl (w' := (w.drew.setCells L.blk (L.off + lo * m2 + (i + k) * m2) new1.toList).setCells L.blk (L.off + lo * m2 + i * m2) new2.toList)
                ⟨al2.os.trans al1.os, al2.tape.trans al1.tape, al2.output.trans al1.output⟩ (as2.trans as1) (o' := .arr m2 (insL XL YL i)) (fun γ hγ => by rw [heap_setCells_ne _ _ _ _ _ hγ, heap_setCells_ne _ _ _ _ _ hγ]; rfl)
              have hcr0 := hCX.deads (n := k * m2) (by omega)
              have hcr1 := CR.set hcr0 n1c (off := (i + k) * m2) (by rw [n1s, List.length_drop]; omega) (by rw [List.length_append, List.length_replicate, List.length_drop]; omega) (by rw [List.length_append, List.length_replicate]; omega)
              have hcr2 := CR.set hcr1 n2c (off := i * m2) (by rw [n2s]; omega) (by rw [setCells_length (by rw [List.length_append, List.length_replicate, List.length_drop]; omega), List.length_append, List.length_replicate]; omega)
                (by rw [setCells_length (by rw [List.length_append, List.length_replicate, List.length_drop]; omega), List.length_append, List.length_replicate, size_setArr]; omega)
              rw [set_shift (n := len) (by omega) hfX hfY, ← flat_insL hX] at hcr2
              have hsr' := hsr ⟨rfl, hpos, hnl.symm, hnc, _, _, _, heap_setCells _ hh1 _, by rw [size_setArr, size_setArr]; exact j3, by rw [NoFz, size_setArr, size_setArr]; exact j4, by rw [size_setArr, size_setArr, hnl]; exact hbig, hcr2.mono hx.kk hx.mm⟩
              refine ⟨_, rfl, _, hx, hsr', .osl (upd_same _ _ _) (by show 0 + (len + k) ≤ len + k; omega) hpos rfl rfl (by show _ = L.off + lo * m2 + 0 * m2; omega) (by show len + k ≤ 0 + cp; omega) (by show L.off + lo * m2 + (0 + cp) * m2 ≤ L.csz; rw [Nat.zero_add]; omega), Nat.le_succ _, fun x hx => ?_⟩
              by_cases e : x = nx
              · subst e; exact .inr ⟨Nat.le_refl _, Nat.lt_succ_self _⟩
              · rw [upd_ne m _ e] at hx; exact .inl hx
          · -- a new row
            have hroom' : cp < len + k := by omega
            obtain ⟨r1, r2, r3⟩ := room_facts c10 hroom'
            have hrow : i + (len + k - i) = len + k := by omega
            have hint : ((len + k - i : Nat) : Int) = (len : Int) + (k : Int) - (i : Int) := by omega
            obtain ⟨new0, n0s, n0c, n0r⟩ := hCX.part (P := P) 0 (i * m2) (by omega)
            simp only [Nat.add_zero, List.drop_zero] at n0r n0c
            have hap := run_append_make_grow (P := P) (w := w) (ts := #[ρ.t 24, ρ.t 3]) (ty := ρ.t 24) rfl rfl hu A.tI hi hz (base := some ⟨L.blk, L.off + lo * m2, none⟩) (sLen := i) (sCap := cp) (n := len + k - i) (kx := .i64) (old := new0)
              (fun w' hw' => by rw [hsz]; exact n0r w' L.blk et z1 (by rw [hw']; exact j2)) (by omega) (by rw [hrow]; exact r1) (by
                rw [hbb]
                exact Nat.le_trans (Nat.mul_le_mul_right _ (by omega)) r3) (by rw [hrow, hbb]; exact r2) (by rw [hsz]; exact hpos) (by omega)
            rw [hrow, hint] at hap
            have hzf' : fitsN m2 (ofV z) = true := by rw [← hza]; exact hzf
            obtain ⟨zc1, zc2, zc3⟩ := zero_cells hzf'
            generalize hG : grownCap w (len + k) cp E = G at hap
            have hGn : len + k ≤ G := by rw [← hG]; exact grownCap_ge w _ _ _
            generalize hROW : new0 ++ Builtin.zeroCells z.cells (len + k - i) ++ Builtin.zeroCells z.cells (G - (len + k)) = ROW at hap
            have hzs : ∀ n, (Builtin.zeroCells z.cells n).size = n * m2 := fun n => by simp [Builtin.zeroCells, zc1]
            have hRs : ROW.size = G * m2 := by
              rw [← hROW, Array.size_append, Array.size_append, n0s, hzs, hzs, ← Nat.add_mul, ← Nat.add_mul]
              congr 1; omega
            have hRb : (len + k) * m2 ≤ ROW.size := by rw [hRs]; exact Nat.mul_le_mul_right _ hGn
            obtain ⟨f1, f2, f3, f4⟩ := alloc_facts w.drew (.cells ROW E)
            have hne1 : L.blk ≠ w.heap.size := Nat.ne_of_lt (lt_of_some j2)
            have hne2 : M.blk ≠ w.heap.size := Nat.ne_of_lt (lt_of_some k2)
            have hh1 : ((w.drew.alloc (.cells ROW E)).setCells w.heap.size (i * m2) new2.toList).heap[w.heap.size]? = some (.cells (setArr ROW (i * m2) new2.toList) E (0, 0)) := heap_setCells _ f3 _
            have hst1 := run_stores (P := P) (w := w.drew.alloc (.cells ROW E)) (β := w.heap.size) f3 (NoFz_zero (s := m2) _) (o := i * m2) new2.toList (by rw [Array.length_toList]; omega) (fun u hu => o2 u (by simpa using hu))
            have hst2 := run_stores (P := P) (w := ((w.drew.alloc (.cells ROW E)).setCells w.heap.size (i * m2) new2.toList).drew) (β := w.heap.size) hh1 (NoFz_zero (s := m2) _) (o := (i + k) * m2) new1.toList (by rw [Array.length_toList, size_setArr]; omega) (fun u hu => o1 u (by simpa using hu))
            have hcp1 : ∀ dc, (Builtin.copy_ #[ρ.t 24, ρ.t 24] (ρ.t 3) #[.slice (some ⟨w.heap.size, i * m2, none⟩) (len + k - i) dc, .slice (some ⟨M.blk, M.off + lo2 * m2, none⟩) k cq]).run P (w.drew.alloc (.cells ROW E)) = .ok (goInt k) ((w.drew.alloc (.cells ROW E)).setCells w.heap.size (i * m2) new2.toList) := fun dc => by
              have hmin : Nat.min k (len + k - i) = k := by simp only [Nat.min_def]; split <;> omega
              have := run_copy' (P := P) (w := w.drew.alloc (.cells ROW E)) (ts := #[ρ.t 24, ρ.t 24]) (ty := ρ.t 3) rfl hu hi (a := some ⟨w.heap.size, i * m2, none⟩) (dLen := len + k - i) (dCap := dc) (n := k)
                (x := .slice (some ⟨M.blk, M.off + lo2 * m2, none⟩) k cq) (cells := new2) rfl (by rw [hmin, hsz]; exact n2r _ M.blk dt z2 (by rw [f2 _ (lt_of_some (h := w.drew.heap) k2)]; exact k2)) (fun b hb => by cases hb; exact hst1) (fun h => by cases h)
              rw [hmin] at this; exact this
            have hcp2 : ∀ dc sc, (Builtin.copy_ #[ρ.t 24, ρ.t 24] (ρ.t 3) #[.slice (some ⟨w.heap.size, (i + k) * m2, none⟩) (len + k - (i + k)) dc, .slice (some ⟨L.blk, L.off + lo * m2 + i * m2, none⟩) (len - i) sc]).run P ((w.drew.alloc (.cells ROW E)).setCells w.heap.size (i * m2) new2.toList).drew = .ok (goInt (len - i : Nat)) (((w.drew.alloc (.cells ROW E)).setCells w.heap.size (i * m2) new2.toList).drew.setCells w.heap.size ((i + k) * m2) new1.toList) := fun dc sc => by
              have hmin : Nat.min (len - i) (len + k - (i + k)) = len - i := by simp only [Nat.min_def]; split <;> omega
              have := run_copy' (P := P) (w := ((w.drew.alloc (.cells ROW E)).setCells w.heap.size (i * m2) new2.toList).drew) (ts := #[ρ.t 24, ρ.t 24]) (ty := ρ.t 3) rfl hu hi (a := some ⟨w.heap.size, (i + k) * m2, none⟩) (dLen := len + k - (i + k)) (dCap := dc) (n := len - i)
                (x := .slice (some ⟨L.blk, L.off + lo * m2 + i * m2, none⟩) (len - i) sc) (cells := new1) rfl (by
                  rw [hmin, hsz]
                  exact n1r _ L.blk et z1 (by
                    show ((w.drew.alloc (.cells ROW E)).setCells w.heap.size (i * m2) new2.toList).heap[L.blk]? = _
                    rw [heap_setCells_ne _ _ _ _ _ hne1, f2 _ (lt_of_some (h := w.drew.heap) j2)]; exact j2)) (fun b hb => by cases hb; exact hst2) (fun h => by cases h)
              rw [hmin] at this; exact this
            refine (ins_grow A hu z9 L.blk (L.off + lo * m2) len cp i w.heap.size G (some ⟨M.blk, M.off + lo2 * m2, none⟩) k cq w _ _ _ c7 c9 (by omega) hroom' hGn hlen63 hap hcp1 hcp2).mono ?_
            rintro e w' ⟨rfl, rfl⟩
            obtain ⟨al1, as1⟩ := setCells_alike new2.toList (w.drew.alloc (.cells ROW E)) w.heap.size (i * m2)
            obtain ⟨al2, as2⟩ := setCells_alike new1.toList ((w.drew.alloc (.cells ROW E)).setCells w.heap.size (i * m2) new2.toList).drew w.heap.size ((i + k) * m2)
            have hcr0 : CR (okB c.X m H F) w.heap m ((flat XL).take (i * m2) ++ List.replicate ((len + k - i) * m2) .dead) ROW 0 := by
              refine CR.deads (fun j x hx => ?_) ?_
              · obtain ⟨v, hv, hr⟩ := n0c j x hx
                have hj : j < new0.size := by
                  rcases Nat.lt_or_ge j new0.size with hj | hj
                  · exact hj
                  · rw [Nat.zero_add, Array.getElem?_eq_none hj] at hv; cases hv
                refine ⟨v, ?_, hr⟩
                rw [← hROW, Array.append_assoc, Nat.zero_add, Array.getElem?_append_left hj]
                rw [Nat.zero_add] at hv; exact hv
              · rw [List.length_take, Nat.min_eq_left (by omega), Nat.zero_add, ← Nat.add_mul, hrow]; exact hRb
            have hl0 : ((flat XL).take (i * m2) ++ List.replicate ((len + k - i) * m2) AV.dead).length = (len + k) * m2 := by
              rw [List.length_append, List.length_take, List.length_replicate, Nat.min_eq_left (by omega), ← Nat.add_mul, hrow]
            have hcr1 := CR.set hcr0 n2c (off := i * m2) (by rw [n2s]; omega) (by omega) (by omega)
            have hl1 := setCells_length (cs := (flat XL).take (i * m2) ++ List.replicate ((len + k - i) * m2) AV.dead) (new := flat YL) (off := i * m2) (by omega)
            have hcr2 := CR.set hcr1 n1c (off := (i + k) * m2) (by rw [n1s, List.length_drop]; omega) (by rw [hl1, List.length_drop]; omega) (by rw [hl1, size_setArr]; omega)
            rw [set_grow (n := len) (by omega) hfX hfY (by rw [List.length_replicate]), ← flat_insL hX] at hcr2
            simp only [Nat.zero_add] at hcr2
            obtain ⟨hx, hsr⟩ := hs.newArr hnx (w' := ((w.drew.alloc (.cells ROW E)).setCells w.heap.size (i * m2) new2.toList).drew.setCells w.heap.size ((i + k) * m2) new1.toList)
              ⟨al2.os.trans (al1.os.trans f4.os), al2.tape.trans (al1.tape.trans f4.tape), al2.output.trans (al1.output.trans f4.output)⟩ (as2.trans (as1.trans f1))
              (fun β hβ => by
                have hn : β ≠ w.heap.size := Nat.ne_of_lt hβ
                rw [heap_setCells_ne _ _ _ _ _ hn]
                show ((w.drew.alloc (.cells ROW E)).setCells w.heap.size (i * m2) new2.toList).heap[β]? = _
                rw [heap_setCells_ne _ _ _ _ _ hn]; exact f2 β hβ)
              (heap_setCells _ (w := ((w.drew.alloc (.cells ROW E)).setCells w.heap.size (i * m2) new2.toList).drew) hh1 _) (NoFz_zero _) hpos hnc (by rw [size_setArr, size_setArr, hnl]; exact hRb) hcr2
            obtain ⟨hx2, hsr2⟩ := hsr.del b
            refine ⟨_, rfl, _, hx.trans hx2, hsr2, .osl (upd_same _ _ _) (by show 0 + (len + k) ≤ (insL XL YL i).length; omega) hpos rfl rfl (by show _ = 0 + 0 * m2; omega) (by show (insL XL YL i).length ≤ 0 + G; omega) (by show 0 + (0 + G) * m2 ≤ _; rw [size_setArr, size_setArr, hRs, Nat.zero_add, Nat.zero_add]; exact Nat.le_refl _), Nat.le_succ _, fun x hx => ?_⟩
            by_cases e : x = nx
            · subst e; exact .inr ⟨Nat.le_refl _, Nat.lt_succ_self _⟩
            · rw [upd_ne m _ e] at hx; exact .inl hx
        · cases h
      · cases h
    · cases h
  · cases h

/-- A contract over the caller's own heap holds; only the first of its numbers is asked to be free. -/
def HOK1 (P : Program) (f : FuncId) (p : List AV → Heap → List Nat → Nat → Option (AV × Heap × List Nat × Nat)) : Prop :=
  ∀ args H F nx r, p args H F nx = some r → ∀ (c : Ctx) (m : Map) (w : World) (cargs : Array Value), SR c m H F w → CR (okB c.X m H F) w.heap m args cargs 0 → cargs.size = args.length →
    m nx = none → CallsTo P f cargs w fun cv w' => ∃ m', After c m H F w nx r.1 r.2.1 r.2.2.1 r.2.2.2 cv m' w'

theorem HOK1.hok {f : FuncId} {p : List AV → Heap → List Nat → Nat → Option (AV × Heap × List Nat × Nat)} (h : HOK1 P f p) : HOK P f p :=
  fun args H F nx r hr c m w cargs hs hc hsz hnx => h args H F nx r hr c m w cargs hs hc hsz (hnx nx (Nat.le_refl _))

theorem insH_ok1 (hT : TyOK P T) {ρ : Ren} {f : FuncId} (A : InsP P ρ f) {S : TypeId} (hS : ρ.t 24 = S) (he : ∀ args w, (callFunc f args).run P w = .ok (.enter f args) w) : HOK1 P f (insH T S) := by
  subst hS
  intro args H F nx r hr c m w cargs hs hc hsz hnx
  unfold insH at hr
  split at hr
  · rename_i s i s2 b2 lo2 k
    obtain ⟨v0, h0, g0⟩ := hc 0 _ rfl
    obtain ⟨v1, h1, g1⟩ := hc 1 _ rfl
    obtain ⟨v2, h2, g2⟩ := hc 2 _ rfl
    cases g1
    have hargs : cargs = #[v0, .int .i64 i, v2] := by
      apply Array.ext
      · simpa using hsz
      · intro j hj1 hj2
        have hj : j = 0 ∨ j = 1 ∨ j = 2 := by simp at hj2; omega
        rcases hj with rfl | rfl | rfl
        · rw [Nat.zero_add, Array.getElem?_eq_getElem hj1] at h0; simpa using h0
        · rw [Nat.zero_add, Array.getElem?_eq_getElem hj1] at h1; simpa using h1
        · rw [Nat.zero_add, Array.getElem?_eq_getElem hj1] at h2; simpa using h2
    subst hargs
    refine .inr ⟨he _ w, ?_⟩
    have tE : ∀ {s v}, insEnd T (ρ.t 24) s v H F nx = some r → ∃ q : TypeId × Nat × AV, elemT T (ρ.t 24) = some q := by
      intro s v h
      unfold insEnd at h
      split at h
      · rename_i hap
        unfold aappend at hap
        simp only at hap
        split at hap
        · exact ⟨_, by assumption⟩
        · cases hap
      · cases h
    have facts : ∀ {q : TypeId × Nat × AV}, elemT T (ρ.t 24) = some q → P.underlying (ρ.t 24) = some (.slice q.1) ∧ ∀ w, (Go.sizeOf q.1).run P w = .ok q.2.1 w := by
      intro q hq
      obtain ⟨i0, z, hu, hi, hsz, _⟩ := elemT_some hT hq
      exact ⟨hu, fun w => by simp [Go.sizeOf, typeInfo, hi, hsz]⟩
    unfold insS at hr
    split at hr
    · cases hi : i.beq 0 with
      | false => rw [hi, cond_false] at hr; cases hr
      | true =>
        rw [hi, cond_true] at hr
        have := Nat.eq_of_beq_eq_true hi
        subst this
        obtain ⟨q, hq⟩ := tE hr
        obtain ⟨t1, t2⟩ := facts hq
        cases g0
        obtain ⟨M, _, _, _, kv⟩ := g2.osl_inv
        rcases kv with ⟨kv, _⟩ | ⟨cq, rfl, _⟩
        · omega
        exact insEnd_ok hT A hr hs hnx (Nat.succ_pos k) (Nat.le_refl 0) (fun _ => rfl) .nils g2 t1 t2
    · cases hi : i.beq 0 with
      | false => rw [hi, cond_false] at hr; cases hr
      | true =>
        rw [hi, cond_true] at hr
        have := Nat.eq_of_beq_eq_true hi
        subst this
        obtain ⟨q, hq⟩ := tE hr
        obtain ⟨t1, t2⟩ := facts hq
        cases g0
        obtain ⟨M, _, _, _, kv⟩ := g2.osl_inv
        rcases kv with ⟨kv, _⟩ | ⟨cq, rfl, _⟩
        · omega
        exact insEnd_ok hT A hr hs hnx (Nat.succ_pos k) (Nat.le_refl 0) (fun _ => rfl) .emp g2 t1 t2
    · rename_i s1 b lo len
      cases hi : i.beq len with
      | false =>
        rw [hi, cond_false] at hr
        exact insMid_ok hT A hr hs hnx g0 g2
      | true =>
        rw [hi, cond_true] at hr
        have := Nat.eq_of_beq_eq_true hi
        subst this
        obtain ⟨q, hq⟩ := tE hr
        obtain ⟨t1, t2⟩ := facts hq
        obtain ⟨M, _, _, _, kv⟩ := g2.osl_inv
        rcases kv with ⟨kv, _⟩ | ⟨cq, rfl, _⟩
        · omega
        obtain ⟨L, _, _, _, jv⟩ := g0.osl_inv
        rcases jv with ⟨rfl, _, a, rfl⟩ | ⟨cp, rfl, e1, e2, _⟩
        · exact insEnd_ok hT A hr hs hnx (Nat.succ_pos k) (Nat.le_refl 0) (fun _ => rfl) g0 g2 t1 t2
        · exact insEnd_ok hT A hr hs hnx (Nat.succ_pos k) (by omega) (fun h => by cases h) g0 g2 t1 t2
    · cases hr
  · cases hr

theorem insH_ok (hT : TyOK P T) {ρ : Ren} {f : FuncId} (A : InsP P ρ f) {S : TypeId} (hS : ρ.t 24 = S) (he : ∀ args w, (callFunc f args).run P w = .ok (.enter f args) w) : HOK P f (insH T S) := (insH_ok1 hT A hS he).hok

end
end Go.Proofs.Ytmkmjjodiicmlaa.VS

/- slices.Delete over the caller's own heap: a contract. Conditions: none. -/
namespace Go.Proofs.Ytmkmjjodiicmlaa.VS
open Go.Shelf Go.RowKit

/-- What is asked of a program. -/
structure DelP (P : Program) (ρ : Ren) (f : FuncId) : Prop where
  fn : ∃ fn, P.funcs[f]? = some fn ∧ fn.body = (Body2.n24 ρ).body ∧ fn.ntmps = 33 ∧ fn.results = #[.tmp 6] ∧ (fn.name == "runtime.NumGoroutine") = false
  mixed : P.follows .mixedOrders = true
  tI : P.underlying (ρ.t 3) = some (.int .i64)
  tB : P.underlying (ρ.t 4) = some .bool

theorem step_appendI {P : Program} {ops : Array Oper} {o : Oper} {a : Act} {w : World} {K : Act → World → Prop} {Q : Exit → Act → World → Prop} {E : Prop}
    (hg : o.guard = none) (d x : Operand) (dT sT : TypeId) (hop : o.op = Op.call { callee := Callee.builtin Builtin.append, args := #[d, x], argTypes := #[dT, sT] })
    (v u : Value) (hd : a.eval d = v) (hx : a.eval x = u) {v' : Value} {w' : World} (hr : (Builtin.append_ #[dT, sT] o.type #[v, u]).run P w = .ok v' w') (hK : K (a.put o.dst v') w') :
    if Region.wanted o (yielded ops a.tmps) = true then Oper.wp P o a w K Q else E := by
  have hw : Region.wanted o (yielded ops a.tmps) = true := by simp [Region.wanted, hg]
  rw [if_pos hw]
  unfold Oper.wp execOp
  simp only [hop, Go.resolve, Go.invoke, Go.builtin, Sem.run_bind, Sem.run_pure, Result.andThen_ok, List.map_toArray, List.map_cons, List.map_nil, hd, hx, hr]
  exact hK

theorem wpList_clearI {P : Program} (w : World) {ops : Array Oper} {rest : List Oper} {o : Oper} {a : Act} {Q : Exit → Act → World → Prop} (hgd : o.guard = none) (d : Operand) (t : TypeId)
    (ho : o.op = .call { callee := .builtin .clear, args := #[d], argTypes := #[t] }) (v : Value) (hd : a.eval d = v) {v' : Value} {w' : World}
    (hr : (Builtin.clear_ #[t] o.type #[v]).run P w = .ok v' w') (h : wpList P ops Q rest (a.put o.dst v') w') : wpList P ops Q (o :: rest) a w :=
  wpList_plain hgd fun _ hK => by
    unfold Oper.wp execOp
    simp only [ho, Go.resolve, Go.invoke, Go.builtin, Sem.run_bind, Sem.run_pure, Result.andThen_ok, List.map_toArray, List.map_cons, List.map_nil, hd, hr]
    exact hK _ _ h

set_option maxHeartbeats 4000000 in
set_option maxRecDepth 100000 in
theorem del_walk {P : Program} {f : FuncId} {ρ : Ren} {E : TypeId} {k : Nat} (A : DelP P ρ f) (tS : P.underlying (ρ.t 24) = some (.slice E)) (z9 : ∀ w, (Go.sizeOf E).run P w = .ok k w) (b off n c i j : Nat) (w w1 w2 : World)
    (hi : i < j) (hj : j ≤ n) (hnc : n ≤ c) (h63 : n ≤ 1099511627776) (v : Value)
    (hap : ∀ ua, (c = j → ua = ⟨b, off, none⟩) → (c ≠ j → ua = ⟨b, off + j * k, none⟩) → (Builtin.append_ #[ρ.t 24, ρ.t 24] (ρ.t 24) #[.slice (some ⟨b, off, none⟩) i c, .slice (some ua) (n - j) (c - j)]).run P w.drew = .ok (.slice (some ⟨b, off, none⟩) (i + (n - j)) c) w1)
    (hcl : ∀ T cc, (Builtin.clear_ #[ρ.t 24] T #[.slice (some ⟨b, off + (i + (n - j)) * k, none⟩) (n - (i + (n - j))) cc]).run P w1 = .ok v w2) :
    Calls P f #[.slice (some ⟨b, off, none⟩) n c, .int .i64 i, .int .i64 j] w fun e w' =>
      e = .returned (.slice (some ⟨b, off, none⟩) (i + (n - j)) c) ∧ w' = w2 := by
  obtain ⟨fn, hf, hbody, hn, hres, hname⟩ := A.fn
  have t24 := tS; have t3 := A.tI; have t4 := A.tB
  have u24 := run_underlying tS; have u3 := run_underlying A.tI; have u4 := run_underlying A.tB
  have mixed := A.mixed
  have hz1 : ¬ ((i : Int) = (j : Int)) := by omega
  have hb1 : (i : Int) ≤ (j : Int) := by omega
  have hb2 : (j : Int) ≤ (n : Int) := by omega
  have hb3 : ¬ (c = i) := by omega
  have hb4 : (i : Int) ≤ (c : Int) := by omega
  have hb5 : i ≤ n := by omega
  have hb6 : (n : Int) ≤ (c : Int) := by omega
  have hb7 : i + (n - j) ≤ n := by omega
  have hb8 : ((i + (n - j) : Nat) : Int) ≤ (n : Int) := by omega
  have hb9 : ¬ (c = i + (n - j)) := by omega
  refine calls_of_wp hf (hbody.trans rfl) ?_
  simp only [hn, List.size_toArray, List.length_cons, List.length_nil, Nat.reduceAdd, Nat.reduceSub, Array.replicate_succ,
     Array.replicate_zero, List.push_toArray, List.append_toArray, List.nil_append, List.cons_append]
  by_cases hcj : c = j
  · have hap' := hap ⟨b, off, none⟩ (fun _ => rfl) (fun h => absurd hcj h)
    clear hap
    subst hcj
    have hnj : n = c := by omega
    subst hnj
    simp only [Nat.sub_self, Nat.add_zero] at hap' hcl hb7 hb8 hb9 ⊢
    go_wp2
    go_region_law_o (refine step_appendI rfl _ _ (ρ.t 24) (ρ.t 24) rfl _ _ (by simp [Act.eval, Act.put]) (by simp [Act.eval, Act.put]) hap' ?_)
    go_wp2_with (at_builtin; refine wpList_clearI _ rfl _ (ρ.t 24) rfl _ rfl (hcl _ _) ?_)
    exact ⟨rfl, _, by simp [results, hres], rfl, rfl⟩
  · have hap' := hap ⟨b, off + j * k, none⟩ (fun h => absurd h hcj) (fun _ => rfl)
    clear hap
    go_wp2
    go_region_law_o (refine step_appendI rfl _ _ (ρ.t 24) (ρ.t 24) rfl _ _ (by simp [Act.eval, Act.put]) (by simp [Act.eval, Act.put]) hap' ?_)
    go_wp2_with (at_builtin; refine wpList_clearI _ rfl _ (ρ.t 24) rfl _ rfl (hcl _ _) ?_)
    exact ⟨rfl, _, by simp [results, hres], rfl, rfl⟩

variable [Syms]
section
variable {P : Program} {T : Tabs} {c : Ctx} {m : Map} {H : Heap} {F : List Nat} {w : World}

omit [Syms] in
theorem run_clear {S E : TypeId} {i0 : TypeInfo} {z : Value} (hu : P.underlying S = some (.slice E)) (hi : P.info? E = some i0) (hz : i0.zero = some z) {ty : TypeId} {a : Addr} {n cc : Nat} (hn : 0 < n) {w w1 : World}
    (hst : (storeCells a (Builtin.zeroCells z.cells n).toList).run P w = .ok () w1) : (Builtin.clear_ #[S] ty #[.slice (some a) n cc]).run P w = .ok (.tuple #[]) w1 := by
  cases n with
  | zero => omega
  | succ n => simp [Builtin.clear_, run_underlying hu, zeroValue, typeInfo, hi, hz, hst]

theorem delH_ok1 (hT : TyOK P T) {ρ : Ren} {f : FuncId} (A : DelP P ρ f) {S : TypeId} (hS : ρ.t 24 = S) (he : ∀ args w, (callFunc f args).run P w = .ok (.enter f args) w) : HOK1 P f (delH T S) := by
  subst hS
  intro args H F nx r hr c m w cargs hs hc hsz hnx
  unfold delH at hr
  split at hr
  · rename_i s1 b lo len i j
    obtain ⟨v0, h0, g0⟩ := hc 0 _ rfl
    obtain ⟨v1, h1, g1⟩ := hc 1 _ rfl
    obtain ⟨v2, h2, g2⟩ := hc 2 _ rfl
    cases g1; cases g2
    have hargs : cargs = #[v0, .int .i64 i, .int .i64 j] := by
      apply Array.ext
      · simpa using hsz
      · intro q hj1 hj2
        have hj : q = 0 ∨ q = 1 ∨ q = 2 := by simp at hj2; omega
        rcases hj with rfl | rfl | rfl
        · rw [Nat.zero_add, Array.getElem?_eq_getElem hj1] at h0; simpa using h0
        · rw [Nat.zero_add, Array.getElem?_eq_getElem hj1] at h1; simpa using h1
        · rw [Nat.zero_add, Array.getElem?_eq_getElem hj1] at h2; simpa using h2
    subst hargs
    refine .inr ⟨he _ w, ?_⟩
    split at hr
    · rename_i q hq
      split at hr
      · rename_i m1 xs hb
        obtain ⟨hcond, rfl⟩ := condS hr
        clear hr
        simp only [Bool.and_eq_true] at hcond
        obtain ⟨c2, c3, c6, c7, c8, c9, c11⟩ := hcond
        obtain ⟨i0, z, hu, hi, hsz0, hz, hza, hzf, hpos⟩ := elemT_some hT hq
        obtain ⟨E, sz, za⟩ := q
        simp only at *
        have c2 := Nat.eq_of_beq_eq_true c2
        have c3 := Nat.eq_of_beq_eq_true c3
        subst c2; subst c3
        have c6 := Nat.le_of_ble_eq_true c6
        have c7 : i < j := Nat.le_of_ble_eq_true c7
        have c8 := Nat.le_of_ble_eq_true c8
        have c9 := Nat.le_of_ble_eq_true c9
        have z9 : ∀ w, (Go.sizeOf E).run P w = .ok m1 w := fun w => by simp [Go.sizeOf, typeInfo, hi, hsz0]
        obtain ⟨hb, hbF⟩ := hlive_some hb
        obtain ⟨L, j1, _, jsz, jv⟩ := g0.osl_inv
        obtain ⟨_, _, je, jl, C, et, z1, j2, j3, j4, j5, j6⟩ := hs.objm hb j1
        rcases jv with ⟨jv, _⟩ | ⟨cp, rfl, g1, g2, g3⟩
        · omega
        obtain ⟨x1, x2⟩ := ones_of (s := m1) (fun y hy => List.all_eq_true.1 c11 y hy)
        have hXl : ((xs.drop lo).take len).length = len := by rw [List.length_take, List.length_drop]; omega
        have hX : ∀ x ∈ (xs.drop lo).take len, x.cells.length = m1 := fun x hx => x1 x (List.mem_of_mem_drop (List.mem_of_mem_take hx))
        have hCX : CR (okB c.X m H F) w.heap m (flat ((xs.drop lo).take len)) C (L.off + lo * m1) := by
          intro q x hx
          rw [flat_take len (fun y hy => x1 y (List.mem_of_mem_drop hy)), List.getElem?_take] at hx
          split at hx
          · rw [flat_drop lo x1, List.getElem?_drop] at hx
            obtain ⟨v, hv, hr'⟩ := j6 _ x hx
            exact ⟨v, by rw [← hv]; congr 1; omega, hr'⟩
          · cases hx
        have hfX : (flat ((xs.drop lo).take len)).length = len * m1 := by rw [flat_length hX, hXl]
        generalize hXL : (xs.drop lo).take len = XL at *
        have oX : ∀ q ∈ flat XL, q.one = true := fun q hq => x2 q (by
          rw [← hXL] at hq
          rw [flat_take len (fun y hy => x1 y (List.mem_of_mem_drop hy)), flat_drop lo x1] at hq
          exact List.mem_of_mem_drop (List.mem_of_mem_take hq))
        have hjk : j * m1 + (len - j) * m1 = len * m1 := by rw [← Nat.add_mul]; congr 1; omega
        have hik : (i + (len - j)) * m1 = i * m1 + (len - j) * m1 := Nat.add_mul _ _ _
        have hrest : (i + (len - j)) * m1 + (len - (i + (len - j))) * m1 = len * m1 := by rw [← Nat.add_mul]; congr 1; omega
        have hlp : (lo + len) * m1 ≤ (lo + cp) * m1 := Nat.mul_le_mul_right _ (by omega)
        have hlo : (lo + len) * m1 = lo * m1 + len * m1 := Nat.add_mul _ _ _
        have hbig : L.off + lo * m1 + len * m1 ≤ C.size := by omega
        obtain ⟨new1, n1s, n1c, n1r⟩ := hCX.part (P := P) (j * m1) ((len - j) * m1) (by omega)
        rw [List.take_of_length_le (by rw [List.length_drop]; omega)] at n1c
        have o1 : ∀ v ∈ new1, v.oneCell' = true := n1c.ones (by rw [n1s, List.length_drop]; omega) fun q hq => oX q (List.mem_of_mem_drop hq)
        have hh1 : (w.drew.setCells L.blk (L.off + lo * m1 + i * m1) new1.toList).heap[L.blk]? = some (.cells (setArr C (L.off + lo * m1 + i * m1) new1.toList) et z1) := heap_setCells _ (w := w.drew) j2 _
        have hst1 := run_stores (P := P) (w := w.drew) j2 j4 (o := L.off + lo * m1 + i * m1) new1.toList (by rw [Array.length_toList]; omega) (fun u hu => o1 u (by simpa using hu))
        have hzf' : fitsN m1 (ofV z) = true := by rw [← hza]; exact hzf
        obtain ⟨zc1, zc2, zc3⟩ := zero_cells hzf'
        have hzs : ∀ n, (Builtin.zeroCells z.cells n).size = n * m1 := fun n => by simp [Builtin.zeroCells, zc1]
        have hzone : ∀ v ∈ Builtin.zeroCells z.cells (len - (i + (len - j))), v.oneCell' = true := by
          refine CR.ones (zeros_cr hzf' _ (okB c.X m H F) w.heap m) ?_ ?_
          · rw [hzs, flat_length (s := m1) fun x hx => by rw [List.eq_of_mem_replicate hx]; exact zc3]; simp
          · intro q hq
            obtain ⟨y, hy, hqy⟩ := List.mem_flatMap.1 hq
            rw [List.eq_of_mem_replicate hy] at hqy
            exact fits_one (fitsN_some hzf').1 q hqy
        have hst2 := run_stores (P := P) hh1 (z := z1) (s := m1) (by rw [NoFz, size_setArr]; exact j4) (o := L.off + lo * m1 + (i + (len - j)) * m1) (Builtin.zeroCells z.cells (len - (i + (len - j)))).toList
          (by rw [Array.length_toList, size_setArr, hzs]; omega) (fun u hu => hzone u (by simpa using hu))
        have hap : ∀ ua, (cp = j → ua = ⟨L.blk, L.off + lo * m1, none⟩) → (cp ≠ j → ua = ⟨L.blk, L.off + lo * m1 + j * m1, none⟩) → (Builtin.append_ #[ρ.t 24, ρ.t 24] (ρ.t 24) #[.slice (some ⟨L.blk, L.off + lo * m1, none⟩) i cp, .slice (some ua) (len - j) (cp - j)]).run P w.drew = .ok (.slice (some ⟨L.blk, L.off + lo * m1, none⟩) (i + (len - j)) cp) (w.drew.setCells L.blk (L.off + lo * m1 + i * m1) new1.toList) := fun ua hu1 hu2 => by
          refine run_append_room' (P := P) (ts := #[ρ.t 24, ρ.t 24]) rfl rfl hu (.inr ⟨E, hu⟩) hi (new := new1) rfl ?_ (by rw [hsz0, add_none]; exact hst1) (by omega)
          rw [hsz0]
          by_cases hcj : cp = j
          · rw [hu1 hcj]
            have hlj : len - j = 0 := by omega
            have hn0 : new1 = #[] := Array.size_eq_zero_iff.1 (by rw [n1s, hlj, Nat.zero_mul])
            rw [hlj, hn0]; simp [Builtin.firstCells, loadCells, loadCellsFrom]
          · rw [hu2 hcj]
            exact n1r w.drew L.blk et z1 j2
        refine (del_walk A hu z9 L.blk (L.off + lo * m1) len cp i j w _ _ c7 c8 (by omega) c9 (.tuple #[]) hap (fun T cc => run_clear hu hi hz (by omega) hst2)).mono ?_
        rintro e w' ⟨rfl, rfl⟩
        obtain ⟨al1, as1⟩ := setCells_alike new1.toList w.drew L.blk (L.off + lo * m1 + i * m1)
        obtain ⟨al2, as2⟩ := setCells_alike (Builtin.zeroCells z.cells (len - (i + (len - j)))).toList (w.drew.setCells L.blk (L.off + lo * m1 + i * m1) new1.toList) L.blk (L.off + lo * m1 + (i + (len - j)) * m1)
        obtain ⟨hx, hsr⟩ := hs.move hb hbF j1 hnx (L' := ⟨L.blk, L.off + lo * m1, m1, i + (len - j), L.csz, fun _ => none⟩) rfl (w' := (w.drew.setCells L.blk (L.off + lo * m1 + i * m1) new1.toList).setCells L.blk (L.off + lo * m1 + (i + (len - j)) * m1) (Builtin.zeroCells z.cells (len - (i + (len - j)))).toList)
          ⟨al2.os.trans al1.os, al2.tape.trans al1.tape, al2.output.trans al1.output⟩ (as2.trans as1) (o' := .arr m1 (XL.take i ++ XL.drop j)) (fun γ hγ => by rw [heap_setCells_ne _ _ _ _ _ hγ, heap_setCells_ne _ _ _ _ _ hγ]; rfl)
        have hcr1 := CR.set hCX n1c (off := i * m1) (by rw [n1s, List.length_drop]; omega) (by rw [List.length_drop]; omega) (by omega)
        have hnl : (XL.take i ++ XL.drop j).length = i + (len - j) := by rw [List.length_append, List.length_take, List.length_drop, hXl]; omega
        have hnc : ∀ x ∈ XL.take i ++ XL.drop j, x.cells.length = m1 := fun x hx => (List.mem_append.1 hx).elim (fun h => hX x (List.mem_of_mem_take h)) (fun h => hX x (List.mem_of_mem_drop h))
        have hfl : flat (XL.take i ++ XL.drop j) = (flat XL).take (i * m1) ++ (flat XL).drop (j * m1) := by rw [flat_append, flat_take i hX, flat_drop j hX]
        have hcr2 : CR (okB c.X m H F) w.heap m (flat (XL.take i ++ XL.drop j)) (setArr (setArr C (L.off + lo * m1 + i * m1) new1.toList) (L.off + lo * m1 + (i + (len - j)) * m1) (Builtin.zeroCells z.cells (len - (i + (len - j)))).toList) (L.off + lo * m1) := by
          intro q x hx
          have hq : q < (i + (len - j)) * m1 := by
            have := (List.getElem?_eq_some_iff.1 hx).1
            rw [flat_length hnc, hnl] at this; exact this
          rw [hfl] at hx
          obtain ⟨v, hv, hr'⟩ := hcr1 q x (by
            unfold setCells
            rw [List.getElem?_append_left (by rw [List.length_append, List.length_take, List.length_drop]; omega)]
            exact hx)
          refine ⟨v, ?_, hr'⟩
          rw [getElem?_setArr _ _ _ _ (by rw [Array.length_toList, size_setArr, hzs]; omega), if_neg (by omega)]
          exact hv
        have hsr' := hsr ⟨rfl, hpos, hnl.symm, hnc, _, _, _, heap_setCells _ hh1 _, by rw [size_setArr, size_setArr]; exact j3, by rw [NoFz, size_setArr, size_setArr]; exact j4, by rw [size_setArr, size_setArr, hnl]; show L.off + lo * m1 + (i + (len - j)) * m1 ≤ C.size; omega, hcr2.mono hx.kk hx.mm⟩
        have hcm : (lo + cp) * m1 = lo * m1 + cp * m1 := Nat.add_mul _ _ _
        refine ⟨_, rfl, _, hx, hsr', .osl (upd_same _ _ _) (by show 0 + (i + (len - j)) ≤ i + (len - j); omega) hpos rfl rfl (by show _ = L.off + lo * m1 + 0 * m1; omega) (by show i + (len - j) ≤ 0 + cp; omega) (by show L.off + lo * m1 + (0 + cp) * m1 ≤ L.csz; rw [Nat.zero_add]; omega), Nat.le_succ _, fun x hx => ?_⟩
        by_cases e : x = nx
        · subst e; exact .inr ⟨Nat.le_refl _, Nat.lt_succ_self _⟩
        · rw [upd_ne m _ e] at hx; exact .inl hx
      · cases hr
    · cases hr
  · cases hr

theorem delH_ok (hT : TyOK P T) {ρ : Ren} {f : FuncId} (A : DelP P ρ f) {S : TypeId} (hS : ρ.t 24 = S) (he : ∀ args w, (callFunc f args).run P w = .ok (.enter f args) w) : HOK P f (delH T S) := (delH_ok1 hT A hS he).hok

end
end Go.Proofs.Ytmkmjjodiicmlaa.VS

/- slices.Grow of no slice at all: a new row without elements. Conditions: none. -/
namespace Go.Proofs.Ytmkmjjodiicmlaa.VS
open Go.Shelf Go.RowKit

/-- What is asked of a program. -/
structure GrowP (P : Program) (ρ : Ren) (f : FuncId) : Prop where
  fn : ∃ fn, P.funcs[f]? = some fn ∧ fn.body = (Body8.n4 ρ).body ∧ fn.ntmps = (Body8.n4 ρ).ntmps ∧ fn.results = (Body8.n4 ρ).results ∧ (fn.name == "runtime.NumGoroutine") = false
  mixed : P.follows .mixedOrders = true
  tI : P.underlying (ρ.t 3) = some (.int .i64)
  tB : P.underlying (ρ.t 4) = some .bool

set_option maxHeartbeats 4000000 in
set_option maxRecDepth 100000 in
theorem grow_some {P : Program} {f : FuncId} {ρ : Ren} {E : TypeId} {k : Nat} (A : GrowP P ρ f) (tS : P.underlying (ρ.t 22) = some (.slice E)) (z9 : ∀ w, (Go.sizeOf E).run P w = .ok k w) (n b G : Nat) (w w1 : World)
    (hn : 0 < n) (hG : n ≤ G) (h63 : n ≤ 1099511627776)
    (hap : (Builtin.append_ #[ρ.t 22, ρ.t 3] (ρ.t 22) #[.slice none 0 0, .int .i64 (n : Int)]).run P w = .ok (.slice (some ⟨b, 0, none⟩) n G) w1) :
    Calls P f #[.slice none 0 0, .int .i64 n] w fun e w' => e = .returned (.slice (some ⟨b, 0, none⟩) 0 G) ∧ w' = w1 := by
  obtain ⟨fn, hf, hbody, hnt, hres, hname⟩ := A.fn
  have t24 := tS; have t3 := A.tI; have t4 := A.tB
  have u24 := run_underlying tS; have u3 := run_underlying A.tI; have u4 := run_underlying A.tB
  have mixed := A.mixed
  have h1 : ¬ ((n : Int) < 0) := by omega
  have h4 : (n : Int) > 0 := by omega
  have h5 : wrap64 (n : Int) = (n : Int) := by unfold wrap64; omega
  refine calls_of_wp hf (hbody.trans rfl) ?_
  simp only [hnt, Body8.n4_ntmps, List.size_toArray, List.length_cons, List.length_nil, Nat.reduceAdd, Nat.reduceSub, Array.replicate_succ,
     Array.replicate_zero, List.push_toArray, List.append_toArray, List.nil_append, List.cons_append]
  go_wp2_with (at_builtin; refine wpList_appendI _ rfl _ _ (ρ.t 22) (ρ.t 3) rfl _ _ rfl rfl hap ?_)
  exact ⟨rfl, _, by rw [results, hres]; simp [Body8.n4], rfl, rfl⟩

set_option maxHeartbeats 4000000 in
set_option maxRecDepth 100000 in
theorem grow_none {P : Program} {f : FuncId} {ρ : Ren} {E : TypeId} (A : GrowP P ρ f) (tS : P.underlying (ρ.t 22) = some (.slice E)) (w : World) :
    Calls P f #[.slice none 0 0, .int .i64 0] w fun e w' => e = .returned (.slice none 0 0) ∧ w' = w := by
  obtain ⟨fn, hf, hbody, hnt, hres, hname⟩ := A.fn
  have t24 := tS; have t3 := A.tI; have t4 := A.tB
  have u24 := run_underlying tS; have u3 := run_underlying A.tI; have u4 := run_underlying A.tB
  have mixed := A.mixed
  refine calls_of_wp hf (hbody.trans rfl) ?_
  simp only [hnt, Body8.n4_ntmps, List.size_toArray, List.length_cons, List.length_nil, Nat.reduceAdd, Nat.reduceSub, Array.replicate_succ,
     Array.replicate_zero, List.push_toArray, List.append_toArray, List.nil_append, List.cons_append]
  go_wp2
  exact ⟨rfl, _, by rw [results, hres]; simp [Body8.n4], rfl, rfl⟩

end Go.Proofs.Ytmkmjjodiicmlaa.VS

/- The machine once more, for values that are not known: each step told as a proposition. Definitions alone. Conditions: none. -/
namespace Go.Proofs.Ytmkmjjodiicmlaa.VS

def encFil (f : Fil) : AV := .agg [.int .i64 f.size, .tl .blk f.blocks]
def encCnf (c : Cnf) : AV := .agg [.tl .int c.ways, .int .i64 c.policy]
def encTbl (t : Tbl) : AV := .agg [.int .i64 t.next, .tl .row t.rows, .tl .row t.homes, .int .i64 t.cursor]
def encWld (w : Wld) : AV := .agg [.tl .int w.conf.ways, .int .i64 w.conf.policy, .tl .dsk w.disks, .int .i64 w.table.next, .tl .row w.table.rows, .tl .row w.table.homes, .int .i64 w.table.cursor]

def decFil : AV → Option Fil
  | .agg [.int .i64 s, l] => match decL .blk l with
    | some l => some ⟨s, l⟩
    | none => none
  | _ => none
def decCnf : AV → Option Cnf
  | .agg [w, .int .i64 p] => match decL .int w with
    | some w => some ⟨w, p⟩
    | none => none
  | _ => none
def decTbl : AV → Option Tbl
  | .agg [.int .i64 n, r, h, .int .i64 c] => match decL .row r, decL .row h with
    | some r, some h => some ⟨n, r, h, c⟩
    | _, _ => none
  | _ => none
def decWld : AV → Option Wld
  | .agg [w, .int .i64 p, d, .int .i64 n, r, h, .int .i64 c] => match decL .int w, decL .dsk d, decL .row r, decL .row h with
    | some w, some d, some r, some h => some ⟨⟨w, p⟩, d, ⟨n, r, h, c⟩⟩
    | _, _, _, _ => none
  | _ => none

/-! ### What is known of functions and loops -/

/-- What a function answers: if it answers, a value, with arrays that are its own. -/
structure Con where
  pre : Option Prop
  R : Type
  o : Option R
  v : R → AV
  H : R → Heap

/-- What is asked ahead of a call. -/
def preP : Option Prop → Prop
  | some p => p
  | none => True

abbrev Kont := AV → Eff → List Nat → List Nat → Prop

/-- 'loop': what a loop does, by the state that it begins in. 'hook': functions that work on their caller's own rows. -/
structure SE where
  T : Tabs
  con : FuncId → Option (List AV → Option Con)
  own : FuncId → Bool
  gt : TypeId → Option GT
  loop : Nat → Option (St → (AX → St → Prop) → Prop)
  hook : FuncId → Option (List AV → Heap → List Nat → Nat → Kont → Prop) := fun _ => none
  mv : Bool := false
  dp : Bool := false
  sh : Bool := false

noncomputable section

/-- All of a type's values hold no memory of their own: a value taken whole, with what that asks. -/
def resC (nz : Bool) (H : Heap) : Nat → AV → (AV → List Nat → Prop) → Prop :=
  @Nat.rec (fun _ => AV → (AV → List Nat → Prop) → Prop) (fun _ _ => False) (fun _ ih a k =>
    let all : List AV → (List AV → List Nat → Prop) → Prop := @List.rec AV (fun _ => (List AV → List Nat → Prop) → Prop) (fun k => k [] []) (fun x _ jh k => jh fun ys js => ih x fun y is => k (y :: ys) (is ++ js))
    match a with
    | .agg cs => all cs fun r is => k (.agg r) is
    | .tup cs => all cs fun r is => k (.tup r) is
    | .fn f cs => all cs fun r is => k (.fn f r) is
    | .ifc t v => ih v fun r is => k (.ifc t r) is
    | .osl _ b lo len =>
      match hget H b with
      | some (.arr _ xs) => @Bool.rec (fun _ => Prop) False (all xs fun r is => k (.sl ((r.drop lo).take len)) (b :: is)) ((lo + len).ble xs.length)
      | some (.tarr t xs) => lo + len ≤ xs.length ∧ k (.tl t ((xs.drop lo).take len)) [b]
      | some (.deep xs q) => (lo + len ≤ xs.length ∧ q = 0) ∧ k (.tl .blk ((xs.drop lo).take len)) [b]
      | _ => False
    | .gs _ b n =>
      match hget H b with
      | some (.tarr t xs) => n = xs.length ∧ k (.tl t xs) [b]
      | some (.deep xs q) => (n = xs.length ∧ q = 0) ∧ k (.tl .blk xs) [b]
      | _ => False
    | .ptr b o =>
      match hget H b with
      | some (.cells cs) => @Bool.rec (fun _ => Prop) False (all cs fun r is => k (.cptr (.agg r)) (b :: is)) (o.beq 0)
      | _ => False
    | .cptr x => k (.cptr x) []
    | .eptr _ _ _ | .mp _ | .dead | .sub _ _ _ | .psub _ _ _ => False
    | .nils => k (bif nz then .sl [] else .nils) []
    | .emp => k (bif nz then .sl [] else .emp) []
    | .nev => k (bif nz then .sl [] else .nev) []
    | v => k v [])

def resAllC (nz : Bool) (H : Heap) : List AV → (List AV → List Nat → Prop) → Prop :=
  @List.rec AV (fun _ => (List AV → List Nat → Prop) → Prop) (fun k => k [] []) (fun a _ ih k => ih fun ys js => resC nz H DEEP a fun y is => k (y :: ys) (is ++ js))

universe u
def optC {α : Type u} (k : α → Prop) : Option α → Prop := @Option.rec α (fun _ => Prop) False k

def resK (k : Kont) : Res → Prop := @Res.rec (fun _ => Prop) False (fun v e rd fz => k v e rd fz) (fun _ _ _ _ => False)

/-- Bools that are not known, as bools. -/
def unubD : Nat → AV → AV
  | 0, v => v
  | d + 1, a =>
    match a with
    | .ub b => .bool b
    | .agg cs => .agg (cs.map (unubD d))
    | .tup cs => .tup (cs.map (unubD d))
    | v => v

def ansV (un : Bool) (v : AV) : AV := bif un then unubD 4 v else v

/-- The call that each contract answers, if its condition holds. -/
def conCall (S : SE) (un : Bool) (f : FuncId) (args : List AV) : Heap → List Nat → Nat → Ans
  | [], [], 0 => match S.con f with
    | some g => match g args with
      | some c => (match c.o with
        | some r => @ite _ (preP c.pre) (Classical.propDecidable _) (.ok (ansV un (c.v r)) (c.H r) [] WIDE) .no
        | none => .no)
      | none => .no
    | none => .no
  | _, _, _ => .no

def SE.cfg (S : SE) : Cfg := { prim := fun _ => none, keep := S.own, exact := fun _ => false, share := fun _ => false, look := fun _ => true }
def SE.env (S : SE) (un : Bool) : Env := ⟨S.T, { S.cfg with tell := un }, conCall S un⟩

/-! ### Operations -/

def bndZ (d : Int) : Option AV → Option Int
  | none => some d
  | some (.int _ n) => some n
  | some _ => none

/-- The type of a slice has elements of so many cells. -/
def elemN (T : Tabs) (t : TypeId) (n : Nat) : Bool :=
  match kindOf T t with
  | .slice e => match szOf T e with
    | some m => m.beq n && Nat.blt 0 n
    | none => false
  | _ => false

def must (b : Bool) (p : Prop) : Prop := @Bool.rec (fun _ => Prop) False p b

def idxC (S : SE) (dflt : Prop) (t : TypeId) (k : Kont) : AV → AV → Prop
  | .tl g xs, .int _ n => must (elemN S.T t g.size) ((0 ≤ n ∧ n < xs.length) ∧ k (.cptr (enc g (xs.getD n.toNat g.nought))) [] [] [])
  | .osl s b lo len, .int _ n => must (elemN S.T t s) ((0 ≤ n ∧ n < len) ∧ k (.eptr b (lo + n.toNat) 0) [] [] [])
  | .gs g b len, .int _ n => must (elemN S.T t g.size) ((0 ≤ n ∧ n < len) ∧ k (.eptr b n.toNat 0) [] [] [])
  | .sub b j len, .int _ n => must (elemN S.T t 1) ((0 ≤ n ∧ n < len) ∧ k (.psub b j n.toNat) [] [] [])
  | _, _ => dflt

def indexC (S : SE) (dflt : Prop) (t : TypeId) (k : Kont) : AV → AV → Prop
  | .str s, .int _ n => match kindOf S.T t with
    | .str => (0 ≤ n ∧ n < s.length) ∧ k (.int .u8 (s.getD n.toNat 0).toNat) [] [] []
    | _ => False
  | _, _ => dflt

def loadC (S : SE) (H : Heap) (dflt : Prop) (t : TypeId) (k : Kont) : AV → Prop
  | .eptr b i off => match hget H b with
    | some (.tarr g xs) => i < xs.length ∧ optC (fun v => k v [] [b] []) (takeT S.T t (enc g (xs.getD i g.nought)).cells off)
    | some (.deep xs lo) => (lo ≤ i ∧ i < xs.length) ∧ optC (fun v => k v [] [b] []) (takeT S.T t (subCells b i (xs.getD i ⟨0, []⟩)) off)
    | _ => dflt
  | _ => dflt

def sliceC (S : SE) (dflt : Prop) (t : TypeId) (k : Kont) (lo hi : Option AV) : AV → Prop
  | .tl g xs => must (elemN S.T t g.size) (match bndZ 0 lo, bndZ xs.length hi with
    | some l, some h => (0 ≤ l ∧ l ≤ h ∧ h ≤ xs.length) ∧ k (.tl g ((xs.take h.toNat).drop l.toNat)) [] [] []
    | _, _ => False)
  | .osl s b o len => must (elemN S.T t s) (match bndZ 0 lo, bndZ len hi with
    | some l, some h => (0 ≤ l ∧ l ≤ h ∧ h ≤ len) ∧ k (.osl s b (o + l.toNat) (h.toNat - l.toNat)) [] [] []
    | _, _ => False)
  | .gs g b n => must (elemN S.T t g.size) (match bndZ 0 lo, bndZ n hi with
    | some l, some h => (0 < n ∧ (0 ≤ l ∧ l ≤ h ∧ h ≤ n)) ∧ k (.osl g.size b l.toNat (h.toNat - l.toNat)) [] [] []
    | _, _ => False)
  | .str s => match kindOf S.T t with
    | .str => (match bndZ 0 lo, bndZ s.length hi with
      | some l, some h => (0 ≤ l ∧ l ≤ h ∧ h ≤ s.length) ∧ k (.str ((s.take h.toNat).drop l.toNat)) [] [] []
      | _, _ => False)
    | _ => False
  | _ => dflt

/-- '==' of structs, told by one bool. -/
def allFieldsB (f : Fd → Option Bool) : List Fd → Option Bool
  | [] => some true
  | [x] => bif x.blank then some true else f x
  | x :: xs => bif x.blank then allFieldsB f xs else
    match f x, allFieldsB f xs with
    | some a, some b => some (a && b)
    | _, _ => none

def aeqB (T : Tabs) : Nat → TypeId → AV → AV → Option Bool
  | 0, _, _, _ => none
  | d + 1, t, x, y =>
    match T.ty.get t with
    | some i =>
      match i.k, x, y with
      | .struct fields, .agg xs, .agg ys =>
        bif i.cmp then allFieldsB (fun f => both (aeqB T d f.ty) (takeT T f.ty xs f.off) (takeT T f.ty ys f.off)) fields else none
      | k, x, y => eqOne k x y
    | none => none

def binC (S : SE) (dflt : Prop) (op : BinOp) (t : TypeId) (k : Kont) : AV → AV → Prop
  | .str a, .str b => match op with
    | .add => a.length + b.length ≤ 1099511627776 ∧ k (.str (a ++ b)) [] [] []
    | _ => dflt
  | .agg xs, .agg ys => match op with
    | .eql => optC (fun b => k (.bool b) [] [] []) (aeqB S.T DEQ t (.agg xs) (.agg ys))
    | .neq => optC (fun b => k (.bool !b) [] [] []) (aeqB S.T DEQ t (.agg xs) (.agg ys))
    | _ => dflt
  | .int q a, .int _ b => match op with
    | .shl => 0 ≤ b ∧ k (.int q (q.wrap (a * 2 ^ (min b.toNat q.bits)))) [] [] []
    | .shr => 0 ≤ b ∧ k (.int q (a.fdiv (2 ^ (min b.toNat q.bits)))) [] [] []
    | _ => dflt
  | _, _ => dflt

/-- A bool that is not known. -/
def toUb : AV → AV
  | .bool b => .ub b
  | v => v

def unub : AV → AV
  | .ub b => .bool b
  | v => v

def isUb : AV → Bool
  | .ub _ => true
  | _ => false

def isBoolV : AV → Option Bool
  | .ub b => some b
  | .bool b => some b
  | _ => none

/-- '==' of bools. -/
def eqUb (S : SE) (dflt : Prop) (op : BinOp) (t : TypeId) (k : Kont) (x y : AV) : Prop :=
  bif isUb x || isUb y then
    match isBoolV x, isBoolV y, kindOf S.T t, op with
    | some a, some b, .bool, .eql => k (.ub (a == b)) [] [] []
    | some a, some b, .bool, .neq => k (.ub !(a == b)) [] [] []
    | _, _, _, _ => False
  else dflt

def pickU (k : Kont) (a b : AV) : AV → Prop
  | .bool c => @Bool.rec (fun _ => Prop) (k b [] [] []) (k a [] [] []) c
  | .ub c => (c = true → k a [] [] []) ∧ (c = false → k b [] [] [])
  | _ => False

def notU (dflt : Prop) (op : UnOp) (k : Kont) : AV → Prop
  | .ub c => match op with
    | .not => k (.ub !c) [] [] []
    | _ => False
  | _ => dflt

def pickC (k : Kont) (a b : AV) : AV → Prop
  | .bool c => (c = true → k a [] [] []) ∧ (c = false → k b [] [] [])
  | _ => False

def strC (S : SE) (H : Heap) (dflt : Prop) (src dst : TypeId) (k : Kont) (x : AV) : Prop :=
  match kindOf S.T dst, kindOf S.T src with
  | .str, .slice e => match x with
    | .tl .u8 xs => must (isByte S.T e) (k (.str xs) [] [] [])
    | .osl 1 b lo len => match hget H b with
      | some (.tarr .u8 xs) => must (isByte S.T e) (lo + len ≤ xs.length ∧ k (.str ((xs.drop lo).take len)) [] [b] [])
      | _ => dflt
    | .gs _ b n => match hget H b with
      | some (.tarr .u8 xs) => must (isByte S.T e) (n = xs.length ∧ k (.str xs) [] [b] [])
      | _ => dflt
    | _ => dflt
  | _, _ => dflt

def pureC (S : SE) (un : Bool) (f : FuncId) (id : Nat) (ids : List Nat) (v : AV) (H : Heap) (k : Kont) : Prop :=
  bif S.own f then resK k (keepAns id ids H [] (ansV un v) (once (reach H DEEP (ansV un v))))
  else resC true H DEEP (ansV un v) fun y _ => k y [] ids (bif flatV DEEP y then [] else ids)

def askP (o : Option Prop) (q : Prop) : Prop := @Option.rec Prop (fun _ => Prop) q (fun p => p ∧ q) o

def callC (S : SE) (un : Bool) (s : St) (id : Nat) (k : Kont) : AV → List AV → Prop
  | .fn f caps, args =>
    optC (fun g => resAllC true s.H (args ++ caps) fun p ids => optC (fun c => askP c.pre (∃ r, c.o = some r ∧ pureC S un f id ids (c.v r) (c.H r) k)) (g p)) (S.con f)
  | _, _ => False

/-- A call of a function that works on its caller's own rows. -/
def hookC (S : SE) (s : St) (id : Nat) (k : Kont) : AV → List AV → Prop
  | .fn g caps, args => match S.hook g with
    | some h => h (args ++ caps) s.H s.F id k
    | none => callC S false s id k (.fn g caps) args
  | _, _ => False

/-- A byte: the range is asked. -/
def decB (k : UInt8 → Prop) : AV → Prop
  | .int .u8 n => (0 ≤ n ∧ n < 256) ∧ k (UInt8.ofNat n.toNat)
  | _ => False

/-- A value as data. -/
def decP : (g : GT) → AV → (g.T → Prop) → Prop
  | .u8, a, k => decB k a
  | g, a, k => optC k (dec g a)

def decAllP (g : GT) : List AV → (List g.T → Prop) → Prop :=
  @List.rec AV (fun _ => (List g.T → Prop) → Prop) (fun k => k []) (fun a _ ih k => decP g a fun x => ih fun l => k (x :: l))

def roomP (n by_ : Nat) : Prop := n * (by_ + 1) ≤ 1099511627776

def srcKind (T : Tabs) (t : TypeId) : Bool :=
  match kindOf T t with
  | .str => true
  | .slice _ => true
  | _ => false

/-- The elements that are appended, as data that the machine tells as well; the rows that they hold. -/
def elemsD (H : Heap) (F : List Nat) (id : Nat) (g : GT) (k : List g.T → List Nat → Prop) : AV → Prop
  | .tl g' xs => optC (fun l => k l []) (listOf g (dec g) (.tl g' xs))
  | .osl _ b lo len => match hget H b with
    | some (.arr _ xs) => must ((lo + len).ble xs.length) (@Bool.rec (fun _ => Prop) (decAllP g ((xs.drop lo).take len) fun l => k l [])
        (resAllC true H ((xs.drop lo).take len) fun ys is => must (is.all (fun b => isIn b F && !(b.beq id))) (decAllP g ys fun l => k l is)) (((xs.drop lo).take len).any ownV))
    | _ => False
  | .gs _ b n => match hget H b with
    | some (.tarr g' xs) => n = xs.length ∧ optC (fun l => k l []) (listOf g (dec g) (.tl g' xs))
    | _ => False
  | .nils => k [] []
  | .emp => k [] []
  | .sl xs => @Bool.rec (fun _ => Prop) (decAllP g xs fun l => k l []) False (xs.any ownV)
  | _ => False

/-- Data onto nothing, in a region whose order is drawn. -/
def appDN (S : SE) (id : Nat) (dflt : Prop) (ts : List TypeId) (k : Kont) : AV → Prop
  | .tl g xs => match ts with
    | st :: xt :: _ => must (srcKind S.T xt) (optC (fun e => optC (fun by_ => must (e.2.1.beq g.size) (roomP xs.length by_ ∧ k (.gs g id xs.length) [(id, some (.tarr g xs))] [] [])) (bytesOf S.T e.1)) (elemT S.T st))
    | _ => False
  | _ => dflt

/-- Onto a row of one's own, in a region whose order is drawn: told as data. -/
def appD (S : SE) (s : St) (id : Nat) (dflt : Prop) (ts : List TypeId) (k : Kont) (x : AV) : AV → Prop
  | .gs g1 b n => match hlive s.H s.F b with
    | some (.tarr g l) => match ts with
      | st :: xt :: _ => must (srcKind S.T xt && !(b.beq id)) (optC (fun e => optC (fun by_ => must (e.2.1.beq g.size && g1.size.beq g.size)
          (elemsD s.H s.F id g (fun ys is => (n = l.length ∧ roomP (l ++ ys).length by_) ∧ k (.gs g1 id (l ++ ys).length) [(id, some (.tarr g (l ++ ys))), (b, none)] (idOf (.gs g1 b n) ++ idOf x ++ is) []) x)) (bytesOf S.T e.1)) (elemT S.T st))
      | _ => False
    | _ => dflt
  | .nils => appDN S id dflt ts k x
  | .emp => appDN S id dflt ts k x
  | _ => dflt

/-- An append, where rows are told. -/
def appU (S : SE) (un : Bool) (s : St) (id : Nat) (dflt : Prop) (ts : List TypeId) (k : Kont) : List AV → Prop
  | [a, x] => @Bool.rec (fun _ => Prop) dflt (appD S s id dflt ts k x a) un
  | _ => dflt

/-- A number among a map's keys. -/
def keysC (q : IntKind) (n : Int) (z : AV) (k : AV → Prop) : List (AV × AV) → Prop
  | [] => k z
  | (.int q' m, v) :: r => must (decide (q' = q)) ((m = n → k v) ∧ (¬ m = n → keysC q n z k r))
  | _ => False

/-- Looked up in a map: a number that is not known. -/
def lookC (S : SE) (H : Heap) (dflt : Prop) (t : TypeId) (ok : Bool) (k : Kont) : AV → AV → Prop
  | .mp b, .int q n => match ok with
    | false => match mapT S.T t with
      | some ke => must (keyFits (kindOf S.T ke.1) (.int q n)) (optC (fun z => (match hget H b with
        | some (.map es) => keysC q n z (fun v => k v [] [b] []) es
        | _ => False)) (zeroOf S.T ke.2))
      | none => False
    | true => dflt
  | _, _ => dflt

def isZ8 (s : Nat) : AV → Bool
  | .int .u8 (.ofNat 0) => s.beq 1
  | _ => false

/-- So many noughts, in a region whose order is drawn: bytes, told as data. -/
def makeD (S : SE) (un : Bool) (id : Nat) (dflt : Prop) (t : TypeId) (k : Kont) : AV → AV → Prop
  | .int _ n, .int _ m => @Bool.rec (fun _ => Prop) dflt (optC (fun e => @Bool.rec (fun _ => Prop) dflt (optC (fun by_ => (0 ≤ n ∧ n = m ∧ roomP m.toNat by_) ∧ k (.osl 1 id 0 m.toNat) [(id, some (.tarr .u8 (List.replicate m.toNat 0)))] [] []) (bytesOf S.T e.1)) (isZ8 e.2.1 e.2.2)) (elemT S.T t)) un
  | _, _ => dflt

/-- One operation, if it is one that the machine itself makes. -/
def opD (S : SE) (un : Bool) (op : Op) (s : St) (id : Nat) (k : Kont) : Prop :=
  let dflt := resK k (aopK op (S.env un) s id)
  match op with
  | .indexAddr t x i => idxC S dflt t k (opndK x s.fr) (opndK i s.fr)
  | .index t x i => indexC S dflt t k (opndK x s.fr) (opndK i s.fr)
  | .load t a => loadC S s.H dflt t k (opndK a s.fr)
  | .slice t x lo hi none => sliceC S dflt t k (mapO s.fr lo) (mapO s.fr hi) (opndK x s.fr)
  | .binOp o t x y _ => binC S dflt o t k (opndK x s.fr) (opndK y s.fr)
  | .pick c a b => pickC k (opndK a s.fr) (opndK b s.fr) (opndK c s.fr)
  | .convert a b x => strC S s.H dflt a b k (opndK x s.fr)
  | .call ⟨.value f, args, _⟩ => callC S un s id k (opndK f s.fr) (opndsK args.toList s.fr)
  | .call ⟨.builtin .append, args, ts⟩ => appU S un s id dflt ts.toList k (opndsK args.toList s.fr)
  | .lookup t x i ok => lookC S s.H dflt t ok k (opndK x s.fr) (opndK i s.fr)
  | .makeSlice t l c => makeD S un id dflt t k (opndK l s.fr) (opndK c s.fr)
  | _ => dflt

/-! ### Operations that turn rows of trees into rows of data -/

/-- The elements that are appended, as data. -/
def elemsC (H : Heap) (g : GT) (k : List g.T → Prop) : AV → Prop
  | .tl g' xs => optC k (listOf g (dec g) (.tl g' xs))
  | .osl _ b lo len => match hget H b with
    | some (.arr _ xs) => must ((lo + len).ble xs.length) (decAllP g ((xs.drop lo).take len) k)
    | some (.tarr g' xs) => lo + len ≤ xs.length ∧ optC (fun l => k ((l.drop lo).take len)) (listOf g (dec g) (.tl g' xs))
    | _ => False
  | .gs _ b n => match hget H b with
    | some (.tarr g' xs) => n = xs.length ∧ optC k (listOf g (dec g) (.tl g' xs))
    | _ => False
  | .nils => k []
  | .emp => k []
  | .nev => k []
  | .sl xs => decAllP g xs k
  | .str s => match g with
    | .u8 => k s
    | _ => False
  | _ => False

def appNew (id by_ : Nat) (g : GT) (k : Kont) (base : AV) (ys : List g.T) : Prop :=
  (ys = [] → k base [] [] []) ∧ (ys ≠ [] → roomP ys.length by_ ∧ k (.osl g.size id 0 ys.length) [(id, some (.tarr g ys))] [] [])

def appOld (id by_ : Nat) (g : GT) (k : Kont) (b lo len : Nat) (l ys : List g.T) : Prop :=
  (lo = 0 ∧ len = l.length) ∧ (ys = [] → k (.osl g.size b lo len) [] [] []) ∧ (ys ≠ [] → roomP (l ++ ys).length by_ ∧ k (.osl g.size id 0 (l ++ ys).length) [(id, some (.tarr g (l ++ ys))), (b, none)] [] [])

/-- Onto none: a row that may be none. -/
def appNil (id by_ : Nat) (g : GT) (k : Kont) (ys : List g.T) : Prop :=
  roomP ys.length by_ ∧ k (.gs g id ys.length) [(id, some (.tarr g ys)), (Nat.succ id, none)] [] []

def appGs (id by_ : Nat) (g : GT) (k : Kont) (b n : Nat) (l ys : List g.T) : Prop :=
  (n = l.length ∧ roomP (l ++ ys).length by_) ∧ k (.gs g id (l ++ ys).length) [(id, some (.tarr g (l ++ ys))), (b, none)] [] []

/-- Two slots that differ. -/
def apart2 : Operand → Operand → Bool
  | .tmp i, .tmp j => !(i.beq j)
  | .tmp _, _ => true
  | _, _ => false

def appBase (s : St) (id by_ : Nat) (g : GT) (k : Kont) (ap : Bool) (ys : List g.T) : AV → Prop
  | .nils => bK ap (appNil id by_ g k ys) (appNew id by_ g k .nils ys)
  | .emp => bK ap (appNil id by_ g k ys) (appNew id by_ g k .emp ys)
  | .gs g1 b n => must (g1.size.beq g.size && !(b.beq id)) (match hlive s.H s.F b with
    | some (.tarr g' l) => optC (fun l => appGs id by_ g k b n l ys) (listOf g (dec g) (.tl g' l))
    | _ => False)
  | .osl n b lo len => must (n.beq g.size) (match hlive s.H s.F b with
    | some (.tarr g' l) => optC (fun l => appOld id by_ g k b lo len l ys) (listOf g (dec g) (.tl g' l))
    | some (.arr m xs) => must (m.beq g.size) (optC (fun l => appOld id by_ g k b lo len l ys) (decAll (dec g) xs))
    | _ => False)
  | _ => False

def appC (S : SE) (s : St) (id : Nat) (ts : List TypeId) (k : Kont) (ap : Bool) (a x : AV) : Prop :=
  match ts with
  | st :: xt :: _ => must (srcKind S.T xt) (optC (fun e => optC (fun by_ => optC (fun g => must (e.2.1.beq g.size) (elemsC s.H g (fun ys => appBase s id by_ g k (ap && !(isIn (Nat.succ id) s.F) && !(isIn (Nat.succ id) (idOf x))) ys a) x)) (S.gt e.1)) (bytesOf S.T e.1)) (elemT S.T st))
  | _ => False

def storeE (S : SE) (t : TypeId) (k : Kont) (b i off : Nat) (v : AV) (g : GT) (xs : List g.T) : Prop :=
  optC (fun n => must (fitsN n v) (i < xs.length ∧ optC (fun y => decP g y fun z => k und [(b, some (.tarr g (xs.set i z)))] [b] []) (setPart (enc g (xs.getD i g.nought)) off v.cells))) (szOf S.T t)

def storeC (S : SE) (s : St) (dflt : Prop) (t : TypeId) (k : Kont) (v : AV) : AV → Prop
  | .eptr b i off => match hlive s.H s.F b with
    | some (.tarr g xs) => storeE S t k b i off v g xs
    | _ => dflt
  | _ => dflt

def bytesC (S : SE) (id : Nat) (dflt : Prop) (src dst : TypeId) (k : Kont) : AV → Prop
  | .str s => match kindOf S.T dst, kindOf S.T src with
    | .slice e, .str => must (isByte S.T e) (s.length ≤ 1099511627776 ∧ k (.osl 1 id 0 s.length) [(id, some (.tarr .u8 s))] [] [])
    | _, _ => dflt
  | _ => dflt

def makeC (S : SE) (id : Nat) (t : TypeId) (k : Kont) : AV → AV → Prop
  | .int _ n, .int _ m => optC (fun e => optC (fun by_ => optC (fun g => optC (fun z => must (e.2.1.beq g.size) ((0 ≤ n ∧ n = m ∧ roomP m.toNat by_) ∧ k (.osl g.size id 0 m.toNat) [(id, some (.tarr g (List.replicate m.toNat z)))] [] [])) (dec g e.2.2)) (S.gt e.1)) (bytesOf S.T e.1)) (elemT S.T t)
  | _, _ => False

/-- Elements written over a row of data. -/
def copyC (S : SE) (s : St) (dflt : Prop) (ts : List TypeId) (k : Kont) (x : AV) : AV → Prop
  | .osl n b lo len => match hlive s.H s.F b with
    | some (.tarr g l) => match ts with
      | dt :: _ => optC (fun e => must (e.2.1.beq g.size && n.beq g.size) (elemsC s.H g (fun ys => lo + len ≤ l.length ∧
          k (.int .i64 (min ys.length len : Nat)) [(b, some (.tarr g (l.take lo ++ ys.take (min ys.length len) ++ l.drop (lo + min ys.length len))))] (b :: idOf x) []) x)) (elemT S.T dt)
      | _ => False
    | _ => dflt
  | _ => dflt

/-- A part of a row of data, made nought. -/
def clearC (S : SE) (s : St) (dflt : Prop) (ts : List TypeId) (k : Kont) : AV → Prop
  | .osl n b lo len => match hlive s.H s.F b with
    | some (.tarr g l) => match ts with
      | t :: _ => optC (fun e => must (e.2.1.beq g.size && n.beq g.size) (optC (fun z => lo + len ≤ l.length ∧
          k (.tup []) [(b, some (.tarr g (l.take lo ++ List.replicate len z ++ l.drop (lo + len))))] [b] []) (dec g e.2.2))) (elemT S.T t)
      | _ => False
    | _ => dflt
  | _ => dflt

def opC (S : SE) (op : Op) (s : St) (id : Nat) (k : Kont) : Prop :=
  match op with
  | .store t a x => storeC S s (opD S false op s id k) t k (opndK x s.fr) (opndK a s.fr)
  | .convert a b x => bytesC S id (opD S false op s id k) a b k (opndK x s.fr)
  | .makeSlice t l c => makeC S id t k (opndK l s.fr) (opndK c s.fr)
  | .pick c a b => pickU k (opndK a s.fr) (opndK b s.fr) (opndK c s.fr)
  | .unOp o t x => notU (opD S false (.unOp o t x) s id k) o k (opndK x s.fr)
  | .binOp o t x y z => eqUb S (opD S false (.binOp o t x y z) s id fun v e rd fz => k (toUb v) e rd fz) o t k (opndK x s.fr) (opndK y s.fr)
  | .call ⟨.builtin .append, args, ts⟩ => match args.toList with
    | [a, x] => appC S s id ts.toList k (apart2 a x) (opndK a s.fr) (opndK x s.fr)
    | _ => False
  | .call ⟨.builtin .copy, args, ts⟩ => match args.toList with
    | [d, x] => copyC S s (opD S false op s id k) ts.toList k (opndK x s.fr) (opndK d s.fr)
    | _ => opD S false op s id k
  | .call ⟨.builtin .clear, args, ts⟩ => match args.toList with
    | [x] => clearC S s (opD S false op s id k) ts.toList k (opndK x s.fr)
    | _ => opD S false op s id k
  | .call ⟨.value f, args, _⟩ => hookC S s id k (opndK f s.fr) (opndsK args.toList s.fr)
  | op => opD S false op s id k

/-! ### Regions, and the text of a function -/

/-- A guard; a bool that was not known is known behind it. -/
def guardU (ops : List Oper) (s : St) (go skip : St → Prop) : Option (Nat × Bool) → Prop :=
  @Option.rec (Nat × Bool) (fun _ => Prop) (go s) (fun p => match guardTmp ops p.1 with
    | some d => (match getK s.fr d with
      | .bool b => @Bool.rec (fun _ => Prop) (bK p.2 (skip s) (go s)) (bK p.2 (go s) (skip s)) b
      | .ub b => (b = true → bK p.2 (go ⟨setK s.fr d (.bool true), s.H, s.F, s.nx⟩) (skip ⟨setK s.fr d (.bool true), s.H, s.F, s.nx⟩)) ∧ (b = false → bK p.2 (skip ⟨setK s.fr d (.bool false), s.H, s.F, s.nx⟩) (go ⟨setK s.fr d (.bool false), s.H, s.F, s.nx⟩))
      | .tup [] => skip s
      | _ => False)
    | none => False)

/-- Elements that hold rows: these are taken whole, and written no more. -/
def preApp (s : St) (k : St → Prop) : AV → Prop
  | .osl _ b _ _ => match hlive s.H s.F b with
    | some (.arr m xs) => @Bool.rec (fun _ => Prop) (k s) (resAllC true s.H xs fun ys is => k ⟨s.fr, hset s.H b (.arr m ys), is ++ s.F, s.nx⟩) (xs.any ownV)
    | _ => k s
  | _ => k s

def preSto (s : St) (t : Nat) (k : St → Prop) (v : AV) : AV → Prop
  | .eptr b _ _ => match hget s.H b with
    | some (.tarr _ _) => @Bool.rec (fun _ => Prop) (k s) (resC true s.H DEEP v fun y is => k ⟨setK s.fr t y, s.H, is ++ s.F, s.nx⟩) (ownV v)
    | _ => k s
  | _ => k s

def preC (op : Op) (s : St) (k : St → Prop) : Prop :=
  match op with
  | .call ⟨.builtin .append, args, _⟩ => match args.toList with
    | [_, x] => preApp s k (opndK x s.fr)
    | _ => k s
  | .store _ a (.tmp t) => preSto s t k (getK s.fr t) (opndK a s.fr)
  | _ => k s

/-! Rows whose elements' rows are one's own. -/

/-- A row of bytes of one's own, taken over as a new element's. -/
def dElem (s : St) (k : List UInt8 → Eff → Prop) : AV → Prop
  | .gs g r n => must (g.size.beq 1) (match hlive s.H s.F r with
    | some (.tarr g' l) => optC (fun d => n = d.length ∧ k d [(r, none)]) (listOf .u8 (dec .u8) (.tl g' l))
    | _ => False)
  | .osl m r lo n => must (m.beq 1 && lo.beq 0) (match hlive s.H s.F r with
    | some (.tarr g' l) => optC (fun d => n = d.length ∧ k d [(r, none)]) (listOf .u8 (dec .u8) (.tl g' l))
    | _ => False)
  | _ => False

/-- What is appended: its elements, and what is left of where they stood. -/
def dSrc (s : St) (k : List Blk → Eff → Prop) : AV → Prop
  | .osl m b lo len => must (m.beq 2) (match hlive s.H s.F b with
    | some (.deep xs q) => (q ≤ lo ∧ lo + len ≤ xs.length) ∧ k ((xs.drop lo).take len) [(b, some (.deep xs (lo + len)))]
    | some (.arr n [.agg [.int .i64 p, X]]) => must (n.beq 2 && (lo.beq 0 && len.beq 1)) (dElem s (fun d e => k [⟨p, d⟩] e) X)
    | _ => False)
  | .gs g b n => must (g.size.beq 2) (match hlive s.H s.F b with
    | some (.deep xs q) => (q = 0 ∧ n = xs.length) ∧ k xs [(b, some (.deep xs n))]
    | _ => False)
  | .sl [] => k [] []
  | .nils => k [] []
  | .emp => k [] []
  | _ => False

/-- What it is appended to. -/
def dBase (s : St) (k : List Blk → Eff → Prop) : AV → Prop
  | .gs g b n => must (g.size.beq 2) (match hlive s.H s.F b with
    | some (.deep xs q) => (q = 0 ∧ n = xs.length) ∧ k xs [(b, none)]
    | _ => False)
  | .osl m b lo n => must (m.beq 2 && lo.beq 0) (match hlive s.H s.F b with
    | some (.deep xs q) => (q = 0 ∧ n = xs.length) ∧ k xs [(b, none)]
    | _ => False)
  | .nils => k [] []
  | .emp => k [] []
  | _ => False

def dApart (F : List Nat) (id : Nat) (ks : List Nat) : Bool := !(isIn id F) && (!(isIn id ks) && match ks with
  | [a, b] => !(a.beq b)
  | _ => true)

def dAppC (S : SE) (s : St) (id : Nat) (ts : List TypeId) (k : Kont) (a x : AV) : Prop :=
  match ts with
  | st :: xt :: _ => must (srcKind S.T xt) (optC (fun e => optC (fun by_ => must (e.2.1.beq 2) (dBase s (fun xs eb => dSrc s (fun ys es => must (dApart s.F id ((eb ++ es).map (·.1)))
      (roomP (xs.length + ys.length) by_ ∧ k (.gs .blk id (xs ++ ys).length) ((id, some (.deep (xs ++ ys) 0)) :: (eb ++ es)) [] [])) x) a)) (bytesOf S.T e.1)) (elemT S.T st))
  | _ => False

def dIsE : AV → Bool
  | .gs _ _ _ => true
  | .osl _ _ _ _ => true
  | _ => false

def dIsS (H : Heap) : AV → Bool
  | .osl _ b _ _ => match hget H b with
    | some (.deep _ _) => true
    | some (.arr _ [.agg [.int .i64 _, X]]) => dIsE X
    | _ => false
  | .gs _ b _ => match hget H b with
    | some (.deep _ _) => true
    | _ => false
  | _ => false

/-- Is an append one to such a row? -/
def dIsB (H : Heap) (x : AV) : AV → Bool
  | .osl _ b _ _ => match hget H b with
    | some (.deep _ _) => true
    | _ => false
  | .gs _ b _ => match hget H b with
    | some (.deep _ _) => true
    | _ => false
  | .nils => dIsS H x
  | .emp => dIsS H x
  | _ => false

/-- An element taken out of such a row, with its own row. -/
def dLoadC (S : SE) (s : St) (id : Nat) (t : TypeId) (k : Kont) (els : Prop) : AV → Prop
  | .eptr b i off => match hlive s.H s.F b with
    | some (.deep xs q) => @Bool.rec (fun _ => Prop) els (must (!(isIn id s.F)) ((q ≤ i ∧ i < xs.length) ∧
        k (.agg [.int .i64 (xs.getD i ⟨0, []⟩).pos, .gs .u8 id (xs.getD i ⟨0, []⟩).data.length]) [(id, some (.tarr .u8 (xs.getD i ⟨0, []⟩).data)), (b, some (.deep xs (Nat.succ i)))] [] []))
        (off.beq 0 && match S.T.ty.get t with
          | some j => j.ag && j.size.beq 2
          | none => false)
    | _ => els
  | _ => els

/-- A byte stored in an element's own row. -/
def dStoreC (S : SE) (s : St) (t : TypeId) (k : Kont) (els : Prop) (v : AV) : AV → Prop
  | .psub b i j => match hlive s.H s.F b with
    | some (.deep xs q) => must (match szOf S.T t with
        | some n => n.beq 1
        | none => false) (decB (fun z => (q ≤ i ∧ i < xs.length ∧ j < (xs.getD i ⟨0, []⟩).data.length) ∧
          k und [(b, some (.deep (xs.set i ⟨(xs.getD i ⟨0, []⟩).pos, (xs.getD i ⟨0, []⟩).data.set j z⟩) q))] [] []) v)
    | _ => False
  | _ => els

/-- A part of such a row, which may be none. -/
def dSliceC (S : SE) (s : St) (t : TypeId) (k : Kont) (els : Prop) (lo hi : Option AV) : AV → Prop
  | .gs g b n => match hget s.H b with
    | some (.deep _ _) => must (elemN S.T t g.size) (match bndZ 0 lo, bndZ n hi with
      | some l, some h => (0 ≤ l ∧ l ≤ h ∧ h ≤ n) ∧ (n = 0 → k (.sl []) [] [] []) ∧ (0 < n → k (.osl g.size b l.toNat (h.toNat - l.toNat)) [] [] [])
      | _, _ => False)
    | _ => els
  | _ => els

/-- The first part of a row of one's own: the row is given up, its part is a row. -/
def dShrC (S : SE) (s : St) (id : Nat) (t : TypeId) (k : Kont) (els : Prop) (hi : Option AV) : AV → Prop
  | .gs g b n => match hlive s.H s.F b with
    | some (.tarr g' l) => must (elemN S.T t g.size && (g'.size.beq g.size && !(isIn id s.F))) (match bndZ n hi with
      | some h => (n = l.length ∧ 0 ≤ h ∧ h ≤ n) ∧ k (.gs g' id h.toNat) [(id, some (.tarr g' (l.take h.toNat))), (b, none)] [] []
      | _ => False)
    | _ => els
  | _ => els

def shrC (S : SE) (op : Op) (s : St) (id : Nat) (k : Kont) (els : Prop) : Prop :=
  @Bool.rec (fun _ => Prop) els (match op with
    | .slice t x none hi none => dShrC S s id t k els (mapO s.fr hi) (opndK x s.fr)
    | _ => els) S.sh

/-- An operation on such a row, if it is one. -/
def deepC (S : SE) (op : Op) (s : St) (id : Nat) (k : Kont) (els : Prop) : Prop :=
  @Bool.rec (fun _ => Prop) (shrC S op s id k els) (match op with
    | .call ⟨.builtin .append, args, ts⟩ => match args.toList with
      | [a, x] => @Bool.rec (fun _ => Prop) els (dAppC S s id ts.toList k (opndK a s.fr) (opndK x s.fr)) (dIsB s.H (opndK x s.fr) (opndK a s.fr))
      | _ => els
    | .load t a => dLoadC S s id t k els (opndK a s.fr)
    | .store t a x => dStoreC S s t k els (opndK x s.fr) (opndK a s.fr)
    | .slice t x lo hi none => dSliceC S s t k els (mapO s.fr lo) (mapO s.fr hi) (opndK x s.fr)
    | _ => els) S.dp

def opsC (S : SE) (ops : List Oper) : List Oper → Nat → St → (St → Prop) → Prop :=
  @List.rec Oper (fun _ => Nat → St → (St → Prop) → Prop) (fun _ s k => k s) (fun o _ ih id s k =>
    guardU ops s (fun s => deepC S o.op s id (fun v e _ fz => ih (Nat.add id (nat_lit 64)) ⟨putK o.dst s.fr v, happ s.H e, fz ++ s.F, s.nx⟩ k) (preC o.op s fun s => opC S o.op s id fun v e _ fz => ih (Nat.add id (nat_lit 64)) ⟨putK o.dst s.fr v, happ s.H e, fz ++ s.F, s.nx⟩ k))
      (fun s => ih (Nat.add id (nat_lit 64)) ⟨putK o.dst s.fr und, s.H, s.F, s.nx⟩ k) o.guard)

/-! A region whose order is drawn: its bools are told as the machine tells them; which of them are known is kept beside it. -/

def knOf : List (Nat × Bool) → Nat → Option Bool
  | [], _ => none
  | p :: r, d => bif p.1.beq d then some p.2 else knOf r d

def knDel (d : Nat) : List (Nat × Bool) → List (Nat × Bool)
  | [] => []
  | p :: r => bif p.1.beq d then knDel d r else p :: knDel d r

def kb (kn : List (Nat × Bool)) : Operand → Option Bool
  | .tmp t => knOf kn t
  | .const (.bool b) => some b
  | _ => none

def knNot : Option Bool → Option Bool
  | some b => some !b
  | none => none

def knPick (a b : Option Bool) : Option Bool → Option Bool
  | some true => a
  | some false => b
  | none => none

def knOp (kn : List (Nat × Bool)) : Op → Option Bool
  | .move x => kb kn x
  | .assign x => kb kn x
  | .pick c a b => knPick (kb kn a) (kb kn b) (kb kn c)
  | .unOp .not _ x => knNot (kb kn x)
  | _ => none

def knPut (kn : List (Nat × Bool)) (dst : Option Tmp) (v : Option Bool) : List (Nat × Bool) :=
  match dst with
  | some d => (match v with
    | some b => (d, b) :: knDel d kn
    | none => knDel d kn)
  | none => kn

abbrev DK := St → List (Nat × Bool) → Prop

def guardD (ops : List Oper) (s : St) (kn : List (Nat × Bool)) (go skip : DK) : Option (Nat × Bool) → Prop :=
  @Option.rec (Nat × Bool) (fun _ => Prop) (go s kn) (fun p => match guardTmp ops p.1 with
    | some d => (match knOf kn d with
      | some b => bK b (bK p.2 (go s kn) (skip s kn)) (bK p.2 (skip s kn) (go s kn))
      | none => (match getK s.fr d with
        | .bool b => (b = true → bK p.2 (go ⟨setK s.fr d (.bool true), s.H, s.F, s.nx⟩ ((d, true) :: kn)) (skip ⟨setK s.fr d (.bool true), s.H, s.F, s.nx⟩ ((d, true) :: kn))) ∧
          (b = false → bK p.2 (skip ⟨setK s.fr d (.bool false), s.H, s.F, s.nx⟩ ((d, false) :: kn)) (go ⟨setK s.fr d (.bool false), s.H, s.F, s.nx⟩ ((d, false) :: kn)))
        | .tup [] => skip s kn
        | _ => False))
    | none => False)

/-- One operation; a pick by a bool that is known. -/
def opDk (S : SE) (kn : List (Nat × Bool)) (op : Op) (s : St) (id : Nat) (k : Kont) : Prop :=
  match op with
  | .pick c a b => (match kb kn c with
    | some true => k (opndK a s.fr) [] [] []
    | some false => k (opndK b s.fr) [] [] []
    | none => opD S true (.pick c a b) s id k)
  | op => opD S true op s id k

def opsD (S : SE) (ops : List Oper) : List Oper → Nat → St → List (Nat × Bool) → List Foot → (St → List (Nat × Bool) → List Foot → Prop) → Prop :=
  @List.rec Oper (fun _ => Nat → St → List (Nat × Bool) → List Foot → (St → List (Nat × Bool) → List Foot → Prop) → Prop) (fun _ s kn fs k => k s kn fs) (fun o _ ih id s kn fs k =>
    guardD ops s kn (fun s kn => opDk S kn o.op s id fun v e rd fz => must (fz.all (isIn · s.F)) (ih (Nat.add id (nat_lit 64)) ⟨putK o.dst s.fr v, happ s.H e, s.F, s.nx⟩ (knPut kn o.dst (knOp kn o.op)) (fs ++ [⟨rd, e.map (·.1), false⟩]) k))
      (fun s kn => ih (Nat.add id (nat_lit 64)) ⟨putK o.dst s.fr und, s.H, s.F, s.nx⟩ (knPut kn o.dst none) (fs ++ [⟨[], [], false⟩]) k) o.guard)

def Fr.map (f : AV → AV) : Fr → Fr
  | .nil => .nil
  | .nd v l r => .nd (f v) (l.map f) (r.map f)

/-- Behind such a region: bools that are not known. -/
def ubAll (kn : List (Nat × Bool)) : List Oper → Fr → Fr
  | [], fr => fr
  | o :: r, fr => match o.dst with
    | some d => (match knOf kn d with
      | some _ => ubAll kn r fr
      | none => ubAll kn r (setK fr d (toUb (getK fr d))))
    | none => ubAll kn r fr

/-- Bools that were not known ahead of such a region. -/
def reubV : AV → AV → AV
  | .ub _, .bool b => .ub b
  | _, v => v

def Fr.reub : Fr → Fr → Fr
  | .nd v l r, .nd v' l' r' => .nd (reubV v v') (l.reub l') (r.reub r')
  | _, f => f

def knSet (kn : List (Nat × Bool)) : List (Nat × Bool) → Fr → Fr
  | [], fr => fr
  | p :: r, fr => (match knOf kn p.1 with
    | some b => setK (knSet kn r fr) p.1 (.bool b)
    | none => knSet kn r fr)

/-- Behind such a region. -/
def backF (fr0 : Fr) (kn : List (Nat × Bool)) (ops : List Oper) (fr : Fr) : Fr := knSet kn kn (fr0.reub (ubAll kn ops fr))

/-- Rows that a region makes and hands to a function that answers rows of its own: they are written no more. -/
def ownCalls (S : SE) : List Oper → Bool
  | [] => false
  | o :: r => match o.op with
    | .call ⟨.value (.func f), _, _⟩ => bif S.own f then true else ownCalls S r
    | _ => ownCalls S r

def builtIds : List Oper → Nat → List Nat
  | [], _ => []
  | o :: r, id => match o.op with
    | .buildSlice _ _ _ => id :: builtIds r (id + 64)
    | _ => builtIds r (id + 64)

/-- Rows that a drawn region makes and puts into a struct, or hands to a function: they are written no more. -/
def usedIn (t : Nat) : List Oper → Bool
  | [] => false
  | o :: r => (match o.op with
    | .build _ ps => ps.toList.any fun p => (match p.2 with
      | .tmp u => u.beq t
      | _ => false)
    | .call ⟨.value _, args, _⟩ => args.toList.any fun p => (match p with
      | .tmp u => u.beq t
      | _ => false)
    | _ => false) || usedIn t r

def nestIds : List Oper → Nat → List Nat
  | [], _ => []
  | o :: r, id => match o.op, o.dst with
    | .call ⟨.builtin .append, _, _⟩, some t => bif usedIn t r then id :: nestIds r (id + 64) else nestIds r (id + 64)
    | _, _ => nestIds r (id + 64)

/-- What an operand of a region leads to, as it stands ahead of the region. -/
def lookIds (H : Heap) : AV → List Nat
  | .ptr b _ => match hget H b with
    | some (.cells cs) => cs.flatMap (reach H DEEP)
    | _ => []
  | v => reach H DEEP v

def readIds (s : St) : List Oper → List Nat
  | [] => []
  | o :: r => (match o.op with
    | .load _ a => lookIds s.H (opndK a s.fr)
    | .fieldAddr _ a _ => lookIds s.H (opndK a s.fr)
    | .move a => lookIds s.H (opndK a s.fr)
    | _ => []) ++ readIds s r

/-- A region that writes into nothing that was there. -/
def quiet : List Oper → Bool
  | [] => true
  | o :: r => (match o.op with
    | .store _ _ _ => false
    | .call ⟨.builtin .append, _, _⟩ => false
    | _ => true) && quiet r

def moveIds (s : St) : List Oper → List Nat
  | [] => []
  | o :: r => (match o.op with
    | .move a => lookIds s.H (opndK a s.fr)
    | _ => []) ++ moveIds s r

def frzX (S : SE) (ops : List Oper) (s : St) : List Nat := bif S.dp then [] else (bif S.mv then moveIds s ops else []) ++ nestIds ops s.nx ++ bif ownCalls S ops then builtIds ops s.nx ++ bif quiet ops then readIds s ops else [] else []

/-- Are a number's bits all set, below some place? -/
def allBits (k b : Nat) : Bool := b.beq (Nat.pred (Nat.pow 2 k))

/-- The first place from which on each operation is behind all that come before it: walked from the end. 'bs': the bits, last first; 'i': how many are left. -/
def cutGo : List Nat → Nat → Nat
  | [], _ => 0
  | b :: r, i => bif allBits (Nat.pred i) b then cutGo r (Nat.pred i) else i

def cutOf (ops : List Oper) : Nat := cutGo (befL ops []).reverse ops.length

def isRead : Op → Bool
  | .move _ => true
  | .fieldAddr _ _ _ => true
  | .load _ _ => true
  | _ => false

/-- All reads of a region, one behind the other; which rows each looks at. -/
def readsC (S : SE) (H : Heap) (F : List Nat) (nx : Nat) : List Oper → Fr → List (List Nat) → (Fr → List (List Nat) → Prop) → Prop :=
  @List.rec Oper (fun _ => Fr → List (List Nat) → (Fr → List (List Nat) → Prop) → Prop) (fun fr rs k => k fr rs) (fun o _ ih fr rs k =>
    @Bool.rec (fun _ => Prop) (ih fr (rs ++ [[]]) k) (resK (fun v _ rd _ => ih (putK o.dst fr v) (rs ++ [rd]) k) (aopK o.op (S.env false) ⟨fr, H, F, nx⟩ 0)) (isRead o.op))

/-- The first call of a function that works on its caller's own rows. -/
def hookAt (S : SE) : List Oper → Nat → Option Nat
  | [], _ => none
  | o :: r, i => match o.op with
    | .call ⟨.value (.func g), _, _⟩ => (match S.hook g with
      | some _ => some i
      | none => hookAt S r (i + 1))
    | _ => hookAt S r (i + 1)

def isDst (d : Nat) (o : Oper) : Bool :=
  match o.dst with
  | some x => x.beq d
  | none => false

def noDst (d : Nat) : List Oper → Bool
  | [] => true
  | o :: r => !(isDst d o) && noDst d r

def noDsts (r : List Oper) : List Nat → Bool
  | [] => true
  | d :: l => noDst d r && noDsts r l

/-- The slots of what is no read. -/
def chDsts : List Oper → List Nat
  | [] => []
  | o :: r => bif isRead o.op then chDsts r else optL o.dst ++ chDsts r

/-- Each operation writes a slot of its own, without a guard; what is no read is behind the last one that was none; reads look at reads alone. -/
def chOps (cd : List Nat) : List Oper → List Nat → Option Nat → Nat → Bool
  | [], _, _, _ => true
  | o :: r, b :: bs, pv, i => (match o.guard with
    | none => true
    | some _ => false) && (match o.dst with
    | some d => noDst d r
    | none => true) && (bif isRead o.op then disj (tmpsOf o.op.operands.toList) cd && chOps cd r bs pv (i + 1)
      else (match pv with
        | some p => b.testBit p
        | none => true) && noDsts r (tmpsOf o.op.operands.toList) && chOps cd r bs (some i) (i + 1))
  | _, _, _, _ => false

/-- A call of a function that works on its caller's own rows, between reads. -/
def hookH (S : SE) (H : Heap) (F : List Nat) (id : Nat) (k : Kont) : AV → List AV → Prop
  | .fn g caps, args => match S.hook g with
    | some h => h (args ++ caps) H F id k
    | none => False
  | _, _ => False

def stepH (S : SE) (op : Op) (fr : Fr) (H : Heap) (F : List Nat) (nx id : Nat) (k : Kont) : Prop :=
  match op with
  | .call ⟨.value f, args, _⟩ => hookH S H F id k (opndK f fr) (opndsK args.toList fr)
  | op => resK k (aopK op (S.env false) ⟨fr, H, F, nx⟩ id)

/-- What is written is looked at by no read that is not ahead of it. -/
def safeG (b : Nat) (es : List Nat) : List (List Nat) → Nat → Bool
  | [], _ => true
  | rd :: r, j => (b.testBit j || disj rd es) && safeG b es r (j + 1)

/-- What is no read, one behind the other. -/
def chainC (S : SE) (bits : List Nat) (rs : List (List Nat)) (nx base : Nat) : List Oper → Nat → Fr → Heap → List Nat → (Fr → Heap → List Nat → Prop) → Prop :=
  @List.rec Oper (fun _ => Nat → Fr → Heap → List Nat → (Fr → Heap → List Nat → Prop) → Prop) (fun _ fr H F k => k fr H F) (fun o _ ih i fr H F k =>
    @Bool.rec (fun _ => Prop) (stepH S o.op fr H F nx (base + STRIDE * i) fun v e _ fz => must (safeG (bits.getD i 0) (e.map (·.1)) rs 0) (ih (Nat.succ i) (putK o.dst fr v) (happ H e) (fz ++ F) k)) (ih (Nat.succ i) fr H F k) (isRead o.op))

def regH (S : SE) (ops : List Oper) (s : St) (k : St → Prop) : Prop :=
  must (chOps (chDsts ops) ops (befL ops []) none 0) (readsC S s.H s.F (withF s s.F ops.length).nx ops s.fr [] fun fr rs =>
    chainC S (befL ops []) rs (withF s s.F ops.length).nx s.nx ops 0 fr s.H s.F fun fr H F => k ⟨fr, H, F, (withF s s.F ops.length).nx⟩)

def regC (S : SE) (ops : List Oper) (draw : Bool) (s : St) (k : St → Prop) : Prop :=
  bK draw (@Option.rec Nat (fun _ => Prop) (opsD S ops (ops.take (cutOf ops)) s.nx (withF ⟨s.fr.map unub, s.H, s.F, s.nx⟩ (frzX S (ops.take (cutOf ops)) s ++ s.F) ops.length) [] [] fun s' kn fs => must (feetOk fs (befL ops []) 0)
    (opsC S ops (ops.drop (cutOf ops)) (Nat.add s.nx (Nat.mul (nat_lit 64) (cutOf ops))) ⟨backF s.fr kn (ops.take (cutOf ops)) s'.fr, s'.H, s'.F, s'.nx⟩ k)) (fun _ => regH S ops s k) (hookAt S (ops.take (cutOf ops)) 0)) (opsC S ops ops s.nx (withF s s.F ops.length) k)

/-- The first region of a loop: its name. -/
def keyOf : Code → Nat :=
  @Code.rec (fun _ => Nat) 0 (fun i _ _ => i + 1) (fun _ _ a b => bK (Nat.beq a 0) b a) (fun _ _ _ _ _ => 0) (fun _ _ b => b) (fun _ b => b) (fun _ _ _ _ _ _ => 0) (fun _ => 0) (fun _ _ => 0) (fun _ => 0) (fun _ => 0) 0 (fun _ => 0)

def Fr.deads : Nat → Fr
  | 0 => .nil
  | n + 1 => .nd .dead (deads n) (deads n)

def frK : List Nat → List AV → Fr
  | k :: ks, v :: vs => setK (frK ks vs) k v
  | _, _ => Fr.deads 10

/-- More numbers than a cut state has. -/
def MANY : Nat := 1000

def codeC (S : SE) : Code → St → (AX → St → Prop) → Prop :=
  @Code.rec (fun _ => St → (AX → St → Prop) → Prop)
    (fun s K => K .normal s)
    (fun _ ops draw s K => regC S ops.toList draw s (K .normal))
    (fun _ _ fa fb s K => fa s fun x s' => @AX.rec (fun _ => Prop) (fb s' K) (fun k => K (.exit k) s') (K .ret s') x)
    (fun c _ _ fa fb s K => match opndK c s.fr with
      | .bool b => @Bool.rec (fun _ => Prop) (fb s K) (fa s K) b
      | .ub b => (b = true → fa s K) ∧ (b = false → fb s K)
      | _ => False)
    (fun id _ fb s K => fb s fun x s' => @AX.rec (fun _ => Prop) (K .normal s') (fun k => bK (Nat.beq k id) (K .normal s') (K (.exit k) s')) (K .ret s') x)
    (fun b _ s K => optC (fun L => L s K) (S.loop (keyOf b)))
    (fun _ _ _ _ _ _ _ _ => False)
    (fun id s K => K (.exit id) s)
    (fun _ _ _ _ => False)
    (fun _ s K => K .normal s)
    (fun _ _ _ => False)
    (fun s K => K .ret s)
    (fun _ _ _ => False)

end
end Go.Proofs.Ytmkmjjodiicmlaa.VS

/- What is told of values that are not known: trees as data, values taken whole. Conditions: none. -/
namespace Go.Proofs.Ytmkmjjodiicmlaa.VS
variable [Syms]

theorem toUb_le (v : AV) : VLe v (toUb v) := by
  cases v <;> first | exact ub_le _ | exact .refl _

/-! ### Values taken whole -/

omit [Syms] in

theorem optC_some.{u} {α : Type u} {k : α → Prop} {o : Option α} (h : optC k o) : ∃ a, o = some a ∧ k a := by
  cases o with
  | none => exact h.elim
  | some a => exact ⟨a, rfl, h⟩

omit [Syms] in
theorem must_and {b : Bool} {p : Prop} (h : must b p) : b = true ∧ p := by
  cases b with
  | false => exact h.elim
  | true => exact ⟨rfl, h⟩

section
variable {nz : Bool} {H : Heap}

/-- A list's part of 'resC'. -/
noncomputable def resL (nz : Bool) (H : Heap) (d : Nat) : List AV → (List AV → List Nat → Prop) → Prop :=
  @List.rec AV (fun _ => (List AV → List Nat → Prop) → Prop) (fun k => k [] []) (fun x _ jh k => jh fun ys js => resC nz H d x fun y is => k (y :: ys) (is ++ js))

omit [Syms] in
theorem resL_all {d : Nat} (ih : ∀ a k, resC nz H d a k → ∃ y is, resolve nz H d a = some (y, is) ∧ k y is) : ∀ (l : List AV) (k : List AV → List Nat → Prop), resL nz H d l k → ∃ r, resAll nz H d l = some r ∧ k r.1 r.2
  | [], k, h => ⟨([], []), rfl, h⟩
  | x :: l, k, h => by
    obtain ⟨r, h1, h2⟩ := resL_all ih l _ h
    obtain ⟨y, is, h3, h4⟩ := ih _ _ h2
    refine ⟨(y :: r.1, is ++ r.2), ?_, h4⟩
    show (match resAll nz H d l, resolve nz H d x with
      | some ys, some y => some (y.1 :: ys.1, y.2 ++ ys.2)
      | _, _ => none) = _
    rw [h1, h3]

omit [Syms] in
theorem resC_some : ∀ (d : Nat) (a : AV) (k : AV → List Nat → Prop), resC nz H d a k → ∃ y is, resolve nz H d a = some (y, is) ∧ k y is
  | 0, a, k, h => h.elim
  | d + 1, a, k, h => by
    have ih := resC_some d
    cases a with
    | agg cs =>
      obtain ⟨r, h1, h2⟩ := resL_all ih cs _ h
      refine ⟨_, _, ?_, h2⟩
      show (match resAll nz H d cs with
        | some r => some (AV.agg r.1, r.2)
        | none => none) = _
      rw [h1]
    | tup cs =>
      obtain ⟨r, h1, h2⟩ := resL_all ih cs _ h
      refine ⟨_, _, ?_, h2⟩
      show (match resAll nz H d cs with
        | some r => some (AV.tup r.1, r.2)
        | none => none) = _
      rw [h1]
    | fn f cs =>
      obtain ⟨r, h1, h2⟩ := resL_all ih cs _ h
      refine ⟨_, _, ?_, h2⟩
      show (match resAll nz H d cs with
        | some r => some (AV.fn f r.1, r.2)
        | none => none) = _
      rw [h1]
    | ifc t v =>
      obtain ⟨y, is, h1, h2⟩ := ih v _ h
      refine ⟨_, _, ?_, h2⟩
      show (match resolve nz H d v with
        | some r => some (AV.ifc t r.1, r.2)
        | none => none) = _
      rw [h1]
    | osl s b lo len =>
      have h' : (match hget H b with
        | some (.arr _ xs) => must ((lo + len).ble xs.length) (resL nz H d xs fun r is => k (.sl ((r.drop lo).take len)) (b :: is))
        | some (.tarr t xs) => lo + len ≤ xs.length ∧ k (.tl t ((xs.drop lo).take len)) [b]
        | some (.deep xs q) => (lo + len ≤ xs.length ∧ q = 0) ∧ k (.tl .blk ((xs.drop lo).take len)) [b]
        | _ => False) := h
      clear h
      split at h'
      · rename_i s' xs hb
        obtain ⟨hble, h'⟩ := must_and h'
        obtain ⟨r, h1, h2⟩ := resL_all ih xs _ h'
        refine ⟨_, _, ?_, h2⟩
        show (match hget H b with
          | some (.arr _ xs) => bif (lo + len).ble xs.length then
              match resAll nz H d xs with
              | some r => some (AV.sl ((r.1.drop lo).take len), b :: r.2)
              | none => none
            else none
          | some (.tarr t xs) => bif (lo + len).ble xs.length then some (AV.tl t ((xs.drop lo).take len), [b]) else none
          | some (.deep xs q) => bif (lo + len).ble xs.length && q.beq 0 then some (AV.tl .blk ((xs.drop lo).take len), [b]) else none
          | _ => none) = _
        rw [hb]
        simp only
        rw [hble, cond_true, h1]
      · rename_i t xs hb
        refine ⟨_, _, ?_, h'.2⟩
        show (match hget H b with
          | some (.arr _ xs) => bif (lo + len).ble xs.length then
              match resAll nz H d xs with
              | some r => some (AV.sl ((r.1.drop lo).take len), b :: r.2)
              | none => none
            else none
          | some (.tarr t xs) => bif (lo + len).ble xs.length then some (AV.tl t ((xs.drop lo).take len), [b]) else none
          | some (.deep xs q) => bif (lo + len).ble xs.length && q.beq 0 then some (AV.tl .blk ((xs.drop lo).take len), [b]) else none
          | _ => none) = _
        rw [hb]
        simp only
        rw [show (lo + len).ble xs.length = true from Nat.ble_eq_true_of_le h'.1, cond_true]
      · rename_i xs q hb
        refine ⟨_, _, ?_, h'.2⟩
        show (match hget H b with
          | some (.arr _ xs) => bif (lo + len).ble xs.length then
              match resAll nz H d xs with
              | some r => some (AV.sl ((r.1.drop lo).take len), b :: r.2)
              | none => none
            else none
          | some (.tarr t xs) => bif (lo + len).ble xs.length then some (AV.tl t ((xs.drop lo).take len), [b]) else none
          | some (.deep xs q) => bif (lo + len).ble xs.length && q.beq 0 then some (AV.tl .blk ((xs.drop lo).take len), [b]) else none
          | _ => none) = _
        rw [hb]
        simp only
        rw [show (lo + len).ble xs.length = true from Nat.ble_eq_true_of_le h'.1.1, h'.1.2]
        rfl
      · exact h'.elim
    | gs g b n =>
      have h' : match hget H b with
        | some (.tarr t xs) => n = xs.length ∧ k (.tl t xs) [b]
        | some (.deep xs q) => (n = xs.length ∧ q = 0) ∧ k (.tl .blk xs) [b]
        | _ => False := h
      split at h'
      · rename_i t xs hb
        refine ⟨_, _, ?_, h'.2⟩
        show (match hget H b with
          | some (.tarr t xs) => bif n.beq xs.length then some (AV.tl t xs, [b]) else none
          | some (.deep xs q) => bif n.beq xs.length && q.beq 0 then some (AV.tl .blk xs, [b]) else none
          | _ => none) = _
        rw [hb]
        simp only
        rw [h'.1, beq_same, cond_true]
      · rename_i xs q hb
        refine ⟨_, _, ?_, h'.2⟩
        show (match hget H b with
          | some (.tarr t xs) => bif n.beq xs.length then some (AV.tl t xs, [b]) else none
          | some (.deep xs q) => bif n.beq xs.length && q.beq 0 then some (AV.tl .blk xs, [b]) else none
          | _ => none) = _
        rw [hb]
        simp only
        rw [h'.1.1, h'.1.2, beq_same]
        rfl
      · exact h'.elim
    | ptr b o =>
      have h' : (match hget H b with
        | some (.cells cs) => must (o.beq 0) (resL nz H d cs fun r is => k (.cptr (.agg r)) (b :: is))
        | _ => False) := h
      clear h
      split at h'
      · rename_i cs hb
        obtain ⟨ho, h'⟩ := must_and h'
        obtain ⟨r, h1, h2⟩ := resL_all ih cs _ h'
        refine ⟨_, _, ?_, h2⟩
        show (match hget H b with
          | some (.cells cs) => bif o.beq 0 then
              match resAll nz H d cs with
              | some r => some (AV.cptr (.agg r.1), b :: r.2)
              | none => none
            else none
          | _ => none) = _
        rw [hb]
        simp only
        rw [ho, cond_true, h1]
      · exact h'.elim
    | dead => exact h.elim
    | sub _ _ _ => exact h.elim
    | psub _ _ _ => exact h.elim
    | eptr _ _ _ => exact h.elim
    | cptr _ => exact ⟨_, _, rfl, h⟩
    | mp _ => exact h.elim
    | _ => exact ⟨_, _, rfl, h⟩

omit [Syms] in
theorem resAllC_some : ∀ (l : List AV) (k : List AV → List Nat → Prop), resAllC nz H l k → ∃ p, resolveAll nz H l = some p ∧ k p.1 p.2
  | [], k, h => ⟨([], []), rfl, h⟩
  | x :: l, k, h => by
    obtain ⟨p, h1, h2⟩ := resAllC_some l _ h
    obtain ⟨y, is, h3, h4⟩ := resC_some _ _ _ h2
    exact ⟨(y :: p.1, is ++ p.2), by rw [resolveAll, h3, h1], h4⟩
end

omit [Syms] in
theorem optC_get {α : Type} {k : α → Prop} {o : Option α} (h : optC k o) : ∃ x, o = some x ∧ k x := by
  cases o with
  | none => exact h.elim
  | some x => exact ⟨x, rfl, h⟩

theorem decP_some {g : GT} {a : AV} {k : g.T → Prop} (h : decP g a k) : ∃ x, Dec1 g a x ∧ k x := by
  have other : optC k (dec g a) → ∃ x, Dec1 g a x ∧ k x := fun h => by
    obtain ⟨x, h1, h2⟩ := optC_get h
    exact ⟨x, dec_dec g a x h1, h2⟩
  cases g
  case u8 =>
    have h : decB k a := h
    unfold decB at h
    split at h
    · rename_i n
      exact ⟨_, byteOf_dec (by simp only [byteOf]; rw [if_pos h.1]), h.2⟩
    · exact h.elim
  all_goals exact other h

theorem decAllP_some {g : GT} : ∀ {ps : List AV} {k : List g.T → Prop}, decAllP g ps k → ∃ xs, DRow g ps xs ∧ k xs
  | [], k, h => ⟨[], .nil, h⟩
  | a :: ps, k, h => by
    obtain ⟨x, h1, h2⟩ := decP_some (k := fun x => decAllP g ps fun l => k (x :: l)) h
    obtain ⟨xs, h3, h4⟩ := decAllP_some h2
    exact ⟨x :: xs, .cons h1 h3, h4⟩

end Go.Proofs.Ytmkmjjodiicmlaa.VS

