/- slices.Delete over the caller's own heap: a contract. Conditions: none. -/
import Derived.Test.YtopkeglpafdlfaaGreatVX2
namespace Go.Proofs.YtopkeglpafdlfaaGreat.VS
open Go.Shelf Go.RowKit

/-- What is asked of a program. -/
structure DelP (P : Program) (ρ : Ren) (f : FuncId) : Prop where
  fn : ∃ fn, P.funcs[f]? = some fn ∧ fn.body = (Body2.n24 ρ).body ∧ fn.ntmps = 33 ∧ fn.results = #[.tmp 6] ∧ (fn.name == "runtime.NumGoroutine") = false
  mixed : P.follows .mixedOrders = true
  tI : P.underlying (ρ.t 3) = some (.int .i64)
  tB : P.underlying (ρ.t 4) = some .bool

theorem step_appendI {P : Program} {ops : Array Oper} {o : Oper} {a : Act} {w : World} {K : Act → World → Prop} {Q : Exit → Act → World → Prop} {E : Prop}
    (hg : o.guard = none) (d x : Operand) (dT sT : TypeId) (hop : o.op = Op.call { callee := Callee.builtin Builtin.append, args := #[d, x], argTypes := #[dT, sT] })
    (v u : Value) (hd : a.eval d = v) (hx : a.eval x = u) {v' : Value} {w' : World} (hr : (Builtin.append_ #[dT, sT] o.type #[v, u]).run P w = .ok v' w') (hK : K (a.put o.dst v') w') :
    if Region.wanted o (yielded ops a.tmps) = true then Oper.wp P o a w K Q else E := by
  have hw : Region.wanted o (yielded ops a.tmps) = true := by simp [Region.wanted, hg]
  rw [if_pos hw]
  unfold Oper.wp execOp
  simp only [hop, Go.resolve, Go.invoke, Go.builtin, Sem.run_bind, Sem.run_pure, Result.andThen_ok, List.map_toArray, List.map_cons, List.map_nil, hd, hx, hr]
  exact hK

theorem wpList_clearI {P : Program} (w : World) {ops : Array Oper} {rest : List Oper} {o : Oper} {a : Act} {Q : Exit → Act → World → Prop} (hgd : o.guard = none) (d : Operand) (t : TypeId)
    (ho : o.op = .call { callee := .builtin .clear, args := #[d], argTypes := #[t] }) (v : Value) (hd : a.eval d = v) {v' : Value} {w' : World}
    (hr : (Builtin.clear_ #[t] o.type #[v]).run P w = .ok v' w') (h : wpList P ops Q rest (a.put o.dst v') w') : wpList P ops Q (o :: rest) a w :=
  wpList_plain hgd fun _ hK => by
    unfold Oper.wp execOp
    simp only [ho, Go.resolve, Go.invoke, Go.builtin, Sem.run_bind, Sem.run_pure, Result.andThen_ok, List.map_toArray, List.map_cons, List.map_nil, hd, hr]
    exact hK _ _ h

set_option maxHeartbeats 4000000 in
set_option maxRecDepth 100000 in
theorem del_walk {P : Program} {f : FuncId} {ρ : Ren} {E : TypeId} {k : Nat} (A : DelP P ρ f) (tS : P.underlying (ρ.t 24) = some (.slice E)) (z9 : ∀ w, (Go.sizeOf E).run P w = .ok k w) (b off n c i j : Nat) (w w1 w2 : World)
    (hi : i < j) (hj : j ≤ n) (hnc : n ≤ c) (h63 : n ≤ 1099511627776) (v : Value)
    (hap : ∀ ua, (c = j → ua = ⟨b, off, none⟩) → (c ≠ j → ua = ⟨b, off + j * k, none⟩) → (Builtin.append_ #[ρ.t 24, ρ.t 24] (ρ.t 24) #[.slice (some ⟨b, off, none⟩) i c, .slice (some ua) (n - j) (c - j)]).run P w.drew = .ok (.slice (some ⟨b, off, none⟩) (i + (n - j)) c) w1)
    (hcl : ∀ T cc, (Builtin.clear_ #[ρ.t 24] T #[.slice (some ⟨b, off + (i + (n - j)) * k, none⟩) (n - (i + (n - j))) cc]).run P w1 = .ok v w2) :
    Calls P f #[.slice (some ⟨b, off, none⟩) n c, .int .i64 i, .int .i64 j] w fun e w' =>
      e = .returned (.slice (some ⟨b, off, none⟩) (i + (n - j)) c) ∧ w' = w2 := by
  obtain ⟨fn, hf, hbody, hn, hres, hname⟩ := A.fn
  have t24 := tS; have t3 := A.tI; have t4 := A.tB
  have u24 := run_underlying tS; have u3 := run_underlying A.tI; have u4 := run_underlying A.tB
  have mixed := A.mixed
  have hz1 : ¬ ((i : Int) = (j : Int)) := by omega
  have hb1 : (i : Int) ≤ (j : Int) := by omega
  have hb2 : (j : Int) ≤ (n : Int) := by omega
  have hb3 : ¬ (c = i) := by omega
  have hb4 : (i : Int) ≤ (c : Int) := by omega
  have hb5 : i ≤ n := by omega
  have hb6 : (n : Int) ≤ (c : Int) := by omega
  have hb7 : i + (n - j) ≤ n := by omega
  have hb8 : ((i + (n - j) : Nat) : Int) ≤ (n : Int) := by omega
  have hb9 : ¬ (c = i + (n - j)) := by omega
  refine calls_of_wp hf (hbody.trans rfl) ?_
  simp only [hn, List.size_toArray, List.length_cons, List.length_nil, Nat.reduceAdd, Nat.reduceSub, Array.replicate_succ,
     Array.replicate_zero, List.push_toArray, List.append_toArray, List.nil_append, List.cons_append]
  by_cases hcj : c = j
  · have hap' := hap ⟨b, off, none⟩ (fun _ => rfl) (fun h => absurd hcj h)
    clear hap
    subst hcj
    have hnj : n = c := by omega
    subst hnj
    simp only [Nat.sub_self, Nat.add_zero] at hap' hcl hb7 hb8 hb9 ⊢
    go_wp2
    go_region_law_o (refine step_appendI rfl _ _ (ρ.t 24) (ρ.t 24) rfl _ _ (by simp [Act.eval, Act.put]) (by simp [Act.eval, Act.put]) hap' ?_)
    go_wp2_with (at_builtin; refine wpList_clearI _ rfl _ (ρ.t 24) rfl _ rfl (hcl _ _) ?_)
    exact ⟨rfl, _, by simp [results, hres], rfl, rfl⟩
  · have hap' := hap ⟨b, off + j * k, none⟩ (fun h => absurd h hcj) (fun _ => rfl)
    clear hap
    go_wp2
    go_region_law_o (refine step_appendI rfl _ _ (ρ.t 24) (ρ.t 24) rfl _ _ (by simp [Act.eval, Act.put]) (by simp [Act.eval, Act.put]) hap' ?_)
    go_wp2_with (at_builtin; refine wpList_clearI _ rfl _ (ρ.t 24) rfl _ rfl (hcl _ _) ?_)
    exact ⟨rfl, _, by simp [results, hres], rfl, rfl⟩

variable [Syms]
section
variable {P : Program} {T : Tabs} {c : Ctx} {m : Map} {H : Heap} {F : List Nat} {w : World}

omit [Syms] in
theorem run_clear {S E : TypeId} {i0 : TypeInfo} {z : Value} (hu : P.underlying S = some (.slice E)) (hi : P.info? E = some i0) (hz : i0.zero = some z) {ty : TypeId} {a : Addr} {n cc : Nat} (hn : 0 < n) {w w1 : World}
    (hst : (storeCells a (Builtin.zeroCells z.cells n).toList).run P w = .ok () w1) : (Builtin.clear_ #[S] ty #[.slice (some a) n cc]).run P w = .ok (.tuple #[]) w1 := by
  cases n with
  | zero => omega
  | succ n => simp [Builtin.clear_, run_underlying hu, zeroValue, typeInfo, hi, hz, hst]

theorem delH_ok1 (hT : TyOK P T) {ρ : Ren} {f : FuncId} (A : DelP P ρ f) {S : TypeId} (hS : ρ.t 24 = S) (he : ∀ args w, (callFunc f args).run P w = .ok (.enter f args) w) : HOK1 P f (delH T S) := by
  subst hS
  intro args H F nx r hr c m w cargs hs hc hsz hnx
  unfold delH at hr
  split at hr
  · rename_i s1 b lo len i j
    obtain ⟨v0, h0, g0⟩ := hc 0 _ rfl
    obtain ⟨v1, h1, g1⟩ := hc 1 _ rfl
    obtain ⟨v2, h2, g2⟩ := hc 2 _ rfl
    cases g1; cases g2
    have hargs : cargs = #[v0, .int .i64 i, .int .i64 j] := by
      apply Array.ext
      · simpa using hsz
      · intro q hj1 hj2
        have hj : q = 0 ∨ q = 1 ∨ q = 2 := by simp at hj2; omega
        rcases hj with rfl | rfl | rfl
        · rw [Nat.zero_add, Array.getElem?_eq_getElem hj1] at h0; simpa using h0
        · rw [Nat.zero_add, Array.getElem?_eq_getElem hj1] at h1; simpa using h1
        · rw [Nat.zero_add, Array.getElem?_eq_getElem hj1] at h2; simpa using h2
    subst hargs
    refine .inr ⟨he _ w, ?_⟩
    split at hr
    · rename_i q hq
      split at hr
      · rename_i m1 xs hb
        obtain ⟨hcond, rfl⟩ := condS hr
        clear hr
        simp only [Bool.and_eq_true] at hcond
        obtain ⟨c2, c3, c6, c7, c8, c9, c11⟩ := hcond
        obtain ⟨i0, z, hu, hi, hsz0, hz, hza, hzf, hpos⟩ := elemT_some hT hq
        obtain ⟨E, sz, za⟩ := q
        simp only at *
        have c2 := Nat.eq_of_beq_eq_true c2
        have c3 := Nat.eq_of_beq_eq_true c3
        subst c2; subst c3
        have c6 := Nat.le_of_ble_eq_true c6
        have c7 : i < j := Nat.le_of_ble_eq_true c7
        have c8 := Nat.le_of_ble_eq_true c8
        have c9 := Nat.le_of_ble_eq_true c9
        have z9 : ∀ w, (Go.sizeOf E).run P w = .ok m1 w := fun w => by simp [Go.sizeOf, typeInfo, hi, hsz0]
        obtain ⟨hb, hbF⟩ := hlive_some hb
        obtain ⟨L, j1, _, jsz, jv⟩ := g0.osl_inv
        obtain ⟨_, _, je, jl, C, et, z1, j2, j3, j4, j5, j6⟩ := hs.objm hb j1
        rcases jv with ⟨jv, _⟩ | ⟨cp, rfl, g1, g2, g3⟩
        · omega
        obtain ⟨x1, x2⟩ := ones_of (s := m1) (fun y hy => List.all_eq_true.1 c11 y hy)
        have hXl : ((xs.drop lo).take len).length = len := by rw [List.length_take, List.length_drop]; omega
        have hX : ∀ x ∈ (xs.drop lo).take len, x.cells.length = m1 := fun x hx => x1 x (List.mem_of_mem_drop (List.mem_of_mem_take hx))
        have hCX : CR (okB c.X m H F) w.heap m (flat ((xs.drop lo).take len)) C (L.off + lo * m1) := by
          intro q x hx
          rw [flat_take len (fun y hy => x1 y (List.mem_of_mem_drop hy)), List.getElem?_take] at hx
          split at hx
          · rw [flat_drop lo x1, List.getElem?_drop] at hx
            obtain ⟨v, hv, hr'⟩ := j6 _ x hx
            exact ⟨v, by rw [← hv]; congr 1; omega, hr'⟩
          · cases hx
        have hfX : (flat ((xs.drop lo).take len)).length = len * m1 := by rw [flat_length hX, hXl]
        generalize hXL : (xs.drop lo).take len = XL at *
        have oX : ∀ q ∈ flat XL, q.one = true := fun q hq => x2 q (by
          rw [← hXL] at hq
          rw [flat_take len (fun y hy => x1 y (List.mem_of_mem_drop hy)), flat_drop lo x1] at hq
          exact List.mem_of_mem_drop (List.mem_of_mem_take hq))
        have hjk : j * m1 + (len - j) * m1 = len * m1 := by rw [← Nat.add_mul]; congr 1; omega
        have hik : (i + (len - j)) * m1 = i * m1 + (len - j) * m1 := Nat.add_mul _ _ _
        have hrest : (i + (len - j)) * m1 + (len - (i + (len - j))) * m1 = len * m1 := by rw [← Nat.add_mul]; congr 1; omega
        have hlp : (lo + len) * m1 ≤ (lo + cp) * m1 := Nat.mul_le_mul_right _ (by omega)
        have hlo : (lo + len) * m1 = lo * m1 + len * m1 := Nat.add_mul _ _ _
        have hbig : L.off + lo * m1 + len * m1 ≤ C.size := by omega
        obtain ⟨new1, n1s, n1c, n1r⟩ := hCX.part (P := P) (j * m1) ((len - j) * m1) (by omega)
        rw [List.take_of_length_le (by rw [List.length_drop]; omega)] at n1c
        have o1 : ∀ v ∈ new1, v.oneCell' = true := n1c.ones (by rw [n1s, List.length_drop]; omega) fun q hq => oX q (List.mem_of_mem_drop hq)
        have hh1 : (w.drew.setCells L.blk (L.off + lo * m1 + i * m1) new1.toList).heap[L.blk]? = some (.cells (setArr C (L.off + lo * m1 + i * m1) new1.toList) et z1) := heap_setCells _ (w := w.drew) j2 _
        have hst1 := run_stores (P := P) (w := w.drew) j2 j4 (o := L.off + lo * m1 + i * m1) new1.toList (by rw [Array.length_toList]; omega) (fun u hu => o1 u (by simpa using hu))
        have hzf' : fitsN m1 (ofV z) = true := by rw [← hza]; exact hzf
        obtain ⟨zc1, zc2, zc3⟩ := zero_cells hzf'
        have hzs : ∀ n, (Builtin.zeroCells z.cells n).size = n * m1 := fun n => by simp [Builtin.zeroCells, zc1]
        have hzone : ∀ v ∈ Builtin.zeroCells z.cells (len - (i + (len - j))), v.oneCell' = true := by
          refine CR.ones (zeros_cr hzf' _ (okB c.X m H F) w.heap m) ?_ ?_
          · rw [hzs, flat_length (s := m1) fun x hx => by rw [List.eq_of_mem_replicate hx]; exact zc3]; simp
          · intro q hq
            obtain ⟨y, hy, hqy⟩ := List.mem_flatMap.1 hq
            rw [List.eq_of_mem_replicate hy] at hqy
            exact fits_one (fitsN_some hzf').1 q hqy
        have hst2 := run_stores (P := P) hh1 (z := z1) (s := m1) (by rw [NoFz, size_setArr]; exact j4) (o := L.off + lo * m1 + (i + (len - j)) * m1) (Builtin.zeroCells z.cells (len - (i + (len - j)))).toList
          (by rw [Array.length_toList, size_setArr, hzs]; omega) (fun u hu => hzone u (by simpa using hu))
        have hap : ∀ ua, (cp = j → ua = ⟨L.blk, L.off + lo * m1, none⟩) → (cp ≠ j → ua = ⟨L.blk, L.off + lo * m1 + j * m1, none⟩) → (Builtin.append_ #[ρ.t 24, ρ.t 24] (ρ.t 24) #[.slice (some ⟨L.blk, L.off + lo * m1, none⟩) i cp, .slice (some ua) (len - j) (cp - j)]).run P w.drew = .ok (.slice (some ⟨L.blk, L.off + lo * m1, none⟩) (i + (len - j)) cp) (w.drew.setCells L.blk (L.off + lo * m1 + i * m1) new1.toList) := fun ua hu1 hu2 => by
          refine run_append_room' (P := P) (ts := #[ρ.t 24, ρ.t 24]) rfl rfl hu (.inr ⟨E, hu⟩) hi (new := new1) rfl ?_ (by rw [hsz0, add_none]; exact hst1) (by omega)
          rw [hsz0]
          by_cases hcj : cp = j
          · rw [hu1 hcj]
            have hlj : len - j = 0 := by omega
            have hn0 : new1 = #[] := Array.size_eq_zero_iff.1 (by rw [n1s, hlj, Nat.zero_mul])
            rw [hlj, hn0]; simp [Builtin.firstCells, loadCells, loadCellsFrom]
          · rw [hu2 hcj]
            exact n1r w.drew L.blk et z1 j2
        refine (del_walk A hu z9 L.blk (L.off + lo * m1) len cp i j w _ _ c7 c8 (by omega) c9 (.tuple #[]) hap (fun T cc => run_clear hu hi hz (by omega) hst2)).mono ?_
        rintro e w' ⟨rfl, rfl⟩
        obtain ⟨al1, as1⟩ := setCells_alike new1.toList w.drew L.blk (L.off + lo * m1 + i * m1)
        obtain ⟨al2, as2⟩ := setCells_alike (Builtin.zeroCells z.cells (len - (i + (len - j)))).toList (w.drew.setCells L.blk (L.off + lo * m1 + i * m1) new1.toList) L.blk (L.off + lo * m1 + (i + (len - j)) * m1)
        obtain ⟨hx, hsr⟩ := hs.move hb hbF j1 hnx (L' := ⟨L.blk, L.off + lo * m1, m1, i + (len - j), L.csz⟩) rfl (w' := (w.drew.setCells L.blk (L.off + lo * m1 + i * m1) new1.toList).setCells L.blk (L.off + lo * m1 + (i + (len - j)) * m1) (Builtin.zeroCells z.cells (len - (i + (len - j)))).toList)
          ⟨al2.os.trans al1.os, al2.tape.trans al1.tape, al2.output.trans al1.output⟩ (as2.trans as1) (o' := .arr m1 (XL.take i ++ XL.drop j)) (fun γ hγ => by rw [heap_setCells_ne _ _ _ _ _ hγ, heap_setCells_ne _ _ _ _ _ hγ]; rfl)
        have hcr1 := CR.set hCX n1c (off := i * m1) (by rw [n1s, List.length_drop]; omega) (by rw [List.length_drop]; omega) (by omega)
        have hnl : (XL.take i ++ XL.drop j).length = i + (len - j) := by rw [List.length_append, List.length_take, List.length_drop, hXl]; omega
        have hnc : ∀ x ∈ XL.take i ++ XL.drop j, x.cells.length = m1 := fun x hx => (List.mem_append.1 hx).elim (fun h => hX x (List.mem_of_mem_take h)) (fun h => hX x (List.mem_of_mem_drop h))
        have hfl : flat (XL.take i ++ XL.drop j) = (flat XL).take (i * m1) ++ (flat XL).drop (j * m1) := by rw [flat_append, flat_take i hX, flat_drop j hX]
        have hcr2 : CR (okB c.X m H F) w.heap m (flat (XL.take i ++ XL.drop j)) (setArr (setArr C (L.off + lo * m1 + i * m1) new1.toList) (L.off + lo * m1 + (i + (len - j)) * m1) (Builtin.zeroCells z.cells (len - (i + (len - j)))).toList) (L.off + lo * m1) := by
          intro q x hx
          have hq : q < (i + (len - j)) * m1 := by
            have := (List.getElem?_eq_some_iff.1 hx).1
            rw [flat_length hnc, hnl] at this; exact this
          rw [hfl] at hx
          obtain ⟨v, hv, hr'⟩ := hcr1 q x (by
            unfold setCells
            rw [List.getElem?_append_left (by rw [List.length_append, List.length_take, List.length_drop]; omega)]
            exact hx)
          refine ⟨v, ?_, hr'⟩
          rw [getElem?_setArr _ _ _ _ (by rw [Array.length_toList, size_setArr, hzs]; omega), if_neg (by omega)]
          exact hv
        have hsr' := hsr ⟨rfl, hpos, hnl.symm, hnc, _, _, _, heap_setCells _ hh1 _, by rw [size_setArr, size_setArr]; exact j3, by rw [NoFz, size_setArr, size_setArr]; exact j4, by rw [size_setArr, size_setArr, hnl]; show L.off + lo * m1 + (i + (len - j)) * m1 ≤ C.size; omega, hcr2.mono hx.kk hx.mm⟩
        have hcm : (lo + cp) * m1 = lo * m1 + cp * m1 := Nat.add_mul _ _ _
        refine ⟨_, rfl, _, hx, hsr', .osl (upd_same _ _ _) (by show 0 + (i + (len - j)) ≤ i + (len - j); omega) hpos rfl rfl (by show _ = L.off + lo * m1 + 0 * m1; omega) (by show i + (len - j) ≤ 0 + cp; omega) (by show L.off + lo * m1 + (0 + cp) * m1 ≤ L.csz; rw [Nat.zero_add]; omega), Nat.le_succ _, fun x hx => ?_⟩
        by_cases e : x = nx
        · subst e; exact .inr ⟨Nat.le_refl _, Nat.lt_succ_self _⟩
        · rw [upd_ne m _ e] at hx; exact .inl hx
      · cases hr
    · cases hr
  · cases hr

theorem delH_ok (hT : TyOK P T) {ρ : Ren} {f : FuncId} (A : DelP P ρ f) {S : TypeId} (hS : ρ.t 24 = S) (he : ∀ args w, (callFunc f args).run P w = .ok (.enter f args) w) : HOK P f (delH T S) := (delH_ok1 hT A hS he).hok

end
end Go.Proofs.YtopkeglpafdlfaaGreat.VS
