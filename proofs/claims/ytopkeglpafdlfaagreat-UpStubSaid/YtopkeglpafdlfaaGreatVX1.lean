/- slices.Insert by its own text, at elements of any size. Conditions: none. -/
import Derived.Test.YtopkeglpafdlfaaGreatVS31
import Derived.Shelf.RegionOpenPlain
import Derived.Lib.Walk
import Derived.Lib.Overlaps
import Derived.Shelf.Bodies2
namespace Go.Proofs.YtopkeglpafdlfaaGreat.VS
open Go.Shelf Go.RowKit

/-- What is asked of a program. -/
structure InsP (P : Program) (ρ : Ren) (f : FuncId) : Prop where
  fn : ∃ fn, P.funcs[f]? = some fn ∧ fn.body = (Body2.n22 ρ).body ∧ fn.ntmps = 95 ∧ fn.results = #[.tmp 6] ∧ (fn.name == "runtime.NumGoroutine") = false
  mixed : P.follows .mixedOrders = true
  tI : P.underlying (ρ.t 3) = some (.int .i64)
  tB : P.underlying (ρ.t 4) = some .bool
  ov : ∀ args v w, (Extern.SlicesOverlaps.overlaps #[ρ.t 24, ρ.t 24] #[ρ.t 4] args).run P w = .ok v w → (callFunc (ρ.f 29) args).run P w = .ok (.value v) w

/-- 'copy' whose run is known, as a step of a plain region, and of one whose order is drawn. -/
theorem wp_copyI {P : Program} (w : World) {o : Oper} {a : Act} {K : Act → World → Prop} {Q : Exit → Act → World → Prop} (d s : Operand) (t t' : TypeId)
    (ho : o.op = .call { callee := .builtin .copy, args := #[d, s], argTypes := #[t, t'] }) (v u : Value) (hd : a.eval d = v) (hs : a.eval s = u) {v' : Value} {w' : World}
    (hr : (Builtin.copy_ #[t, t'] o.type #[v, u]).run P w = .ok v' w') (h : K (a.put o.dst v') w') : o.wp P a w K Q := by
  unfold Oper.wp execOp
  simp only [ho, Go.resolve, Go.invoke, Go.builtin, Sem.run_bind, Sem.run_pure, Result.andThen_ok, List.map_toArray, List.map_cons, List.map_nil, hd, hs, hr]
  exact h

theorem wpList_copyI {P : Program} (w : World) {ops : Array Oper} {rest : List Oper} {o : Oper} {a : Act} {Q : Exit → Act → World → Prop} (hgd : o.guard = none) (d s : Operand) (t t' : TypeId)
    (ho : o.op = .call { callee := .builtin .copy, args := #[d, s], argTypes := #[t, t'] }) (v u : Value) (hd : a.eval d = v) (hs : a.eval s = u) {v' : Value} {w' : World}
    (hr : (Builtin.copy_ #[t, t'] o.type #[v, u]).run P w = .ok v' w') (h : wpList P ops Q rest (a.put o.dst v') w') : wpList P ops Q (o :: rest) a w :=
  wpList_plain hgd fun _ hK => wp_copyI w d s t t' ho v u hd hs hr (hK _ _ h)

theorem step_copyI {P : Program} {ops : Array Oper} {o : Oper} {a : Act} {w : World} {K : Act → World → Prop} {Q : Exit → Act → World → Prop} {E : Prop}
    (hg : o.guard = none) (d x : Operand) (dT sT : TypeId) (hop : o.op = Op.call { callee := Callee.builtin Builtin.copy, args := #[d, x], argTypes := #[dT, sT] })
    (v u : Value) (hd : a.eval d = v) (hx : a.eval x = u) {v' : Value} {w' : World} (hr : (Builtin.copy_ #[dT, sT] o.type #[v, u]).run P w = .ok v' w') (hK : K (a.put o.dst v') w') :
    if Region.wanted o (yielded ops a.tmps) = true then Oper.wp P o a w K Q else E := by
  have hw : Region.wanted o (yielded ops a.tmps) = true := by simp [Region.wanted, hg]
  rw [if_pos hw]
  exact wp_copyI w d x dT sT hop v u hd hx hr hK

theorem wpList_appendI {P : Program} (w : World) {ops : Array Oper} {rest : List Oper} {o : Oper} {a : Act} {Q : Exit → Act → World → Prop} (hgd : o.guard = none) (d s : Operand) (t t' : TypeId)
    (ho : o.op = .call { callee := .builtin .append, args := #[d, s], argTypes := #[t, t'] }) (v u : Value) (hd : a.eval d = v) (hs : a.eval s = u) {v' : Value} {w' : World}
    (hr : (Builtin.append_ #[t, t'] o.type #[v, u]).run P w = .ok v' w') (h : wpList P ops Q rest (a.put o.dst v') w') : wpList P ops Q (o :: rest) a w :=
  wpList_plain hgd fun _ hK => by
    unfold Oper.wp execOp
    simp only [ho, Go.resolve, Go.invoke, Go.builtin, Sem.run_bind, Sem.run_pure, Result.andThen_ok, List.map_toArray, List.map_cons, List.map_nil, hd, hs, hr]
    exact hK _ _ h

set_option maxHeartbeats 4000000 in
set_option maxRecDepth 100000 in
theorem ins_shift {P : Program} {f : FuncId} {ρ : Ren} {E : TypeId} {k : Nat} (A : InsP P ρ f) (tS : P.underlying (ρ.t 24) = some (.slice E)) (z9 : ∀ w, (Go.sizeOf E).run P w = .ok k w) (b off n c i vb voff m vc : Nat) (w w1 w2 : World)
    (hi : i < n) (hm : 0 < m) (hroom : n + m ≤ c) (h63 : n + m ≤ 1099511627776)
    (hov : ∀ lb cb, (callFunc (ρ.f 29) #[.slice (some ⟨vb, voff, none⟩) m vc, .slice (some ⟨b, off + (i + m) * k, none⟩) lb cb]).run P w = .ok (.value (.bool false)) w)
    (hcp1 : ∀ dc sc, (Builtin.copy_ #[ρ.t 24, ρ.t 24] (ρ.t 3) #[.slice (some ⟨b, off + (i + m) * k, none⟩) (n + m - (i + m)) dc, .slice (some ⟨b, off + i * k, none⟩) (n + m - i) sc]).run P w.drew = .ok (goInt (n - i : Nat)) w1)
    (hcp2 : ∀ dc, (Builtin.copy_ #[ρ.t 24, ρ.t 24] (ρ.t 3) #[.slice (some ⟨b, off + i * k, none⟩) (n + m - i) dc, .slice (some ⟨vb, voff, none⟩) m vc]).run P w1 = .ok (goInt m) w2) :
    Calls P f #[.slice (some ⟨b, off, none⟩) n c, .int .i64 i, .slice (some ⟨vb, voff, none⟩) m vc] w fun e w' =>
      e = .returned (.slice (some ⟨b, off, none⟩) (n + m) c) ∧ w' = w2 := by
  obtain ⟨fn, hf, hbody, hn, hres, hname⟩ := A.fn
  have t24 := tS; have t3 := A.tI; have t4 := A.tB
  have u24 := run_underlying tS; have u3 := run_underlying A.tI; have u4 := run_underlying A.tB
  have mixed := A.mixed
  have hz1 : ¬ ((m : Int) = 0) := by omega
  have hz2 : ¬ ((i : Int) = (n : Int)) := by omega
  have hw1 : IntKind.i64.wrap ((i : Int) + (m : Int)) = (i : Int) + (m : Int) := by rw [IntKind.wrap_i64]; omega
  have hw2 : IntKind.i64.wrap ((n : Int) + (m : Int)) = (n : Int) + (m : Int) := by rw [IntKind.wrap_i64]; omega
  have hb1 : (0 : Int) ≤ (i : Int) + (m : Int) := by omega
  have hin : i ≤ n := by omega
  have htn : ((i : Int) + (m : Int)).toNat = i + m := by omega
  have hb2 : ¬ (c = i + m) := by omega
  have hb3 : (i : Int) ≤ (n : Int) + (m : Int) := by omega
  have hb4 : ¬ (c = i) := by omega
  refine calls_of_wp hf (hbody.trans rfl) ?_
  simp only [hn, List.size_toArray, List.length_cons, List.length_nil, Nat.reduceAdd, Nat.reduceSub, Array.replicate_succ,
     Array.replicate_zero, List.push_toArray, List.append_toArray, List.nil_append, List.cons_append]
  go_wp2_with (simp only [hov])
  go_region_law_o (refine step_copyI rfl _ _ (ρ.t 24) (ρ.t 24) rfl _ _ (by simp [Act.eval, Act.put]) (by simp [Act.eval, Act.put]) (hcp1 _ _) ?_)
  go_wp2_with (at_builtin; refine wpList_copyI _ rfl _ _ (ρ.t 24) (ρ.t 24) rfl _ _ rfl rfl (hcp2 _) ?_)
  exact ⟨rfl, _, by simp [results, hres], rfl, rfl⟩

set_option maxHeartbeats 4000000 in
set_option maxRecDepth 100000 in
theorem ins_end {P : Program} {f : FuncId} {ρ : Ren} {E : TypeId} {k : Nat} (A : InsP P ρ f) (tS : P.underlying (ρ.t 24) = some (.slice E)) (z9 : ∀ w, (Go.sizeOf E).run P w = .ok k w) (base vb : Option Addr) (n c m vc : Nat) (w w1 : World) (cv : Value)
    (hm : 0 < m) (hnc : n ≤ c) (hbase : base = none → c = 0)
    (hap : (Builtin.append_ #[ρ.t 24, ρ.t 24] (ρ.t 24) #[.slice base n c, .slice vb m vc]).run P w = .ok cv w1) :
    Calls P f #[.slice base n c, .int .i64 n, .slice vb m vc] w fun e w' => e = .returned cv ∧ w' = w1 := by
  obtain ⟨fn, hf, hbody, hn, hres, hname⟩ := A.fn
  have t24 := tS; have t3 := A.tI; have t4 := A.tB
  have u24 := run_underlying tS; have u3 := run_underlying A.tI; have u4 := run_underlying A.tB
  have mixed := A.mixed
  have hz1 : ¬ ((m : Int) = 0) := by omega
  refine calls_of_wp hf (hbody.trans rfl) ?_
  simp only [hn, List.size_toArray, List.length_cons, List.length_nil, Nat.reduceAdd, Nat.reduceSub, Array.replicate_succ,
     Array.replicate_zero, List.push_toArray, List.append_toArray, List.nil_append, List.cons_append]
  cases base with
  | none =>
    have h0 := hbase rfl
    subst h0
    have h1 : n = 0 := by omega
    subst h1
    clear hbase
    go_wp2_with (at_builtin; refine wpList_appendI _ rfl _ _ (ρ.t 24) (ρ.t 24) rfl _ _ rfl rfl hap ?_)
    exact ⟨rfl, _, by simp [results, hres], rfl, rfl⟩
  | some a =>
    clear hbase
    obtain ⟨ab, ao, asp⟩ := a
    go_wp2_with (at_builtin; refine wpList_appendI _ rfl _ _ (ρ.t 24) (ρ.t 24) rfl _ _ rfl rfl hap ?_)
    all_goals exact ⟨rfl, _, by simp [results, hres], rfl, rfl⟩

set_option maxHeartbeats 4000000 in
set_option maxRecDepth 100000 in
theorem ins_grow {P : Program} {f : FuncId} {ρ : Ren} {E : TypeId} {k : Nat} (A : InsP P ρ f) (tS : P.underlying (ρ.t 24) = some (.slice E)) (z9 : ∀ w, (Go.sizeOf E).run P w = .ok k w) (b off n c i b2 G : Nat) (vb : Option Addr) (m vc : Nat) (w w1 w2 w3 : World)
    (hi : i < n) (hm : 0 < m) (hnc : n ≤ c) (hroom : c < n + m) (hG : n + m ≤ G) (h63 : n + m ≤ 1099511627776)
    (hap : (Builtin.append_ #[ρ.t 24, ρ.t 3] (ρ.t 24) #[.slice (some ⟨b, off, none⟩) i c, .int .i64 ((n : Int) + (m : Int) - (i : Int))]).run P w = .ok (.slice (some ⟨b2, 0, none⟩) (n + m) G) w1)
    (hcp1 : ∀ dc, (Builtin.copy_ #[ρ.t 24, ρ.t 24] (ρ.t 3) #[.slice (some ⟨b2, i * k, none⟩) (n + m - i) dc, .slice vb m vc]).run P w1 = .ok (goInt m) w2)
    (hcp2 : ∀ dc sc, (Builtin.copy_ #[ρ.t 24, ρ.t 24] (ρ.t 3) #[.slice (some ⟨b2, (i + m) * k, none⟩) (n + m - (i + m)) dc, .slice (some ⟨b, off + i * k, none⟩) (n - i) sc]).run P w2.drew = .ok (goInt (n - i : Nat)) w3) :
    Calls P f #[.slice (some ⟨b, off, none⟩) n c, .int .i64 i, .slice vb m vc] w fun e w' => e = .returned (.slice (some ⟨b2, 0, none⟩) (n + m) G) ∧ w' = w3 := by
  obtain ⟨fn, hf, hbody, hn, hres, hname⟩ := A.fn
  have t24 := tS; have t3 := A.tI; have t4 := A.tB
  have u24 := run_underlying tS; have u3 := run_underlying A.tI; have u4 := run_underlying A.tB
  have mixed := A.mixed
  have hz1 : ¬ ((m : Int) = 0) := by omega
  have hz2 : ¬ ((i : Int) = (n : Int)) := by omega
  have hz3 : (c : Int) < (n : Int) + (m : Int) := by omega
  have hw1 : IntKind.i64.wrap ((i : Int) + (m : Int)) = (i : Int) + (m : Int) := by rw [IntKind.wrap_i64]; omega
  have hw2 : IntKind.i64.wrap ((n : Int) + (m : Int)) = (n : Int) + (m : Int) := by rw [IntKind.wrap_i64]; omega
  have hw3 : IntKind.i64.wrap ((n : Int) + (m : Int) - (i : Int)) = (n : Int) + (m : Int) - (i : Int) := by rw [IntKind.wrap_i64]; omega
  have hb1 : (0 : Int) ≤ (i : Int) + (m : Int) := by omega
  have hin : i ≤ n := by omega
  have hic : i ≤ c := by omega
  have htn : ((i : Int) + (m : Int)).toNat = i + m := by omega
  have hb2 : ¬ (G = i + m) := by omega
  have hb3 : (i : Int) ≤ (n : Int) + (m : Int) := by omega
  have hb3' : (i : Int) ≤ (n : Int) := by omega
  have hb4 : ¬ (G = i) := by omega
  have hb5 : ¬ (c = i) := by omega
  refine calls_of_wp hf (hbody.trans rfl) ?_
  simp only [hn, List.size_toArray, List.length_cons, List.length_nil, Nat.reduceAdd, Nat.reduceSub, Array.replicate_succ,
     Array.replicate_zero, List.push_toArray, List.append_toArray, List.nil_append, List.cons_append]
  go_wp2_with (first
    | (at_builtin; refine wpList_appendI _ rfl _ _ (ρ.t 24) (ρ.t 3) rfl _ _ rfl rfl hap ?_)
    | (at_builtin; refine wpList_copyI _ rfl _ _ (ρ.t 24) (ρ.t 24) rfl _ _ rfl rfl (hcp1 _) ?_))
  go_region_law_o (refine step_copyI rfl _ _ (ρ.t 24) (ρ.t 24) rfl _ _ (by simp [Act.eval, Act.put]) (by simp [Act.eval, Act.put]) (hcp2 _ _) ?_)
  go_wp2
  exact ⟨rfl, _, by simp [results, hres], rfl, rfl⟩

end Go.Proofs.YtopkeglpafdlfaaGreat.VS
