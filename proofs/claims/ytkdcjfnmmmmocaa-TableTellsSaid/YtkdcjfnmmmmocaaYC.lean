/- What functions answer, by their texts. Printed by a program of this work. Conditions: none. -/
import Derived.Test.YtkdcjfnmmmmocaaVYH
import Derived.KernelRfl
namespace Go.Proofs.Ytkdcjfnmmmmocaa.VS
set_option maxRecDepth 100000
set_option maxHeartbeats 0
set_option linter.unusedVariables false
/-! veneer/veneerlaw13.long -/
noncomputable def t_law13_long (a0 : Tbl) : T Bool :=
  (T.ite (decide ((↑a0.rows.length : Int) > (100 : Int))) (T.ret (true)) (T.ret (decide ((↑a0.homes.length : Int) > (100 : Int)))))
noncomputable def f_law13_long (a0 : Tbl) : Option Bool := (t_law13_long a0).run
noncomputable def K_law13_long : List AV → Option Con := conT (.S .tbl) (.dt .bool) fun x => f_law13_long x
noncomputable def S_law13_long : SE := { T := tabs, con := conOf [], own := fun f => false, gt := gtS, loop := lpOf [] }
/-! veneer/veneerref13.row -/
noncomputable def t_r13_row (a0 : Tbl) (a1 : Rwo) : T Bool :=
  (T.ite (decide (a1.spot.branch ≥ (0 : Int))) (T.ite (decide (a1.spot.branch < (8 : Int))) (T.ite (decide (a1.spot.ino ≥ (1 : Int))) (T.ite (decide (a1.spot.ino ≤ (2147483647 : Int))) (T.ite (decide (a1.u ≥ (1 : Int))) (T.ret (decide (a1.u < a0.next))) (T.ret (false))) (T.ret (false))) (T.ret (false))) (T.ret (false))) (T.ret (false)))
noncomputable def f_r13_row (a0 : Tbl) (a1 : Rwo) : Option Bool := (t_r13_row a0 a1).run
noncomputable def K_r13_row : List AV → Option Con := conT (.cons (.S .tbl) (.S .row)) (.dt .bool) fun x => f_r13_row x.1 x.2
noncomputable def S_r13_row : SE := { T := tabs, con := conOf [], own := fun f => false, gt := gtS, loop := lpOf [] }
/-! veneer/veneerref13.ahead -/
noncomputable def t_r13_ahead (a0 : Spt) (a1 : Spt) : T Bool :=
  (T.ite (decide (a0.branch < a1.branch)) (T.ret (true)) (T.ite (a0.branch == a1.branch) (T.ret (decide (a0.ino < a1.ino))) (T.ret (false))))
noncomputable def f_r13_ahead (a0 : Spt) (a1 : Spt) : Option Bool := (t_r13_ahead a0 a1).run
noncomputable def K_r13_ahead : List AV → Option Con := conT (.cons (.S .spt) (.S .spt)) (.dt .bool) fun x => f_r13_ahead x.1 x.2
noncomputable def S_r13_ahead : SE := { T := tabs, con := conOf [], own := fun f => false, gt := gtS, loop := lpOf [] }
/-! veneer/veneerref13.Is -/
noncomputable def tl_r13_Is_l0 (s1 : Tbl) (s3 : Int) : T ((Tbl × Int) ⊕ (Bool ⊕ Tbl)) :=
  (T.ite (decide (s3 < (↑s1.rows.length : Int))) (T.req ((0 : Int) ≤ s3 ∧ s3 < (↑s1.rows.length : Int)) (T.bind (f_r13_row s1 (s1.rows.getD s3.toNat GT.row.nought)) fun r0 => (T.ite (!r0) (T.ret (Sum.inr (Sum.inl false))) (T.ite (decide (s3 > (0 : Int))) (T.req ((0 : Int) ≤ IntKind.i64.wrap (s3 - (1 : Int)) ∧ IntKind.i64.wrap (s3 - (1 : Int)) < (↑s1.rows.length : Int)) (T.req ((0 : Int) ≤ s3 ∧ s3 < (↑s1.rows.length : Int)) (T.bind (f_r13_ahead (s1.rows.getD (IntKind.i64.wrap (s3 - (1 : Int))).toNat GT.row.nought).spot (s1.rows.getD s3.toNat GT.row.nought).spot) fun r1 => (T.ite (!r1) (T.ret (Sum.inr (Sum.inl false))) (T.ret (Sum.inl (s1, IntKind.i64.wrap (s3 + (1 : Int))))))))) (T.ret (Sum.inl (s1, IntKind.i64.wrap (s3 + (1 : Int))))))))) (T.ret (Sum.inr (Sum.inr s1))))
noncomputable def L_r13_Is_l0 : (Tbl × Int) → Option (Bool ⊕ Tbl) := fixT fun q => tl_r13_Is_l0 q.1 q.2
noncomputable def tl_r13_Is_l1 (s1 : Tbl) (s4 : Int) : T ((Tbl × Int) ⊕ (Bool ⊕ Tbl)) :=
  (T.ite (decide (s4 < (↑s1.homes.length : Int))) (T.req ((0 : Int) ≤ s4 ∧ s4 < (↑s1.homes.length : Int)) (T.bind (f_r13_row s1 (s1.homes.getD s4.toNat GT.row.nought)) fun r0 => (T.ite (!r0) (T.ret (Sum.inr (Sum.inl false))) (T.ite (decide (s4 > (0 : Int))) (T.req ((0 : Int) ≤ IntKind.i64.wrap (s4 - (1 : Int)) ∧ IntKind.i64.wrap (s4 - (1 : Int)) < (↑s1.homes.length : Int)) (T.req ((0 : Int) ≤ s4 ∧ s4 < (↑s1.homes.length : Int)) (T.ite (decide ((s1.homes.getD (IntKind.i64.wrap (s4 - (1 : Int))).toNat GT.row.nought).u ≥ (s1.homes.getD s4.toNat GT.row.nought).u)) (T.ret (Sum.inr (Sum.inl false))) (T.ret (Sum.inl (s1, IntKind.i64.wrap (s4 + (1 : Int)))))))) (T.ret (Sum.inl (s1, IntKind.i64.wrap (s4 + (1 : Int))))))))) (T.ret (Sum.inr (Sum.inr s1))))
noncomputable def L_r13_Is_l1 : (Tbl × Int) → Option (Bool ⊕ Tbl) := fixT fun q => tl_r13_Is_l1 q.1 q.2
noncomputable def t_r13_Is (a0 : Tbl) : T Bool :=
  (T.bind (L_r13_Is_l0 (a0, (0 : Int))) fun r0 => (T.case (r0) (fun r1 => (T.ret (r1))) (fun r2 => (T.bind (L_r13_Is_l1 (r2, (0 : Int))) fun r3 => (T.case (r3) (fun r4 => (T.ret (r4))) (fun r5 => (T.ite (decide (r5.next ≥ (1 : Int))) (T.ite (decide (r5.next ≤ (2147483647 : Int))) (T.ite (decide (r5.cursor ≥ (0 : Int))) (T.ret (decide (r5.cursor < (8 : Int)))) (T.ret (false))) (T.ret (false))) (T.ret (false)))))))))
noncomputable def f_r13_Is (a0 : Tbl) : Option Bool := (t_r13_Is a0).run
noncomputable def K_r13_Is : List AV → Option Con := conT (.S .tbl) (.dt .bool) fun x => f_r13_Is x
noncomputable def S_r13_Is : SE := { T := tabs, con := conOf [(41, K_r13_row), (42, K_r13_ahead)], own := fun f => false, gt := gtS, loop := lpOf [(3, loopT [1, 3] (.cons (.boxS .tbl []) (.dt .int)) [⟨.ret, [2], (.dt .bool)⟩, ⟨.exit 0, [1], (.boxS .tbl [])⟩] (L_r13_Is_l0)), (8, loopT [1, 4] (.cons (.boxS .tbl []) (.dt .int)) [⟨.ret, [2], (.dt .bool)⟩, ⟨.exit 2, [1], (.boxS .tbl [])⟩] (L_r13_Is_l1))] }
/-! veneer/table.in -/
noncomputable def t_table_in (a0 : Int) (a1 : Int) : T Bool :=
  (T.ite (decide (a0 ≥ a1)) (T.ret (decide (a0 ≤ (2147483647 : Int)))) (T.ret (false)))
noncomputable def f_table_in (a0 : Int) (a1 : Int) : Option Bool := (t_table_in a0 a1).run
noncomputable def K_table_in : List AV → Option Con := conT (.cons .int .int) (.dt .bool) fun x => f_table_in x.1 x.2
noncomputable def S_table_in : SE := { T := tabs, con := conOf [], own := fun f => false, gt := gtS, loop := lpOf [] }
/-! veneer/table.isRow -/
noncomputable def t_table_isRow (a0 : Tbl) (a1 : Rwo) : T Bool :=
  (T.ite (decide (a1.spot.branch ≥ (0 : Int))) (T.ite (decide (a1.spot.branch < (8 : Int))) (T.bind (f_table_in a1.spot.ino (1 : Int)) fun r0 => (T.ite (r0) (T.ite (decide (a1.u ≥ (1 : Int))) (T.ret (decide (a1.u < a0.next))) (T.ret (false))) (T.ret (false)))) (T.ret (false))) (T.ret (false)))
noncomputable def f_table_isRow (a0 : Tbl) (a1 : Rwo) : Option Bool := (t_table_isRow a0 a1).run
noncomputable def K_table_isRow : List AV → Option Con := conT (.cons (.S .tbl) (.S .row)) (.dt .bool) fun x => f_table_isRow x.1 x.2
noncomputable def S_table_isRow : SE := { T := tabs, con := conOf [(45, K_table_in)], own := fun f => false, gt := gtS, loop := lpOf [] }
/-! veneer/table.Is$1 -/
noncomputable def t_table_Is_1 (a0 : Rwo) (a1 : Tbl) : T Bool :=
  (T.bind (f_table_isRow a1 a0) fun r0 => (T.ret (!r0)))
noncomputable def f_table_Is_1 (a0 : Rwo) (a1 : Tbl) : Option Bool := (t_table_Is_1 a0 a1).run
noncomputable def K_table_Is_1 : List AV → Option Con := conT (.cons (.S .row) (.look .tbl)) (.dt .bool) fun x => f_table_Is_1 x.1 x.2
noncomputable def S_table_Is_1 : SE := { T := tabs, con := conOf [(44, K_table_isRow)], own := fun f => false, gt := gtS, loop := lpOf [] }
/-! slices.IndexFunc[[]veneer/api.Row,veneer/api.Row] -/
noncomputable def tl_slices_IndexFunc_Row__table_Is_1_l0 (s0 : (List Rwo)) (s1 : Tbl) (s7 : Int) (s8 : Int) : T (((List Rwo) × (Tbl × (Int × Int))) ⊕ (Int ⊕ Unit)) :=
  (T.ite (decide (s8 < s7)) (T.req ((0 : Int) ≤ s8 ∧ s8 < (↑s0.length : Int)) (T.bind (f_table_Is_1 (s0.getD s8.toNat GT.row.nought) s1) fun r0 => (T.ite (r0) (T.ret (Sum.inr (Sum.inl s8))) (T.ret (Sum.inl (s0, s1, s7, IntKind.i64.wrap (s8 + (1 : Int)))))))) (T.ret (Sum.inr (Sum.inr ()))))
noncomputable def L_slices_IndexFunc_Row__table_Is_1_l0 : ((List Rwo) × (Tbl × (Int × Int))) → Option (Int ⊕ Unit) := fixT fun q => tl_slices_IndexFunc_Row__table_Is_1_l0 q.1 q.2.1 q.2.2.1 q.2.2.2
noncomputable def t_slices_IndexFunc_Row__table_Is_1 (a0 : (List Rwo)) (a1 : Tbl) : T Int :=
  (T.bind (L_slices_IndexFunc_Row__table_Is_1_l0 (a0, a1, (↑a0.length : Int), (0 : Int))) fun r0 => (T.case (r0) (fun r1 => (T.ret (r1))) (fun r2 => (T.ret ((-1 : Int))))))
noncomputable def f_slices_IndexFunc_Row__table_Is_1 (a0 : (List Rwo)) (a1 : Tbl) : Option Int := (t_slices_IndexFunc_Row__table_Is_1 a0 a1).run
noncomputable def K_slices_IndexFunc_Row__table_Is_1 : List AV → Option Con := conT (.cons (.L .row) (.clo 43 (.look .tbl))) (.dt .int) fun x => f_slices_IndexFunc_Row__table_Is_1 x.1 x.2
noncomputable def S_slices_IndexFunc_Row__table_Is_1 : SE := { T := tabs, con := conOf [(43, K_table_Is_1)], own := fun f => false, gt := gtS, loop := lpOf [(3, loopT [0, 1, 7, 8] (.cons (.dt (.L .row)) (.cons (.dt (.clo 43 (.look .tbl))) (.cons (.dt .int) (.dt .int)))) [⟨.ret, [4], (.dt .int)⟩, ⟨.exit 0, [], .nil⟩] (L_slices_IndexFunc_Row__table_Is_1_l0))] }
/-! slices.ContainsFunc[[]veneer/api.Row,veneer/api.Row] -/
noncomputable def t_slices_ContainsFunc_Row__table_Is_1 (a0 : (List Rwo)) (a1 : Tbl) : T Bool :=
  (T.bind (f_slices_IndexFunc_Row__table_Is_1 a0 a1) fun r0 => (T.ret (decide (r0 ≥ (0 : Int)))))
noncomputable def f_slices_ContainsFunc_Row__table_Is_1 (a0 : (List Rwo)) (a1 : Tbl) : Option Bool := (t_slices_ContainsFunc_Row__table_Is_1 a0 a1).run
noncomputable def K_slices_ContainsFunc_Row__table_Is_1 : List AV → Option Con := conT (.cons (.L .row) (.clo 43 (.look .tbl))) (.dt .bool) fun x => f_slices_ContainsFunc_Row__table_Is_1 x.1 x.2
noncomputable def S_slices_ContainsFunc_Row__table_Is_1 : SE := { T := tabs, con := conOf [(74, K_slices_IndexFunc_Row__table_Is_1)], own := fun f => false, gt := gtS, loop := lpOf [] }
/-! cmp.isNaN[int] -/
noncomputable def t_cmp_isNaN_int (a0 : Int) : T Bool :=
  (T.ret (a0 != a0))
noncomputable def f_cmp_isNaN_int (a0 : Int) : Option Bool := (t_cmp_isNaN_int a0).run
noncomputable def K_cmp_isNaN_int : List AV → Option Con := conT .int (.dt .bool) fun x => f_cmp_isNaN_int x
noncomputable def S_cmp_isNaN_int : SE := { T := tabs, con := conOf [], own := fun f => false, gt := gtS, loop := lpOf [] }
/-! cmp.Compare[int] -/
noncomputable def t_cmp_Compare_int (a0 : Int) (a1 : Int) : T Int :=
  (T.bind (f_cmp_isNaN_int a0) fun r0 => (T.bind (f_cmp_isNaN_int a1) fun r1 => (T.ite (r0) (T.ite (r1) (T.ret ((0 : Int))) (T.ret ((-1 : Int)))) (T.ite (r1) (T.ret ((1 : Int))) (T.ite (decide (a0 < a1)) (T.ret ((-1 : Int))) (T.ite (decide (a0 > a1)) (T.ret ((1 : Int))) (T.ret ((0 : Int)))))))))
noncomputable def f_cmp_Compare_int (a0 : Int) (a1 : Int) : Option Int := (t_cmp_Compare_int a0 a1).run
noncomputable def K_cmp_Compare_int : List AV → Option Con := conT (.cons .int .int) (.dt .int) fun x => f_cmp_Compare_int x.1 x.2
noncomputable def S_cmp_Compare_int : SE := { T := tabs, con := conOf [(92, K_cmp_isNaN_int)], own := fun f => false, gt := gtS, loop := lpOf [] }
/-! cmp.isNaN[int64] -/
noncomputable def t_cmp_isNaN_int64 (a0 : Int) : T Bool :=
  (T.ret (a0 != a0))
noncomputable def f_cmp_isNaN_int64 (a0 : Int) : Option Bool := (t_cmp_isNaN_int64 a0).run
noncomputable def K_cmp_isNaN_int64 : List AV → Option Con := conT .int (.dt .bool) fun x => f_cmp_isNaN_int64 x
noncomputable def S_cmp_isNaN_int64 : SE := { T := tabs, con := conOf [], own := fun f => false, gt := gtS, loop := lpOf [] }
/-! cmp.Compare[int64] -/
noncomputable def t_cmp_Compare_int64 (a0 : Int) (a1 : Int) : T Int :=
  (T.bind (f_cmp_isNaN_int64 a0) fun r0 => (T.bind (f_cmp_isNaN_int64 a1) fun r1 => (T.ite (r0) (T.ite (r1) (T.ret ((0 : Int))) (T.ret ((-1 : Int)))) (T.ite (r1) (T.ret ((1 : Int))) (T.ite (decide (a0 < a1)) (T.ret ((-1 : Int))) (T.ite (decide (a0 > a1)) (T.ret ((1 : Int))) (T.ret ((0 : Int)))))))))
noncomputable def f_cmp_Compare_int64 (a0 : Int) (a1 : Int) : Option Int := (t_cmp_Compare_int64 a0 a1).run
noncomputable def K_cmp_Compare_int64 : List AV → Option Con := conT (.cons .int .int) (.dt .int) fun x => f_cmp_Compare_int64 x.1 x.2
noncomputable def S_cmp_Compare_int64 : SE := { T := tabs, con := conOf [(93, K_cmp_isNaN_int64)], own := fun f => false, gt := gtS, loop := lpOf [] }
/-! cmp.Or[int] -/
noncomputable def tl_cmp_Or_int_l0 (s3 : Int) (s6 : (List Int)) (s7 : Int) (s8 : Int) : T ((Int × ((List Int) × (Int × Int))) ⊕ (Int ⊕ Int)) :=
  (T.ite (decide (s8 < s7)) (T.req ((0 : Int) ≤ s8 ∧ s8 < (↑s6.length : Int)) (T.ite (s6.getD s8.toNat GT.int.nought != s3) (T.ret (Sum.inr (Sum.inl (s6.getD s8.toNat GT.int.nought)))) (T.ret (Sum.inl (s3, s6, s7, IntKind.i64.wrap (s8 + (1 : Int))))))) (T.ret (Sum.inr (Sum.inr s3))))
noncomputable def L_cmp_Or_int_l0 : (Int × ((List Int) × (Int × Int))) → Option (Int ⊕ Int) := fixT fun q => tl_cmp_Or_int_l0 q.1 q.2.1 q.2.2.1 q.2.2.2
noncomputable def t_cmp_Or_int (a0 : (List Int)) : T Int :=
  (T.bind (L_cmp_Or_int_l0 ((0 : Int), a0, (↑a0.length : Int), (0 : Int))) fun r0 => (T.case (r0) (fun r1 => (T.ret (r1))) (fun r2 => (T.ret (r2)))))
noncomputable def f_cmp_Or_int (a0 : (List Int)) : Option Int := (t_cmp_Or_int a0).run
noncomputable def K_cmp_Or_int : List AV → Option Con := conT (.L .int) (.dt .int) fun x => f_cmp_Or_int x
noncomputable def S_cmp_Or_int : SE := { T := tabs, con := conOf [], own := fun f => false, gt := gtS, loop := lpOf [(4, loopT [3, 6, 7, 8] (.cons (.dt .int) (.cons (.dt (.L .int)) (.cons (.dt .int) (.dt .int)))) [⟨.ret, [2], (.dt .int)⟩, ⟨.exit 0, [3], (.dt .int)⟩] (L_cmp_Or_int_l0))] }
/-! veneer/table.bySpot -/
noncomputable def t_table_bySpot (a0 : Rwo) (a1 : Spt) : T Int :=
  (T.bind (f_cmp_Compare_int a0.spot.branch a1.branch) fun r0 => (T.bind (f_cmp_Compare_int64 a0.spot.ino a1.ino) fun r1 => (T.bind (f_cmp_Or_int [r0, r1]) fun r2 => (T.ret (r2)))))
noncomputable def f_table_bySpot (a0 : Rwo) (a1 : Spt) : Option Int := (t_table_bySpot a0 a1).run
noncomputable def K_table_bySpot : List AV → Option Con := conT (.cons (.S .row) (.S .spt)) (.dt .int) fun x => f_table_bySpot x.1 x.2
noncomputable def S_table_bySpot : SE := { T := tabs, con := conOf [(76, K_cmp_Compare_int), (77, K_cmp_Compare_int64), (75, K_cmp_Or_int)], own := fun f => false, gt := gtS, loop := lpOf [] }
/-! veneer/table.byU -/
noncomputable def t_table_byU (a0 : Rwo) (a1 : Int) : T Int :=
  (T.bind (f_cmp_Compare_int64 a0.u a1) fun r0 => (T.ret (r0)))
noncomputable def f_table_byU (a0 : Rwo) (a1 : Int) : Option Int := (t_table_byU a0 a1).run
noncomputable def K_table_byU : List AV → Option Con := conT (.cons (.S .row) .int) (.dt .int) fun x => f_table_byU x.1 x.2
noncomputable def S_table_byU : SE := { T := tabs, con := conOf [(77, K_cmp_Compare_int64)], own := fun f => false, gt := gtS, loop := lpOf [] }
/-! veneer/table.Is -/
noncomputable def tl_table_Is_l0 (s1 : Tbl) (s35 : Int) (s36 : Int) : T ((Tbl × (Int × Int)) ⊕ (Bool ⊕ Tbl)) :=
  (T.ite (decide (s36 < s35)) (T.ite (decide (s36 > (0 : Int))) (T.req ((0 : Int) ≤ IntKind.i64.wrap (s36 - (1 : Int)) ∧ IntKind.i64.wrap (s36 - (1 : Int)) < (↑s1.rows.length : Int)) (T.req ((0 : Int) ≤ s36 ∧ s36 < (↑s1.rows.length : Int)) (T.bind (f_table_bySpot (s1.rows.getD (IntKind.i64.wrap (s36 - (1 : Int))).toNat GT.row.nought) (s1.rows.getD s36.toNat GT.row.nought).spot) fun r0 => (T.ite (decide (r0 ≥ (0 : Int))) (T.ret (Sum.inr (Sum.inl false))) (T.ret (Sum.inl (s1, s35, IntKind.i64.wrap (s36 + (1 : Int))))))))) (T.ret (Sum.inl (s1, s35, IntKind.i64.wrap (s36 + (1 : Int)))))) (T.ret (Sum.inr (Sum.inr s1))))
noncomputable def L_table_Is_l0 : (Tbl × (Int × Int)) → Option (Bool ⊕ Tbl) := fixT fun q => tl_table_Is_l0 q.1 q.2.1 q.2.2
noncomputable def tl_table_Is_l1 (s1 : Tbl) (s60 : Int) (s61 : Int) : T ((Tbl × (Int × Int)) ⊕ (Bool ⊕ Unit)) :=
  (T.ite (decide (s61 < s60)) (T.ite (decide (s61 > (0 : Int))) (T.req ((0 : Int) ≤ IntKind.i64.wrap (s61 - (1 : Int)) ∧ IntKind.i64.wrap (s61 - (1 : Int)) < (↑s1.homes.length : Int)) (T.req ((0 : Int) ≤ s61 ∧ s61 < (↑s1.homes.length : Int)) (T.bind (f_table_byU (s1.homes.getD (IntKind.i64.wrap (s61 - (1 : Int))).toNat GT.row.nought) (s1.homes.getD s61.toNat GT.row.nought).u) fun r0 => (T.ite (decide (r0 ≥ (0 : Int))) (T.ret (Sum.inr (Sum.inl false))) (T.ret (Sum.inl (s1, s60, IntKind.i64.wrap (s61 + (1 : Int))))))))) (T.ret (Sum.inl (s1, s60, IntKind.i64.wrap (s61 + (1 : Int)))))) (T.ret (Sum.inr (Sum.inr ()))))
noncomputable def L_table_Is_l1 : (Tbl × (Int × Int)) → Option (Bool ⊕ Unit) := fixT fun q => tl_table_Is_l1 q.1 q.2.1 q.2.2
noncomputable def t_table_Is (a0 : Tbl) : T Bool :=
  (T.bind (f_table_in a0.next (1 : Int)) fun r0 => (T.ite (!r0) (T.ret (false)) (T.ite (decide (a0.cursor < (0 : Int))) (T.ret (false)) (T.ite (decide (a0.cursor > (7 : Int))) (T.ret (false)) (T.bind (f_slices_ContainsFunc_Row__table_Is_1 a0.rows a0) fun r1 => (T.ite (r1) (T.ret (false)) (T.bind (f_slices_ContainsFunc_Row__table_Is_1 a0.homes a0) fun r2 => (T.ite (r2) (T.ret (false)) (T.bind (L_table_Is_l0 (a0, (↑a0.rows.length : Int), (0 : Int))) fun r3 => (T.case (r3) (fun r4 => (T.ret (r4))) (fun r5 => (T.bind (L_table_Is_l1 (r5, (↑r5.homes.length : Int), (0 : Int))) fun r6 => (T.case (r6) (fun r7 => (T.ret (r7))) (fun r8 => (T.ret (true))))))))))))))))
noncomputable def f_table_Is (a0 : Tbl) : Option Bool := (t_table_Is a0).run
noncomputable def K_table_Is : List AV → Option Con := conT (.S .tbl) (.dt .bool) fun x => f_table_Is x
noncomputable def S_table_Is : SE := { T := tabs, con := conOf [(45, K_table_in), (46, K_slices_ContainsFunc_Row__table_Is_1), (47, K_table_bySpot), (48, K_table_byU)], own := fun f => false, gt := gtS, loop := lpOf [(6, loopT [1, 35, 36] (.cons (.boxS .tbl []) (.cons (.dt .int) (.dt .int))) [⟨.ret, [2], (.dt .bool)⟩, ⟨.exit 0, [1], (.boxS .tbl [])⟩] (L_table_Is_l0)), (12, loopT [1, 60, 61] (.cons (.boxS .tbl []) (.cons (.dt .int) (.dt .int))) [⟨.ret, [2], (.dt .bool)⟩, ⟨.exit 2, [], .nil⟩] (L_table_Is_l1))] }
/-! veneer/table.four -/
noncomputable def tl_table_four_l0 (s0 : Int) (s3 : (List UInt8)) (s4 : Int) : T ((Int × ((List UInt8) × Int)) ⊕ (List UInt8)) :=
  (T.ite (decide (s4 ≥ (0 : Int))) (T.req ((0 : Int) ≤ IntKind.i64.wrap ((8 : Int) * s4)) (T.req ((0 : Int) ≤ IntKind.u8.wrap (s0.fdiv ((2 : Int) ^ min (IntKind.i64.wrap ((8 : Int) * s4)).toNat IntKind.i64.bits)) ∧ IntKind.u8.wrap (s0.fdiv ((2 : Int) ^ min (IntKind.i64.wrap ((8 : Int) * s4)).toNat IntKind.i64.bits)) < (256 : Int)) (T.req (s3.length = s3.length ∧ roomP (s3 ++ [UInt8.ofNat (IntKind.u8.wrap (s0.fdiv ((2 : Int) ^ min (IntKind.i64.wrap ((8 : Int) * s4)).toNat IntKind.i64.bits))).toNat]).length (1 : Nat)) (T.same ((s3 ++ [UInt8.ofNat (IntKind.u8.wrap (s0.fdiv ((2 : Int) ^ min (IntKind.i64.wrap ((8 : Int) * s4)).toNat IntKind.i64.bits))).toNat]).length) (T.ret (Sum.inl (s0, s3 ++ [UInt8.ofNat (IntKind.u8.wrap (s0.fdiv ((2 : Int) ^ min (IntKind.i64.wrap ((8 : Int) * s4)).toNat IntKind.i64.bits))).toNat], IntKind.i64.wrap (s4 - (1 : Int))))))))) (T.same (s3.length) (T.ret (Sum.inr s3))))
noncomputable def L_table_four_l0 : (Int × ((List UInt8) × Int)) → Option (List UInt8) := fixT fun q => tl_table_four_l0 q.1 q.2.1 q.2.2
noncomputable def t_table_four (a0 : Int) : T (List UInt8) :=
  (T.bind (L_table_four_l0 (a0, [], (3 : Int))) fun r0 => (T.same (List.length r0) (T.ret (r0))))
noncomputable def f_table_four (a0 : Int) : Option (List UInt8) := (t_table_four a0).run
noncomputable def K_table_four : List AV → Option Con := conT .int (.dt (.L .u8)) fun x => f_table_four x
noncomputable def S_table_four : SE := { T := tabs, con := conOf [], own := fun f => false, gt := gtS, loop := lpOf [(4, loopT [0, 3, 4] (.cons (.dt .int) (.cons (.gs .u8) (.dt .int))) [⟨.exit 0, [3], (.gs .u8)⟩] (L_table_four_l0))] }
/-! slices.Concat[[]byte,byte] -/
noncomputable def tl_slices_Concat_byte_l0 (s0 : (List (List UInt8))) (s3 : Int) (s9 : (List (List UInt8))) (s10 : Int) (s11 : Int) : T (((List (List UInt8)) × (Int × ((List (List UInt8)) × (Int × Int)))) ⊕ ((List (List UInt8)) × Int)) :=
  (T.ite (decide (s11 < s10)) (T.req ((0 : Int) ≤ s11 ∧ s11 < (↑s9.length : Int)) (T.ite (decide (IntKind.i64.wrap (s3 + (↑(List.length (s9.getD s11.toNat GT.bss.nought)) : Int)) < (0 : Int))) T.fail (T.ret (Sum.inl (s0, IntKind.i64.wrap (s3 + (↑(List.length (s9.getD s11.toNat GT.bss.nought)) : Int)), s9, s10, IntKind.i64.wrap (s11 + (1 : Int))))))) (T.ret (Sum.inr (s0, s3))))
noncomputable def L_slices_Concat_byte_l0 : ((List (List UInt8)) × (Int × ((List (List UInt8)) × (Int × Int)))) → Option ((List (List UInt8)) × Int) := fixT fun q => tl_slices_Concat_byte_l0 q.1 q.2.1 q.2.2.1 q.2.2.2.1 q.2.2.2.2
noncomputable def tl_slices_Concat_byte_l1 (s6 : (List UInt8)) (s25 : (List (List UInt8))) (s26 : Int) (s27 : Int) : T (((List UInt8) × ((List (List UInt8)) × (Int × Int))) ⊕ (List UInt8)) :=
  (T.ite (decide (s27 < s26)) (T.req ((0 : Int) ≤ s27 ∧ s27 < (↑s25.length : Int)) (T.req (s6.length = s6.length ∧ roomP (s6 ++ s25.getD s27.toNat GT.bss.nought).length (1 : Nat)) (T.same ((s6 ++ s25.getD s27.toNat GT.bss.nought).length) (T.ret (Sum.inl (s6 ++ s25.getD s27.toNat GT.bss.nought, s25, s26, IntKind.i64.wrap (s27 + (1 : Int)))))))) (T.same (s6.length) (T.ret (Sum.inr s6))))
noncomputable def L_slices_Concat_byte_l1 : ((List UInt8) × ((List (List UInt8)) × (Int × Int))) → Option (List UInt8) := fixT fun q => tl_slices_Concat_byte_l1 q.1 q.2.1 q.2.2.1 q.2.2.2
noncomputable def t_slices_Concat_byte (a0 : (List (List UInt8))) : T (List UInt8) :=
  (T.bind (L_slices_Concat_byte_l0 (a0, (0 : Int), a0, (↑a0.length : Int), (0 : Int))) fun r0 => (T.req ((0 : Int) ≤ r0.snd ∧ roomP (Int.toNat r0.snd) (1 : Nat)) (T.req ((0 : Nat) = (0 : Nat)) (T.bind (L_slices_Concat_byte_l1 ([], r0.fst, (↑(List.length r0.fst) : Int), (0 : Int))) fun r1 => (T.same (List.length r1) (T.ret (r1)))))))
noncomputable def f_slices_Concat_byte (a0 : (List (List UInt8))) : Option (List UInt8) := (t_slices_Concat_byte a0).run
noncomputable def K_slices_Concat_byte : List AV → Option Con := conT (.L .bss) (.gs .u8) fun x => f_slices_Concat_byte x
noncomputable def S_slices_Concat_byte : SE := { T := tabs, con := conOf [], own := fun f => false, gt := gtS, loop := lpOf [(4, loopT [0, 3, 9, 10, 11] (.cons (.dt (.L .bss)) (.cons (.dt .int) (.cons (.dt (.L .bss)) (.cons (.dt .int) (.dt .int))))) [⟨.exit 0, [0, 3], (.cons (.dt (.L .bss)) (.dt .int))⟩] (L_slices_Concat_byte_l0)), (12, loopT [6, 25, 26, 27] (.cons (.gs .u8) (.cons (.dt (.L .bss)) (.cons (.dt .int) (.dt .int)))) [⟨.exit 2, [6], (.gs .u8)⟩] (L_slices_Concat_byte_l1))], hook := hookOf [(94, H_slices_Grow_byte)] }
/-! slices.Concat[[]veneer/api.Row,veneer/api.Row] -/
noncomputable def tl_slices_Concat_Row_l0 (s0 : (List (List Rwo))) (s3 : Int) (s9 : (List (List Rwo))) (s10 : Int) (s11 : Int) : T (((List (List Rwo)) × (Int × ((List (List Rwo)) × (Int × Int)))) ⊕ ((List (List Rwo)) × Int)) :=
  (T.ite (decide (s11 < s10)) (T.req ((0 : Int) ≤ s11 ∧ s11 < (↑s9.length : Int)) (T.ite (decide (IntKind.i64.wrap (s3 + (↑(List.length (s9.getD s11.toNat GT.rss.nought)) : Int)) < (0 : Int))) T.fail (T.ret (Sum.inl (s0, IntKind.i64.wrap (s3 + (↑(List.length (s9.getD s11.toNat GT.rss.nought)) : Int)), s9, s10, IntKind.i64.wrap (s11 + (1 : Int))))))) (T.ret (Sum.inr (s0, s3))))
noncomputable def L_slices_Concat_Row_l0 : ((List (List Rwo)) × (Int × ((List (List Rwo)) × (Int × Int)))) → Option ((List (List Rwo)) × Int) := fixT fun q => tl_slices_Concat_Row_l0 q.1 q.2.1 q.2.2.1 q.2.2.2.1 q.2.2.2.2
noncomputable def tl_slices_Concat_Row_l1 (s6 : (List Rwo)) (s25 : (List (List Rwo))) (s26 : Int) (s27 : Int) : T (((List Rwo) × ((List (List Rwo)) × (Int × Int))) ⊕ (List Rwo)) :=
  (T.ite (decide (s27 < s26)) (T.req ((0 : Int) ≤ s27 ∧ s27 < (↑s25.length : Int)) (T.req (s6.length = s6.length ∧ roomP (s6 ++ s25.getD s27.toNat GT.rss.nought).length (24 : Nat)) (T.same ((s6 ++ s25.getD s27.toNat GT.rss.nought).length) (T.ret (Sum.inl (s6 ++ s25.getD s27.toNat GT.rss.nought, s25, s26, IntKind.i64.wrap (s27 + (1 : Int)))))))) (T.same (s6.length) (T.ret (Sum.inr s6))))
noncomputable def L_slices_Concat_Row_l1 : ((List Rwo) × ((List (List Rwo)) × (Int × Int))) → Option (List Rwo) := fixT fun q => tl_slices_Concat_Row_l1 q.1 q.2.1 q.2.2.1 q.2.2.2
noncomputable def t_slices_Concat_Row (a0 : (List (List Rwo))) : T (List Rwo) :=
  (T.bind (L_slices_Concat_Row_l0 (a0, (0 : Int), a0, (↑a0.length : Int), (0 : Int))) fun r0 => (T.req ((0 : Int) ≤ r0.snd ∧ roomP (Int.toNat r0.snd) (24 : Nat)) (T.req ((0 : Nat) = (0 : Nat)) (T.bind (L_slices_Concat_Row_l1 ([], r0.fst, (↑(List.length r0.fst) : Int), (0 : Int))) fun r1 => (T.same (List.length r1) (T.ret (r1)))))))
noncomputable def f_slices_Concat_Row (a0 : (List (List Rwo))) : Option (List Rwo) := (t_slices_Concat_Row a0).run
noncomputable def K_slices_Concat_Row : List AV → Option Con := conT (.L .rss) (.dt (.L .row)) fun x => f_slices_Concat_Row x
noncomputable def S_slices_Concat_Row : SE := { T := tabs, con := conOf [], own := fun f => false, gt := gtS, loop := lpOf [(4, loopT [0, 3, 9, 10, 11] (.cons (.dt (.L .rss)) (.cons (.dt .int) (.cons (.dt (.L .rss)) (.cons (.dt .int) (.dt .int))))) [⟨.exit 0, [0, 3], (.cons (.dt (.L .rss)) (.dt .int))⟩] (L_slices_Concat_Row_l0)), (12, loopT [6, 25, 26, 27] (.cons (.gs .row) (.cons (.dt (.L .rss)) (.cons (.dt .int) (.dt .int)))) [⟨.exit 2, [6], (.gs .row)⟩] (L_slices_Concat_Row_l1))], hook := hookOf [(95, H_slices_Grow_Row)] }
/-! veneer/table.Bytes -/
noncomputable def tl_table_Bytes_l0 (s3 : (List UInt8)) (s31 : (List Rwo)) (s32 : Int) (s33 : Int) : T (((List UInt8) × ((List Rwo) × (Int × Int))) ⊕ (List UInt8)) :=
  (T.ite (decide (s33 < s32)) (T.req ((0 : Int) ≤ s33 ∧ s33 < (↑s31.length : Int)) (T.req ((0 : Int) ≤ IntKind.u8.wrap (s31.getD s33.toNat GT.row.nought).spot.branch ∧ IntKind.u8.wrap (s31.getD s33.toNat GT.row.nought).spot.branch < (256 : Int)) (T.req (s3.length = s3.length ∧ roomP (s3 ++ [UInt8.ofNat (IntKind.u8.wrap (s31.getD s33.toNat GT.row.nought).spot.branch).toNat]).length (1 : Nat)) (T.bind (f_table_four (s31.getD s33.toNat GT.row.nought).spot.ino) fun r0 => (T.req ((s3 ++ [UInt8.ofNat (IntKind.u8.wrap (s31.getD s33.toNat GT.row.nought).spot.branch).toNat]).length = (s3 ++ [UInt8.ofNat (IntKind.u8.wrap (s31.getD s33.toNat GT.row.nought).spot.branch).toNat]).length ∧ roomP (s3 ++ [UInt8.ofNat (IntKind.u8.wrap (s31.getD s33.toNat GT.row.nought).spot.branch).toNat] ++ r0).length (1 : Nat)) (T.bind (f_table_four (s31.getD s33.toNat GT.row.nought).u) fun r1 => (T.req ((s3 ++ [UInt8.ofNat (IntKind.u8.wrap (s31.getD s33.toNat GT.row.nought).spot.branch).toNat] ++ r0).length = (s3 ++ [UInt8.ofNat (IntKind.u8.wrap (s31.getD s33.toNat GT.row.nought).spot.branch).toNat] ++ r0).length ∧ roomP (s3 ++ [UInt8.ofNat (IntKind.u8.wrap (s31.getD s33.toNat GT.row.nought).spot.branch).toNat] ++ r0 ++ r1).length (1 : Nat)) (T.same ((s3 ++ [UInt8.ofNat (IntKind.u8.wrap (s31.getD s33.toNat GT.row.nought).spot.branch).toNat] ++ r0 ++ r1).length) (T.ret (Sum.inl (s3 ++ [UInt8.ofNat (IntKind.u8.wrap (s31.getD s33.toNat GT.row.nought).spot.branch).toNat] ++ r0 ++ r1, s31, s32, IntKind.i64.wrap (s33 + (1 : Int))))))))))))) (T.same (s3.length) (T.ret (Sum.inr s3))))
noncomputable def L_table_Bytes_l0 : ((List UInt8) × ((List Rwo) × (Int × Int))) → Option (List UInt8) := fixT fun q => tl_table_Bytes_l0 q.1 q.2.1 q.2.2.1 q.2.2.2
noncomputable def t_table_Bytes (a0 : Tbl) : T (List UInt8) :=
  (T.bind (f_table_Is a0) fun r0 => (T.ite (!r0) (T.ret ([])) (T.bind (f_table_four a0.next) fun r1 => (T.bind (f_table_four (↑a0.rows.length : Int)) fun r2 => (T.bind (f_table_four (↑a0.homes.length : Int)) fun r3 => (T.req ((0 : Int) ≤ IntKind.u8.wrap a0.cursor ∧ IntKind.u8.wrap a0.cursor < (256 : Int)) (T.bind (f_slices_Concat_byte [r1, r2, r3, [UInt8.ofNat (IntKind.u8.wrap a0.cursor).toNat]]) fun r4 => (T.bind (f_slices_Concat_Row [a0.rows, a0.homes]) fun r5 => (T.same (List.length r4) (T.bind (L_table_Bytes_l0 (r4, r5, (↑(List.length r5) : Int), (0 : Int))) fun r6 => (T.same (List.length r6) (T.ret (r6)))))))))))))
noncomputable def f_table_Bytes (a0 : Tbl) : Option (List UInt8) := (t_table_Bytes a0).run
noncomputable def K_table_Bytes : List AV → Option Con := conT (.S .tbl) (.gs .u8) fun x => f_table_Bytes x
noncomputable def S_table_Bytes : SE := { T := tabs, con := conOf [(14, K_table_Is), (79, K_table_four), (78, K_slices_Concat_byte), (80, K_slices_Concat_Row)], own := fun f => isIn f [78], gt := gtS, loop := lpOf [(6, loopT [3, 31, 32, 33] (.cons (.gs .u8) (.cons (.dt (.L .row)) (.cons (.dt .int) (.dt .int)))) [⟨.exit 0, [3], (.gs .u8)⟩] (L_table_Bytes_l0))] }
/-! veneer/table.number -/
noncomputable def tl_table_number_l0 (s3 : Int) (s7 : (List UInt8)) (s8 : Int) (s9 : Int) : T ((Int × ((List UInt8) × (Int × Int))) ⊕ Int) :=
  (T.ite (decide (s9 < s8)) (T.req ((0 : Int) ≤ s9 ∧ s9 < (↑s7.length : Int)) (T.req ((0 : Int) ≤ (8 : Int)) (T.ret (Sum.inl (IntKind.i64.wrap (↑(BitVec.ofInt IntKind.i64.bits (IntKind.i64.wrap (s3 * (2 : Int) ^ min (Int.toNat (8 : Int)) IntKind.i64.bits)) ||| BitVec.ofInt IntKind.i64.bits (IntKind.i64.wrap (↑(UInt8.toNat (s7.getD s9.toNat GT.u8.nought)) : Int))).toNat : Int), s7, s8, IntKind.i64.wrap (s9 + (1 : Int))))))) (T.ret (Sum.inr s3)))
noncomputable def L_table_number_l0 : (Int × ((List UInt8) × (Int × Int))) → Option Int := fixT fun q => tl_table_number_l0 q.1 q.2.1 q.2.2.1 q.2.2.2
noncomputable def t_table_number (a0 : (List UInt8)) : T Int :=
  (T.req ((0 : Int) ≤ (0 : Int) ∧ (0 : Int) ≤ (4 : Int) ∧ (4 : Int) ≤ (↑a0.length : Int)) (T.bind (L_table_number_l0 ((0 : Int), List.drop (Int.toNat (0 : Int)) (List.take (Int.toNat (4 : Int)) a0), (↑(List.drop (Int.toNat (0 : Int)) (List.take (Int.toNat (4 : Int)) a0)).length : Int), (0 : Int))) fun r0 => (T.ret (r0))))
noncomputable def f_table_number (a0 : (List UInt8)) : Option Int := (t_table_number a0).run
noncomputable def K_table_number : List AV → Option Con := conT (.L .u8) (.dt .int) fun x => f_table_number x
noncomputable def S_table_number : SE := { T := tabs, con := conOf [], own := fun f => false, gt := gtS, loop := lpOf [(4, loopT [3, 7, 8, 9] (.cons (.dt .int) (.cons (.dt (.L .u8)) (.cons (.dt .int) (.dt .int)))) [⟨.exit 0, [3], (.dt .int)⟩] (L_table_number_l0))] }
theorem wt_law13_long (x : Tbl) (K : Bool → Prop) : funT (S_law13_long) Try.f12 (.S .tbl) (.dt .bool) x K = (t_law13_long x).wp K := by kernel_rfl
theorem wt_r13_row (x : (Tbl × Rwo)) (K : Bool → Prop) : funT (S_r13_row) Try.f41 (.cons (.S .tbl) (.S .row)) (.dt .bool) x K = (t_r13_row x.1 x.2).wp K := by kernel_rfl
theorem wt_r13_ahead (x : (Spt × Spt)) (K : Bool → Prop) : funT (S_r13_ahead) Try.f42 (.cons (.S .spt) (.S .spt)) (.dt .bool) x K = (t_r13_ahead x.1 x.2).wp K := by kernel_rfl
theorem wtl_r13_Is_l0 (p : (Tbl × Int)) (K : (Tbl × Int) ⊕ (Bool ⊕ Tbl) → Prop) : roundT (S_r13_Is) [1, 3] (.cons (.boxS .tbl []) (.dt .int)) [⟨.ret, [2], (.dt .bool)⟩, ⟨.exit 0, [1], (.boxS .tbl [])⟩] (loopAt Try.f13 0) p K = (tl_r13_Is_l0 p.1 p.2).wp K := by kernel_rfl
theorem wtl_r13_Is_l1 (p : (Tbl × Int)) (K : (Tbl × Int) ⊕ (Bool ⊕ Tbl) → Prop) : roundT (S_r13_Is) [1, 4] (.cons (.boxS .tbl []) (.dt .int)) [⟨.ret, [2], (.dt .bool)⟩, ⟨.exit 2, [1], (.boxS .tbl [])⟩] (loopAt Try.f13 1) p K = (tl_r13_Is_l1 p.1 p.2).wp K := by kernel_rfl
theorem wt_r13_Is (x : Tbl) (K : Bool → Prop) : funT (S_r13_Is) Try.f13 (.S .tbl) (.dt .bool) x K = (t_r13_Is x).wp K := by kernel_rfl
theorem wt_table_in (x : (Int × Int)) (K : Bool → Prop) : funT (S_table_in) Try.f45 (.cons .int .int) (.dt .bool) x K = (t_table_in x.1 x.2).wp K := by kernel_rfl
theorem wt_table_isRow (x : (Tbl × Rwo)) (K : Bool → Prop) : funT (S_table_isRow) Try.f44 (.cons (.S .tbl) (.S .row)) (.dt .bool) x K = (t_table_isRow x.1 x.2).wp K := by kernel_rfl
theorem wt_table_Is_1 (x : (Rwo × Tbl)) (K : Bool → Prop) : funT (S_table_Is_1) Try.f43 (.cons (.S .row) (.look .tbl)) (.dt .bool) x K = (t_table_Is_1 x.1 x.2).wp K := by kernel_rfl
theorem wtl_slices_IndexFunc_Row__table_Is_1_l0 (p : ((List Rwo) × (Tbl × (Int × Int)))) (K : ((List Rwo) × (Tbl × (Int × Int))) ⊕ (Int ⊕ Unit) → Prop) : roundT (S_slices_IndexFunc_Row__table_Is_1) [0, 1, 7, 8] (.cons (.dt (.L .row)) (.cons (.dt (.clo 43 (.look .tbl))) (.cons (.dt .int) (.dt .int)))) [⟨.ret, [4], (.dt .int)⟩, ⟨.exit 0, [], .nil⟩] (loopAt Try.f74 0) p K = (tl_slices_IndexFunc_Row__table_Is_1_l0 p.1 p.2.1 p.2.2.1 p.2.2.2).wp K := by kernel_rfl
theorem wt_slices_IndexFunc_Row__table_Is_1 (x : ((List Rwo) × Tbl)) (K : Int → Prop) : funT (S_slices_IndexFunc_Row__table_Is_1) Try.f74 (.cons (.L .row) (.clo 43 (.look .tbl))) (.dt .int) x K = (t_slices_IndexFunc_Row__table_Is_1 x.1 x.2).wp K := by kernel_rfl
theorem wt_slices_ContainsFunc_Row__table_Is_1 (x : ((List Rwo) × Tbl)) (K : Bool → Prop) : funT (S_slices_ContainsFunc_Row__table_Is_1) Try.f46 (.cons (.L .row) (.clo 43 (.look .tbl))) (.dt .bool) x K = (t_slices_ContainsFunc_Row__table_Is_1 x.1 x.2).wp K := by kernel_rfl
theorem wt_cmp_isNaN_int (x : Int) (K : Bool → Prop) : funT (S_cmp_isNaN_int) Try.f92 .int (.dt .bool) x K = (t_cmp_isNaN_int x).wp K := by kernel_rfl
theorem wt_cmp_Compare_int (x : (Int × Int)) (K : Int → Prop) : funT (S_cmp_Compare_int) Try.f76 (.cons .int .int) (.dt .int) x K = (t_cmp_Compare_int x.1 x.2).wp K := by kernel_rfl
theorem wt_cmp_isNaN_int64 (x : Int) (K : Bool → Prop) : funT (S_cmp_isNaN_int64) Try.f93 .int (.dt .bool) x K = (t_cmp_isNaN_int64 x).wp K := by kernel_rfl
theorem wt_cmp_Compare_int64 (x : (Int × Int)) (K : Int → Prop) : funT (S_cmp_Compare_int64) Try.f77 (.cons .int .int) (.dt .int) x K = (t_cmp_Compare_int64 x.1 x.2).wp K := by kernel_rfl
theorem wtl_cmp_Or_int_l0 (p : (Int × ((List Int) × (Int × Int)))) (K : (Int × ((List Int) × (Int × Int))) ⊕ (Int ⊕ Int) → Prop) : roundT (S_cmp_Or_int) [3, 6, 7, 8] (.cons (.dt .int) (.cons (.dt (.L .int)) (.cons (.dt .int) (.dt .int)))) [⟨.ret, [2], (.dt .int)⟩, ⟨.exit 0, [3], (.dt .int)⟩] (loopAt Try.f75 0) p K = (tl_cmp_Or_int_l0 p.1 p.2.1 p.2.2.1 p.2.2.2).wp K := by kernel_rfl
theorem wt_cmp_Or_int (x : (List Int)) (K : Int → Prop) : funT (S_cmp_Or_int) Try.f75 (.L .int) (.dt .int) x K = (t_cmp_Or_int x).wp K := by kernel_rfl
theorem wt_table_bySpot (x : (Rwo × Spt)) (K : Int → Prop) : funT (S_table_bySpot) Try.f47 (.cons (.S .row) (.S .spt)) (.dt .int) x K = (t_table_bySpot x.1 x.2).wp K := by kernel_rfl
theorem wt_table_byU (x : (Rwo × Int)) (K : Int → Prop) : funT (S_table_byU) Try.f48 (.cons (.S .row) .int) (.dt .int) x K = (t_table_byU x.1 x.2).wp K := by kernel_rfl
theorem wtl_table_Is_l0 (p : (Tbl × (Int × Int))) (K : (Tbl × (Int × Int)) ⊕ (Bool ⊕ Tbl) → Prop) : roundT (S_table_Is) [1, 35, 36] (.cons (.boxS .tbl []) (.cons (.dt .int) (.dt .int))) [⟨.ret, [2], (.dt .bool)⟩, ⟨.exit 0, [1], (.boxS .tbl [])⟩] (loopAt Try.f14 0) p K = (tl_table_Is_l0 p.1 p.2.1 p.2.2).wp K := by kernel_rfl
theorem wtl_table_Is_l1 (p : (Tbl × (Int × Int))) (K : (Tbl × (Int × Int)) ⊕ (Bool ⊕ Unit) → Prop) : roundT (S_table_Is) [1, 60, 61] (.cons (.boxS .tbl []) (.cons (.dt .int) (.dt .int))) [⟨.ret, [2], (.dt .bool)⟩, ⟨.exit 2, [], .nil⟩] (loopAt Try.f14 1) p K = (tl_table_Is_l1 p.1 p.2.1 p.2.2).wp K := by kernel_rfl
theorem wt_table_Is (x : Tbl) (K : Bool → Prop) : funT (S_table_Is) Try.f14 (.S .tbl) (.dt .bool) x K = (t_table_Is x).wp K := by kernel_rfl
theorem wtl_table_four_l0 (p : (Int × ((List UInt8) × Int))) (K : (Int × ((List UInt8) × Int)) ⊕ (List UInt8) → Prop) : roundT (S_table_four) [0, 3, 4] (.cons (.dt .int) (.cons (.gs .u8) (.dt .int))) [⟨.exit 0, [3], (.gs .u8)⟩] (loopAt Try.f79 0) p K = (tl_table_four_l0 p.1 p.2.1 p.2.2).wp K := by kernel_rfl
theorem wt_table_four (x : Int) (K : (List UInt8) → Prop) : funT (S_table_four) Try.f79 .int (.dt (.L .u8)) x K = (t_table_four x).wp K := by kernel_rfl
theorem wtl_slices_Concat_byte_l0 (p : ((List (List UInt8)) × (Int × ((List (List UInt8)) × (Int × Int))))) (K : ((List (List UInt8)) × (Int × ((List (List UInt8)) × (Int × Int)))) ⊕ ((List (List UInt8)) × Int) → Prop) : roundT (S_slices_Concat_byte) [0, 3, 9, 10, 11] (.cons (.dt (.L .bss)) (.cons (.dt .int) (.cons (.dt (.L .bss)) (.cons (.dt .int) (.dt .int))))) [⟨.exit 0, [0, 3], (.cons (.dt (.L .bss)) (.dt .int))⟩] (loopAt Try.f78 0) p K = (tl_slices_Concat_byte_l0 p.1 p.2.1 p.2.2.1 p.2.2.2.1 p.2.2.2.2).wp K := by kernel_rfl
theorem wtl_slices_Concat_byte_l1 (p : ((List UInt8) × ((List (List UInt8)) × (Int × Int)))) (K : ((List UInt8) × ((List (List UInt8)) × (Int × Int))) ⊕ (List UInt8) → Prop) : roundT (S_slices_Concat_byte) [6, 25, 26, 27] (.cons (.gs .u8) (.cons (.dt (.L .bss)) (.cons (.dt .int) (.dt .int)))) [⟨.exit 2, [6], (.gs .u8)⟩] (loopAt Try.f78 1) p K = (tl_slices_Concat_byte_l1 p.1 p.2.1 p.2.2.1 p.2.2.2).wp K := by kernel_rfl
theorem wt_slices_Concat_byte (x : (List (List UInt8))) (K : (List UInt8) → Prop) : funT (S_slices_Concat_byte) Try.f78 (.L .bss) (.gs .u8) x K = (t_slices_Concat_byte x).wp K := by kernel_rfl
theorem wtl_slices_Concat_Row_l0 (p : ((List (List Rwo)) × (Int × ((List (List Rwo)) × (Int × Int))))) (K : ((List (List Rwo)) × (Int × ((List (List Rwo)) × (Int × Int)))) ⊕ ((List (List Rwo)) × Int) → Prop) : roundT (S_slices_Concat_Row) [0, 3, 9, 10, 11] (.cons (.dt (.L .rss)) (.cons (.dt .int) (.cons (.dt (.L .rss)) (.cons (.dt .int) (.dt .int))))) [⟨.exit 0, [0, 3], (.cons (.dt (.L .rss)) (.dt .int))⟩] (loopAt Try.f80 0) p K = (tl_slices_Concat_Row_l0 p.1 p.2.1 p.2.2.1 p.2.2.2.1 p.2.2.2.2).wp K := by kernel_rfl
theorem wtl_slices_Concat_Row_l1 (p : ((List Rwo) × ((List (List Rwo)) × (Int × Int)))) (K : ((List Rwo) × ((List (List Rwo)) × (Int × Int))) ⊕ (List Rwo) → Prop) : roundT (S_slices_Concat_Row) [6, 25, 26, 27] (.cons (.gs .row) (.cons (.dt (.L .rss)) (.cons (.dt .int) (.dt .int)))) [⟨.exit 2, [6], (.gs .row)⟩] (loopAt Try.f80 1) p K = (tl_slices_Concat_Row_l1 p.1 p.2.1 p.2.2.1 p.2.2.2).wp K := by kernel_rfl
theorem wt_slices_Concat_Row (x : (List (List Rwo))) (K : (List Rwo) → Prop) : funT (S_slices_Concat_Row) Try.f80 (.L .rss) (.dt (.L .row)) x K = (t_slices_Concat_Row x).wp K := by kernel_rfl
theorem wtl_table_Bytes_l0 (p : ((List UInt8) × ((List Rwo) × (Int × Int)))) (K : ((List UInt8) × ((List Rwo) × (Int × Int))) ⊕ (List UInt8) → Prop) : roundT (S_table_Bytes) [3, 31, 32, 33] (.cons (.gs .u8) (.cons (.dt (.L .row)) (.cons (.dt .int) (.dt .int)))) [⟨.exit 0, [3], (.gs .u8)⟩] (loopAt Try.f49 0) p K = (tl_table_Bytes_l0 p.1 p.2.1 p.2.2.1 p.2.2.2).wp K := by kernel_rfl
theorem wt_table_Bytes (x : Tbl) (K : (List UInt8) → Prop) : funT (S_table_Bytes) Try.f49 (.S .tbl) (.gs .u8) x K = (t_table_Bytes x).wp K := by kernel_rfl
theorem wtl_table_number_l0 (p : (Int × ((List UInt8) × (Int × Int)))) (K : (Int × ((List UInt8) × (Int × Int))) ⊕ Int → Prop) : roundT (S_table_number) [3, 7, 8, 9] (.cons (.dt .int) (.cons (.dt (.L .u8)) (.cons (.dt .int) (.dt .int)))) [⟨.exit 0, [3], (.dt .int)⟩] (loopAt Try.f66 0) p K = (tl_table_number_l0 p.1 p.2.1 p.2.2.1 p.2.2.2).wp K := by kernel_rfl
theorem wt_table_number (x : (List UInt8)) (K : Int → Prop) : funT (S_table_number) Try.f66 (.L .u8) (.dt .int) x K = (t_table_number x).wp K := by kernel_rfl
variable [Syms]
theorem o_law13_long : ConOK Try.prog (S_law13_long) := conOK_of consOK_nil rfl
theorem c_law13_long : ConOne Try.prog 12 K_law13_long :=
  con_T (a := (.S .tbl)) (r := (.dt .bool)) (t := fun x => t_law13_long x) tyokG (o_law13_long) Try.checked.mixed ⟨Try.func12, by kernel_rfl, by kernel_rfl⟩ (loops_none (by kernel_rfl)) (by kernel_rfl) (fun x K => wt_law13_long x K)
theorem o_r13_row : ConOK Try.prog (S_r13_row) := conOK_of consOK_nil rfl
theorem c_r13_row : ConOne Try.prog 41 K_r13_row :=
  con_T (a := (.cons (.S .tbl) (.S .row))) (r := (.dt .bool)) (t := fun x => t_r13_row x.1 x.2) tyokG (o_r13_row) Try.checked.mixed ⟨Try.func41, by kernel_rfl, by kernel_rfl⟩ (loops_none (by kernel_rfl)) (by kernel_rfl) (fun x K => wt_r13_row x K)
theorem o_r13_ahead : ConOK Try.prog (S_r13_ahead) := conOK_of consOK_nil rfl
theorem c_r13_ahead : ConOne Try.prog 42 K_r13_ahead :=
  con_T (a := (.cons (.S .spt) (.S .spt))) (r := (.dt .bool)) (t := fun x => t_r13_ahead x.1 x.2) tyokG (o_r13_ahead) Try.checked.mixed ⟨Try.func42, by kernel_rfl, by kernel_rfl⟩ (loops_none (by kernel_rfl)) (by kernel_rfl) (fun x K => wt_r13_ahead x K)
theorem o_r13_Is : ConOK Try.prog (S_r13_Is) := conOK_of (consOK_cons c_r13_row (consOK_cons c_r13_ahead consOK_nil)) rfl
theorem lL_r13_Is_l0 : LoopOK Try.prog Try.f13.ntmps (loopT [1, 3] (.cons (.boxS .tbl []) (.dt .int)) [⟨.ret, [2], (.dt .bool)⟩, ⟨.exit 0, [1], (.boxS .tbl [])⟩] (L_r13_Is_l0)) (loopAt Try.f13 0) :=
  loopT_ok (live := [1, 3]) (vt := (.cons (.boxS .tbl []) (.dt .int))) (ex := [⟨.ret, [2], (.dt .bool)⟩, ⟨.exit 0, [1], (.boxS .tbl [])⟩]) tyokG (o_r13_Is) Try.checked.mixed (by kernel_rfl) (by kernel_rfl) (by kernel_rfl) (loops_nil (by kernel_rfl)) (t := fun q => tl_r13_Is_l0 q.1 q.2) (by kernel_rfl) (fun p K => wtl_r13_Is_l0 p K)
theorem lL_r13_Is_l1 : LoopOK Try.prog Try.f13.ntmps (loopT [1, 4] (.cons (.boxS .tbl []) (.dt .int)) [⟨.ret, [2], (.dt .bool)⟩, ⟨.exit 2, [1], (.boxS .tbl [])⟩] (L_r13_Is_l1)) (loopAt Try.f13 1) :=
  loopT_ok (live := [1, 4]) (vt := (.cons (.boxS .tbl []) (.dt .int))) (ex := [⟨.ret, [2], (.dt .bool)⟩, ⟨.exit 2, [1], (.boxS .tbl [])⟩]) tyokG (o_r13_Is) Try.checked.mixed (by kernel_rfl) (by kernel_rfl) (by kernel_rfl) (loops_nil (by kernel_rfl)) (t := fun q => tl_r13_Is_l1 q.1 q.2) (by kernel_rfl) (fun p K => wtl_r13_Is_l1 p K)
theorem c_r13_Is : ConOne Try.prog 13 K_r13_Is :=
  con_T (a := (.S .tbl)) (r := (.dt .bool)) (t := fun x => t_r13_Is x) tyokG (o_r13_Is) Try.checked.mixed ⟨Try.func13, by kernel_rfl, by kernel_rfl⟩ (loops_code (by kernel_rfl) (loopIn_cons (by kernel_rfl) (lL_r13_Is_l0) (loopIn_cons (by kernel_rfl) (lL_r13_Is_l1) (loopsIn_nil)))) (by kernel_rfl) (fun x K => wt_r13_Is x K)
theorem o_table_in : ConOK Try.prog (S_table_in) := conOK_of consOK_nil rfl
theorem c_table_in : ConOne Try.prog 45 K_table_in :=
  con_T (a := (.cons .int .int)) (r := (.dt .bool)) (t := fun x => t_table_in x.1 x.2) tyokG (o_table_in) Try.checked.mixed ⟨Try.func45, by kernel_rfl, by kernel_rfl⟩ (loops_none (by kernel_rfl)) (by kernel_rfl) (fun x K => wt_table_in x K)
theorem o_table_isRow : ConOK Try.prog (S_table_isRow) := conOK_of (consOK_cons c_table_in consOK_nil) rfl
theorem c_table_isRow : ConOne Try.prog 44 K_table_isRow :=
  con_T (a := (.cons (.S .tbl) (.S .row))) (r := (.dt .bool)) (t := fun x => t_table_isRow x.1 x.2) tyokG (o_table_isRow) Try.checked.mixed ⟨Try.func44, by kernel_rfl, by kernel_rfl⟩ (loops_none (by kernel_rfl)) (by kernel_rfl) (fun x K => wt_table_isRow x K)
theorem o_table_Is_1 : ConOK Try.prog (S_table_Is_1) := conOK_of (consOK_cons c_table_isRow consOK_nil) rfl
theorem c_table_Is_1 : ConOne Try.prog 43 K_table_Is_1 :=
  con_T (a := (.cons (.S .row) (.look .tbl))) (r := (.dt .bool)) (t := fun x => t_table_Is_1 x.1 x.2) tyokG (o_table_Is_1) Try.checked.mixed ⟨Try.func43, by kernel_rfl, by kernel_rfl⟩ (loops_none (by kernel_rfl)) (by kernel_rfl) (fun x K => wt_table_Is_1 x K)
theorem o_slices_IndexFunc_Row__table_Is_1 : ConOK Try.prog (S_slices_IndexFunc_Row__table_Is_1) := conOK_of (consOK_cons c_table_Is_1 consOK_nil) rfl
theorem lL_slices_IndexFunc_Row__table_Is_1_l0 : LoopOK Try.prog Try.f74.ntmps (loopT [0, 1, 7, 8] (.cons (.dt (.L .row)) (.cons (.dt (.clo 43 (.look .tbl))) (.cons (.dt .int) (.dt .int)))) [⟨.ret, [4], (.dt .int)⟩, ⟨.exit 0, [], .nil⟩] (L_slices_IndexFunc_Row__table_Is_1_l0)) (loopAt Try.f74 0) :=
  loopT_ok (live := [0, 1, 7, 8]) (vt := (.cons (.dt (.L .row)) (.cons (.dt (.clo 43 (.look .tbl))) (.cons (.dt .int) (.dt .int))))) (ex := [⟨.ret, [4], (.dt .int)⟩, ⟨.exit 0, [], .nil⟩]) tyokG (o_slices_IndexFunc_Row__table_Is_1) Try.checked.mixed (by kernel_rfl) (by kernel_rfl) (by kernel_rfl) (loops_nil (by kernel_rfl)) (t := fun q => tl_slices_IndexFunc_Row__table_Is_1_l0 q.1 q.2.1 q.2.2.1 q.2.2.2) (by kernel_rfl) (fun p K => wtl_slices_IndexFunc_Row__table_Is_1_l0 p K)
theorem c_slices_IndexFunc_Row__table_Is_1 : ConOne Try.prog 74 K_slices_IndexFunc_Row__table_Is_1 :=
  con_T (a := (.cons (.L .row) (.clo 43 (.look .tbl)))) (r := (.dt .int)) (t := fun x => t_slices_IndexFunc_Row__table_Is_1 x.1 x.2) tyokG (o_slices_IndexFunc_Row__table_Is_1) Try.checked.mixed ⟨Try.func74, by kernel_rfl, by kernel_rfl⟩ (loops_code (by kernel_rfl) (loopIn_cons (by kernel_rfl) (lL_slices_IndexFunc_Row__table_Is_1_l0) (loopsIn_nil))) (by kernel_rfl) (fun x K => wt_slices_IndexFunc_Row__table_Is_1 x K)
theorem o_slices_ContainsFunc_Row__table_Is_1 : ConOK Try.prog (S_slices_ContainsFunc_Row__table_Is_1) := conOK_of (consOK_cons c_slices_IndexFunc_Row__table_Is_1 consOK_nil) rfl
theorem c_slices_ContainsFunc_Row__table_Is_1 : ConOne Try.prog 46 K_slices_ContainsFunc_Row__table_Is_1 :=
  con_T (a := (.cons (.L .row) (.clo 43 (.look .tbl)))) (r := (.dt .bool)) (t := fun x => t_slices_ContainsFunc_Row__table_Is_1 x.1 x.2) tyokG (o_slices_ContainsFunc_Row__table_Is_1) Try.checked.mixed ⟨Try.func46, by kernel_rfl, by kernel_rfl⟩ (loops_none (by kernel_rfl)) (by kernel_rfl) (fun x K => wt_slices_ContainsFunc_Row__table_Is_1 x K)
theorem o_cmp_isNaN_int : ConOK Try.prog (S_cmp_isNaN_int) := conOK_of consOK_nil rfl
theorem c_cmp_isNaN_int : ConOne Try.prog 92 K_cmp_isNaN_int :=
  con_T (a := .int) (r := (.dt .bool)) (t := fun x => t_cmp_isNaN_int x) tyokG (o_cmp_isNaN_int) Try.checked.mixed ⟨Try.func92, by kernel_rfl, by kernel_rfl⟩ (loops_none (by kernel_rfl)) (by kernel_rfl) (fun x K => wt_cmp_isNaN_int x K)
theorem o_cmp_Compare_int : ConOK Try.prog (S_cmp_Compare_int) := conOK_of (consOK_cons c_cmp_isNaN_int consOK_nil) rfl
theorem c_cmp_Compare_int : ConOne Try.prog 76 K_cmp_Compare_int :=
  con_T (a := (.cons .int .int)) (r := (.dt .int)) (t := fun x => t_cmp_Compare_int x.1 x.2) tyokG (o_cmp_Compare_int) Try.checked.mixed ⟨Try.func76, by kernel_rfl, by kernel_rfl⟩ (loops_none (by kernel_rfl)) (by kernel_rfl) (fun x K => wt_cmp_Compare_int x K)
theorem o_cmp_isNaN_int64 : ConOK Try.prog (S_cmp_isNaN_int64) := conOK_of consOK_nil rfl
theorem c_cmp_isNaN_int64 : ConOne Try.prog 93 K_cmp_isNaN_int64 :=
  con_T (a := .int) (r := (.dt .bool)) (t := fun x => t_cmp_isNaN_int64 x) tyokG (o_cmp_isNaN_int64) Try.checked.mixed ⟨Try.func93, by kernel_rfl, by kernel_rfl⟩ (loops_none (by kernel_rfl)) (by kernel_rfl) (fun x K => wt_cmp_isNaN_int64 x K)
theorem o_cmp_Compare_int64 : ConOK Try.prog (S_cmp_Compare_int64) := conOK_of (consOK_cons c_cmp_isNaN_int64 consOK_nil) rfl
theorem c_cmp_Compare_int64 : ConOne Try.prog 77 K_cmp_Compare_int64 :=
  con_T (a := (.cons .int .int)) (r := (.dt .int)) (t := fun x => t_cmp_Compare_int64 x.1 x.2) tyokG (o_cmp_Compare_int64) Try.checked.mixed ⟨Try.func77, by kernel_rfl, by kernel_rfl⟩ (loops_none (by kernel_rfl)) (by kernel_rfl) (fun x K => wt_cmp_Compare_int64 x K)
theorem o_cmp_Or_int : ConOK Try.prog (S_cmp_Or_int) := conOK_of consOK_nil rfl
theorem lL_cmp_Or_int_l0 : LoopOK Try.prog Try.f75.ntmps (loopT [3, 6, 7, 8] (.cons (.dt .int) (.cons (.dt (.L .int)) (.cons (.dt .int) (.dt .int)))) [⟨.ret, [2], (.dt .int)⟩, ⟨.exit 0, [3], (.dt .int)⟩] (L_cmp_Or_int_l0)) (loopAt Try.f75 0) :=
  loopT_ok (live := [3, 6, 7, 8]) (vt := (.cons (.dt .int) (.cons (.dt (.L .int)) (.cons (.dt .int) (.dt .int))))) (ex := [⟨.ret, [2], (.dt .int)⟩, ⟨.exit 0, [3], (.dt .int)⟩]) tyokG (o_cmp_Or_int) Try.checked.mixed (by kernel_rfl) (by kernel_rfl) (by kernel_rfl) (loops_nil (by kernel_rfl)) (t := fun q => tl_cmp_Or_int_l0 q.1 q.2.1 q.2.2.1 q.2.2.2) (by kernel_rfl) (fun p K => wtl_cmp_Or_int_l0 p K)
theorem c_cmp_Or_int : ConOne Try.prog 75 K_cmp_Or_int :=
  con_T (a := (.L .int)) (r := (.dt .int)) (t := fun x => t_cmp_Or_int x) tyokG (o_cmp_Or_int) Try.checked.mixed ⟨Try.func75, by kernel_rfl, by kernel_rfl⟩ (loops_code (by kernel_rfl) (loopIn_cons (by kernel_rfl) (lL_cmp_Or_int_l0) (loopsIn_nil))) (by kernel_rfl) (fun x K => wt_cmp_Or_int x K)
theorem o_table_bySpot : ConOK Try.prog (S_table_bySpot) := conOK_of (consOK_cons c_cmp_Compare_int (consOK_cons c_cmp_Compare_int64 (consOK_cons c_cmp_Or_int consOK_nil))) rfl
theorem c_table_bySpot : ConOne Try.prog 47 K_table_bySpot :=
  con_T (a := (.cons (.S .row) (.S .spt))) (r := (.dt .int)) (t := fun x => t_table_bySpot x.1 x.2) tyokG (o_table_bySpot) Try.checked.mixed ⟨Try.func47, by kernel_rfl, by kernel_rfl⟩ (loops_none (by kernel_rfl)) (by kernel_rfl) (fun x K => wt_table_bySpot x K)
theorem o_table_byU : ConOK Try.prog (S_table_byU) := conOK_of (consOK_cons c_cmp_Compare_int64 consOK_nil) rfl
theorem c_table_byU : ConOne Try.prog 48 K_table_byU :=
  con_T (a := (.cons (.S .row) .int)) (r := (.dt .int)) (t := fun x => t_table_byU x.1 x.2) tyokG (o_table_byU) Try.checked.mixed ⟨Try.func48, by kernel_rfl, by kernel_rfl⟩ (loops_none (by kernel_rfl)) (by kernel_rfl) (fun x K => wt_table_byU x K)
theorem o_table_Is : ConOK Try.prog (S_table_Is) := conOK_of (consOK_cons c_table_in (consOK_cons c_slices_ContainsFunc_Row__table_Is_1 (consOK_cons c_table_bySpot (consOK_cons c_table_byU consOK_nil)))) rfl
theorem lL_table_Is_l0 : LoopOK Try.prog Try.f14.ntmps (loopT [1, 35, 36] (.cons (.boxS .tbl []) (.cons (.dt .int) (.dt .int))) [⟨.ret, [2], (.dt .bool)⟩, ⟨.exit 0, [1], (.boxS .tbl [])⟩] (L_table_Is_l0)) (loopAt Try.f14 0) :=
  loopT_ok (live := [1, 35, 36]) (vt := (.cons (.boxS .tbl []) (.cons (.dt .int) (.dt .int)))) (ex := [⟨.ret, [2], (.dt .bool)⟩, ⟨.exit 0, [1], (.boxS .tbl [])⟩]) tyokG (o_table_Is) Try.checked.mixed (by kernel_rfl) (by kernel_rfl) (by kernel_rfl) (loops_nil (by kernel_rfl)) (t := fun q => tl_table_Is_l0 q.1 q.2.1 q.2.2) (by kernel_rfl) (fun p K => wtl_table_Is_l0 p K)
theorem lL_table_Is_l1 : LoopOK Try.prog Try.f14.ntmps (loopT [1, 60, 61] (.cons (.boxS .tbl []) (.cons (.dt .int) (.dt .int))) [⟨.ret, [2], (.dt .bool)⟩, ⟨.exit 2, [], .nil⟩] (L_table_Is_l1)) (loopAt Try.f14 1) :=
  loopT_ok (live := [1, 60, 61]) (vt := (.cons (.boxS .tbl []) (.cons (.dt .int) (.dt .int)))) (ex := [⟨.ret, [2], (.dt .bool)⟩, ⟨.exit 2, [], .nil⟩]) tyokG (o_table_Is) Try.checked.mixed (by kernel_rfl) (by kernel_rfl) (by kernel_rfl) (loops_nil (by kernel_rfl)) (t := fun q => tl_table_Is_l1 q.1 q.2.1 q.2.2) (by kernel_rfl) (fun p K => wtl_table_Is_l1 p K)
theorem c_table_Is : ConOne Try.prog 14 K_table_Is :=
  con_T (a := (.S .tbl)) (r := (.dt .bool)) (t := fun x => t_table_Is x) tyokG (o_table_Is) Try.checked.mixed ⟨Try.func14, by kernel_rfl, by kernel_rfl⟩ (loops_code (by kernel_rfl) (loopIn_cons (by kernel_rfl) (lL_table_Is_l0) (loopIn_cons (by kernel_rfl) (lL_table_Is_l1) (loopsIn_nil)))) (by kernel_rfl) (fun x K => wt_table_Is x K)
theorem o_table_four : ConOK Try.prog (S_table_four) := conOK_of consOK_nil rfl
theorem lL_table_four_l0 : LoopOK Try.prog Try.f79.ntmps (loopT [0, 3, 4] (.cons (.dt .int) (.cons (.gs .u8) (.dt .int))) [⟨.exit 0, [3], (.gs .u8)⟩] (L_table_four_l0)) (loopAt Try.f79 0) :=
  loopT_ok (live := [0, 3, 4]) (vt := (.cons (.dt .int) (.cons (.gs .u8) (.dt .int)))) (ex := [⟨.exit 0, [3], (.gs .u8)⟩]) tyokG (o_table_four) Try.checked.mixed (by kernel_rfl) (by kernel_rfl) (by kernel_rfl) (loops_nil (by kernel_rfl)) (t := fun q => tl_table_four_l0 q.1 q.2.1 q.2.2) (by kernel_rfl) (fun p K => wtl_table_four_l0 p K)
theorem c_table_four : ConOne Try.prog 79 K_table_four :=
  con_T (a := .int) (r := (.dt (.L .u8))) (t := fun x => t_table_four x) tyokG (o_table_four) Try.checked.mixed ⟨Try.func79, by kernel_rfl, by kernel_rfl⟩ (loops_code (by kernel_rfl) (loopIn_cons (by kernel_rfl) (lL_table_four_l0) (loopsIn_nil))) (by kernel_rfl) (fun x K => wt_table_four x K)
theorem o_slices_Concat_byte : ConOK Try.prog (S_slices_Concat_byte) := conOK_of consOK_nil rfl (hookOK_of (hooks_cons h_slices_Grow_byte hooks_nil) rfl)
theorem lL_slices_Concat_byte_l0 : LoopOK Try.prog Try.f78.ntmps (loopT [0, 3, 9, 10, 11] (.cons (.dt (.L .bss)) (.cons (.dt .int) (.cons (.dt (.L .bss)) (.cons (.dt .int) (.dt .int))))) [⟨.exit 0, [0, 3], (.cons (.dt (.L .bss)) (.dt .int))⟩] (L_slices_Concat_byte_l0)) (loopAt Try.f78 0) :=
  loopT_ok (live := [0, 3, 9, 10, 11]) (vt := (.cons (.dt (.L .bss)) (.cons (.dt .int) (.cons (.dt (.L .bss)) (.cons (.dt .int) (.dt .int)))))) (ex := [⟨.exit 0, [0, 3], (.cons (.dt (.L .bss)) (.dt .int))⟩]) tyokG (o_slices_Concat_byte) Try.checked.mixed (by kernel_rfl) (by kernel_rfl) (by kernel_rfl) (loops_nil (by kernel_rfl)) (t := fun q => tl_slices_Concat_byte_l0 q.1 q.2.1 q.2.2.1 q.2.2.2.1 q.2.2.2.2) (by kernel_rfl) (fun p K => wtl_slices_Concat_byte_l0 p K)
theorem lL_slices_Concat_byte_l1 : LoopOK Try.prog Try.f78.ntmps (loopT [6, 25, 26, 27] (.cons (.gs .u8) (.cons (.dt (.L .bss)) (.cons (.dt .int) (.dt .int)))) [⟨.exit 2, [6], (.gs .u8)⟩] (L_slices_Concat_byte_l1)) (loopAt Try.f78 1) :=
  loopT_ok (live := [6, 25, 26, 27]) (vt := (.cons (.gs .u8) (.cons (.dt (.L .bss)) (.cons (.dt .int) (.dt .int))))) (ex := [⟨.exit 2, [6], (.gs .u8)⟩]) tyokG (o_slices_Concat_byte) Try.checked.mixed (by kernel_rfl) (by kernel_rfl) (by kernel_rfl) (loops_nil (by kernel_rfl)) (t := fun q => tl_slices_Concat_byte_l1 q.1 q.2.1 q.2.2.1 q.2.2.2) (by kernel_rfl) (fun p K => wtl_slices_Concat_byte_l1 p K)
theorem c_slices_Concat_byte : ConOne Try.prog 78 K_slices_Concat_byte :=
  con_T (a := (.L .bss)) (r := (.gs .u8)) (t := fun x => t_slices_Concat_byte x) tyokG (o_slices_Concat_byte) Try.checked.mixed ⟨Try.func78, by kernel_rfl, by kernel_rfl⟩ (loops_code (by kernel_rfl) (loopIn_cons (by kernel_rfl) (lL_slices_Concat_byte_l0) (loopIn_cons (by kernel_rfl) (lL_slices_Concat_byte_l1) (loopsIn_nil)))) (by kernel_rfl) (fun x K => wt_slices_Concat_byte x K)
theorem o_slices_Concat_Row : ConOK Try.prog (S_slices_Concat_Row) := conOK_of consOK_nil rfl (hookOK_of (hooks_cons h_slices_Grow_Row hooks_nil) rfl)
theorem lL_slices_Concat_Row_l0 : LoopOK Try.prog Try.f80.ntmps (loopT [0, 3, 9, 10, 11] (.cons (.dt (.L .rss)) (.cons (.dt .int) (.cons (.dt (.L .rss)) (.cons (.dt .int) (.dt .int))))) [⟨.exit 0, [0, 3], (.cons (.dt (.L .rss)) (.dt .int))⟩] (L_slices_Concat_Row_l0)) (loopAt Try.f80 0) :=
  loopT_ok (live := [0, 3, 9, 10, 11]) (vt := (.cons (.dt (.L .rss)) (.cons (.dt .int) (.cons (.dt (.L .rss)) (.cons (.dt .int) (.dt .int)))))) (ex := [⟨.exit 0, [0, 3], (.cons (.dt (.L .rss)) (.dt .int))⟩]) tyokG (o_slices_Concat_Row) Try.checked.mixed (by kernel_rfl) (by kernel_rfl) (by kernel_rfl) (loops_nil (by kernel_rfl)) (t := fun q => tl_slices_Concat_Row_l0 q.1 q.2.1 q.2.2.1 q.2.2.2.1 q.2.2.2.2) (by kernel_rfl) (fun p K => wtl_slices_Concat_Row_l0 p K)
theorem lL_slices_Concat_Row_l1 : LoopOK Try.prog Try.f80.ntmps (loopT [6, 25, 26, 27] (.cons (.gs .row) (.cons (.dt (.L .rss)) (.cons (.dt .int) (.dt .int)))) [⟨.exit 2, [6], (.gs .row)⟩] (L_slices_Concat_Row_l1)) (loopAt Try.f80 1) :=
  loopT_ok (live := [6, 25, 26, 27]) (vt := (.cons (.gs .row) (.cons (.dt (.L .rss)) (.cons (.dt .int) (.dt .int))))) (ex := [⟨.exit 2, [6], (.gs .row)⟩]) tyokG (o_slices_Concat_Row) Try.checked.mixed (by kernel_rfl) (by kernel_rfl) (by kernel_rfl) (loops_nil (by kernel_rfl)) (t := fun q => tl_slices_Concat_Row_l1 q.1 q.2.1 q.2.2.1 q.2.2.2) (by kernel_rfl) (fun p K => wtl_slices_Concat_Row_l1 p K)
theorem c_slices_Concat_Row : ConOne Try.prog 80 K_slices_Concat_Row :=
  con_T (a := (.L .rss)) (r := (.dt (.L .row))) (t := fun x => t_slices_Concat_Row x) tyokG (o_slices_Concat_Row) Try.checked.mixed ⟨Try.func80, by kernel_rfl, by kernel_rfl⟩ (loops_code (by kernel_rfl) (loopIn_cons (by kernel_rfl) (lL_slices_Concat_Row_l0) (loopIn_cons (by kernel_rfl) (lL_slices_Concat_Row_l1) (loopsIn_nil)))) (by kernel_rfl) (fun x K => wt_slices_Concat_Row x K)
theorem o_table_Bytes : ConOK Try.prog (S_table_Bytes) := conOK_of (consOK_cons c_table_Is (consOK_cons c_table_four (consOK_cons c_slices_Concat_byte (consOK_cons c_slices_Concat_Row consOK_nil)))) rfl
theorem lL_table_Bytes_l0 : LoopOK Try.prog Try.f49.ntmps (loopT [3, 31, 32, 33] (.cons (.gs .u8) (.cons (.dt (.L .row)) (.cons (.dt .int) (.dt .int)))) [⟨.exit 0, [3], (.gs .u8)⟩] (L_table_Bytes_l0)) (loopAt Try.f49 0) :=
  loopT_ok (live := [3, 31, 32, 33]) (vt := (.cons (.gs .u8) (.cons (.dt (.L .row)) (.cons (.dt .int) (.dt .int))))) (ex := [⟨.exit 0, [3], (.gs .u8)⟩]) tyokG (o_table_Bytes) Try.checked.mixed (by kernel_rfl) (by kernel_rfl) (by kernel_rfl) (loops_nil (by kernel_rfl)) (t := fun q => tl_table_Bytes_l0 q.1 q.2.1 q.2.2.1 q.2.2.2) (by kernel_rfl) (fun p K => wtl_table_Bytes_l0 p K)
theorem c_table_Bytes : ConOne Try.prog 49 K_table_Bytes :=
  con_T (a := (.S .tbl)) (r := (.gs .u8)) (t := fun x => t_table_Bytes x) tyokG (o_table_Bytes) Try.checked.mixed ⟨Try.func49, by kernel_rfl, by kernel_rfl⟩ (loops_code (by kernel_rfl) (loopIn_cons (by kernel_rfl) (lL_table_Bytes_l0) (loopsIn_nil))) (by kernel_rfl) (fun x K => wt_table_Bytes x K)
theorem o_table_number : ConOK Try.prog (S_table_number) := conOK_of consOK_nil rfl
theorem lL_table_number_l0 : LoopOK Try.prog Try.f66.ntmps (loopT [3, 7, 8, 9] (.cons (.dt .int) (.cons (.dt (.L .u8)) (.cons (.dt .int) (.dt .int)))) [⟨.exit 0, [3], (.dt .int)⟩] (L_table_number_l0)) (loopAt Try.f66 0) :=
  loopT_ok (live := [3, 7, 8, 9]) (vt := (.cons (.dt .int) (.cons (.dt (.L .u8)) (.cons (.dt .int) (.dt .int))))) (ex := [⟨.exit 0, [3], (.dt .int)⟩]) tyokG (o_table_number) Try.checked.mixed (by kernel_rfl) (by kernel_rfl) (by kernel_rfl) (loops_nil (by kernel_rfl)) (t := fun q => tl_table_number_l0 q.1 q.2.1 q.2.2.1 q.2.2.2) (by kernel_rfl) (fun p K => wtl_table_number_l0 p K)
theorem c_table_number : ConOne Try.prog 66 K_table_number :=
  con_T (a := (.L .u8)) (r := (.dt .int)) (t := fun x => t_table_number x) tyokG (o_table_number) Try.checked.mixed ⟨Try.func66, by kernel_rfl, by kernel_rfl⟩ (loops_code (by kernel_rfl) (loopIn_cons (by kernel_rfl) (lL_table_number_l0) (loopsIn_nil))) (by kernel_rfl) (fun x K => wt_table_number x K)
end Go.Proofs.Ytkdcjfnmmmmocaa.VS
