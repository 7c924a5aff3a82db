/- What functions answer, by their texts. Printed by a program of this work. Conditions: none. -/
import Derived.Test.YtjichafmpanegaaYA1
import Derived.KernelRfl
namespace Go.Proofs.Ytjichafmpanegaa.VS
set_option maxRecDepth 100000
set_option maxHeartbeats 0
set_option linter.unusedVariables false
/-! veneer/seen.Limit -/
noncomputable def t_seen_Limit (a0 : Wld) (a1 : (List Spt)) (a2 : Str) : T Int :=
  (T.bind (f_seen_scan a0 a1 a2) fun r0 => (T.ret (r0.snd)))
noncomputable def f_seen_Limit (a0 : Wld) (a1 : (List Spt)) (a2 : Str) : Option Int := (t_seen_Limit a0 a1 a2).run
noncomputable def K_seen_Limit : List AV → Option Con := conT (.cons (.S .wld) (.cons (.L .spt) .str)) (.dt .int) fun x => f_seen_Limit x.1 x.2.1 x.2.2
noncomputable def S_seen_Limit : SE := { T := tabs, con := conOf [(41, K_seen_scan)], own := fun f => false, gt := gtS, loop := lpOf [] }
/-! veneer/seen.Seen -/
noncomputable def t_seen_Seen (a0 : Wld) (a1 : (List Spt)) (a2 : Str) : T (List Spt) :=
  (T.bind (f_seen_scan a0 a1 a2) fun r0 => (T.ret (r0.fst)))
noncomputable def f_seen_Seen (a0 : Wld) (a1 : (List Spt)) (a2 : Str) : Option (List Spt) := (t_seen_Seen a0 a1 a2).run
noncomputable def K_seen_Seen : List AV → Option Con := conT (.cons (.S .wld) (.cons (.L .spt) .str)) (.dt (.L .spt)) fun x => f_seen_Seen x.1 x.2.1 x.2.2
noncomputable def S_seen_Seen : SE := { T := tabs, con := conOf [(41, K_seen_scan)], own := fun f => false, gt := gtS, loop := lpOf [] }
/-! veneer/walk.Find -/
noncomputable def tl_walk_Find_l0 (s2 : Wld) (s4 : (List Spt)) (s5 : Int) (s19 : (List Str)) (s20 : Int) (s21 : Int) : T ((Wld × ((List Spt) × (Int × ((List Str) × (Int × Int))))) ⊕ (((List Spt) × (Int × Int)) ⊕ ((List Spt) × Int))) :=
  (T.ite (decide (s21 < s20)) (T.req ((0 : Int) ≤ s21 ∧ s21 < (↑s19.length : Int)) (T.req ((0 : Int) ≤ (0 : Int) ∧ (0 : Int) < (↑s4.length : Int)) (T.bind (f_walk_IsDir s2 (s4.getD (Int.toNat (0 : Int)) GT.spt.nought)) fun r0 => (T.ite (!r0) (T.ret (Sum.inr (Sum.inl ([], (0 : Int), (4 : Int))))) (T.bind (f_seen_Limit s2 s4 (s19.getD s21.toNat GT.str.nought)) fun r1 => (T.bind (f_seen_Seen s2 s4 (s19.getD s21.toNat GT.str.nought)) fun r2 => (T.ite ((↑(List.length r2) : Int) == (0 : Int)) (T.ret (Sum.inr (Sum.inl ([], (0 : Int), (2 : Int))))) (T.ret (Sum.inl (s2, r2, if r1 < s5 then r1 else s5, s19, s20, IntKind.i64.wrap (s21 + (1 : Int)))))))))))) (T.ret (Sum.inr (Sum.inr (s4, s5)))))
noncomputable def L_walk_Find_l0 : (Wld × ((List Spt) × (Int × ((List Str) × (Int × Int))))) → Option (((List Spt) × (Int × Int)) ⊕ ((List Spt) × Int)) := fixT fun q => tl_walk_Find_l0 q.1 q.2.1 q.2.2.1 q.2.2.2.1 q.2.2.2.2.1 q.2.2.2.2.2
noncomputable def t_walk_Find (a0 : Wld) (a1 : (List Str)) : T ((List Spt) × (Int × Int)) :=
  (T.ite ((↑a0.disks.length : Int) == (0 : Int)) (T.ret (([], (0 : Int), (2 : Int)))) (T.bind (f_seen_Roots a0) fun r0 => (T.bind (L_walk_Find_l0 (a0, r0, IntKind.i64.wrap ((↑a0.disks.length : Int) - (1 : Int)), a1, (↑a1.length : Int), (0 : Int))) fun r1 => (T.case (r1) (fun r2 => (T.ret ((r2.fst, r2.snd.fst, r2.snd.snd)))) (fun r3 => (T.ret ((r3.fst, r3.snd, (0 : Int)))))))))
noncomputable def f_walk_Find (a0 : Wld) (a1 : (List Str)) : Option ((List Spt) × (Int × Int)) := (t_walk_Find a0 a1).run
noncomputable def K_walk_Find : List AV → Option Con := conT (.cons (.S .wld) (.L .str)) (.cons (.dt (.L .spt)) (.cons (.dt .int) (.dt .int))) fun x => f_walk_Find x.1 x.2
noncomputable def S_walk_Find : SE := { T := tabs, con := conOf [(20, K_seen_Roots), (13, K_walk_IsDir), (21, K_seen_Limit), (22, K_seen_Seen)], own := fun f => false, gt := gtS, loop := lpOf [(6, loopT [2, 4, 5, 19, 20, 21] (.cons (.boxS .wld []) (.cons (.dt (.L .spt)) (.cons (.dt .int) (.cons (.dt (.L .str)) (.cons (.dt .int) (.dt .int)))))) [⟨.ret, [4, 5, 6], (.cons (.dt (.L .spt)) (.cons (.dt .int) (.dt .int)))⟩, ⟨.exit 0, [4, 5], (.cons (.dt (.L .spt)) (.dt .int))⟩] (L_walk_Find_l0))] }
/-! veneer/veneerref11.Roots -/
noncomputable def tl_r11_Roots_l0 (s1 : Wld) (s3 : (List Spt)) (s4 : Int) : T ((Wld × ((List Spt) × Int)) ⊕ (List Spt)) :=
  (T.ite (decide (s4 < (↑s1.disks.length : Int))) (T.req (s3.length = s3.length ∧ roomP (s3 ++ [Spt.mk s4 (1 : Int)]).length (16 : Nat)) (T.same ((s3 ++ [Spt.mk s4 (1 : Int)]).length) (T.ret (Sum.inl (s1, s3 ++ [Spt.mk s4 (1 : Int)], IntKind.i64.wrap (s4 + (1 : Int))))))) (T.same (s3.length) (T.ret (Sum.inr s3))))
noncomputable def L_r11_Roots_l0 : (Wld × ((List Spt) × Int)) → Option (List Spt) := fixT fun q => tl_r11_Roots_l0 q.1 q.2.1 q.2.2
noncomputable def t_r11_Roots (a0 : Wld) : T (List Spt) :=
  (T.bind (L_r11_Roots_l0 (a0, [], (0 : Int))) fun r0 => (T.same (List.length r0) (T.ret (r0))))
noncomputable def f_r11_Roots (a0 : Wld) : Option (List Spt) := (t_r11_Roots a0).run
noncomputable def K_r11_Roots : List AV → Option Con := conT (.S .wld) (.dt (.L .spt)) fun x => f_r11_Roots x
noncomputable def S_r11_Roots : SE := { T := tabs, con := conOf [], own := fun f => false, gt := gtS, loop := lpOf [(4, loopT [1, 3, 4] (.cons (.boxS .wld []) (.cons (.gs .spt) (.dt .int))) [⟨.exit 0, [3], (.gs .spt)⟩] (L_r11_Roots_l0))] }
/-! veneer/veneerref12.Node -/
noncomputable def t_r12_Node (a0 : Wld) (a1 : Spt) : T Nod :=
  (T.ite (decide (a1.branch < (0 : Int))) (T.ret (Nod.mk (0 : Int) (0 : Int) (0 : Int) (0 : Int) (Fil.mk (0 : Int) []) [] [])) (T.ite (decide (a1.branch ≥ (↑a0.disks.length : Int))) (T.ret (Nod.mk (0 : Int) (0 : Int) (0 : Int) (0 : Int) (Fil.mk (0 : Int) []) [] [])) (T.req ((0 : Int) ≤ a1.branch ∧ a1.branch < (↑a0.disks.length : Int)) (T.bind (f_r3_Get (a0.disks.getD a1.branch.toNat GT.dsk.nought) a1.ino) fun r0 => (T.ret (r0.fst))))))
noncomputable def f_r12_Node (a0 : Wld) (a1 : Spt) : Option Nod := (t_r12_Node a0 a1).run
noncomputable def K_r12_Node : List AV → Option Con := conT (.cons (.S .wld) (.S .spt)) (.dt (.S .nod)) fun x => f_r12_Node x.1 x.2
noncomputable def S_r12_Node : SE := { T := tabs, con := conOf [(32, K_r3_Get)], own := fun f => false, gt := gtS, loop := lpOf [] }
/-! veneer/veneerref12.IsDir -/
noncomputable def t_r12_IsDir (a0 : Wld) (a1 : Spt) : T Bool :=
  (T.bind (f_r12_Node a0 a1) fun r0 => (T.ret (r0.kind == (2 : Int))))
noncomputable def f_r12_IsDir (a0 : Wld) (a1 : Spt) : Option Bool := (t_r12_IsDir a0 a1).run
noncomputable def K_r12_IsDir : List AV → Option Con := conT (.cons (.S .wld) (.S .spt)) (.dt .bool) fun x => f_r12_IsDir x.1 x.2
noncomputable def S_r12_IsDir : SE := { T := tabs, con := conOf [(17, K_r12_Node)], own := fun f => false, gt := gtS, loop := lpOf [] }
/-! veneer/veneerref5.Name -/
noncomputable def tl_r5_Name_l0 (s1 : Str) (s2 : Nod) (s6 : Int) : T ((Str × (Nod × Int)) ⊕ ((Int × Bool) ⊕ Unit)) :=
  (T.ite (decide (s6 < (↑s2.names.length : Int))) (T.req ((0 : Int) ≤ s6 ∧ s6 < (↑s2.names.length : Int)) (T.ite ((s2.names.getD s6.toNat GT.nam.nought).name == s1) (T.req ((0 : Int) ≤ s6 ∧ s6 < (↑s2.names.length : Int)) (T.ret (Sum.inr (Sum.inl ((s2.names.getD s6.toNat GT.nam.nought).ino, true))))) (T.ret (Sum.inl (s1, s2, IntKind.i64.wrap (s6 + (1 : Int))))))) (T.ret (Sum.inr (Sum.inr ()))))
noncomputable def L_r5_Name_l0 : (Str × (Nod × Int)) → Option ((Int × Bool) ⊕ Unit) := fixT fun q => tl_r5_Name_l0 q.1 q.2.1 q.2.2
noncomputable def t_r5_Name (a0 : Nod) (a1 : Str) : T (Int × Bool) :=
  (T.bind (L_r5_Name_l0 (a1, a0, (0 : Int))) fun r0 => (T.case (r0) (fun r1 => (T.ret ((r1.fst, r1.snd)))) (fun r2 => (T.ret (((0 : Int), false))))))
noncomputable def f_r5_Name (a0 : Nod) (a1 : Str) : Option (Int × Bool) := (t_r5_Name a0 a1).run
noncomputable def K_r5_Name : List AV → Option Con := conT (.cons (.S .nod) .str) (.cons (.dt .int) (.dt .bool)) fun x => f_r5_Name x.1 x.2
noncomputable def S_r5_Name : SE := { T := tabs, con := conOf [], own := fun f => false, gt := gtS, loop := lpOf [(3, loopT [1, 2, 6] (.cons (.dt .str) (.cons (.boxS .nod []) (.dt .int))) [⟨.ret, [4, 5], (.cons (.dt .int) (.dt .bool))⟩, ⟨.exit 0, [], .nil⟩] (L_r5_Name_l0))] }
/-! veneer/veneerref9.Heeds -/
noncomputable def t_r9_Heeds (a0 : Cnf) (a1 : Int) : T Bool :=
  (T.ite (decide (a1 ≥ (0 : Int))) (T.ite (decide (a1 < (↑a0.ways.length : Int))) (T.req ((0 : Int) ≤ a1 ∧ a1 < (↑a0.ways.length : Int)) (T.ite (a0.ways.getD a1.toNat GT.int.nought == (1 : Int)) (T.ret (true)) (T.req ((0 : Int) ≤ a1 ∧ a1 < (↑a0.ways.length : Int)) (T.ret (a0.ways.getD a1.toNat GT.int.nought == (3 : Int)))))) (T.ret (false))) (T.ret (false)))
noncomputable def f_r9_Heeds (a0 : Cnf) (a1 : Int) : Option Bool := (t_r9_Heeds a0 a1).run
noncomputable def K_r9_Heeds : List AV → Option Con := conT (.cons (.S .cnf) .int) (.dt .bool) fun x => f_r9_Heeds x.1 x.2
noncomputable def S_r9_Heeds : SE := { T := tabs, con := conOf [], own := fun f => false, gt := gtS, loop := lpOf [] }
/-! veneer/veneerref10.has -/
noncomputable def t_r10_has (a0 : Dsk) (a1 : Int) (a2 : Str) : T Bool :=
  (T.bind (f_r3_Get a0 a1) fun r0 => (T.bind (f_r5_Name r0.fst a2) fun r1 => (T.ite (r1.snd) (T.ret (r0.fst.kind == (2 : Int))) (T.ret (false)))))
noncomputable def f_r10_has (a0 : Dsk) (a1 : Int) (a2 : Str) : Option Bool := (t_r10_has a0 a1 a2).run
noncomputable def K_r10_has : List AV → Option Con := conT (.cons (.S .dsk) (.cons .int .str)) (.dt .bool) fun x => f_r10_has x.1 x.2.1 x.2.2
noncomputable def S_r10_has : SE := { T := tabs, con := conOf [(32, K_r3_Get), (73, K_r5_Name)], own := fun f => false, gt := gtS, loop := lpOf [] }
/-! veneer/veneerref10.Cuts -/
noncomputable def t_r10_Cuts (a0 : Dsk) (a1 : Int) : T Bool :=
  (T.bind (f_r10_has a0 a1 [(46 : UInt8), (119 : UInt8), (104 : UInt8), (46 : UInt8), (46 : UInt8), (119 : UInt8), (104 : UInt8), (46 : UInt8), (46 : UInt8), (111 : UInt8), (112 : UInt8), (113 : UInt8)]) fun r0 => (T.ret (r0)))
noncomputable def f_r10_Cuts (a0 : Dsk) (a1 : Int) : Option Bool := (t_r10_Cuts a0 a1).run
noncomputable def K_r10_Cuts : List AV → Option Con := conT (.cons (.S .dsk) .int) (.dt .bool) fun x => f_r10_Cuts x.1 x.2
noncomputable def S_r10_Cuts : SE := { T := tabs, con := conOf [(110, K_r10_has)], own := fun f => false, gt := gtS, loop := lpOf [] }
/-! veneer/veneerref11.cut -/
noncomputable def t_r11_cut (a0 : Wld) (a1 : Spt) : T Bool :=
  (T.bind (f_r9_Heeds a0.conf a1.branch) fun r0 => (T.ite (r0) (T.req ((0 : Int) ≤ a1.branch ∧ a1.branch < (↑a0.disks.length : Int)) (T.bind (f_r10_Cuts (a0.disks.getD a1.branch.toNat GT.dsk.nought) a1.ino) fun r1 => (T.ret (r1)))) (T.ret (false))))
noncomputable def f_r11_cut (a0 : Wld) (a1 : Spt) : Option Bool := (t_r11_cut a0 a1).run
noncomputable def K_r11_cut : List AV → Option Con := conT (.cons (.S .wld) (.S .spt)) (.dt .bool) fun x => f_r11_cut x.1 x.2
noncomputable def S_r11_cut : SE := { T := tabs, con := conOf [(96, K_r9_Heeds), (97, K_r10_Cuts)], own := fun f => false, gt := gtS, loop := lpOf [] }
/-! veneer/veneerref10.White -/
noncomputable def t_r10_White (a0 : Str) : T Str :=
  (T.req ([(46 : UInt8), (119 : UInt8), (104 : UInt8), (46 : UInt8)].length + List.length a0 ≤ (1099511627776 : Nat)) (T.ret ([(46 : UInt8), (119 : UInt8), (104 : UInt8), (46 : UInt8)] ++ a0)))
noncomputable def f_r10_White (a0 : Str) : Option Str := (t_r10_White a0).run
noncomputable def K_r10_White : List AV → Option Con := conT .str (.dt .str) fun x => f_r10_White x
noncomputable def S_r10_White : SE := { T := tabs, con := conOf [], own := fun f => false, gt := gtS, loop := lpOf [] }
/-! veneer/veneerref10.Hides -/
noncomputable def t_r10_Hides (a0 : Dsk) (a1 : Int) (a2 : Str) : T Bool :=
  (T.bind (f_r10_White a2) fun r0 => (T.bind (f_r10_has a0 a1 r0) fun r1 => (T.ret (r1))))
noncomputable def f_r10_Hides (a0 : Dsk) (a1 : Int) (a2 : Str) : Option Bool := (t_r10_Hides a0 a1 a2).run
noncomputable def K_r10_Hides : List AV → Option Con := conT (.cons (.S .dsk) (.cons .int .str)) (.dt .bool) fun x => f_r10_Hides x.1 x.2.1 x.2.2
noncomputable def S_r10_Hides : SE := { T := tabs, con := conOf [(111, K_r10_White), (110, K_r10_has)], own := fun f => false, gt := gtS, loop := lpOf [] }
/-! veneer/veneerref11.hides -/
noncomputable def t_r11_hides (a0 : Wld) (a1 : Spt) (a2 : Str) : T Bool :=
  (T.bind (f_r9_Heeds a0.conf a1.branch) fun r0 => (T.ite (r0) (T.req ((0 : Int) ≤ a1.branch ∧ a1.branch < (↑a0.disks.length : Int)) (T.bind (f_r10_Hides (a0.disks.getD a1.branch.toNat GT.dsk.nought) a1.ino a2) fun r1 => (T.ret (r1)))) (T.ret (false))))
noncomputable def f_r11_hides (a0 : Wld) (a1 : Spt) (a2 : Str) : Option Bool := (t_r11_hides a0 a1 a2).run
noncomputable def K_r11_hides : List AV → Option Con := conT (.cons (.S .wld) (.cons (.S .spt) .str)) (.dt .bool) fun x => f_r11_hides x.1 x.2.1 x.2.2
noncomputable def S_r11_hides : SE := { T := tabs, con := conOf [(96, K_r9_Heeds), (98, K_r10_Hides)], own := fun f => false, gt := gtS, loop := lpOf [] }
/-! veneer/veneerref11.look -/
noncomputable def tl_r11_look_l0 (s1 : (List Spt)) (s2 : Str) (s3 : Wld) (s8 : (List Spt)) (s9 : Int) (s10 : Int) : T (((List Spt) × (Str × (Wld × ((List Spt) × (Int × Int))))) ⊕ (((List Spt) × Int) ⊕ ((List Spt) × Int))) :=
  (T.ite (decide (s10 < (↑s1.length : Int))) (T.req ((0 : Int) ≤ s10 ∧ s10 < (↑s1.length : Int)) (T.req ((0 : Int) ≤ (s1.getD s10.toNat GT.spt.nought).branch ∧ (s1.getD s10.toNat GT.spt.nought).branch < (↑s3.disks.length : Int)) (T.bind (f_r3_Get (s3.disks.getD (s1.getD s10.toNat GT.spt.nought).branch.toNat GT.dsk.nought) (s1.getD s10.toNat GT.spt.nought).ino) fun r0 => (T.bind (f_r5_Name r0.fst s2) fun r1 => (T.ite (r1.snd) (T.req ((0 : Int) ≤ (s1.getD s10.toNat GT.spt.nought).branch ∧ (s1.getD s10.toNat GT.spt.nought).branch < (↑s3.disks.length : Int)) (T.bind (f_r3_Get (s3.disks.getD (s1.getD s10.toNat GT.spt.nought).branch.toNat GT.dsk.nought) r1.fst) fun r2 => (T.ite (r2.fst.kind != (2 : Int)) (T.ite ((↑s8.length : Int) == (0 : Int)) (T.req (s8.length = s8.length ∧ roomP (s8 ++ [Spt.mk (s1.getD s10.toNat GT.spt.nought).branch r1.fst]).length (16 : Nat)) (T.same ((s8 ++ [Spt.mk (s1.getD s10.toNat GT.spt.nought).branch r1.fst]).length) (T.ret (Sum.inr (Sum.inl (s8 ++ [Spt.mk (s1.getD s10.toNat GT.spt.nought).branch r1.fst], IntKind.i64.wrap ((s1.getD s10.toNat GT.spt.nought).branch - (1 : Int)))))))) (T.same (s8.length) (T.ret (Sum.inr (Sum.inl (s8, IntKind.i64.wrap ((s1.getD s10.toNat GT.spt.nought).branch - (1 : Int)))))))) (T.req (s8.length = s8.length ∧ roomP (s8 ++ [Spt.mk (s1.getD s10.toNat GT.spt.nought).branch r1.fst]).length (16 : Nat)) (T.bind (f_r11_cut s3 (Spt.mk (s1.getD s10.toNat GT.spt.nought).branch r1.fst)) fun r3 => (T.ite (r3) (T.same ((s8 ++ [Spt.mk (s1.getD s10.toNat GT.spt.nought).branch r1.fst]).length) (T.ret (Sum.inr (Sum.inl (s8 ++ [Spt.mk (s1.getD s10.toNat GT.spt.nought).branch r1.fst], (s1.getD s10.toNat GT.spt.nought).branch))))) (T.bind (f_r11_hides s3 (s1.getD s10.toNat GT.spt.nought) s2) fun r4 => (T.ite (r4) (T.same ((s8 ++ [Spt.mk (s1.getD s10.toNat GT.spt.nought).branch r1.fst]).length) (T.ret (Sum.inr (Sum.inl (s8 ++ [Spt.mk (s1.getD s10.toNat GT.spt.nought).branch r1.fst], (s1.getD s10.toNat GT.spt.nought).branch))))) (T.same ((s8 ++ [Spt.mk (s1.getD s10.toNat GT.spt.nought).branch r1.fst]).length) (T.ret (Sum.inl (s1, s2, s3, s8 ++ [Spt.mk (s1.getD s10.toNat GT.spt.nought).branch r1.fst], s9, IntKind.i64.wrap (s10 + (1 : Int)))))))))))))) (T.bind (f_r11_hides s3 (s1.getD s10.toNat GT.spt.nought) s2) fun r5 => (T.ite (r5) (T.same (s8.length) (T.ret (Sum.inr (Sum.inl (s8, (s1.getD s10.toNat GT.spt.nought).branch))))) (T.same (s8.length) (T.ret (Sum.inl (s1, s2, s3, s8, s9, IntKind.i64.wrap (s10 + (1 : Int))))))))))))) (T.same (s8.length) (T.ret (Sum.inr (Sum.inr (s8, s9))))))
noncomputable def L_r11_look_l0 : ((List Spt) × (Str × (Wld × ((List Spt) × (Int × Int))))) → Option (((List Spt) × Int) ⊕ ((List Spt) × Int)) := fixT fun q => tl_r11_look_l0 q.1 q.2.1 q.2.2.1 q.2.2.2.1 q.2.2.2.2.1 q.2.2.2.2.2
noncomputable def t_r11_look (a0 : Wld) (a1 : (List Spt)) (a2 : Str) : T ((List Spt) × Int) :=
  (T.bind (L_r11_look_l0 (a1, a2, a0, [], IntKind.i64.wrap ((↑a0.disks.length : Int) - (1 : Int)), (0 : Int))) fun r0 => (T.case (r0) (fun r1 => (T.ret ((r1.fst, r1.snd)))) (fun r2 => (T.same (List.length r2.fst) (T.ret ((r2.fst, r2.snd)))))))
noncomputable def f_r11_look (a0 : Wld) (a1 : (List Spt)) (a2 : Str) : Option ((List Spt) × Int) := (t_r11_look a0 a1 a2).run
noncomputable def K_r11_look : List AV → Option Con := conT (.cons (.S .wld) (.cons (.L .spt) .str)) (.cons (.dt (.L .spt)) (.dt .int)) fun x => f_r11_look x.1 x.2.1 x.2.2
noncomputable def S_r11_look : SE := { T := tabs, con := conOf [(32, K_r3_Get), (73, K_r5_Name), (74, K_r11_cut), (75, K_r11_hides)], own := fun f => false, gt := gtS, loop := lpOf [(5, loopT [1, 2, 3, 8, 9, 10] (.cons (.dt (.L .spt)) (.cons (.dt .str) (.cons (.boxS .wld []) (.cons (.gs .spt) (.cons (.dt .int) (.dt .int)))))) [⟨.ret, [6, 7], (.cons (.dt (.L .spt)) (.dt .int))⟩, ⟨.exit 0, [8, 9], (.cons (.gs .spt) (.dt .int))⟩] (L_r11_look_l0))] }
/-! veneer/veneerref11.Seen -/
noncomputable def t_r11_Seen (a0 : Wld) (a1 : (List Spt)) (a2 : Str) : T (List Spt) :=
  (T.bind (f_r11_look a0 a1 a2) fun r0 => (T.ret (r0.fst)))
noncomputable def f_r11_Seen (a0 : Wld) (a1 : (List Spt)) (a2 : Str) : Option (List Spt) := (t_r11_Seen a0 a1 a2).run
noncomputable def K_r11_Seen : List AV → Option Con := conT (.cons (.S .wld) (.cons (.L .spt) .str)) (.dt (.L .spt)) fun x => f_r11_Seen x.1 x.2.1 x.2.2
noncomputable def S_r11_Seen : SE := { T := tabs, con := conOf [(46, K_r11_look)], own := fun f => false, gt := gtS, loop := lpOf [] }
/-! veneer/veneerref11.Limit -/
noncomputable def t_r11_Limit (a0 : Wld) (a1 : (List Spt)) (a2 : Str) : T Int :=
  (T.bind (f_r11_look a0 a1 a2) fun r0 => (T.ret (r0.snd)))
noncomputable def f_r11_Limit (a0 : Wld) (a1 : (List Spt)) (a2 : Str) : Option Int := (t_r11_Limit a0 a1 a2).run
noncomputable def K_r11_Limit : List AV → Option Con := conT (.cons (.S .wld) (.cons (.L .spt) .str)) (.dt .int) fun x => f_r11_Limit x.1 x.2.1 x.2.2
noncomputable def S_r11_Limit : SE := { T := tabs, con := conOf [(46, K_r11_look)], own := fun f => false, gt := gtS, loop := lpOf [] }
/-! veneer/veneerref12.Find -/
noncomputable def tl_r12_Find_l0 (s1 : (List Str)) (s2 : Wld) (s7 : (List Spt)) (s8 : Int) (s9 : Int) : T (((List Str) × (Wld × ((List Spt) × (Int × Int)))) ⊕ (((List Spt) × (Int × Int)) ⊕ ((List Spt) × Int))) :=
  (T.ite (decide (s9 < (↑s1.length : Int))) (T.req ((0 : Int) ≤ (0 : Int) ∧ (0 : Int) < (↑s7.length : Int)) (T.bind (f_r12_IsDir s2 (s7.getD (Int.toNat (0 : Int)) GT.spt.nought)) fun r0 => (T.ite (!r0) (T.ret (Sum.inr (Sum.inl ([], (0 : Int), (4 : Int))))) (T.req ((0 : Int) ≤ s9 ∧ s9 < (↑s1.length : Int)) (T.bind (f_r11_Seen s2 s7 (s1.getD s9.toNat GT.str.nought)) fun r1 => (T.ite ((↑(List.length r1) : Int) == (0 : Int)) (T.ret (Sum.inr (Sum.inl ([], (0 : Int), (2 : Int))))) (T.req ((0 : Int) ≤ s9 ∧ s9 < (↑s1.length : Int)) (T.bind (f_r11_Limit s2 s7 (s1.getD s9.toNat GT.str.nought)) fun r2 => (T.ret (Sum.inl (s1, s2, r1, if r2 < s8 then r2 else s8, IntKind.i64.wrap (s9 + (1 : Int))))))))))))) (T.ret (Sum.inr (Sum.inr (s7, s8)))))
noncomputable def L_r12_Find_l0 : ((List Str) × (Wld × ((List Spt) × (Int × Int)))) → Option (((List Spt) × (Int × Int)) ⊕ ((List Spt) × Int)) := fixT fun q => tl_r12_Find_l0 q.1 q.2.1 q.2.2.1 q.2.2.2.1 q.2.2.2.2
noncomputable def t_r12_Find (a0 : Wld) (a1 : (List Str)) : T ((List Spt) × (Int × Int)) :=
  (T.ite ((↑a0.disks.length : Int) == (0 : Int)) (T.ret (([], (0 : Int), (2 : Int)))) (T.bind (f_r11_Roots a0) fun r0 => (T.bind (L_r12_Find_l0 (a1, a0, r0, IntKind.i64.wrap ((↑a0.disks.length : Int) - (1 : Int)), (0 : Int))) fun r1 => (T.case (r1) (fun r2 => (T.ret ((r2.fst, r2.snd.fst, r2.snd.snd)))) (fun r3 => (T.ret ((r3.fst, r3.snd, (0 : Int)))))))))
noncomputable def f_r12_Find (a0 : Wld) (a1 : (List Str)) : Option ((List Spt) × (Int × Int)) := (t_r12_Find a0 a1).run
noncomputable def K_r12_Find : List AV → Option Con := conT (.cons (.S .wld) (.L .str)) (.cons (.dt (.L .spt)) (.cons (.dt .int) (.dt .int))) fun x => f_r12_Find x.1 x.2
noncomputable def S_r12_Find : SE := { T := tabs, con := conOf [(26, K_r11_Roots), (14, K_r12_IsDir), (27, K_r11_Seen), (28, K_r11_Limit)], own := fun f => false, gt := gtS, loop := lpOf [(6, loopT [1, 2, 7, 8, 9] (.cons (.dt (.L .str)) (.cons (.boxS .wld []) (.cons (.dt (.L .spt)) (.cons (.dt .int) (.dt .int))))) [⟨.ret, [4, 5, 6], (.cons (.dt (.L .spt)) (.cons (.dt .int) (.dt .int)))⟩, ⟨.exit 0, [7, 8], (.cons (.dt (.L .spt)) (.dt .int))⟩] (L_r12_Find_l0))] }
/-! veneer/veneerref11.Spots -/
noncomputable def tl_r11_Spots_l0 (s0 : (List Spt)) (s1 : (List Spt)) (s5 : Int) : T (((List Spt) × ((List Spt) × Int)) ⊕ (Bool ⊕ Unit)) :=
  (T.ite (decide (s5 < (↑s0.length : Int))) (T.req ((0 : Int) ≤ s5 ∧ s5 < (↑s0.length : Int)) (T.req ((0 : Int) ≤ s5 ∧ s5 < (↑s1.length : Int)) (T.ite (!((s0.getD s5.toNat GT.spt.nought).branch == (s1.getD s5.toNat GT.spt.nought).branch && (s0.getD s5.toNat GT.spt.nought).ino == (s1.getD s5.toNat GT.spt.nought).ino)) (T.ret (Sum.inr (Sum.inl false))) (T.ret (Sum.inl (s0, s1, IntKind.i64.wrap (s5 + (1 : Int)))))))) (T.ret (Sum.inr (Sum.inr ()))))
noncomputable def L_r11_Spots_l0 : ((List Spt) × ((List Spt) × Int)) → Option (Bool ⊕ Unit) := fixT fun q => tl_r11_Spots_l0 q.1 q.2.1 q.2.2
noncomputable def t_r11_Spots (a0 : (List Spt)) (a1 : (List Spt)) : T Bool :=
  (T.ite ((↑a0.length : Int) != (↑a1.length : Int)) (T.ret (false)) (T.bind (L_r11_Spots_l0 (a0, a1, (0 : Int))) fun r0 => (T.case (r0) (fun r1 => (T.ret (r1))) (fun r2 => (T.ret (true))))))
noncomputable def f_r11_Spots (a0 : (List Spt)) (a1 : (List Spt)) : Option Bool := (t_r11_Spots a0 a1).run
noncomputable def K_r11_Spots : List AV → Option Con := conT (.cons (.L .spt) (.L .spt)) (.dt .bool) fun x => f_r11_Spots x.1 x.2
noncomputable def S_r11_Spots : SE := { T := tabs, con := conOf [], own := fun f => false, gt := gtS, loop := lpOf [(5, loopT [0, 1, 5] (.cons (.dt (.L .spt)) (.cons (.dt (.L .spt)) (.dt .int))) [⟨.ret, [4], (.dt .bool)⟩, ⟨.exit 0, [], .nil⟩] (L_r11_Spots_l0))] }
/-! veneer/veneerref3.names -/
noncomputable def tl_r3_names_l0 (s0 : (List Nam)) (s1 : (List Nam)) (s5 : Int) : T (((List Nam) × ((List Nam) × Int)) ⊕ (Bool ⊕ Unit)) :=
  (T.ite (decide (s5 < (↑s0.length : Int))) (T.req ((0 : Int) ≤ s5 ∧ s5 < (↑s0.length : Int)) (T.req ((0 : Int) ≤ s5 ∧ s5 < (↑s1.length : Int)) (T.ite (!((s0.getD s5.toNat GT.nam.nought).name == (s1.getD s5.toNat GT.nam.nought).name && (s0.getD s5.toNat GT.nam.nought).ino == (s1.getD s5.toNat GT.nam.nought).ino)) (T.ret (Sum.inr (Sum.inl false))) (T.ret (Sum.inl (s0, s1, IntKind.i64.wrap (s5 + (1 : Int)))))))) (T.ret (Sum.inr (Sum.inr ()))))
noncomputable def L_r3_names_l0 : ((List Nam) × ((List Nam) × Int)) → Option (Bool ⊕ Unit) := fixT fun q => tl_r3_names_l0 q.1 q.2.1 q.2.2
noncomputable def t_r3_names (a0 : (List Nam)) (a1 : (List Nam)) : T Bool :=
  (T.ite ((↑a0.length : Int) != (↑a1.length : Int)) (T.ret (false)) (T.bind (L_r3_names_l0 (a0, a1, (0 : Int))) fun r0 => (T.case (r0) (fun r1 => (T.ret (r1))) (fun r2 => (T.ret (true))))))
noncomputable def f_r3_names (a0 : (List Nam)) (a1 : (List Nam)) : Option Bool := (t_r3_names a0 a1).run
noncomputable def K_r3_names : List AV → Option Con := conT (.cons (.L .nam) (.L .nam)) (.dt .bool) fun x => f_r3_names x.1 x.2
noncomputable def S_r3_names : SE := { T := tabs, con := conOf [], own := fun f => false, gt := gtS, loop := lpOf [(5, loopT [0, 1, 5] (.cons (.dt (.L .nam)) (.cons (.dt (.L .nam)) (.dt .int))) [⟨.ret, [4], (.dt .bool)⟩, ⟨.exit 0, [], .nil⟩] (L_r3_names_l0))] }
/-! veneer/veneerref2.find -/
noncomputable def tl_r2_find_l0 (s1 : Int) (s2 : Fil) (s5 : Int) : T ((Int × (Fil × Int)) ⊕ (Int ⊕ Unit)) :=
  (T.ite (decide (s5 < (↑s2.blocks.length : Int))) (T.req ((0 : Int) ≤ s5 ∧ s5 < (↑s2.blocks.length : Int)) (T.ite ((s2.blocks.getD s5.toNat GT.blk.nought).pos == s1) (T.ret (Sum.inr (Sum.inl s5))) (T.ret (Sum.inl (s1, s2, IntKind.i64.wrap (s5 + (1 : Int))))))) (T.ret (Sum.inr (Sum.inr ()))))
noncomputable def L_r2_find_l0 : (Int × (Fil × Int)) → Option (Int ⊕ Unit) := fixT fun q => tl_r2_find_l0 q.1 q.2.1 q.2.2
noncomputable def t_r2_find (a0 : Fil) (a1 : Int) : T Int :=
  (T.bind (L_r2_find_l0 (a1, a0, (0 : Int))) fun r0 => (T.case (r0) (fun r1 => (T.ret (r1))) (fun r2 => (T.ret ((-1 : Int))))))
noncomputable def f_r2_find (a0 : Fil) (a1 : Int) : Option Int := (t_r2_find a0 a1).run
noncomputable def K_r2_find : List AV → Option Con := conT (.cons (.S .fil) .int) (.dt .int) fun x => f_r2_find x.1 x.2
noncomputable def S_r2_find : SE := { T := tabs, con := conOf [], own := fun f => false, gt := gtS, loop := lpOf [(3, loopT [1, 2, 5] (.cons (.dt .int) (.cons (.boxS .fil []) (.dt .int))) [⟨.ret, [4], (.dt .int)⟩, ⟨.exit 0, [], .nil⟩] (L_r2_find_l0))] }
/-! veneer/veneerref2.byteAt -/
noncomputable def t_r2_byteAt (a0 : Fil) (a1 : Int) : T UInt8 :=
  (T.bind (f_r2_find a0 (IntKind.i64.wrap (a1.tdiv (16 : Int)))) fun r0 => (T.ite (decide (r0 < (0 : Int))) (T.req ((0 : Int) ≤ (0 : Int) ∧ (0 : Int) < (256 : Int)) (T.ret (UInt8.ofNat (Int.toNat (0 : Int))))) (T.req ((0 : Int) ≤ r0 ∧ r0 < (↑a0.blocks.length : Int)) (T.req ((0 : Int) ≤ a1.tmod (16 : Int) ∧ a1.tmod (16 : Int) < (↑(a0.blocks.getD (Int.toNat r0) GT.blk.nought).data.length : Int)) (T.req ((0 : Int) ≤ (↑(UInt8.toNat ((a0.blocks.getD (Int.toNat r0) GT.blk.nought).data.getD (a1.tmod (16 : Int)).toNat GT.u8.nought)) : Int) ∧ (↑(UInt8.toNat ((a0.blocks.getD (Int.toNat r0) GT.blk.nought).data.getD (a1.tmod (16 : Int)).toNat GT.u8.nought)) : Int) < (256 : Int)) (T.ret (UInt8.ofNat (↑(UInt8.toNat ((a0.blocks.getD (Int.toNat r0) GT.blk.nought).data.getD (a1.tmod (16 : Int)).toNat GT.u8.nought)) : Int).toNat)))))))
noncomputable def f_r2_byteAt (a0 : Fil) (a1 : Int) : Option UInt8 := (t_r2_byteAt a0 a1).run
noncomputable def K_r2_byteAt : List AV → Option Con := conT (.cons (.S .fil) .int) (.dt .u8) fun x => f_r2_byteAt x.1 x.2
noncomputable def S_r2_byteAt : SE := { T := tabs, con := conOf [(99, K_r2_find)], own := fun f => false, gt := gtS, loop := lpOf [] }
/-! veneer/veneerref2.Read -/
noncomputable def tl_r2_Read_l0 (s1 : Int) (s2 : Int) (s3 : Fil) (s7 : (List UInt8)) (s8 : Int) : T ((Int × (Int × (Fil × ((List UInt8) × Int)))) ⊕ (List UInt8)) :=
  (T.ite (decide (s8 < IntKind.i64.wrap (s1 + s2))) (T.ite (decide (s8 < s3.size)) (T.bind (f_r2_byteAt s3 s8) fun r0 => (T.req ((0 : Int) ≤ (↑(UInt8.toNat r0) : Int) ∧ (↑(UInt8.toNat r0) : Int) < (256 : Int)) (T.req (s7.length = s7.length ∧ roomP (s7 ++ [UInt8.ofNat (↑(UInt8.toNat r0) : Int).toNat]).length (1 : Nat)) (T.same ((s7 ++ [UInt8.ofNat (↑(UInt8.toNat r0) : Int).toNat]).length) (T.ret (Sum.inl (s1, s2, s3, s7 ++ [UInt8.ofNat (↑(UInt8.toNat r0) : Int).toNat], IntKind.i64.wrap (s8 + (1 : Int))))))))) (T.same (s7.length) (T.ret (Sum.inr s7)))) (T.same (s7.length) (T.ret (Sum.inr s7))))
noncomputable def L_r2_Read_l0 : (Int × (Int × (Fil × ((List UInt8) × Int)))) → Option (List UInt8) := fixT fun q => tl_r2_Read_l0 q.1 q.2.1 q.2.2.1 q.2.2.2.1 q.2.2.2.2
noncomputable def t_r2_Read (a0 : Fil) (a1 : Int) (a2 : Int) : T (List UInt8) :=
  (T.bind (L_r2_Read_l0 (a1, a2, a0, [], a1)) fun r0 => (T.same (List.length r0) (T.ret (r0))))
noncomputable def f_r2_Read (a0 : Fil) (a1 : Int) (a2 : Int) : Option (List UInt8) := (t_r2_Read a0 a1 a2).run
noncomputable def K_r2_Read : List AV → Option Con := conT (.cons (.S .fil) (.cons .int .int)) (.dt (.L .u8)) fun x => f_r2_Read x.1 x.2.1 x.2.2
noncomputable def S_r2_Read : SE := { T := tabs, con := conOf [(76, K_r2_byteAt)], own := fun f => false, gt := gtS, loop := lpOf [(4, loopT [1, 2, 3, 7, 8] (.cons (.dt .int) (.cons (.dt .int) (.cons (.boxS .fil []) (.cons (.gs .u8) (.dt .int))))) [⟨.exit 0, [7], (.gs .u8)⟩] (L_r2_Read_l0))] }
/-! veneer/veneerref2.Same -/
noncomputable def t_r2_Same (a0 : Fil) (a1 : Fil) : T Bool :=
  (T.ite (a0.size == a1.size) (T.bind (f_r2_Read a0 (0 : Int) a0.size) fun r0 => (T.bind (f_r2_Read a1 (0 : Int) a1.size) fun r1 => (T.ret (r0 == r1)))) (T.ret (false)))
noncomputable def f_r2_Same (a0 : Fil) (a1 : Fil) : Option Bool := (t_r2_Same a0 a1).run
noncomputable def K_r2_Same : List AV → Option Con := conT (.cons (.S .fil) (.S .fil)) (.dt .bool) fun x => f_r2_Same x.1 x.2
noncomputable def S_r2_Same : SE := { T := tabs, con := conOf [(47, K_r2_Read)], own := fun f => false, gt := gtS, loop := lpOf [] }
/-! veneer/veneerref3.Nodes -/
noncomputable def t_r3_Nodes (a0 : Nod) (a1 : Nod) : T Bool :=
  (T.ite (a0.ino == a1.ino) (T.ite (a0.kind == a1.kind) (T.ite (a0.mode == a1.mode) (T.ite (a0.links == a1.links) (T.ite (a0.target == a1.target) (T.bind (f_r3_names a0.names a1.names) fun r0 => (T.ite (r0) (T.bind (f_r2_Same a0.file a1.file) fun r1 => (T.ret (r1))) (T.ret (false)))) (T.ret (false))) (T.ret (false))) (T.ret (false))) (T.ret (false))) (T.ret (false)))
noncomputable def f_r3_Nodes (a0 : Nod) (a1 : Nod) : Option Bool := (t_r3_Nodes a0 a1).run
noncomputable def K_r3_Nodes : List AV → Option Con := conT (.cons (.S .nod) (.S .nod)) (.dt .bool) fun x => f_r3_Nodes x.1 x.2
noncomputable def S_r3_Nodes : SE := { T := tabs, con := conOf [(29, K_r3_names), (30, K_r2_Same)], own := fun f => false, gt := gtS, loop := lpOf [] }
/-! veneer/veneerref3.New -/
noncomputable def t_r3_New (a0 : Int) (a1 : Int) : T Dsk :=
  (T.ret (Dsk.mk a0 a1 (2 : Int) [Nod.mk (1 : Int) (2 : Int) (493 : Int) (1 : Int) (Fil.mk (0 : Int) []) [] []]))
noncomputable def f_r3_New (a0 : Int) (a1 : Int) : Option Dsk := (t_r3_New a0 a1).run
noncomputable def K_r3_New : List AV → Option Con := conT (.cons .int .int) (.dt (.S .dsk)) fun x => f_r3_New x.1 x.2
noncomputable def S_r3_New : SE := { T := tabs, con := conOf [], own := fun f => false, gt := gtS, loop := lpOf [] }
/-! veneer/veneerlaw12.known -/
noncomputable def t_law12_known  : T Bool :=
  (T.bind (f_r3_New (5 : Int) (5 : Int)) fun r0 => (T.bind (f_walk_Find (Wld.mk (Cnf.mk [(1 : Int), (2 : Int)] (1 : Int)) [r0, r0] (Tbl.mk (0 : Int) [] [] (0 : Int))) []) fun r1 => (T.ite (r1.snd.snd == (0 : Int)) (T.ite (r1.snd.fst == (1 : Int)) (T.ite ((↑(List.length r1.fst) : Int) == (2 : Int)) (T.req ((0 : Int) ≤ (0 : Int) ∧ (0 : Int) < (↑(List.length r1.fst) : Int)) (T.bind (f_walk_IsDir (Wld.mk (Cnf.mk [(1 : Int), (2 : Int)] (1 : Int)) [r0, r0] (Tbl.mk (0 : Int) [] [] (0 : Int))) (List.getD r1.fst (Int.toNat (0 : Int)) GT.spt.nought)) fun r2 => (T.ite (r2) (T.req ((0 : Int) ≤ (1 : Int) ∧ (1 : Int) < (↑(List.length r1.fst) : Int)) (T.bind (f_walk_Node (Wld.mk (Cnf.mk [(1 : Int), (2 : Int)] (1 : Int)) [r0, r0] (Tbl.mk (0 : Int) [] [] (0 : Int))) (List.getD r1.fst (Int.toNat (1 : Int)) GT.spt.nought)) fun r3 => (T.ret (r3.ino == (1 : Int))))) (T.ret (false))))) (T.ret (false))) (T.ret (false))) (T.ret (false)))))
noncomputable def f_law12_known  : Option Bool := (t_law12_known).run
noncomputable def K_law12_known : List AV → Option Con := conT .nil (.dt .bool) fun x => f_law12_known
noncomputable def S_law12_known : SE := { T := tabs, con := conOf [(6, K_r3_New), (7, K_walk_Find), (13, K_walk_IsDir), (16, K_walk_Node)], own := fun f => false, gt := gtS, loop := lpOf [] }
theorem wt_seen_Limit (x : (Wld × ((List Spt) × Str))) (K : Int → Prop) : funT (S_seen_Limit) Try.f21 (.cons (.S .wld) (.cons (.L .spt) .str)) (.dt .int) x K = (t_seen_Limit x.1 x.2.1 x.2.2).wp K := by kernel_rfl
theorem wt_seen_Seen (x : (Wld × ((List Spt) × Str))) (K : (List Spt) → Prop) : funT (S_seen_Seen) Try.f22 (.cons (.S .wld) (.cons (.L .spt) .str)) (.dt (.L .spt)) x K = (t_seen_Seen x.1 x.2.1 x.2.2).wp K := by kernel_rfl
theorem wtl_walk_Find_l0 (p : (Wld × ((List Spt) × (Int × ((List Str) × (Int × Int)))))) (K : (Wld × ((List Spt) × (Int × ((List Str) × (Int × Int))))) ⊕ (((List Spt) × (Int × Int)) ⊕ ((List Spt) × Int)) → Prop) : roundT (S_walk_Find) [2, 4, 5, 19, 20, 21] (.cons (.boxS .wld []) (.cons (.dt (.L .spt)) (.cons (.dt .int) (.cons (.dt (.L .str)) (.cons (.dt .int) (.dt .int)))))) [⟨.ret, [4, 5, 6], (.cons (.dt (.L .spt)) (.cons (.dt .int) (.dt .int)))⟩, ⟨.exit 0, [4, 5], (.cons (.dt (.L .spt)) (.dt .int))⟩] (loopAt Try.f7 0) p K = (tl_walk_Find_l0 p.1 p.2.1 p.2.2.1 p.2.2.2.1 p.2.2.2.2.1 p.2.2.2.2.2).wp K := by kernel_rfl
theorem wt_walk_Find (x : (Wld × (List Str))) (K : ((List Spt) × (Int × Int)) → Prop) : funT (S_walk_Find) Try.f7 (.cons (.S .wld) (.L .str)) (.cons (.dt (.L .spt)) (.cons (.dt .int) (.dt .int))) x K = (t_walk_Find x.1 x.2).wp K := by kernel_rfl
theorem wtl_r11_Roots_l0 (p : (Wld × ((List Spt) × Int))) (K : (Wld × ((List Spt) × Int)) ⊕ (List Spt) → Prop) : roundT (S_r11_Roots) [1, 3, 4] (.cons (.boxS .wld []) (.cons (.gs .spt) (.dt .int))) [⟨.exit 0, [3], (.gs .spt)⟩] (loopAt Try.f26 0) p K = (tl_r11_Roots_l0 p.1 p.2.1 p.2.2).wp K := by kernel_rfl
theorem wt_r11_Roots (x : Wld) (K : (List Spt) → Prop) : funT (S_r11_Roots) Try.f26 (.S .wld) (.dt (.L .spt)) x K = (t_r11_Roots x).wp K := by kernel_rfl
theorem wt_r12_Node (x : (Wld × Spt)) (K : Nod → Prop) : funT (S_r12_Node) Try.f17 (.cons (.S .wld) (.S .spt)) (.dt (.S .nod)) x K = (t_r12_Node x.1 x.2).wp K := by kernel_rfl
theorem wt_r12_IsDir (x : (Wld × Spt)) (K : Bool → Prop) : funT (S_r12_IsDir) Try.f14 (.cons (.S .wld) (.S .spt)) (.dt .bool) x K = (t_r12_IsDir x.1 x.2).wp K := by kernel_rfl
theorem wtl_r5_Name_l0 (p : (Str × (Nod × Int))) (K : (Str × (Nod × Int)) ⊕ ((Int × Bool) ⊕ Unit) → Prop) : roundT (S_r5_Name) [1, 2, 6] (.cons (.dt .str) (.cons (.boxS .nod []) (.dt .int))) [⟨.ret, [4, 5], (.cons (.dt .int) (.dt .bool))⟩, ⟨.exit 0, [], .nil⟩] (loopAt Try.f73 0) p K = (tl_r5_Name_l0 p.1 p.2.1 p.2.2).wp K := by kernel_rfl
theorem wt_r5_Name (x : (Nod × Str)) (K : (Int × Bool) → Prop) : funT (S_r5_Name) Try.f73 (.cons (.S .nod) .str) (.cons (.dt .int) (.dt .bool)) x K = (t_r5_Name x.1 x.2).wp K := by kernel_rfl
theorem wt_r9_Heeds (x : (Cnf × Int)) (K : Bool → Prop) : funT (S_r9_Heeds) Try.f96 (.cons (.S .cnf) .int) (.dt .bool) x K = (t_r9_Heeds x.1 x.2).wp K := by kernel_rfl
theorem wt_r10_has (x : (Dsk × (Int × Str))) (K : Bool → Prop) : funT (S_r10_has) Try.f110 (.cons (.S .dsk) (.cons .int .str)) (.dt .bool) x K = (t_r10_has x.1 x.2.1 x.2.2).wp K := by kernel_rfl
theorem wt_r10_Cuts (x : (Dsk × Int)) (K : Bool → Prop) : funT (S_r10_Cuts) Try.f97 (.cons (.S .dsk) .int) (.dt .bool) x K = (t_r10_Cuts x.1 x.2).wp K := by kernel_rfl
theorem wt_r11_cut (x : (Wld × Spt)) (K : Bool → Prop) : funT (S_r11_cut) Try.f74 (.cons (.S .wld) (.S .spt)) (.dt .bool) x K = (t_r11_cut x.1 x.2).wp K := by kernel_rfl
theorem wt_r10_White (x : Str) (K : Str → Prop) : funT (S_r10_White) Try.f111 .str (.dt .str) x K = (t_r10_White x).wp K := by kernel_rfl
theorem wt_r10_Hides (x : (Dsk × (Int × Str))) (K : Bool → Prop) : funT (S_r10_Hides) Try.f98 (.cons (.S .dsk) (.cons .int .str)) (.dt .bool) x K = (t_r10_Hides x.1 x.2.1 x.2.2).wp K := by kernel_rfl
theorem wt_r11_hides (x : (Wld × (Spt × Str))) (K : Bool → Prop) : funT (S_r11_hides) Try.f75 (.cons (.S .wld) (.cons (.S .spt) .str)) (.dt .bool) x K = (t_r11_hides x.1 x.2.1 x.2.2).wp K := by kernel_rfl
theorem wtl_r11_look_l0 (p : ((List Spt) × (Str × (Wld × ((List Spt) × (Int × Int)))))) (K : ((List Spt) × (Str × (Wld × ((List Spt) × (Int × Int))))) ⊕ (((List Spt) × Int) ⊕ ((List Spt) × Int)) → Prop) : roundT (S_r11_look) [1, 2, 3, 8, 9, 10] (.cons (.dt (.L .spt)) (.cons (.dt .str) (.cons (.boxS .wld []) (.cons (.gs .spt) (.cons (.dt .int) (.dt .int)))))) [⟨.ret, [6, 7], (.cons (.dt (.L .spt)) (.dt .int))⟩, ⟨.exit 0, [8, 9], (.cons (.gs .spt) (.dt .int))⟩] (loopAt Try.f46 0) p K = (tl_r11_look_l0 p.1 p.2.1 p.2.2.1 p.2.2.2.1 p.2.2.2.2.1 p.2.2.2.2.2).wp K := by kernel_rfl
theorem wt_r11_look (x : (Wld × ((List Spt) × Str))) (K : ((List Spt) × Int) → Prop) : funT (S_r11_look) Try.f46 (.cons (.S .wld) (.cons (.L .spt) .str)) (.cons (.dt (.L .spt)) (.dt .int)) x K = (t_r11_look x.1 x.2.1 x.2.2).wp K := by kernel_rfl
theorem wt_r11_Seen (x : (Wld × ((List Spt) × Str))) (K : (List Spt) → Prop) : funT (S_r11_Seen) Try.f27 (.cons (.S .wld) (.cons (.L .spt) .str)) (.dt (.L .spt)) x K = (t_r11_Seen x.1 x.2.1 x.2.2).wp K := by kernel_rfl
theorem wt_r11_Limit (x : (Wld × ((List Spt) × Str))) (K : Int → Prop) : funT (S_r11_Limit) Try.f28 (.cons (.S .wld) (.cons (.L .spt) .str)) (.dt .int) x K = (t_r11_Limit x.1 x.2.1 x.2.2).wp K := by kernel_rfl
theorem wtl_r12_Find_l0 (p : ((List Str) × (Wld × ((List Spt) × (Int × Int))))) (K : ((List Str) × (Wld × ((List Spt) × (Int × Int)))) ⊕ (((List Spt) × (Int × Int)) ⊕ ((List Spt) × Int)) → Prop) : roundT (S_r12_Find) [1, 2, 7, 8, 9] (.cons (.dt (.L .str)) (.cons (.boxS .wld []) (.cons (.dt (.L .spt)) (.cons (.dt .int) (.dt .int))))) [⟨.ret, [4, 5, 6], (.cons (.dt (.L .spt)) (.cons (.dt .int) (.dt .int)))⟩, ⟨.exit 0, [7, 8], (.cons (.dt (.L .spt)) (.dt .int))⟩] (loopAt Try.f11 0) p K = (tl_r12_Find_l0 p.1 p.2.1 p.2.2.1 p.2.2.2.1 p.2.2.2.2).wp K := by kernel_rfl
theorem wt_r12_Find (x : (Wld × (List Str))) (K : ((List Spt) × (Int × Int)) → Prop) : funT (S_r12_Find) Try.f11 (.cons (.S .wld) (.L .str)) (.cons (.dt (.L .spt)) (.cons (.dt .int) (.dt .int))) x K = (t_r12_Find x.1 x.2).wp K := by kernel_rfl
theorem wtl_r11_Spots_l0 (p : ((List Spt) × ((List Spt) × Int))) (K : ((List Spt) × ((List Spt) × Int)) ⊕ (Bool ⊕ Unit) → Prop) : roundT (S_r11_Spots) [0, 1, 5] (.cons (.dt (.L .spt)) (.cons (.dt (.L .spt)) (.dt .int))) [⟨.ret, [4], (.dt .bool)⟩, ⟨.exit 0, [], .nil⟩] (loopAt Try.f12 0) p K = (tl_r11_Spots_l0 p.1 p.2.1 p.2.2).wp K := by kernel_rfl
theorem wt_r11_Spots (x : ((List Spt) × (List Spt))) (K : Bool → Prop) : funT (S_r11_Spots) Try.f12 (.cons (.L .spt) (.L .spt)) (.dt .bool) x K = (t_r11_Spots x.1 x.2).wp K := by kernel_rfl
theorem wtl_r3_names_l0 (p : ((List Nam) × ((List Nam) × Int))) (K : ((List Nam) × ((List Nam) × Int)) ⊕ (Bool ⊕ Unit) → Prop) : roundT (S_r3_names) [0, 1, 5] (.cons (.dt (.L .nam)) (.cons (.dt (.L .nam)) (.dt .int))) [⟨.ret, [4], (.dt .bool)⟩, ⟨.exit 0, [], .nil⟩] (loopAt Try.f29 0) p K = (tl_r3_names_l0 p.1 p.2.1 p.2.2).wp K := by kernel_rfl
theorem wt_r3_names (x : ((List Nam) × (List Nam))) (K : Bool → Prop) : funT (S_r3_names) Try.f29 (.cons (.L .nam) (.L .nam)) (.dt .bool) x K = (t_r3_names x.1 x.2).wp K := by kernel_rfl
theorem wtl_r2_find_l0 (p : (Int × (Fil × Int))) (K : (Int × (Fil × Int)) ⊕ (Int ⊕ Unit) → Prop) : roundT (S_r2_find) [1, 2, 5] (.cons (.dt .int) (.cons (.boxS .fil []) (.dt .int))) [⟨.ret, [4], (.dt .int)⟩, ⟨.exit 0, [], .nil⟩] (loopAt Try.f99 0) p K = (tl_r2_find_l0 p.1 p.2.1 p.2.2).wp K := by kernel_rfl
theorem wt_r2_find (x : (Fil × Int)) (K : Int → Prop) : funT (S_r2_find) Try.f99 (.cons (.S .fil) .int) (.dt .int) x K = (t_r2_find x.1 x.2).wp K := by kernel_rfl
theorem wt_r2_byteAt (x : (Fil × Int)) (K : UInt8 → Prop) : funT (S_r2_byteAt) Try.f76 (.cons (.S .fil) .int) (.dt .u8) x K = (t_r2_byteAt x.1 x.2).wp K := by kernel_rfl
theorem wtl_r2_Read_l0 (p : (Int × (Int × (Fil × ((List UInt8) × Int))))) (K : (Int × (Int × (Fil × ((List UInt8) × Int)))) ⊕ (List UInt8) → Prop) : roundT (S_r2_Read) [1, 2, 3, 7, 8] (.cons (.dt .int) (.cons (.dt .int) (.cons (.boxS .fil []) (.cons (.gs .u8) (.dt .int))))) [⟨.exit 0, [7], (.gs .u8)⟩] (loopAt Try.f47 0) p K = (tl_r2_Read_l0 p.1 p.2.1 p.2.2.1 p.2.2.2.1 p.2.2.2.2).wp K := by kernel_rfl
theorem wt_r2_Read (x : (Fil × (Int × Int))) (K : (List UInt8) → Prop) : funT (S_r2_Read) Try.f47 (.cons (.S .fil) (.cons .int .int)) (.dt (.L .u8)) x K = (t_r2_Read x.1 x.2.1 x.2.2).wp K := by kernel_rfl
theorem wt_r2_Same (x : (Fil × Fil)) (K : Bool → Prop) : funT (S_r2_Same) Try.f30 (.cons (.S .fil) (.S .fil)) (.dt .bool) x K = (t_r2_Same x.1 x.2).wp K := by kernel_rfl
theorem wt_r3_Nodes (x : (Nod × Nod)) (K : Bool → Prop) : funT (S_r3_Nodes) Try.f15 (.cons (.S .nod) (.S .nod)) (.dt .bool) x K = (t_r3_Nodes x.1 x.2).wp K := by kernel_rfl
theorem wt_r3_New (x : (Int × Int)) (K : Dsk → Prop) : funT (S_r3_New) Try.f6 (.cons .int .int) (.dt (.S .dsk)) x K = (t_r3_New x.1 x.2).wp K := by kernel_rfl
theorem wt_law12_known (x : Unit) (K : Bool → Prop) : funT (S_law12_known) Try.f9 .nil (.dt .bool) x K = (t_law12_known).wp K := by kernel_rfl
variable [Syms]
theorem o_seen_Limit : ConOK Try.prog (S_seen_Limit) := conOK_of (consOK_cons c_seen_scan consOK_nil) rfl
theorem c_seen_Limit : ConOne Try.prog 21 K_seen_Limit :=
  con_T (a := (.cons (.S .wld) (.cons (.L .spt) .str))) (r := (.dt .int)) (t := fun x => t_seen_Limit x.1 x.2.1 x.2.2) tyokG (o_seen_Limit) Try.checked.mixed ⟨Try.func21, by kernel_rfl, by kernel_rfl⟩ (loops_none (by kernel_rfl)) (by kernel_rfl) (fun x K => wt_seen_Limit x K)
theorem o_seen_Seen : ConOK Try.prog (S_seen_Seen) := conOK_of (consOK_cons c_seen_scan consOK_nil) rfl
theorem c_seen_Seen : ConOne Try.prog 22 K_seen_Seen :=
  con_T (a := (.cons (.S .wld) (.cons (.L .spt) .str))) (r := (.dt (.L .spt))) (t := fun x => t_seen_Seen x.1 x.2.1 x.2.2) tyokG (o_seen_Seen) Try.checked.mixed ⟨Try.func22, by kernel_rfl, by kernel_rfl⟩ (loops_none (by kernel_rfl)) (by kernel_rfl) (fun x K => wt_seen_Seen x K)
theorem o_walk_Find : ConOK Try.prog (S_walk_Find) := conOK_of (consOK_cons c_seen_Roots (consOK_cons c_walk_IsDir (consOK_cons c_seen_Limit (consOK_cons c_seen_Seen consOK_nil)))) rfl
theorem lL_walk_Find_l0 : LoopOK Try.prog Try.f7.ntmps (loopT [2, 4, 5, 19, 20, 21] (.cons (.boxS .wld []) (.cons (.dt (.L .spt)) (.cons (.dt .int) (.cons (.dt (.L .str)) (.cons (.dt .int) (.dt .int)))))) [⟨.ret, [4, 5, 6], (.cons (.dt (.L .spt)) (.cons (.dt .int) (.dt .int)))⟩, ⟨.exit 0, [4, 5], (.cons (.dt (.L .spt)) (.dt .int))⟩] (L_walk_Find_l0)) (loopAt Try.f7 0) :=
  loopT_ok (live := [2, 4, 5, 19, 20, 21]) (vt := (.cons (.boxS .wld []) (.cons (.dt (.L .spt)) (.cons (.dt .int) (.cons (.dt (.L .str)) (.cons (.dt .int) (.dt .int))))))) (ex := [⟨.ret, [4, 5, 6], (.cons (.dt (.L .spt)) (.cons (.dt .int) (.dt .int)))⟩, ⟨.exit 0, [4, 5], (.cons (.dt (.L .spt)) (.dt .int))⟩]) tyokG (o_walk_Find) Try.checked.mixed (by kernel_rfl) (by kernel_rfl) (by kernel_rfl) (loops_nil (by kernel_rfl)) (t := fun q => tl_walk_Find_l0 q.1 q.2.1 q.2.2.1 q.2.2.2.1 q.2.2.2.2.1 q.2.2.2.2.2) (by kernel_rfl) (fun p K => wtl_walk_Find_l0 p K)
theorem c_walk_Find : ConOne Try.prog 7 K_walk_Find :=
  con_T (a := (.cons (.S .wld) (.L .str))) (r := (.cons (.dt (.L .spt)) (.cons (.dt .int) (.dt .int)))) (t := fun x => t_walk_Find x.1 x.2) tyokG (o_walk_Find) Try.checked.mixed ⟨Try.func7, by kernel_rfl, by kernel_rfl⟩ (loops_code (by kernel_rfl) (loopIn_cons (by kernel_rfl) (lL_walk_Find_l0) (loopsIn_nil))) (by kernel_rfl) (fun x K => wt_walk_Find x K)
theorem o_r11_Roots : ConOK Try.prog (S_r11_Roots) := conOK_of consOK_nil rfl
theorem lL_r11_Roots_l0 : LoopOK Try.prog Try.f26.ntmps (loopT [1, 3, 4] (.cons (.boxS .wld []) (.cons (.gs .spt) (.dt .int))) [⟨.exit 0, [3], (.gs .spt)⟩] (L_r11_Roots_l0)) (loopAt Try.f26 0) :=
  loopT_ok (live := [1, 3, 4]) (vt := (.cons (.boxS .wld []) (.cons (.gs .spt) (.dt .int)))) (ex := [⟨.exit 0, [3], (.gs .spt)⟩]) tyokG (o_r11_Roots) Try.checked.mixed (by kernel_rfl) (by kernel_rfl) (by kernel_rfl) (loops_nil (by kernel_rfl)) (t := fun q => tl_r11_Roots_l0 q.1 q.2.1 q.2.2) (by kernel_rfl) (fun p K => wtl_r11_Roots_l0 p K)
theorem c_r11_Roots : ConOne Try.prog 26 K_r11_Roots :=
  con_T (a := (.S .wld)) (r := (.dt (.L .spt))) (t := fun x => t_r11_Roots x) tyokG (o_r11_Roots) Try.checked.mixed ⟨Try.func26, by kernel_rfl, by kernel_rfl⟩ (loops_code (by kernel_rfl) (loopIn_cons (by kernel_rfl) (lL_r11_Roots_l0) (loopsIn_nil))) (by kernel_rfl) (fun x K => wt_r11_Roots x K)
theorem o_r12_Node : ConOK Try.prog (S_r12_Node) := conOK_of (consOK_cons c_r3_Get consOK_nil) rfl
theorem c_r12_Node : ConOne Try.prog 17 K_r12_Node :=
  con_T (a := (.cons (.S .wld) (.S .spt))) (r := (.dt (.S .nod))) (t := fun x => t_r12_Node x.1 x.2) tyokG (o_r12_Node) Try.checked.mixed ⟨Try.func17, by kernel_rfl, by kernel_rfl⟩ (loops_none (by kernel_rfl)) (by kernel_rfl) (fun x K => wt_r12_Node x K)
theorem o_r12_IsDir : ConOK Try.prog (S_r12_IsDir) := conOK_of (consOK_cons c_r12_Node consOK_nil) rfl
theorem c_r12_IsDir : ConOne Try.prog 14 K_r12_IsDir :=
  con_T (a := (.cons (.S .wld) (.S .spt))) (r := (.dt .bool)) (t := fun x => t_r12_IsDir x.1 x.2) tyokG (o_r12_IsDir) Try.checked.mixed ⟨Try.func14, by kernel_rfl, by kernel_rfl⟩ (loops_none (by kernel_rfl)) (by kernel_rfl) (fun x K => wt_r12_IsDir x K)
theorem o_r5_Name : ConOK Try.prog (S_r5_Name) := conOK_of consOK_nil rfl
theorem lL_r5_Name_l0 : LoopOK Try.prog Try.f73.ntmps (loopT [1, 2, 6] (.cons (.dt .str) (.cons (.boxS .nod []) (.dt .int))) [⟨.ret, [4, 5], (.cons (.dt .int) (.dt .bool))⟩, ⟨.exit 0, [], .nil⟩] (L_r5_Name_l0)) (loopAt Try.f73 0) :=
  loopT_ok (live := [1, 2, 6]) (vt := (.cons (.dt .str) (.cons (.boxS .nod []) (.dt .int)))) (ex := [⟨.ret, [4, 5], (.cons (.dt .int) (.dt .bool))⟩, ⟨.exit 0, [], .nil⟩]) tyokG (o_r5_Name) Try.checked.mixed (by kernel_rfl) (by kernel_rfl) (by kernel_rfl) (loops_nil (by kernel_rfl)) (t := fun q => tl_r5_Name_l0 q.1 q.2.1 q.2.2) (by kernel_rfl) (fun p K => wtl_r5_Name_l0 p K)
theorem c_r5_Name : ConOne Try.prog 73 K_r5_Name :=
  con_T (a := (.cons (.S .nod) .str)) (r := (.cons (.dt .int) (.dt .bool))) (t := fun x => t_r5_Name x.1 x.2) tyokG (o_r5_Name) Try.checked.mixed ⟨Try.func73, by kernel_rfl, by kernel_rfl⟩ (loops_code (by kernel_rfl) (loopIn_cons (by kernel_rfl) (lL_r5_Name_l0) (loopsIn_nil))) (by kernel_rfl) (fun x K => wt_r5_Name x K)
theorem o_r9_Heeds : ConOK Try.prog (S_r9_Heeds) := conOK_of consOK_nil rfl
theorem c_r9_Heeds : ConOne Try.prog 96 K_r9_Heeds :=
  con_T (a := (.cons (.S .cnf) .int)) (r := (.dt .bool)) (t := fun x => t_r9_Heeds x.1 x.2) tyokG (o_r9_Heeds) Try.checked.mixed ⟨Try.func96, by kernel_rfl, by kernel_rfl⟩ (loops_none (by kernel_rfl)) (by kernel_rfl) (fun x K => wt_r9_Heeds x K)
theorem o_r10_has : ConOK Try.prog (S_r10_has) := conOK_of (consOK_cons c_r3_Get (consOK_cons c_r5_Name consOK_nil)) rfl
theorem c_r10_has : ConOne Try.prog 110 K_r10_has :=
  con_T (a := (.cons (.S .dsk) (.cons .int .str))) (r := (.dt .bool)) (t := fun x => t_r10_has x.1 x.2.1 x.2.2) tyokG (o_r10_has) Try.checked.mixed ⟨Try.func110, by kernel_rfl, by kernel_rfl⟩ (loops_none (by kernel_rfl)) (by kernel_rfl) (fun x K => wt_r10_has x K)
theorem o_r10_Cuts : ConOK Try.prog (S_r10_Cuts) := conOK_of (consOK_cons c_r10_has consOK_nil) rfl
theorem c_r10_Cuts : ConOne Try.prog 97 K_r10_Cuts :=
  con_T (a := (.cons (.S .dsk) .int)) (r := (.dt .bool)) (t := fun x => t_r10_Cuts x.1 x.2) tyokG (o_r10_Cuts) Try.checked.mixed ⟨Try.func97, by kernel_rfl, by kernel_rfl⟩ (loops_none (by kernel_rfl)) (by kernel_rfl) (fun x K => wt_r10_Cuts x K)
theorem o_r11_cut : ConOK Try.prog (S_r11_cut) := conOK_of (consOK_cons c_r9_Heeds (consOK_cons c_r10_Cuts consOK_nil)) rfl
theorem c_r11_cut : ConOne Try.prog 74 K_r11_cut :=
  con_T (a := (.cons (.S .wld) (.S .spt))) (r := (.dt .bool)) (t := fun x => t_r11_cut x.1 x.2) tyokG (o_r11_cut) Try.checked.mixed ⟨Try.func74, by kernel_rfl, by kernel_rfl⟩ (loops_none (by kernel_rfl)) (by kernel_rfl) (fun x K => wt_r11_cut x K)
theorem o_r10_White : ConOK Try.prog (S_r10_White) := conOK_of consOK_nil rfl
theorem c_r10_White : ConOne Try.prog 111 K_r10_White :=
  con_T (a := .str) (r := (.dt .str)) (t := fun x => t_r10_White x) tyokG (o_r10_White) Try.checked.mixed ⟨Try.func111, by kernel_rfl, by kernel_rfl⟩ (loops_none (by kernel_rfl)) (by kernel_rfl) (fun x K => wt_r10_White x K)
theorem o_r10_Hides : ConOK Try.prog (S_r10_Hides) := conOK_of (consOK_cons c_r10_White (consOK_cons c_r10_has consOK_nil)) rfl
theorem c_r10_Hides : ConOne Try.prog 98 K_r10_Hides :=
  con_T (a := (.cons (.S .dsk) (.cons .int .str))) (r := (.dt .bool)) (t := fun x => t_r10_Hides x.1 x.2.1 x.2.2) tyokG (o_r10_Hides) Try.checked.mixed ⟨Try.func98, by kernel_rfl, by kernel_rfl⟩ (loops_none (by kernel_rfl)) (by kernel_rfl) (fun x K => wt_r10_Hides x K)
theorem o_r11_hides : ConOK Try.prog (S_r11_hides) := conOK_of (consOK_cons c_r9_Heeds (consOK_cons c_r10_Hides consOK_nil)) rfl
theorem c_r11_hides : ConOne Try.prog 75 K_r11_hides :=
  con_T (a := (.cons (.S .wld) (.cons (.S .spt) .str))) (r := (.dt .bool)) (t := fun x => t_r11_hides x.1 x.2.1 x.2.2) tyokG (o_r11_hides) Try.checked.mixed ⟨Try.func75, by kernel_rfl, by kernel_rfl⟩ (loops_none (by kernel_rfl)) (by kernel_rfl) (fun x K => wt_r11_hides x K)
theorem o_r11_look : ConOK Try.prog (S_r11_look) := conOK_of (consOK_cons c_r3_Get (consOK_cons c_r5_Name (consOK_cons c_r11_cut (consOK_cons c_r11_hides consOK_nil)))) rfl
theorem lL_r11_look_l0 : LoopOK Try.prog Try.f46.ntmps (loopT [1, 2, 3, 8, 9, 10] (.cons (.dt (.L .spt)) (.cons (.dt .str) (.cons (.boxS .wld []) (.cons (.gs .spt) (.cons (.dt .int) (.dt .int)))))) [⟨.ret, [6, 7], (.cons (.dt (.L .spt)) (.dt .int))⟩, ⟨.exit 0, [8, 9], (.cons (.gs .spt) (.dt .int))⟩] (L_r11_look_l0)) (loopAt Try.f46 0) :=
  loopT_ok (live := [1, 2, 3, 8, 9, 10]) (vt := (.cons (.dt (.L .spt)) (.cons (.dt .str) (.cons (.boxS .wld []) (.cons (.gs .spt) (.cons (.dt .int) (.dt .int))))))) (ex := [⟨.ret, [6, 7], (.cons (.dt (.L .spt)) (.dt .int))⟩, ⟨.exit 0, [8, 9], (.cons (.gs .spt) (.dt .int))⟩]) tyokG (o_r11_look) Try.checked.mixed (by kernel_rfl) (by kernel_rfl) (by kernel_rfl) (loops_nil (by kernel_rfl)) (t := fun q => tl_r11_look_l0 q.1 q.2.1 q.2.2.1 q.2.2.2.1 q.2.2.2.2.1 q.2.2.2.2.2) (by kernel_rfl) (fun p K => wtl_r11_look_l0 p K)
theorem c_r11_look : ConOne Try.prog 46 K_r11_look :=
  con_T (a := (.cons (.S .wld) (.cons (.L .spt) .str))) (r := (.cons (.dt (.L .spt)) (.dt .int))) (t := fun x => t_r11_look x.1 x.2.1 x.2.2) tyokG (o_r11_look) Try.checked.mixed ⟨Try.func46, by kernel_rfl, by kernel_rfl⟩ (loops_code (by kernel_rfl) (loopIn_cons (by kernel_rfl) (lL_r11_look_l0) (loopsIn_nil))) (by kernel_rfl) (fun x K => wt_r11_look x K)
theorem o_r11_Seen : ConOK Try.prog (S_r11_Seen) := conOK_of (consOK_cons c_r11_look consOK_nil) rfl
theorem c_r11_Seen : ConOne Try.prog 27 K_r11_Seen :=
  con_T (a := (.cons (.S .wld) (.cons (.L .spt) .str))) (r := (.dt (.L .spt))) (t := fun x => t_r11_Seen x.1 x.2.1 x.2.2) tyokG (o_r11_Seen) Try.checked.mixed ⟨Try.func27, by kernel_rfl, by kernel_rfl⟩ (loops_none (by kernel_rfl)) (by kernel_rfl) (fun x K => wt_r11_Seen x K)
theorem o_r11_Limit : ConOK Try.prog (S_r11_Limit) := conOK_of (consOK_cons c_r11_look consOK_nil) rfl
theorem c_r11_Limit : ConOne Try.prog 28 K_r11_Limit :=
  con_T (a := (.cons (.S .wld) (.cons (.L .spt) .str))) (r := (.dt .int)) (t := fun x => t_r11_Limit x.1 x.2.1 x.2.2) tyokG (o_r11_Limit) Try.checked.mixed ⟨Try.func28, by kernel_rfl, by kernel_rfl⟩ (loops_none (by kernel_rfl)) (by kernel_rfl) (fun x K => wt_r11_Limit x K)
theorem o_r12_Find : ConOK Try.prog (S_r12_Find) := conOK_of (consOK_cons c_r11_Roots (consOK_cons c_r12_IsDir (consOK_cons c_r11_Seen (consOK_cons c_r11_Limit consOK_nil)))) rfl
theorem lL_r12_Find_l0 : LoopOK Try.prog Try.f11.ntmps (loopT [1, 2, 7, 8, 9] (.cons (.dt (.L .str)) (.cons (.boxS .wld []) (.cons (.dt (.L .spt)) (.cons (.dt .int) (.dt .int))))) [⟨.ret, [4, 5, 6], (.cons (.dt (.L .spt)) (.cons (.dt .int) (.dt .int)))⟩, ⟨.exit 0, [7, 8], (.cons (.dt (.L .spt)) (.dt .int))⟩] (L_r12_Find_l0)) (loopAt Try.f11 0) :=
  loopT_ok (live := [1, 2, 7, 8, 9]) (vt := (.cons (.dt (.L .str)) (.cons (.boxS .wld []) (.cons (.dt (.L .spt)) (.cons (.dt .int) (.dt .int)))))) (ex := [⟨.ret, [4, 5, 6], (.cons (.dt (.L .spt)) (.cons (.dt .int) (.dt .int)))⟩, ⟨.exit 0, [7, 8], (.cons (.dt (.L .spt)) (.dt .int))⟩]) tyokG (o_r12_Find) Try.checked.mixed (by kernel_rfl) (by kernel_rfl) (by kernel_rfl) (loops_nil (by kernel_rfl)) (t := fun q => tl_r12_Find_l0 q.1 q.2.1 q.2.2.1 q.2.2.2.1 q.2.2.2.2) (by kernel_rfl) (fun p K => wtl_r12_Find_l0 p K)
theorem c_r12_Find : ConOne Try.prog 11 K_r12_Find :=
  con_T (a := (.cons (.S .wld) (.L .str))) (r := (.cons (.dt (.L .spt)) (.cons (.dt .int) (.dt .int)))) (t := fun x => t_r12_Find x.1 x.2) tyokG (o_r12_Find) Try.checked.mixed ⟨Try.func11, by kernel_rfl, by kernel_rfl⟩ (loops_code (by kernel_rfl) (loopIn_cons (by kernel_rfl) (lL_r12_Find_l0) (loopsIn_nil))) (by kernel_rfl) (fun x K => wt_r12_Find x K)
theorem o_r11_Spots : ConOK Try.prog (S_r11_Spots) := conOK_of consOK_nil rfl
theorem lL_r11_Spots_l0 : LoopOK Try.prog Try.f12.ntmps (loopT [0, 1, 5] (.cons (.dt (.L .spt)) (.cons (.dt (.L .spt)) (.dt .int))) [⟨.ret, [4], (.dt .bool)⟩, ⟨.exit 0, [], .nil⟩] (L_r11_Spots_l0)) (loopAt Try.f12 0) :=
  loopT_ok (live := [0, 1, 5]) (vt := (.cons (.dt (.L .spt)) (.cons (.dt (.L .spt)) (.dt .int)))) (ex := [⟨.ret, [4], (.dt .bool)⟩, ⟨.exit 0, [], .nil⟩]) tyokG (o_r11_Spots) Try.checked.mixed (by kernel_rfl) (by kernel_rfl) (by kernel_rfl) (loops_nil (by kernel_rfl)) (t := fun q => tl_r11_Spots_l0 q.1 q.2.1 q.2.2) (by kernel_rfl) (fun p K => wtl_r11_Spots_l0 p K)
theorem c_r11_Spots : ConOne Try.prog 12 K_r11_Spots :=
  con_T (a := (.cons (.L .spt) (.L .spt))) (r := (.dt .bool)) (t := fun x => t_r11_Spots x.1 x.2) tyokG (o_r11_Spots) Try.checked.mixed ⟨Try.func12, by kernel_rfl, by kernel_rfl⟩ (loops_code (by kernel_rfl) (loopIn_cons (by kernel_rfl) (lL_r11_Spots_l0) (loopsIn_nil))) (by kernel_rfl) (fun x K => wt_r11_Spots x K)
theorem o_r3_names : ConOK Try.prog (S_r3_names) := conOK_of consOK_nil rfl
theorem lL_r3_names_l0 : LoopOK Try.prog Try.f29.ntmps (loopT [0, 1, 5] (.cons (.dt (.L .nam)) (.cons (.dt (.L .nam)) (.dt .int))) [⟨.ret, [4], (.dt .bool)⟩, ⟨.exit 0, [], .nil⟩] (L_r3_names_l0)) (loopAt Try.f29 0) :=
  loopT_ok (live := [0, 1, 5]) (vt := (.cons (.dt (.L .nam)) (.cons (.dt (.L .nam)) (.dt .int)))) (ex := [⟨.ret, [4], (.dt .bool)⟩, ⟨.exit 0, [], .nil⟩]) tyokG (o_r3_names) Try.checked.mixed (by kernel_rfl) (by kernel_rfl) (by kernel_rfl) (loops_nil (by kernel_rfl)) (t := fun q => tl_r3_names_l0 q.1 q.2.1 q.2.2) (by kernel_rfl) (fun p K => wtl_r3_names_l0 p K)
theorem c_r3_names : ConOne Try.prog 29 K_r3_names :=
  con_T (a := (.cons (.L .nam) (.L .nam))) (r := (.dt .bool)) (t := fun x => t_r3_names x.1 x.2) tyokG (o_r3_names) Try.checked.mixed ⟨Try.func29, by kernel_rfl, by kernel_rfl⟩ (loops_code (by kernel_rfl) (loopIn_cons (by kernel_rfl) (lL_r3_names_l0) (loopsIn_nil))) (by kernel_rfl) (fun x K => wt_r3_names x K)
theorem o_r2_find : ConOK Try.prog (S_r2_find) := conOK_of consOK_nil rfl
theorem lL_r2_find_l0 : LoopOK Try.prog Try.f99.ntmps (loopT [1, 2, 5] (.cons (.dt .int) (.cons (.boxS .fil []) (.dt .int))) [⟨.ret, [4], (.dt .int)⟩, ⟨.exit 0, [], .nil⟩] (L_r2_find_l0)) (loopAt Try.f99 0) :=
  loopT_ok (live := [1, 2, 5]) (vt := (.cons (.dt .int) (.cons (.boxS .fil []) (.dt .int)))) (ex := [⟨.ret, [4], (.dt .int)⟩, ⟨.exit 0, [], .nil⟩]) tyokG (o_r2_find) Try.checked.mixed (by kernel_rfl) (by kernel_rfl) (by kernel_rfl) (loops_nil (by kernel_rfl)) (t := fun q => tl_r2_find_l0 q.1 q.2.1 q.2.2) (by kernel_rfl) (fun p K => wtl_r2_find_l0 p K)
theorem c_r2_find : ConOne Try.prog 99 K_r2_find :=
  con_T (a := (.cons (.S .fil) .int)) (r := (.dt .int)) (t := fun x => t_r2_find x.1 x.2) tyokG (o_r2_find) Try.checked.mixed ⟨Try.func99, by kernel_rfl, by kernel_rfl⟩ (loops_code (by kernel_rfl) (loopIn_cons (by kernel_rfl) (lL_r2_find_l0) (loopsIn_nil))) (by kernel_rfl) (fun x K => wt_r2_find x K)
theorem o_r2_byteAt : ConOK Try.prog (S_r2_byteAt) := conOK_of (consOK_cons c_r2_find consOK_nil) rfl
theorem c_r2_byteAt : ConOne Try.prog 76 K_r2_byteAt :=
  con_T (a := (.cons (.S .fil) .int)) (r := (.dt .u8)) (t := fun x => t_r2_byteAt x.1 x.2) tyokG (o_r2_byteAt) Try.checked.mixed ⟨Try.func76, by kernel_rfl, by kernel_rfl⟩ (loops_none (by kernel_rfl)) (by kernel_rfl) (fun x K => wt_r2_byteAt x K)
theorem o_r2_Read : ConOK Try.prog (S_r2_Read) := conOK_of (consOK_cons c_r2_byteAt consOK_nil) rfl
theorem lL_r2_Read_l0 : LoopOK Try.prog Try.f47.ntmps (loopT [1, 2, 3, 7, 8] (.cons (.dt .int) (.cons (.dt .int) (.cons (.boxS .fil []) (.cons (.gs .u8) (.dt .int))))) [⟨.exit 0, [7], (.gs .u8)⟩] (L_r2_Read_l0)) (loopAt Try.f47 0) :=
  loopT_ok (live := [1, 2, 3, 7, 8]) (vt := (.cons (.dt .int) (.cons (.dt .int) (.cons (.boxS .fil []) (.cons (.gs .u8) (.dt .int)))))) (ex := [⟨.exit 0, [7], (.gs .u8)⟩]) tyokG (o_r2_Read) Try.checked.mixed (by kernel_rfl) (by kernel_rfl) (by kernel_rfl) (loops_nil (by kernel_rfl)) (t := fun q => tl_r2_Read_l0 q.1 q.2.1 q.2.2.1 q.2.2.2.1 q.2.2.2.2) (by kernel_rfl) (fun p K => wtl_r2_Read_l0 p K)
theorem c_r2_Read : ConOne Try.prog 47 K_r2_Read :=
  con_T (a := (.cons (.S .fil) (.cons .int .int))) (r := (.dt (.L .u8))) (t := fun x => t_r2_Read x.1 x.2.1 x.2.2) tyokG (o_r2_Read) Try.checked.mixed ⟨Try.func47, by kernel_rfl, by kernel_rfl⟩ (loops_code (by kernel_rfl) (loopIn_cons (by kernel_rfl) (lL_r2_Read_l0) (loopsIn_nil))) (by kernel_rfl) (fun x K => wt_r2_Read x K)
theorem o_r2_Same : ConOK Try.prog (S_r2_Same) := conOK_of (consOK_cons c_r2_Read consOK_nil) rfl
theorem c_r2_Same : ConOne Try.prog 30 K_r2_Same :=
  con_T (a := (.cons (.S .fil) (.S .fil))) (r := (.dt .bool)) (t := fun x => t_r2_Same x.1 x.2) tyokG (o_r2_Same) Try.checked.mixed ⟨Try.func30, by kernel_rfl, by kernel_rfl⟩ (loops_none (by kernel_rfl)) (by kernel_rfl) (fun x K => wt_r2_Same x K)
theorem o_r3_Nodes : ConOK Try.prog (S_r3_Nodes) := conOK_of (consOK_cons c_r3_names (consOK_cons c_r2_Same consOK_nil)) rfl
theorem c_r3_Nodes : ConOne Try.prog 15 K_r3_Nodes :=
  con_T (a := (.cons (.S .nod) (.S .nod))) (r := (.dt .bool)) (t := fun x => t_r3_Nodes x.1 x.2) tyokG (o_r3_Nodes) Try.checked.mixed ⟨Try.func15, by kernel_rfl, by kernel_rfl⟩ (loops_none (by kernel_rfl)) (by kernel_rfl) (fun x K => wt_r3_Nodes x K)
theorem o_r3_New : ConOK Try.prog (S_r3_New) := conOK_of consOK_nil rfl
theorem c_r3_New : ConOne Try.prog 6 K_r3_New :=
  con_T (a := (.cons .int .int)) (r := (.dt (.S .dsk))) (t := fun x => t_r3_New x.1 x.2) tyokG (o_r3_New) Try.checked.mixed ⟨Try.func6, by kernel_rfl, by kernel_rfl⟩ (loops_none (by kernel_rfl)) (by kernel_rfl) (fun x K => wt_r3_New x K)
theorem o_law12_known : ConOK Try.prog (S_law12_known) := conOK_of (consOK_cons c_r3_New (consOK_cons c_walk_Find (consOK_cons c_walk_IsDir (consOK_cons c_walk_Node consOK_nil)))) rfl
theorem c_law12_known : ConOne Try.prog 9 K_law12_known :=
  con_T (a := .nil) (r := (.dt .bool)) (t := fun x => t_law12_known) tyokG (o_law12_known) Try.checked.mixed ⟨Try.func9, by kernel_rfl, by kernel_rfl⟩ (loops_none (by kernel_rfl)) (by kernel_rfl) (fun x K => wt_law12_known x K)
end Go.Proofs.Ytjichafmpanegaa.VS
