/- What functions answer, by their texts. Printed by a program of this work. Conditions: none. -/
import Derived.Test.YtjichafmpanegaaYK
import Derived.KernelRfl
namespace Go.Proofs.Ytjichafmpanegaa.VS
set_option maxRecDepth 100000
set_option maxHeartbeats 0
set_option linter.unusedVariables false
/-! veneer/veneerref3.New -/
noncomputable def t_r3_New (a0 : Int) (a1 : Int) : T Dsk :=
  (T.ret (Dsk.mk a0 a1 (2 : Int) [Nod.mk (1 : Int) (2 : Int) (493 : Int) (1 : Int) (Fil.mk (0 : Int) []) [] []]))
noncomputable def f_r3_New (a0 : Int) (a1 : Int) : Option Dsk := (t_r3_New a0 a1).run
noncomputable def K_r3_New : List AV → Option Con := conT (.cons .int .int) (.dt (.S .dsk)) fun x => f_r3_New x.1 x.2
noncomputable def S_r3_New : SE := { T := tabs, con := conOf [], own := fun f => false, gt := gtS, loop := lpOf [] }
/-! veneer/seen.Roots -/
noncomputable def tl_seen_Roots_l0 (s3 : (List Spt)) (s7 : Int) (s8 : Int) : T (((List Spt) × (Int × Int)) ⊕ (List Spt)) :=
  (T.ite (decide (s8 < s7)) (T.req (s3.length = s3.length ∧ roomP (s3 ++ [Spt.mk s8 (1 : Int)]).length (16 : Nat)) (T.same ((s3 ++ [Spt.mk s8 (1 : Int)]).length) (T.ret (Sum.inl (s3 ++ [Spt.mk s8 (1 : Int)], s7, IntKind.i64.wrap (s8 + (1 : Int))))))) (T.same (s3.length) (T.ret (Sum.inr s3))))
noncomputable def L_seen_Roots_l0 : ((List Spt) × (Int × Int)) → Option (List Spt) := fixT fun q => tl_seen_Roots_l0 q.1 q.2.1 q.2.2
noncomputable def t_seen_Roots (a0 : Wld) : T (List Spt) :=
  (T.bind (L_seen_Roots_l0 ([], (↑a0.disks.length : Int), (0 : Int))) fun r0 => (T.same (List.length r0) (T.ret (r0))))
noncomputable def f_seen_Roots (a0 : Wld) : Option (List Spt) := (t_seen_Roots a0).run
noncomputable def K_seen_Roots : List AV → Option Con := conT (.S .wld) (.dt (.L .spt)) fun x => f_seen_Roots x
noncomputable def S_seen_Roots : SE := { T := tabs, con := conOf [], own := fun f => false, gt := gtS, loop := lpOf [(4, loopT [3, 7, 8] (.cons (.gs .spt) (.cons (.dt .int) (.dt .int))) [⟨.exit 0, [3], (.gs .spt)⟩] (L_seen_Roots_l0))] }
/-! cmp.isNaN[int64] -/
noncomputable def t_cmp_isNaN_int64 (a0 : Int) : T Bool :=
  (T.ret (a0 != a0))
noncomputable def f_cmp_isNaN_int64 (a0 : Int) : Option Bool := (t_cmp_isNaN_int64 a0).run
noncomputable def K_cmp_isNaN_int64 : List AV → Option Con := conT .int (.dt .bool) fun x => f_cmp_isNaN_int64 x
noncomputable def S_cmp_isNaN_int64 : SE := { T := tabs, con := conOf [], own := fun f => false, gt := gtS, loop := lpOf [] }
/-! cmp.Compare[int64] -/
noncomputable def t_cmp_Compare_int64 (a0 : Int) (a1 : Int) : T Int :=
  (T.bind (f_cmp_isNaN_int64 a0) fun r0 => (T.bind (f_cmp_isNaN_int64 a1) fun r1 => (T.ite (r0) (T.ite (r1) (T.ret ((0 : Int))) (T.ret ((-1 : Int)))) (T.ite (r1) (T.ret ((1 : Int))) (T.ite (decide (a0 < a1)) (T.ret ((-1 : Int))) (T.ite (decide (a0 > a1)) (T.ret ((1 : Int))) (T.ret ((0 : Int)))))))))
noncomputable def f_cmp_Compare_int64 (a0 : Int) (a1 : Int) : Option Int := (t_cmp_Compare_int64 a0 a1).run
noncomputable def K_cmp_Compare_int64 : List AV → Option Con := conT (.cons .int .int) (.dt .int) fun x => f_cmp_Compare_int64 x.1 x.2
noncomputable def S_cmp_Compare_int64 : SE := { T := tabs, con := conOf [(100, K_cmp_isNaN_int64)], own := fun f => false, gt := gtS, loop := lpOf [] }
/-! veneer/disk.place$1 -/
noncomputable def t_disk_place_1 (a0 : Nod) (a1 : Int) : T Int :=
  (T.bind (f_cmp_Compare_int64 a0.ino a1) fun r0 => (T.ret (r0)))
noncomputable def f_disk_place_1 (a0 : Nod) (a1 : Int) : Option Int := (t_disk_place_1 a0 a1).run
noncomputable def K_disk_place_1 : List AV → Option Con := conT (.cons (.S .nod) .int) (.dt .int) fun x => f_disk_place_1 x.1 x.2
noncomputable def S_disk_place_1 : SE := { T := tabs, con := conOf [(79, K_cmp_Compare_int64)], own := fun f => false, gt := gtS, loop := lpOf [] }
/-! slices.BinarySearchFunc[[]veneer/api.Node,veneer/api.Node,int64] -/
noncomputable def tl_slices_BinarySearchFunc_Node_int64__disk_place_1_l0 (s0 : (List Nod)) (s1 : Int) (s2 : Unit) (s8 : Int) (s9 : Int) (s10 : Int) : T (((List Nod) × (Int × (Unit × (Int × (Int × Int))))) ⊕ ((List Nod) × (Int × (Unit × (Int × Int))))) :=
  (T.ite (decide (s9 < s10)) (T.req ((0 : Int) ≤ (1 : Int)) (T.req ((0 : Int) ≤ IntKind.i64.wrap ((IntKind.u64.wrap (IntKind.i64.wrap (s9 + s10))).fdiv ((2 : Int) ^ min (Int.toNat (1 : Int)) IntKind.u64.bits)) ∧ IntKind.i64.wrap ((IntKind.u64.wrap (IntKind.i64.wrap (s9 + s10))).fdiv ((2 : Int) ^ min (Int.toNat (1 : Int)) IntKind.u64.bits)) < (↑s0.length : Int)) (T.bind (f_disk_place_1 (s0.getD (IntKind.i64.wrap ((IntKind.u64.wrap (IntKind.i64.wrap (s9 + s10))).fdiv ((2 : Int) ^ min (Int.toNat (1 : Int)) IntKind.u64.bits))).toNat GT.nod.nought) s1) fun r0 => (T.ite (decide (r0 < (0 : Int))) (T.ret (Sum.inl (s0, s1, (), s8, IntKind.i64.wrap (IntKind.i64.wrap ((IntKind.u64.wrap (IntKind.i64.wrap (s9 + s10))).fdiv ((2 : Int) ^ min (Int.toNat (1 : Int)) IntKind.u64.bits)) + (1 : Int)), s10))) (T.ret (Sum.inl (s0, s1, (), s8, s9, IntKind.i64.wrap ((IntKind.u64.wrap (IntKind.i64.wrap (s9 + s10))).fdiv ((2 : Int) ^ min (Int.toNat (1 : Int)) IntKind.u64.bits))))))))) (T.ret (Sum.inr (s0, s1, (), s8, s9))))
noncomputable def L_slices_BinarySearchFunc_Node_int64__disk_place_1_l0 : ((List Nod) × (Int × (Unit × (Int × (Int × Int))))) → Option ((List Nod) × (Int × (Unit × (Int × Int)))) := fixT fun q => tl_slices_BinarySearchFunc_Node_int64__disk_place_1_l0 q.1 q.2.1 q.2.2.1 q.2.2.2.1 q.2.2.2.2.1 q.2.2.2.2.2
noncomputable def t_slices_BinarySearchFunc_Node_int64__disk_place_1 (a0 : (List Nod)) (a1 : Int) (a2 : Unit) : T (Int × Bool) :=
  (T.bind (L_slices_BinarySearchFunc_Node_int64__disk_place_1_l0 (a0, a1, (), (↑a0.length : Int), (0 : Int), (↑a0.length : Int))) fun r0 => (T.ite (decide (r0.snd.snd.snd.snd < r0.snd.snd.snd.fst)) (T.req ((0 : Int) ≤ r0.snd.snd.snd.snd ∧ r0.snd.snd.snd.snd < (↑(List.length r0.fst) : Int)) (T.bind (f_disk_place_1 (List.getD r0.fst (Int.toNat r0.snd.snd.snd.snd) GT.nod.nought) r0.snd.fst) fun r1 => (T.ret ((r0.snd.snd.snd.snd, r1 == (0 : Int)))))) (T.ret ((r0.snd.snd.snd.snd, false)))))
noncomputable def f_slices_BinarySearchFunc_Node_int64__disk_place_1 (a0 : (List Nod)) (a1 : Int) (a2 : Unit) : Option (Int × Bool) := (t_slices_BinarySearchFunc_Node_int64__disk_place_1 a0 a1 a2).run
noncomputable def K_slices_BinarySearchFunc_Node_int64__disk_place_1 : List AV → Option Con := conT (.cons (.L .nod) (.cons .int (.clo 78 .nil))) (.cons (.dt .int) (.dt .bool)) fun x => f_slices_BinarySearchFunc_Node_int64__disk_place_1 x.1 x.2.1 x.2.2
noncomputable def S_slices_BinarySearchFunc_Node_int64__disk_place_1 : SE := { T := tabs, con := conOf [(78, K_disk_place_1)], own := fun f => false, gt := gtS, loop := lpOf [(4, loopT [0, 1, 2, 8, 9, 10] (.cons (.dt (.L .nod)) (.cons (.dt .int) (.cons (.dt (.clo 78 .nil)) (.cons (.dt .int) (.cons (.dt .int) (.dt .int)))))) [⟨.exit 0, [0, 1, 2, 8, 9], (.cons (.dt (.L .nod)) (.cons (.dt .int) (.cons (.dt (.clo 78 .nil)) (.cons (.dt .int) (.dt .int)))))⟩] (L_slices_BinarySearchFunc_Node_int64__disk_place_1_l0))] }
/-! veneer/disk.place -/
noncomputable def t_disk_place (a0 : Dsk) (a1 : Int) : T (Int × Bool) :=
  (T.bind (f_slices_BinarySearchFunc_Node_int64__disk_place_1 a0.nodes a1 ()) fun r0 => (T.ret ((r0.fst, r0.snd))))
noncomputable def f_disk_place (a0 : Dsk) (a1 : Int) : Option (Int × Bool) := (t_disk_place a0 a1).run
noncomputable def K_disk_place : List AV → Option Con := conT (.cons (.S .dsk) .int) (.cons (.dt .int) (.dt .bool)) fun x => f_disk_place x.1 x.2
noncomputable def S_disk_place : SE := { T := tabs, con := conOf [(77, K_slices_BinarySearchFunc_Node_int64__disk_place_1)], own := fun f => false, gt := gtS, loop := lpOf [] }
/-! slices.Clone[[]veneer/api.Block,veneer/api.Block] -/
noncomputable def f_slices_Clone_Block (a0 : (List Blk)) : Option (List Blk) := fClone 32 a0
noncomputable def K_slices_Clone_Block : List AV → Option Con := conT (.L .blk) (.gs .blk) fun x => f_slices_Clone_Block x
/-! slices.Clone[[]byte,byte] -/
noncomputable def f_slices_Clone_byte (a0 : (List UInt8)) : Option (List UInt8) := fClone 1 a0
noncomputable def K_slices_Clone_byte : List AV → Option Con := conT (.L .u8) (.gs .u8) fun x => f_slices_Clone_byte x
/-! veneer/disk.file -/
noncomputable def tl_disk_file_l0 (s1 : Fil) (s2 : Fil) (s10 : Int) (s11 : Int) : T ((Fil × (Fil × (Int × Int))) ⊕ (Fil × Fil)) :=
  (T.ite (decide (s11 < s10)) (T.req ((0 : Int) ≤ s11 ∧ s11 < (↑s1.blocks.length : Int)) (T.req (s11.toNat < s1.blocks.length) (T.bind (f_slices_Clone_byte (s1.blocks.getD s11.toNat GT.blk.nought).data) fun r0 => (T.same (List.length r0) (T.req ((0 : Int) ≤ s11 ∧ s11 < (↑s1.blocks.length : Int)) (T.req (s11.toNat < s1.blocks.length) (T.req (s1.blocks.length = (s1.blocks.set s11.toNat (Blk.mk (s1.blocks.getD s11.toNat GT.blk.nought).pos r0)).length) (T.ret (Sum.inl (Fil.mk s1.size (s1.blocks.set s11.toNat (Blk.mk (s1.blocks.getD s11.toNat GT.blk.nought).pos r0)), s2, s10, IntKind.i64.wrap (s11 + (1 : Int)))))))))))) (T.same (s1.blocks.length) (T.ret (Sum.inr (s1, s2)))))
noncomputable def L_disk_file_l0 : (Fil × (Fil × (Int × Int))) → Option (Fil × Fil) := fixT fun q => tl_disk_file_l0 q.1 q.2.1 q.2.2.1 q.2.2.2
noncomputable def t_disk_file (a0 : Fil) : T Fil :=
  (T.bind (f_slices_Clone_Block a0.blocks) fun r0 => (T.same (List.length r0) (T.bind (L_disk_file_l0 (Fil.mk a0.size r0, Fil.mk (0 : Int) [], (↑(List.length r0) : Int), (0 : Int))) fun r1 => (T.same (r1.fst.blocks.length) (T.ret (r1.fst))))))
noncomputable def f_disk_file (a0 : Fil) : Option Fil := (t_disk_file a0).run
noncomputable def K_disk_file : List AV → Option Con := conT (.S .fil) (.dt (.S .fil)) fun x => f_disk_file x
noncomputable def S_disk_file : SE := { T := tabs, con := conOf [(101, K_slices_Clone_Block), (102, K_slices_Clone_byte)], own := fun f => isIn f [101], gt := gtS, loop := lpOf [(4, loopT [1, 2, 10, 11] (.cons (.boxS .fil [false, true]) (.cons (.boxS .fil []) (.cons (.dt .int) (.dt .int)))) [⟨.exit 0, [1, 2], (.cons (.boxS .fil [false, true]) (.boxS .fil []))⟩] (L_disk_file_l0))] }
/-! slices.Clone[[]veneer/api.Name,veneer/api.Name] -/
noncomputable def f_slices_Clone_Name (a0 : (List Nam)) : Option (List Nam) := fClone 24 a0
noncomputable def K_slices_Clone_Name : List AV → Option Con := conT (.L .nam) (.gs .nam) fun x => f_slices_Clone_Name x
/-! veneer/disk.node -/
noncomputable def t_disk_node (a0 : Nod) : T Nod :=
  (T.bind (f_disk_file a0.file) fun r0 => (T.bind (f_slices_Clone_Name a0.names) fun r1 => (T.same (List.length r1) (T.ret (Nod.mk a0.ino a0.kind a0.mode a0.links r0 a0.target r1)))))
noncomputable def f_disk_node (a0 : Nod) : Option Nod := (t_disk_node a0).run
noncomputable def K_disk_node : List AV → Option Con := conT (.S .nod) (.dt (.S .nod)) fun x => f_disk_node x
noncomputable def S_disk_node : SE := { T := tabs, con := conOf [(80, K_disk_file), (81, K_slices_Clone_Name)], own := fun f => false, gt := gtS, loop := lpOf [] }
/-! veneer/disk.Get -/
noncomputable def t_disk_Get (a0 : Dsk) (a1 : Int) : T (Nod × Bool) :=
  (T.bind (f_disk_place a0 a1) fun r0 => (T.ite (!r0.snd) (T.ret ((Nod.mk (0 : Int) (0 : Int) (0 : Int) (0 : Int) (Fil.mk (0 : Int) []) [] [], false))) (T.req ((0 : Int) ≤ r0.fst ∧ r0.fst < (↑a0.nodes.length : Int)) (T.bind (f_disk_node (a0.nodes.getD (Int.toNat r0.fst) GT.nod.nought)) fun r1 => (T.ret ((r1, true)))))))
noncomputable def f_disk_Get (a0 : Dsk) (a1 : Int) : Option (Nod × Bool) := (t_disk_Get a0 a1).run
noncomputable def K_disk_Get : List AV → Option Con := conT (.cons (.S .dsk) .int) (.cons (.dt (.S .nod)) (.dt .bool)) fun x => f_disk_Get x.1 x.2
noncomputable def S_disk_Get : SE := { T := tabs, con := conOf [(48, K_disk_place), (49, K_disk_node)], own := fun f => false, gt := gtS, loop := lpOf [] }
/-! veneer/walk.Node -/
noncomputable def t_walk_Node (a0 : Wld) (a1 : Spt) : T Nod :=
  (T.ite (decide (a1.branch < (0 : Int))) (T.ret (Nod.mk (0 : Int) (0 : Int) (0 : Int) (0 : Int) (Fil.mk (0 : Int) []) [] [])) (T.ite (decide (a1.branch ≥ (↑a0.disks.length : Int))) (T.ret (Nod.mk (0 : Int) (0 : Int) (0 : Int) (0 : Int) (Fil.mk (0 : Int) []) [] [])) (T.req ((0 : Int) ≤ a1.branch ∧ a1.branch < (↑a0.disks.length : Int)) (T.bind (f_disk_Get (a0.disks.getD a1.branch.toNat GT.dsk.nought) a1.ino) fun r0 => (T.ret (r0.fst))))))
noncomputable def f_walk_Node (a0 : Wld) (a1 : Spt) : Option Nod := (t_walk_Node a0 a1).run
noncomputable def K_walk_Node : List AV → Option Con := conT (.cons (.S .wld) (.S .spt)) (.dt (.S .nod)) fun x => f_walk_Node x.1 x.2
noncomputable def S_walk_Node : SE := { T := tabs, con := conOf [(31, K_disk_Get)], own := fun f => false, gt := gtS, loop := lpOf [] }
/-! veneer/walk.IsDir -/
noncomputable def t_walk_IsDir (a0 : Wld) (a1 : Spt) : T Bool :=
  (T.bind (f_walk_Node a0 a1) fun r0 => (T.ret (r0.kind == (2 : Int))))
noncomputable def f_walk_IsDir (a0 : Wld) (a1 : Spt) : Option Bool := (t_walk_IsDir a0 a1).run
noncomputable def K_walk_IsDir : List AV → Option Con := conT (.cons (.S .wld) (.S .spt)) (.dt .bool) fun x => f_walk_IsDir x.1 x.2
noncomputable def S_walk_IsDir : SE := { T := tabs, con := conOf [(16, K_walk_Node)], own := fun f => false, gt := gtS, loop := lpOf [] }
/-! veneer/seen.node$1 -/
noncomputable def t_seen_node_1 (a0 : Nod) (a1 : Int) : T Int :=
  (T.bind (f_cmp_Compare_int64 a0.ino a1) fun r0 => (T.ret (r0)))
noncomputable def f_seen_node_1 (a0 : Nod) (a1 : Int) : Option Int := (t_seen_node_1 a0 a1).run
noncomputable def K_seen_node_1 : List AV → Option Con := conT (.cons (.S .nod) .int) (.dt .int) fun x => f_seen_node_1 x.1 x.2
noncomputable def S_seen_node_1 : SE := { T := tabs, con := conOf [(79, K_cmp_Compare_int64)], own := fun f => false, gt := gtS, loop := lpOf [] }
/-! slices.BinarySearchFunc[[]veneer/api.Node,veneer/api.Node,int64] -/
noncomputable def tl_slices_BinarySearchFunc_Node_int64__seen_node_1_l0 (s0 : (List Nod)) (s1 : Int) (s2 : Unit) (s8 : Int) (s9 : Int) (s10 : Int) : T (((List Nod) × (Int × (Unit × (Int × (Int × Int))))) ⊕ ((List Nod) × (Int × (Unit × (Int × Int))))) :=
  (T.ite (decide (s9 < s10)) (T.req ((0 : Int) ≤ (1 : Int)) (T.req ((0 : Int) ≤ IntKind.i64.wrap ((IntKind.u64.wrap (IntKind.i64.wrap (s9 + s10))).fdiv ((2 : Int) ^ min (Int.toNat (1 : Int)) IntKind.u64.bits)) ∧ IntKind.i64.wrap ((IntKind.u64.wrap (IntKind.i64.wrap (s9 + s10))).fdiv ((2 : Int) ^ min (Int.toNat (1 : Int)) IntKind.u64.bits)) < (↑s0.length : Int)) (T.bind (f_seen_node_1 (s0.getD (IntKind.i64.wrap ((IntKind.u64.wrap (IntKind.i64.wrap (s9 + s10))).fdiv ((2 : Int) ^ min (Int.toNat (1 : Int)) IntKind.u64.bits))).toNat GT.nod.nought) s1) fun r0 => (T.ite (decide (r0 < (0 : Int))) (T.ret (Sum.inl (s0, s1, (), s8, IntKind.i64.wrap (IntKind.i64.wrap ((IntKind.u64.wrap (IntKind.i64.wrap (s9 + s10))).fdiv ((2 : Int) ^ min (Int.toNat (1 : Int)) IntKind.u64.bits)) + (1 : Int)), s10))) (T.ret (Sum.inl (s0, s1, (), s8, s9, IntKind.i64.wrap ((IntKind.u64.wrap (IntKind.i64.wrap (s9 + s10))).fdiv ((2 : Int) ^ min (Int.toNat (1 : Int)) IntKind.u64.bits))))))))) (T.ret (Sum.inr (s0, s1, (), s8, s9))))
noncomputable def L_slices_BinarySearchFunc_Node_int64__seen_node_1_l0 : ((List Nod) × (Int × (Unit × (Int × (Int × Int))))) → Option ((List Nod) × (Int × (Unit × (Int × Int)))) := fixT fun q => tl_slices_BinarySearchFunc_Node_int64__seen_node_1_l0 q.1 q.2.1 q.2.2.1 q.2.2.2.1 q.2.2.2.2.1 q.2.2.2.2.2
noncomputable def t_slices_BinarySearchFunc_Node_int64__seen_node_1 (a0 : (List Nod)) (a1 : Int) (a2 : Unit) : T (Int × Bool) :=
  (T.bind (L_slices_BinarySearchFunc_Node_int64__seen_node_1_l0 (a0, a1, (), (↑a0.length : Int), (0 : Int), (↑a0.length : Int))) fun r0 => (T.ite (decide (r0.snd.snd.snd.snd < r0.snd.snd.snd.fst)) (T.req ((0 : Int) ≤ r0.snd.snd.snd.snd ∧ r0.snd.snd.snd.snd < (↑(List.length r0.fst) : Int)) (T.bind (f_seen_node_1 (List.getD r0.fst (Int.toNat r0.snd.snd.snd.snd) GT.nod.nought) r0.snd.fst) fun r1 => (T.ret ((r0.snd.snd.snd.snd, r1 == (0 : Int)))))) (T.ret ((r0.snd.snd.snd.snd, false)))))
noncomputable def f_slices_BinarySearchFunc_Node_int64__seen_node_1 (a0 : (List Nod)) (a1 : Int) (a2 : Unit) : Option (Int × Bool) := (t_slices_BinarySearchFunc_Node_int64__seen_node_1 a0 a1 a2).run
noncomputable def K_slices_BinarySearchFunc_Node_int64__seen_node_1 : List AV → Option Con := conT (.cons (.L .nod) (.cons .int (.clo 94 .nil))) (.cons (.dt .int) (.dt .bool)) fun x => f_slices_BinarySearchFunc_Node_int64__seen_node_1 x.1 x.2.1 x.2.2
noncomputable def S_slices_BinarySearchFunc_Node_int64__seen_node_1 : SE := { T := tabs, con := conOf [(94, K_seen_node_1)], own := fun f => false, gt := gtS, loop := lpOf [(4, loopT [0, 1, 2, 8, 9, 10] (.cons (.dt (.L .nod)) (.cons (.dt .int) (.cons (.dt (.clo 94 .nil)) (.cons (.dt .int) (.cons (.dt .int) (.dt .int)))))) [⟨.exit 0, [0, 1, 2, 8, 9], (.cons (.dt (.L .nod)) (.cons (.dt .int) (.cons (.dt (.clo 94 .nil)) (.cons (.dt .int) (.dt .int)))))⟩] (L_slices_BinarySearchFunc_Node_int64__seen_node_1_l0))] }
/-! veneer/seen.node -/
noncomputable def t_seen_node (a0 : Wld) (a1 : Spt) : T Nod :=
  (T.req ((0 : Int) ≤ a1.branch ∧ a1.branch < (↑a0.disks.length : Int)) (T.bind (f_slices_BinarySearchFunc_Node_int64__seen_node_1 (a0.disks.getD a1.branch.toNat GT.dsk.nought).nodes a1.ino ()) fun r0 => (T.ite (!r0.snd) (T.ret (Nod.mk (0 : Int) (0 : Int) (0 : Int) (0 : Int) (Fil.mk (0 : Int) []) [] [])) (T.req ((0 : Int) ≤ r0.fst ∧ r0.fst < (↑(a0.disks.getD a1.branch.toNat GT.dsk.nought).nodes.length : Int)) (T.ret ((a0.disks.getD a1.branch.toNat GT.dsk.nought).nodes.getD (Int.toNat r0.fst) GT.nod.nought))))))
noncomputable def f_seen_node (a0 : Wld) (a1 : Spt) : Option Nod := (t_seen_node a0 a1).run
noncomputable def K_seen_node : List AV → Option Con := conT (.cons (.S .wld) (.S .spt)) (.dt (.S .nod)) fun x => f_seen_node x.1 x.2
noncomputable def S_seen_node : SE := { T := tabs, con := conOf [(77, K_slices_BinarySearchFunc_Node_int64__seen_node_1)], own := fun f => false, gt := gtS, loop := lpOf [] }
/-! cmp.isNaN[string] -/
noncomputable def t_cmp_isNaN_string (a0 : Str) : T Bool :=
  (T.ret (!a0 == a0))
noncomputable def f_cmp_isNaN_string (a0 : Str) : Option Bool := (t_cmp_isNaN_string a0).run
noncomputable def K_cmp_isNaN_string : List AV → Option Con := conT .str (.dt .bool) fun x => f_cmp_isNaN_string x
noncomputable def S_cmp_isNaN_string : SE := { T := tabs, con := conOf [], own := fun f => false, gt := gtS, loop := lpOf [] }
/-! cmp.Compare[string] -/
noncomputable def t_cmp_Compare_string (a0 : Str) (a1 : Str) : T Int :=
  (T.bind (f_cmp_isNaN_string a0) fun r0 => (T.bind (f_cmp_isNaN_string a1) fun r1 => (T.ite (r0) (T.ite (r1) (T.ret ((0 : Int))) (T.ret ((-1 : Int)))) (T.ite (r1) (T.ret ((1 : Int))) (T.ite (bytesLt a0 a1) (T.ret ((-1 : Int))) (T.ite (!(bytesLt a0 a1 || a0 == a1)) (T.ret ((1 : Int))) (T.ret ((0 : Int)))))))))
noncomputable def f_cmp_Compare_string (a0 : Str) (a1 : Str) : Option Int := (t_cmp_Compare_string a0 a1).run
noncomputable def K_cmp_Compare_string : List AV → Option Con := conT (.cons .str .str) (.dt .int) fun x => f_cmp_Compare_string x.1 x.2
noncomputable def S_cmp_Compare_string : SE := { T := tabs, con := conOf [(112, K_cmp_isNaN_string)], own := fun f => false, gt := gtS, loop := lpOf [] }
/-! veneer/find.place$1 -/
noncomputable def t_find_place_1 (a0 : Nam) (a1 : Str) : T Int :=
  (T.bind (f_cmp_Compare_string a0.name a1) fun r0 => (T.ret (r0)))
noncomputable def f_find_place_1 (a0 : Nam) (a1 : Str) : Option Int := (t_find_place_1 a0 a1).run
noncomputable def K_find_place_1 : List AV → Option Con := conT (.cons (.S .nam) .str) (.dt .int) fun x => f_find_place_1 x.1 x.2
noncomputable def S_find_place_1 : SE := { T := tabs, con := conOf [(108, K_cmp_Compare_string)], own := fun f => false, gt := gtS, loop := lpOf [] }
/-! slices.BinarySearchFunc[[]veneer/api.Name,veneer/api.Name,string] -/
noncomputable def tl_slices_BinarySearchFunc_Name_string__find_place_1_l0 (s0 : (List Nam)) (s1 : Str) (s2 : Unit) (s8 : Int) (s9 : Int) (s10 : Int) : T (((List Nam) × (Str × (Unit × (Int × (Int × Int))))) ⊕ ((List Nam) × (Str × (Unit × (Int × Int))))) :=
  (T.ite (decide (s9 < s10)) (T.req ((0 : Int) ≤ (1 : Int)) (T.req ((0 : Int) ≤ IntKind.i64.wrap ((IntKind.u64.wrap (IntKind.i64.wrap (s9 + s10))).fdiv ((2 : Int) ^ min (Int.toNat (1 : Int)) IntKind.u64.bits)) ∧ IntKind.i64.wrap ((IntKind.u64.wrap (IntKind.i64.wrap (s9 + s10))).fdiv ((2 : Int) ^ min (Int.toNat (1 : Int)) IntKind.u64.bits)) < (↑s0.length : Int)) (T.bind (f_find_place_1 (s0.getD (IntKind.i64.wrap ((IntKind.u64.wrap (IntKind.i64.wrap (s9 + s10))).fdiv ((2 : Int) ^ min (Int.toNat (1 : Int)) IntKind.u64.bits))).toNat GT.nam.nought) s1) fun r0 => (T.ite (decide (r0 < (0 : Int))) (T.ret (Sum.inl (s0, s1, (), s8, IntKind.i64.wrap (IntKind.i64.wrap ((IntKind.u64.wrap (IntKind.i64.wrap (s9 + s10))).fdiv ((2 : Int) ^ min (Int.toNat (1 : Int)) IntKind.u64.bits)) + (1 : Int)), s10))) (T.ret (Sum.inl (s0, s1, (), s8, s9, IntKind.i64.wrap ((IntKind.u64.wrap (IntKind.i64.wrap (s9 + s10))).fdiv ((2 : Int) ^ min (Int.toNat (1 : Int)) IntKind.u64.bits))))))))) (T.ret (Sum.inr (s0, s1, (), s8, s9))))
noncomputable def L_slices_BinarySearchFunc_Name_string__find_place_1_l0 : ((List Nam) × (Str × (Unit × (Int × (Int × Int))))) → Option ((List Nam) × (Str × (Unit × (Int × Int)))) := fixT fun q => tl_slices_BinarySearchFunc_Name_string__find_place_1_l0 q.1 q.2.1 q.2.2.1 q.2.2.2.1 q.2.2.2.2.1 q.2.2.2.2.2
noncomputable def t_slices_BinarySearchFunc_Name_string__find_place_1 (a0 : (List Nam)) (a1 : Str) (a2 : Unit) : T (Int × Bool) :=
  (T.bind (L_slices_BinarySearchFunc_Name_string__find_place_1_l0 (a0, a1, (), (↑a0.length : Int), (0 : Int), (↑a0.length : Int))) fun r0 => (T.ite (decide (r0.snd.snd.snd.snd < r0.snd.snd.snd.fst)) (T.req ((0 : Int) ≤ r0.snd.snd.snd.snd ∧ r0.snd.snd.snd.snd < (↑(List.length r0.fst) : Int)) (T.bind (f_find_place_1 (List.getD r0.fst (Int.toNat r0.snd.snd.snd.snd) GT.nam.nought) r0.snd.fst) fun r1 => (T.ret ((r0.snd.snd.snd.snd, r1 == (0 : Int)))))) (T.ret ((r0.snd.snd.snd.snd, false)))))
noncomputable def f_slices_BinarySearchFunc_Name_string__find_place_1 (a0 : (List Nam)) (a1 : Str) (a2 : Unit) : Option (Int × Bool) := (t_slices_BinarySearchFunc_Name_string__find_place_1 a0 a1 a2).run
noncomputable def K_slices_BinarySearchFunc_Name_string__find_place_1 : List AV → Option Con := conT (.cons (.L .nam) (.cons .str (.clo 107 .nil))) (.cons (.dt .int) (.dt .bool)) fun x => f_slices_BinarySearchFunc_Name_string__find_place_1 x.1 x.2.1 x.2.2
noncomputable def S_slices_BinarySearchFunc_Name_string__find_place_1 : SE := { T := tabs, con := conOf [(107, K_find_place_1)], own := fun f => false, gt := gtS, loop := lpOf [(4, loopT [0, 1, 2, 8, 9, 10] (.cons (.dt (.L .nam)) (.cons (.dt .str) (.cons (.dt (.clo 107 .nil)) (.cons (.dt .int) (.cons (.dt .int) (.dt .int)))))) [⟨.exit 0, [0, 1, 2, 8, 9], (.cons (.dt (.L .nam)) (.cons (.dt .str) (.cons (.dt (.clo 107 .nil)) (.cons (.dt .int) (.dt .int)))))⟩] (L_slices_BinarySearchFunc_Name_string__find_place_1_l0))] }
/-! veneer/find.place -/
noncomputable def t_find_place (a0 : Nod) (a1 : Str) : T (Int × Bool) :=
  (T.bind (f_slices_BinarySearchFunc_Name_string__find_place_1 a0.names a1 ()) fun r0 => (T.ret ((r0.fst, r0.snd))))
noncomputable def f_find_place (a0 : Nod) (a1 : Str) : Option (Int × Bool) := (t_find_place a0 a1).run
noncomputable def K_find_place : List AV → Option Con := conT (.cons (.S .nod) .str) (.cons (.dt .int) (.dt .bool)) fun x => f_find_place x.1 x.2
noncomputable def S_find_place : SE := { T := tabs, con := conOf [(106, K_slices_BinarySearchFunc_Name_string__find_place_1)], own := fun f => false, gt := gtS, loop := lpOf [] }
/-! veneer/find.Name -/
noncomputable def t_find_Name (a0 : Nod) (a1 : Str) : T (Int × Bool) :=
  (T.bind (f_find_place a0 a1) fun r0 => (T.ite (!r0.snd) (T.ret (((0 : Int), false))) (T.req ((0 : Int) ≤ r0.fst ∧ r0.fst < (↑a0.names.length : Int)) (T.ret (((a0.names.getD (Int.toNat r0.fst) GT.nam.nought).ino, true))))))
noncomputable def f_find_Name (a0 : Nod) (a1 : Str) : Option (Int × Bool) := (t_find_Name a0 a1).run
noncomputable def K_find_Name : List AV → Option Con := conT (.cons (.S .nod) .str) (.cons (.dt .int) (.dt .bool)) fun x => f_find_Name x.1 x.2
noncomputable def S_find_Name : SE := { T := tabs, con := conOf [(93, K_find_place)], own := fun f => false, gt := gtS, loop := lpOf [] }
/-! veneer/conf.is -/
noncomputable def t_conf_is (a0 : Cnf) (a1 : Int) (a2 : Int) : T Bool :=
  (T.ite (decide (a1 ≥ (0 : Int))) (T.ite (decide (a1 < (↑a0.ways.length : Int))) (T.req ((0 : Int) ≤ a1 ∧ a1 < (↑a0.ways.length : Int)) (T.ret (a0.ways.getD a1.toNat GT.int.nought == a2))) (T.ret (false))) (T.ret (false)))
noncomputable def f_conf_is (a0 : Cnf) (a1 : Int) (a2 : Int) : Option Bool := (t_conf_is a0 a1 a2).run
noncomputable def K_conf_is : List AV → Option Con := conT (.cons (.S .cnf) (.cons .int .int)) (.dt .bool) fun x => f_conf_is x.1 x.2.1 x.2.2
noncomputable def S_conf_is : SE := { T := tabs, con := conOf [], own := fun f => false, gt := gtS, loop := lpOf [] }
/-! veneer/conf.Heeds -/
noncomputable def t_conf_Heeds (a0 : Cnf) (a1 : Int) : T Bool :=
  (T.bind (f_conf_is a0 a1 (1 : Int)) fun r0 => (T.ite (r0) (T.ret (true)) (T.bind (f_conf_is a0 a1 (3 : Int)) fun r1 => (T.ret (r1)))))
noncomputable def f_conf_Heeds (a0 : Cnf) (a1 : Int) : Option Bool := (t_conf_Heeds a0 a1).run
noncomputable def K_conf_Heeds : List AV → Option Con := conT (.cons (.S .cnf) .int) (.dt .bool) fun x => f_conf_Heeds x.1 x.2
noncomputable def S_conf_Heeds : SE := { T := tabs, con := conOf [(109, K_conf_is)], own := fun f => false, gt := gtS, loop := lpOf [] }
/-! veneer/seen.has -/
noncomputable def t_seen_has (a0 : Wld) (a1 : Spt) (a2 : Str) : T Bool :=
  (T.bind (f_seen_node a0 a1) fun r0 => (T.bind (f_find_Name r0 a2) fun r1 => (T.ite (r1.snd) (T.ite (r0.kind == (2 : Int)) (T.bind (f_conf_Heeds a0.conf a1.branch) fun r2 => (T.ret (r2))) (T.ret (false))) (T.ret (false)))))
noncomputable def f_seen_has (a0 : Wld) (a1 : Spt) (a2 : Str) : Option Bool := (t_seen_has a0 a1 a2).run
noncomputable def K_seen_has : List AV → Option Con := conT (.cons (.S .wld) (.cons (.S .spt) .str)) (.dt .bool) fun x => f_seen_has x.1 x.2.1 x.2.2
noncomputable def S_seen_has : SE := { T := tabs, con := conOf [(67, K_seen_node), (66, K_find_Name), (95, K_conf_Heeds)], own := fun f => false, gt := gtS, loop := lpOf [] }
/-! veneer/mark.White -/
noncomputable def t_mark_White (a0 : Str) : T Str :=
  (T.req ([(46 : UInt8), (119 : UInt8), (104 : UInt8), (46 : UInt8)].length + List.length a0 ≤ (1099511627776 : Nat)) (T.ret ([(46 : UInt8), (119 : UInt8), (104 : UInt8), (46 : UInt8)] ++ a0)))
noncomputable def f_mark_White (a0 : Str) : Option Str := (t_mark_White a0).run
noncomputable def K_mark_White : List AV → Option Con := conT .str (.dt .str) fun x => f_mark_White x
noncomputable def S_mark_White : SE := { T := tabs, con := conOf [], own := fun f => false, gt := gtS, loop := lpOf [] }
theorem wt_r3_New (x : (Int × Int)) (K : Dsk → Prop) : funT (S_r3_New) Try.f6 (.cons .int .int) (.dt (.S .dsk)) x K = (t_r3_New x.1 x.2).wp K := by kernel_rfl
theorem wtl_seen_Roots_l0 (p : ((List Spt) × (Int × Int))) (K : ((List Spt) × (Int × Int)) ⊕ (List Spt) → Prop) : roundT (S_seen_Roots) [3, 7, 8] (.cons (.gs .spt) (.cons (.dt .int) (.dt .int))) [⟨.exit 0, [3], (.gs .spt)⟩] (loopAt Try.f20 0) p K = (tl_seen_Roots_l0 p.1 p.2.1 p.2.2).wp K := by kernel_rfl
theorem wt_seen_Roots (x : Wld) (K : (List Spt) → Prop) : funT (S_seen_Roots) Try.f20 (.S .wld) (.dt (.L .spt)) x K = (t_seen_Roots x).wp K := by kernel_rfl
theorem wt_cmp_isNaN_int64 (x : Int) (K : Bool → Prop) : funT (S_cmp_isNaN_int64) Try.f100 .int (.dt .bool) x K = (t_cmp_isNaN_int64 x).wp K := by kernel_rfl
theorem wt_cmp_Compare_int64 (x : (Int × Int)) (K : Int → Prop) : funT (S_cmp_Compare_int64) Try.f79 (.cons .int .int) (.dt .int) x K = (t_cmp_Compare_int64 x.1 x.2).wp K := by kernel_rfl
theorem wt_disk_place_1 (x : (Nod × Int)) (K : Int → Prop) : funT (S_disk_place_1) Try.f78 (.cons (.S .nod) .int) (.dt .int) x K = (t_disk_place_1 x.1 x.2).wp K := by kernel_rfl
theorem wtl_slices_BinarySearchFunc_Node_int64__disk_place_1_l0 (p : ((List Nod) × (Int × (Unit × (Int × (Int × Int)))))) (K : ((List Nod) × (Int × (Unit × (Int × (Int × Int))))) ⊕ ((List Nod) × (Int × (Unit × (Int × Int)))) → Prop) : roundT (S_slices_BinarySearchFunc_Node_int64__disk_place_1) [0, 1, 2, 8, 9, 10] (.cons (.dt (.L .nod)) (.cons (.dt .int) (.cons (.dt (.clo 78 .nil)) (.cons (.dt .int) (.cons (.dt .int) (.dt .int)))))) [⟨.exit 0, [0, 1, 2, 8, 9], (.cons (.dt (.L .nod)) (.cons (.dt .int) (.cons (.dt (.clo 78 .nil)) (.cons (.dt .int) (.dt .int)))))⟩] (loopAt Try.f77 0) p K = (tl_slices_BinarySearchFunc_Node_int64__disk_place_1_l0 p.1 p.2.1 p.2.2.1 p.2.2.2.1 p.2.2.2.2.1 p.2.2.2.2.2).wp K := by kernel_rfl
theorem wt_slices_BinarySearchFunc_Node_int64__disk_place_1 (x : ((List Nod) × (Int × Unit))) (K : (Int × Bool) → Prop) : funT (S_slices_BinarySearchFunc_Node_int64__disk_place_1) Try.f77 (.cons (.L .nod) (.cons .int (.clo 78 .nil))) (.cons (.dt .int) (.dt .bool)) x K = (t_slices_BinarySearchFunc_Node_int64__disk_place_1 x.1 x.2.1 x.2.2).wp K := by kernel_rfl
theorem wt_disk_place (x : (Dsk × Int)) (K : (Int × Bool) → Prop) : funT (S_disk_place) Try.f48 (.cons (.S .dsk) .int) (.cons (.dt .int) (.dt .bool)) x K = (t_disk_place x.1 x.2).wp K := by kernel_rfl
theorem q1_slices_Clone_Block (K : List Blk → Prop) : funA sClone Try.f101 [.nils] (.gs .blk) K = ((true = true → K []) ∧ (true = false → (roomP ([] : List Blk).length 32 ∧ (([] : List Blk).length = ([] : List Blk).length ∧ K [])))) := by kernel_rfl
theorem q2_slices_Clone_Block (K : List Blk → Prop) : funA sClone Try.f101 [.nev] (.gs .blk) K = ((false = true → K []) ∧ (false = false → (roomP ([] : List Blk).length 32 ∧ (([] : List Blk).length = ([] : List Blk).length ∧ K [])))) := by kernel_rfl
theorem q3_slices_Clone_Block (x : Blk) (xs : List Blk) (K : List Blk → Prop) : funA sClone Try.f101 [.sl (encs .blk (x :: xs))] (.gs .blk) K = ((false = true → K []) ∧ (false = false → decAllP .blk (encs .blk (x :: xs)) fun ys => (roomP ys.length 32 ∧ (ys.length = ys.length ∧ K ys)))) := by kernel_rfl
theorem q1_slices_Clone_byte (K : List UInt8 → Prop) : funA sClone Try.f102 [.nils] (.gs .u8) K = ((true = true → K []) ∧ (true = false → (roomP ([] : List UInt8).length 1 ∧ (([] : List UInt8).length = ([] : List UInt8).length ∧ K [])))) := by kernel_rfl
theorem q2_slices_Clone_byte (K : List UInt8 → Prop) : funA sClone Try.f102 [.nev] (.gs .u8) K = ((false = true → K []) ∧ (false = false → (roomP ([] : List UInt8).length 1 ∧ (([] : List UInt8).length = ([] : List UInt8).length ∧ K [])))) := by kernel_rfl
theorem q3_slices_Clone_byte (x : UInt8) (xs : List UInt8) (K : List UInt8 → Prop) : funA sClone Try.f102 [.sl (encs .u8 (x :: xs))] (.gs .u8) K = ((false = true → K []) ∧ (false = false → decAllP .u8 (encs .u8 (x :: xs)) fun ys => (roomP ys.length 1 ∧ (ys.length = ys.length ∧ K ys)))) := by kernel_rfl
theorem wtl_disk_file_l0 (p : (Fil × (Fil × (Int × Int)))) (K : (Fil × (Fil × (Int × Int))) ⊕ (Fil × Fil) → Prop) : roundT (S_disk_file) [1, 2, 10, 11] (.cons (.boxS .fil [false, true]) (.cons (.boxS .fil []) (.cons (.dt .int) (.dt .int)))) [⟨.exit 0, [1, 2], (.cons (.boxS .fil [false, true]) (.boxS .fil []))⟩] (loopAt Try.f80 0) p K = (tl_disk_file_l0 p.1 p.2.1 p.2.2.1 p.2.2.2).wp K := by kernel_rfl
theorem wt_disk_file (x : Fil) (K : Fil → Prop) : funT (S_disk_file) Try.f80 (.S .fil) (.dt (.S .fil)) x K = (t_disk_file x).wp K := by kernel_rfl
theorem q1_slices_Clone_Name (K : List Nam → Prop) : funA sClone Try.f81 [.nils] (.gs .nam) K = ((true = true → K []) ∧ (true = false → (roomP ([] : List Nam).length 24 ∧ (([] : List Nam).length = ([] : List Nam).length ∧ K [])))) := by kernel_rfl
theorem q2_slices_Clone_Name (K : List Nam → Prop) : funA sClone Try.f81 [.nev] (.gs .nam) K = ((false = true → K []) ∧ (false = false → (roomP ([] : List Nam).length 24 ∧ (([] : List Nam).length = ([] : List Nam).length ∧ K [])))) := by kernel_rfl
theorem q3_slices_Clone_Name (x : Nam) (xs : List Nam) (K : List Nam → Prop) : funA sClone Try.f81 [.sl (encs .nam (x :: xs))] (.gs .nam) K = ((false = true → K []) ∧ (false = false → decAllP .nam (encs .nam (x :: xs)) fun ys => (roomP ys.length 24 ∧ (ys.length = ys.length ∧ K ys)))) := by kernel_rfl
theorem wt_disk_node (x : Nod) (K : Nod → Prop) : funT (S_disk_node) Try.f49 (.S .nod) (.dt (.S .nod)) x K = (t_disk_node x).wp K := by kernel_rfl
theorem wt_disk_Get (x : (Dsk × Int)) (K : (Nod × Bool) → Prop) : funT (S_disk_Get) Try.f31 (.cons (.S .dsk) .int) (.cons (.dt (.S .nod)) (.dt .bool)) x K = (t_disk_Get x.1 x.2).wp K := by kernel_rfl
theorem wt_walk_Node (x : (Wld × Spt)) (K : Nod → Prop) : funT (S_walk_Node) Try.f16 (.cons (.S .wld) (.S .spt)) (.dt (.S .nod)) x K = (t_walk_Node x.1 x.2).wp K := by kernel_rfl
theorem wt_walk_IsDir (x : (Wld × Spt)) (K : Bool → Prop) : funT (S_walk_IsDir) Try.f13 (.cons (.S .wld) (.S .spt)) (.dt .bool) x K = (t_walk_IsDir x.1 x.2).wp K := by kernel_rfl
theorem wt_seen_node_1 (x : (Nod × Int)) (K : Int → Prop) : funT (S_seen_node_1) Try.f94 (.cons (.S .nod) .int) (.dt .int) x K = (t_seen_node_1 x.1 x.2).wp K := by kernel_rfl
theorem wtl_slices_BinarySearchFunc_Node_int64__seen_node_1_l0 (p : ((List Nod) × (Int × (Unit × (Int × (Int × Int)))))) (K : ((List Nod) × (Int × (Unit × (Int × (Int × Int))))) ⊕ ((List Nod) × (Int × (Unit × (Int × Int)))) → Prop) : roundT (S_slices_BinarySearchFunc_Node_int64__seen_node_1) [0, 1, 2, 8, 9, 10] (.cons (.dt (.L .nod)) (.cons (.dt .int) (.cons (.dt (.clo 94 .nil)) (.cons (.dt .int) (.cons (.dt .int) (.dt .int)))))) [⟨.exit 0, [0, 1, 2, 8, 9], (.cons (.dt (.L .nod)) (.cons (.dt .int) (.cons (.dt (.clo 94 .nil)) (.cons (.dt .int) (.dt .int)))))⟩] (loopAt Try.f77 0) p K = (tl_slices_BinarySearchFunc_Node_int64__seen_node_1_l0 p.1 p.2.1 p.2.2.1 p.2.2.2.1 p.2.2.2.2.1 p.2.2.2.2.2).wp K := by kernel_rfl
theorem wt_slices_BinarySearchFunc_Node_int64__seen_node_1 (x : ((List Nod) × (Int × Unit))) (K : (Int × Bool) → Prop) : funT (S_slices_BinarySearchFunc_Node_int64__seen_node_1) Try.f77 (.cons (.L .nod) (.cons .int (.clo 94 .nil))) (.cons (.dt .int) (.dt .bool)) x K = (t_slices_BinarySearchFunc_Node_int64__seen_node_1 x.1 x.2.1 x.2.2).wp K := by kernel_rfl
theorem wt_seen_node (x : (Wld × Spt)) (K : Nod → Prop) : funT (S_seen_node) Try.f67 (.cons (.S .wld) (.S .spt)) (.dt (.S .nod)) x K = (t_seen_node x.1 x.2).wp K := by kernel_rfl
theorem wt_cmp_isNaN_string (x : Str) (K : Bool → Prop) : funT (S_cmp_isNaN_string) Try.f112 .str (.dt .bool) x K = (t_cmp_isNaN_string x).wp K := by kernel_rfl
theorem wt_cmp_Compare_string (x : (Str × Str)) (K : Int → Prop) : funT (S_cmp_Compare_string) Try.f108 (.cons .str .str) (.dt .int) x K = (t_cmp_Compare_string x.1 x.2).wp K := by kernel_rfl
theorem wt_find_place_1 (x : (Nam × Str)) (K : Int → Prop) : funT (S_find_place_1) Try.f107 (.cons (.S .nam) .str) (.dt .int) x K = (t_find_place_1 x.1 x.2).wp K := by kernel_rfl
theorem wtl_slices_BinarySearchFunc_Name_string__find_place_1_l0 (p : ((List Nam) × (Str × (Unit × (Int × (Int × Int)))))) (K : ((List Nam) × (Str × (Unit × (Int × (Int × Int))))) ⊕ ((List Nam) × (Str × (Unit × (Int × Int)))) → Prop) : roundT (S_slices_BinarySearchFunc_Name_string__find_place_1) [0, 1, 2, 8, 9, 10] (.cons (.dt (.L .nam)) (.cons (.dt .str) (.cons (.dt (.clo 107 .nil)) (.cons (.dt .int) (.cons (.dt .int) (.dt .int)))))) [⟨.exit 0, [0, 1, 2, 8, 9], (.cons (.dt (.L .nam)) (.cons (.dt .str) (.cons (.dt (.clo 107 .nil)) (.cons (.dt .int) (.dt .int)))))⟩] (loopAt Try.f106 0) p K = (tl_slices_BinarySearchFunc_Name_string__find_place_1_l0 p.1 p.2.1 p.2.2.1 p.2.2.2.1 p.2.2.2.2.1 p.2.2.2.2.2).wp K := by kernel_rfl
theorem wt_slices_BinarySearchFunc_Name_string__find_place_1 (x : ((List Nam) × (Str × Unit))) (K : (Int × Bool) → Prop) : funT (S_slices_BinarySearchFunc_Name_string__find_place_1) Try.f106 (.cons (.L .nam) (.cons .str (.clo 107 .nil))) (.cons (.dt .int) (.dt .bool)) x K = (t_slices_BinarySearchFunc_Name_string__find_place_1 x.1 x.2.1 x.2.2).wp K := by kernel_rfl
theorem wt_find_place (x : (Nod × Str)) (K : (Int × Bool) → Prop) : funT (S_find_place) Try.f93 (.cons (.S .nod) .str) (.cons (.dt .int) (.dt .bool)) x K = (t_find_place x.1 x.2).wp K := by kernel_rfl
theorem wt_find_Name (x : (Nod × Str)) (K : (Int × Bool) → Prop) : funT (S_find_Name) Try.f66 (.cons (.S .nod) .str) (.cons (.dt .int) (.dt .bool)) x K = (t_find_Name x.1 x.2).wp K := by kernel_rfl
theorem wt_conf_is (x : (Cnf × (Int × Int))) (K : Bool → Prop) : funT (S_conf_is) Try.f109 (.cons (.S .cnf) (.cons .int .int)) (.dt .bool) x K = (t_conf_is x.1 x.2.1 x.2.2).wp K := by kernel_rfl
theorem wt_conf_Heeds (x : (Cnf × Int)) (K : Bool → Prop) : funT (S_conf_Heeds) Try.f95 (.cons (.S .cnf) .int) (.dt .bool) x K = (t_conf_Heeds x.1 x.2).wp K := by kernel_rfl
theorem wt_seen_has (x : (Wld × (Spt × Str))) (K : Bool → Prop) : funT (S_seen_has) Try.f68 (.cons (.S .wld) (.cons (.S .spt) .str)) (.dt .bool) x K = (t_seen_has x.1 x.2.1 x.2.2).wp K := by kernel_rfl
theorem wt_mark_White (x : Str) (K : Str → Prop) : funT (S_mark_White) Try.f69 .str (.dt .str) x K = (t_mark_White x).wp K := by kernel_rfl
variable [Syms]
theorem o_r3_New : ConOK Try.prog (S_r3_New) := conOK_of consOK_nil rfl
theorem c_r3_New : ConOne Try.prog 6 K_r3_New :=
  con_T (a := (.cons .int .int)) (r := (.dt (.S .dsk))) (t := fun x => t_r3_New x.1 x.2) tyokG (o_r3_New) Try.checked.mixed ⟨Try.func6, by kernel_rfl, by kernel_rfl⟩ (loops_none (by kernel_rfl)) (by kernel_rfl) (fun x K => wt_r3_New x K)
theorem o_seen_Roots : ConOK Try.prog (S_seen_Roots) := conOK_of consOK_nil rfl
theorem lL_seen_Roots_l0 : LoopOK Try.prog Try.f20.ntmps (loopT [3, 7, 8] (.cons (.gs .spt) (.cons (.dt .int) (.dt .int))) [⟨.exit 0, [3], (.gs .spt)⟩] (L_seen_Roots_l0)) (loopAt Try.f20 0) :=
  loopT_ok (live := [3, 7, 8]) (vt := (.cons (.gs .spt) (.cons (.dt .int) (.dt .int)))) (ex := [⟨.exit 0, [3], (.gs .spt)⟩]) tyokG (o_seen_Roots) Try.checked.mixed (by kernel_rfl) (by kernel_rfl) (by kernel_rfl) (loops_nil (by kernel_rfl)) (t := fun q => tl_seen_Roots_l0 q.1 q.2.1 q.2.2) (by kernel_rfl) (fun p K => wtl_seen_Roots_l0 p K)
theorem c_seen_Roots : ConOne Try.prog 20 K_seen_Roots :=
  con_T (a := (.S .wld)) (r := (.dt (.L .spt))) (t := fun x => t_seen_Roots x) tyokG (o_seen_Roots) Try.checked.mixed ⟨Try.func20, by kernel_rfl, by kernel_rfl⟩ (loops_code (by kernel_rfl) (loopIn_cons (by kernel_rfl) (lL_seen_Roots_l0) (loopsIn_nil))) (by kernel_rfl) (fun x K => wt_seen_Roots x K)
theorem o_cmp_isNaN_int64 : ConOK Try.prog (S_cmp_isNaN_int64) := conOK_of consOK_nil rfl
theorem c_cmp_isNaN_int64 : ConOne Try.prog 100 K_cmp_isNaN_int64 :=
  con_T (a := .int) (r := (.dt .bool)) (t := fun x => t_cmp_isNaN_int64 x) tyokG (o_cmp_isNaN_int64) Try.checked.mixed ⟨Try.func100, by kernel_rfl, by kernel_rfl⟩ (loops_none (by kernel_rfl)) (by kernel_rfl) (fun x K => wt_cmp_isNaN_int64 x K)
theorem o_cmp_Compare_int64 : ConOK Try.prog (S_cmp_Compare_int64) := conOK_of (consOK_cons c_cmp_isNaN_int64 consOK_nil) rfl
theorem c_cmp_Compare_int64 : ConOne Try.prog 79 K_cmp_Compare_int64 :=
  con_T (a := (.cons .int .int)) (r := (.dt .int)) (t := fun x => t_cmp_Compare_int64 x.1 x.2) tyokG (o_cmp_Compare_int64) Try.checked.mixed ⟨Try.func79, by kernel_rfl, by kernel_rfl⟩ (loops_none (by kernel_rfl)) (by kernel_rfl) (fun x K => wt_cmp_Compare_int64 x K)
theorem o_disk_place_1 : ConOK Try.prog (S_disk_place_1) := conOK_of (consOK_cons c_cmp_Compare_int64 consOK_nil) rfl
theorem c_disk_place_1 : ConOne Try.prog 78 K_disk_place_1 :=
  con_T (a := (.cons (.S .nod) .int)) (r := (.dt .int)) (t := fun x => t_disk_place_1 x.1 x.2) tyokG (o_disk_place_1) Try.checked.mixed ⟨Try.func78, by kernel_rfl, by kernel_rfl⟩ (loops_none (by kernel_rfl)) (by kernel_rfl) (fun x K => wt_disk_place_1 x K)
theorem o_slices_BinarySearchFunc_Node_int64__disk_place_1 : ConOK Try.prog (S_slices_BinarySearchFunc_Node_int64__disk_place_1) := conOK_of (consOK_cons c_disk_place_1 consOK_nil) rfl
theorem lL_slices_BinarySearchFunc_Node_int64__disk_place_1_l0 : LoopOK Try.prog Try.f77.ntmps (loopT [0, 1, 2, 8, 9, 10] (.cons (.dt (.L .nod)) (.cons (.dt .int) (.cons (.dt (.clo 78 .nil)) (.cons (.dt .int) (.cons (.dt .int) (.dt .int)))))) [⟨.exit 0, [0, 1, 2, 8, 9], (.cons (.dt (.L .nod)) (.cons (.dt .int) (.cons (.dt (.clo 78 .nil)) (.cons (.dt .int) (.dt .int)))))⟩] (L_slices_BinarySearchFunc_Node_int64__disk_place_1_l0)) (loopAt Try.f77 0) :=
  loopT_ok (live := [0, 1, 2, 8, 9, 10]) (vt := (.cons (.dt (.L .nod)) (.cons (.dt .int) (.cons (.dt (.clo 78 .nil)) (.cons (.dt .int) (.cons (.dt .int) (.dt .int))))))) (ex := [⟨.exit 0, [0, 1, 2, 8, 9], (.cons (.dt (.L .nod)) (.cons (.dt .int) (.cons (.dt (.clo 78 .nil)) (.cons (.dt .int) (.dt .int)))))⟩]) tyokG (o_slices_BinarySearchFunc_Node_int64__disk_place_1) Try.checked.mixed (by kernel_rfl) (by kernel_rfl) (by kernel_rfl) (loops_nil (by kernel_rfl)) (t := fun q => tl_slices_BinarySearchFunc_Node_int64__disk_place_1_l0 q.1 q.2.1 q.2.2.1 q.2.2.2.1 q.2.2.2.2.1 q.2.2.2.2.2) (by kernel_rfl) (fun p K => wtl_slices_BinarySearchFunc_Node_int64__disk_place_1_l0 p K)
theorem c_slices_BinarySearchFunc_Node_int64__disk_place_1 : ConOne Try.prog 77 K_slices_BinarySearchFunc_Node_int64__disk_place_1 :=
  con_T (a := (.cons (.L .nod) (.cons .int (.clo 78 .nil)))) (r := (.cons (.dt .int) (.dt .bool))) (t := fun x => t_slices_BinarySearchFunc_Node_int64__disk_place_1 x.1 x.2.1 x.2.2) tyokG (o_slices_BinarySearchFunc_Node_int64__disk_place_1) Try.checked.mixed ⟨Try.func77, by kernel_rfl, by kernel_rfl⟩ (loops_code (by kernel_rfl) (loopIn_cons (by kernel_rfl) (lL_slices_BinarySearchFunc_Node_int64__disk_place_1_l0) (loopsIn_nil))) (by kernel_rfl) (fun x K => wt_slices_BinarySearchFunc_Node_int64__disk_place_1 x K)
theorem o_disk_place : ConOK Try.prog (S_disk_place) := conOK_of (consOK_cons c_slices_BinarySearchFunc_Node_int64__disk_place_1 consOK_nil) rfl
theorem c_disk_place : ConOne Try.prog 48 K_disk_place :=
  con_T (a := (.cons (.S .dsk) .int)) (r := (.cons (.dt .int) (.dt .bool))) (t := fun x => t_disk_place x.1 x.2) tyokG (o_disk_place) Try.checked.mixed ⟨Try.func48, by kernel_rfl, by kernel_rfl⟩ (loops_none (by kernel_rfl)) (by kernel_rfl) (fun x K => wt_disk_place x K)
theorem c_slices_Clone_Block : ConOne Try.prog 101 K_slices_Clone_Block := con_clone (by_ := 32) tyokG clone_ok Try.checked.mixed ⟨Try.func101, by kernel_rfl, by kernel_rfl⟩ (by kernel_rfl) (fun K h => cast (q1_slices_Clone_Block K).symm ⟨fun _ => h (Nat.zero_le _), nofun⟩) (fun K h => cast (q2_slices_Clone_Block K).symm ⟨nofun, fun _ => ⟨Nat.zero_le _, rfl, h (Nat.zero_le _)⟩⟩) (fun x xs K h => cast (q3_slices_Clone_Block x xs K).symm ⟨nofun, fun _ => decAllP_mono (fun ys h => ⟨h.1, rfl, h.2⟩) h⟩)
theorem c_slices_Clone_byte : ConOne Try.prog 102 K_slices_Clone_byte := con_clone (by_ := 1) tyokG clone_ok Try.checked.mixed ⟨Try.func102, by kernel_rfl, by kernel_rfl⟩ (by kernel_rfl) (fun K h => cast (q1_slices_Clone_byte K).symm ⟨fun _ => h (Nat.zero_le _), nofun⟩) (fun K h => cast (q2_slices_Clone_byte K).symm ⟨nofun, fun _ => ⟨Nat.zero_le _, rfl, h (Nat.zero_le _)⟩⟩) (fun x xs K h => cast (q3_slices_Clone_byte x xs K).symm ⟨nofun, fun _ => decAllP_mono (fun ys h => ⟨h.1, rfl, h.2⟩) h⟩)
theorem o_disk_file : ConOK Try.prog (S_disk_file) := conOK_of (consOK_cons c_slices_Clone_Block (consOK_cons c_slices_Clone_byte consOK_nil)) rfl
theorem lL_disk_file_l0 : LoopOK Try.prog Try.f80.ntmps (loopT [1, 2, 10, 11] (.cons (.boxS .fil [false, true]) (.cons (.boxS .fil []) (.cons (.dt .int) (.dt .int)))) [⟨.exit 0, [1, 2], (.cons (.boxS .fil [false, true]) (.boxS .fil []))⟩] (L_disk_file_l0)) (loopAt Try.f80 0) :=
  loopT_ok (live := [1, 2, 10, 11]) (vt := (.cons (.boxS .fil [false, true]) (.cons (.boxS .fil []) (.cons (.dt .int) (.dt .int))))) (ex := [⟨.exit 0, [1, 2], (.cons (.boxS .fil [false, true]) (.boxS .fil []))⟩]) tyokG (o_disk_file) Try.checked.mixed (by kernel_rfl) (by kernel_rfl) (by kernel_rfl) (loops_nil (by kernel_rfl)) (t := fun q => tl_disk_file_l0 q.1 q.2.1 q.2.2.1 q.2.2.2) (by kernel_rfl) (fun p K => wtl_disk_file_l0 p K)
theorem c_disk_file : ConOne Try.prog 80 K_disk_file :=
  con_T (a := (.S .fil)) (r := (.dt (.S .fil))) (t := fun x => t_disk_file x) tyokG (o_disk_file) Try.checked.mixed ⟨Try.func80, by kernel_rfl, by kernel_rfl⟩ (loops_code (by kernel_rfl) (loopIn_cons (by kernel_rfl) (lL_disk_file_l0) (loopsIn_nil))) (by kernel_rfl) (fun x K => wt_disk_file x K)
theorem c_slices_Clone_Name : ConOne Try.prog 81 K_slices_Clone_Name := con_clone (by_ := 24) tyokG clone_ok Try.checked.mixed ⟨Try.func81, by kernel_rfl, by kernel_rfl⟩ (by kernel_rfl) (fun K h => cast (q1_slices_Clone_Name K).symm ⟨fun _ => h (Nat.zero_le _), nofun⟩) (fun K h => cast (q2_slices_Clone_Name K).symm ⟨nofun, fun _ => ⟨Nat.zero_le _, rfl, h (Nat.zero_le _)⟩⟩) (fun x xs K h => cast (q3_slices_Clone_Name x xs K).symm ⟨nofun, fun _ => decAllP_mono (fun ys h => ⟨h.1, rfl, h.2⟩) h⟩)
theorem o_disk_node : ConOK Try.prog (S_disk_node) := conOK_of (consOK_cons c_disk_file (consOK_cons c_slices_Clone_Name consOK_nil)) rfl
theorem c_disk_node : ConOne Try.prog 49 K_disk_node :=
  con_T (a := (.S .nod)) (r := (.dt (.S .nod))) (t := fun x => t_disk_node x) tyokG (o_disk_node) Try.checked.mixed ⟨Try.func49, by kernel_rfl, by kernel_rfl⟩ (loops_none (by kernel_rfl)) (by kernel_rfl) (fun x K => wt_disk_node x K)
theorem o_disk_Get : ConOK Try.prog (S_disk_Get) := conOK_of (consOK_cons c_disk_place (consOK_cons c_disk_node consOK_nil)) rfl
theorem c_disk_Get : ConOne Try.prog 31 K_disk_Get :=
  con_T (a := (.cons (.S .dsk) .int)) (r := (.cons (.dt (.S .nod)) (.dt .bool))) (t := fun x => t_disk_Get x.1 x.2) tyokG (o_disk_Get) Try.checked.mixed ⟨Try.func31, by kernel_rfl, by kernel_rfl⟩ (loops_none (by kernel_rfl)) (by kernel_rfl) (fun x K => wt_disk_Get x K)
theorem o_walk_Node : ConOK Try.prog (S_walk_Node) := conOK_of (consOK_cons c_disk_Get consOK_nil) rfl
theorem c_walk_Node : ConOne Try.prog 16 K_walk_Node :=
  con_T (a := (.cons (.S .wld) (.S .spt))) (r := (.dt (.S .nod))) (t := fun x => t_walk_Node x.1 x.2) tyokG (o_walk_Node) Try.checked.mixed ⟨Try.func16, by kernel_rfl, by kernel_rfl⟩ (loops_none (by kernel_rfl)) (by kernel_rfl) (fun x K => wt_walk_Node x K)
theorem o_walk_IsDir : ConOK Try.prog (S_walk_IsDir) := conOK_of (consOK_cons c_walk_Node consOK_nil) rfl
theorem c_walk_IsDir : ConOne Try.prog 13 K_walk_IsDir :=
  con_T (a := (.cons (.S .wld) (.S .spt))) (r := (.dt .bool)) (t := fun x => t_walk_IsDir x.1 x.2) tyokG (o_walk_IsDir) Try.checked.mixed ⟨Try.func13, by kernel_rfl, by kernel_rfl⟩ (loops_none (by kernel_rfl)) (by kernel_rfl) (fun x K => wt_walk_IsDir x K)
theorem o_seen_node_1 : ConOK Try.prog (S_seen_node_1) := conOK_of (consOK_cons c_cmp_Compare_int64 consOK_nil) rfl
theorem c_seen_node_1 : ConOne Try.prog 94 K_seen_node_1 :=
  con_T (a := (.cons (.S .nod) .int)) (r := (.dt .int)) (t := fun x => t_seen_node_1 x.1 x.2) tyokG (o_seen_node_1) Try.checked.mixed ⟨Try.func94, by kernel_rfl, by kernel_rfl⟩ (loops_none (by kernel_rfl)) (by kernel_rfl) (fun x K => wt_seen_node_1 x K)
theorem o_slices_BinarySearchFunc_Node_int64__seen_node_1 : ConOK Try.prog (S_slices_BinarySearchFunc_Node_int64__seen_node_1) := conOK_of (consOK_cons c_seen_node_1 consOK_nil) rfl
theorem lL_slices_BinarySearchFunc_Node_int64__seen_node_1_l0 : LoopOK Try.prog Try.f77.ntmps (loopT [0, 1, 2, 8, 9, 10] (.cons (.dt (.L .nod)) (.cons (.dt .int) (.cons (.dt (.clo 94 .nil)) (.cons (.dt .int) (.cons (.dt .int) (.dt .int)))))) [⟨.exit 0, [0, 1, 2, 8, 9], (.cons (.dt (.L .nod)) (.cons (.dt .int) (.cons (.dt (.clo 94 .nil)) (.cons (.dt .int) (.dt .int)))))⟩] (L_slices_BinarySearchFunc_Node_int64__seen_node_1_l0)) (loopAt Try.f77 0) :=
  loopT_ok (live := [0, 1, 2, 8, 9, 10]) (vt := (.cons (.dt (.L .nod)) (.cons (.dt .int) (.cons (.dt (.clo 94 .nil)) (.cons (.dt .int) (.cons (.dt .int) (.dt .int))))))) (ex := [⟨.exit 0, [0, 1, 2, 8, 9], (.cons (.dt (.L .nod)) (.cons (.dt .int) (.cons (.dt (.clo 94 .nil)) (.cons (.dt .int) (.dt .int)))))⟩]) tyokG (o_slices_BinarySearchFunc_Node_int64__seen_node_1) Try.checked.mixed (by kernel_rfl) (by kernel_rfl) (by kernel_rfl) (loops_nil (by kernel_rfl)) (t := fun q => tl_slices_BinarySearchFunc_Node_int64__seen_node_1_l0 q.1 q.2.1 q.2.2.1 q.2.2.2.1 q.2.2.2.2.1 q.2.2.2.2.2) (by kernel_rfl) (fun p K => wtl_slices_BinarySearchFunc_Node_int64__seen_node_1_l0 p K)
theorem c_slices_BinarySearchFunc_Node_int64__seen_node_1 : ConOne Try.prog 77 K_slices_BinarySearchFunc_Node_int64__seen_node_1 :=
  con_T (a := (.cons (.L .nod) (.cons .int (.clo 94 .nil)))) (r := (.cons (.dt .int) (.dt .bool))) (t := fun x => t_slices_BinarySearchFunc_Node_int64__seen_node_1 x.1 x.2.1 x.2.2) tyokG (o_slices_BinarySearchFunc_Node_int64__seen_node_1) Try.checked.mixed ⟨Try.func77, by kernel_rfl, by kernel_rfl⟩ (loops_code (by kernel_rfl) (loopIn_cons (by kernel_rfl) (lL_slices_BinarySearchFunc_Node_int64__seen_node_1_l0) (loopsIn_nil))) (by kernel_rfl) (fun x K => wt_slices_BinarySearchFunc_Node_int64__seen_node_1 x K)
theorem o_seen_node : ConOK Try.prog (S_seen_node) := conOK_of (consOK_cons c_slices_BinarySearchFunc_Node_int64__seen_node_1 consOK_nil) rfl
theorem c_seen_node : ConOne Try.prog 67 K_seen_node :=
  con_T (a := (.cons (.S .wld) (.S .spt))) (r := (.dt (.S .nod))) (t := fun x => t_seen_node x.1 x.2) tyokG (o_seen_node) Try.checked.mixed ⟨Try.func67, by kernel_rfl, by kernel_rfl⟩ (loops_none (by kernel_rfl)) (by kernel_rfl) (fun x K => wt_seen_node x K)
theorem o_cmp_isNaN_string : ConOK Try.prog (S_cmp_isNaN_string) := conOK_of consOK_nil rfl
theorem c_cmp_isNaN_string : ConOne Try.prog 112 K_cmp_isNaN_string :=
  con_T (a := .str) (r := (.dt .bool)) (t := fun x => t_cmp_isNaN_string x) tyokG (o_cmp_isNaN_string) Try.checked.mixed ⟨Try.func112, by kernel_rfl, by kernel_rfl⟩ (loops_none (by kernel_rfl)) (by kernel_rfl) (fun x K => wt_cmp_isNaN_string x K)
theorem o_cmp_Compare_string : ConOK Try.prog (S_cmp_Compare_string) := conOK_of (consOK_cons c_cmp_isNaN_string consOK_nil) rfl
theorem c_cmp_Compare_string : ConOne Try.prog 108 K_cmp_Compare_string :=
  con_T (a := (.cons .str .str)) (r := (.dt .int)) (t := fun x => t_cmp_Compare_string x.1 x.2) tyokG (o_cmp_Compare_string) Try.checked.mixed ⟨Try.func108, by kernel_rfl, by kernel_rfl⟩ (loops_none (by kernel_rfl)) (by kernel_rfl) (fun x K => wt_cmp_Compare_string x K)
theorem o_find_place_1 : ConOK Try.prog (S_find_place_1) := conOK_of (consOK_cons c_cmp_Compare_string consOK_nil) rfl
theorem c_find_place_1 : ConOne Try.prog 107 K_find_place_1 :=
  con_T (a := (.cons (.S .nam) .str)) (r := (.dt .int)) (t := fun x => t_find_place_1 x.1 x.2) tyokG (o_find_place_1) Try.checked.mixed ⟨Try.func107, by kernel_rfl, by kernel_rfl⟩ (loops_none (by kernel_rfl)) (by kernel_rfl) (fun x K => wt_find_place_1 x K)
theorem o_slices_BinarySearchFunc_Name_string__find_place_1 : ConOK Try.prog (S_slices_BinarySearchFunc_Name_string__find_place_1) := conOK_of (consOK_cons c_find_place_1 consOK_nil) rfl
theorem lL_slices_BinarySearchFunc_Name_string__find_place_1_l0 : LoopOK Try.prog Try.f106.ntmps (loopT [0, 1, 2, 8, 9, 10] (.cons (.dt (.L .nam)) (.cons (.dt .str) (.cons (.dt (.clo 107 .nil)) (.cons (.dt .int) (.cons (.dt .int) (.dt .int)))))) [⟨.exit 0, [0, 1, 2, 8, 9], (.cons (.dt (.L .nam)) (.cons (.dt .str) (.cons (.dt (.clo 107 .nil)) (.cons (.dt .int) (.dt .int)))))⟩] (L_slices_BinarySearchFunc_Name_string__find_place_1_l0)) (loopAt Try.f106 0) :=
  loopT_ok (live := [0, 1, 2, 8, 9, 10]) (vt := (.cons (.dt (.L .nam)) (.cons (.dt .str) (.cons (.dt (.clo 107 .nil)) (.cons (.dt .int) (.cons (.dt .int) (.dt .int))))))) (ex := [⟨.exit 0, [0, 1, 2, 8, 9], (.cons (.dt (.L .nam)) (.cons (.dt .str) (.cons (.dt (.clo 107 .nil)) (.cons (.dt .int) (.dt .int)))))⟩]) tyokG (o_slices_BinarySearchFunc_Name_string__find_place_1) Try.checked.mixed (by kernel_rfl) (by kernel_rfl) (by kernel_rfl) (loops_nil (by kernel_rfl)) (t := fun q => tl_slices_BinarySearchFunc_Name_string__find_place_1_l0 q.1 q.2.1 q.2.2.1 q.2.2.2.1 q.2.2.2.2.1 q.2.2.2.2.2) (by kernel_rfl) (fun p K => wtl_slices_BinarySearchFunc_Name_string__find_place_1_l0 p K)
theorem c_slices_BinarySearchFunc_Name_string__find_place_1 : ConOne Try.prog 106 K_slices_BinarySearchFunc_Name_string__find_place_1 :=
  con_T (a := (.cons (.L .nam) (.cons .str (.clo 107 .nil)))) (r := (.cons (.dt .int) (.dt .bool))) (t := fun x => t_slices_BinarySearchFunc_Name_string__find_place_1 x.1 x.2.1 x.2.2) tyokG (o_slices_BinarySearchFunc_Name_string__find_place_1) Try.checked.mixed ⟨Try.func106, by kernel_rfl, by kernel_rfl⟩ (loops_code (by kernel_rfl) (loopIn_cons (by kernel_rfl) (lL_slices_BinarySearchFunc_Name_string__find_place_1_l0) (loopsIn_nil))) (by kernel_rfl) (fun x K => wt_slices_BinarySearchFunc_Name_string__find_place_1 x K)
theorem o_find_place : ConOK Try.prog (S_find_place) := conOK_of (consOK_cons c_slices_BinarySearchFunc_Name_string__find_place_1 consOK_nil) rfl
theorem c_find_place : ConOne Try.prog 93 K_find_place :=
  con_T (a := (.cons (.S .nod) .str)) (r := (.cons (.dt .int) (.dt .bool))) (t := fun x => t_find_place x.1 x.2) tyokG (o_find_place) Try.checked.mixed ⟨Try.func93, by kernel_rfl, by kernel_rfl⟩ (loops_none (by kernel_rfl)) (by kernel_rfl) (fun x K => wt_find_place x K)
theorem o_find_Name : ConOK Try.prog (S_find_Name) := conOK_of (consOK_cons c_find_place consOK_nil) rfl
theorem c_find_Name : ConOne Try.prog 66 K_find_Name :=
  con_T (a := (.cons (.S .nod) .str)) (r := (.cons (.dt .int) (.dt .bool))) (t := fun x => t_find_Name x.1 x.2) tyokG (o_find_Name) Try.checked.mixed ⟨Try.func66, by kernel_rfl, by kernel_rfl⟩ (loops_none (by kernel_rfl)) (by kernel_rfl) (fun x K => wt_find_Name x K)
theorem o_conf_is : ConOK Try.prog (S_conf_is) := conOK_of consOK_nil rfl
theorem c_conf_is : ConOne Try.prog 109 K_conf_is :=
  con_T (a := (.cons (.S .cnf) (.cons .int .int))) (r := (.dt .bool)) (t := fun x => t_conf_is x.1 x.2.1 x.2.2) tyokG (o_conf_is) Try.checked.mixed ⟨Try.func109, by kernel_rfl, by kernel_rfl⟩ (loops_none (by kernel_rfl)) (by kernel_rfl) (fun x K => wt_conf_is x K)
theorem o_conf_Heeds : ConOK Try.prog (S_conf_Heeds) := conOK_of (consOK_cons c_conf_is consOK_nil) rfl
theorem c_conf_Heeds : ConOne Try.prog 95 K_conf_Heeds :=
  con_T (a := (.cons (.S .cnf) .int)) (r := (.dt .bool)) (t := fun x => t_conf_Heeds x.1 x.2) tyokG (o_conf_Heeds) Try.checked.mixed ⟨Try.func95, by kernel_rfl, by kernel_rfl⟩ (loops_none (by kernel_rfl)) (by kernel_rfl) (fun x K => wt_conf_Heeds x K)
theorem o_seen_has : ConOK Try.prog (S_seen_has) := conOK_of (consOK_cons c_seen_node (consOK_cons c_find_Name (consOK_cons c_conf_Heeds consOK_nil))) rfl
theorem c_seen_has : ConOne Try.prog 68 K_seen_has :=
  con_T (a := (.cons (.S .wld) (.cons (.S .spt) .str))) (r := (.dt .bool)) (t := fun x => t_seen_has x.1 x.2.1 x.2.2) tyokG (o_seen_has) Try.checked.mixed ⟨Try.func68, by kernel_rfl, by kernel_rfl⟩ (loops_none (by kernel_rfl)) (by kernel_rfl) (fun x K => wt_seen_has x K)
theorem o_mark_White : ConOK Try.prog (S_mark_White) := conOK_of consOK_nil rfl
theorem c_mark_White : ConOne Try.prog 69 K_mark_White :=
  con_T (a := .str) (r := (.dt .str)) (t := fun x => t_mark_White x) tyokG (o_mark_White) Try.checked.mixed ⟨Try.func69, by kernel_rfl, by kernel_rfl⟩ (loops_none (by kernel_rfl)) (by kernel_rfl) (fun x K => wt_mark_White x K)
end Go.Proofs.Ytjichafmpanegaa.VS
