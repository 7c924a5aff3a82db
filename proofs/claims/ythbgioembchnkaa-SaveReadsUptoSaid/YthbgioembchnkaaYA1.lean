/- What functions answer, by their texts. Printed by a program of this work. Conditions: none. -/
import Derived.Test.YthbgioembchnkaaYA
import Derived.KernelRfl
namespace Go.Proofs.Ythbgioembchnkaa.VS
set_option maxRecDepth 100000
set_option maxHeartbeats 0
set_option linter.unusedVariables false
/-! veneer/disk.place -/
noncomputable def t_disk_place (a0 : Dsk) (a1 : Int) : T (Int × Bool) :=
  (T.bind (f_slices_BinarySearchFunc_Node_int64__disk_place_1 a0.nodes a1 ()) fun r0 => (T.ret ((r0.fst, r0.snd))))
noncomputable def f_disk_place (a0 : Dsk) (a1 : Int) : Option (Int × Bool) := (t_disk_place a0 a1).run
noncomputable def K_disk_place : List AV → Option Con := conT (.cons (.S .dsk) .int) (.cons (.dt .int) (.dt .bool)) fun x => f_disk_place x.1 x.2
noncomputable def S_disk_place : SE := { T := tabs, con := conOf [(98, K_slices_BinarySearchFunc_Node_int64__disk_place_1)], own := fun f => false, gt := gtS, loop := lpOf [] }
/-! slices.Clone[[]veneer/api.Block,veneer/api.Block] -/
noncomputable def f_slices_Clone_Block (a0 : (List Blk)) : Option (List Blk) := fClone 32 a0
noncomputable def K_slices_Clone_Block : List AV → Option Con := conT (.L .blk) (.gs .blk) fun x => f_slices_Clone_Block x
/-! slices.Clone[[]byte,byte] -/
noncomputable def f_slices_Clone_byte (a0 : (List UInt8)) : Option (List UInt8) := fClone 1 a0
noncomputable def K_slices_Clone_byte : List AV → Option Con := conT (.L .u8) (.gs .u8) fun x => f_slices_Clone_byte x
/-! veneer/disk.file -/
noncomputable def tl_disk_file_l0 (s1 : Fil) (s2 : Fil) (s10 : Int) (s11 : Int) : T ((Fil × (Fil × (Int × Int))) ⊕ (Fil × Fil)) :=
  (T.ite (decide (s11 < s10)) (T.req ((0 : Int) ≤ s11 ∧ s11 < (↑s1.blocks.length : Int)) (T.req (s11.toNat < s1.blocks.length) (T.bind (f_slices_Clone_byte (s1.blocks.getD s11.toNat GT.blk.nought).data) fun r0 => (T.same (List.length r0) (T.req ((0 : Int) ≤ s11 ∧ s11 < (↑s1.blocks.length : Int)) (T.req (s11.toNat < s1.blocks.length) (T.req (s1.blocks.length = (s1.blocks.set s11.toNat (Blk.mk (s1.blocks.getD s11.toNat GT.blk.nought).pos r0)).length) (T.ret (Sum.inl (Fil.mk s1.size (s1.blocks.set s11.toNat (Blk.mk (s1.blocks.getD s11.toNat GT.blk.nought).pos r0)), s2, s10, IntKind.i64.wrap (s11 + (1 : Int)))))))))))) (T.same (s1.blocks.length) (T.ret (Sum.inr (s1, s2)))))
noncomputable def L_disk_file_l0 : (Fil × (Fil × (Int × Int))) → Option (Fil × Fil) := fixT fun q => tl_disk_file_l0 q.1 q.2.1 q.2.2.1 q.2.2.2
noncomputable def t_disk_file (a0 : Fil) : T Fil :=
  (T.bind (f_slices_Clone_Block a0.blocks) fun r0 => (T.same (List.length r0) (T.bind (L_disk_file_l0 (Fil.mk a0.size r0, Fil.mk (0 : Int) [], (↑(List.length r0) : Int), (0 : Int))) fun r1 => (T.same (r1.fst.blocks.length) (T.ret (r1.fst))))))
noncomputable def f_disk_file (a0 : Fil) : Option Fil := (t_disk_file a0).run
noncomputable def K_disk_file : List AV → Option Con := conT (.S .fil) (.dt (.S .fil)) fun x => f_disk_file x
noncomputable def S_disk_file : SE := { T := tabs, con := conOf [(108, K_slices_Clone_Block), (109, K_slices_Clone_byte)], own := fun f => isIn f [108], gt := gtS, loop := lpOf [(4, loopT [1, 2, 10, 11] (.cons (.boxS .fil [false, true]) (.cons (.boxS .fil []) (.cons (.dt .int) (.dt .int)))) [⟨.exit 0, [1, 2], (.cons (.boxS .fil [false, true]) (.boxS .fil []))⟩] (L_disk_file_l0))] }
/-! slices.Clone[[]veneer/api.Name,veneer/api.Name] -/
noncomputable def f_slices_Clone_Name (a0 : (List Nam)) : Option (List Nam) := fClone 24 a0
noncomputable def K_slices_Clone_Name : List AV → Option Con := conT (.L .nam) (.gs .nam) fun x => f_slices_Clone_Name x
/-! veneer/disk.node -/
noncomputable def t_disk_node (a0 : Nod) : T Nod :=
  (T.bind (f_disk_file a0.file) fun r0 => (T.bind (f_slices_Clone_Name a0.names) fun r1 => (T.same (List.length r1) (T.ret (Nod.mk a0.ino a0.kind a0.mode a0.links r0 a0.target r1)))))
noncomputable def f_disk_node (a0 : Nod) : Option Nod := (t_disk_node a0).run
noncomputable def K_disk_node : List AV → Option Con := conT (.S .nod) (.dt (.S .nod)) fun x => f_disk_node x
noncomputable def S_disk_node : SE := { T := tabs, con := conOf [(100, K_disk_file), (101, K_slices_Clone_Name)], own := fun f => false, gt := gtS, loop := lpOf [] }
/-! veneer/disk.Get -/
noncomputable def t_disk_Get (a0 : Dsk) (a1 : Int) : T (Nod × Bool) :=
  (T.bind (f_disk_place a0 a1) fun r0 => (T.ite (!r0.snd) (T.ret ((Nod.mk (0 : Int) (0 : Int) (0 : Int) (0 : Int) (Fil.mk (0 : Int) []) [] [], false))) (T.req ((0 : Int) ≤ r0.fst ∧ r0.fst < (↑a0.nodes.length : Int)) (T.bind (f_disk_node (a0.nodes.getD (Int.toNat r0.fst) GT.nod.nought)) fun r1 => (T.ret ((r1, true)))))))
noncomputable def f_disk_Get (a0 : Dsk) (a1 : Int) : Option (Nod × Bool) := (t_disk_Get a0 a1).run
noncomputable def K_disk_Get : List AV → Option Con := conT (.cons (.S .dsk) .int) (.cons (.dt (.S .nod)) (.dt .bool)) fun x => f_disk_Get x.1 x.2
noncomputable def S_disk_Get : SE := { T := tabs, con := conOf [(89, K_disk_place), (90, K_disk_node)], own := fun f => false, gt := gtS, loop := lpOf [] }
/-! cmp.isNaN[string] -/
noncomputable def t_cmp_isNaN_string (a0 : Str) : T Bool :=
  (T.ret (!a0 == a0))
noncomputable def f_cmp_isNaN_string (a0 : Str) : Option Bool := (t_cmp_isNaN_string a0).run
noncomputable def K_cmp_isNaN_string : List AV → Option Con := conT .str (.dt .bool) fun x => f_cmp_isNaN_string x
noncomputable def S_cmp_isNaN_string : SE := { T := tabs, con := conOf [], own := fun f => false, gt := gtS, loop := lpOf [] }
/-! cmp.Compare[string] -/
noncomputable def t_cmp_Compare_string (a0 : Str) (a1 : Str) : T Int :=
  (T.bind (f_cmp_isNaN_string a0) fun r0 => (T.bind (f_cmp_isNaN_string a1) fun r1 => (T.ite (r0) (T.ite (r1) (T.ret ((0 : Int))) (T.ret ((-1 : Int)))) (T.ite (r1) (T.ret ((1 : Int))) (T.ite (bytesLt a0 a1) (T.ret ((-1 : Int))) (T.ite (!(bytesLt a0 a1 || a0 == a1)) (T.ret ((1 : Int))) (T.ret ((0 : Int)))))))))
noncomputable def f_cmp_Compare_string (a0 : Str) (a1 : Str) : Option Int := (t_cmp_Compare_string a0 a1).run
noncomputable def K_cmp_Compare_string : List AV → Option Con := conT (.cons .str .str) (.dt .int) fun x => f_cmp_Compare_string x.1 x.2
noncomputable def S_cmp_Compare_string : SE := { T := tabs, con := conOf [(110, K_cmp_isNaN_string)], own := fun f => false, gt := gtS, loop := lpOf [] }
/-! veneer/find.place$1 -/
noncomputable def t_find_place_1 (a0 : Nam) (a1 : Str) : T Int :=
  (T.bind (f_cmp_Compare_string a0.name a1) fun r0 => (T.ret (r0)))
noncomputable def f_find_place_1 (a0 : Nam) (a1 : Str) : Option Int := (t_find_place_1 a0 a1).run
noncomputable def K_find_place_1 : List AV → Option Con := conT (.cons (.S .nam) .str) (.dt .int) fun x => f_find_place_1 x.1 x.2
noncomputable def S_find_place_1 : SE := { T := tabs, con := conOf [(104, K_cmp_Compare_string)], own := fun f => false, gt := gtS, loop := lpOf [] }
/-! slices.BinarySearchFunc[[]veneer/api.Name,veneer/api.Name,string] -/
noncomputable def tl_slices_BinarySearchFunc_Name_string__find_place_1_l0 (s0 : (List Nam)) (s1 : Str) (s2 : Unit) (s8 : Int) (s9 : Int) (s10 : Int) : T (((List Nam) × (Str × (Unit × (Int × (Int × Int))))) ⊕ ((List Nam) × (Str × (Unit × (Int × Int))))) :=
  (T.ite (decide (s9 < s10)) (T.req ((0 : Int) ≤ (1 : Int)) (T.req ((0 : Int) ≤ IntKind.i64.wrap ((IntKind.u64.wrap (IntKind.i64.wrap (s9 + s10))).fdiv ((2 : Int) ^ min (Int.toNat (1 : Int)) IntKind.u64.bits)) ∧ IntKind.i64.wrap ((IntKind.u64.wrap (IntKind.i64.wrap (s9 + s10))).fdiv ((2 : Int) ^ min (Int.toNat (1 : Int)) IntKind.u64.bits)) < (↑s0.length : Int)) (T.bind (f_find_place_1 (s0.getD (IntKind.i64.wrap ((IntKind.u64.wrap (IntKind.i64.wrap (s9 + s10))).fdiv ((2 : Int) ^ min (Int.toNat (1 : Int)) IntKind.u64.bits))).toNat GT.nam.nought) s1) fun r0 => (T.ite (decide (r0 < (0 : Int))) (T.ret (Sum.inl (s0, s1, (), s8, IntKind.i64.wrap (IntKind.i64.wrap ((IntKind.u64.wrap (IntKind.i64.wrap (s9 + s10))).fdiv ((2 : Int) ^ min (Int.toNat (1 : Int)) IntKind.u64.bits)) + (1 : Int)), s10))) (T.ret (Sum.inl (s0, s1, (), s8, s9, IntKind.i64.wrap ((IntKind.u64.wrap (IntKind.i64.wrap (s9 + s10))).fdiv ((2 : Int) ^ min (Int.toNat (1 : Int)) IntKind.u64.bits))))))))) (T.ret (Sum.inr (s0, s1, (), s8, s9))))
noncomputable def L_slices_BinarySearchFunc_Name_string__find_place_1_l0 : ((List Nam) × (Str × (Unit × (Int × (Int × Int))))) → Option ((List Nam) × (Str × (Unit × (Int × Int)))) := fixT fun q => tl_slices_BinarySearchFunc_Name_string__find_place_1_l0 q.1 q.2.1 q.2.2.1 q.2.2.2.1 q.2.2.2.2.1 q.2.2.2.2.2
noncomputable def t_slices_BinarySearchFunc_Name_string__find_place_1 (a0 : (List Nam)) (a1 : Str) (a2 : Unit) : T (Int × Bool) :=
  (T.bind (L_slices_BinarySearchFunc_Name_string__find_place_1_l0 (a0, a1, (), (↑a0.length : Int), (0 : Int), (↑a0.length : Int))) fun r0 => (T.ite (decide (r0.snd.snd.snd.snd < r0.snd.snd.snd.fst)) (T.req ((0 : Int) ≤ r0.snd.snd.snd.snd ∧ r0.snd.snd.snd.snd < (↑(List.length r0.fst) : Int)) (T.bind (f_find_place_1 (List.getD r0.fst (Int.toNat r0.snd.snd.snd.snd) GT.nam.nought) r0.snd.fst) fun r1 => (T.ret ((r0.snd.snd.snd.snd, r1 == (0 : Int)))))) (T.ret ((r0.snd.snd.snd.snd, false)))))
noncomputable def f_slices_BinarySearchFunc_Name_string__find_place_1 (a0 : (List Nam)) (a1 : Str) (a2 : Unit) : Option (Int × Bool) := (t_slices_BinarySearchFunc_Name_string__find_place_1 a0 a1 a2).run
noncomputable def K_slices_BinarySearchFunc_Name_string__find_place_1 : List AV → Option Con := conT (.cons (.L .nam) (.cons .str (.clo 103 .nil))) (.cons (.dt .int) (.dt .bool)) fun x => f_slices_BinarySearchFunc_Name_string__find_place_1 x.1 x.2.1 x.2.2
noncomputable def S_slices_BinarySearchFunc_Name_string__find_place_1 : SE := { T := tabs, con := conOf [(103, K_find_place_1)], own := fun f => false, gt := gtS, loop := lpOf [(4, loopT [0, 1, 2, 8, 9, 10] (.cons (.dt (.L .nam)) (.cons (.dt .str) (.cons (.dt (.clo 103 .nil)) (.cons (.dt .int) (.cons (.dt .int) (.dt .int)))))) [⟨.exit 0, [0, 1, 2, 8, 9], (.cons (.dt (.L .nam)) (.cons (.dt .str) (.cons (.dt (.clo 103 .nil)) (.cons (.dt .int) (.dt .int)))))⟩] (L_slices_BinarySearchFunc_Name_string__find_place_1_l0))] }
/-! veneer/find.place -/
noncomputable def t_find_place (a0 : Nod) (a1 : Str) : T (Int × Bool) :=
  (T.bind (f_slices_BinarySearchFunc_Name_string__find_place_1 a0.names a1 ()) fun r0 => (T.ret ((r0.fst, r0.snd))))
noncomputable def f_find_place (a0 : Nod) (a1 : Str) : Option (Int × Bool) := (t_find_place a0 a1).run
noncomputable def K_find_place : List AV → Option Con := conT (.cons (.S .nod) .str) (.cons (.dt .int) (.dt .bool)) fun x => f_find_place x.1 x.2
noncomputable def S_find_place : SE := { T := tabs, con := conOf [(102, K_slices_BinarySearchFunc_Name_string__find_place_1)], own := fun f => false, gt := gtS, loop := lpOf [] }
/-! veneer/find.Name -/
noncomputable def t_find_Name (a0 : Nod) (a1 : Str) : T (Int × Bool) :=
  (T.bind (f_find_place a0 a1) fun r0 => (T.ite (!r0.snd) (T.ret (((0 : Int), false))) (T.req ((0 : Int) ≤ r0.fst ∧ r0.fst < (↑a0.names.length : Int)) (T.ret (((a0.names.getD (Int.toNat r0.fst) GT.nam.nought).ino, true))))))
noncomputable def f_find_Name (a0 : Nod) (a1 : Str) : Option (Int × Bool) := (t_find_Name a0 a1).run
noncomputable def K_find_Name : List AV → Option Con := conT (.cons (.S .nod) .str) (.cons (.dt .int) (.dt .bool)) fun x => f_find_Name x.1 x.2
noncomputable def S_find_Name : SE := { T := tabs, con := conOf [(91, K_find_place)], own := fun f => false, gt := gtS, loop := lpOf [] }
/-! veneer/save.file -/
noncomputable def t_save_file (a0 : Dsk) : T (Int × Bool) :=
  (T.bind (f_disk_Get a0 (1 : Int)) fun r0 => (T.bind (f_find_Name r0.fst [(46 : UInt8), (119 : UInt8), (104 : UInt8), (46 : UInt8), (46 : UInt8), (119 : UInt8), (104 : UInt8), (46 : UInt8), (120 : UInt8), (105 : UInt8), (110 : UInt8), (111 : UInt8)]) fun r1 => (T.ret ((r1.fst, r1.snd)))))
noncomputable def f_save_file (a0 : Dsk) : Option (Int × Bool) := (t_save_file a0).run
noncomputable def K_save_file : List AV → Option Con := conT (.S .dsk) (.cons (.dt .int) (.dt .bool)) fun x => f_save_file x
noncomputable def S_save_file : SE := { T := tabs, con := conOf [(74, K_disk_Get), (75, K_find_Name)], own := fun f => false, gt := gtS, loop := lpOf [] }
/-! veneer/keep.file -/
noncomputable def t_keep_file (a0 : Dsk) (a1 : Int) : T (Nod × Int) :=
  (T.bind (f_disk_Get a0 a1) fun r0 => (T.ite (r0.fst.kind == (2 : Int)) (T.ret ((r0.fst, (5 : Int)))) (T.ite (r0.fst.kind == (3 : Int)) (T.ret ((r0.fst, (1 : Int)))) (T.ret ((r0.fst, (0 : Int)))))))
noncomputable def f_keep_file (a0 : Dsk) (a1 : Int) : Option (Nod × Int) := (t_keep_file a0 a1).run
noncomputable def K_keep_file : List AV → Option Con := conT (.cons (.S .dsk) .int) (.cons (.dt (.S .nod)) (.dt .int)) fun x => f_keep_file x.1 x.2
noncomputable def S_keep_file : SE := { T := tabs, con := conOf [(74, K_disk_Get)], own := fun f => false, gt := gtS, loop := lpOf [] }
/-! veneer/keep.in -/
noncomputable def t_keep_in (a0 : Int) : T Bool :=
  (T.ite (decide (a0 ≥ (0 : Int))) (T.ret (decide (a0 ≤ (32768 : Int)))) (T.ret (false)))
noncomputable def f_keep_in (a0 : Int) : Option Bool := (t_keep_in a0).run
noncomputable def K_keep_in : List AV → Option Con := conT .int (.dt .bool) fun x => f_keep_in x
noncomputable def S_keep_in : SE := { T := tabs, con := conOf [], own := fun f => false, gt := gtS, loop := lpOf [] }
/-! cmp.isNaN[int] -/
noncomputable def t_cmp_isNaN_int (a0 : Int) : T Bool :=
  (T.ret (a0 != a0))
noncomputable def f_cmp_isNaN_int (a0 : Int) : Option Bool := (t_cmp_isNaN_int a0).run
noncomputable def K_cmp_isNaN_int : List AV → Option Con := conT .int (.dt .bool) fun x => f_cmp_isNaN_int x
noncomputable def S_cmp_isNaN_int : SE := { T := tabs, con := conOf [], own := fun f => false, gt := gtS, loop := lpOf [] }
/-! cmp.Compare[int] -/
noncomputable def t_cmp_Compare_int (a0 : Int) (a1 : Int) : T Int :=
  (T.bind (f_cmp_isNaN_int a0) fun r0 => (T.bind (f_cmp_isNaN_int a1) fun r1 => (T.ite (r0) (T.ite (r1) (T.ret ((0 : Int))) (T.ret ((-1 : Int)))) (T.ite (r1) (T.ret ((1 : Int))) (T.ite (decide (a0 < a1)) (T.ret ((-1 : Int))) (T.ite (decide (a0 > a1)) (T.ret ((1 : Int))) (T.ret ((0 : Int)))))))))
noncomputable def f_cmp_Compare_int (a0 : Int) (a1 : Int) : Option Int := (t_cmp_Compare_int a0 a1).run
noncomputable def K_cmp_Compare_int : List AV → Option Con := conT (.cons .int .int) (.dt .int) fun x => f_cmp_Compare_int x.1 x.2
noncomputable def S_cmp_Compare_int : SE := { T := tabs, con := conOf [(84, K_cmp_isNaN_int)], own := fun f => false, gt := gtS, loop := lpOf [] }
/-! veneer/sparse.block$1 -/
noncomputable def t_sparse_block_1 (a0 : Blk) (a1 : Int) : T Int :=
  (T.bind (f_cmp_Compare_int a0.pos a1) fun r0 => (T.ret (r0)))
noncomputable def f_sparse_block_1 (a0 : Blk) (a1 : Int) : Option Int := (t_sparse_block_1 a0 a1).run
noncomputable def K_sparse_block_1 : List AV → Option Con := conT (.cons (.S .blk) .int) (.dt .int) fun x => f_sparse_block_1 x.1 x.2
noncomputable def S_sparse_block_1 : SE := { T := tabs, con := conOf [(60, K_cmp_Compare_int)], own := fun f => false, gt := gtS, loop := lpOf [] }
/-! slices.BinarySearchFunc[[]veneer/api.Block,veneer/api.Block,int] -/
noncomputable def tl_slices_BinarySearchFunc_Block_int__sparse_block_1_l0 (s0 : (List Blk)) (s1 : Int) (s2 : Unit) (s8 : Int) (s9 : Int) (s10 : Int) : T (((List Blk) × (Int × (Unit × (Int × (Int × Int))))) ⊕ ((List Blk) × (Int × (Unit × (Int × Int))))) :=
  (T.ite (decide (s9 < s10)) (T.req ((0 : Int) ≤ (1 : Int)) (T.req ((0 : Int) ≤ IntKind.i64.wrap ((IntKind.u64.wrap (IntKind.i64.wrap (s9 + s10))).fdiv ((2 : Int) ^ min (Int.toNat (1 : Int)) IntKind.u64.bits)) ∧ IntKind.i64.wrap ((IntKind.u64.wrap (IntKind.i64.wrap (s9 + s10))).fdiv ((2 : Int) ^ min (Int.toNat (1 : Int)) IntKind.u64.bits)) < (↑s0.length : Int)) (T.bind (f_sparse_block_1 (s0.getD (IntKind.i64.wrap ((IntKind.u64.wrap (IntKind.i64.wrap (s9 + s10))).fdiv ((2 : Int) ^ min (Int.toNat (1 : Int)) IntKind.u64.bits))).toNat GT.blk.nought) s1) fun r0 => (T.ite (decide (r0 < (0 : Int))) (T.ret (Sum.inl (s0, s1, (), s8, IntKind.i64.wrap (IntKind.i64.wrap ((IntKind.u64.wrap (IntKind.i64.wrap (s9 + s10))).fdiv ((2 : Int) ^ min (Int.toNat (1 : Int)) IntKind.u64.bits)) + (1 : Int)), s10))) (T.ret (Sum.inl (s0, s1, (), s8, s9, IntKind.i64.wrap ((IntKind.u64.wrap (IntKind.i64.wrap (s9 + s10))).fdiv ((2 : Int) ^ min (Int.toNat (1 : Int)) IntKind.u64.bits))))))))) (T.ret (Sum.inr (s0, s1, (), s8, s9))))
noncomputable def L_slices_BinarySearchFunc_Block_int__sparse_block_1_l0 : ((List Blk) × (Int × (Unit × (Int × (Int × Int))))) → Option ((List Blk) × (Int × (Unit × (Int × Int)))) := fixT fun q => tl_slices_BinarySearchFunc_Block_int__sparse_block_1_l0 q.1 q.2.1 q.2.2.1 q.2.2.2.1 q.2.2.2.2.1 q.2.2.2.2.2
noncomputable def t_slices_BinarySearchFunc_Block_int__sparse_block_1 (a0 : (List Blk)) (a1 : Int) (a2 : Unit) : T (Int × Bool) :=
  (T.bind (L_slices_BinarySearchFunc_Block_int__sparse_block_1_l0 (a0, a1, (), (↑a0.length : Int), (0 : Int), (↑a0.length : Int))) fun r0 => (T.ite (decide (r0.snd.snd.snd.snd < r0.snd.snd.snd.fst)) (T.req ((0 : Int) ≤ r0.snd.snd.snd.snd ∧ r0.snd.snd.snd.snd < (↑(List.length r0.fst) : Int)) (T.bind (f_sparse_block_1 (List.getD r0.fst (Int.toNat r0.snd.snd.snd.snd) GT.blk.nought) r0.snd.fst) fun r1 => (T.ret ((r0.snd.snd.snd.snd, r1 == (0 : Int)))))) (T.ret ((r0.snd.snd.snd.snd, false)))))
noncomputable def f_slices_BinarySearchFunc_Block_int__sparse_block_1 (a0 : (List Blk)) (a1 : Int) (a2 : Unit) : Option (Int × Bool) := (t_slices_BinarySearchFunc_Block_int__sparse_block_1 a0 a1 a2).run
noncomputable def K_slices_BinarySearchFunc_Block_int__sparse_block_1 : List AV → Option Con := conT (.cons (.L .blk) (.cons .int (.clo 106 .nil))) (.cons (.dt .int) (.dt .bool)) fun x => f_slices_BinarySearchFunc_Block_int__sparse_block_1 x.1 x.2.1 x.2.2
noncomputable def S_slices_BinarySearchFunc_Block_int__sparse_block_1 : SE := { T := tabs, con := conOf [(106, K_sparse_block_1)], own := fun f => false, gt := gtS, loop := lpOf [(4, loopT [0, 1, 2, 8, 9, 10] (.cons (.dt (.L .blk)) (.cons (.dt .int) (.cons (.dt (.clo 106 .nil)) (.cons (.dt .int) (.cons (.dt .int) (.dt .int)))))) [⟨.exit 0, [0, 1, 2, 8, 9], (.cons (.dt (.L .blk)) (.cons (.dt .int) (.cons (.dt (.clo 106 .nil)) (.cons (.dt .int) (.dt .int)))))⟩] (L_slices_BinarySearchFunc_Block_int__sparse_block_1_l0))] }
/-! veneer/sparse.block -/
noncomputable def t_sparse_block (a0 : Fil) (a1 : Int) : T ((List UInt8) × Bool) :=
  (T.bind (f_slices_BinarySearchFunc_Block_int__sparse_block_1 a0.blocks a1 ()) fun r0 => (T.ite (!r0.snd) (T.req ((0 : Int) ≤ (16 : Int) ∧ (16 : Int) = (16 : Int) ∧ roomP (Int.toNat (16 : Int)) (1 : Nat)) (T.req ((0 : Nat) + Int.toNat (16 : Int) ≤ (List.replicate (Int.toNat (16 : Int)) (UInt8.ofNat (Int.toNat (0 : Int)))).length) (T.ret ((List.take (Int.toNat (16 : Int)) (List.drop (0 : Nat) (List.replicate (Int.toNat (16 : Int)) (UInt8.ofNat (Int.toNat (0 : Int))))), false))))) (T.req ((0 : Int) ≤ r0.fst ∧ r0.fst < (↑a0.blocks.length : Int)) (T.ret (((a0.blocks.getD (Int.toNat r0.fst) GT.blk.nought).data, true))))))
noncomputable def f_sparse_block (a0 : Fil) (a1 : Int) : Option ((List UInt8) × Bool) := (t_sparse_block a0 a1).run
noncomputable def K_sparse_block : List AV → Option Con := conT (.cons (.S .fil) .int) (.cons (.dt (.L .u8)) (.dt .bool)) fun x => f_sparse_block x.1 x.2
noncomputable def S_sparse_block : SE := { T := tabs, con := conOf [(105, K_slices_BinarySearchFunc_Block_int__sparse_block_1)], own := fun f => false, gt := gtS, loop := lpOf [] }
/-! veneer/sparse.Read -/
noncomputable def tl_sparse_Read_l0 (s1 : Int) (s2 : Int) (s3 : Fil) (s7 : (List UInt8)) (s8 : Int) : T ((Int × (Int × (Fil × ((List UInt8) × Int)))) ⊕ (List UInt8)) :=
  (T.ite (decide (s8 < if s3.size < IntKind.i64.wrap (s1 + s2) then s3.size else IntKind.i64.wrap (s1 + s2))) (T.bind (f_sparse_block s3 (IntKind.i64.wrap (s8.tdiv (16 : Int)))) fun r0 => (T.req ((0 : Int) ≤ s8.tmod (16 : Int) ∧ s8.tmod (16 : Int) ≤ IntKind.i64.wrap (s8.tmod (16 : Int) + if IntKind.i64.wrap ((if s3.size < IntKind.i64.wrap (s1 + s2) then s3.size else IntKind.i64.wrap (s1 + s2)) - s8) < IntKind.i64.wrap ((16 : Int) - s8.tmod (16 : Int)) then IntKind.i64.wrap ((if s3.size < IntKind.i64.wrap (s1 + s2) then s3.size else IntKind.i64.wrap (s1 + s2)) - s8) else IntKind.i64.wrap ((16 : Int) - s8.tmod (16 : Int))) ∧ IntKind.i64.wrap (s8.tmod (16 : Int) + if IntKind.i64.wrap ((if s3.size < IntKind.i64.wrap (s1 + s2) then s3.size else IntKind.i64.wrap (s1 + s2)) - s8) < IntKind.i64.wrap ((16 : Int) - s8.tmod (16 : Int)) then IntKind.i64.wrap ((if s3.size < IntKind.i64.wrap (s1 + s2) then s3.size else IntKind.i64.wrap (s1 + s2)) - s8) else IntKind.i64.wrap ((16 : Int) - s8.tmod (16 : Int))) ≤ (↑(List.length r0.fst) : Int)) (T.req (s7.length = s7.length ∧ roomP (s7 ++ List.drop (s8.tmod (16 : Int)).toNat (List.take (IntKind.i64.wrap (s8.tmod (16 : Int) + if IntKind.i64.wrap ((if s3.size < IntKind.i64.wrap (s1 + s2) then s3.size else IntKind.i64.wrap (s1 + s2)) - s8) < IntKind.i64.wrap ((16 : Int) - s8.tmod (16 : Int)) then IntKind.i64.wrap ((if s3.size < IntKind.i64.wrap (s1 + s2) then s3.size else IntKind.i64.wrap (s1 + s2)) - s8) else IntKind.i64.wrap ((16 : Int) - s8.tmod (16 : Int)))).toNat r0.fst)).length (1 : Nat)) (T.same ((s7 ++ List.drop (s8.tmod (16 : Int)).toNat (List.take (IntKind.i64.wrap (s8.tmod (16 : Int) + if IntKind.i64.wrap ((if s3.size < IntKind.i64.wrap (s1 + s2) then s3.size else IntKind.i64.wrap (s1 + s2)) - s8) < IntKind.i64.wrap ((16 : Int) - s8.tmod (16 : Int)) then IntKind.i64.wrap ((if s3.size < IntKind.i64.wrap (s1 + s2) then s3.size else IntKind.i64.wrap (s1 + s2)) - s8) else IntKind.i64.wrap ((16 : Int) - s8.tmod (16 : Int)))).toNat r0.fst)).length) (T.ret (Sum.inl (s1, s2, s3, s7 ++ List.drop (s8.tmod (16 : Int)).toNat (List.take (IntKind.i64.wrap (s8.tmod (16 : Int) + if IntKind.i64.wrap ((if s3.size < IntKind.i64.wrap (s1 + s2) then s3.size else IntKind.i64.wrap (s1 + s2)) - s8) < IntKind.i64.wrap ((16 : Int) - s8.tmod (16 : Int)) then IntKind.i64.wrap ((if s3.size < IntKind.i64.wrap (s1 + s2) then s3.size else IntKind.i64.wrap (s1 + s2)) - s8) else IntKind.i64.wrap ((16 : Int) - s8.tmod (16 : Int)))).toNat r0.fst), IntKind.i64.wrap (s8 + if IntKind.i64.wrap ((if s3.size < IntKind.i64.wrap (s1 + s2) then s3.size else IntKind.i64.wrap (s1 + s2)) - s8) < IntKind.i64.wrap ((16 : Int) - s8.tmod (16 : Int)) then IntKind.i64.wrap ((if s3.size < IntKind.i64.wrap (s1 + s2) then s3.size else IntKind.i64.wrap (s1 + s2)) - s8) else IntKind.i64.wrap ((16 : Int) - s8.tmod (16 : Int)))))))))) (T.same (s7.length) (T.ret (Sum.inr s7))))
noncomputable def L_sparse_Read_l0 : (Int × (Int × (Fil × ((List UInt8) × Int)))) → Option (List UInt8) := fixT fun q => tl_sparse_Read_l0 q.1 q.2.1 q.2.2.1 q.2.2.2.1 q.2.2.2.2
noncomputable def t_sparse_Read (a0 : Fil) (a1 : Int) (a2 : Int) : T (List UInt8) :=
  (T.bind (L_sparse_Read_l0 (a1, a2, a0, [], a1)) fun r0 => (T.same (List.length r0) (T.ret (r0))))
noncomputable def f_sparse_Read (a0 : Fil) (a1 : Int) (a2 : Int) : Option (List UInt8) := (t_sparse_Read a0 a1 a2).run
noncomputable def K_sparse_Read : List AV → Option Con := conT (.cons (.S .fil) (.cons .int .int)) (.dt (.L .u8)) fun x => f_sparse_Read x.1 x.2.1 x.2.2
noncomputable def S_sparse_Read : SE := { T := tabs, con := conOf [(92, K_sparse_block)], own := fun f => false, gt := gtS, loop := lpOf [(4, loopT [1, 2, 3, 7, 8] (.cons (.dt .int) (.cons (.dt .int) (.cons (.boxS .fil []) (.cons (.gs .u8) (.dt .int))))) [⟨.exit 0, [7], (.gs .u8)⟩] (L_sparse_Read_l0))] }
/-! veneer/keep.Read -/
noncomputable def t_keep_Read (a0 : Dsk) (a1 : Int) (a2 : Int) (a3 : Int) : T ((List UInt8) × Int) :=
  (T.bind (f_keep_file a0 a1) fun r0 => (T.ite (r0.snd != (0 : Int)) (T.ret (([], r0.snd))) (T.bind (f_keep_in a2) fun r1 => (T.ite (!r1) (T.ret (([], (1 : Int)))) (T.bind (f_keep_in a3) fun r2 => (T.ite (!r2) (T.ret (([], (1 : Int)))) (T.bind (f_sparse_Read r0.fst.file a2 a3) fun r3 => (T.ret ((r3, (0 : Int)))))))))))
noncomputable def f_keep_Read (a0 : Dsk) (a1 : Int) (a2 : Int) (a3 : Int) : Option ((List UInt8) × Int) := (t_keep_Read a0 a1 a2 a3).run
noncomputable def K_keep_Read : List AV → Option Con := conT (.cons (.S .dsk) (.cons .int (.cons .int .int))) (.cons (.dt (.L .u8)) (.dt .int)) fun x => f_keep_Read x.1 x.2.1 x.2.2.1 x.2.2.2
noncomputable def S_keep_Read : SE := { T := tabs, con := conOf [(76, K_keep_file), (77, K_keep_in), (78, K_sparse_Read)], own := fun f => false, gt := gtS, loop := lpOf [] }
/-! veneer/table.number -/
noncomputable def tl_table_number_l0 (s3 : Int) (s7 : (List UInt8)) (s8 : Int) (s9 : Int) : T ((Int × ((List UInt8) × (Int × Int))) ⊕ Int) :=
  (T.ite (decide (s9 < s8)) (T.req ((0 : Int) ≤ s9 ∧ s9 < (↑s7.length : Int)) (T.req ((0 : Int) ≤ (8 : Int)) (T.ret (Sum.inl (IntKind.i64.wrap (↑(BitVec.ofInt IntKind.i64.bits (IntKind.i64.wrap (s3 * (2 : Int) ^ min (Int.toNat (8 : Int)) IntKind.i64.bits)) ||| BitVec.ofInt IntKind.i64.bits (IntKind.i64.wrap (↑(UInt8.toNat (s7.getD s9.toNat GT.u8.nought)) : Int))).toNat : Int), s7, s8, IntKind.i64.wrap (s9 + (1 : Int))))))) (T.ret (Sum.inr s3)))
noncomputable def L_table_number_l0 : (Int × ((List UInt8) × (Int × Int))) → Option Int := fixT fun q => tl_table_number_l0 q.1 q.2.1 q.2.2.1 q.2.2.2
noncomputable def t_table_number (a0 : (List UInt8)) : T Int :=
  (T.req ((0 : Int) ≤ (0 : Int) ∧ (0 : Int) ≤ (4 : Int) ∧ (4 : Int) ≤ (↑a0.length : Int)) (T.bind (L_table_number_l0 ((0 : Int), List.drop (Int.toNat (0 : Int)) (List.take (Int.toNat (4 : Int)) a0), (↑(List.drop (Int.toNat (0 : Int)) (List.take (Int.toNat (4 : Int)) a0)).length : Int), (0 : Int))) fun r0 => (T.ret (r0))))
noncomputable def f_table_number (a0 : (List UInt8)) : Option Int := (t_table_number a0).run
noncomputable def K_table_number : List AV → Option Con := conT (.L .u8) (.dt .int) fun x => f_table_number x
noncomputable def S_table_number : SE := { T := tabs, con := conOf [], own := fun f => false, gt := gtS, loop := lpOf [(4, loopT [3, 7, 8, 9] (.cons (.dt .int) (.cons (.dt (.L .u8)) (.cons (.dt .int) (.dt .int)))) [⟨.exit 0, [3], (.dt .int)⟩] (L_table_number_l0))] }
/-! veneer/table.rows -/
noncomputable def tl_table_rows_l0 (s0 : (List UInt8)) (s5 : (List Rwo)) (s6 : Int) (s7 : Int) : T (((List UInt8) × ((List Rwo) × (Int × Int))) ⊕ (List Rwo)) :=
  (T.ite (decide (s7 < s6)) (T.req ((0 : Int) ≤ (0 : Int) ∧ (0 : Int) < (↑s0.length : Int)) (T.req ((0 : Int) ≤ (1 : Int) ∧ (1 : Int) ≤ (↑s0.length : Int) ∧ (↑s0.length : Int) ≤ (↑s0.length : Int)) (T.bind (f_table_number (List.drop (Int.toNat (1 : Int)) (List.take (↑s0.length : Int).toNat s0))) fun r0 => (T.req ((0 : Int) ≤ (5 : Int) ∧ (5 : Int) ≤ (↑s0.length : Int) ∧ (↑s0.length : Int) ≤ (↑s0.length : Int)) (T.bind (f_table_number (List.drop (Int.toNat (5 : Int)) (List.take (↑s0.length : Int).toNat s0))) fun r1 => (T.req (s5.length = s5.length ∧ roomP (s5 ++ [Rwo.mk (Spt.mk (IntKind.i64.wrap (↑(UInt8.toNat (s0.getD (Int.toNat (0 : Int)) GT.u8.nought)) : Int)) r0) r1]).length (24 : Nat)) (T.req ((0 : Int) ≤ (9 : Int) ∧ (9 : Int) ≤ (↑s0.length : Int) ∧ (↑s0.length : Int) ≤ (↑s0.length : Int)) (T.same ((s5 ++ [Rwo.mk (Spt.mk (IntKind.i64.wrap (↑(UInt8.toNat (s0.getD (Int.toNat (0 : Int)) GT.u8.nought)) : Int)) r0) r1]).length) (T.ret (Sum.inl (List.drop (Int.toNat (9 : Int)) (List.take (↑s0.length : Int).toNat s0), s5 ++ [Rwo.mk (Spt.mk (IntKind.i64.wrap (↑(UInt8.toNat (s0.getD (Int.toNat (0 : Int)) GT.u8.nought)) : Int)) r0) r1], s6, IntKind.i64.wrap (s7 + (1 : Int))))))))))))) (T.same (s5.length) (T.ret (Sum.inr s5))))
noncomputable def L_table_rows_l0 : ((List UInt8) × ((List Rwo) × (Int × Int))) → Option (List Rwo) := fixT fun q => tl_table_rows_l0 q.1 q.2.1 q.2.2.1 q.2.2.2
noncomputable def t_table_rows (a0 : (List UInt8)) (a1 : Int) : T (List Rwo) :=
  (T.bind (L_table_rows_l0 (a0, [], a1, (0 : Int))) fun r0 => (T.same (List.length r0) (T.ret (r0))))
noncomputable def f_table_rows (a0 : (List UInt8)) (a1 : Int) : Option (List Rwo) := (t_table_rows a0 a1).run
noncomputable def K_table_rows : List AV → Option Con := conT (.cons (.L .u8) .int) (.dt (.L .row)) fun x => f_table_rows x.1 x.2
noncomputable def S_table_rows : SE := { T := tabs, con := conOf [(65, K_table_number)], own := fun f => false, gt := gtS, loop := lpOf [(4, loopT [0, 5, 6, 7] (.cons (.dt (.L .u8)) (.cons (.gs .row) (.cons (.dt .int) (.dt .int)))) [⟨.exit 0, [5], (.gs .row)⟩] (L_table_rows_l0))] }
/-! veneer/table.in -/
noncomputable def t_table_in (a0 : Int) (a1 : Int) : T Bool :=
  (T.ite (decide (a0 ≥ a1)) (T.ret (decide (a0 ≤ (2147483647 : Int)))) (T.ret (false)))
noncomputable def f_table_in (a0 : Int) (a1 : Int) : Option Bool := (t_table_in a0 a1).run
noncomputable def K_table_in : List AV → Option Con := conT (.cons .int .int) (.dt .bool) fun x => f_table_in x.1 x.2
noncomputable def S_table_in : SE := { T := tabs, con := conOf [], own := fun f => false, gt := gtS, loop := lpOf [] }
/-! veneer/table.isRow -/
noncomputable def t_table_isRow (a0 : Tbl) (a1 : Rwo) : T Bool :=
  (T.ite (decide (a1.spot.branch ≥ (0 : Int))) (T.ite (decide (a1.spot.branch < (8 : Int))) (T.bind (f_table_in a1.spot.ino (1 : Int)) fun r0 => (T.ite (r0) (T.ite (decide (a1.u ≥ (1 : Int))) (T.ret (decide (a1.u < a0.next))) (T.ret (false))) (T.ret (false)))) (T.ret (false))) (T.ret (false)))
noncomputable def f_table_isRow (a0 : Tbl) (a1 : Rwo) : Option Bool := (t_table_isRow a0 a1).run
noncomputable def K_table_isRow : List AV → Option Con := conT (.cons (.S .tbl) (.S .row)) (.dt .bool) fun x => f_table_isRow x.1 x.2
noncomputable def S_table_isRow : SE := { T := tabs, con := conOf [(32, K_table_in)], own := fun f => false, gt := gtS, loop := lpOf [] }
/-! veneer/table.Is$1 -/
noncomputable def t_table_Is_1 (a0 : Rwo) (a1 : Tbl) : T Bool :=
  (T.bind (f_table_isRow a1 a0) fun r0 => (T.ret (!r0)))
noncomputable def f_table_Is_1 (a0 : Rwo) (a1 : Tbl) : Option Bool := (t_table_Is_1 a0 a1).run
noncomputable def K_table_Is_1 : List AV → Option Con := conT (.cons (.S .row) (.look .tbl)) (.dt .bool) fun x => f_table_Is_1 x.1 x.2
noncomputable def S_table_Is_1 : SE := { T := tabs, con := conOf [(31, K_table_isRow)], own := fun f => false, gt := gtS, loop := lpOf [] }
theorem wt_disk_place (x : (Dsk × Int)) (K : (Int × Bool) → Prop) : funT (S_disk_place) Try.f89 (.cons (.S .dsk) .int) (.cons (.dt .int) (.dt .bool)) x K = (t_disk_place x.1 x.2).wp K := by kernel_rfl
theorem q1_slices_Clone_Block (K : List Blk → Prop) : funA sClone Try.f108 [.nils] (.gs .blk) K = ((true = true → K []) ∧ (true = false → (roomP ([] : List Blk).length 32 ∧ (([] : List Blk).length = ([] : List Blk).length ∧ K [])))) := by kernel_rfl
theorem q2_slices_Clone_Block (K : List Blk → Prop) : funA sClone Try.f108 [.nev] (.gs .blk) K = ((false = true → K []) ∧ (false = false → (roomP ([] : List Blk).length 32 ∧ (([] : List Blk).length = ([] : List Blk).length ∧ K [])))) := by kernel_rfl
theorem q3_slices_Clone_Block (x : Blk) (xs : List Blk) (K : List Blk → Prop) : funA sClone Try.f108 [.sl (encs .blk (x :: xs))] (.gs .blk) K = ((false = true → K []) ∧ (false = false → decAllP .blk (encs .blk (x :: xs)) fun ys => (roomP ys.length 32 ∧ (ys.length = ys.length ∧ K ys)))) := by kernel_rfl
theorem q1_slices_Clone_byte (K : List UInt8 → Prop) : funA sClone Try.f109 [.nils] (.gs .u8) K = ((true = true → K []) ∧ (true = false → (roomP ([] : List UInt8).length 1 ∧ (([] : List UInt8).length = ([] : List UInt8).length ∧ K [])))) := by kernel_rfl
theorem q2_slices_Clone_byte (K : List UInt8 → Prop) : funA sClone Try.f109 [.nev] (.gs .u8) K = ((false = true → K []) ∧ (false = false → (roomP ([] : List UInt8).length 1 ∧ (([] : List UInt8).length = ([] : List UInt8).length ∧ K [])))) := by kernel_rfl
theorem q3_slices_Clone_byte (x : UInt8) (xs : List UInt8) (K : List UInt8 → Prop) : funA sClone Try.f109 [.sl (encs .u8 (x :: xs))] (.gs .u8) K = ((false = true → K []) ∧ (false = false → decAllP .u8 (encs .u8 (x :: xs)) fun ys => (roomP ys.length 1 ∧ (ys.length = ys.length ∧ K ys)))) := by kernel_rfl
theorem wtl_disk_file_l0 (p : (Fil × (Fil × (Int × Int)))) (K : (Fil × (Fil × (Int × Int))) ⊕ (Fil × Fil) → Prop) : roundT (S_disk_file) [1, 2, 10, 11] (.cons (.boxS .fil [false, true]) (.cons (.boxS .fil []) (.cons (.dt .int) (.dt .int)))) [⟨.exit 0, [1, 2], (.cons (.boxS .fil [false, true]) (.boxS .fil []))⟩] (loopAt Try.f100 0) p K = (tl_disk_file_l0 p.1 p.2.1 p.2.2.1 p.2.2.2).wp K := by kernel_rfl
theorem wt_disk_file (x : Fil) (K : Fil → Prop) : funT (S_disk_file) Try.f100 (.S .fil) (.dt (.S .fil)) x K = (t_disk_file x).wp K := by kernel_rfl
theorem q1_slices_Clone_Name (K : List Nam → Prop) : funA sClone Try.f101 [.nils] (.gs .nam) K = ((true = true → K []) ∧ (true = false → (roomP ([] : List Nam).length 24 ∧ (([] : List Nam).length = ([] : List Nam).length ∧ K [])))) := by kernel_rfl
theorem q2_slices_Clone_Name (K : List Nam → Prop) : funA sClone Try.f101 [.nev] (.gs .nam) K = ((false = true → K []) ∧ (false = false → (roomP ([] : List Nam).length 24 ∧ (([] : List Nam).length = ([] : List Nam).length ∧ K [])))) := by kernel_rfl
theorem q3_slices_Clone_Name (x : Nam) (xs : List Nam) (K : List Nam → Prop) : funA sClone Try.f101 [.sl (encs .nam (x :: xs))] (.gs .nam) K = ((false = true → K []) ∧ (false = false → decAllP .nam (encs .nam (x :: xs)) fun ys => (roomP ys.length 24 ∧ (ys.length = ys.length ∧ K ys)))) := by kernel_rfl
theorem wt_disk_node (x : Nod) (K : Nod → Prop) : funT (S_disk_node) Try.f90 (.S .nod) (.dt (.S .nod)) x K = (t_disk_node x).wp K := by kernel_rfl
theorem wt_disk_Get (x : (Dsk × Int)) (K : (Nod × Bool) → Prop) : funT (S_disk_Get) Try.f74 (.cons (.S .dsk) .int) (.cons (.dt (.S .nod)) (.dt .bool)) x K = (t_disk_Get x.1 x.2).wp K := by kernel_rfl
theorem wt_cmp_isNaN_string (x : Str) (K : Bool → Prop) : funT (S_cmp_isNaN_string) Try.f110 .str (.dt .bool) x K = (t_cmp_isNaN_string x).wp K := by kernel_rfl
theorem wt_cmp_Compare_string (x : (Str × Str)) (K : Int → Prop) : funT (S_cmp_Compare_string) Try.f104 (.cons .str .str) (.dt .int) x K = (t_cmp_Compare_string x.1 x.2).wp K := by kernel_rfl
theorem wt_find_place_1 (x : (Nam × Str)) (K : Int → Prop) : funT (S_find_place_1) Try.f103 (.cons (.S .nam) .str) (.dt .int) x K = (t_find_place_1 x.1 x.2).wp K := by kernel_rfl
theorem wtl_slices_BinarySearchFunc_Name_string__find_place_1_l0 (p : ((List Nam) × (Str × (Unit × (Int × (Int × Int)))))) (K : ((List Nam) × (Str × (Unit × (Int × (Int × Int))))) ⊕ ((List Nam) × (Str × (Unit × (Int × Int)))) → Prop) : roundT (S_slices_BinarySearchFunc_Name_string__find_place_1) [0, 1, 2, 8, 9, 10] (.cons (.dt (.L .nam)) (.cons (.dt .str) (.cons (.dt (.clo 103 .nil)) (.cons (.dt .int) (.cons (.dt .int) (.dt .int)))))) [⟨.exit 0, [0, 1, 2, 8, 9], (.cons (.dt (.L .nam)) (.cons (.dt .str) (.cons (.dt (.clo 103 .nil)) (.cons (.dt .int) (.dt .int)))))⟩] (loopAt Try.f102 0) p K = (tl_slices_BinarySearchFunc_Name_string__find_place_1_l0 p.1 p.2.1 p.2.2.1 p.2.2.2.1 p.2.2.2.2.1 p.2.2.2.2.2).wp K := by kernel_rfl
theorem wt_slices_BinarySearchFunc_Name_string__find_place_1 (x : ((List Nam) × (Str × Unit))) (K : (Int × Bool) → Prop) : funT (S_slices_BinarySearchFunc_Name_string__find_place_1) Try.f102 (.cons (.L .nam) (.cons .str (.clo 103 .nil))) (.cons (.dt .int) (.dt .bool)) x K = (t_slices_BinarySearchFunc_Name_string__find_place_1 x.1 x.2.1 x.2.2).wp K := by kernel_rfl
theorem wt_find_place (x : (Nod × Str)) (K : (Int × Bool) → Prop) : funT (S_find_place) Try.f91 (.cons (.S .nod) .str) (.cons (.dt .int) (.dt .bool)) x K = (t_find_place x.1 x.2).wp K := by kernel_rfl
theorem wt_find_Name (x : (Nod × Str)) (K : (Int × Bool) → Prop) : funT (S_find_Name) Try.f75 (.cons (.S .nod) .str) (.cons (.dt .int) (.dt .bool)) x K = (t_find_Name x.1 x.2).wp K := by kernel_rfl
theorem wt_save_file (x : Dsk) (K : (Int × Bool) → Prop) : funT (S_save_file) Try.f51 (.S .dsk) (.cons (.dt .int) (.dt .bool)) x K = (t_save_file x).wp K := by kernel_rfl
theorem wt_keep_file (x : (Dsk × Int)) (K : (Nod × Int) → Prop) : funT (S_keep_file) Try.f76 (.cons (.S .dsk) .int) (.cons (.dt (.S .nod)) (.dt .int)) x K = (t_keep_file x.1 x.2).wp K := by kernel_rfl
theorem wt_keep_in (x : Int) (K : Bool → Prop) : funT (S_keep_in) Try.f77 .int (.dt .bool) x K = (t_keep_in x).wp K := by kernel_rfl
theorem wt_cmp_isNaN_int (x : Int) (K : Bool → Prop) : funT (S_cmp_isNaN_int) Try.f84 .int (.dt .bool) x K = (t_cmp_isNaN_int x).wp K := by kernel_rfl
theorem wt_cmp_Compare_int (x : (Int × Int)) (K : Int → Prop) : funT (S_cmp_Compare_int) Try.f60 (.cons .int .int) (.dt .int) x K = (t_cmp_Compare_int x.1 x.2).wp K := by kernel_rfl
theorem wt_sparse_block_1 (x : (Blk × Int)) (K : Int → Prop) : funT (S_sparse_block_1) Try.f106 (.cons (.S .blk) .int) (.dt .int) x K = (t_sparse_block_1 x.1 x.2).wp K := by kernel_rfl
theorem wtl_slices_BinarySearchFunc_Block_int__sparse_block_1_l0 (p : ((List Blk) × (Int × (Unit × (Int × (Int × Int)))))) (K : ((List Blk) × (Int × (Unit × (Int × (Int × Int))))) ⊕ ((List Blk) × (Int × (Unit × (Int × Int)))) → Prop) : roundT (S_slices_BinarySearchFunc_Block_int__sparse_block_1) [0, 1, 2, 8, 9, 10] (.cons (.dt (.L .blk)) (.cons (.dt .int) (.cons (.dt (.clo 106 .nil)) (.cons (.dt .int) (.cons (.dt .int) (.dt .int)))))) [⟨.exit 0, [0, 1, 2, 8, 9], (.cons (.dt (.L .blk)) (.cons (.dt .int) (.cons (.dt (.clo 106 .nil)) (.cons (.dt .int) (.dt .int)))))⟩] (loopAt Try.f105 0) p K = (tl_slices_BinarySearchFunc_Block_int__sparse_block_1_l0 p.1 p.2.1 p.2.2.1 p.2.2.2.1 p.2.2.2.2.1 p.2.2.2.2.2).wp K := by kernel_rfl
theorem wt_slices_BinarySearchFunc_Block_int__sparse_block_1 (x : ((List Blk) × (Int × Unit))) (K : (Int × Bool) → Prop) : funT (S_slices_BinarySearchFunc_Block_int__sparse_block_1) Try.f105 (.cons (.L .blk) (.cons .int (.clo 106 .nil))) (.cons (.dt .int) (.dt .bool)) x K = (t_slices_BinarySearchFunc_Block_int__sparse_block_1 x.1 x.2.1 x.2.2).wp K := by kernel_rfl
theorem wt_sparse_block (x : (Fil × Int)) (K : ((List UInt8) × Bool) → Prop) : funT (S_sparse_block) Try.f92 (.cons (.S .fil) .int) (.cons (.dt (.L .u8)) (.dt .bool)) x K = (t_sparse_block x.1 x.2).wp K := by kernel_rfl
theorem wtl_sparse_Read_l0 (p : (Int × (Int × (Fil × ((List UInt8) × Int))))) (K : (Int × (Int × (Fil × ((List UInt8) × Int)))) ⊕ (List UInt8) → Prop) : roundT (S_sparse_Read) [1, 2, 3, 7, 8] (.cons (.dt .int) (.cons (.dt .int) (.cons (.boxS .fil []) (.cons (.gs .u8) (.dt .int))))) [⟨.exit 0, [7], (.gs .u8)⟩] (loopAt Try.f78 0) p K = (tl_sparse_Read_l0 p.1 p.2.1 p.2.2.1 p.2.2.2.1 p.2.2.2.2).wp K := by kernel_rfl
theorem wt_sparse_Read (x : (Fil × (Int × Int))) (K : (List UInt8) → Prop) : funT (S_sparse_Read) Try.f78 (.cons (.S .fil) (.cons .int .int)) (.dt (.L .u8)) x K = (t_sparse_Read x.1 x.2.1 x.2.2).wp K := by kernel_rfl
theorem wt_keep_Read (x : (Dsk × (Int × (Int × Int)))) (K : ((List UInt8) × Int) → Prop) : funT (S_keep_Read) Try.f52 (.cons (.S .dsk) (.cons .int (.cons .int .int))) (.cons (.dt (.L .u8)) (.dt .int)) x K = (t_keep_Read x.1 x.2.1 x.2.2.1 x.2.2.2).wp K := by kernel_rfl
theorem wtl_table_number_l0 (p : (Int × ((List UInt8) × (Int × Int)))) (K : (Int × ((List UInt8) × (Int × Int))) ⊕ Int → Prop) : roundT (S_table_number) [3, 7, 8, 9] (.cons (.dt .int) (.cons (.dt (.L .u8)) (.cons (.dt .int) (.dt .int)))) [⟨.exit 0, [3], (.dt .int)⟩] (loopAt Try.f65 0) p K = (tl_table_number_l0 p.1 p.2.1 p.2.2.1 p.2.2.2).wp K := by kernel_rfl
theorem wt_table_number (x : (List UInt8)) (K : Int → Prop) : funT (S_table_number) Try.f65 (.L .u8) (.dt .int) x K = (t_table_number x).wp K := by kernel_rfl
theorem wtl_table_rows_l0 (p : ((List UInt8) × ((List Rwo) × (Int × Int)))) (K : ((List UInt8) × ((List Rwo) × (Int × Int))) ⊕ (List Rwo) → Prop) : roundT (S_table_rows) [0, 5, 6, 7] (.cons (.dt (.L .u8)) (.cons (.gs .row) (.cons (.dt .int) (.dt .int)))) [⟨.exit 0, [5], (.gs .row)⟩] (loopAt Try.f66 0) p K = (tl_table_rows_l0 p.1 p.2.1 p.2.2.1 p.2.2.2).wp K := by kernel_rfl
theorem wt_table_rows (x : ((List UInt8) × Int)) (K : (List Rwo) → Prop) : funT (S_table_rows) Try.f66 (.cons (.L .u8) .int) (.dt (.L .row)) x K = (t_table_rows x.1 x.2).wp K := by kernel_rfl
theorem wt_table_in (x : (Int × Int)) (K : Bool → Prop) : funT (S_table_in) Try.f32 (.cons .int .int) (.dt .bool) x K = (t_table_in x.1 x.2).wp K := by kernel_rfl
theorem wt_table_isRow (x : (Tbl × Rwo)) (K : Bool → Prop) : funT (S_table_isRow) Try.f31 (.cons (.S .tbl) (.S .row)) (.dt .bool) x K = (t_table_isRow x.1 x.2).wp K := by kernel_rfl
theorem wt_table_Is_1 (x : (Rwo × Tbl)) (K : Bool → Prop) : funT (S_table_Is_1) Try.f30 (.cons (.S .row) (.look .tbl)) (.dt .bool) x K = (t_table_Is_1 x.1 x.2).wp K := by kernel_rfl
variable [Syms]
theorem o_disk_place : ConOK Try.prog (S_disk_place) := conOK_of (consOK_cons c_slices_BinarySearchFunc_Node_int64__disk_place_1 consOK_nil) rfl
theorem c_disk_place : ConOne Try.prog 89 K_disk_place :=
  con_T (a := (.cons (.S .dsk) .int)) (r := (.cons (.dt .int) (.dt .bool))) (t := fun x => t_disk_place x.1 x.2) tyokG (o_disk_place) Try.checked.mixed ⟨Try.func89, by kernel_rfl, by kernel_rfl⟩ (loops_none (by kernel_rfl)) (by kernel_rfl) (fun x K => wt_disk_place x K)
theorem c_slices_Clone_Block : ConOne Try.prog 108 K_slices_Clone_Block := con_clone (by_ := 32) tyokG clone_ok Try.checked.mixed ⟨Try.func108, by kernel_rfl, by kernel_rfl⟩ (by kernel_rfl) (fun K h => cast (q1_slices_Clone_Block K).symm ⟨fun _ => h (Nat.zero_le _), nofun⟩) (fun K h => cast (q2_slices_Clone_Block K).symm ⟨nofun, fun _ => ⟨Nat.zero_le _, rfl, h (Nat.zero_le _)⟩⟩) (fun x xs K h => cast (q3_slices_Clone_Block x xs K).symm ⟨nofun, fun _ => decAllP_mono (fun ys h => ⟨h.1, rfl, h.2⟩) h⟩)
theorem c_slices_Clone_byte : ConOne Try.prog 109 K_slices_Clone_byte := con_clone (by_ := 1) tyokG clone_ok Try.checked.mixed ⟨Try.func109, by kernel_rfl, by kernel_rfl⟩ (by kernel_rfl) (fun K h => cast (q1_slices_Clone_byte K).symm ⟨fun _ => h (Nat.zero_le _), nofun⟩) (fun K h => cast (q2_slices_Clone_byte K).symm ⟨nofun, fun _ => ⟨Nat.zero_le _, rfl, h (Nat.zero_le _)⟩⟩) (fun x xs K h => cast (q3_slices_Clone_byte x xs K).symm ⟨nofun, fun _ => decAllP_mono (fun ys h => ⟨h.1, rfl, h.2⟩) h⟩)
theorem o_disk_file : ConOK Try.prog (S_disk_file) := conOK_of (consOK_cons c_slices_Clone_Block (consOK_cons c_slices_Clone_byte consOK_nil)) rfl
theorem lL_disk_file_l0 : LoopOK Try.prog Try.f100.ntmps (loopT [1, 2, 10, 11] (.cons (.boxS .fil [false, true]) (.cons (.boxS .fil []) (.cons (.dt .int) (.dt .int)))) [⟨.exit 0, [1, 2], (.cons (.boxS .fil [false, true]) (.boxS .fil []))⟩] (L_disk_file_l0)) (loopAt Try.f100 0) :=
  loopT_ok (live := [1, 2, 10, 11]) (vt := (.cons (.boxS .fil [false, true]) (.cons (.boxS .fil []) (.cons (.dt .int) (.dt .int))))) (ex := [⟨.exit 0, [1, 2], (.cons (.boxS .fil [false, true]) (.boxS .fil []))⟩]) tyokG (o_disk_file) Try.checked.mixed (by kernel_rfl) (by kernel_rfl) (by kernel_rfl) (loops_nil (by kernel_rfl)) (t := fun q => tl_disk_file_l0 q.1 q.2.1 q.2.2.1 q.2.2.2) (by kernel_rfl) (fun p K => wtl_disk_file_l0 p K)
theorem c_disk_file : ConOne Try.prog 100 K_disk_file :=
  con_T (a := (.S .fil)) (r := (.dt (.S .fil))) (t := fun x => t_disk_file x) tyokG (o_disk_file) Try.checked.mixed ⟨Try.func100, by kernel_rfl, by kernel_rfl⟩ (loops_code (by kernel_rfl) (loopIn_cons (by kernel_rfl) (lL_disk_file_l0) (loopsIn_nil))) (by kernel_rfl) (fun x K => wt_disk_file x K)
theorem c_slices_Clone_Name : ConOne Try.prog 101 K_slices_Clone_Name := con_clone (by_ := 24) tyokG clone_ok Try.checked.mixed ⟨Try.func101, by kernel_rfl, by kernel_rfl⟩ (by kernel_rfl) (fun K h => cast (q1_slices_Clone_Name K).symm ⟨fun _ => h (Nat.zero_le _), nofun⟩) (fun K h => cast (q2_slices_Clone_Name K).symm ⟨nofun, fun _ => ⟨Nat.zero_le _, rfl, h (Nat.zero_le _)⟩⟩) (fun x xs K h => cast (q3_slices_Clone_Name x xs K).symm ⟨nofun, fun _ => decAllP_mono (fun ys h => ⟨h.1, rfl, h.2⟩) h⟩)
theorem o_disk_node : ConOK Try.prog (S_disk_node) := conOK_of (consOK_cons c_disk_file (consOK_cons c_slices_Clone_Name consOK_nil)) rfl
theorem c_disk_node : ConOne Try.prog 90 K_disk_node :=
  con_T (a := (.S .nod)) (r := (.dt (.S .nod))) (t := fun x => t_disk_node x) tyokG (o_disk_node) Try.checked.mixed ⟨Try.func90, by kernel_rfl, by kernel_rfl⟩ (loops_none (by kernel_rfl)) (by kernel_rfl) (fun x K => wt_disk_node x K)
theorem o_disk_Get : ConOK Try.prog (S_disk_Get) := conOK_of (consOK_cons c_disk_place (consOK_cons c_disk_node consOK_nil)) rfl
theorem c_disk_Get : ConOne Try.prog 74 K_disk_Get :=
  con_T (a := (.cons (.S .dsk) .int)) (r := (.cons (.dt (.S .nod)) (.dt .bool))) (t := fun x => t_disk_Get x.1 x.2) tyokG (o_disk_Get) Try.checked.mixed ⟨Try.func74, by kernel_rfl, by kernel_rfl⟩ (loops_none (by kernel_rfl)) (by kernel_rfl) (fun x K => wt_disk_Get x K)
theorem o_cmp_isNaN_string : ConOK Try.prog (S_cmp_isNaN_string) := conOK_of consOK_nil rfl
theorem c_cmp_isNaN_string : ConOne Try.prog 110 K_cmp_isNaN_string :=
  con_T (a := .str) (r := (.dt .bool)) (t := fun x => t_cmp_isNaN_string x) tyokG (o_cmp_isNaN_string) Try.checked.mixed ⟨Try.func110, by kernel_rfl, by kernel_rfl⟩ (loops_none (by kernel_rfl)) (by kernel_rfl) (fun x K => wt_cmp_isNaN_string x K)
theorem o_cmp_Compare_string : ConOK Try.prog (S_cmp_Compare_string) := conOK_of (consOK_cons c_cmp_isNaN_string consOK_nil) rfl
theorem c_cmp_Compare_string : ConOne Try.prog 104 K_cmp_Compare_string :=
  con_T (a := (.cons .str .str)) (r := (.dt .int)) (t := fun x => t_cmp_Compare_string x.1 x.2) tyokG (o_cmp_Compare_string) Try.checked.mixed ⟨Try.func104, by kernel_rfl, by kernel_rfl⟩ (loops_none (by kernel_rfl)) (by kernel_rfl) (fun x K => wt_cmp_Compare_string x K)
theorem o_find_place_1 : ConOK Try.prog (S_find_place_1) := conOK_of (consOK_cons c_cmp_Compare_string consOK_nil) rfl
theorem c_find_place_1 : ConOne Try.prog 103 K_find_place_1 :=
  con_T (a := (.cons (.S .nam) .str)) (r := (.dt .int)) (t := fun x => t_find_place_1 x.1 x.2) tyokG (o_find_place_1) Try.checked.mixed ⟨Try.func103, by kernel_rfl, by kernel_rfl⟩ (loops_none (by kernel_rfl)) (by kernel_rfl) (fun x K => wt_find_place_1 x K)
theorem o_slices_BinarySearchFunc_Name_string__find_place_1 : ConOK Try.prog (S_slices_BinarySearchFunc_Name_string__find_place_1) := conOK_of (consOK_cons c_find_place_1 consOK_nil) rfl
theorem lL_slices_BinarySearchFunc_Name_string__find_place_1_l0 : LoopOK Try.prog Try.f102.ntmps (loopT [0, 1, 2, 8, 9, 10] (.cons (.dt (.L .nam)) (.cons (.dt .str) (.cons (.dt (.clo 103 .nil)) (.cons (.dt .int) (.cons (.dt .int) (.dt .int)))))) [⟨.exit 0, [0, 1, 2, 8, 9], (.cons (.dt (.L .nam)) (.cons (.dt .str) (.cons (.dt (.clo 103 .nil)) (.cons (.dt .int) (.dt .int)))))⟩] (L_slices_BinarySearchFunc_Name_string__find_place_1_l0)) (loopAt Try.f102 0) :=
  loopT_ok (live := [0, 1, 2, 8, 9, 10]) (vt := (.cons (.dt (.L .nam)) (.cons (.dt .str) (.cons (.dt (.clo 103 .nil)) (.cons (.dt .int) (.cons (.dt .int) (.dt .int))))))) (ex := [⟨.exit 0, [0, 1, 2, 8, 9], (.cons (.dt (.L .nam)) (.cons (.dt .str) (.cons (.dt (.clo 103 .nil)) (.cons (.dt .int) (.dt .int)))))⟩]) tyokG (o_slices_BinarySearchFunc_Name_string__find_place_1) Try.checked.mixed (by kernel_rfl) (by kernel_rfl) (by kernel_rfl) (loops_nil (by kernel_rfl)) (t := fun q => tl_slices_BinarySearchFunc_Name_string__find_place_1_l0 q.1 q.2.1 q.2.2.1 q.2.2.2.1 q.2.2.2.2.1 q.2.2.2.2.2) (by kernel_rfl) (fun p K => wtl_slices_BinarySearchFunc_Name_string__find_place_1_l0 p K)
theorem c_slices_BinarySearchFunc_Name_string__find_place_1 : ConOne Try.prog 102 K_slices_BinarySearchFunc_Name_string__find_place_1 :=
  con_T (a := (.cons (.L .nam) (.cons .str (.clo 103 .nil)))) (r := (.cons (.dt .int) (.dt .bool))) (t := fun x => t_slices_BinarySearchFunc_Name_string__find_place_1 x.1 x.2.1 x.2.2) tyokG (o_slices_BinarySearchFunc_Name_string__find_place_1) Try.checked.mixed ⟨Try.func102, by kernel_rfl, by kernel_rfl⟩ (loops_code (by kernel_rfl) (loopIn_cons (by kernel_rfl) (lL_slices_BinarySearchFunc_Name_string__find_place_1_l0) (loopsIn_nil))) (by kernel_rfl) (fun x K => wt_slices_BinarySearchFunc_Name_string__find_place_1 x K)
theorem o_find_place : ConOK Try.prog (S_find_place) := conOK_of (consOK_cons c_slices_BinarySearchFunc_Name_string__find_place_1 consOK_nil) rfl
theorem c_find_place : ConOne Try.prog 91 K_find_place :=
  con_T (a := (.cons (.S .nod) .str)) (r := (.cons (.dt .int) (.dt .bool))) (t := fun x => t_find_place x.1 x.2) tyokG (o_find_place) Try.checked.mixed ⟨Try.func91, by kernel_rfl, by kernel_rfl⟩ (loops_none (by kernel_rfl)) (by kernel_rfl) (fun x K => wt_find_place x K)
theorem o_find_Name : ConOK Try.prog (S_find_Name) := conOK_of (consOK_cons c_find_place consOK_nil) rfl
theorem c_find_Name : ConOne Try.prog 75 K_find_Name :=
  con_T (a := (.cons (.S .nod) .str)) (r := (.cons (.dt .int) (.dt .bool))) (t := fun x => t_find_Name x.1 x.2) tyokG (o_find_Name) Try.checked.mixed ⟨Try.func75, by kernel_rfl, by kernel_rfl⟩ (loops_none (by kernel_rfl)) (by kernel_rfl) (fun x K => wt_find_Name x K)
theorem o_save_file : ConOK Try.prog (S_save_file) := conOK_of (consOK_cons c_disk_Get (consOK_cons c_find_Name consOK_nil)) rfl
theorem c_save_file : ConOne Try.prog 51 K_save_file :=
  con_T (a := (.S .dsk)) (r := (.cons (.dt .int) (.dt .bool))) (t := fun x => t_save_file x) tyokG (o_save_file) Try.checked.mixed ⟨Try.func51, by kernel_rfl, by kernel_rfl⟩ (loops_none (by kernel_rfl)) (by kernel_rfl) (fun x K => wt_save_file x K)
theorem o_keep_file : ConOK Try.prog (S_keep_file) := conOK_of (consOK_cons c_disk_Get consOK_nil) rfl
theorem c_keep_file : ConOne Try.prog 76 K_keep_file :=
  con_T (a := (.cons (.S .dsk) .int)) (r := (.cons (.dt (.S .nod)) (.dt .int))) (t := fun x => t_keep_file x.1 x.2) tyokG (o_keep_file) Try.checked.mixed ⟨Try.func76, by kernel_rfl, by kernel_rfl⟩ (loops_none (by kernel_rfl)) (by kernel_rfl) (fun x K => wt_keep_file x K)
theorem o_keep_in : ConOK Try.prog (S_keep_in) := conOK_of consOK_nil rfl
theorem c_keep_in : ConOne Try.prog 77 K_keep_in :=
  con_T (a := .int) (r := (.dt .bool)) (t := fun x => t_keep_in x) tyokG (o_keep_in) Try.checked.mixed ⟨Try.func77, by kernel_rfl, by kernel_rfl⟩ (loops_none (by kernel_rfl)) (by kernel_rfl) (fun x K => wt_keep_in x K)
theorem o_cmp_isNaN_int : ConOK Try.prog (S_cmp_isNaN_int) := conOK_of consOK_nil rfl
theorem c_cmp_isNaN_int : ConOne Try.prog 84 K_cmp_isNaN_int :=
  con_T (a := .int) (r := (.dt .bool)) (t := fun x => t_cmp_isNaN_int x) tyokG (o_cmp_isNaN_int) Try.checked.mixed ⟨Try.func84, by kernel_rfl, by kernel_rfl⟩ (loops_none (by kernel_rfl)) (by kernel_rfl) (fun x K => wt_cmp_isNaN_int x K)
theorem o_cmp_Compare_int : ConOK Try.prog (S_cmp_Compare_int) := conOK_of (consOK_cons c_cmp_isNaN_int consOK_nil) rfl
theorem c_cmp_Compare_int : ConOne Try.prog 60 K_cmp_Compare_int :=
  con_T (a := (.cons .int .int)) (r := (.dt .int)) (t := fun x => t_cmp_Compare_int x.1 x.2) tyokG (o_cmp_Compare_int) Try.checked.mixed ⟨Try.func60, by kernel_rfl, by kernel_rfl⟩ (loops_none (by kernel_rfl)) (by kernel_rfl) (fun x K => wt_cmp_Compare_int x K)
theorem o_sparse_block_1 : ConOK Try.prog (S_sparse_block_1) := conOK_of (consOK_cons c_cmp_Compare_int consOK_nil) rfl
theorem c_sparse_block_1 : ConOne Try.prog 106 K_sparse_block_1 :=
  con_T (a := (.cons (.S .blk) .int)) (r := (.dt .int)) (t := fun x => t_sparse_block_1 x.1 x.2) tyokG (o_sparse_block_1) Try.checked.mixed ⟨Try.func106, by kernel_rfl, by kernel_rfl⟩ (loops_none (by kernel_rfl)) (by kernel_rfl) (fun x K => wt_sparse_block_1 x K)
theorem o_slices_BinarySearchFunc_Block_int__sparse_block_1 : ConOK Try.prog (S_slices_BinarySearchFunc_Block_int__sparse_block_1) := conOK_of (consOK_cons c_sparse_block_1 consOK_nil) rfl
theorem lL_slices_BinarySearchFunc_Block_int__sparse_block_1_l0 : LoopOK Try.prog Try.f105.ntmps (loopT [0, 1, 2, 8, 9, 10] (.cons (.dt (.L .blk)) (.cons (.dt .int) (.cons (.dt (.clo 106 .nil)) (.cons (.dt .int) (.cons (.dt .int) (.dt .int)))))) [⟨.exit 0, [0, 1, 2, 8, 9], (.cons (.dt (.L .blk)) (.cons (.dt .int) (.cons (.dt (.clo 106 .nil)) (.cons (.dt .int) (.dt .int)))))⟩] (L_slices_BinarySearchFunc_Block_int__sparse_block_1_l0)) (loopAt Try.f105 0) :=
  loopT_ok (live := [0, 1, 2, 8, 9, 10]) (vt := (.cons (.dt (.L .blk)) (.cons (.dt .int) (.cons (.dt (.clo 106 .nil)) (.cons (.dt .int) (.cons (.dt .int) (.dt .int))))))) (ex := [⟨.exit 0, [0, 1, 2, 8, 9], (.cons (.dt (.L .blk)) (.cons (.dt .int) (.cons (.dt (.clo 106 .nil)) (.cons (.dt .int) (.dt .int)))))⟩]) tyokG (o_slices_BinarySearchFunc_Block_int__sparse_block_1) Try.checked.mixed (by kernel_rfl) (by kernel_rfl) (by kernel_rfl) (loops_nil (by kernel_rfl)) (t := fun q => tl_slices_BinarySearchFunc_Block_int__sparse_block_1_l0 q.1 q.2.1 q.2.2.1 q.2.2.2.1 q.2.2.2.2.1 q.2.2.2.2.2) (by kernel_rfl) (fun p K => wtl_slices_BinarySearchFunc_Block_int__sparse_block_1_l0 p K)
theorem c_slices_BinarySearchFunc_Block_int__sparse_block_1 : ConOne Try.prog 105 K_slices_BinarySearchFunc_Block_int__sparse_block_1 :=
  con_T (a := (.cons (.L .blk) (.cons .int (.clo 106 .nil)))) (r := (.cons (.dt .int) (.dt .bool))) (t := fun x => t_slices_BinarySearchFunc_Block_int__sparse_block_1 x.1 x.2.1 x.2.2) tyokG (o_slices_BinarySearchFunc_Block_int__sparse_block_1) Try.checked.mixed ⟨Try.func105, by kernel_rfl, by kernel_rfl⟩ (loops_code (by kernel_rfl) (loopIn_cons (by kernel_rfl) (lL_slices_BinarySearchFunc_Block_int__sparse_block_1_l0) (loopsIn_nil))) (by kernel_rfl) (fun x K => wt_slices_BinarySearchFunc_Block_int__sparse_block_1 x K)
theorem o_sparse_block : ConOK Try.prog (S_sparse_block) := conOK_of (consOK_cons c_slices_BinarySearchFunc_Block_int__sparse_block_1 consOK_nil) rfl
theorem c_sparse_block : ConOne Try.prog 92 K_sparse_block :=
  con_T (a := (.cons (.S .fil) .int)) (r := (.cons (.dt (.L .u8)) (.dt .bool))) (t := fun x => t_sparse_block x.1 x.2) tyokG (o_sparse_block) Try.checked.mixed ⟨Try.func92, by kernel_rfl, by kernel_rfl⟩ (loops_none (by kernel_rfl)) (by kernel_rfl) (fun x K => wt_sparse_block x K)
theorem o_sparse_Read : ConOK Try.prog (S_sparse_Read) := conOK_of (consOK_cons c_sparse_block consOK_nil) rfl
theorem lL_sparse_Read_l0 : LoopOK Try.prog Try.f78.ntmps (loopT [1, 2, 3, 7, 8] (.cons (.dt .int) (.cons (.dt .int) (.cons (.boxS .fil []) (.cons (.gs .u8) (.dt .int))))) [⟨.exit 0, [7], (.gs .u8)⟩] (L_sparse_Read_l0)) (loopAt Try.f78 0) :=
  loopT_ok (live := [1, 2, 3, 7, 8]) (vt := (.cons (.dt .int) (.cons (.dt .int) (.cons (.boxS .fil []) (.cons (.gs .u8) (.dt .int)))))) (ex := [⟨.exit 0, [7], (.gs .u8)⟩]) tyokG (o_sparse_Read) Try.checked.mixed (by kernel_rfl) (by kernel_rfl) (by kernel_rfl) (loops_nil (by kernel_rfl)) (t := fun q => tl_sparse_Read_l0 q.1 q.2.1 q.2.2.1 q.2.2.2.1 q.2.2.2.2) (by kernel_rfl) (fun p K => wtl_sparse_Read_l0 p K)
theorem c_sparse_Read : ConOne Try.prog 78 K_sparse_Read :=
  con_T (a := (.cons (.S .fil) (.cons .int .int))) (r := (.dt (.L .u8))) (t := fun x => t_sparse_Read x.1 x.2.1 x.2.2) tyokG (o_sparse_Read) Try.checked.mixed ⟨Try.func78, by kernel_rfl, by kernel_rfl⟩ (loops_code (by kernel_rfl) (loopIn_cons (by kernel_rfl) (lL_sparse_Read_l0) (loopsIn_nil))) (by kernel_rfl) (fun x K => wt_sparse_Read x K)
theorem o_keep_Read : ConOK Try.prog (S_keep_Read) := conOK_of (consOK_cons c_keep_file (consOK_cons c_keep_in (consOK_cons c_sparse_Read consOK_nil))) rfl
theorem c_keep_Read : ConOne Try.prog 52 K_keep_Read :=
  con_T (a := (.cons (.S .dsk) (.cons .int (.cons .int .int)))) (r := (.cons (.dt (.L .u8)) (.dt .int))) (t := fun x => t_keep_Read x.1 x.2.1 x.2.2.1 x.2.2.2) tyokG (o_keep_Read) Try.checked.mixed ⟨Try.func52, by kernel_rfl, by kernel_rfl⟩ (loops_none (by kernel_rfl)) (by kernel_rfl) (fun x K => wt_keep_Read x K)
theorem o_table_number : ConOK Try.prog (S_table_number) := conOK_of consOK_nil rfl
theorem lL_table_number_l0 : LoopOK Try.prog Try.f65.ntmps (loopT [3, 7, 8, 9] (.cons (.dt .int) (.cons (.dt (.L .u8)) (.cons (.dt .int) (.dt .int)))) [⟨.exit 0, [3], (.dt .int)⟩] (L_table_number_l0)) (loopAt Try.f65 0) :=
  loopT_ok (live := [3, 7, 8, 9]) (vt := (.cons (.dt .int) (.cons (.dt (.L .u8)) (.cons (.dt .int) (.dt .int))))) (ex := [⟨.exit 0, [3], (.dt .int)⟩]) tyokG (o_table_number) Try.checked.mixed (by kernel_rfl) (by kernel_rfl) (by kernel_rfl) (loops_nil (by kernel_rfl)) (t := fun q => tl_table_number_l0 q.1 q.2.1 q.2.2.1 q.2.2.2) (by kernel_rfl) (fun p K => wtl_table_number_l0 p K)
theorem c_table_number : ConOne Try.prog 65 K_table_number :=
  con_T (a := (.L .u8)) (r := (.dt .int)) (t := fun x => t_table_number x) tyokG (o_table_number) Try.checked.mixed ⟨Try.func65, by kernel_rfl, by kernel_rfl⟩ (loops_code (by kernel_rfl) (loopIn_cons (by kernel_rfl) (lL_table_number_l0) (loopsIn_nil))) (by kernel_rfl) (fun x K => wt_table_number x K)
theorem o_table_rows : ConOK Try.prog (S_table_rows) := conOK_of (consOK_cons c_table_number consOK_nil) rfl
theorem lL_table_rows_l0 : LoopOK Try.prog Try.f66.ntmps (loopT [0, 5, 6, 7] (.cons (.dt (.L .u8)) (.cons (.gs .row) (.cons (.dt .int) (.dt .int)))) [⟨.exit 0, [5], (.gs .row)⟩] (L_table_rows_l0)) (loopAt Try.f66 0) :=
  loopT_ok (live := [0, 5, 6, 7]) (vt := (.cons (.dt (.L .u8)) (.cons (.gs .row) (.cons (.dt .int) (.dt .int))))) (ex := [⟨.exit 0, [5], (.gs .row)⟩]) tyokG (o_table_rows) Try.checked.mixed (by kernel_rfl) (by kernel_rfl) (by kernel_rfl) (loops_nil (by kernel_rfl)) (t := fun q => tl_table_rows_l0 q.1 q.2.1 q.2.2.1 q.2.2.2) (by kernel_rfl) (fun p K => wtl_table_rows_l0 p K)
theorem c_table_rows : ConOne Try.prog 66 K_table_rows :=
  con_T (a := (.cons (.L .u8) .int)) (r := (.dt (.L .row))) (t := fun x => t_table_rows x.1 x.2) tyokG (o_table_rows) Try.checked.mixed ⟨Try.func66, by kernel_rfl, by kernel_rfl⟩ (loops_code (by kernel_rfl) (loopIn_cons (by kernel_rfl) (lL_table_rows_l0) (loopsIn_nil))) (by kernel_rfl) (fun x K => wt_table_rows x K)
theorem o_table_in : ConOK Try.prog (S_table_in) := conOK_of consOK_nil rfl
theorem c_table_in : ConOne Try.prog 32 K_table_in :=
  con_T (a := (.cons .int .int)) (r := (.dt .bool)) (t := fun x => t_table_in x.1 x.2) tyokG (o_table_in) Try.checked.mixed ⟨Try.func32, by kernel_rfl, by kernel_rfl⟩ (loops_none (by kernel_rfl)) (by kernel_rfl) (fun x K => wt_table_in x K)
theorem o_table_isRow : ConOK Try.prog (S_table_isRow) := conOK_of (consOK_cons c_table_in consOK_nil) rfl
theorem c_table_isRow : ConOne Try.prog 31 K_table_isRow :=
  con_T (a := (.cons (.S .tbl) (.S .row))) (r := (.dt .bool)) (t := fun x => t_table_isRow x.1 x.2) tyokG (o_table_isRow) Try.checked.mixed ⟨Try.func31, by kernel_rfl, by kernel_rfl⟩ (loops_none (by kernel_rfl)) (by kernel_rfl) (fun x K => wt_table_isRow x K)
theorem o_table_Is_1 : ConOK Try.prog (S_table_Is_1) := conOK_of (consOK_cons c_table_isRow consOK_nil) rfl
theorem c_table_Is_1 : ConOne Try.prog 30 K_table_Is_1 :=
  con_T (a := (.cons (.S .row) (.look .tbl))) (r := (.dt .bool)) (t := fun x => t_table_Is_1 x.1 x.2) tyokG (o_table_Is_1) Try.checked.mixed ⟨Try.func30, by kernel_rfl, by kernel_rfl⟩ (loops_none (by kernel_rfl)) (by kernel_rfl) (fun x K => wt_table_Is_1 x K)
end Go.Proofs.Ythbgioembchnkaa.VS
