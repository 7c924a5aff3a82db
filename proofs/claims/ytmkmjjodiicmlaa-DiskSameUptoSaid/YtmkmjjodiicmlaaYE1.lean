/- What functions answer, by their texts. Printed by a program of this work. Conditions: none. -/
import Derived.Test.YtmkmjjodiicmlaaYE
import Derived.KernelRfl
namespace Go.Proofs.Ytmkmjjodiicmlaa.VS
set_option maxRecDepth 100000
set_option maxHeartbeats 0
set_option linter.unusedVariables false
/-! veneer/sparse.block -/
noncomputable def t_sparse_block (a0 : Fil) (a1 : Int) : T ((List UInt8) × Bool) :=
  (T.bind (f_slices_BinarySearchFunc_Block_int__sparse_block_1 a0.blocks a1 ()) fun r0 => (T.ite (!r0.snd) (T.req ((0 : Int) ≤ (16 : Int) ∧ (16 : Int) = (16 : Int) ∧ roomP (Int.toNat (16 : Int)) (1 : Nat)) (T.req ((0 : Nat) + Int.toNat (16 : Int) ≤ (List.replicate (Int.toNat (16 : Int)) (UInt8.ofNat (Int.toNat (0 : Int)))).length) (T.ret ((List.take (Int.toNat (16 : Int)) (List.drop (0 : Nat) (List.replicate (Int.toNat (16 : Int)) (UInt8.ofNat (Int.toNat (0 : Int))))), false))))) (T.req ((0 : Int) ≤ r0.fst ∧ r0.fst < (↑a0.blocks.length : Int)) (T.ret (((a0.blocks.getD (Int.toNat r0.fst) GT.blk.nought).data, true))))))
noncomputable def f_sparse_block (a0 : Fil) (a1 : Int) : Option ((List UInt8) × Bool) := (t_sparse_block a0 a1).run
noncomputable def K_sparse_block : List AV → Option Con := conT (.cons (.S .fil) .int) (.cons (.dt (.L .u8)) (.dt .bool)) fun x => f_sparse_block x.1 x.2
noncomputable def S_sparse_block : SE := { T := tabs, con := conOf [(88, K_slices_BinarySearchFunc_Block_int__sparse_block_1)], own := fun f => false, gt := gtS, loop := lpOf [] }
/-! veneer/sparse.Read -/
noncomputable def tl_sparse_Read_l0 (s1 : Int) (s2 : Int) (s3 : Fil) (s7 : (List UInt8)) (s8 : Int) : T ((Int × (Int × (Fil × ((List UInt8) × Int)))) ⊕ (List UInt8)) :=
  (T.ite (decide (s8 < if s3.size < IntKind.i64.wrap (s1 + s2) then s3.size else IntKind.i64.wrap (s1 + s2))) (T.bind (f_sparse_block s3 (IntKind.i64.wrap (s8.tdiv (16 : Int)))) fun r0 => (T.req ((0 : Int) ≤ s8.tmod (16 : Int) ∧ s8.tmod (16 : Int) ≤ IntKind.i64.wrap (s8.tmod (16 : Int) + if IntKind.i64.wrap ((if s3.size < IntKind.i64.wrap (s1 + s2) then s3.size else IntKind.i64.wrap (s1 + s2)) - s8) < IntKind.i64.wrap ((16 : Int) - s8.tmod (16 : Int)) then IntKind.i64.wrap ((if s3.size < IntKind.i64.wrap (s1 + s2) then s3.size else IntKind.i64.wrap (s1 + s2)) - s8) else IntKind.i64.wrap ((16 : Int) - s8.tmod (16 : Int))) ∧ IntKind.i64.wrap (s8.tmod (16 : Int) + if IntKind.i64.wrap ((if s3.size < IntKind.i64.wrap (s1 + s2) then s3.size else IntKind.i64.wrap (s1 + s2)) - s8) < IntKind.i64.wrap ((16 : Int) - s8.tmod (16 : Int)) then IntKind.i64.wrap ((if s3.size < IntKind.i64.wrap (s1 + s2) then s3.size else IntKind.i64.wrap (s1 + s2)) - s8) else IntKind.i64.wrap ((16 : Int) - s8.tmod (16 : Int))) ≤ (↑(List.length r0.fst) : Int)) (T.req (s7.length = s7.length ∧ roomP (s7 ++ List.drop (s8.tmod (16 : Int)).toNat (List.take (IntKind.i64.wrap (s8.tmod (16 : Int) + if IntKind.i64.wrap ((if s3.size < IntKind.i64.wrap (s1 + s2) then s3.size else IntKind.i64.wrap (s1 + s2)) - s8) < IntKind.i64.wrap ((16 : Int) - s8.tmod (16 : Int)) then IntKind.i64.wrap ((if s3.size < IntKind.i64.wrap (s1 + s2) then s3.size else IntKind.i64.wrap (s1 + s2)) - s8) else IntKind.i64.wrap ((16 : Int) - s8.tmod (16 : Int)))).toNat r0.fst)).length (1 : Nat)) (T.same ((s7 ++ List.drop (s8.tmod (16 : Int)).toNat (List.take (IntKind.i64.wrap (s8.tmod (16 : Int) + if IntKind.i64.wrap ((if s3.size < IntKind.i64.wrap (s1 + s2) then s3.size else IntKind.i64.wrap (s1 + s2)) - s8) < IntKind.i64.wrap ((16 : Int) - s8.tmod (16 : Int)) then IntKind.i64.wrap ((if s3.size < IntKind.i64.wrap (s1 + s2) then s3.size else IntKind.i64.wrap (s1 + s2)) - s8) else IntKind.i64.wrap ((16 : Int) - s8.tmod (16 : Int)))).toNat r0.fst)).length) (T.ret (Sum.inl (s1, s2, s3, s7 ++ List.drop (s8.tmod (16 : Int)).toNat (List.take (IntKind.i64.wrap (s8.tmod (16 : Int) + if IntKind.i64.wrap ((if s3.size < IntKind.i64.wrap (s1 + s2) then s3.size else IntKind.i64.wrap (s1 + s2)) - s8) < IntKind.i64.wrap ((16 : Int) - s8.tmod (16 : Int)) then IntKind.i64.wrap ((if s3.size < IntKind.i64.wrap (s1 + s2) then s3.size else IntKind.i64.wrap (s1 + s2)) - s8) else IntKind.i64.wrap ((16 : Int) - s8.tmod (16 : Int)))).toNat r0.fst), IntKind.i64.wrap (s8 + if IntKind.i64.wrap ((if s3.size < IntKind.i64.wrap (s1 + s2) then s3.size else IntKind.i64.wrap (s1 + s2)) - s8) < IntKind.i64.wrap ((16 : Int) - s8.tmod (16 : Int)) then IntKind.i64.wrap ((if s3.size < IntKind.i64.wrap (s1 + s2) then s3.size else IntKind.i64.wrap (s1 + s2)) - s8) else IntKind.i64.wrap ((16 : Int) - s8.tmod (16 : Int)))))))))) (T.same (s7.length) (T.ret (Sum.inr s7))))
noncomputable def L_sparse_Read_l0 : (Int × (Int × (Fil × ((List UInt8) × Int)))) → Option (List UInt8) := fixT fun q => tl_sparse_Read_l0 q.1 q.2.1 q.2.2.1 q.2.2.2.1 q.2.2.2.2
noncomputable def t_sparse_Read (a0 : Fil) (a1 : Int) (a2 : Int) : T (List UInt8) :=
  (T.bind (L_sparse_Read_l0 (a1, a2, a0, [], a1)) fun r0 => (T.same (List.length r0) (T.ret (r0))))
noncomputable def f_sparse_Read (a0 : Fil) (a1 : Int) (a2 : Int) : Option (List UInt8) := (t_sparse_Read a0 a1 a2).run
noncomputable def K_sparse_Read : List AV → Option Con := conT (.cons (.S .fil) (.cons .int .int)) (.dt (.L .u8)) fun x => f_sparse_Read x.1 x.2.1 x.2.2
noncomputable def S_sparse_Read : SE := { T := tabs, con := conOf [(51, K_sparse_block)], own := fun f => false, gt := gtS, loop := lpOf [(4, loopT [1, 2, 3, 7, 8] (.cons (.dt .int) (.cons (.dt .int) (.cons (.boxS .fil []) (.cons (.gs .u8) (.dt .int))))) [⟨.exit 0, [7], (.gs .u8)⟩] (L_sparse_Read_l0))] }
/-! bytes.Equal -/
noncomputable def t_bytes_Equal (a0 : (List UInt8)) (a1 : (List UInt8)) : T Bool :=
  (T.ret (a0 == a1))
noncomputable def f_bytes_Equal (a0 : (List UInt8)) (a1 : (List UInt8)) : Option Bool := (t_bytes_Equal a0 a1).run
noncomputable def K_bytes_Equal : List AV → Option Con := conT (.cons (.L .u8) (.L .u8)) (.dt .bool) fun x => f_bytes_Equal x.1 x.2
noncomputable def S_bytes_Equal : SE := { T := tabs, con := conOf [], own := fun f => false, gt := gtS, loop := lpOf [] }
/-! veneer/sparse.Same -/
noncomputable def t_sparse_Same (a0 : Fil) (a1 : Fil) : T Bool :=
  (T.ite (a0.size == a1.size) (T.bind (f_sparse_Read a0 (0 : Int) a0.size) fun r0 => (T.bind (f_sparse_Read a1 (0 : Int) a1.size) fun r1 => (T.bind (f_bytes_Equal r0 r1) fun r2 => (T.ret (r2))))) (T.ret (false)))
noncomputable def f_sparse_Same (a0 : Fil) (a1 : Fil) : Option Bool := (t_sparse_Same a0 a1).run
noncomputable def K_sparse_Same : List AV → Option Con := conT (.cons (.S .fil) (.S .fil)) (.dt .bool) fun x => f_sparse_Same x.1 x.2
noncomputable def S_sparse_Same : SE := { T := tabs, con := conOf [(14, K_sparse_Read), (57, K_bytes_Equal)], own := fun f => false, gt := gtS, loop := lpOf [] }
/-! slices.Equal[[]veneer/api.Name,veneer/api.Name] -/
noncomputable def tl_slices_Equal_Name_l0 (s0 : (List Nam)) (s1 : (List Nam)) (s12 : Int) (s13 : Int) : T (((List Nam) × ((List Nam) × (Int × Int))) ⊕ (Bool ⊕ Unit)) :=
  (T.ite (decide (s13 < s12)) (T.req ((0 : Int) ≤ s13 ∧ s13 < (↑s0.length : Int)) (T.req ((0 : Int) ≤ s13 ∧ s13 < (↑s1.length : Int)) (T.ite (!((s0.getD s13.toNat GT.nam.nought).name == (s1.getD s13.toNat GT.nam.nought).name && (s0.getD s13.toNat GT.nam.nought).ino == (s1.getD s13.toNat GT.nam.nought).ino)) (T.ret (Sum.inr (Sum.inl false))) (T.ret (Sum.inl (s0, s1, s12, IntKind.i64.wrap (s13 + (1 : Int)))))))) (T.ret (Sum.inr (Sum.inr ()))))
noncomputable def L_slices_Equal_Name_l0 : ((List Nam) × ((List Nam) × (Int × Int))) → Option (Bool ⊕ Unit) := fixT fun q => tl_slices_Equal_Name_l0 q.1 q.2.1 q.2.2.1 q.2.2.2
noncomputable def t_slices_Equal_Name (a0 : (List Nam)) (a1 : (List Nam)) : T Bool :=
  (T.ite ((↑a0.length : Int) != (↑a1.length : Int)) (T.ret (false)) (T.bind (L_slices_Equal_Name_l0 (a0, a1, (↑a0.length : Int), (0 : Int))) fun r0 => (T.case (r0) (fun r1 => (T.ret (r1))) (fun r2 => (T.ret (true))))))
noncomputable def f_slices_Equal_Name (a0 : (List Nam)) (a1 : (List Nam)) : Option Bool := (t_slices_Equal_Name a0 a1).run
noncomputable def K_slices_Equal_Name : List AV → Option Con := conT (.cons (.L .nam) (.L .nam)) (.dt .bool) fun x => f_slices_Equal_Name x.1 x.2
noncomputable def S_slices_Equal_Name : SE := { T := tabs, con := conOf [], own := fun f => false, gt := gtS, loop := lpOf [(5, loopT [0, 1, 12, 13] (.cons (.dt (.L .nam)) (.cons (.dt (.L .nam)) (.cons (.dt .int) (.dt .int)))) [⟨.ret, [4], (.dt .bool)⟩, ⟨.exit 0, [], .nil⟩] (L_slices_Equal_Name_l0))] }
/-! veneer/disk.sameNode -/
noncomputable def t_disk_sameNode (a0 : Nod) (a1 : Nod) : T Bool :=
  (T.ite (a0.ino == a1.ino) (T.ite (a0.kind == a1.kind) (T.ite (a0.mode == a1.mode) (T.ite (a0.links == a1.links) (T.ite (a0.target == a1.target) (T.bind (f_sparse_Same a0.file a1.file) fun r0 => (T.ite (r0) (T.bind (f_slices_Equal_Name a0.names a1.names) fun r1 => (T.ret (r1))) (T.ret (false)))) (T.ret (false))) (T.ret (false))) (T.ret (false))) (T.ret (false))) (T.ret (false)))
noncomputable def f_disk_sameNode (a0 : Nod) (a1 : Nod) : Option Bool := (t_disk_sameNode a0 a1).run
noncomputable def K_disk_sameNode : List AV → Option Con := conT (.cons (.S .nod) (.S .nod)) (.dt .bool) fun x => f_disk_sameNode x.1 x.2
noncomputable def S_disk_sameNode : SE := { T := tabs, con := conOf [(17, K_sparse_Same), (102, K_slices_Equal_Name)], own := fun f => false, gt := gtS, loop := lpOf [] }
/-! slices.EqualFunc[[]veneer/api.Node,[]veneer/api.Node,veneer/api.Node,veneer/api.Node] -/
noncomputable def tl_slices_EqualFunc_LNode_Node_Node__disk_sameNode_l0 (s1 : (List Nod)) (s2 : Unit) (s15 : (List Nod)) (s16 : Int) (s17 : Int) : T (((List Nod) × (Unit × ((List Nod) × (Int × Int)))) ⊕ (Bool ⊕ Unit)) :=
  (T.ite (decide (s17 < s16)) (T.req ((0 : Int) ≤ s17 ∧ s17 < (↑s15.length : Int)) (T.req ((0 : Int) ≤ s17 ∧ s17 < (↑s1.length : Int)) (T.bind (f_disk_sameNode (s15.getD s17.toNat GT.nod.nought) (s1.getD s17.toNat GT.nod.nought)) fun r0 => (T.ite (!r0) (T.ret (Sum.inr (Sum.inl false))) (T.ret (Sum.inl (s1, (), s15, s16, IntKind.i64.wrap (s17 + (1 : Int))))))))) (T.ret (Sum.inr (Sum.inr ()))))
noncomputable def L_slices_EqualFunc_LNode_Node_Node__disk_sameNode_l0 : ((List Nod) × (Unit × ((List Nod) × (Int × Int)))) → Option (Bool ⊕ Unit) := fixT fun q => tl_slices_EqualFunc_LNode_Node_Node__disk_sameNode_l0 q.1 q.2.1 q.2.2.1 q.2.2.2.1 q.2.2.2.2
noncomputable def t_slices_EqualFunc_LNode_Node_Node__disk_sameNode (a0 : (List Nod)) (a1 : (List Nod)) (a2 : Unit) : T Bool :=
  (T.ite ((↑a0.length : Int) != (↑a1.length : Int)) (T.ret (false)) (T.bind (L_slices_EqualFunc_LNode_Node_Node__disk_sameNode_l0 (a1, (), a0, (↑a0.length : Int), (0 : Int))) fun r0 => (T.case (r0) (fun r1 => (T.ret (r1))) (fun r2 => (T.ret (true))))))
noncomputable def f_slices_EqualFunc_LNode_Node_Node__disk_sameNode (a0 : (List Nod)) (a1 : (List Nod)) (a2 : Unit) : Option Bool := (t_slices_EqualFunc_LNode_Node_Node__disk_sameNode a0 a1 a2).run
noncomputable def K_slices_EqualFunc_LNode_Node_Node__disk_sameNode : List AV → Option Con := conT (.cons (.L .nod) (.cons (.L .nod) (.clo 78 .nil))) (.dt .bool) fun x => f_slices_EqualFunc_LNode_Node_Node__disk_sameNode x.1 x.2.1 x.2.2
noncomputable def S_slices_EqualFunc_LNode_Node_Node__disk_sameNode : SE := { T := tabs, con := conOf [(78, K_disk_sameNode)], own := fun f => false, gt := gtS, loop := lpOf [(5, loopT [1, 2, 15, 16, 17] (.cons (.dt (.L .nod)) (.cons (.dt (.clo 78 .nil)) (.cons (.dt (.L .nod)) (.cons (.dt .int) (.dt .int))))) [⟨.ret, [6], (.dt .bool)⟩, ⟨.exit 0, [], .nil⟩] (L_slices_EqualFunc_LNode_Node_Node__disk_sameNode_l0))] }
/-! veneer/disk.Same -/
noncomputable def t_disk_Same (a0 : Dsk) (a1 : Dsk) : T Bool :=
  (T.ite (a0.blocks == a1.blocks) (T.ite (a0.inodes == a1.inodes) (T.ite (a0.next == a1.next) (T.bind (f_slices_EqualFunc_LNode_Node_Node__disk_sameNode a0.nodes a1.nodes ()) fun r0 => (T.ret (r0))) (T.ret (false))) (T.ret (false))) (T.ret (false)))
noncomputable def f_disk_Same (a0 : Dsk) (a1 : Dsk) : Option Bool := (t_disk_Same a0 a1).run
noncomputable def K_disk_Same : List AV → Option Con := conT (.cons (.S .dsk) (.S .dsk)) (.dt .bool) fun x => f_disk_Same x.1 x.2
noncomputable def S_disk_Same : SE := { T := tabs, con := conOf [(77, K_slices_EqualFunc_LNode_Node_Node__disk_sameNode)], own := fun f => false, gt := gtS, loop := lpOf [] }
/-! veneer/veneerref3.names -/
noncomputable def tl_r3_names_l0 (s0 : (List Nam)) (s1 : (List Nam)) (s5 : Int) : T (((List Nam) × ((List Nam) × Int)) ⊕ (Bool ⊕ Unit)) :=
  (T.ite (decide (s5 < (↑s0.length : Int))) (T.req ((0 : Int) ≤ s5 ∧ s5 < (↑s0.length : Int)) (T.req ((0 : Int) ≤ s5 ∧ s5 < (↑s1.length : Int)) (T.ite (!((s0.getD s5.toNat GT.nam.nought).name == (s1.getD s5.toNat GT.nam.nought).name && (s0.getD s5.toNat GT.nam.nought).ino == (s1.getD s5.toNat GT.nam.nought).ino)) (T.ret (Sum.inr (Sum.inl false))) (T.ret (Sum.inl (s0, s1, IntKind.i64.wrap (s5 + (1 : Int)))))))) (T.ret (Sum.inr (Sum.inr ()))))
noncomputable def L_r3_names_l0 : ((List Nam) × ((List Nam) × Int)) → Option (Bool ⊕ Unit) := fixT fun q => tl_r3_names_l0 q.1 q.2.1 q.2.2
noncomputable def t_r3_names (a0 : (List Nam)) (a1 : (List Nam)) : T Bool :=
  (T.ite ((↑a0.length : Int) != (↑a1.length : Int)) (T.ret (false)) (T.bind (L_r3_names_l0 (a0, a1, (0 : Int))) fun r0 => (T.case (r0) (fun r1 => (T.ret (r1))) (fun r2 => (T.ret (true))))))
noncomputable def f_r3_names (a0 : (List Nam)) (a1 : (List Nam)) : Option Bool := (t_r3_names a0 a1).run
noncomputable def K_r3_names : List AV → Option Con := conT (.cons (.L .nam) (.L .nam)) (.dt .bool) fun x => f_r3_names x.1 x.2
noncomputable def S_r3_names : SE := { T := tabs, con := conOf [], own := fun f => false, gt := gtS, loop := lpOf [(5, loopT [0, 1, 5] (.cons (.dt (.L .nam)) (.cons (.dt (.L .nam)) (.dt .int))) [⟨.ret, [4], (.dt .bool)⟩, ⟨.exit 0, [], .nil⟩] (L_r3_names_l0))] }
/-! veneer/veneerref2.find -/
noncomputable def tl_r2_find_l0 (s1 : Int) (s2 : Fil) (s5 : Int) : T ((Int × (Fil × Int)) ⊕ (Int ⊕ Unit)) :=
  (T.ite (decide (s5 < (↑s2.blocks.length : Int))) (T.req ((0 : Int) ≤ s5 ∧ s5 < (↑s2.blocks.length : Int)) (T.ite ((s2.blocks.getD s5.toNat GT.blk.nought).pos == s1) (T.ret (Sum.inr (Sum.inl s5))) (T.ret (Sum.inl (s1, s2, IntKind.i64.wrap (s5 + (1 : Int))))))) (T.ret (Sum.inr (Sum.inr ()))))
noncomputable def L_r2_find_l0 : (Int × (Fil × Int)) → Option (Int ⊕ Unit) := fixT fun q => tl_r2_find_l0 q.1 q.2.1 q.2.2
noncomputable def t_r2_find (a0 : Fil) (a1 : Int) : T Int :=
  (T.bind (L_r2_find_l0 (a1, a0, (0 : Int))) fun r0 => (T.case (r0) (fun r1 => (T.ret (r1))) (fun r2 => (T.ret ((-1 : Int))))))
noncomputable def f_r2_find (a0 : Fil) (a1 : Int) : Option Int := (t_r2_find a0 a1).run
noncomputable def K_r2_find : List AV → Option Con := conT (.cons (.S .fil) .int) (.dt .int) fun x => f_r2_find x.1 x.2
noncomputable def S_r2_find : SE := { T := tabs, con := conOf [], own := fun f => false, gt := gtS, loop := lpOf [(3, loopT [1, 2, 5] (.cons (.dt .int) (.cons (.boxS .fil []) (.dt .int))) [⟨.ret, [4], (.dt .int)⟩, ⟨.exit 0, [], .nil⟩] (L_r2_find_l0))] }
/-! veneer/veneerref2.byteAt -/
noncomputable def t_r2_byteAt (a0 : Fil) (a1 : Int) : T UInt8 :=
  (T.bind (f_r2_find a0 (IntKind.i64.wrap (a1.tdiv (16 : Int)))) fun r0 => (T.ite (decide (r0 < (0 : Int))) (T.req ((0 : Int) ≤ (0 : Int) ∧ (0 : Int) < (256 : Int)) (T.ret (UInt8.ofNat (Int.toNat (0 : Int))))) (T.req ((0 : Int) ≤ r0 ∧ r0 < (↑a0.blocks.length : Int)) (T.req ((0 : Int) ≤ a1.tmod (16 : Int) ∧ a1.tmod (16 : Int) < (↑(a0.blocks.getD (Int.toNat r0) GT.blk.nought).data.length : Int)) (T.req ((0 : Int) ≤ (↑(UInt8.toNat ((a0.blocks.getD (Int.toNat r0) GT.blk.nought).data.getD (a1.tmod (16 : Int)).toNat GT.u8.nought)) : Int) ∧ (↑(UInt8.toNat ((a0.blocks.getD (Int.toNat r0) GT.blk.nought).data.getD (a1.tmod (16 : Int)).toNat GT.u8.nought)) : Int) < (256 : Int)) (T.ret (UInt8.ofNat (↑(UInt8.toNat ((a0.blocks.getD (Int.toNat r0) GT.blk.nought).data.getD (a1.tmod (16 : Int)).toNat GT.u8.nought)) : Int).toNat)))))))
noncomputable def f_r2_byteAt (a0 : Fil) (a1 : Int) : Option UInt8 := (t_r2_byteAt a0 a1).run
noncomputable def K_r2_byteAt : List AV → Option Con := conT (.cons (.S .fil) .int) (.dt .u8) fun x => f_r2_byteAt x.1 x.2
noncomputable def S_r2_byteAt : SE := { T := tabs, con := conOf [(92, K_r2_find)], own := fun f => false, gt := gtS, loop := lpOf [] }
/-! veneer/veneerref2.Read -/
noncomputable def tl_r2_Read_l0 (s1 : Int) (s2 : Int) (s3 : Fil) (s7 : (List UInt8)) (s8 : Int) : T ((Int × (Int × (Fil × ((List UInt8) × Int)))) ⊕ (List UInt8)) :=
  (T.ite (decide (s8 < IntKind.i64.wrap (s1 + s2))) (T.ite (decide (s8 < s3.size)) (T.bind (f_r2_byteAt s3 s8) fun r0 => (T.req ((0 : Int) ≤ (↑(UInt8.toNat r0) : Int) ∧ (↑(UInt8.toNat r0) : Int) < (256 : Int)) (T.req (s7.length = s7.length ∧ roomP (s7 ++ [UInt8.ofNat (↑(UInt8.toNat r0) : Int).toNat]).length (1 : Nat)) (T.same ((s7 ++ [UInt8.ofNat (↑(UInt8.toNat r0) : Int).toNat]).length) (T.ret (Sum.inl (s1, s2, s3, s7 ++ [UInt8.ofNat (↑(UInt8.toNat r0) : Int).toNat], IntKind.i64.wrap (s8 + (1 : Int))))))))) (T.same (s7.length) (T.ret (Sum.inr s7)))) (T.same (s7.length) (T.ret (Sum.inr s7))))
noncomputable def L_r2_Read_l0 : (Int × (Int × (Fil × ((List UInt8) × Int)))) → Option (List UInt8) := fixT fun q => tl_r2_Read_l0 q.1 q.2.1 q.2.2.1 q.2.2.2.1 q.2.2.2.2
noncomputable def t_r2_Read (a0 : Fil) (a1 : Int) (a2 : Int) : T (List UInt8) :=
  (T.bind (L_r2_Read_l0 (a1, a2, a0, [], a1)) fun r0 => (T.same (List.length r0) (T.ret (r0))))
noncomputable def f_r2_Read (a0 : Fil) (a1 : Int) (a2 : Int) : Option (List UInt8) := (t_r2_Read a0 a1 a2).run
noncomputable def K_r2_Read : List AV → Option Con := conT (.cons (.S .fil) (.cons .int .int)) (.dt (.L .u8)) fun x => f_r2_Read x.1 x.2.1 x.2.2
noncomputable def S_r2_Read : SE := { T := tabs, con := conOf [(101, K_r2_byteAt)], own := fun f => false, gt := gtS, loop := lpOf [(4, loopT [1, 2, 3, 7, 8] (.cons (.dt .int) (.cons (.dt .int) (.cons (.boxS .fil []) (.cons (.gs .u8) (.dt .int))))) [⟨.exit 0, [7], (.gs .u8)⟩] (L_r2_Read_l0))] }
/-! veneer/veneerref2.Same -/
noncomputable def t_r2_Same (a0 : Fil) (a1 : Fil) : T Bool :=
  (T.ite (a0.size == a1.size) (T.bind (f_r2_Read a0 (0 : Int) a0.size) fun r0 => (T.bind (f_r2_Read a1 (0 : Int) a1.size) fun r1 => (T.ret (r0 == r1)))) (T.ret (false)))
noncomputable def f_r2_Same (a0 : Fil) (a1 : Fil) : Option Bool := (t_r2_Same a0 a1).run
noncomputable def K_r2_Same : List AV → Option Con := conT (.cons (.S .fil) (.S .fil)) (.dt .bool) fun x => f_r2_Same x.1 x.2
noncomputable def S_r2_Same : SE := { T := tabs, con := conOf [(76, K_r2_Read)], own := fun f => false, gt := gtS, loop := lpOf [] }
/-! veneer/veneerref3.Nodes -/
noncomputable def t_r3_Nodes (a0 : Nod) (a1 : Nod) : T Bool :=
  (T.ite (a0.ino == a1.ino) (T.ite (a0.kind == a1.kind) (T.ite (a0.mode == a1.mode) (T.ite (a0.links == a1.links) (T.ite (a0.target == a1.target) (T.bind (f_r3_names a0.names a1.names) fun r0 => (T.ite (r0) (T.bind (f_r2_Same a0.file a1.file) fun r1 => (T.ret (r1))) (T.ret (false)))) (T.ret (false))) (T.ret (false))) (T.ret (false))) (T.ret (false))) (T.ret (false)))
noncomputable def f_r3_Nodes (a0 : Nod) (a1 : Nod) : Option Bool := (t_r3_Nodes a0 a1).run
noncomputable def K_r3_Nodes : List AV → Option Con := conT (.cons (.S .nod) (.S .nod)) (.dt .bool) fun x => f_r3_Nodes x.1 x.2
noncomputable def S_r3_Nodes : SE := { T := tabs, con := conOf [(86, K_r3_names), (87, K_r2_Same)], own := fun f => false, gt := gtS, loop := lpOf [] }
/-! veneer/veneerref3.Same -/
noncomputable def tl_r3_Same_l0 (s2 : Dsk) (s3 : Dsk) (s5 : Int) : T ((Dsk × (Dsk × Int)) ⊕ (Bool ⊕ Unit)) :=
  (T.ite (decide (s5 < (↑s2.nodes.length : Int))) (T.req ((0 : Int) ≤ s5 ∧ s5 < (↑s2.nodes.length : Int)) (T.req ((0 : Int) ≤ s5 ∧ s5 < (↑s3.nodes.length : Int)) (T.bind (f_r3_Nodes (s2.nodes.getD s5.toNat GT.nod.nought) (s3.nodes.getD s5.toNat GT.nod.nought)) fun r0 => (T.ite (!r0) (T.ret (Sum.inr (Sum.inl false))) (T.ret (Sum.inl (s2, s3, IntKind.i64.wrap (s5 + (1 : Int))))))))) (T.ret (Sum.inr (Sum.inr ()))))
noncomputable def L_r3_Same_l0 : (Dsk × (Dsk × Int)) → Option (Bool ⊕ Unit) := fixT fun q => tl_r3_Same_l0 q.1 q.2.1 q.2.2
noncomputable def t_r3_Same (a0 : Dsk) (a1 : Dsk) : T Bool :=
  (T.ite (a0.blocks != a1.blocks) (T.ret (false)) (T.ite (a0.inodes != a1.inodes) (T.ret (false)) (T.ite (a0.next != a1.next) (T.ret (false)) (T.ite ((↑a0.nodes.length : Int) != (↑a1.nodes.length : Int)) (T.ret (false)) (T.bind (L_r3_Same_l0 (a0, a1, (0 : Int))) fun r0 => (T.case (r0) (fun r1 => (T.ret (r1))) (fun r2 => (T.ret (true)))))))))
noncomputable def f_r3_Same (a0 : Dsk) (a1 : Dsk) : Option Bool := (t_r3_Same a0 a1).run
noncomputable def K_r3_Same : List AV → Option Con := conT (.cons (.S .dsk) (.S .dsk)) (.dt .bool) fun x => f_r3_Same x.1 x.2
noncomputable def S_r3_Same : SE := { T := tabs, con := conOf [(49, K_r3_Nodes)], own := fun f => false, gt := gtS, loop := lpOf [(5, loopT [2, 3, 5] (.cons (.boxS .dsk []) (.cons (.boxS .dsk []) (.dt .int))) [⟨.ret, [4], (.dt .bool)⟩, ⟨.exit 0, [], .nil⟩] (L_r3_Same_l0))] }
/-! slices.Clone[[]veneer/api.Node,veneer/api.Node] -/
noncomputable def f_slices_Clone_Node (a0 : (List Nod)) : Option (List Nod) := fClone 104 a0
noncomputable def K_slices_Clone_Node : List AV → Option Con := conT (.L .nod) (.gs .nod) fun x => f_slices_Clone_Node x
/-! slices.Clone[[]veneer/api.Block,veneer/api.Block] -/
noncomputable def f_slices_Clone_Block (a0 : (List Blk)) : Option (List Blk) := fClone 32 a0
noncomputable def K_slices_Clone_Block : List AV → Option Con := conT (.L .blk) (.gs .blk) fun x => f_slices_Clone_Block x
/-! slices.Clone[[]byte,byte] -/
noncomputable def f_slices_Clone_byte (a0 : (List UInt8)) : Option (List UInt8) := fClone 1 a0
noncomputable def K_slices_Clone_byte : List AV → Option Con := conT (.L .u8) (.gs .u8) fun x => f_slices_Clone_byte x
/-! veneer/disk.file -/
noncomputable def tl_disk_file_l0 (s1 : Fil) (s2 : Fil) (s10 : Int) (s11 : Int) : T ((Fil × (Fil × (Int × Int))) ⊕ (Fil × Fil)) :=
  (T.ite (decide (s11 < s10)) (T.req ((0 : Int) ≤ s11 ∧ s11 < (↑s1.blocks.length : Int)) (T.req (s11.toNat < s1.blocks.length) (T.bind (f_slices_Clone_byte (s1.blocks.getD s11.toNat GT.blk.nought).data) fun r0 => (T.same (List.length r0) (T.req ((0 : Int) ≤ s11 ∧ s11 < (↑s1.blocks.length : Int)) (T.req (s11.toNat < s1.blocks.length) (T.req (s1.blocks.length = (s1.blocks.set s11.toNat (Blk.mk (s1.blocks.getD s11.toNat GT.blk.nought).pos r0)).length) (T.ret (Sum.inl (Fil.mk s1.size (s1.blocks.set s11.toNat (Blk.mk (s1.blocks.getD s11.toNat GT.blk.nought).pos r0)), s2, s10, IntKind.i64.wrap (s11 + (1 : Int)))))))))))) (T.same (s1.blocks.length) (T.ret (Sum.inr (s1, s2)))))
noncomputable def L_disk_file_l0 : (Fil × (Fil × (Int × Int))) → Option (Fil × Fil) := fixT fun q => tl_disk_file_l0 q.1 q.2.1 q.2.2.1 q.2.2.2
noncomputable def t_disk_file (a0 : Fil) : T Fil :=
  (T.bind (f_slices_Clone_Block a0.blocks) fun r0 => (T.same (List.length r0) (T.bind (L_disk_file_l0 (Fil.mk a0.size r0, Fil.mk (0 : Int) [], (↑(List.length r0) : Int), (0 : Int))) fun r1 => (T.same (r1.fst.blocks.length) (T.ret (r1.fst))))))
noncomputable def f_disk_file (a0 : Fil) : Option Fil := (t_disk_file a0).run
noncomputable def K_disk_file : List AV → Option Con := conT (.S .fil) (.dt (.S .fil)) fun x => f_disk_file x
noncomputable def S_disk_file : SE := { T := tabs, con := conOf [(124, K_slices_Clone_Block), (125, K_slices_Clone_byte)], own := fun f => isIn f [124], gt := gtS, loop := lpOf [(4, loopT [1, 2, 10, 11] (.cons (.boxS .fil [false, true]) (.cons (.boxS .fil []) (.cons (.dt .int) (.dt .int)))) [⟨.exit 0, [1, 2], (.cons (.boxS .fil [false, true]) (.boxS .fil []))⟩] (L_disk_file_l0))] }
/-! slices.Clone[[]veneer/api.Name,veneer/api.Name] -/
noncomputable def f_slices_Clone_Name (a0 : (List Nam)) : Option (List Nam) := fClone 24 a0
noncomputable def K_slices_Clone_Name : List AV → Option Con := conT (.L .nam) (.gs .nam) fun x => f_slices_Clone_Name x
/-! veneer/disk.node -/
noncomputable def t_disk_node (a0 : Nod) : T Nod :=
  (T.bind (f_disk_file a0.file) fun r0 => (T.bind (f_slices_Clone_Name a0.names) fun r1 => (T.same (List.length r1) (T.ret (Nod.mk a0.ino a0.kind a0.mode a0.links r0 a0.target r1)))))
noncomputable def f_disk_node (a0 : Nod) : Option Nod := (t_disk_node a0).run
noncomputable def K_disk_node : List AV → Option Con := conT (.S .nod) (.dt (.S .nod)) fun x => f_disk_node x
noncomputable def S_disk_node : SE := { T := tabs, con := conOf [(103, K_disk_file), (104, K_slices_Clone_Name)], own := fun f => false, gt := gtS, loop := lpOf [] }
/-! veneer/disk.Copy -/
noncomputable def tl_disk_Copy_l0 (s1 : Dsk) (s10 : Nat) (s2 : Dsk) (s11 : Int) (s12 : Int) : T ((Dsk × (Nat × (Dsk × (Int × Int)))) ⊕ (Dsk × Dsk)) :=
  (T.ite (decide (s12 < s11)) (T.req ((0 : Int) ≤ s12 ∧ s12 < (↑s10 : Int)) (T.req (s12.toNat < s1.nodes.length) (T.bind (f_disk_node (s1.nodes.getD s12.toNat GT.nod.nought)) fun r0 => (T.req ((0 : Int) ≤ s12 ∧ s12 < (↑s1.nodes.length : Int)) (T.req (s12.toNat < s1.nodes.length) (T.req (s1.nodes.length = (s1.nodes.set s12.toNat r0).length) (T.ret (Sum.inl (Dsk.mk s1.blocks s1.inodes s1.next (s1.nodes.set s12.toNat r0), s10, s2, s11, IntKind.i64.wrap (s12 + (1 : Int))))))))))) (T.same (s1.nodes.length) (T.ret (Sum.inr (s1, s2)))))
noncomputable def L_disk_Copy_l0 : (Dsk × (Nat × (Dsk × (Int × Int)))) → Option (Dsk × Dsk) := fixT fun q => tl_disk_Copy_l0 q.1 q.2.1 q.2.2.1 q.2.2.2.1 q.2.2.2.2
noncomputable def t_disk_Copy (a0 : Dsk) : T Dsk :=
  (T.bind (f_slices_Clone_Node a0.nodes) fun r0 => (T.same (List.length r0) (T.bind (L_disk_Copy_l0 (Dsk.mk a0.blocks a0.inodes a0.next r0, List.length r0, Dsk.mk (0 : Int) (0 : Int) (0 : Int) [], (↑(List.length r0) : Int), (0 : Int))) fun r1 => (T.same (r1.fst.nodes.length) (T.ret (r1.fst))))))
noncomputable def f_disk_Copy (a0 : Dsk) : Option Dsk := (t_disk_Copy a0).run
noncomputable def K_disk_Copy : List AV → Option Con := conT (.S .dsk) (.dt (.S .dsk)) fun x => f_disk_Copy x
noncomputable def S_disk_Copy : SE := { T := tabs, con := conOf [(79, K_slices_Clone_Node), (80, K_disk_node)], own := fun f => isIn f [79], gt := gtS, loop := lpOf [(4, loopT [1, 10, 2, 11, 12] (.consA (.boxS .dsk [false, false, false, true]) .nod 1 (.cons (.boxS .dsk []) (.cons (.dt .int) (.dt .int)))) [⟨.exit 0, [1, 2], (.cons (.boxS .dsk [false, false, false, true]) (.boxS .dsk []))⟩] (L_disk_Copy_l0))] }
/-! veneer/veneerlaw3.DiskSame -/
noncomputable def t_law3_DiskSame (a0 : Dsk) (a1 : Dsk) : T Bool :=
  (T.bind (f_law3_heavy [a0]) fun r0 => (T.ite (r0) (T.ret (true)) (T.bind (f_law3_heavy [a1]) fun r1 => (T.ite (r1) (T.ret (true)) (T.bind (f_r3_Is a0) fun r2 => (T.ite (!r2) (T.ret (true)) (T.bind (f_r3_Is a1) fun r3 => (T.ite (!r3) (T.ret (true)) (T.bind (f_disk_Same a0 a1) fun r4 => (T.bind (f_r3_Same a0 a1) fun r5 => (T.ite (r4 == r5) (T.bind (f_disk_Copy a0) fun r6 => (T.bind (f_disk_Same a0 r6) fun r7 => (T.ite (r7) (T.bind (f_disk_Copy a1) fun r8 => (T.bind (f_r3_Same r8 a1) fun r9 => (T.ite (r9) (T.bind (f_law3_known) fun r10 => (T.ret (r10))) (T.ret (false))))) (T.ret (false))))) (T.ret (false)))))))))))))
noncomputable def f_law3_DiskSame (a0 : Dsk) (a1 : Dsk) : Option Bool := (t_law3_DiskSame a0 a1).run
noncomputable def K_law3_DiskSame : List AV → Option Con := conT (.cons (.S .dsk) (.S .dsk)) (.dt .bool) fun x => f_law3_DiskSame x.1 x.2
noncomputable def S_law3_DiskSame : SE := { T := tabs, con := conOf [(42, K_law3_heavy), (34, K_r3_Is), (43, K_disk_Same), (23, K_r3_Same), (44, K_disk_Copy), (45, K_law3_known)], own := fun f => false, gt := gtS, loop := lpOf [] }
theorem wt_sparse_block (x : (Fil × Int)) (K : ((List UInt8) × Bool) → Prop) : funT (S_sparse_block) Try.f51 (.cons (.S .fil) .int) (.cons (.dt (.L .u8)) (.dt .bool)) x K = (t_sparse_block x.1 x.2).wp K := by kernel_rfl
theorem wtl_sparse_Read_l0 (p : (Int × (Int × (Fil × ((List UInt8) × Int))))) (K : (Int × (Int × (Fil × ((List UInt8) × Int)))) ⊕ (List UInt8) → Prop) : roundT (S_sparse_Read) [1, 2, 3, 7, 8] (.cons (.dt .int) (.cons (.dt .int) (.cons (.boxS .fil []) (.cons (.gs .u8) (.dt .int))))) [⟨.exit 0, [7], (.gs .u8)⟩] (loopAt Try.f14 0) p K = (tl_sparse_Read_l0 p.1 p.2.1 p.2.2.1 p.2.2.2.1 p.2.2.2.2).wp K := by kernel_rfl
theorem wt_sparse_Read (x : (Fil × (Int × Int))) (K : (List UInt8) → Prop) : funT (S_sparse_Read) Try.f14 (.cons (.S .fil) (.cons .int .int)) (.dt (.L .u8)) x K = (t_sparse_Read x.1 x.2.1 x.2.2).wp K := by kernel_rfl
theorem wt_bytes_Equal (x : ((List UInt8) × (List UInt8))) (K : Bool → Prop) : funT (S_bytes_Equal) Try.f57 (.cons (.L .u8) (.L .u8)) (.dt .bool) x K = (t_bytes_Equal x.1 x.2).wp K := by kernel_rfl
theorem wt_sparse_Same (x : (Fil × Fil)) (K : Bool → Prop) : funT (S_sparse_Same) Try.f17 (.cons (.S .fil) (.S .fil)) (.dt .bool) x K = (t_sparse_Same x.1 x.2).wp K := by kernel_rfl
theorem wtl_slices_Equal_Name_l0 (p : ((List Nam) × ((List Nam) × (Int × Int)))) (K : ((List Nam) × ((List Nam) × (Int × Int))) ⊕ (Bool ⊕ Unit) → Prop) : roundT (S_slices_Equal_Name) [0, 1, 12, 13] (.cons (.dt (.L .nam)) (.cons (.dt (.L .nam)) (.cons (.dt .int) (.dt .int)))) [⟨.ret, [4], (.dt .bool)⟩, ⟨.exit 0, [], .nil⟩] (loopAt Try.f102 0) p K = (tl_slices_Equal_Name_l0 p.1 p.2.1 p.2.2.1 p.2.2.2).wp K := by kernel_rfl
theorem wt_slices_Equal_Name (x : ((List Nam) × (List Nam))) (K : Bool → Prop) : funT (S_slices_Equal_Name) Try.f102 (.cons (.L .nam) (.L .nam)) (.dt .bool) x K = (t_slices_Equal_Name x.1 x.2).wp K := by kernel_rfl
theorem wt_disk_sameNode (x : (Nod × Nod)) (K : Bool → Prop) : funT (S_disk_sameNode) Try.f78 (.cons (.S .nod) (.S .nod)) (.dt .bool) x K = (t_disk_sameNode x.1 x.2).wp K := by kernel_rfl
theorem wtl_slices_EqualFunc_LNode_Node_Node__disk_sameNode_l0 (p : ((List Nod) × (Unit × ((List Nod) × (Int × Int))))) (K : ((List Nod) × (Unit × ((List Nod) × (Int × Int)))) ⊕ (Bool ⊕ Unit) → Prop) : roundT (S_slices_EqualFunc_LNode_Node_Node__disk_sameNode) [1, 2, 15, 16, 17] (.cons (.dt (.L .nod)) (.cons (.dt (.clo 78 .nil)) (.cons (.dt (.L .nod)) (.cons (.dt .int) (.dt .int))))) [⟨.ret, [6], (.dt .bool)⟩, ⟨.exit 0, [], .nil⟩] (loopAt Try.f77 0) p K = (tl_slices_EqualFunc_LNode_Node_Node__disk_sameNode_l0 p.1 p.2.1 p.2.2.1 p.2.2.2.1 p.2.2.2.2).wp K := by kernel_rfl
theorem wt_slices_EqualFunc_LNode_Node_Node__disk_sameNode (x : ((List Nod) × ((List Nod) × Unit))) (K : Bool → Prop) : funT (S_slices_EqualFunc_LNode_Node_Node__disk_sameNode) Try.f77 (.cons (.L .nod) (.cons (.L .nod) (.clo 78 .nil))) (.dt .bool) x K = (t_slices_EqualFunc_LNode_Node_Node__disk_sameNode x.1 x.2.1 x.2.2).wp K := by kernel_rfl
theorem wt_disk_Same (x : (Dsk × Dsk)) (K : Bool → Prop) : funT (S_disk_Same) Try.f43 (.cons (.S .dsk) (.S .dsk)) (.dt .bool) x K = (t_disk_Same x.1 x.2).wp K := by kernel_rfl
theorem wtl_r3_names_l0 (p : ((List Nam) × ((List Nam) × Int))) (K : ((List Nam) × ((List Nam) × Int)) ⊕ (Bool ⊕ Unit) → Prop) : roundT (S_r3_names) [0, 1, 5] (.cons (.dt (.L .nam)) (.cons (.dt (.L .nam)) (.dt .int))) [⟨.ret, [4], (.dt .bool)⟩, ⟨.exit 0, [], .nil⟩] (loopAt Try.f86 0) p K = (tl_r3_names_l0 p.1 p.2.1 p.2.2).wp K := by kernel_rfl
theorem wt_r3_names (x : ((List Nam) × (List Nam))) (K : Bool → Prop) : funT (S_r3_names) Try.f86 (.cons (.L .nam) (.L .nam)) (.dt .bool) x K = (t_r3_names x.1 x.2).wp K := by kernel_rfl
theorem wtl_r2_find_l0 (p : (Int × (Fil × Int))) (K : (Int × (Fil × Int)) ⊕ (Int ⊕ Unit) → Prop) : roundT (S_r2_find) [1, 2, 5] (.cons (.dt .int) (.cons (.boxS .fil []) (.dt .int))) [⟨.ret, [4], (.dt .int)⟩, ⟨.exit 0, [], .nil⟩] (loopAt Try.f92 0) p K = (tl_r2_find_l0 p.1 p.2.1 p.2.2).wp K := by kernel_rfl
theorem wt_r2_find (x : (Fil × Int)) (K : Int → Prop) : funT (S_r2_find) Try.f92 (.cons (.S .fil) .int) (.dt .int) x K = (t_r2_find x.1 x.2).wp K := by kernel_rfl
theorem wt_r2_byteAt (x : (Fil × Int)) (K : UInt8 → Prop) : funT (S_r2_byteAt) Try.f101 (.cons (.S .fil) .int) (.dt .u8) x K = (t_r2_byteAt x.1 x.2).wp K := by kernel_rfl
theorem wtl_r2_Read_l0 (p : (Int × (Int × (Fil × ((List UInt8) × Int))))) (K : (Int × (Int × (Fil × ((List UInt8) × Int)))) ⊕ (List UInt8) → Prop) : roundT (S_r2_Read) [1, 2, 3, 7, 8] (.cons (.dt .int) (.cons (.dt .int) (.cons (.boxS .fil []) (.cons (.gs .u8) (.dt .int))))) [⟨.exit 0, [7], (.gs .u8)⟩] (loopAt Try.f76 0) p K = (tl_r2_Read_l0 p.1 p.2.1 p.2.2.1 p.2.2.2.1 p.2.2.2.2).wp K := by kernel_rfl
theorem wt_r2_Read (x : (Fil × (Int × Int))) (K : (List UInt8) → Prop) : funT (S_r2_Read) Try.f76 (.cons (.S .fil) (.cons .int .int)) (.dt (.L .u8)) x K = (t_r2_Read x.1 x.2.1 x.2.2).wp K := by kernel_rfl
theorem wt_r2_Same (x : (Fil × Fil)) (K : Bool → Prop) : funT (S_r2_Same) Try.f87 (.cons (.S .fil) (.S .fil)) (.dt .bool) x K = (t_r2_Same x.1 x.2).wp K := by kernel_rfl
theorem wt_r3_Nodes (x : (Nod × Nod)) (K : Bool → Prop) : funT (S_r3_Nodes) Try.f49 (.cons (.S .nod) (.S .nod)) (.dt .bool) x K = (t_r3_Nodes x.1 x.2).wp K := by kernel_rfl
theorem wtl_r3_Same_l0 (p : (Dsk × (Dsk × Int))) (K : (Dsk × (Dsk × Int)) ⊕ (Bool ⊕ Unit) → Prop) : roundT (S_r3_Same) [2, 3, 5] (.cons (.boxS .dsk []) (.cons (.boxS .dsk []) (.dt .int))) [⟨.ret, [4], (.dt .bool)⟩, ⟨.exit 0, [], .nil⟩] (loopAt Try.f23 0) p K = (tl_r3_Same_l0 p.1 p.2.1 p.2.2).wp K := by kernel_rfl
theorem wt_r3_Same (x : (Dsk × Dsk)) (K : Bool → Prop) : funT (S_r3_Same) Try.f23 (.cons (.S .dsk) (.S .dsk)) (.dt .bool) x K = (t_r3_Same x.1 x.2).wp K := by kernel_rfl
theorem q1_slices_Clone_Node (K : List Nod → Prop) : funA sClone Try.f79 [.nils] (.gs .nod) K = ((true = true → K []) ∧ (true = false → (roomP ([] : List Nod).length 104 ∧ (([] : List Nod).length = ([] : List Nod).length ∧ K [])))) := by kernel_rfl
theorem q2_slices_Clone_Node (K : List Nod → Prop) : funA sClone Try.f79 [.nev] (.gs .nod) K = ((false = true → K []) ∧ (false = false → (roomP ([] : List Nod).length 104 ∧ (([] : List Nod).length = ([] : List Nod).length ∧ K [])))) := by kernel_rfl
theorem q3_slices_Clone_Node (x : Nod) (xs : List Nod) (K : List Nod → Prop) : funA sClone Try.f79 [.sl (encs .nod (x :: xs))] (.gs .nod) K = ((false = true → K []) ∧ (false = false → decAllP .nod (encs .nod (x :: xs)) fun ys => (roomP ys.length 104 ∧ (ys.length = ys.length ∧ K ys)))) := by kernel_rfl
theorem q1_slices_Clone_Block (K : List Blk → Prop) : funA sClone Try.f124 [.nils] (.gs .blk) K = ((true = true → K []) ∧ (true = false → (roomP ([] : List Blk).length 32 ∧ (([] : List Blk).length = ([] : List Blk).length ∧ K [])))) := by kernel_rfl
theorem q2_slices_Clone_Block (K : List Blk → Prop) : funA sClone Try.f124 [.nev] (.gs .blk) K = ((false = true → K []) ∧ (false = false → (roomP ([] : List Blk).length 32 ∧ (([] : List Blk).length = ([] : List Blk).length ∧ K [])))) := by kernel_rfl
theorem q3_slices_Clone_Block (x : Blk) (xs : List Blk) (K : List Blk → Prop) : funA sClone Try.f124 [.sl (encs .blk (x :: xs))] (.gs .blk) K = ((false = true → K []) ∧ (false = false → decAllP .blk (encs .blk (x :: xs)) fun ys => (roomP ys.length 32 ∧ (ys.length = ys.length ∧ K ys)))) := by kernel_rfl
theorem q1_slices_Clone_byte (K : List UInt8 → Prop) : funA sClone Try.f125 [.nils] (.gs .u8) K = ((true = true → K []) ∧ (true = false → (roomP ([] : List UInt8).length 1 ∧ (([] : List UInt8).length = ([] : List UInt8).length ∧ K [])))) := by kernel_rfl
theorem q2_slices_Clone_byte (K : List UInt8 → Prop) : funA sClone Try.f125 [.nev] (.gs .u8) K = ((false = true → K []) ∧ (false = false → (roomP ([] : List UInt8).length 1 ∧ (([] : List UInt8).length = ([] : List UInt8).length ∧ K [])))) := by kernel_rfl
theorem q3_slices_Clone_byte (x : UInt8) (xs : List UInt8) (K : List UInt8 → Prop) : funA sClone Try.f125 [.sl (encs .u8 (x :: xs))] (.gs .u8) K = ((false = true → K []) ∧ (false = false → decAllP .u8 (encs .u8 (x :: xs)) fun ys => (roomP ys.length 1 ∧ (ys.length = ys.length ∧ K ys)))) := by kernel_rfl
theorem wtl_disk_file_l0 (p : (Fil × (Fil × (Int × Int)))) (K : (Fil × (Fil × (Int × Int))) ⊕ (Fil × Fil) → Prop) : roundT (S_disk_file) [1, 2, 10, 11] (.cons (.boxS .fil [false, true]) (.cons (.boxS .fil []) (.cons (.dt .int) (.dt .int)))) [⟨.exit 0, [1, 2], (.cons (.boxS .fil [false, true]) (.boxS .fil []))⟩] (loopAt Try.f103 0) p K = (tl_disk_file_l0 p.1 p.2.1 p.2.2.1 p.2.2.2).wp K := by kernel_rfl
theorem wt_disk_file (x : Fil) (K : Fil → Prop) : funT (S_disk_file) Try.f103 (.S .fil) (.dt (.S .fil)) x K = (t_disk_file x).wp K := by kernel_rfl
theorem q1_slices_Clone_Name (K : List Nam → Prop) : funA sClone Try.f104 [.nils] (.gs .nam) K = ((true = true → K []) ∧ (true = false → (roomP ([] : List Nam).length 24 ∧ (([] : List Nam).length = ([] : List Nam).length ∧ K [])))) := by kernel_rfl
theorem q2_slices_Clone_Name (K : List Nam → Prop) : funA sClone Try.f104 [.nev] (.gs .nam) K = ((false = true → K []) ∧ (false = false → (roomP ([] : List Nam).length 24 ∧ (([] : List Nam).length = ([] : List Nam).length ∧ K [])))) := by kernel_rfl
theorem q3_slices_Clone_Name (x : Nam) (xs : List Nam) (K : List Nam → Prop) : funA sClone Try.f104 [.sl (encs .nam (x :: xs))] (.gs .nam) K = ((false = true → K []) ∧ (false = false → decAllP .nam (encs .nam (x :: xs)) fun ys => (roomP ys.length 24 ∧ (ys.length = ys.length ∧ K ys)))) := by kernel_rfl
theorem wt_disk_node (x : Nod) (K : Nod → Prop) : funT (S_disk_node) Try.f80 (.S .nod) (.dt (.S .nod)) x K = (t_disk_node x).wp K := by kernel_rfl
theorem wtl_disk_Copy_l0 (p : (Dsk × (Nat × (Dsk × (Int × Int))))) (K : (Dsk × (Nat × (Dsk × (Int × Int)))) ⊕ (Dsk × Dsk) → Prop) : roundT (S_disk_Copy) [1, 10, 2, 11, 12] (.consA (.boxS .dsk [false, false, false, true]) .nod 1 (.cons (.boxS .dsk []) (.cons (.dt .int) (.dt .int)))) [⟨.exit 0, [1, 2], (.cons (.boxS .dsk [false, false, false, true]) (.boxS .dsk []))⟩] (loopAt Try.f44 0) p K = (tl_disk_Copy_l0 p.1 p.2.1 p.2.2.1 p.2.2.2.1 p.2.2.2.2).wp K := by kernel_rfl
theorem wt_disk_Copy (x : Dsk) (K : Dsk → Prop) : funT (S_disk_Copy) Try.f44 (.S .dsk) (.dt (.S .dsk)) x K = (t_disk_Copy x).wp K := by kernel_rfl
theorem wt_law3_DiskSame (x : (Dsk × Dsk)) (K : Bool → Prop) : funT (S_law3_DiskSame) Try.f10 (.cons (.S .dsk) (.S .dsk)) (.dt .bool) x K = (t_law3_DiskSame x.1 x.2).wp K := by kernel_rfl
variable [Syms]
theorem o_sparse_block : ConOK Try.prog (S_sparse_block) := conOK_of (consOK_cons c_slices_BinarySearchFunc_Block_int__sparse_block_1 consOK_nil) rfl
theorem c_sparse_block : ConOne Try.prog 51 K_sparse_block :=
  con_T (a := (.cons (.S .fil) .int)) (r := (.cons (.dt (.L .u8)) (.dt .bool))) (t := fun x => t_sparse_block x.1 x.2) tyokG (o_sparse_block) Try.checked.mixed ⟨Try.func51, by kernel_rfl, by kernel_rfl⟩ (loops_none (by kernel_rfl)) (by kernel_rfl) (fun x K => wt_sparse_block x K)
theorem o_sparse_Read : ConOK Try.prog (S_sparse_Read) := conOK_of (consOK_cons c_sparse_block consOK_nil) rfl
theorem lL_sparse_Read_l0 : LoopOK Try.prog Try.f14.ntmps (loopT [1, 2, 3, 7, 8] (.cons (.dt .int) (.cons (.dt .int) (.cons (.boxS .fil []) (.cons (.gs .u8) (.dt .int))))) [⟨.exit 0, [7], (.gs .u8)⟩] (L_sparse_Read_l0)) (loopAt Try.f14 0) :=
  loopT_ok (live := [1, 2, 3, 7, 8]) (vt := (.cons (.dt .int) (.cons (.dt .int) (.cons (.boxS .fil []) (.cons (.gs .u8) (.dt .int)))))) (ex := [⟨.exit 0, [7], (.gs .u8)⟩]) tyokG (o_sparse_Read) Try.checked.mixed (by kernel_rfl) (by kernel_rfl) (by kernel_rfl) (loops_nil (by kernel_rfl)) (t := fun q => tl_sparse_Read_l0 q.1 q.2.1 q.2.2.1 q.2.2.2.1 q.2.2.2.2) (by kernel_rfl) (fun p K => wtl_sparse_Read_l0 p K)
theorem c_sparse_Read : ConOne Try.prog 14 K_sparse_Read :=
  con_T (a := (.cons (.S .fil) (.cons .int .int))) (r := (.dt (.L .u8))) (t := fun x => t_sparse_Read x.1 x.2.1 x.2.2) tyokG (o_sparse_Read) Try.checked.mixed ⟨Try.func14, by kernel_rfl, by kernel_rfl⟩ (loops_code (by kernel_rfl) (loopIn_cons (by kernel_rfl) (lL_sparse_Read_l0) (loopsIn_nil))) (by kernel_rfl) (fun x K => wt_sparse_Read x K)
theorem o_bytes_Equal : ConOK Try.prog (S_bytes_Equal) := conOK_of consOK_nil rfl
theorem c_bytes_Equal : ConOne Try.prog 57 K_bytes_Equal :=
  con_T (a := (.cons (.L .u8) (.L .u8))) (r := (.dt .bool)) (t := fun x => t_bytes_Equal x.1 x.2) tyokG (o_bytes_Equal) Try.checked.mixed ⟨Try.func57, by kernel_rfl, by kernel_rfl⟩ (loops_none (by kernel_rfl)) (by kernel_rfl) (fun x K => wt_bytes_Equal x K)
theorem o_sparse_Same : ConOK Try.prog (S_sparse_Same) := conOK_of (consOK_cons c_sparse_Read (consOK_cons c_bytes_Equal consOK_nil)) rfl
theorem c_sparse_Same : ConOne Try.prog 17 K_sparse_Same :=
  con_T (a := (.cons (.S .fil) (.S .fil))) (r := (.dt .bool)) (t := fun x => t_sparse_Same x.1 x.2) tyokG (o_sparse_Same) Try.checked.mixed ⟨Try.func17, by kernel_rfl, by kernel_rfl⟩ (loops_none (by kernel_rfl)) (by kernel_rfl) (fun x K => wt_sparse_Same x K)
theorem o_slices_Equal_Name : ConOK Try.prog (S_slices_Equal_Name) := conOK_of consOK_nil rfl
theorem lL_slices_Equal_Name_l0 : LoopOK Try.prog Try.f102.ntmps (loopT [0, 1, 12, 13] (.cons (.dt (.L .nam)) (.cons (.dt (.L .nam)) (.cons (.dt .int) (.dt .int)))) [⟨.ret, [4], (.dt .bool)⟩, ⟨.exit 0, [], .nil⟩] (L_slices_Equal_Name_l0)) (loopAt Try.f102 0) :=
  loopT_ok (live := [0, 1, 12, 13]) (vt := (.cons (.dt (.L .nam)) (.cons (.dt (.L .nam)) (.cons (.dt .int) (.dt .int))))) (ex := [⟨.ret, [4], (.dt .bool)⟩, ⟨.exit 0, [], .nil⟩]) tyokG (o_slices_Equal_Name) Try.checked.mixed (by kernel_rfl) (by kernel_rfl) (by kernel_rfl) (loops_nil (by kernel_rfl)) (t := fun q => tl_slices_Equal_Name_l0 q.1 q.2.1 q.2.2.1 q.2.2.2) (by kernel_rfl) (fun p K => wtl_slices_Equal_Name_l0 p K)
theorem c_slices_Equal_Name : ConOne Try.prog 102 K_slices_Equal_Name :=
  con_T (a := (.cons (.L .nam) (.L .nam))) (r := (.dt .bool)) (t := fun x => t_slices_Equal_Name x.1 x.2) tyokG (o_slices_Equal_Name) Try.checked.mixed ⟨Try.func102, by kernel_rfl, by kernel_rfl⟩ (loops_code (by kernel_rfl) (loopIn_cons (by kernel_rfl) (lL_slices_Equal_Name_l0) (loopsIn_nil))) (by kernel_rfl) (fun x K => wt_slices_Equal_Name x K)
theorem o_disk_sameNode : ConOK Try.prog (S_disk_sameNode) := conOK_of (consOK_cons c_sparse_Same (consOK_cons c_slices_Equal_Name consOK_nil)) rfl
theorem c_disk_sameNode : ConOne Try.prog 78 K_disk_sameNode :=
  con_T (a := (.cons (.S .nod) (.S .nod))) (r := (.dt .bool)) (t := fun x => t_disk_sameNode x.1 x.2) tyokG (o_disk_sameNode) Try.checked.mixed ⟨Try.func78, by kernel_rfl, by kernel_rfl⟩ (loops_none (by kernel_rfl)) (by kernel_rfl) (fun x K => wt_disk_sameNode x K)
theorem o_slices_EqualFunc_LNode_Node_Node__disk_sameNode : ConOK Try.prog (S_slices_EqualFunc_LNode_Node_Node__disk_sameNode) := conOK_of (consOK_cons c_disk_sameNode consOK_nil) rfl
theorem lL_slices_EqualFunc_LNode_Node_Node__disk_sameNode_l0 : LoopOK Try.prog Try.f77.ntmps (loopT [1, 2, 15, 16, 17] (.cons (.dt (.L .nod)) (.cons (.dt (.clo 78 .nil)) (.cons (.dt (.L .nod)) (.cons (.dt .int) (.dt .int))))) [⟨.ret, [6], (.dt .bool)⟩, ⟨.exit 0, [], .nil⟩] (L_slices_EqualFunc_LNode_Node_Node__disk_sameNode_l0)) (loopAt Try.f77 0) :=
  loopT_ok (live := [1, 2, 15, 16, 17]) (vt := (.cons (.dt (.L .nod)) (.cons (.dt (.clo 78 .nil)) (.cons (.dt (.L .nod)) (.cons (.dt .int) (.dt .int)))))) (ex := [⟨.ret, [6], (.dt .bool)⟩, ⟨.exit 0, [], .nil⟩]) tyokG (o_slices_EqualFunc_LNode_Node_Node__disk_sameNode) Try.checked.mixed (by kernel_rfl) (by kernel_rfl) (by kernel_rfl) (loops_nil (by kernel_rfl)) (t := fun q => tl_slices_EqualFunc_LNode_Node_Node__disk_sameNode_l0 q.1 q.2.1 q.2.2.1 q.2.2.2.1 q.2.2.2.2) (by kernel_rfl) (fun p K => wtl_slices_EqualFunc_LNode_Node_Node__disk_sameNode_l0 p K)
theorem c_slices_EqualFunc_LNode_Node_Node__disk_sameNode : ConOne Try.prog 77 K_slices_EqualFunc_LNode_Node_Node__disk_sameNode :=
  con_T (a := (.cons (.L .nod) (.cons (.L .nod) (.clo 78 .nil)))) (r := (.dt .bool)) (t := fun x => t_slices_EqualFunc_LNode_Node_Node__disk_sameNode x.1 x.2.1 x.2.2) tyokG (o_slices_EqualFunc_LNode_Node_Node__disk_sameNode) Try.checked.mixed ⟨Try.func77, by kernel_rfl, by kernel_rfl⟩ (loops_code (by kernel_rfl) (loopIn_cons (by kernel_rfl) (lL_slices_EqualFunc_LNode_Node_Node__disk_sameNode_l0) (loopsIn_nil))) (by kernel_rfl) (fun x K => wt_slices_EqualFunc_LNode_Node_Node__disk_sameNode x K)
theorem o_disk_Same : ConOK Try.prog (S_disk_Same) := conOK_of (consOK_cons c_slices_EqualFunc_LNode_Node_Node__disk_sameNode consOK_nil) rfl
theorem c_disk_Same : ConOne Try.prog 43 K_disk_Same :=
  con_T (a := (.cons (.S .dsk) (.S .dsk))) (r := (.dt .bool)) (t := fun x => t_disk_Same x.1 x.2) tyokG (o_disk_Same) Try.checked.mixed ⟨Try.func43, by kernel_rfl, by kernel_rfl⟩ (loops_none (by kernel_rfl)) (by kernel_rfl) (fun x K => wt_disk_Same x K)
theorem o_r3_names : ConOK Try.prog (S_r3_names) := conOK_of consOK_nil rfl
theorem lL_r3_names_l0 : LoopOK Try.prog Try.f86.ntmps (loopT [0, 1, 5] (.cons (.dt (.L .nam)) (.cons (.dt (.L .nam)) (.dt .int))) [⟨.ret, [4], (.dt .bool)⟩, ⟨.exit 0, [], .nil⟩] (L_r3_names_l0)) (loopAt Try.f86 0) :=
  loopT_ok (live := [0, 1, 5]) (vt := (.cons (.dt (.L .nam)) (.cons (.dt (.L .nam)) (.dt .int)))) (ex := [⟨.ret, [4], (.dt .bool)⟩, ⟨.exit 0, [], .nil⟩]) tyokG (o_r3_names) Try.checked.mixed (by kernel_rfl) (by kernel_rfl) (by kernel_rfl) (loops_nil (by kernel_rfl)) (t := fun q => tl_r3_names_l0 q.1 q.2.1 q.2.2) (by kernel_rfl) (fun p K => wtl_r3_names_l0 p K)
theorem c_r3_names : ConOne Try.prog 86 K_r3_names :=
  con_T (a := (.cons (.L .nam) (.L .nam))) (r := (.dt .bool)) (t := fun x => t_r3_names x.1 x.2) tyokG (o_r3_names) Try.checked.mixed ⟨Try.func86, by kernel_rfl, by kernel_rfl⟩ (loops_code (by kernel_rfl) (loopIn_cons (by kernel_rfl) (lL_r3_names_l0) (loopsIn_nil))) (by kernel_rfl) (fun x K => wt_r3_names x K)
theorem o_r2_find : ConOK Try.prog (S_r2_find) := conOK_of consOK_nil rfl
theorem lL_r2_find_l0 : LoopOK Try.prog Try.f92.ntmps (loopT [1, 2, 5] (.cons (.dt .int) (.cons (.boxS .fil []) (.dt .int))) [⟨.ret, [4], (.dt .int)⟩, ⟨.exit 0, [], .nil⟩] (L_r2_find_l0)) (loopAt Try.f92 0) :=
  loopT_ok (live := [1, 2, 5]) (vt := (.cons (.dt .int) (.cons (.boxS .fil []) (.dt .int)))) (ex := [⟨.ret, [4], (.dt .int)⟩, ⟨.exit 0, [], .nil⟩]) tyokG (o_r2_find) Try.checked.mixed (by kernel_rfl) (by kernel_rfl) (by kernel_rfl) (loops_nil (by kernel_rfl)) (t := fun q => tl_r2_find_l0 q.1 q.2.1 q.2.2) (by kernel_rfl) (fun p K => wtl_r2_find_l0 p K)
theorem c_r2_find : ConOne Try.prog 92 K_r2_find :=
  con_T (a := (.cons (.S .fil) .int)) (r := (.dt .int)) (t := fun x => t_r2_find x.1 x.2) tyokG (o_r2_find) Try.checked.mixed ⟨Try.func92, by kernel_rfl, by kernel_rfl⟩ (loops_code (by kernel_rfl) (loopIn_cons (by kernel_rfl) (lL_r2_find_l0) (loopsIn_nil))) (by kernel_rfl) (fun x K => wt_r2_find x K)
theorem o_r2_byteAt : ConOK Try.prog (S_r2_byteAt) := conOK_of (consOK_cons c_r2_find consOK_nil) rfl
theorem c_r2_byteAt : ConOne Try.prog 101 K_r2_byteAt :=
  con_T (a := (.cons (.S .fil) .int)) (r := (.dt .u8)) (t := fun x => t_r2_byteAt x.1 x.2) tyokG (o_r2_byteAt) Try.checked.mixed ⟨Try.func101, by kernel_rfl, by kernel_rfl⟩ (loops_none (by kernel_rfl)) (by kernel_rfl) (fun x K => wt_r2_byteAt x K)
theorem o_r2_Read : ConOK Try.prog (S_r2_Read) := conOK_of (consOK_cons c_r2_byteAt consOK_nil) rfl
theorem lL_r2_Read_l0 : LoopOK Try.prog Try.f76.ntmps (loopT [1, 2, 3, 7, 8] (.cons (.dt .int) (.cons (.dt .int) (.cons (.boxS .fil []) (.cons (.gs .u8) (.dt .int))))) [⟨.exit 0, [7], (.gs .u8)⟩] (L_r2_Read_l0)) (loopAt Try.f76 0) :=
  loopT_ok (live := [1, 2, 3, 7, 8]) (vt := (.cons (.dt .int) (.cons (.dt .int) (.cons (.boxS .fil []) (.cons (.gs .u8) (.dt .int)))))) (ex := [⟨.exit 0, [7], (.gs .u8)⟩]) tyokG (o_r2_Read) Try.checked.mixed (by kernel_rfl) (by kernel_rfl) (by kernel_rfl) (loops_nil (by kernel_rfl)) (t := fun q => tl_r2_Read_l0 q.1 q.2.1 q.2.2.1 q.2.2.2.1 q.2.2.2.2) (by kernel_rfl) (fun p K => wtl_r2_Read_l0 p K)
theorem c_r2_Read : ConOne Try.prog 76 K_r2_Read :=
  con_T (a := (.cons (.S .fil) (.cons .int .int))) (r := (.dt (.L .u8))) (t := fun x => t_r2_Read x.1 x.2.1 x.2.2) tyokG (o_r2_Read) Try.checked.mixed ⟨Try.func76, by kernel_rfl, by kernel_rfl⟩ (loops_code (by kernel_rfl) (loopIn_cons (by kernel_rfl) (lL_r2_Read_l0) (loopsIn_nil))) (by kernel_rfl) (fun x K => wt_r2_Read x K)
theorem o_r2_Same : ConOK Try.prog (S_r2_Same) := conOK_of (consOK_cons c_r2_Read consOK_nil) rfl
theorem c_r2_Same : ConOne Try.prog 87 K_r2_Same :=
  con_T (a := (.cons (.S .fil) (.S .fil))) (r := (.dt .bool)) (t := fun x => t_r2_Same x.1 x.2) tyokG (o_r2_Same) Try.checked.mixed ⟨Try.func87, by kernel_rfl, by kernel_rfl⟩ (loops_none (by kernel_rfl)) (by kernel_rfl) (fun x K => wt_r2_Same x K)
theorem o_r3_Nodes : ConOK Try.prog (S_r3_Nodes) := conOK_of (consOK_cons c_r3_names (consOK_cons c_r2_Same consOK_nil)) rfl
theorem c_r3_Nodes : ConOne Try.prog 49 K_r3_Nodes :=
  con_T (a := (.cons (.S .nod) (.S .nod))) (r := (.dt .bool)) (t := fun x => t_r3_Nodes x.1 x.2) tyokG (o_r3_Nodes) Try.checked.mixed ⟨Try.func49, by kernel_rfl, by kernel_rfl⟩ (loops_none (by kernel_rfl)) (by kernel_rfl) (fun x K => wt_r3_Nodes x K)
theorem o_r3_Same : ConOK Try.prog (S_r3_Same) := conOK_of (consOK_cons c_r3_Nodes consOK_nil) rfl
theorem lL_r3_Same_l0 : LoopOK Try.prog Try.f23.ntmps (loopT [2, 3, 5] (.cons (.boxS .dsk []) (.cons (.boxS .dsk []) (.dt .int))) [⟨.ret, [4], (.dt .bool)⟩, ⟨.exit 0, [], .nil⟩] (L_r3_Same_l0)) (loopAt Try.f23 0) :=
  loopT_ok (live := [2, 3, 5]) (vt := (.cons (.boxS .dsk []) (.cons (.boxS .dsk []) (.dt .int)))) (ex := [⟨.ret, [4], (.dt .bool)⟩, ⟨.exit 0, [], .nil⟩]) tyokG (o_r3_Same) Try.checked.mixed (by kernel_rfl) (by kernel_rfl) (by kernel_rfl) (loops_nil (by kernel_rfl)) (t := fun q => tl_r3_Same_l0 q.1 q.2.1 q.2.2) (by kernel_rfl) (fun p K => wtl_r3_Same_l0 p K)
theorem c_r3_Same : ConOne Try.prog 23 K_r3_Same :=
  con_T (a := (.cons (.S .dsk) (.S .dsk))) (r := (.dt .bool)) (t := fun x => t_r3_Same x.1 x.2) tyokG (o_r3_Same) Try.checked.mixed ⟨Try.func23, by kernel_rfl, by kernel_rfl⟩ (loops_code (by kernel_rfl) (loopIn_cons (by kernel_rfl) (lL_r3_Same_l0) (loopsIn_nil))) (by kernel_rfl) (fun x K => wt_r3_Same x K)
theorem c_slices_Clone_Node : ConOne Try.prog 79 K_slices_Clone_Node := con_clone (by_ := 104) tyokG clone_ok Try.checked.mixed ⟨Try.func79, by kernel_rfl, by kernel_rfl⟩ (by kernel_rfl) (fun K h => cast (q1_slices_Clone_Node K).symm ⟨fun _ => h (Nat.zero_le _), nofun⟩) (fun K h => cast (q2_slices_Clone_Node K).symm ⟨nofun, fun _ => ⟨Nat.zero_le _, rfl, h (Nat.zero_le _)⟩⟩) (fun x xs K h => cast (q3_slices_Clone_Node x xs K).symm ⟨nofun, fun _ => decAllP_mono (fun ys h => ⟨h.1, rfl, h.2⟩) h⟩)
theorem c_slices_Clone_Block : ConOne Try.prog 124 K_slices_Clone_Block := con_clone (by_ := 32) tyokG clone_ok Try.checked.mixed ⟨Try.func124, by kernel_rfl, by kernel_rfl⟩ (by kernel_rfl) (fun K h => cast (q1_slices_Clone_Block K).symm ⟨fun _ => h (Nat.zero_le _), nofun⟩) (fun K h => cast (q2_slices_Clone_Block K).symm ⟨nofun, fun _ => ⟨Nat.zero_le _, rfl, h (Nat.zero_le _)⟩⟩) (fun x xs K h => cast (q3_slices_Clone_Block x xs K).symm ⟨nofun, fun _ => decAllP_mono (fun ys h => ⟨h.1, rfl, h.2⟩) h⟩)
theorem c_slices_Clone_byte : ConOne Try.prog 125 K_slices_Clone_byte := con_clone (by_ := 1) tyokG clone_ok Try.checked.mixed ⟨Try.func125, by kernel_rfl, by kernel_rfl⟩ (by kernel_rfl) (fun K h => cast (q1_slices_Clone_byte K).symm ⟨fun _ => h (Nat.zero_le _), nofun⟩) (fun K h => cast (q2_slices_Clone_byte K).symm ⟨nofun, fun _ => ⟨Nat.zero_le _, rfl, h (Nat.zero_le _)⟩⟩) (fun x xs K h => cast (q3_slices_Clone_byte x xs K).symm ⟨nofun, fun _ => decAllP_mono (fun ys h => ⟨h.1, rfl, h.2⟩) h⟩)
theorem o_disk_file : ConOK Try.prog (S_disk_file) := conOK_of (consOK_cons c_slices_Clone_Block (consOK_cons c_slices_Clone_byte consOK_nil)) rfl
theorem lL_disk_file_l0 : LoopOK Try.prog Try.f103.ntmps (loopT [1, 2, 10, 11] (.cons (.boxS .fil [false, true]) (.cons (.boxS .fil []) (.cons (.dt .int) (.dt .int)))) [⟨.exit 0, [1, 2], (.cons (.boxS .fil [false, true]) (.boxS .fil []))⟩] (L_disk_file_l0)) (loopAt Try.f103 0) :=
  loopT_ok (live := [1, 2, 10, 11]) (vt := (.cons (.boxS .fil [false, true]) (.cons (.boxS .fil []) (.cons (.dt .int) (.dt .int))))) (ex := [⟨.exit 0, [1, 2], (.cons (.boxS .fil [false, true]) (.boxS .fil []))⟩]) tyokG (o_disk_file) Try.checked.mixed (by kernel_rfl) (by kernel_rfl) (by kernel_rfl) (loops_nil (by kernel_rfl)) (t := fun q => tl_disk_file_l0 q.1 q.2.1 q.2.2.1 q.2.2.2) (by kernel_rfl) (fun p K => wtl_disk_file_l0 p K)
theorem c_disk_file : ConOne Try.prog 103 K_disk_file :=
  con_T (a := (.S .fil)) (r := (.dt (.S .fil))) (t := fun x => t_disk_file x) tyokG (o_disk_file) Try.checked.mixed ⟨Try.func103, by kernel_rfl, by kernel_rfl⟩ (loops_code (by kernel_rfl) (loopIn_cons (by kernel_rfl) (lL_disk_file_l0) (loopsIn_nil))) (by kernel_rfl) (fun x K => wt_disk_file x K)
theorem c_slices_Clone_Name : ConOne Try.prog 104 K_slices_Clone_Name := con_clone (by_ := 24) tyokG clone_ok Try.checked.mixed ⟨Try.func104, by kernel_rfl, by kernel_rfl⟩ (by kernel_rfl) (fun K h => cast (q1_slices_Clone_Name K).symm ⟨fun _ => h (Nat.zero_le _), nofun⟩) (fun K h => cast (q2_slices_Clone_Name K).symm ⟨nofun, fun _ => ⟨Nat.zero_le _, rfl, h (Nat.zero_le _)⟩⟩) (fun x xs K h => cast (q3_slices_Clone_Name x xs K).symm ⟨nofun, fun _ => decAllP_mono (fun ys h => ⟨h.1, rfl, h.2⟩) h⟩)
theorem o_disk_node : ConOK Try.prog (S_disk_node) := conOK_of (consOK_cons c_disk_file (consOK_cons c_slices_Clone_Name consOK_nil)) rfl
theorem c_disk_node : ConOne Try.prog 80 K_disk_node :=
  con_T (a := (.S .nod)) (r := (.dt (.S .nod))) (t := fun x => t_disk_node x) tyokG (o_disk_node) Try.checked.mixed ⟨Try.func80, by kernel_rfl, by kernel_rfl⟩ (loops_none (by kernel_rfl)) (by kernel_rfl) (fun x K => wt_disk_node x K)
theorem o_disk_Copy : ConOK Try.prog (S_disk_Copy) := conOK_of (consOK_cons c_slices_Clone_Node (consOK_cons c_disk_node consOK_nil)) rfl
theorem lL_disk_Copy_l0 : LoopOK Try.prog Try.f44.ntmps (loopT [1, 10, 2, 11, 12] (.consA (.boxS .dsk [false, false, false, true]) .nod 1 (.cons (.boxS .dsk []) (.cons (.dt .int) (.dt .int)))) [⟨.exit 0, [1, 2], (.cons (.boxS .dsk [false, false, false, true]) (.boxS .dsk []))⟩] (L_disk_Copy_l0)) (loopAt Try.f44 0) :=
  loopT_ok (live := [1, 10, 2, 11, 12]) (vt := (.consA (.boxS .dsk [false, false, false, true]) .nod 1 (.cons (.boxS .dsk []) (.cons (.dt .int) (.dt .int))))) (ex := [⟨.exit 0, [1, 2], (.cons (.boxS .dsk [false, false, false, true]) (.boxS .dsk []))⟩]) tyokG (o_disk_Copy) Try.checked.mixed (by kernel_rfl) (by kernel_rfl) (by kernel_rfl) (loops_nil (by kernel_rfl)) (t := fun q => tl_disk_Copy_l0 q.1 q.2.1 q.2.2.1 q.2.2.2.1 q.2.2.2.2) (by kernel_rfl) (fun p K => wtl_disk_Copy_l0 p K)
theorem c_disk_Copy : ConOne Try.prog 44 K_disk_Copy :=
  con_T (a := (.S .dsk)) (r := (.dt (.S .dsk))) (t := fun x => t_disk_Copy x) tyokG (o_disk_Copy) Try.checked.mixed ⟨Try.func44, by kernel_rfl, by kernel_rfl⟩ (loops_code (by kernel_rfl) (loopIn_cons (by kernel_rfl) (lL_disk_Copy_l0) (loopsIn_nil))) (by kernel_rfl) (fun x K => wt_disk_Copy x K)
theorem o_law3_DiskSame : ConOK Try.prog (S_law3_DiskSame) := conOK_of (consOK_cons c_law3_heavy (consOK_cons c_r3_Is (consOK_cons c_disk_Same (consOK_cons c_r3_Same (consOK_cons c_disk_Copy (consOK_cons c_law3_known consOK_nil)))))) rfl
theorem c_law3_DiskSame : ConOne Try.prog 10 K_law3_DiskSame :=
  con_T (a := (.cons (.S .dsk) (.S .dsk))) (r := (.dt .bool)) (t := fun x => t_law3_DiskSame x.1 x.2) tyokG (o_law3_DiskSame) Try.checked.mixed ⟨Try.func10, by kernel_rfl, by kernel_rfl⟩ (loops_none (by kernel_rfl)) (by kernel_rfl) (fun x K => wt_law3_DiskSame x K)
end Go.Proofs.Ytmkmjjodiicmlaa.VS
