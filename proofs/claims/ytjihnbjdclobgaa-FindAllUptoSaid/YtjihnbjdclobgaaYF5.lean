/- What functions answer, by their texts. Printed by a program of this work. Conditions: none. -/
import Derived.Test.YtjihnbjdclobgaaYF4
import Derived.KernelRfl
namespace Go.Proofs.Ytjihnbjdclobgaa.VS
set_option maxRecDepth 100000
set_option maxHeartbeats 0
set_option linter.unusedVariables false
/-! veneer/veneerref8.Run -/
noncomputable def tl_r8_Run_l0 (s1 : (List Opn)) (s2 : Dsk) (s4 : Dsk) (s5 : Int) : T (((List Opn) × (Dsk × (Dsk × Int))) ⊕ (Dsk × Dsk)) :=
  (T.ite (decide (s5 < (↑s1.length : Int))) (T.req ((0 : Int) ≤ s5 ∧ s5 < (↑s1.length : Int)) (T.bind (f_r8_Do s2 false (s1.getD s5.toNat GT.opn.nought)) fun r0 => (T.ret (Sum.inl (s1, r0.fst, s4, IntKind.i64.wrap (s5 + (1 : Int))))))) (T.ret (Sum.inr (s2, s4))))
noncomputable def L_r8_Run_l0 : ((List Opn) × (Dsk × (Dsk × Int))) → Option (Dsk × Dsk) := fixT fun q => tl_r8_Run_l0 q.1 q.2.1 q.2.2.1 q.2.2.2
noncomputable def t_r8_Run (a0 : Dsk) (a1 : (List Opn)) : T Dsk :=
  (T.bind (L_r8_Run_l0 (a1, a0, Dsk.mk (0 : Int) (0 : Int) (0 : Int) [], (0 : Int))) fun r0 => (T.ret (r0.fst)))
noncomputable def f_r8_Run (a0 : Dsk) (a1 : (List Opn)) : Option Dsk := (t_r8_Run a0 a1).run
noncomputable def K_r8_Run : List AV → Option Con := conT (.cons (.S .dsk) (.L .opn)) (.dt (.S .dsk)) fun x => f_r8_Run x.1 x.2
noncomputable def S_r8_Run : SE := { T := tabs, con := conOf [(49, K_r8_Do)], own := fun f => false, gt := gtS, loop := lpOf [(3, loopT [1, 2, 4, 5] (.cons (.dt (.L .opn)) (.cons (.boxS .dsk []) (.cons (.boxS .dsk []) (.dt .int)))) [⟨.exit 0, [2, 4], (.cons (.boxS .dsk []) (.boxS .dsk []))⟩] (L_r8_Run_l0))] }
/-! veneer/find.Up -/
noncomputable def t_find_Up (a0 : Dsk) (a1 : (List Str)) : T (Nod × (Str × Int)) :=
  (T.ite ((↑a1.length : Int) == (0 : Int)) (T.ret ((Nod.mk (0 : Int) (0 : Int) (0 : Int) (0 : Int) (Fil.mk (0 : Int) []) [] [], [], (2 : Int)))) (T.req ((0 : Int) ≤ (0 : Int) ∧ (0 : Int) ≤ IntKind.i64.wrap ((↑a1.length : Int) - (1 : Int)) ∧ IntKind.i64.wrap ((↑a1.length : Int) - (1 : Int)) ≤ (↑a1.length : Int)) (T.bind (f_find_Node a0 (List.drop (Int.toNat (0 : Int)) (List.take (IntKind.i64.wrap ((↑a1.length : Int) - (1 : Int))).toNat a1))) fun r0 => (T.ite (r0.snd != (0 : Int)) (T.ret ((Nod.mk (0 : Int) (0 : Int) (0 : Int) (0 : Int) (Fil.mk (0 : Int) []) [] [], [], r0.snd))) (T.ite (r0.fst.kind != (2 : Int)) (T.ret ((Nod.mk (0 : Int) (0 : Int) (0 : Int) (0 : Int) (Fil.mk (0 : Int) []) [] [], [], (4 : Int)))) (T.req ((0 : Int) ≤ IntKind.i64.wrap ((↑a1.length : Int) - (1 : Int)) ∧ IntKind.i64.wrap ((↑a1.length : Int) - (1 : Int)) < (↑a1.length : Int)) (T.ret ((r0.fst, a1.getD (IntKind.i64.wrap ((↑a1.length : Int) - (1 : Int))).toNat GT.str.nought, (0 : Int))))))))))
noncomputable def f_find_Up (a0 : Dsk) (a1 : (List Str)) : Option (Nod × (Str × Int)) := (t_find_Up a0 a1).run
noncomputable def K_find_Up : List AV → Option Con := conT (.cons (.S .dsk) (.L .str)) (.cons (.dt (.S .nod)) (.cons (.dt .str) (.dt .int))) fun x => f_find_Up x.1 x.2
noncomputable def S_find_Up : SE := { T := tabs, con := conOf [(23, K_find_Node)], own := fun f => false, gt := gtS, loop := lpOf [] }
theorem wtl_r8_Run_l0 (p : ((List Opn) × (Dsk × (Dsk × Int)))) (K : ((List Opn) × (Dsk × (Dsk × Int))) ⊕ (Dsk × Dsk) → Prop) : roundT (S_r8_Run) [1, 2, 4, 5] (.cons (.dt (.L .opn)) (.cons (.boxS .dsk []) (.cons (.boxS .dsk []) (.dt .int)))) [⟨.exit 0, [2, 4], (.cons (.boxS .dsk []) (.boxS .dsk []))⟩] (loopAt Try.f26 0) p K = (tl_r8_Run_l0 p.1 p.2.1 p.2.2.1 p.2.2.2).wp K := by kernel_rfl
theorem wt_r8_Run (x : (Dsk × (List Opn))) (K : Dsk → Prop) : funT (S_r8_Run) Try.f26 (.cons (.S .dsk) (.L .opn)) (.dt (.S .dsk)) x K = (t_r8_Run x.1 x.2).wp K := by kernel_rfl
theorem wt_find_Up (x : (Dsk × (List Str))) (K : (Nod × (Str × Int)) → Prop) : funT (S_find_Up) Try.f28 (.cons (.S .dsk) (.L .str)) (.cons (.dt (.S .nod)) (.cons (.dt .str) (.dt .int))) x K = (t_find_Up x.1 x.2).wp K := by kernel_rfl
variable [Syms]
theorem o_r8_Run : ConOK Try.prog (S_r8_Run) := conOK_of (consOK_cons c_r8_Do consOK_nil) rfl
theorem lL_r8_Run_l0 : LoopOK Try.prog Try.f26.ntmps (loopT [1, 2, 4, 5] (.cons (.dt (.L .opn)) (.cons (.boxS .dsk []) (.cons (.boxS .dsk []) (.dt .int)))) [⟨.exit 0, [2, 4], (.cons (.boxS .dsk []) (.boxS .dsk []))⟩] (L_r8_Run_l0)) (loopAt Try.f26 0) :=
  loopT_ok (live := [1, 2, 4, 5]) (vt := (.cons (.dt (.L .opn)) (.cons (.boxS .dsk []) (.cons (.boxS .dsk []) (.dt .int))))) (ex := [⟨.exit 0, [2, 4], (.cons (.boxS .dsk []) (.boxS .dsk []))⟩]) tyokG (o_r8_Run) Try.checked.mixed (by kernel_rfl) (by kernel_rfl) (by kernel_rfl) (loops_nil (by kernel_rfl)) (t := fun q => tl_r8_Run_l0 q.1 q.2.1 q.2.2.1 q.2.2.2) (by kernel_rfl) (fun p K => wtl_r8_Run_l0 p K)
theorem c_r8_Run : ConOne Try.prog 26 K_r8_Run :=
  con_T (a := (.cons (.S .dsk) (.L .opn))) (r := (.dt (.S .dsk))) (t := fun x => t_r8_Run x.1 x.2) tyokG (o_r8_Run) Try.checked.mixed ⟨Try.func26, by kernel_rfl, by kernel_rfl⟩ (loops_code (by kernel_rfl) (loopIn_cons (by kernel_rfl) (lL_r8_Run_l0) (loopsIn_nil))) (by kernel_rfl) (fun x K => wt_r8_Run x K)
theorem o_find_Up : ConOK Try.prog (S_find_Up) := conOK_of (consOK_cons c_find_Node consOK_nil) rfl
theorem c_find_Up : ConOne Try.prog 28 K_find_Up :=
  con_T (a := (.cons (.S .dsk) (.L .str))) (r := (.cons (.dt (.S .nod)) (.cons (.dt .str) (.dt .int)))) (t := fun x => t_find_Up x.1 x.2) tyokG (o_find_Up) Try.checked.mixed ⟨Try.func28, by kernel_rfl, by kernel_rfl⟩ (loops_none (by kernel_rfl)) (by kernel_rfl) (fun x K => wt_find_Up x K)
end Go.Proofs.Ytjihnbjdclobgaa.VS
