/- A function without arguments, run by the machine. Conditions: none. -/
import Derived.Test.YtmkmjjodiicmlaaVYH
import Derived.KernelRfl
namespace Go.Proofs.Ytmkmjjodiicmlaa.VS
set_option maxRecDepth 100000
set_option maxHeartbeats 0
def bare_law3_known : Cfg := { prim := fun _ => none, keep := fun f => isIn f [103,104,124,44,79,80], exact := fun _ => false, share := fun _ => false }
def cfg_law3_known : Cfg := { bare_law3_known with prim := emptyOf [104,124,79] }
theorem prims_law3_known [Syms] : PrimOK Try.prog cfg_law3_known := prim_empty (cfg' := bare_law3_known) (N := 8) (l := [104,124,79]) tyokG fnokG (prim_none (fun _ => rfl) (fun _ => rfl)) Try.checked.mixed (by kernel_rfl) rfl
theorem ran_law3_known : treeAns (acallK tabs cfg_law3_known 60 45 [] [] [] 0) = some (.bool true) := by kernel_rfl
noncomputable def f_law3_known : Option Bool := some true
noncomputable def K_law3_known : List AV → Option Con := conT .nil (.dt .bool) fun _ => f_law3_known
theorem c_law3_known [Syms] : ConOne Try.prog 45 K_law3_known := con_ran (r := .dt .bool) (y := true) tyokG fnokG Try.checked.mixed prims_law3_known ran_law3_known (ub_le true) rfl
end Go.Proofs.Ytmkmjjodiicmlaa.VS
