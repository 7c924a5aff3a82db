/- The law's run: what it leans on. Conditions: none. -/
import Derived.Test.YtakagcofhbnjdaaRows
import Derived.WalkKit
import Derived.ProofKit
import Derived.OpenShut
import Derived.ShutString
import Derived.Test.YtakagcofhbnjdaaVS31
import Derived.Test.YtakagcofhbnjdaaVSTabs
import Derived.Test.YtakagcofhbnjdaaShelf
namespace Go.Proofs.Ytakagcofhbnjdaa.diskOdd
open VS

def bare : Cfg := { prim := fun _ => none, keep := fun f => isIn f [101,29,47,50,72,73,9], exact := fun _ => false }
def cfg1 : Cfg := { bare with prim := emptyOf [101,50,73] }
def cfg : Cfg := { cfg1 with prim := withP 99 containsP cfg1.prim }

theorem enters (args : Array Value) (w : World) : (callFunc 4 args).run Try.prog w = .ok (.enter 4 args) w := letI := noSyms; run_callFunc Try.func4 rfl (by kernel_rfl) args w

theorem tyok : TyOK Try.prog tabs := tyOK_of tabs_ty
theorem fnok : FnOK Try.prog tabs := fnOK_of tabs_fn
theorem prims1 [Syms] : PrimOK Try.prog cfg1 := prim_empty (cfg' := bare) (N := 8) (l := [101,50,73]) tyok fnok (fun _ _ h => nomatch h) Try.checked.mixed (by kernel_rfl) rfl
theorem set150 : (Try.prog.info? (lays150_ren.t 116)).map (fun i => (i.zero, i.size)) = some (some (.agg (Array.replicate 256 (.bool false))), 256) := by kernel_rfl
theorem prims [Syms] : PrimOK Try.prog cfg := prim_with prims1 (contains_ok lays150 set150 rfl (fun args w => run_callFunc Try.func99 rfl (by kernel_rfl) args w)) rfl

theorem one [Syms] {w : World} {args : List AV} {cargs : Array Value} (h : isTrue (acallK tabs cfg 60 4 args [] [] 0) = true) (hc : CR (fun _ => True) w.heap noMap args cargs 0) (hsz : cargs.size = args.length) : Calls Try.prog 4 cargs w fun e w' => e = .returned (.bool true) ∧ Kept w w' :=
  law_true tyok fnok prims Try.checked.mixed h hc hsz (enters _ w)

end Go.Proofs.Ytakagcofhbnjdaa.diskOdd
