/- The law's run: what it leans on. Conditions: none. -/
import Derived.Test.YtakagcofhbnjdaaRows
import Derived.WalkKit
import Derived.ProofKit
import Derived.OpenShut
import Derived.ShutString
import Derived.Test.YtakagcofhbnjdaaVS31
import Derived.Test.YtakagcofhbnjdaaVSTabs
namespace Go.Proofs.Ytakagcofhbnjdaa.keepKinds
open VS

def bare : Cfg := { prim := fun _ => none, keep := fun f => isIn f [101,102,12,30,37,47,50,51,61,62,63,72,73,9,94], exact := fun f => isIn f [64,94,63,61], share := fun _ => false }
def cfg1 : Cfg := { bare with prim := emptyOf [101,102,50,73] }
def cfg2 : Cfg := cfg1
def tree0 : AV := .sl [.agg [.int .i64 1, .str [47, 102], .str [], .int .i64 0, .int .i64 0, .int .i64 0, .sl []], .agg [.int .i64 2, .str [47, 100], .str [], .int .i64 0, .int .i64 0, .int .i64 0, .sl []], .agg [.int .i64 13, .str [47, 115], .str [116], .int .i64 0, .int .i64 0, .int .i64 0, .sl []]]
def tree1 : AV := .agg [.int .i64 99, .int .i64 9, .int .i64 5, .sl [.agg [.int .i64 1, .int .i64 2, .int .i64 493, .int .i64 1, .int .i64 0, .sl [], .str [], .sl [.agg [.str [100], .int .i64 3], .agg [.str [102], .int .i64 2], .agg [.str [115], .int .i64 4]]], .agg [.int .i64 2, .int .i64 1, .int .i64 0, .int .i64 1, .int .i64 0, .sl [], .str [], .sl []], .agg [.int .i64 3, .int .i64 2, .int .i64 0, .int .i64 1, .int .i64 0, .sl [], .str [], .sl []], .agg [.int .i64 4, .int .i64 3, .int .i64 0, .int .i64 1, .int .i64 0, .sl [], .str [116], .sl []]]]
def ran0 : Ran := ⟨14, [.agg [.int .i64 99, .int .i64 9, .int .i64 2, .sl [.agg [.int .i64 1, .int .i64 2, .int .i64 493, .int .i64 1, .int .i64 0, .sl [], .str [], .sl []]]], tree0], tree1⟩
def ran1 : Ran := ⟨20, [], .bool true⟩
def cfg : Cfg := { cfg2 with prim := withRan [ran0, ran1] cfg2.prim }

theorem enters (args : Array Value) (w : World) : (callFunc 6 args).run Try.prog w = .ok (.enter 6 args) w := letI := noSyms; run_callFunc Try.func6 rfl (by kernel_rfl) args w

theorem tyok : TyOK Try.prog tabs := tyOK_of tabs_ty
theorem fnok : FnOK Try.prog tabs := fnOK_of tabs_fn
theorem prims1 [Syms] : PrimOK Try.prog cfg1 := prim_empty (cfg' := bare) (N := 8) (l := [101,102,50,73]) tyok fnok (fun _ _ h => nomatch h) Try.checked.mixed (by kernel_rfl) rfl
theorem prims2 [Syms] : PrimOK Try.prog cfg2 := prims1
end Go.Proofs.Ytakagcofhbnjdaa.keepKinds
