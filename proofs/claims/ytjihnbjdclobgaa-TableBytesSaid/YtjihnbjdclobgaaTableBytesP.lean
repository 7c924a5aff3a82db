/- The law is told by trees of an abstract machine that is proved sound for the program: it answers true, and all that was there is as it was. Conditions: none. -/
import Derived.Test.YtjihnbjdclobgaaRows
import Derived.WalkKit
import Derived.ProofKit
import Derived.OpenShut
import Derived.Test.YtjihnbjdclobgaaTabF
import Derived.Test.YtjihnbjdclobgaaVM10
namespace Go.Proofs.Ytjihnbjdclobgaa.tableBytes
open Go.ChangeShapes Go.WideShapes Go.ChangeAt Go.RowKit
set_option linter.unusedVariables false

theorem own : ownKnob Try.prog.godebug = none := by kernel_rfl

open VS

theorem kids : Kids Try.prog (· < Try.prog.types.size) := kids_rows (by kernel_rfl) (by kernel_rfl)
theorem full : ∀ t e, t < Try.prog.types.size → Try.prog.underlying t = some (.slice e) → 0 < Try.prog.cellsOf e := slices_full_of Try.prog (by kernel_rfl)
theorem ps : Try.f10.params.toList = [61, 61] := by kernel_rfl
theorem small : ∀ t ∈ Try.f10.params.toList, t < Try.prog.types.size := by
  rw [ps]
  have h : ([61, 61].all fun t => t.blt Try.prog.types.size) = true := by kernel_rfl
  exact fun t ht => by simpa using List.all_eq_true.1 h t ht
theorem tyInt : Try.prog.underlying 3 = some (.int .i64) := by kernel_rfl
theorem tyI64 : Try.prog.underlying 2 = some (.int .i64) := by kernel_rfl
theorem tyRows : Try.prog.underlying 59 = some (.slice 72) := by kernel_rfl
theorem tyBool : Try.prog.underlying 4 = some .bool := by kernel_rfl
abbrev okI (n : Int) : Prop := (Lit.int .i64 n).wf = true
section
variable [Syms] {H : Type} {enc : TypeId × Value → H} {W : World} {sp : Nat → Bool}
theorem rdInt : RdT enc Try.prog W sp 1 (fun n : Int => [.int .i64 n]) okI 3 := rd_int tyInt (by kernel_rfl : Try.prog.cellsOf 3 = 1)
theorem rdI64 : RdT enc Try.prog W sp 1 (fun n : Int => [.int .i64 n]) okI 2 := rd_int tyI64 (by kernel_rfl : Try.prog.cellsOf 2 = 1)
theorem rdSpt : RdT enc Try.prog W sp 2 (fun c : Spt => [.int .i64 c.branch, .int .i64 c.ino]) (fun c => okI c.branch ∧ okI c.ino) 70 := rd_spt (by kernel_rfl) (by kernel_rfl) rdInt rdI64
theorem rdRwo : RdT enc Try.prog W sp 3 (fun c : Rwo => [.int .i64 c.spot.branch, .int .i64 c.spot.ino, .int .i64 c.u]) (fun c => (okI c.spot.branch ∧ okI c.spot.ino) ∧ okI c.u) 72 := rd_rwo (by kernel_rfl) (by kernel_rfl) rdSpt rdI64
theorem rdRows : RdT enc Try.prog W sp 1 (fun l : List Rwo => [.tl .row l]) (fitL fun c : Rwo => (okI c.spot.branch ∧ okI c.spot.ino) ∧ okI c.u) 59 := rd_slice (g := .row) tyRows (by kernel_rfl) rdRwo
theorem rdTbl : RdT enc Try.prog W sp 4 (fun c : Tbl => [.int .i64 c.next, .tl .row c.rows, .tl .row c.homes, .int .i64 c.cursor]) (fun t => okI t.next ∧ fitL (fun c : Rwo => (okI c.spot.branch ∧ okI c.spot.ino) ∧ okI c.u) t.rows ∧ fitL (fun c : Rwo => (okI c.spot.branch ∧ okI c.spot.ino) ∧ okI c.u) t.homes ∧ okI t.cursor) 61 := rd_tbl (by kernel_rfl) (by kernel_rfl) rdI64 rdRows rdInt
end
def encT (c : Tbl) : AV := .agg [.int .i64 c.next, .tl .row c.rows, .tl .row c.homes, .int .i64 c.cursor]

theorem enters (args : Array Value) (w : World) : (callFunc 10 args).run Try.prog w = .ok (.enter 10 args) w := run_callFunc Try.func10 rfl (by kernel_rfl) args w

theorem walk [Syms] {W : World} {a b : Tbl} {v u : Value} (hv : VR (fun _ => True) W.heap noMap (encT a) v) (hu : VR (fun _ => True) W.heap noMap (encT b) u) : Calls Try.prog 10 #[v, u] W fun e w' => e = .returned (.bool true) ∧ Kept W w' :=
  law_T (S := S_law13_TableBytes) tyokG o_law13_TableBytes Try.checked.mixed ⟨Try.func10, by kernel_rfl, by kernel_rfl⟩ c_law13_TableBytes (x := (a, b)) (law_bytes a b) (args := [encT a, encT b]) rfl trivial (cr_two hv hu) rfl (enters _ W)

set_option maxRecDepth 100000 in
theorem lifted (os : Os) (started : os.Started) (H : Type) (enc : TypeId × Value → H) :
    ReturnsInHanded {} Try.checked os 10 .any (Rows.tableBytesSpec.pre6 enc Try.prog Try.f10 Rows.tableBytesRow.domain false) (Rows.tableBytesSpec.post enc Try.prog Try.f10 false true false false) := by
  refine returnsInHanded_of_change (C := Try.checked) own started (by kernel_rfl) Try.func10
    (ChangeSpec.witness6 (enc := enc) (C := Try.checked) false ⟨#[], #[.agg #[.int .i64 0, .slice none 0 0, .slice none 0 0, .int .i64 0], .agg #[.int .i64 0, .slice none 0 0, .slice none 0 0, .int .i64 0]], []⟩ 8 (by kernel_rfl) (by kernel_rfl) (by kernel_rfl) (by kernel_rfl)) ?_
  intro W base args ds gs before hval0 hW hcnd _
  have hval : ∀ (j : Nat) t v, Try.f10.params[j]? = some t → args[j]? = some v → Value.okWide Try.prog W .any base t v := hval0
  have hW' := hW
  obtain ⟨p, q, hA0, hV, rfl, hfz, hnd⟩ := hW
  have hA : DataW.TrodAll enc Try.prog W 0 (fun _ => true) true Try.f10.params.toList args.toList ds p := hA0
  rw [ps] at hA
  obtain ⟨v0, vs0, d0, ds0, p0, q0, hargs, rfl, rfl, h0, r0⟩ := trodAll_cons hA
  obtain ⟨v1, vs1, d1, ds1, p1, q1, rfl, rfl, rfl, h1, r1⟩ := trodAll_cons r0
  obtain ⟨rfl, rfl, rfl⟩ := trodAll_nil r1
  obtain rfl : args = #[v0, v1] := by cases args; simp_all
  obtain ⟨rfl, rfl⟩ := trodVars_none hV
  letI : Syms := noSyms
  obtain ⟨a, hv, _⟩ := rd_arg (l := [(0, 2), (1, 59), (2, 59), (3, 3)]) (by kernel_rfl) rdTbl h0 (hval 0 61 v0 rfl rfl)
  obtain ⟨b, hu, _⟩ := rd_arg (l := [(0, 2), (1, 59), (2, 59), (3, 3)]) (by kernel_rfl) rdTbl h1 (hval 1 61 v1 rfl rfl)
  refine (walk hv hu).mono fun e W' ⟨he, hg⟩ => ?_
  subst he
  exact ⟨_, rfl, post_law kids full hW' small rfl (by kernel_rfl) tyBool rfl rfl rfl hg⟩

theorem over : Rows.tableBytesRow.holds Try.pinned (OpenSpec.ofChange Rows.tableBytesSpec) :=
  OpenClaim.holds_of_wide 10 Try.f10 rfl rfl rfl rfl rfl rfl rfl ⟨rfl, rfl, rfl, rfl, rfl⟩ rfl rfl rfl rfl rfl (by kernel_rfl) Try.func10 (by kernel_rfl)
    (of_decide_eq_true (by kernel_rfl)) (by unfold Func.isWrapper; first | (rw [if_pos (by decide +kernel)]; kernel_rfl) | (rw [if_neg (by decide +kernel)]; exact ⟨rfl, rfl⟩))
    (fun os started H enc _ => lifted os started H enc)

theorem proved : Rows.TableBytesSaid :=
  over
#print axioms proved
end Go.Proofs.Ytjihnbjdclobgaa.tableBytes
