/- The law DiskSame is told by trees of an abstract machine that is proved sound for the program: it answers true, and all that was there is as it was, where what it reads is of the bulk that the row names. Conditions: none but the row's own. -/
import Derived.Test.YtmkmjjodiicmlaaRows
import Derived.WalkKit
import Derived.ProofKit
import Derived.OpenShut
import Derived.JoinedCond
import Derived.Test.YtmkmjjodiicmlaaPE2
import Derived.Test.YtmkmjjodiicmlaaVZ5
namespace Go.Proofs.Ytmkmjjodiicmlaa.diskSame
open Go.ChangeShapes Go.WideShapes Go.ChangeAt Go.RowKit
set_option linter.unusedVariables false
set_option linter.unusedSimpArgs false

theorem own : ownKnob Try.prog.godebug = none := by kernel_rfl

open VS

theorem kids : Kids Try.prog (· < Try.prog.types.size) := kids_rows (by kernel_rfl) (by kernel_rfl)
theorem full : ∀ t e, t < Try.prog.types.size → Try.prog.underlying t = some (.slice e) → 0 < Try.prog.cellsOf e := slices_full_of Try.prog (by kernel_rfl)
theorem ps : Try.f10.params.toList = [43, 43] := by kernel_rfl
theorem small : ∀ t ∈ Try.f10.params.toList, t < Try.prog.types.size := by
  rw [ps]
  have h : ([43, 43].all fun t => t.blt Try.prog.types.size) = true := by kernel_rfl
  exact fun t ht => by simpa using List.all_eq_true.1 h t ht
theorem tyBool : Try.prog.underlying 4 = some .bool := by kernel_rfl
section
variable [Syms] {H : Type} {enc : TypeId × Value → H} {W : World} {sp : Nat → Bool}
theorem rT3 : RdW enc Try.prog W sp 1 (fun n : Int => [.int .i64 n]) wI 3 := rw_int (k := .i64) (by kernel_rfl) (by kernel_rfl)
theorem rT2 : RdW enc Try.prog W sp 1 (fun n : Int => [.int .i64 n]) wI 2 := rw_int (k := .i64) (by kernel_rfl) (by kernel_rfl)
theorem rT5 : RdW enc Try.prog W sp 1 (fun b : UInt8 => [.int .u8 b.toNat]) wB 5 := rw_u8 (by kernel_rfl) (by kernel_rfl)
theorem rT22 : RdW enc Try.prog W sp 1 (fun l : List UInt8 => [.tl .u8 l]) (wL wB) 22 := rw_slice (g := .u8) (by kernel_rfl) (by kernel_rfl) rT5
theorem rT46 : RdW enc Try.prog W sp 2 (SC.cs .blk) wBlk 46 := rw_blk (by kernel_rfl) (by kernel_rfl) rT3 rT22
theorem rT23 : RdW enc Try.prog W sp 1 (fun l : List Blk => [.tl .blk l]) (wL wBlk) 23 := rw_slice (g := .blk) (by kernel_rfl) (by kernel_rfl) rT46
theorem rT25 : RdW enc Try.prog W sp 2 (SC.cs .fil) wFil 25 := rw_fil (by kernel_rfl) (by kernel_rfl) rT3 rT23
theorem rT9 : RdW enc Try.prog W sp 1 (fun s : Str => [.str s]) wS 9 := rw_str (by kernel_rfl) (by kernel_rfl)
theorem rT120 : RdW enc Try.prog W sp 2 (SC.cs .nam) wNam 120 := rw_nam (by kernel_rfl) (by kernel_rfl) rT9 rT2
theorem rT50 : RdW enc Try.prog W sp 1 (fun l : List Nam => [.tl .nam l]) (wL wNam) 50 := rw_slice (g := .nam) (by kernel_rfl) (by kernel_rfl) rT120
theorem rT52 : RdW enc Try.prog W sp 8 (SC.cs .nod) wNod 52 := rw_nod (by kernel_rfl) (by kernel_rfl) rT2 rT3 rT25 rT9 rT50
theorem rT41 : RdW enc Try.prog W sp 1 (fun l : List Nod => [.tl .nod l]) (wL wNod) 41 := rw_slice (g := .nod) (by kernel_rfl) (by kernel_rfl) rT52
theorem rT43 : RdW enc Try.prog W sp 4 (SC.cs .dsk) wDsk 43 := rw_dsk (by kernel_rfl) (by kernel_rfl) rT2 rT3 rT41
end

theorem enters (args : Array Value) (w : World) : (callFunc 10 args).run Try.prog w = .ok (.enter 10 args) w := run_callFunc Try.func10 rfl (by kernel_rfl) args w

theorem walk [Syms] {W : World} {y0 : Dsk} {y1 : Dsk} {v0 v1 : Value} (h0 : VR (fun _ => True) W.heap noMap (.agg (SC.cs .dsk y0)) v0) (h1 : VR (fun _ => True) W.heap noMap (.agg (SC.cs .dsk y1)) v1) (hb : wDsk y0 + (wDsk y1 + 0) ≤ 1048576) : Calls Try.prog 10 #[v0, v1] W fun e w' => e = .returned (.bool true) ∧ Kept W w' :=
  law_T (S := S_law3_DiskSame) tyokG o_law3_DiskSame Try.checked.mixed ⟨Try.func10, by kernel_rfl, by kernel_rfl⟩ c_law3_DiskSame (x := (y0, y1)) (lawW_DiskSame y0 y1 hb) (args := [.agg (SC.cs .dsk y0), .agg (SC.cs .dsk y1)]) rfl trivial (cr_cons rfl h0 (cr_cons rfl h1 cr_nil)) rfl (enters _ W)

set_option maxRecDepth 100000 in
theorem lifted (os : Os) (started : os.Started) (H : Type) (enc : TypeId × Value → H) (F : Stop.Interp) :
    ReturnsInHanded {} Try.checked os 10 .any ((Rows.OpenSpec.upto Rows.diskSameSpec).pre6 enc Try.prog Try.f10 Rows.diskSameUptoRow.domain false) (((Rows.OpenSpec.upto Rows.diskSameSpec).at F).post enc Try.prog Try.f10 false true false false) := by
  refine returnsInHanded_of_cond (C := Try.checked) (s := Rows.OpenSpec.upto Rows.diskSameSpec) (k := Rows.uptoSmall) rfl own started (by kernel_rfl) Try.func10
    (OpenSpec.witness (enc := enc) (C := Try.checked) (s := Rows.OpenSpec.upto Rows.diskSameSpec) (k := Rows.uptoSmall) rfl false ⟨#[], #[.agg #[.int .i64 0, .int .i64 0, .int .i64 0, .slice none 0 0], .agg #[.int .i64 0, .int .i64 0, .int .i64 0, .slice none 0 0]], []⟩ 8 (by kernel_rfl) (by kernel_rfl) (by kernel_rfl)
      (x := ([.agg [.lit (.int .i64 0), .lit (.int .i64 0), .lit (.int .i64 0), .nil], .agg [.lit (.int .i64 0), .lit (.int .i64 0), .lit (.int .i64 0), .nil]], [], [])) (by kernel_rfl) rfl (by kernel_rfl)) ?_
  intro W base args ds gs before hval0 hW hcnd hk _
  have hval : ∀ (j : Nat) t v, Try.f10.params[j]? = some t → args[j]? = some v → Value.okWide Try.prog W .any base t v := hval0
  have hW' := hW
  obtain ⟨p, q, hA0, hV, rfl, hfz, hnd⟩ := hW
  have hA : DataW.TrodAll enc Try.prog W 0 (fun _ => true) true Try.f10.params.toList args.toList ds p := hA0
  rw [ps] at hA
  obtain ⟨v0, vs0, d0, ds0, p0, q0, hargs, rfl, rfl, h0, r0⟩ := trodAll_cons hA
  obtain ⟨v1, vs1, d1, ds1, p1, q1, rfl, rfl, rfl, h1, r1⟩ := trodAll_cons r0
  obtain ⟨rfl, rfl, rfl⟩ := trodAll_nil r1
  obtain rfl : args = #[v0, v1] := by cases args; simp_all
  obtain ⟨rfl, rfl⟩ := trodVars_none hV
  letI : Syms := noSyms
  obtain ⟨y0, hv0, hw0⟩ := rw_arg (l := [(0, 3), (1, 3), (2, 2), (3, 41)]) (by kernel_rfl) rT43 h0 (hval 0 43 v0 rfl rfl)
  obtain ⟨y1, hv1, hw1⟩ := rw_arg (l := [(0, 3), (1, 3), (2, 2), (3, 41)]) (by kernel_rfl) rT43 h1 (hval 1 43 v1 rfl rfl)
  have hk : Rows.uptoBulkAll ([d0, d1] ++ ([] : List (DataW H))) ≤ 1048576 := of_decide_eq_true hk
  simp only [List.append_nil, List.cons_append, List.nil_append, Rows.uptoBulkAll] at hk
  refine (walk hv0 hv1 (by omega)).mono fun e W' ⟨he, hg⟩ => ?_
  subst he
  exact ⟨_, rfl, post_law kids full hW' small rfl (by kernel_rfl) tyBool rfl rfl rfl hg⟩

theorem over : Rows.diskSameUptoRow.holds Try.pinned (Rows.OpenSpec.upto Rows.diskSameSpec) :=
  OpenClaim.holds_of_cond 10 Try.f10 rfl rfl rfl rfl rfl rfl rfl ⟨rfl, rfl, rfl, rfl, rfl⟩ rfl rfl rfl rfl rfl (by kernel_rfl) Try.func10 (by kernel_rfl)
    (of_decide_eq_true (by kernel_rfl)) (by unfold Func.isWrapper; first | (rw [if_pos (by decide +kernel)]; kernel_rfl) | (rw [if_neg (by decide +kernel)]; exact ⟨rfl, rfl⟩))
    (fun os started H enc _ F => lifted os started H enc F)

theorem proved : Rows.DiskSameUptoSaid :=
  over
#print axioms proved
end Go.Proofs.Ytmkmjjodiicmlaa.diskSame
