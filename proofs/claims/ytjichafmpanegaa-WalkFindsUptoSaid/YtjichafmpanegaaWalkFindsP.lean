/- The law WalkFinds is told by trees of an abstract machine that is proved sound for the program: it answers true, and all that was there is as it was, where what it reads is of the bulk that the row names. Conditions: none but the row's own. -/
import Derived.Test.YtjichafmpanegaaRows
import Derived.WalkKit
import Derived.ProofKit
import Derived.OpenShut
import Derived.JoinedCond
import Derived.Test.YtjichafmpanegaaPV3
import Derived.Test.YtjichafmpanegaaVZ5
namespace Go.Proofs.Ytjichafmpanegaa.walkFinds
open Go.ChangeShapes Go.WideShapes Go.ChangeAt Go.RowKit
set_option linter.unusedVariables false
set_option linter.unusedSimpArgs false

theorem own : ownKnob Try.prog.godebug = none := by kernel_rfl

open VS

theorem kids : Kids Try.prog (· < Try.prog.types.size) := kids_rows (by kernel_rfl) (by kernel_rfl)
theorem full : ∀ t e, t < Try.prog.types.size → Try.prog.underlying t = some (.slice e) → 0 < Try.prog.cellsOf e := slices_full_of Try.prog (by kernel_rfl)
theorem ps : Try.f4.params.toList = [30, 44] := by kernel_rfl
theorem small : ∀ t ∈ Try.f4.params.toList, t < Try.prog.types.size := by
  rw [ps]
  have h : ([30, 44].all fun t => t.blt Try.prog.types.size) = true := by kernel_rfl
  exact fun t ht => by simpa using List.all_eq_true.1 h t ht
theorem tyBool : Try.prog.underlying 4 = some .bool := by kernel_rfl
section
variable [Syms] {H : Type} {enc : TypeId × Value → H} {W : World} {sp : Nat → Bool}
theorem rT3 : RdW enc Try.prog W sp 1 (fun n : Int => [.int .i64 n]) wI 3 := rw_int (k := .i64) (by kernel_rfl) (by kernel_rfl)
theorem rT22 : RdW enc Try.prog W sp 1 (fun l : List Int => [.tl .int l]) (wL wI) 22 := rw_slice (g := .int) (by kernel_rfl) (by kernel_rfl) rT3
theorem rT24 : RdW enc Try.prog W sp 2 (SC.cs .cnf) wCnf 24 := rw_cnf (by kernel_rfl) (by kernel_rfl) rT22 rT3
theorem rT2 : RdW enc Try.prog W sp 1 (fun n : Int => [.int .i64 n]) wI 2 := rw_int (k := .i64) (by kernel_rfl) (by kernel_rfl)
theorem rT5 : RdW enc Try.prog W sp 1 (fun b : UInt8 => [.int .u8 b.toNat]) wB 5 := rw_u8 (by kernel_rfl) (by kernel_rfl)
theorem rT31 : RdW enc Try.prog W sp 1 (fun l : List UInt8 => [.tl .u8 l]) (wL wB) 31 := rw_slice (g := .u8) (by kernel_rfl) (by kernel_rfl) rT5
theorem rT148 : RdW enc Try.prog W sp 2 (SC.cs .blk) wBlk 148 := rw_blk (by kernel_rfl) (by kernel_rfl) rT3 rT31
theorem rT57 : RdW enc Try.prog W sp 1 (fun l : List Blk => [.tl .blk l]) (wL wBlk) 57 := rw_slice (g := .blk) (by kernel_rfl) (by kernel_rfl) rT148
theorem rT59 : RdW enc Try.prog W sp 2 (SC.cs .fil) wFil 59 := rw_fil (by kernel_rfl) (by kernel_rfl) rT3 rT57
theorem rT9 : RdW enc Try.prog W sp 1 (fun s : Str => [.str s]) wS 9 := rw_str (by kernel_rfl) (by kernel_rfl)
theorem rT100 : RdW enc Try.prog W sp 2 (SC.cs .nam) wNam 100 := rw_nam (by kernel_rfl) (by kernel_rfl) rT9 rT2
theorem rT60 : RdW enc Try.prog W sp 1 (fun l : List Nam => [.tl .nam l]) (wL wNam) 60 := rw_slice (g := .nam) (by kernel_rfl) (by kernel_rfl) rT100
theorem rT62 : RdW enc Try.prog W sp 8 (SC.cs .nod) wNod 62 := rw_nod (by kernel_rfl) (by kernel_rfl) rT2 rT3 rT59 rT9 rT60
theorem rT35 : RdW enc Try.prog W sp 1 (fun l : List Nod => [.tl .nod l]) (wL wNod) 35 := rw_slice (g := .nod) (by kernel_rfl) (by kernel_rfl) rT62
theorem rT37 : RdW enc Try.prog W sp 4 (SC.cs .dsk) wDsk 37 := rw_dsk (by kernel_rfl) (by kernel_rfl) rT2 rT3 rT35
theorem rT25 : RdW enc Try.prog W sp 1 (fun l : List Dsk => [.tl .dsk l]) (wL wDsk) 25 := rw_slice (g := .dsk) (by kernel_rfl) (by kernel_rfl) rT37
theorem rT55 : RdW enc Try.prog W sp 2 (SC.cs .spt) wSpt 55 := rw_spt (by kernel_rfl) (by kernel_rfl) rT3 rT2
theorem rT179 : RdW enc Try.prog W sp 3 (SC.cs .row) wRwo 179 := rw_row (by kernel_rfl) (by kernel_rfl) rT55 rT2
theorem rT26 : RdW enc Try.prog W sp 1 (fun l : List Rwo => [.tl .row l]) (wL wRwo) 26 := rw_slice (g := .row) (by kernel_rfl) (by kernel_rfl) rT179
theorem rT28 : RdW enc Try.prog W sp 4 (SC.cs .tbl) wTbl 28 := rw_tbl (by kernel_rfl) (by kernel_rfl) rT2 rT26 rT3
theorem rT30 : RdW enc Try.prog W sp 7 (SC.cs .wld) wWld 30 := rw_wld (by kernel_rfl) (by kernel_rfl) rT24 rT25 rT28
theorem rT44 : RdW enc Try.prog W sp 1 (fun l : List Str => [.tl .str l]) (wL wS) 44 := rw_slice (g := .str) (by kernel_rfl) (by kernel_rfl) rT9
end

theorem enters (args : Array Value) (w : World) : (callFunc 4 args).run Try.prog w = .ok (.enter 4 args) w := run_callFunc Try.func4 rfl (by kernel_rfl) args w

theorem walk [Syms] {W : World} {y0 : Wld} {y1 : (List Str)} {v0 v1 : Value} (h0 : VR (fun _ => True) W.heap noMap (.agg (SC.cs .wld y0)) v0) (h1 : VR (fun _ => True) W.heap noMap (.tl .str y1) v1) (hb : wWld y0 + ((wL wS) y1 + 0) ≤ 1048576) : Calls Try.prog 4 #[v0, v1] W fun e w' => e = .returned (.bool true) ∧ Kept W w' :=
  law_T (S := S_law12_WalkFinds) tyokG o_law12_WalkFinds Try.checked.mixed ⟨Try.func4, by kernel_rfl, by kernel_rfl⟩ c_law12_WalkFinds (x := (y0, y1)) (lawW_WalkFinds y0 y1 hb) (args := [.agg (SC.cs .wld y0), .tl .str y1]) rfl trivial (cr_cons rfl h0 (cr_cons rfl h1 cr_nil)) rfl (enters _ W)

set_option maxRecDepth 100000 in
theorem lifted (os : Os) (started : os.Started) (H : Type) (enc : TypeId × Value → H) (F : Stop.Interp) :
    ReturnsInHanded {} Try.checked os 4 .any ((Rows.OpenSpec.upto Rows.walkFindsSpec).pre6 enc Try.prog Try.f4 Rows.walkFindsUptoRow.domain false) (((Rows.OpenSpec.upto Rows.walkFindsSpec).at F).post enc Try.prog Try.f4 false true false false) := by
  refine returnsInHanded_of_cond (C := Try.checked) (s := Rows.OpenSpec.upto Rows.walkFindsSpec) (k := Rows.uptoSmall) rfl own started (by kernel_rfl) Try.func4
    (OpenSpec.witness (enc := enc) (C := Try.checked) (s := Rows.OpenSpec.upto Rows.walkFindsSpec) (k := Rows.uptoSmall) rfl false ⟨#[], #[.agg #[.slice none 0 0, .int .i64 0, .slice none 0 0, .int .i64 0, .slice none 0 0, .slice none 0 0, .int .i64 0], .slice none 0 0], []⟩ 8 (by kernel_rfl) (by kernel_rfl) (by kernel_rfl)
      (x := ([.agg [.agg [.nil, .lit (.int .i64 0)], .nil, .agg [.lit (.int .i64 0), .nil, .nil, .lit (.int .i64 0)]], .nil], [], [])) (by kernel_rfl) rfl (by kernel_rfl)) ?_
  intro W base args ds gs before hval0 hW hcnd hk _
  have hval : ∀ (j : Nat) t v, Try.f4.params[j]? = some t → args[j]? = some v → Value.okWide Try.prog W .any base t v := hval0
  have hW' := hW
  obtain ⟨p, q, hA0, hV, rfl, hfz, hnd⟩ := hW
  have hA : DataW.TrodAll enc Try.prog W 0 (fun _ => true) true Try.f4.params.toList args.toList ds p := hA0
  rw [ps] at hA
  obtain ⟨v0, vs0, d0, ds0, p0, q0, hargs, rfl, rfl, h0, r0⟩ := trodAll_cons hA
  obtain ⟨v1, vs1, d1, ds1, p1, q1, rfl, rfl, rfl, h1, r1⟩ := trodAll_cons r0
  obtain ⟨rfl, rfl, rfl⟩ := trodAll_nil r1
  obtain rfl : args = #[v0, v1] := by cases args; simp_all
  obtain ⟨rfl, rfl⟩ := trodVars_none hV
  letI : Syms := noSyms
  obtain ⟨y0, hv0, hw0⟩ := rw_arg (l := [(0, 24), (2, 25), (3, 28)]) (by kernel_rfl) rT30 h0 (hval 0 30 v0 rfl rfl)
  obtain ⟨y1, hv1, hw1⟩ := rw_one rT44 h1 (slice_cells (e := 9) (by kernel_rfl) (hval 1 44 v1 rfl rfl))
  have hk : Rows.uptoBulkAll ([d0, d1] ++ ([] : List (DataW H))) ≤ 1048576 := of_decide_eq_true hk
  simp only [List.append_nil, List.cons_append, List.nil_append, Rows.uptoBulkAll] at hk
  refine (walk hv0 hv1 (by omega)).mono fun e W' ⟨he, hg⟩ => ?_
  subst he
  exact ⟨_, rfl, post_law kids full hW' small rfl (by kernel_rfl) tyBool rfl rfl rfl hg⟩

theorem over : Rows.walkFindsUptoRow.holds Try.pinned (Rows.OpenSpec.upto Rows.walkFindsSpec) :=
  OpenClaim.holds_of_cond 4 Try.f4 rfl rfl rfl rfl rfl rfl rfl ⟨rfl, rfl, rfl, rfl, rfl⟩ rfl rfl rfl rfl rfl (by kernel_rfl) Try.func4 (by kernel_rfl)
    (of_decide_eq_true (by kernel_rfl)) (by unfold Func.isWrapper; first | (rw [if_pos (by decide +kernel)]; kernel_rfl) | (rw [if_neg (by decide +kernel)]; exact ⟨rfl, rfl⟩))
    (fun os started H enc _ F => lifted os started H enc F)

theorem proved : Rows.WalkFindsUptoSaid :=
  over
#print axioms proved
end Go.Proofs.Ytjichafmpanegaa.walkFinds
