/- Functions that work on their caller's own rows. Conditions: none. -/
import Derived.Test.YtmkmjjodiicmlaaVYS
import Derived.Test.YtmkmjjodiicmlaaVM13
import Derived.KernelRfl
namespace Go.Proofs.Ytmkmjjodiicmlaa.VS
set_option maxRecDepth 100000
set_option maxHeartbeats 4000000
open Go.Shelf Go.RowKit
theorem ap_slices_Insert_Node : InsP Try.prog ⟨fun x => bif Nat.beq x 29 then 112 else bif Nat.beq x 30 then 113 else x, fun x => bif Nat.beq x 24 then 41 else bif Nat.beq x 3 then 3 else bif Nat.beq x 4 then 4 else x, fun x => x⟩ 84 :=
  ⟨⟨Try.f84, Try.func84, by kernel_rfl, by kernel_rfl, by kernel_rfl, by kernel_rfl⟩, Try.checked.mixed, Try.underlying3, Try.underlying4, fun args v w h => by
    show (callFunc 112 args).run Try.prog w = _
    rw [run_callFunc_extern Try.func112 (by kernel_rfl) (by kernel_rfl) (by kernel_rfl) (e := Extern.SlicesOverlaps.overlaps #[41, 41] #[4]) (by kernel_rfl)]
    have h' : (Extern.SlicesOverlaps.overlaps #[41, 41] #[4] args).run Try.prog w = .ok v w := h
    simp only [h', Result.andThen_ok]⟩
noncomputable def H_slices_Insert_Node : Hook := insK tabs 41 .nod
theorem h_slices_Insert_Node [Syms] : HookOne Try.prog 84 H_slices_Insert_Node := insK_ok tyokG (insH_ok1 tyokG ap_slices_Insert_Node rfl (fun args w => run_callFunc Try.func84 rfl (by kernel_rfl) args w))
theorem ap_slices_Delete_Node : DelP Try.prog ⟨fun x => x, fun x => bif Nat.beq x 24 then 41 else bif Nat.beq x 3 then 3 else bif Nat.beq x 4 then 4 else x, fun x => x⟩ 85 := ⟨⟨Try.f85, Try.func85, by kernel_rfl, by kernel_rfl, by kernel_rfl, by kernel_rfl⟩, Try.checked.mixed, Try.underlying3, Try.underlying4⟩
noncomputable def H_slices_Delete_Node : Hook := delK tabs 41 .nod
theorem h_slices_Delete_Node [Syms] : HookOne Try.prog 85 H_slices_Delete_Node := delK_ok (delH_ok1 tyokG ap_slices_Delete_Node rfl (fun args w => run_callFunc Try.func85 rfl (by kernel_rfl) args w))
theorem ap_slices_Insert_Block : InsP Try.prog ⟨fun x => bif Nat.beq x 29 then 115 else bif Nat.beq x 30 then 116 else x, fun x => bif Nat.beq x 24 then 23 else bif Nat.beq x 3 then 3 else bif Nat.beq x 4 then 4 else x, fun x => x⟩ 91 :=
  ⟨⟨Try.f91, Try.func91, by kernel_rfl, by kernel_rfl, by kernel_rfl, by kernel_rfl⟩, Try.checked.mixed, Try.underlying3, Try.underlying4, fun args v w h => by
    show (callFunc 115 args).run Try.prog w = _
    rw [run_callFunc_extern Try.func115 (by kernel_rfl) (by kernel_rfl) (by kernel_rfl) (e := Extern.SlicesOverlaps.overlaps #[23, 23] #[4]) (by kernel_rfl)]
    have h' : (Extern.SlicesOverlaps.overlaps #[23, 23] #[4] args).run Try.prog w = .ok v w := h
    simp only [h', Result.andThen_ok]⟩
noncomputable def H_slices_Insert_Block : Hook := insK tabs 23 .blk
theorem h_slices_Insert_Block [Syms] : HookOne Try.prog 91 H_slices_Insert_Block := insK_ok tyokG (insH_ok1 tyokG ap_slices_Insert_Block rfl (fun args w => run_callFunc Try.func91 rfl (by kernel_rfl) args w))
theorem ap_slices_Insert_Name : InsP Try.prog ⟨fun x => bif Nat.beq x 29 then 121 else bif Nat.beq x 30 then 122 else x, fun x => bif Nat.beq x 24 then 50 else bif Nat.beq x 3 then 3 else bif Nat.beq x 4 then 4 else x, fun x => x⟩ 95 :=
  ⟨⟨Try.f95, Try.func95, by kernel_rfl, by kernel_rfl, by kernel_rfl, by kernel_rfl⟩, Try.checked.mixed, Try.underlying3, Try.underlying4, fun args v w h => by
    show (callFunc 121 args).run Try.prog w = _
    rw [run_callFunc_extern Try.func121 (by kernel_rfl) (by kernel_rfl) (by kernel_rfl) (e := Extern.SlicesOverlaps.overlaps #[50, 50] #[4]) (by kernel_rfl)]
    have h' : (Extern.SlicesOverlaps.overlaps #[50, 50] #[4] args).run Try.prog w = .ok v w := h
    simp only [h', Result.andThen_ok]⟩
noncomputable def H_slices_Insert_Name : Hook := insK tabs 50 .nam
theorem h_slices_Insert_Name [Syms] : HookOne Try.prog 95 H_slices_Insert_Name := insK_ok tyokG (insH_ok1 tyokG ap_slices_Insert_Name rfl (fun args w => run_callFunc Try.func95 rfl (by kernel_rfl) args w))
theorem ap_slices_Delete_Name : DelP Try.prog ⟨fun x => x, fun x => bif Nat.beq x 24 then 50 else bif Nat.beq x 3 then 3 else bif Nat.beq x 4 then 4 else x, fun x => x⟩ 120 := ⟨⟨Try.f120, Try.func120, by kernel_rfl, by kernel_rfl, by kernel_rfl, by kernel_rfl⟩, Try.checked.mixed, Try.underlying3, Try.underlying4⟩
noncomputable def H_slices_Delete_Name : Hook := delK tabs 50 .nam
theorem h_slices_Delete_Name [Syms] : HookOne Try.prog 120 H_slices_Delete_Name := delK_ok (delH_ok1 tyokG ap_slices_Delete_Name rfl (fun args w => run_callFunc Try.func120 rfl (by kernel_rfl) args w))
end Go.Proofs.Ytmkmjjodiicmlaa.VS
