/- Functions that work on their caller's own rows. Conditions: none. -/
import Derived.Test.YtkdcjfnmmmmocaaVYS
import Derived.Test.YtkdcjfnmmmmocaaVM12
import Derived.KernelRfl
namespace Go.Proofs.Ytkdcjfnmmmmocaa.VS
set_option maxRecDepth 100000
set_option maxHeartbeats 4000000
open Go.Shelf Go.RowKit
theorem ap_slices_Insert_Row : InsP Try.prog ⟨fun x => bif Nat.beq x 29 then 82 else bif Nat.beq x 30 then 83 else x, fun x => bif Nat.beq x 24 then 27 else bif Nat.beq x 3 then 3 else bif Nat.beq x 4 then 4 else x, fun x => x⟩ 53 :=
  ⟨⟨Try.f53, Try.func53, by kernel_rfl, by kernel_rfl, by kernel_rfl, by kernel_rfl⟩, Try.checked.mixed, Try.underlying3, Try.underlying4, fun args v w h => by
    show (callFunc 82 args).run Try.prog w = _
    rw [run_callFunc_extern Try.func82 (by kernel_rfl) (by kernel_rfl) (by kernel_rfl) (e := Extern.SlicesOverlaps.overlaps #[27, 27] #[4]) (by kernel_rfl)]
    have h' : (Extern.SlicesOverlaps.overlaps #[27, 27] #[4] args).run Try.prog w = .ok v w := h
    simp only [h', Result.andThen_ok]⟩
noncomputable def H_slices_Insert_Row : Hook := insK tabs 27 .row
theorem h_slices_Insert_Row [Syms] : HookOne Try.prog 53 H_slices_Insert_Row := insK_ok tyokG (insH_ok1 tyokG ap_slices_Insert_Row rfl (fun args w => run_callFunc Try.func53 rfl (by kernel_rfl) args w))
theorem ap_slices_Grow_byte : GrowP Try.prog ⟨fun x => x, fun x => bif Nat.beq x 22 then 65 else bif Nat.beq x 3 then 3 else bif Nat.beq x 4 then 4 else x, fun x => x⟩ 94 := ⟨⟨Try.f94, Try.func94, by kernel_rfl, by kernel_rfl, by kernel_rfl, by kernel_rfl⟩, Try.checked.mixed, Try.underlying3, Try.underlying4⟩
noncomputable def H_slices_Grow_byte : Hook := growK tabs 65 .u8
theorem h_slices_Grow_byte [Syms] : HookOne Try.prog 94 H_slices_Grow_byte := growK_ok tyokG ap_slices_Grow_byte rfl (fun args w => run_callFunc Try.func94 rfl (by kernel_rfl) args w)
theorem ap_slices_Grow_Row : GrowP Try.prog ⟨fun x => x, fun x => bif Nat.beq x 22 then 27 else bif Nat.beq x 3 then 3 else bif Nat.beq x 4 then 4 else x, fun x => x⟩ 95 := ⟨⟨Try.f95, Try.func95, by kernel_rfl, by kernel_rfl, by kernel_rfl, by kernel_rfl⟩, Try.checked.mixed, Try.underlying3, Try.underlying4⟩
noncomputable def H_slices_Grow_Row : Hook := growK tabs 27 .row
theorem h_slices_Grow_Row [Syms] : HookOne Try.prog 95 H_slices_Grow_Row := growK_ok tyokG ap_slices_Grow_Row rfl (fun args w => run_callFunc Try.func95 rfl (by kernel_rfl) args w)
end Go.Proofs.Ytkdcjfnmmmmocaa.VS
