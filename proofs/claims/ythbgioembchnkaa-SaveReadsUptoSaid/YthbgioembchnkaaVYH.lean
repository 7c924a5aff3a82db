/- Functions that work on their caller's own rows. Conditions: none. -/
import Derived.Test.YthbgioembchnkaaVYS
import Derived.Test.YthbgioembchnkaaVM12
import Derived.KernelRfl
namespace Go.Proofs.Ythbgioembchnkaa.VS
set_option maxRecDepth 100000
set_option maxHeartbeats 4000000
open Go.Shelf Go.RowKit
theorem ap_slices_Insert_Row : InsP Try.prog ⟨fun x => bif Nat.beq x 29 then 69 else bif Nat.beq x 30 then 70 else x, fun x => bif Nat.beq x 24 then 22 else bif Nat.beq x 3 then 3 else bif Nat.beq x 4 then 4 else x, fun x => x⟩ 42 :=
  ⟨⟨Try.f42, Try.func42, by kernel_rfl, by kernel_rfl, by kernel_rfl, by kernel_rfl⟩, Try.checked.mixed, Try.underlying3, Try.underlying4, fun args v w h => by
    show (callFunc 69 args).run Try.prog w = _
    rw [run_callFunc_extern Try.func69 (by kernel_rfl) (by kernel_rfl) (by kernel_rfl) (e := Extern.SlicesOverlaps.overlaps #[22, 22] #[4]) (by kernel_rfl)]
    have h' : (Extern.SlicesOverlaps.overlaps #[22, 22] #[4] args).run Try.prog w = .ok v w := h
    simp only [h', Result.andThen_ok]⟩
noncomputable def H_slices_Insert_Row : Hook := insK tabs 22 .row
theorem h_slices_Insert_Row [Syms] : HookOne Try.prog 42 H_slices_Insert_Row := insK_ok tyokG (insH_ok1 tyokG ap_slices_Insert_Row rfl (fun args w => run_callFunc Try.func42 rfl (by kernel_rfl) args w))
theorem ap_slices_Grow_byte : GrowP Try.prog ⟨fun x => x, fun x => bif Nat.beq x 22 then 59 else bif Nat.beq x 3 then 3 else bif Nat.beq x 4 then 4 else x, fun x => x⟩ 86 := ⟨⟨Try.f86, Try.func86, by kernel_rfl, by kernel_rfl, by kernel_rfl, by kernel_rfl⟩, Try.checked.mixed, Try.underlying3, Try.underlying4⟩
noncomputable def H_slices_Grow_byte : Hook := growK tabs 59 .u8
theorem h_slices_Grow_byte [Syms] : HookOne Try.prog 86 H_slices_Grow_byte := growK_ok tyokG ap_slices_Grow_byte rfl (fun args w => run_callFunc Try.func86 rfl (by kernel_rfl) args w)
theorem ap_slices_Grow_Row : GrowP Try.prog ⟨fun x => x, fun x => bif Nat.beq x 22 then 22 else bif Nat.beq x 3 then 3 else bif Nat.beq x 4 then 4 else x, fun x => x⟩ 87 := ⟨⟨Try.f87, Try.func87, by kernel_rfl, by kernel_rfl, by kernel_rfl, by kernel_rfl⟩, Try.checked.mixed, Try.underlying3, Try.underlying4⟩
noncomputable def H_slices_Grow_Row : Hook := growK tabs 22 .row
theorem h_slices_Grow_Row [Syms] : HookOne Try.prog 87 H_slices_Grow_Row := growK_ok tyokG ap_slices_Grow_Row rfl (fun args w => run_callFunc Try.func87 rfl (by kernel_rfl) args w)
end Go.Proofs.Ythbgioembchnkaa.VS
