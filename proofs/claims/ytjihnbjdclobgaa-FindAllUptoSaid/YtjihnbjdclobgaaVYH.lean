/- Functions that work on their caller's own rows. Conditions: none. -/
import Derived.Test.YtjihnbjdclobgaaVYS
import Derived.Test.YtjihnbjdclobgaaVM11
import Derived.KernelRfl
namespace Go.Proofs.Ytjihnbjdclobgaa.VS
set_option maxRecDepth 100000
set_option maxHeartbeats 4000000
open Go.Shelf Go.RowKit
theorem ap_slices_Grow_byte : GrowP Try.prog ⟨fun x => x, fun x => bif Nat.beq x 22 then 52 else bif Nat.beq x 3 then 3 else bif Nat.beq x 4 then 4 else x, fun x => x⟩ 86 := ⟨⟨Try.f86, Try.func86, by kernel_rfl, by kernel_rfl, by kernel_rfl, by kernel_rfl⟩, Try.checked.mixed, Try.underlying3, Try.underlying4⟩
noncomputable def H_slices_Grow_byte : Hook := growK tabs 52 .u8
theorem h_slices_Grow_byte [Syms] : HookOne Try.prog 86 H_slices_Grow_byte := growK_ok tyokG ap_slices_Grow_byte rfl (fun args w => run_callFunc Try.func86 rfl (by kernel_rfl) args w)
theorem ap_slices_Grow_Row : GrowP Try.prog ⟨fun x => x, fun x => bif Nat.beq x 22 then 59 else bif Nat.beq x 3 then 3 else bif Nat.beq x 4 then 4 else x, fun x => x⟩ 87 := ⟨⟨Try.f87, Try.func87, by kernel_rfl, by kernel_rfl, by kernel_rfl, by kernel_rfl⟩, Try.checked.mixed, Try.underlying3, Try.underlying4⟩
noncomputable def H_slices_Grow_Row : Hook := growK tabs 59 .row
theorem h_slices_Grow_Row [Syms] : HookOne Try.prog 87 H_slices_Grow_Row := growK_ok tyokG ap_slices_Grow_Row rfl (fun args w => run_callFunc Try.func87 rfl (by kernel_rfl) args w)
end Go.Proofs.Ytjihnbjdclobgaa.VS
