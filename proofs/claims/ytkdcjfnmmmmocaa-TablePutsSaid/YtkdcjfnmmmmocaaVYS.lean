/- The seat's words: which types are which data. Conditions: none. -/
import Derived.Test.YtkdcjfnmmmmocaaVM12
import Derived.Test.YtkdcjfnmmmmocaaVSTabs
import Derived.Test.YtkdcjfnmmmmocaaChecked
namespace Go.Proofs.Ytkdcjfnmmmmocaa.VS
noncomputable def gtT : Tr GT := (.nd none (.nd none (.nd (some .int) (.nd none (.nd none (.nd none .nil (.nd (some .nam) .nil .nil)) (.nd none (.nd (some .row) .nil .nil) .nil)) .nil) (.nd none .nil (.nd (some .rss) .nil .nil))) (.nd (some .u8) (.nd none (.nd none (.nd none (.nd (some .bss) .nil .nil) .nil) .nil) .nil) .nil)) (.nd (some .int) (.nd none (.nd none .nil (.nd (some .dsk) .nil (.nd (some .nod) .nil .nil))) .nil) (.nd none .nil (.nd none (.nd none .nil (.nd none .nil (.nd (some .blk) .nil .nil))) .nil))))
noncomputable def gtS (t : TypeId) : Option GT := gtT.get t
theorem tyokG : TyOK Try.prog tabs := tyOK_of tabs_ty
theorem fnokG : FnOK Try.prog tabs := fnOK_of tabs_fn
noncomputable def sClone : SE := { T := tabs, con := conOf [], own := fun _ => false, gt := gtS, loop := lpOf [] }
theorem clone_ok [Syms] : ConOK Try.prog sClone := conOK_of consOK_nil rfl
end Go.Proofs.Ytkdcjfnmmmmocaa.VS
