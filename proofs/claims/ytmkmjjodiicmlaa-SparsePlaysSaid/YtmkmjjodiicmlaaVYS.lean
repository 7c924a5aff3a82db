/- The seat's words: which types are which data. Conditions: none. -/
import Derived.Test.YtmkmjjodiicmlaaVM13
import Derived.Test.YtmkmjjodiicmlaaVSTabs
import Derived.Test.YtmkmjjodiicmlaaChecked
namespace Go.Proofs.Ytmkmjjodiicmlaa.VS
noncomputable def gtT : Tr GT := (.nd none (.nd none (.nd none .nil (.nd none .nil (.nd none (.nd (some .dsk) .nil .nil) .nil))) (.nd (some .u8) .nil .nil)) (.nd (some .int) (.nd none (.nd none .nil (.nd none .nil (.nd none .nil (.nd (some .nam) .nil .nil)))) (.nd none (.nd none (.nd (some .akt) .nil .nil) (.nd (some .nod) .nil .nil)) .nil)) (.nd none .nil (.nd none .nil (.nd none (.nd (some .blk) .nil .nil) .nil)))))
noncomputable def gtS (t : TypeId) : Option GT := gtT.get t
theorem tyokG : TyOK Try.prog tabs := tyOK_of tabs_ty
theorem fnokG : FnOK Try.prog tabs := fnOK_of tabs_fn
noncomputable def sClone : SE := { T := tabs, con := conOf [], own := fun _ => false, gt := gtS, loop := lpOf [] }
theorem clone_ok [Syms] : ConOK Try.prog sClone := conOK_of consOK_nil rfl
end Go.Proofs.Ytmkmjjodiicmlaa.VS
