/- A part of the proof of SegmentWhole: contracts of functions, or what these lean on. No condition. -/
import Derived.Test.YtldoffdakikaeaaDoorB4
import Derived.Test.YtldoffdakikaeaaDoorVMp
namespace Go.V
open Go.Proofs
set_option maxRecDepth 8000
set_option linter.unusedSimpArgs false
set_option linter.unusedVariables false
def gD : Nat → Option (List PV) := fun g => if g = 0 then some leadsC else none
noncomputable def keepsD : FuncId → Nat → List Tmp := fun f i => (((Tryd.prog.funcs[f]?).map (·.ntmps)).getD 0) :: keeps f i
def baseD : FuncId → Option (List PV → Option (PV × List PV)) := fun f => none
theorem baseD_ok {G : Nat → Option (List PV)} : ∀ f g, baseD f = some g → Impl Tryd.prog G f g := by
  intro f g h; cases h
theorem evD_ok {G : Nat → Option (List PV)} : ∀ f, Impl Tryd.prog G f (evt baseD Tryd.prog G [0] keepsD 60 f) := evt_ok mixed baseD_ok 60
theorem wakes9 : saysTrue (evt baseD Tryd.prog gD [0] keepsD 60 29 []) = true := by decide +kernel
theorem impl_law09_wakes : Impl Tryd.prog gD 29 gTrue := impl_true (evD_ok 29) wakes9

end Go.V
