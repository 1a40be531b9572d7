/- A part of this seat's proofs: contracts of functions, or what these lean on. No condition. -/
import Derived.Test.YthbmifpfhdlicaaW6
namespace Go.V
open Go.Proofs
set_option maxRecDepth 8000
set_option linter.unusedSimpArgs false
set_option linter.unusedVariables false
theorem wakes8 : saysTrue (evt base6 Try.prog noG [] keeps 60 41 []) = true := by decide +kernel
theorem impl_law08_wakes : Impl Try.prog noG 41 gTrue := impl_true (ev6_ok 41) wakes8

end Go.V
