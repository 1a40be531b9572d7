/- A part of the proof of TableLengths: contracts of functions, or what these lean on. No condition. -/
import Derived.Test.YtlcplpapiikkpaaL1
import Derived.Test.YtlcplpapiikkpaaW6
namespace Go.V
open Go.Proofs
set_option maxRecDepth 8000
noncomputable def tb0 : Tbl := Tbl.none
theorem tb0_ok : Tb tb0 noG := Tbl.none_ok
noncomputable def tb1 : Tbl := tb0.add 56 g_table_between
theorem tb1_ok : Tb tb1 noG := Tbl.add_ok tb0_ok (impl_table_between tb0_ok )
noncomputable def tb2 : Tbl := tb1.add 22 g_table_Length
theorem tb2_ok : Tb tb2 noG := Tbl.add_ok tb1_ok (impl_table_Length tb1_ok (by rfl))
noncomputable def tb3 : Tbl := tb2.add 20 gTrue
theorem tb3_ok : Tb tb3 noG := Tbl.add_ok tb2_ok (impl_law06_wakes)
theorem law_law06_TableLengths : Impl Try.prog noG 7 g_law06_TableLengths := impl_law06_TableLengths tb3_ok (by rfl) (by rfl)
end Go.V
