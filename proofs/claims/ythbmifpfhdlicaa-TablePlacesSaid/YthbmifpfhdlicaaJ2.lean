/- A part of the proof of TablePlaces: contracts of functions, or what these lean on. No condition. -/
import Derived.Test.YthbmifpfhdlicaaW6
import Derived.Test.YthbmifpfhdlicaaL2
import Derived.Test.YthbmifpfhdlicaaA11
import Derived.Test.YthbmifpfhdlicaaA12
import Derived.Test.YthbmifpfhdlicaaA10
import Derived.Test.YthbmifpfhdlicaaA2
import Derived.Test.YthbmifpfhdlicaaA1
import Derived.Test.YthbmifpfhdlicaaA8
namespace Go.V
open Go.Proofs
set_option maxRecDepth 8000
noncomputable def tb0 : Tbl := Tbl.none
theorem tb0_ok : Tb tb0 noG := Tbl.none_ok
noncomputable def tb1 : Tbl := tb0.add 92 g_slices_Clone_byte
theorem tb1_ok : Tb tb1 noG := Tbl.add_ok tb0_ok (impl_slices_Clone_byte tb0_ok )
noncomputable def tb2 : Tbl := tb1.add 20 gTrue
theorem tb2_ok : Tb tb2 noG := Tbl.add_ok tb1_ok (impl_law06_wakes)
noncomputable def tb3 : Tbl := tb2.add 56 g_table_between
theorem tb3_ok : Tb tb3 noG := Tbl.add_ok tb2_ok (impl_table_between tb2_ok )
noncomputable def tb4 : Tbl := tb3.add 22 g_table_Length
theorem tb4_ok : Tb tb4 noG := Tbl.add_ok tb3_ok (impl_table_Length tb3_ok (by rfl))
noncomputable def tb5 : Tbl := tb4.add 94 g_bits_RotateLeft32
theorem tb5_ok : Tb tb5 noG := Tbl.add_ok tb4_ok (impl_bits_RotateLeft32 tb4_ok )
noncomputable def tb6 : Tbl := tb5.add 55 g_pack_Sum
theorem tb6_ok : Tb tb6 noG := Tbl.add_ok tb5_ok (impl_pack_Sum tb5_ok (by rfl))
noncomputable def tb7 : Tbl := tb6.add 93 g_pack_length
theorem tb7_ok : Tb tb7 noG := Tbl.add_ok tb6_ok (impl_pack_length tb6_ok )
noncomputable def tb8 : Tbl := tb7.add 53 g_pack_Put
theorem tb8_ok : Tb tb8 noG := Tbl.add_ok tb7_ok (impl_pack_Put tb7_ok (by rfl))
noncomputable def tb9 : Tbl := tb8.add 54 g_pack_Bits
theorem tb9_ok : Tb tb9 noG := Tbl.add_ok tb8_ok (impl_pack_Bits tb8_ok (by rfl))
noncomputable def tb10 : Tbl := tb9.add 52 g_table_known
theorem tb10_ok : Tb tb10 noG := Tbl.add_ok tb9_ok (impl_table_known tb9_ok )
noncomputable def tb11 : Tbl := tb10.add 91 g_table_may_1
theorem tb11_ok : Tb tb11 noG := Tbl.add_ok tb10_ok (impl_table_may_1 tb10_ok (by rfl))
noncomputable def tb12 : Tbl := tb11.add 104 (g_slices_IndexFunc_int tb11)
theorem tb12_ok : Tb tb12 noG := Tbl.add_ok tb11_ok (impl_slices_IndexFunc_int tb11_ok )
noncomputable def tb13 : Tbl := tb12.add 90 (g_slices_ContainsFunc_int tb11)
theorem tb13_ok : Tb tb13 noG := Tbl.add_ok tb12_ok (impl_slices_ContainsFunc_int tb12_ok (by rfl))
noncomputable def tb14 : Tbl := tb13.add 51 g_table_may
theorem tb14_ok : Tb tb14 noG := Tbl.add_ok tb13_ok (impl_table_may tb13_ok (by rfl) (by rfl) (by rfl) (by rfl))
noncomputable def tb15 : Tbl := tb14.add 21 g_table_Encode
theorem tb15_ok : Tb tb15 noG := Tbl.add_ok tb14_ok (impl_table_Encode tb14_ok (by rfl) (by rfl) (by rfl) (by rfl) (by rfl))
noncomputable def tb16 : Tbl := tb15.add 50 g_keep_LargeLists
theorem tb16_ok : Tb tb16 noG := Tbl.add_ok tb15_ok (impl_keep_LargeLists tb15_ok )
noncomputable def tb17 : Tbl := tb16.add 19 g_law06_Large
theorem tb17_ok : Tb tb17 noG := Tbl.add_ok tb16_ok (impl_law06_Large tb16_ok (by rfl))
noncomputable def tb18 : Tbl := tb17.add 32 g_ref05_Sum
theorem tb18_ok : Tb tb18 noG := Tbl.add_ok tb17_ok (impl_ref05_Sum tb17_ok )
theorem law_law06_TablePlaces : Impl Try.prog noG 8 g_law06_TablePlaces := impl_law06_TablePlaces tb18_ok (by rfl) (by rfl) (by rfl) (by rfl) (by rfl)
end Go.V
