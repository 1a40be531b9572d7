/- A part of the proof of TableFirst: contracts of functions, or what these lean on. No condition. -/
import Derived.Test.YthbmifpfhdlicaaW6
import Derived.Test.YthbmifpfhdlicaaL5
namespace Go.V
open Go.Proofs
set_option maxRecDepth 8000
noncomputable def tb0 : Tbl := Tbl.none
theorem tb0_ok : Tb tb0 noG := Tbl.none_ok
noncomputable def tb1 : Tbl := tb0.add 20 gTrue
theorem tb1_ok : Tb tb1 noG := Tbl.add_ok tb0_ok (impl_law06_wakes)
noncomputable def tb2 : Tbl := tb1.add 92 g_slices_Clone_byte
theorem tb2_ok : Tb tb2 noG := Tbl.add_ok tb1_ok (impl_slices_Clone_byte tb1_ok )
noncomputable def tb3 : Tbl := tb2.add 56 g_table_between
theorem tb3_ok : Tb tb3 noG := Tbl.add_ok tb2_ok (impl_table_between tb2_ok )
noncomputable def tb4 : Tbl := tb3.add 22 g_table_Length
theorem tb4_ok : Tb tb4 noG := Tbl.add_ok tb3_ok (impl_table_Length tb3_ok (by rfl))
noncomputable def tb5 : Tbl := tb4.add 94 g_bits_RotateLeft32
theorem tb5_ok : Tb tb5 noG := Tbl.add_ok tb4_ok (impl_bits_RotateLeft32 tb4_ok )
noncomputable def tb6 : Tbl := tb5.add 55 g_pack_Sum
theorem tb6_ok : Tb tb6 noG := Tbl.add_ok tb5_ok (impl_pack_Sum tb5_ok (by rfl))
noncomputable def tb7 : Tbl := tb6.add 93 g_pack_length
theorem tb7_ok : Tb tb7 noG := Tbl.add_ok tb6_ok (impl_pack_length tb6_ok )
noncomputable def tb8 : Tbl := tb7.add 53 g_pack_Put
theorem tb8_ok : Tb tb8 noG := Tbl.add_ok tb7_ok (impl_pack_Put tb7_ok (by rfl))
noncomputable def tb9 : Tbl := tb8.add 54 g_pack_Bits
theorem tb9_ok : Tb tb9 noG := Tbl.add_ok tb8_ok (impl_pack_Bits tb8_ok (by rfl))
noncomputable def tb10 : Tbl := tb9.add 58 g_pack_Get
theorem tb10_ok : Tb tb10 noG := Tbl.add_ok tb9_ok (impl_pack_Get tb9_ok )
noncomputable def tb11 : Tbl := tb10.add 52 g_table_known
theorem tb11_ok : Tb tb11 noG := Tbl.add_ok tb10_ok (impl_table_known tb10_ok )
noncomputable def tb12 : Tbl := tb11.add 91 g_table_may_1
theorem tb12_ok : Tb tb12 noG := Tbl.add_ok tb11_ok (impl_table_may_1 tb11_ok (by rfl))
noncomputable def tb13 : Tbl := tb12.add 104 (g_slices_IndexFunc_int tb12)
theorem tb13_ok : Tb tb13 noG := Tbl.add_ok tb12_ok (impl_slices_IndexFunc_int tb12_ok )
noncomputable def tb14 : Tbl := tb13.add 90 (g_slices_ContainsFunc_int tb12)
theorem tb14_ok : Tb tb14 noG := Tbl.add_ok tb13_ok (impl_slices_ContainsFunc_int tb13_ok (by rfl))
noncomputable def tb15 : Tbl := tb14.add 51 g_table_may
theorem tb15_ok : Tb tb15 noG := Tbl.add_ok tb14_ok (impl_table_may tb14_ok (by rfl) (by rfl) (by rfl) (by rfl))
noncomputable def tb16 : Tbl := tb15.add 21 g_table_Encode
theorem tb16_ok : Tb tb16 noG := Tbl.add_ok tb15_ok (impl_table_Encode tb15_ok (by rfl) (by rfl) (by rfl) (by rfl) (by rfl))
noncomputable def tb17 : Tbl := tb16.add 95 g_slices_Equal_byte
theorem tb17_ok : Tb tb17 noG := Tbl.add_ok tb16_ok (impl_slices_Equal_byte tb16_ok )
noncomputable def tb18 : Tbl := tb17.add 59 g_pack_Unbits
theorem tb18_ok : Tb tb18 noG := Tbl.add_ok tb17_ok (impl_pack_Unbits tb17_ok (by rfl) (by rfl) (by rfl))
noncomputable def tb19 : Tbl := tb18.add 57 g_table_sealed
theorem tb19_ok : Tb tb19 noG := Tbl.add_ok tb18_ok (impl_table_sealed tb18_ok (by rfl) (by rfl))
noncomputable def tb20 : Tbl := tb19.add 23 g_table_Decode
theorem tb20_ok : Tb tb20 noG := Tbl.add_ok tb19_ok (impl_table_Decode tb19_ok (by rfl) (by rfl) (by rfl) (by rfl) (by rfl) (by rfl))
noncomputable def tb21 : Tbl := tb20.add 50 g_keep_LargeLists
theorem tb21_ok : Tb tb21 noG := Tbl.add_ok tb20_ok (impl_keep_LargeLists tb20_ok )
noncomputable def tb22 : Tbl := tb21.add 19 g_law06_Large
theorem tb22_ok : Tb tb22 noG := Tbl.add_ok tb21_ok (impl_law06_Large tb21_ok (by rfl))
noncomputable def tb23 : Tbl := tb22.add 31 g_ref05_Put
theorem tb23_ok : Tb tb23 noG := Tbl.add_ok tb22_ok (impl_ref05_Put tb22_ok )
noncomputable def tb24 : Tbl := tb23.add 32 g_ref05_Sum
theorem tb24_ok : Tb tb24 noG := Tbl.add_ok tb23_ok (impl_ref05_Sum tb23_ok )
theorem law_law06_TableFirst : Impl Try.prog noG 6 g_law06_TableFirst := impl_law06_TableFirst tb24_ok (by rfl) (by rfl) (by rfl) (by rfl) (by rfl) (by rfl)
end Go.V
