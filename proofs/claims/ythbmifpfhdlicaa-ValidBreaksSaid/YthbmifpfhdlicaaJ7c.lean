/- A part of this seat's proofs: contracts of functions, or what these lean on. No condition. -/
import Derived.Test.YthbmifpfhdlicaaW7
import Derived.Test.YthbmifpfhdlicaaL7c
namespace Go.V
open Go.Proofs
set_option maxRecDepth 8000
noncomputable def tb0 : Tbl := Tbl.none
theorem tb0_ok : Tb tb0 noG := Tbl.none_ok
noncomputable def tb1 : Tbl := tb0.add 33 gTrue
theorem tb1_ok : Tb tb1 noG := Tbl.add_ok tb0_ok (impl_law07_wakes)
noncomputable def tb2 : Tbl := tb1.add 74 g_valid_between
theorem tb2_ok : Tb tb2 noG := Tbl.add_ok tb1_ok (impl_valid_between tb1_ok )
noncomputable def tb3 : Tbl := tb2.add 99 g_valid_nexts_1_1
theorem tb3_ok : Tb tb3 noG := Tbl.add_ok tb2_ok (impl_valid_nexts_1_1 tb2_ok (by rfl))
noncomputable def tb4 : Tbl := tb3.add 104 (g_slices_IndexFunc_int tb3)
theorem tb4_ok : Tb tb4 noG := Tbl.add_ok tb3_ok (impl_slices_IndexFunc_int tb3_ok )
noncomputable def tb5 : Tbl := tb4.add 90 (g_slices_ContainsFunc_int tb3)
theorem tb5_ok : Tb tb5 noG := Tbl.add_ok tb4_ok (impl_slices_ContainsFunc_int tb4_ok (by rfl))
noncomputable def tb6 : Tbl := tb5.add 107 g_scalar_sign
theorem tb6_ok : Tb tb6 noG := Tbl.add_ok tb5_ok (impl_scalar_sign tb5_ok )
noncomputable def tb7 : Tbl := tb6.add 100 g_scalar_Is
theorem tb7_ok : Tb tb7 noG := Tbl.add_ok tb6_ok (impl_scalar_Is tb6_ok (by rfl))
noncomputable def tb8 : Tbl := tb7.add 82 g_ref01_Is
theorem tb8_ok : Tb tb8 noG := Tbl.add_ok tb7_ok (impl_ref01_Is tb7_ok )
noncomputable def tb9 : Tbl := tb8.add 101 g_valid_inOrder
theorem tb9_ok : Tb tb9 noG := Tbl.add_ok tb8_ok (impl_valid_inOrder tb8_ok )
noncomputable def tb10 : Tbl := tb9.add 98 g_valid_nexts_1
theorem tb10_ok : Tb tb10 noG := Tbl.add_ok tb9_ok (impl_valid_nexts_1 tb9_ok (by rfl) (by rfl) (by rfl))
noncomputable def tb11 : Tbl := tb10.add 105 g_valid_shaped_1
theorem tb11_ok : Tb tb11 noG := Tbl.add_ok tb10_ok (impl_valid_shaped_1 tb10_ok )
noncomputable def tb12 : Tbl := tb11.add 106 (g_slices_IndexFunc_s_int tb11)
theorem tb12_ok : Tb tb12 noG := Tbl.add_ok tb11_ok (impl_slices_IndexFunc_s_int tb11_ok )
noncomputable def tb13 : Tbl := tb12.add 97 (g_slices_ContainsFunc_s_int tb11)
theorem tb13_ok : Tb tb13 noG := Tbl.add_ok tb12_ok (impl_slices_ContainsFunc_s_int tb12_ok (by rfl))
noncomputable def tb14 : Tbl := tb13.add 96 g_valid_shaped
theorem tb14_ok : Tb tb14 noG := Tbl.add_ok tb13_ok (impl_valid_shaped tb13_ok (by rfl) (by rfl) (by rfl))
noncomputable def tb15 : Tbl := tb14.add 72 g_valid_counts
theorem tb15_ok : Tb tb15 noG := Tbl.add_ok tb14_ok (impl_valid_counts tb14_ok (by rfl) (by rfl))
noncomputable def tb16 : Tbl := tb15.add 73 g_valid_nexts
theorem tb16_ok : Tb tb16 noG := Tbl.add_ok tb15_ok (impl_valid_nexts tb15_ok (by rfl) (by rfl) (by rfl))
noncomputable def tb17 : Tbl := tb16.add 76 g_valid_bands
theorem tb17_ok : Tb tb17 noG := Tbl.add_ok tb16_ok (impl_valid_bands tb16_ok (by rfl))
noncomputable def tb18 : Tbl := tb17.add 77 g_valid_classes
theorem tb18_ok : Tb tb18 noG := Tbl.add_ok tb17_ok (impl_valid_classes tb17_ok (by rfl))
noncomputable def tb19 : Tbl := tb18.add 78 g_valid_numbered
theorem tb19_ok : Tb tb19 noG := Tbl.add_ok tb18_ok (impl_valid_numbered tb18_ok (by rfl))
noncomputable def tb20 : Tbl := tb19.add 71 g_slices_Equal_int
theorem tb20_ok : Tb tb20 noG := Tbl.add_ok tb19_ok (impl_slices_Equal_int tb19_ok )
noncomputable def tb21 : Tbl := tb20.add 102 g_valid_column
theorem tb21_ok : Tb tb21 noG := Tbl.add_ok tb20_ok (impl_valid_column tb20_ok )
noncomputable def tb22 : Tbl := tb21.add 80 g_valid_columns
theorem tb22_ok : Tb tb22 noG := Tbl.add_ok tb21_ok (impl_valid_columns tb21_ok (by rfl) (by rfl))
noncomputable def tb23 : Tbl := tb22.add 75 g_valid_alike
theorem tb23_ok : Tb tb23 noG := Tbl.add_ok tb22_ok (impl_valid_alike tb22_ok )
noncomputable def tb24 : Tbl := tb23.add 79 g_valid_least
theorem tb24_ok : Tb tb24 noG := Tbl.add_ok tb23_ok (impl_valid_least tb23_ok (by rfl))
noncomputable def tb25 : Tbl := tb24.add 35 g_valid_Table
theorem tb25_ok : Tb tb25 noG := Tbl.add_ok tb24_ok (impl_valid_Table tb24_ok (by rfl) (by rfl) (by rfl) (by rfl) (by rfl) (by rfl) (by rfl))
noncomputable def tb26 : Tbl := tb25.add 34 g_valid_Alike
theorem tb26_ok : Tb tb26 noG := Tbl.add_ok tb25_ok (impl_valid_Alike tb25_ok (by rfl) (by rfl) (by rfl) (by rfl))
noncomputable def tb27 : Tbl := tb26.add 81 g_ref07_counts
theorem tb27_ok : Tb tb27 noG := Tbl.add_ok tb26_ok (impl_ref07_counts tb26_ok )
noncomputable def tb28 : Tbl := tb27.add 83 g_ref07_nexts
theorem tb28_ok : Tb tb28 noG := Tbl.add_ok tb27_ok (impl_ref07_nexts tb27_ok )
noncomputable def tb29 : Tbl := tb28.add 84 g_ref07_apart
theorem tb29_ok : Tb tb29 noG := Tbl.add_ok tb28_ok (impl_ref07_apart tb28_ok )
noncomputable def tb30 : Tbl := tb29.add 36 g_ref07_Table
theorem tb30_ok : Tb tb30 noG := Tbl.add_ok tb29_ok (impl_ref07_Table tb29_ok (by rfl) (by rfl) (by rfl) (by rfl))
noncomputable def tb31 : Tbl := tb30.add 62 g_keep_OwnLists
theorem tb31_ok : Tb tb31 noG := Tbl.add_ok tb30_ok (impl_keep_OwnLists tb30_ok )
noncomputable def tb32 : Tbl := tb31.add 26 g_keep_OwnTable
theorem tb32_ok : Tb tb32 noG := Tbl.add_ok tb31_ok (impl_keep_OwnTable tb31_ok (by rfl))
theorem law_law07_ValidBreaks : Impl Try.prog noG 10 g_law07_ValidBreaks := impl_law07_ValidBreaks tb32_ok (by rfl) (by rfl) (by rfl) (by rfl) (by rfl)
end Go.V
