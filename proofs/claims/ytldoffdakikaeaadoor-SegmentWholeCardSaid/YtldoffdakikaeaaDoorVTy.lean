/- A part of the proof of SegmentWhole: contracts of functions, or what these lean on. No condition. -/
import Derived.Test.YtldoffdakikaeaaDoorVM3
import Derived.Test.YtldoffdakikaeaaDoorProg
namespace Go.V
open Go.Proofs
attribute [simp] Tryd.underlying2
@[simp] theorem info_2 : (Tryd.prog.info? 2).isSome = true := by decide +kernel
@[simp] theorem esz_2 : esz Tryd.prog 2 = 1 := by decide +kernel
@[simp] theorem ebytes_2 : ebytes Tryd.prog 2 = 8 := by decide +kernel
@[simp] theorem tyOk_2 : tyOk Tryd.prog 2 = true := by decide +kernel
@[simp] theorem aggT_2 : aggT Tryd.prog 2 = false := by decide +kernel
@[simp] theorem zeroCs_2 : zeroCs Tryd.prog 2 = some [.prim (.int .i64 0)] := by kernel_rfl
attribute [simp] Tryd.underlying3
@[simp] theorem info_3 : (Tryd.prog.info? 3).isSome = true := by decide +kernel
@[simp] theorem esz_3 : esz Tryd.prog 3 = 1 := by decide +kernel
@[simp] theorem ebytes_3 : ebytes Tryd.prog 3 = 8 := by decide +kernel
@[simp] theorem tyOk_3 : tyOk Tryd.prog 3 = true := by decide +kernel
@[simp] theorem aggT_3 : aggT Tryd.prog 3 = false := by decide +kernel
@[simp] theorem zeroCs_3 : zeroCs Tryd.prog 3 = some [.prim (.int .i64 0)] := by kernel_rfl
attribute [simp] Tryd.underlying4
@[simp] theorem info_4 : (Tryd.prog.info? 4).isSome = true := by decide +kernel
@[simp] theorem esz_4 : esz Tryd.prog 4 = 1 := by decide +kernel
@[simp] theorem ebytes_4 : ebytes Tryd.prog 4 = 1 := by decide +kernel
@[simp] theorem tyOk_4 : tyOk Tryd.prog 4 = true := by decide +kernel
@[simp] theorem aggT_4 : aggT Tryd.prog 4 = false := by decide +kernel
@[simp] theorem zeroCs_4 : zeroCs Tryd.prog 4 = some [.prim (.bool false)] := by kernel_rfl
attribute [simp] Tryd.underlying5
@[simp] theorem info_5 : (Tryd.prog.info? 5).isSome = true := by decide +kernel
@[simp] theorem esz_5 : esz Tryd.prog 5 = 1 := by decide +kernel
@[simp] theorem ebytes_5 : ebytes Tryd.prog 5 = 1 := by decide +kernel
@[simp] theorem tyOk_5 : tyOk Tryd.prog 5 = true := by decide +kernel
@[simp] theorem aggT_5 : aggT Tryd.prog 5 = false := by decide +kernel
@[simp] theorem zeroCs_5 : zeroCs Tryd.prog 5 = some [.prim (.int .u8 0)] := by kernel_rfl
attribute [simp] Tryd.underlying9
@[simp] theorem info_9 : (Tryd.prog.info? 9).isSome = true := by decide +kernel
@[simp] theorem esz_9 : esz Tryd.prog 9 = 1 := by decide +kernel
@[simp] theorem ebytes_9 : ebytes Tryd.prog 9 = 16 := by decide +kernel
@[simp] theorem tyOk_9 : tyOk Tryd.prog 9 = true := by decide +kernel
@[simp] theorem aggT_9 : aggT Tryd.prog 9 = false := by decide +kernel
@[simp] theorem zeroCs_9 : zeroCs Tryd.prog 9 = some [.prim (.string ⟨#[]⟩)] := by kernel_rfl
attribute [simp] Tryd.underlying12
@[simp] theorem info_12 : (Tryd.prog.info? 12).isSome = true := by decide +kernel
@[simp] theorem esz_12 : esz Tryd.prog 12 = 1 := by decide +kernel
@[simp] theorem ebytes_12 : ebytes Tryd.prog 12 = 8 := by decide +kernel
@[simp] theorem tyOk_12 : tyOk Tryd.prog 12 = true := by decide +kernel
@[simp] theorem aggT_12 : aggT Tryd.prog 12 = false := by decide +kernel
@[simp] theorem zeroCs_12 : zeroCs Tryd.prog 12 = some [.prim (.int .u64 0)] := by kernel_rfl
attribute [simp] Tryd.underlying13
@[simp] theorem info_13 : (Tryd.prog.info? 13).isSome = true := by decide +kernel
@[simp] theorem esz_13 : esz Tryd.prog 13 = 2 := by decide +kernel
@[simp] theorem ebytes_13 : ebytes Tryd.prog 13 = 24 := by decide +kernel
@[simp] theorem tyOk_13 : tyOk Tryd.prog 13 = true := by decide +kernel
@[simp] theorem aggT_13 : aggT Tryd.prog 13 = true := by decide +kernel
@[simp] theorem places_13 : placesOf Tryd.prog 13 = some [(9, 0, 1), (12, 1, 1)] := by kernel_rfl
@[simp] theorem zeroCs_13 : zeroCs Tryd.prog 13 = some [.prim (.string ⟨#[]⟩), .prim (.int .u64 0)] := by kernel_rfl
attribute [simp] Tryd.underlying14
@[simp] theorem info_14 : (Tryd.prog.info? 14).isSome = true := by decide +kernel
@[simp] theorem esz_14 : esz Tryd.prog 14 = 2 := by decide +kernel
@[simp] theorem ebytes_14 : ebytes Tryd.prog 14 = 24 := by decide +kernel
@[simp] theorem tyOk_14 : tyOk Tryd.prog 14 = true := by decide +kernel
@[simp] theorem aggT_14 : aggT Tryd.prog 14 = true := by decide +kernel
@[simp] theorem places_14 : placesOf Tryd.prog 14 = some [(9, 0, 1), (12, 1, 1)] := by kernel_rfl
@[simp] theorem zeroCs_14 : zeroCs Tryd.prog 14 = some [.prim (.string ⟨#[]⟩), .prim (.int .u64 0)] := by kernel_rfl
attribute [simp] Tryd.underlying15
@[simp] theorem info_15 : (Tryd.prog.info? 15).isSome = true := by decide +kernel
@[simp] theorem esz_15 : esz Tryd.prog 15 = 1 := by decide +kernel
@[simp] theorem ebytes_15 : ebytes Tryd.prog 15 = 8 := by decide +kernel
@[simp] theorem tyOk_15 : tyOk Tryd.prog 15 = true := by decide +kernel
@[simp] theorem aggT_15 : aggT Tryd.prog 15 = false := by decide +kernel
@[simp] theorem zeroCs_15 : zeroCs Tryd.prog 15 = some [.prim (.pointer none)] := by kernel_rfl
attribute [simp] Tryd.underlying16
@[simp] theorem info_16 : (Tryd.prog.info? 16).isSome = true := by decide +kernel
@[simp] theorem esz_16 : esz Tryd.prog 16 = 1 := by decide +kernel
@[simp] theorem ebytes_16 : ebytes Tryd.prog 16 = 8 := by decide +kernel
@[simp] theorem tyOk_16 : tyOk Tryd.prog 16 = true := by decide +kernel
@[simp] theorem aggT_16 : aggT Tryd.prog 16 = false := by decide +kernel
@[simp] theorem zeroCs_16 : zeroCs Tryd.prog 16 = some [.prim (.pointer none)] := by kernel_rfl
attribute [simp] Tryd.underlying17
@[simp] theorem info_17 : (Tryd.prog.info? 17).isSome = true := by decide +kernel
@[simp] theorem esz_17 : esz Tryd.prog 17 = 1 := by decide +kernel
@[simp] theorem ebytes_17 : ebytes Tryd.prog 17 = 8 := by decide +kernel
@[simp] theorem tyOk_17 : tyOk Tryd.prog 17 = true := by decide +kernel
@[simp] theorem aggT_17 : aggT Tryd.prog 17 = false := by decide +kernel
@[simp] theorem zeroCs_17 : zeroCs Tryd.prog 17 = some [.prim (.pointer none)] := by kernel_rfl
attribute [simp] Tryd.underlying18
@[simp] theorem info_18 : (Tryd.prog.info? 18).isSome = true := by decide +kernel
@[simp] theorem esz_18 : esz Tryd.prog 18 = 1 := by decide +kernel
@[simp] theorem ebytes_18 : ebytes Tryd.prog 18 = 8 := by decide +kernel
@[simp] theorem tyOk_18 : tyOk Tryd.prog 18 = true := by decide +kernel
@[simp] theorem aggT_18 : aggT Tryd.prog 18 = true := by decide +kernel
@[simp] theorem places_18 : placesOf Tryd.prog 18 = some [(17, 0, 1)] := by kernel_rfl
@[simp] theorem zeroCs_18 : zeroCs Tryd.prog 18 = some [.prim (.pointer none)] := by kernel_rfl
attribute [simp] Tryd.underlying19
@[simp] theorem info_19 : (Tryd.prog.info? 19).isSome = true := by decide +kernel
@[simp] theorem esz_19 : esz Tryd.prog 19 = 1 := by decide +kernel
@[simp] theorem ebytes_19 : ebytes Tryd.prog 19 = 8 := by decide +kernel
@[simp] theorem tyOk_19 : tyOk Tryd.prog 19 = true := by decide +kernel
@[simp] theorem aggT_19 : aggT Tryd.prog 19 = true := by decide +kernel
@[simp] theorem places_19 : placesOf Tryd.prog 19 = some [(17, 0, 1)] := by kernel_rfl
@[simp] theorem zeroCs_19 : zeroCs Tryd.prog 19 = some [.prim (.pointer none)] := by kernel_rfl
attribute [simp] Tryd.underlying21
@[simp] theorem info_21 : (Tryd.prog.info? 21).isSome = true := by decide +kernel
@[simp] theorem esz_21 : esz Tryd.prog 21 = 1 := by decide +kernel
@[simp] theorem ebytes_21 : ebytes Tryd.prog 21 = 4 := by decide +kernel
@[simp] theorem tyOk_21 : tyOk Tryd.prog 21 = true := by decide +kernel
@[simp] theorem aggT_21 : aggT Tryd.prog 21 = false := by decide +kernel
@[simp] theorem zeroCs_21 : zeroCs Tryd.prog 21 = some [.prim (.int .i32 0)] := by kernel_rfl
attribute [simp] Tryd.underlying22
@[simp] theorem info_22 : (Tryd.prog.info? 22).isSome = true := by decide +kernel
@[simp] theorem esz_22 : esz Tryd.prog 22 = 1 := by decide +kernel
@[simp] theorem ebytes_22 : ebytes Tryd.prog 22 = 24 := by decide +kernel
@[simp] theorem tyOk_22 : tyOk Tryd.prog 22 = true := by decide +kernel
@[simp] theorem aggT_22 : aggT Tryd.prog 22 = false := by decide +kernel
@[simp] theorem zeroCs_22 : zeroCs Tryd.prog 22 = some [.sl true 1 []] := by kernel_rfl
attribute [simp] Tryd.underlying24
@[simp] theorem info_24 : (Tryd.prog.info? 24).isSome = true := by decide +kernel
@[simp] theorem esz_24 : esz Tryd.prog 24 = 1 := by decide +kernel
@[simp] theorem ebytes_24 : ebytes Tryd.prog 24 = 24 := by decide +kernel
@[simp] theorem tyOk_24 : tyOk Tryd.prog 24 = true := by decide +kernel
@[simp] theorem aggT_24 : aggT Tryd.prog 24 = false := by decide +kernel
@[simp] theorem zeroCs_24 : zeroCs Tryd.prog 24 = some [.sl true 3 []] := by kernel_rfl
attribute [simp] Tryd.underlying26
@[simp] theorem info_26 : (Tryd.prog.info? 26).isSome = true := by decide +kernel
@[simp] theorem esz_26 : esz Tryd.prog 26 = 3 := by decide +kernel
@[simp] theorem ebytes_26 : ebytes Tryd.prog 26 = 24 := by decide +kernel
@[simp] theorem tyOk_26 : tyOk Tryd.prog 26 = true := by decide +kernel
@[simp] theorem aggT_26 : aggT Tryd.prog 26 = true := by decide +kernel
@[simp] theorem places_26 : placesOf Tryd.prog 26 = some [(3, 0, 1), (3, 1, 1), (3, 2, 1)] := by kernel_rfl
@[simp] theorem zeroCs_26 : zeroCs Tryd.prog 26 = some [.prim (.int .i64 0), .prim (.int .i64 0), .prim (.int .i64 0)] := by kernel_rfl
attribute [simp] Tryd.underlying27
@[simp] theorem info_27 : (Tryd.prog.info? 27).isSome = true := by decide +kernel
@[simp] theorem esz_27 : esz Tryd.prog 27 = 3 := by decide +kernel
@[simp] theorem ebytes_27 : ebytes Tryd.prog 27 = 24 := by decide +kernel
@[simp] theorem tyOk_27 : tyOk Tryd.prog 27 = true := by decide +kernel
@[simp] theorem aggT_27 : aggT Tryd.prog 27 = true := by decide +kernel
@[simp] theorem places_27 : placesOf Tryd.prog 27 = some [(3, 0, 1), (3, 1, 1), (3, 2, 1)] := by kernel_rfl
@[simp] theorem zeroCs_27 : zeroCs Tryd.prog 27 = some [.prim (.int .i64 0), .prim (.int .i64 0), .prim (.int .i64 0)] := by kernel_rfl
attribute [simp] Tryd.underlying33
@[simp] theorem info_33 : (Tryd.prog.info? 33).isSome = true := by decide +kernel
@[simp] theorem esz_33 : esz Tryd.prog 33 = 1 := by decide +kernel
@[simp] theorem ebytes_33 : ebytes Tryd.prog 33 = 8 := by decide +kernel
@[simp] theorem tyOk_33 : tyOk Tryd.prog 33 = true := by decide +kernel
@[simp] theorem aggT_33 : aggT Tryd.prog 33 = false := by decide +kernel
@[simp] theorem zeroCs_33 : zeroCs Tryd.prog 33 = some [.prim (.int .u64 0)] := by kernel_rfl
attribute [simp] Tryd.underlying36
@[simp] theorem info_36 : (Tryd.prog.info? 36).isSome = true := by decide +kernel
@[simp] theorem esz_36 : esz Tryd.prog 36 = 1 := by decide +kernel
@[simp] theorem ebytes_36 : ebytes Tryd.prog 36 = 24 := by decide +kernel
@[simp] theorem tyOk_36 : tyOk Tryd.prog 36 = true := by decide +kernel
@[simp] theorem aggT_36 : aggT Tryd.prog 36 = false := by decide +kernel
@[simp] theorem zeroCs_36 : zeroCs Tryd.prog 36 = some [.sl true 1 []] := by kernel_rfl
attribute [simp] Tryd.underlying42
@[simp] theorem info_42 : (Tryd.prog.info? 42).isSome = true := by decide +kernel
@[simp] theorem esz_42 : esz Tryd.prog 42 = 1 := by decide +kernel
@[simp] theorem ebytes_42 : ebytes Tryd.prog 42 = 24 := by decide +kernel
@[simp] theorem tyOk_42 : tyOk Tryd.prog 42 = true := by decide +kernel
@[simp] theorem aggT_42 : aggT Tryd.prog 42 = false := by decide +kernel
@[simp] theorem zeroCs_42 : zeroCs Tryd.prog 42 = some [.sl true 2 []] := by kernel_rfl
attribute [simp] Tryd.underlying43
@[simp] theorem info_43 : (Tryd.prog.info? 43).isSome = true := by decide +kernel
@[simp] theorem esz_43 : esz Tryd.prog 43 = 1 := by decide +kernel
@[simp] theorem ebytes_43 : ebytes Tryd.prog 43 = 24 := by decide +kernel
@[simp] theorem tyOk_43 : tyOk Tryd.prog 43 = true := by decide +kernel
@[simp] theorem aggT_43 : aggT Tryd.prog 43 = false := by decide +kernel
@[simp] theorem zeroCs_43 : zeroCs Tryd.prog 43 = some [.sl true 1 []] := by kernel_rfl
attribute [simp] Tryd.underlying44
@[simp] theorem info_44 : (Tryd.prog.info? 44).isSome = true := by decide +kernel
@[simp] theorem esz_44 : esz Tryd.prog 44 = 1 := by decide +kernel
@[simp] theorem ebytes_44 : ebytes Tryd.prog 44 = 24 := by decide +kernel
@[simp] theorem tyOk_44 : tyOk Tryd.prog 44 = true := by decide +kernel
@[simp] theorem aggT_44 : aggT Tryd.prog 44 = false := by decide +kernel
@[simp] theorem zeroCs_44 : zeroCs Tryd.prog 44 = some [.sl true 1 []] := by kernel_rfl
attribute [simp] Tryd.underlying45
@[simp] theorem info_45 : (Tryd.prog.info? 45).isSome = true := by decide +kernel
@[simp] theorem esz_45 : esz Tryd.prog 45 = 4 := by decide +kernel
@[simp] theorem ebytes_45 : ebytes Tryd.prog 45 = 80 := by decide +kernel
@[simp] theorem tyOk_45 : tyOk Tryd.prog 45 = true := by decide +kernel
@[simp] theorem aggT_45 : aggT Tryd.prog 45 = true := by decide +kernel
@[simp] theorem places_45 : placesOf Tryd.prog 45 = some [(3, 0, 1), (42, 1, 1), (43, 2, 1), (44, 3, 1)] := by kernel_rfl
@[simp] theorem zeroCs_45 : zeroCs Tryd.prog 45 = some [.prim (.int .i64 0), .sl true 2 [], .sl true 1 [], .sl true 1 []] := by kernel_rfl
attribute [simp] Tryd.underlying46
@[simp] theorem info_46 : (Tryd.prog.info? 46).isSome = true := by decide +kernel
@[simp] theorem esz_46 : esz Tryd.prog 46 = 4 := by decide +kernel
@[simp] theorem ebytes_46 : ebytes Tryd.prog 46 = 80 := by decide +kernel
@[simp] theorem tyOk_46 : tyOk Tryd.prog 46 = true := by decide +kernel
@[simp] theorem aggT_46 : aggT Tryd.prog 46 = true := by decide +kernel
@[simp] theorem places_46 : placesOf Tryd.prog 46 = some [(3, 0, 1), (42, 1, 1), (43, 2, 1), (44, 3, 1)] := by kernel_rfl
@[simp] theorem zeroCs_46 : zeroCs Tryd.prog 46 = some [.prim (.int .i64 0), .sl true 2 [], .sl true 1 [], .sl true 1 []] := by kernel_rfl
attribute [simp] Tryd.underlying53
@[simp] theorem info_53 : (Tryd.prog.info? 53).isSome = true := by decide +kernel
@[simp] theorem esz_53 : esz Tryd.prog 53 = 1 := by decide +kernel
@[simp] theorem ebytes_53 : ebytes Tryd.prog 53 = 24 := by decide +kernel
@[simp] theorem tyOk_53 : tyOk Tryd.prog 53 = true := by decide +kernel
@[simp] theorem aggT_53 : aggT Tryd.prog 53 = false := by decide +kernel
@[simp] theorem zeroCs_53 : zeroCs Tryd.prog 53 = some [.sl true 1 []] := by kernel_rfl
attribute [simp] Tryd.underlying58
@[simp] theorem info_58 : (Tryd.prog.info? 58).isSome = true := by decide +kernel
@[simp] theorem esz_58 : esz Tryd.prog 58 = 1 := by decide +kernel
@[simp] theorem ebytes_58 : ebytes Tryd.prog 58 = 2 := by decide +kernel
@[simp] theorem tyOk_58 : tyOk Tryd.prog 58 = true := by decide +kernel
@[simp] theorem aggT_58 : aggT Tryd.prog 58 = false := by decide +kernel
@[simp] theorem zeroCs_58 : zeroCs Tryd.prog 58 = some [.prim (.int .u16 0)] := by kernel_rfl
attribute [simp] Tryd.underlying59
@[simp] theorem info_59 : (Tryd.prog.info? 59).isSome = true := by decide +kernel
@[simp] theorem esz_59 : esz Tryd.prog 59 = 1 := by decide +kernel
@[simp] theorem ebytes_59 : ebytes Tryd.prog 59 = 8 := by decide +kernel
@[simp] theorem tyOk_59 : tyOk Tryd.prog 59 = true := by decide +kernel
@[simp] theorem aggT_59 : aggT Tryd.prog 59 = false := by decide +kernel
@[simp] theorem zeroCs_59 : zeroCs Tryd.prog 59 = some [.prim (.int .i64 0)] := by kernel_rfl
attribute [simp] Tryd.underlying66
@[simp] theorem info_66 : (Tryd.prog.info? 66).isSome = true := by decide +kernel
@[simp] theorem esz_66 : esz Tryd.prog 66 = 4 := by decide +kernel
@[simp] theorem ebytes_66 : ebytes Tryd.prog 66 = 32 := by decide +kernel
@[simp] theorem tyOk_66 : tyOk Tryd.prog 66 = true := by decide +kernel
@[simp] theorem aggT_66 : aggT Tryd.prog 66 = true := by decide +kernel
@[simp] theorem places_66 : placesOf Tryd.prog 66 = some [(4, 0, 1), (3, 1, 1), (3, 2, 1), (3, 3, 1)] := by kernel_rfl
@[simp] theorem zeroCs_66 : zeroCs Tryd.prog 66 = some [.prim (.bool false), .prim (.int .i64 0), .prim (.int .i64 0), .prim (.int .i64 0)] := by kernel_rfl
attribute [simp] Tryd.underlying67
@[simp] theorem info_67 : (Tryd.prog.info? 67).isSome = true := by decide +kernel
@[simp] theorem esz_67 : esz Tryd.prog 67 = 4 := by decide +kernel
@[simp] theorem ebytes_67 : ebytes Tryd.prog 67 = 32 := by decide +kernel
@[simp] theorem tyOk_67 : tyOk Tryd.prog 67 = true := by decide +kernel
@[simp] theorem aggT_67 : aggT Tryd.prog 67 = true := by decide +kernel
@[simp] theorem places_67 : placesOf Tryd.prog 67 = some [(4, 0, 1), (3, 1, 1), (3, 2, 1), (3, 3, 1)] := by kernel_rfl
@[simp] theorem zeroCs_67 : zeroCs Tryd.prog 67 = some [.prim (.bool false), .prim (.int .i64 0), .prim (.int .i64 0), .prim (.int .i64 0)] := by kernel_rfl
attribute [simp] Tryd.underlying72
@[simp] theorem info_72 : (Tryd.prog.info? 72).isSome = true := by decide +kernel
@[simp] theorem esz_72 : esz Tryd.prog 72 = 1 := by decide +kernel
@[simp] theorem ebytes_72 : ebytes Tryd.prog 72 = 8 := by decide +kernel
@[simp] theorem tyOk_72 : tyOk Tryd.prog 72 = true := by decide +kernel
@[simp] theorem aggT_72 : aggT Tryd.prog 72 = false := by decide +kernel
@[simp] theorem zeroCs_72 : zeroCs Tryd.prog 72 = some [.prim (.pointer none)] := by kernel_rfl
attribute [simp] Tryd.underlying73
@[simp] theorem info_73 : (Tryd.prog.info? 73).isSome = true := by decide +kernel
@[simp] theorem esz_73 : esz Tryd.prog 73 = 2 := by decide +kernel
@[simp] theorem ebytes_73 : ebytes Tryd.prog 73 = 32 := by decide +kernel
@[simp] theorem tyOk_73 : tyOk Tryd.prog 73 = true := by decide +kernel
@[simp] theorem aggT_73 : aggT Tryd.prog 73 = true := by decide +kernel
@[simp] theorem places_73 : placesOf Tryd.prog 73 = some [(72, 0, 1), (36, 1, 1)] := by kernel_rfl
@[simp] theorem zeroCs_73 : zeroCs Tryd.prog 73 = some [.prim (.pointer none), .sl true 1 []] := by kernel_rfl
attribute [simp] Tryd.underlying74
@[simp] theorem info_74 : (Tryd.prog.info? 74).isSome = true := by decide +kernel
@[simp] theorem esz_74 : esz Tryd.prog 74 = 2 := by decide +kernel
@[simp] theorem ebytes_74 : ebytes Tryd.prog 74 = 32 := by decide +kernel
@[simp] theorem tyOk_74 : tyOk Tryd.prog 74 = true := by decide +kernel
@[simp] theorem aggT_74 : aggT Tryd.prog 74 = true := by decide +kernel
@[simp] theorem places_74 : placesOf Tryd.prog 74 = some [(72, 0, 1), (36, 1, 1)] := by kernel_rfl
@[simp] theorem zeroCs_74 : zeroCs Tryd.prog 74 = some [.prim (.pointer none), .sl true 1 []] := by kernel_rfl
attribute [simp] Tryd.underlying82
@[simp] theorem info_82 : (Tryd.prog.info? 82).isSome = true := by decide +kernel
@[simp] theorem esz_82 : esz Tryd.prog 82 = 2 := by decide +kernel
@[simp] theorem ebytes_82 : ebytes Tryd.prog 82 = 16 := by decide +kernel
@[simp] theorem tyOk_82 : tyOk Tryd.prog 82 = true := by decide +kernel
@[simp] theorem aggT_82 : aggT Tryd.prog 82 = true := by decide +kernel
@[simp] theorem places_82 : placesOf Tryd.prog 82 = some [(3, 0, 1), (3, 1, 1)] := by kernel_rfl
@[simp] theorem zeroCs_82 : zeroCs Tryd.prog 82 = some [.prim (.int .i64 0), .prim (.int .i64 0)] := by kernel_rfl
attribute [simp] Tryd.underlying83
@[simp] theorem info_83 : (Tryd.prog.info? 83).isSome = true := by decide +kernel
@[simp] theorem esz_83 : esz Tryd.prog 83 = 2 := by decide +kernel
@[simp] theorem ebytes_83 : ebytes Tryd.prog 83 = 16 := by decide +kernel
@[simp] theorem tyOk_83 : tyOk Tryd.prog 83 = true := by decide +kernel
@[simp] theorem aggT_83 : aggT Tryd.prog 83 = true := by decide +kernel
@[simp] theorem places_83 : placesOf Tryd.prog 83 = some [(3, 0, 1), (3, 1, 1)] := by kernel_rfl
@[simp] theorem zeroCs_83 : zeroCs Tryd.prog 83 = some [.prim (.int .i64 0), .prim (.int .i64 0)] := by kernel_rfl
attribute [simp] Tryd.underlying84
@[simp] theorem info_84 : (Tryd.prog.info? 84).isSome = true := by decide +kernel
@[simp] theorem esz_84 : esz Tryd.prog 84 = 1 := by decide +kernel
@[simp] theorem ebytes_84 : ebytes Tryd.prog 84 = 24 := by decide +kernel
@[simp] theorem tyOk_84 : tyOk Tryd.prog 84 = true := by decide +kernel
@[simp] theorem aggT_84 : aggT Tryd.prog 84 = false := by decide +kernel
@[simp] theorem zeroCs_84 : zeroCs Tryd.prog 84 = some [.sl true 1 []] := by kernel_rfl
attribute [simp] Tryd.underlying88
@[simp] theorem info_88 : (Tryd.prog.info? 88).isSome = true := by decide +kernel
@[simp] theorem esz_88 : esz Tryd.prog 88 = 2 := by decide +kernel
@[simp] theorem ebytes_88 : ebytes Tryd.prog 88 = 16 := by decide +kernel
@[simp] theorem tyOk_88 : tyOk Tryd.prog 88 = true := by decide +kernel
@[simp] theorem aggT_88 : aggT Tryd.prog 88 = true := by decide +kernel
@[simp] theorem places_88 : placesOf Tryd.prog 88 = some [(3, 0, 1), (3, 1, 1)] := by kernel_rfl
@[simp] theorem zeroCs_88 : zeroCs Tryd.prog 88 = some [.prim (.int .i64 0), .prim (.int .i64 0)] := by kernel_rfl
attribute [simp] Tryd.underlying89
@[simp] theorem info_89 : (Tryd.prog.info? 89).isSome = true := by decide +kernel
@[simp] theorem esz_89 : esz Tryd.prog 89 = 2 := by decide +kernel
@[simp] theorem ebytes_89 : ebytes Tryd.prog 89 = 16 := by decide +kernel
@[simp] theorem tyOk_89 : tyOk Tryd.prog 89 = true := by decide +kernel
@[simp] theorem aggT_89 : aggT Tryd.prog 89 = true := by decide +kernel
@[simp] theorem places_89 : placesOf Tryd.prog 89 = some [(3, 0, 1), (3, 1, 1)] := by kernel_rfl
@[simp] theorem zeroCs_89 : zeroCs Tryd.prog 89 = some [.prim (.int .i64 0), .prim (.int .i64 0)] := by kernel_rfl
attribute [simp] Tryd.underlying90
@[simp] theorem info_90 : (Tryd.prog.info? 90).isSome = true := by decide +kernel
@[simp] theorem esz_90 : esz Tryd.prog 90 = 1 := by decide +kernel
@[simp] theorem ebytes_90 : ebytes Tryd.prog 90 = 8 := by decide +kernel
@[simp] theorem tyOk_90 : tyOk Tryd.prog 90 = true := by decide +kernel
@[simp] theorem aggT_90 : aggT Tryd.prog 90 = false := by decide +kernel
@[simp] theorem zeroCs_90 : zeroCs Tryd.prog 90 = some [.prim (.pointer none)] := by kernel_rfl
attribute [simp] Tryd.underlying93
@[simp] theorem info_93 : (Tryd.prog.info? 93).isSome = true := by decide +kernel
@[simp] theorem esz_93 : esz Tryd.prog 93 = 1 := by decide +kernel
@[simp] theorem ebytes_93 : ebytes Tryd.prog 93 = 8 := by decide +kernel
@[simp] theorem tyOk_93 : tyOk Tryd.prog 93 = true := by decide +kernel
@[simp] theorem aggT_93 : aggT Tryd.prog 93 = false := by decide +kernel
@[simp] theorem zeroCs_93 : zeroCs Tryd.prog 93 = some [.prim (.map none)] := by kernel_rfl
attribute [simp] Tryd.underlying94
@[simp] theorem info_94 : (Tryd.prog.info? 94).isSome = true := by decide +kernel
@[simp] theorem esz_94 : esz Tryd.prog 94 = 6 := by decide +kernel
@[simp] theorem ebytes_94 : ebytes Tryd.prog 94 = 96 := by decide +kernel
@[simp] theorem tyOk_94 : tyOk Tryd.prog 94 = true := by decide +kernel
@[simp] theorem aggT_94 : aggT Tryd.prog 94 = true := by decide +kernel
@[simp] theorem places_94 : placesOf Tryd.prog 94 = some [(46, 0, 4), (93, 4, 1), (3, 5, 1)] := by kernel_rfl
@[simp] theorem zeroCs_94 : zeroCs Tryd.prog 94 = some [.prim (.int .i64 0), .sl true 2 [], .sl true 1 [], .sl true 1 [], .prim (.map none), .prim (.int .i64 0)] := by kernel_rfl
attribute [simp] Tryd.underlying95
@[simp] theorem info_95 : (Tryd.prog.info? 95).isSome = true := by decide +kernel
@[simp] theorem esz_95 : esz Tryd.prog 95 = 6 := by decide +kernel
@[simp] theorem ebytes_95 : ebytes Tryd.prog 95 = 96 := by decide +kernel
@[simp] theorem tyOk_95 : tyOk Tryd.prog 95 = true := by decide +kernel
@[simp] theorem aggT_95 : aggT Tryd.prog 95 = true := by decide +kernel
@[simp] theorem places_95 : placesOf Tryd.prog 95 = some [(46, 0, 4), (93, 4, 1), (3, 5, 1)] := by kernel_rfl
@[simp] theorem zeroCs_95 : zeroCs Tryd.prog 95 = some [.prim (.int .i64 0), .sl true 2 [], .sl true 1 [], .sl true 1 [], .prim (.map none), .prim (.int .i64 0)] := by kernel_rfl
attribute [simp] Tryd.underlying96
@[simp] theorem info_96 : (Tryd.prog.info? 96).isSome = true := by decide +kernel
@[simp] theorem esz_96 : esz Tryd.prog 96 = 1 := by decide +kernel
@[simp] theorem ebytes_96 : ebytes Tryd.prog 96 = 8 := by decide +kernel
@[simp] theorem tyOk_96 : tyOk Tryd.prog 96 = true := by decide +kernel
@[simp] theorem aggT_96 : aggT Tryd.prog 96 = false := by decide +kernel
@[simp] theorem zeroCs_96 : zeroCs Tryd.prog 96 = some [.prim (.map none)] := by kernel_rfl
attribute [simp] Tryd.underlying101
@[simp] theorem info_101 : (Tryd.prog.info? 101).isSome = true := by decide +kernel
@[simp] theorem esz_101 : esz Tryd.prog 101 = 5 := by decide +kernel
@[simp] theorem ebytes_101 : ebytes Tryd.prog 101 = 24 := by decide +kernel
@[simp] theorem tyOk_101 : tyOk Tryd.prog 101 = true := by decide +kernel
@[simp] theorem aggT_101 : aggT Tryd.prog 101 = true := by decide +kernel
@[simp] theorem places_101 : placesOf Tryd.prog 101 = some [(5, 0, 1), (5, 1, 1), (3, 2, 1), (5, 3, 1), (5, 4, 1)] := by kernel_rfl
@[simp] theorem zeroCs_101 : zeroCs Tryd.prog 101 = some [.prim (.int .u8 0), .prim (.int .u8 0), .prim (.int .i64 0), .prim (.int .u8 0), .prim (.int .u8 0)] := by kernel_rfl
attribute [simp] Tryd.underlying102
@[simp] theorem info_102 : (Tryd.prog.info? 102).isSome = true := by decide +kernel
@[simp] theorem esz_102 : esz Tryd.prog 102 = 5 := by decide +kernel
@[simp] theorem ebytes_102 : ebytes Tryd.prog 102 = 24 := by decide +kernel
@[simp] theorem tyOk_102 : tyOk Tryd.prog 102 = true := by decide +kernel
@[simp] theorem aggT_102 : aggT Tryd.prog 102 = true := by decide +kernel
@[simp] theorem places_102 : placesOf Tryd.prog 102 = some [(5, 0, 1), (5, 1, 1), (3, 2, 1), (5, 3, 1), (5, 4, 1)] := by kernel_rfl
@[simp] theorem zeroCs_102 : zeroCs Tryd.prog 102 = some [.prim (.int .u8 0), .prim (.int .u8 0), .prim (.int .i64 0), .prim (.int .u8 0), .prim (.int .u8 0)] := by kernel_rfl
attribute [simp] Tryd.underlying105
@[simp] theorem info_105 : (Tryd.prog.info? 105).isSome = true := by decide +kernel
@[simp] theorem esz_105 : esz Tryd.prog 105 = 1 := by decide +kernel
@[simp] theorem ebytes_105 : ebytes Tryd.prog 105 = 8 := by decide +kernel
@[simp] theorem tyOk_105 : tyOk Tryd.prog 105 = true := by decide +kernel
@[simp] theorem aggT_105 : aggT Tryd.prog 105 = false := by decide +kernel
@[simp] theorem zeroCs_105 : zeroCs Tryd.prog 105 = some [.prim (.pointer none)] := by kernel_rfl
attribute [simp] Tryd.underlying109
@[simp] theorem info_109 : (Tryd.prog.info? 109).isSome = true := by decide +kernel
@[simp] theorem esz_109 : esz Tryd.prog 109 = 2 := by decide +kernel
@[simp] theorem ebytes_109 : ebytes Tryd.prog 109 = 32 := by decide +kernel
@[simp] theorem tyOk_109 : tyOk Tryd.prog 109 = true := by decide +kernel
@[simp] theorem aggT_109 : aggT Tryd.prog 109 = true := by decide +kernel
@[simp] theorem places_109 : placesOf Tryd.prog 109 = some [(22, 0, 1), (4, 1, 1)] := by kernel_rfl
@[simp] theorem zeroCs_109 : zeroCs Tryd.prog 109 = some [.sl true 1 [], .prim (.bool false)] := by kernel_rfl
attribute [simp] Tryd.underlying110
@[simp] theorem info_110 : (Tryd.prog.info? 110).isSome = true := by decide +kernel
@[simp] theorem esz_110 : esz Tryd.prog 110 = 2 := by decide +kernel
@[simp] theorem ebytes_110 : ebytes Tryd.prog 110 = 32 := by decide +kernel
@[simp] theorem tyOk_110 : tyOk Tryd.prog 110 = true := by decide +kernel
@[simp] theorem aggT_110 : aggT Tryd.prog 110 = true := by decide +kernel
@[simp] theorem places_110 : placesOf Tryd.prog 110 = some [(22, 0, 1), (4, 1, 1)] := by kernel_rfl
@[simp] theorem zeroCs_110 : zeroCs Tryd.prog 110 = some [.sl true 1 [], .prim (.bool false)] := by kernel_rfl
attribute [simp] Tryd.underlying114
@[simp] theorem info_114 : (Tryd.prog.info? 114).isSome = true := by decide +kernel
@[simp] theorem esz_114 : esz Tryd.prog 114 = 2 := by decide +kernel
@[simp] theorem ebytes_114 : ebytes Tryd.prog 114 = 24 := by decide +kernel
@[simp] theorem tyOk_114 : tyOk Tryd.prog 114 = true := by decide +kernel
@[simp] theorem aggT_114 : aggT Tryd.prog 114 = true := by decide +kernel
@[simp] theorem places_114 : placesOf Tryd.prog 114 = some [(9, 0, 1), (3, 1, 1)] := by kernel_rfl
@[simp] theorem zeroCs_114 : zeroCs Tryd.prog 114 = some [.prim (.string ⟨#[]⟩), .prim (.int .i64 0)] := by kernel_rfl
attribute [simp] Tryd.underlying115
@[simp] theorem info_115 : (Tryd.prog.info? 115).isSome = true := by decide +kernel
@[simp] theorem esz_115 : esz Tryd.prog 115 = 2 := by decide +kernel
@[simp] theorem ebytes_115 : ebytes Tryd.prog 115 = 24 := by decide +kernel
@[simp] theorem tyOk_115 : tyOk Tryd.prog 115 = true := by decide +kernel
@[simp] theorem aggT_115 : aggT Tryd.prog 115 = true := by decide +kernel
@[simp] theorem places_115 : placesOf Tryd.prog 115 = some [(9, 0, 1), (3, 1, 1)] := by kernel_rfl
@[simp] theorem zeroCs_115 : zeroCs Tryd.prog 115 = some [.prim (.string ⟨#[]⟩), .prim (.int .i64 0)] := by kernel_rfl
attribute [simp] Tryd.underlying116
@[simp] theorem info_116 : (Tryd.prog.info? 116).isSome = true := by decide +kernel
@[simp] theorem esz_116 : esz Tryd.prog 116 = 45 := by decide +kernel
@[simp] theorem ebytes_116 : ebytes Tryd.prog 116 = 216 := by decide +kernel
@[simp] theorem tyOk_116 : tyOk Tryd.prog 116 = true := by decide +kernel
@[simp] theorem aggT_116 : aggT Tryd.prog 116 = true := by decide +kernel
@[simp] theorem zeroCs_116 : zeroCs Tryd.prog 116 = some [.prim (.int .u8 0), .prim (.int .u8 0), .prim (.int .i64 0), .prim (.int .u8 0), .prim (.int .u8 0), .prim (.int .u8 0), .prim (.int .u8 0), .prim (.int .i64 0), .prim (.int .u8 0), .prim (.int .u8 0), .prim (.int .u8 0), .prim (.int .u8 0), .prim (.int .i64 0), .prim (.int .u8 0), .prim (.int .u8 0), .prim (.int .u8 0), .prim (.int .u8 0), .prim (.int .i64 0), .prim (.int .u8 0), .prim (.int .u8 0), .prim (.int .u8 0), .prim (.int .u8 0), .prim (.int .i64 0), .prim (.int .u8 0), .prim (.int .u8 0), .prim (.int .u8 0), .prim (.int .u8 0), .prim (.int .i64 0), .prim (.int .u8 0), .prim (.int .u8 0), .prim (.int .u8 0), .prim (.int .u8 0), .prim (.int .i64 0), .prim (.int .u8 0), .prim (.int .u8 0), .prim (.int .u8 0), .prim (.int .u8 0), .prim (.int .i64 0), .prim (.int .u8 0), .prim (.int .u8 0), .prim (.int .u8 0), .prim (.int .u8 0), .prim (.int .i64 0), .prim (.int .u8 0), .prim (.int .u8 0)] := by kernel_rfl
attribute [simp] Tryd.underlying127
@[simp] theorem info_127 : (Tryd.prog.info? 127).isSome = true := by decide +kernel
@[simp] theorem esz_127 : esz Tryd.prog 127 = 2 := by decide +kernel
@[simp] theorem ebytes_127 : ebytes Tryd.prog 127 = 16 := by decide +kernel
@[simp] theorem tyOk_127 : tyOk Tryd.prog 127 = true := by decide +kernel
@[simp] theorem aggT_127 : aggT Tryd.prog 127 = true := by decide +kernel
@[simp] theorem places_127 : placesOf Tryd.prog 127 = some [(3, 0, 1), (3, 1, 1)] := by kernel_rfl
@[simp] theorem zeroCs_127 : zeroCs Tryd.prog 127 = some [.prim (.int .i64 0), .prim (.int .i64 0)] := by kernel_rfl
attribute [simp] Tryd.underlying128
@[simp] theorem info_128 : (Tryd.prog.info? 128).isSome = true := by decide +kernel
@[simp] theorem esz_128 : esz Tryd.prog 128 = 2 := by decide +kernel
@[simp] theorem ebytes_128 : ebytes Tryd.prog 128 = 16 := by decide +kernel
@[simp] theorem tyOk_128 : tyOk Tryd.prog 128 = true := by decide +kernel
@[simp] theorem aggT_128 : aggT Tryd.prog 128 = true := by decide +kernel
@[simp] theorem places_128 : placesOf Tryd.prog 128 = some [(3, 0, 1), (3, 1, 1)] := by kernel_rfl
@[simp] theorem zeroCs_128 : zeroCs Tryd.prog 128 = some [.prim (.int .i64 0), .prim (.int .i64 0)] := by kernel_rfl
attribute [simp] Tryd.underlying132
@[simp] theorem info_132 : (Tryd.prog.info? 132).isSome = true := by decide +kernel
@[simp] theorem esz_132 : esz Tryd.prog 132 = 1 := by decide +kernel
@[simp] theorem ebytes_132 : ebytes Tryd.prog 132 = 8 := by decide +kernel
@[simp] theorem tyOk_132 : tyOk Tryd.prog 132 = true := by decide +kernel
@[simp] theorem aggT_132 : aggT Tryd.prog 132 = false := by decide +kernel
@[simp] theorem zeroCs_132 : zeroCs Tryd.prog 132 = some [.prim (.map none)] := by kernel_rfl
attribute [simp] Tryd.underlying133
@[simp] theorem info_133 : (Tryd.prog.info? 133).isSome = true := by decide +kernel
@[simp] theorem esz_133 : esz Tryd.prog 133 = 1 := by decide +kernel
@[simp] theorem ebytes_133 : ebytes Tryd.prog 133 = 24 := by decide +kernel
@[simp] theorem tyOk_133 : tyOk Tryd.prog 133 = true := by decide +kernel
@[simp] theorem aggT_133 : aggT Tryd.prog 133 = false := by decide +kernel
@[simp] theorem zeroCs_133 : zeroCs Tryd.prog 133 = some [.sl true 2 []] := by kernel_rfl
attribute [simp] Tryd.underlying134
@[simp] theorem info_134 : (Tryd.prog.info? 134).isSome = true := by decide +kernel
@[simp] theorem esz_134 : esz Tryd.prog 134 = 4 := by decide +kernel
@[simp] theorem ebytes_134 : ebytes Tryd.prog 134 = 40 := by decide +kernel
@[simp] theorem tyOk_134 : tyOk Tryd.prog 134 = true := by decide +kernel
@[simp] theorem aggT_134 : aggT Tryd.prog 134 = true := by decide +kernel
@[simp] theorem places_134 : placesOf Tryd.prog 134 = some [(17, 0, 1), (17, 1, 1), (17, 2, 1), (9, 3, 1)] := by kernel_rfl
@[simp] theorem zeroCs_134 : zeroCs Tryd.prog 134 = some [.prim (.pointer none), .prim (.pointer none), .prim (.pointer none), .prim (.string ⟨#[]⟩)] := by kernel_rfl
attribute [simp] Tryd.underlying135
@[simp] theorem info_135 : (Tryd.prog.info? 135).isSome = true := by decide +kernel
@[simp] theorem esz_135 : esz Tryd.prog 135 = 4 := by decide +kernel
@[simp] theorem ebytes_135 : ebytes Tryd.prog 135 = 40 := by decide +kernel
@[simp] theorem tyOk_135 : tyOk Tryd.prog 135 = true := by decide +kernel
@[simp] theorem aggT_135 : aggT Tryd.prog 135 = true := by decide +kernel
@[simp] theorem places_135 : placesOf Tryd.prog 135 = some [(17, 0, 1), (17, 1, 1), (17, 2, 1), (9, 3, 1)] := by kernel_rfl
@[simp] theorem zeroCs_135 : zeroCs Tryd.prog 135 = some [.prim (.pointer none), .prim (.pointer none), .prim (.pointer none), .prim (.string ⟨#[]⟩)] := by kernel_rfl
attribute [simp] Tryd.underlying136
@[simp] theorem info_136 : (Tryd.prog.info? 136).isSome = true := by decide +kernel
@[simp] theorem esz_136 : esz Tryd.prog 136 = 0 := by decide +kernel
@[simp] theorem ebytes_136 : ebytes Tryd.prog 136 = 0 := by decide +kernel
@[simp] theorem tyOk_136 : tyOk Tryd.prog 136 = true := by decide +kernel
@[simp] theorem aggT_136 : aggT Tryd.prog 136 = true := by decide +kernel
@[simp] theorem zeroCs_136 : zeroCs Tryd.prog 136 = some [] := by kernel_rfl
attribute [simp] Tryd.underlying137
@[simp] theorem info_137 : (Tryd.prog.info? 137).isSome = true := by decide +kernel
@[simp] theorem esz_137 : esz Tryd.prog 137 = 0 := by decide +kernel
@[simp] theorem ebytes_137 : ebytes Tryd.prog 137 = 0 := by decide +kernel
@[simp] theorem tyOk_137 : tyOk Tryd.prog 137 = true := by decide +kernel
@[simp] theorem aggT_137 : aggT Tryd.prog 137 = true := by decide +kernel
@[simp] theorem places_137 : placesOf Tryd.prog 137 = some [(136, 0, 0)] := by kernel_rfl
@[simp] theorem zeroCs_137 : zeroCs Tryd.prog 137 = some [] := by kernel_rfl
attribute [simp] Tryd.underlying138
@[simp] theorem info_138 : (Tryd.prog.info? 138).isSome = true := by decide +kernel
@[simp] theorem esz_138 : esz Tryd.prog 138 = 0 := by decide +kernel
@[simp] theorem ebytes_138 : ebytes Tryd.prog 138 = 0 := by decide +kernel
@[simp] theorem tyOk_138 : tyOk Tryd.prog 138 = true := by decide +kernel
@[simp] theorem aggT_138 : aggT Tryd.prog 138 = true := by decide +kernel
@[simp] theorem places_138 : placesOf Tryd.prog 138 = some [(136, 0, 0)] := by kernel_rfl
@[simp] theorem zeroCs_138 : zeroCs Tryd.prog 138 = some [] := by kernel_rfl
attribute [simp] Tryd.underlying140
@[simp] theorem info_140 : (Tryd.prog.info? 140).isSome = true := by decide +kernel
@[simp] theorem esz_140 : esz Tryd.prog 140 = 1 := by decide +kernel
@[simp] theorem ebytes_140 : ebytes Tryd.prog 140 = 4 := by decide +kernel
@[simp] theorem tyOk_140 : tyOk Tryd.prog 140 = true := by decide +kernel
@[simp] theorem aggT_140 : aggT Tryd.prog 140 = false := by decide +kernel
@[simp] theorem zeroCs_140 : zeroCs Tryd.prog 140 = some [.prim (.int .u32 0)] := by kernel_rfl
end Go.V
