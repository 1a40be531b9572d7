/- A part of the proof of TableFirst: contracts of functions, or what these lean on. No condition. -/
import Derived.Test.YthbmifpfhdlicaaVM3
import Derived.Test.YthbmifpfhdlicaaProg
namespace Go.V
open Go.Proofs
attribute [simp] Try.underlying2
@[simp] theorem info_2 : (Try.prog.info? 2).isSome = true := by decide +kernel
@[simp] theorem esz_2 : esz Try.prog 2 = 1 := by decide +kernel
@[simp] theorem ebytes_2 : ebytes Try.prog 2 = 8 := by decide +kernel
@[simp] theorem tyOk_2 : tyOk Try.prog 2 = true := by decide +kernel
@[simp] theorem aggT_2 : aggT Try.prog 2 = false := by decide +kernel
@[simp] theorem zeroCs_2 : zeroCs Try.prog 2 = some [.prim (.int .i64 0)] := by kernel_rfl
attribute [simp] Try.underlying3
@[simp] theorem info_3 : (Try.prog.info? 3).isSome = true := by decide +kernel
@[simp] theorem esz_3 : esz Try.prog 3 = 1 := by decide +kernel
@[simp] theorem ebytes_3 : ebytes Try.prog 3 = 8 := by decide +kernel
@[simp] theorem tyOk_3 : tyOk Try.prog 3 = true := by decide +kernel
@[simp] theorem aggT_3 : aggT Try.prog 3 = false := by decide +kernel
@[simp] theorem zeroCs_3 : zeroCs Try.prog 3 = some [.prim (.int .i64 0)] := by kernel_rfl
attribute [simp] Try.underlying4
@[simp] theorem info_4 : (Try.prog.info? 4).isSome = true := by decide +kernel
@[simp] theorem esz_4 : esz Try.prog 4 = 1 := by decide +kernel
@[simp] theorem ebytes_4 : ebytes Try.prog 4 = 1 := by decide +kernel
@[simp] theorem tyOk_4 : tyOk Try.prog 4 = true := by decide +kernel
@[simp] theorem aggT_4 : aggT Try.prog 4 = false := by decide +kernel
@[simp] theorem zeroCs_4 : zeroCs Try.prog 4 = some [.prim (.bool false)] := by kernel_rfl
attribute [simp] Try.underlying5
@[simp] theorem info_5 : (Try.prog.info? 5).isSome = true := by decide +kernel
@[simp] theorem esz_5 : esz Try.prog 5 = 1 := by decide +kernel
@[simp] theorem ebytes_5 : ebytes Try.prog 5 = 1 := by decide +kernel
@[simp] theorem tyOk_5 : tyOk Try.prog 5 = true := by decide +kernel
@[simp] theorem aggT_5 : aggT Try.prog 5 = false := by decide +kernel
@[simp] theorem zeroCs_5 : zeroCs Try.prog 5 = some [.prim (.int .u8 0)] := by kernel_rfl
attribute [simp] Try.underlying9
@[simp] theorem info_9 : (Try.prog.info? 9).isSome = true := by decide +kernel
@[simp] theorem esz_9 : esz Try.prog 9 = 1 := by decide +kernel
@[simp] theorem ebytes_9 : ebytes Try.prog 9 = 16 := by decide +kernel
@[simp] theorem tyOk_9 : tyOk Try.prog 9 = true := by decide +kernel
@[simp] theorem aggT_9 : aggT Try.prog 9 = false := by decide +kernel
@[simp] theorem zeroCs_9 : zeroCs Try.prog 9 = some [.prim (.string ⟨#[]⟩)] := by kernel_rfl
attribute [simp] Try.underlying12
@[simp] theorem info_12 : (Try.prog.info? 12).isSome = true := by decide +kernel
@[simp] theorem esz_12 : esz Try.prog 12 = 1 := by decide +kernel
@[simp] theorem ebytes_12 : ebytes Try.prog 12 = 8 := by decide +kernel
@[simp] theorem tyOk_12 : tyOk Try.prog 12 = true := by decide +kernel
@[simp] theorem aggT_12 : aggT Try.prog 12 = false := by decide +kernel
@[simp] theorem zeroCs_12 : zeroCs Try.prog 12 = some [.prim (.int .u64 0)] := by kernel_rfl
attribute [simp] Try.underlying13
@[simp] theorem info_13 : (Try.prog.info? 13).isSome = true := by decide +kernel
@[simp] theorem esz_13 : esz Try.prog 13 = 2 := by decide +kernel
@[simp] theorem ebytes_13 : ebytes Try.prog 13 = 24 := by decide +kernel
@[simp] theorem tyOk_13 : tyOk Try.prog 13 = true := by decide +kernel
@[simp] theorem aggT_13 : aggT Try.prog 13 = true := by decide +kernel
@[simp] theorem places_13 : placesOf Try.prog 13 = some [(9, 0, 1), (12, 1, 1)] := by kernel_rfl
@[simp] theorem zeroCs_13 : zeroCs Try.prog 13 = some [.prim (.string ⟨#[]⟩), .prim (.int .u64 0)] := by kernel_rfl
attribute [simp] Try.underlying14
@[simp] theorem info_14 : (Try.prog.info? 14).isSome = true := by decide +kernel
@[simp] theorem esz_14 : esz Try.prog 14 = 2 := by decide +kernel
@[simp] theorem ebytes_14 : ebytes Try.prog 14 = 24 := by decide +kernel
@[simp] theorem tyOk_14 : tyOk Try.prog 14 = true := by decide +kernel
@[simp] theorem aggT_14 : aggT Try.prog 14 = true := by decide +kernel
@[simp] theorem places_14 : placesOf Try.prog 14 = some [(9, 0, 1), (12, 1, 1)] := by kernel_rfl
@[simp] theorem zeroCs_14 : zeroCs Try.prog 14 = some [.prim (.string ⟨#[]⟩), .prim (.int .u64 0)] := by kernel_rfl
attribute [simp] Try.underlying15
@[simp] theorem info_15 : (Try.prog.info? 15).isSome = true := by decide +kernel
@[simp] theorem esz_15 : esz Try.prog 15 = 1 := by decide +kernel
@[simp] theorem ebytes_15 : ebytes Try.prog 15 = 8 := by decide +kernel
@[simp] theorem tyOk_15 : tyOk Try.prog 15 = true := by decide +kernel
@[simp] theorem aggT_15 : aggT Try.prog 15 = false := by decide +kernel
@[simp] theorem zeroCs_15 : zeroCs Try.prog 15 = some [.prim (.pointer none)] := by kernel_rfl
attribute [simp] Try.underlying16
@[simp] theorem info_16 : (Try.prog.info? 16).isSome = true := by decide +kernel
@[simp] theorem esz_16 : esz Try.prog 16 = 1 := by decide +kernel
@[simp] theorem ebytes_16 : ebytes Try.prog 16 = 8 := by decide +kernel
@[simp] theorem tyOk_16 : tyOk Try.prog 16 = true := by decide +kernel
@[simp] theorem aggT_16 : aggT Try.prog 16 = false := by decide +kernel
@[simp] theorem zeroCs_16 : zeroCs Try.prog 16 = some [.prim (.pointer none)] := by kernel_rfl
attribute [simp] Try.underlying17
@[simp] theorem info_17 : (Try.prog.info? 17).isSome = true := by decide +kernel
@[simp] theorem esz_17 : esz Try.prog 17 = 1 := by decide +kernel
@[simp] theorem ebytes_17 : ebytes Try.prog 17 = 8 := by decide +kernel
@[simp] theorem tyOk_17 : tyOk Try.prog 17 = true := by decide +kernel
@[simp] theorem aggT_17 : aggT Try.prog 17 = false := by decide +kernel
@[simp] theorem zeroCs_17 : zeroCs Try.prog 17 = some [.prim (.pointer none)] := by kernel_rfl
attribute [simp] Try.underlying18
@[simp] theorem info_18 : (Try.prog.info? 18).isSome = true := by decide +kernel
@[simp] theorem esz_18 : esz Try.prog 18 = 1 := by decide +kernel
@[simp] theorem ebytes_18 : ebytes Try.prog 18 = 8 := by decide +kernel
@[simp] theorem tyOk_18 : tyOk Try.prog 18 = true := by decide +kernel
@[simp] theorem aggT_18 : aggT Try.prog 18 = true := by decide +kernel
@[simp] theorem places_18 : placesOf Try.prog 18 = some [(17, 0, 1)] := by kernel_rfl
@[simp] theorem zeroCs_18 : zeroCs Try.prog 18 = some [.prim (.pointer none)] := by kernel_rfl
attribute [simp] Try.underlying19
@[simp] theorem info_19 : (Try.prog.info? 19).isSome = true := by decide +kernel
@[simp] theorem esz_19 : esz Try.prog 19 = 1 := by decide +kernel
@[simp] theorem ebytes_19 : ebytes Try.prog 19 = 8 := by decide +kernel
@[simp] theorem tyOk_19 : tyOk Try.prog 19 = true := by decide +kernel
@[simp] theorem aggT_19 : aggT Try.prog 19 = true := by decide +kernel
@[simp] theorem places_19 : placesOf Try.prog 19 = some [(17, 0, 1)] := by kernel_rfl
@[simp] theorem zeroCs_19 : zeroCs Try.prog 19 = some [.prim (.pointer none)] := by kernel_rfl
attribute [simp] Try.underlying21
@[simp] theorem info_21 : (Try.prog.info? 21).isSome = true := by decide +kernel
@[simp] theorem esz_21 : esz Try.prog 21 = 1 := by decide +kernel
@[simp] theorem ebytes_21 : ebytes Try.prog 21 = 4 := by decide +kernel
@[simp] theorem tyOk_21 : tyOk Try.prog 21 = true := by decide +kernel
@[simp] theorem aggT_21 : aggT Try.prog 21 = false := by decide +kernel
@[simp] theorem zeroCs_21 : zeroCs Try.prog 21 = some [.prim (.int .i32 0)] := by kernel_rfl
attribute [simp] Try.underlying22
@[simp] theorem info_22 : (Try.prog.info? 22).isSome = true := by decide +kernel
@[simp] theorem esz_22 : esz Try.prog 22 = 1 := by decide +kernel
@[simp] theorem ebytes_22 : ebytes Try.prog 22 = 24 := by decide +kernel
@[simp] theorem tyOk_22 : tyOk Try.prog 22 = true := by decide +kernel
@[simp] theorem aggT_22 : aggT Try.prog 22 = false := by decide +kernel
@[simp] theorem zeroCs_22 : zeroCs Try.prog 22 = some [.sl true 2 []] := by kernel_rfl
attribute [simp] Try.underlying23
@[simp] theorem info_23 : (Try.prog.info? 23).isSome = true := by decide +kernel
@[simp] theorem esz_23 : esz Try.prog 23 = 1 := by decide +kernel
@[simp] theorem ebytes_23 : ebytes Try.prog 23 = 24 := by decide +kernel
@[simp] theorem tyOk_23 : tyOk Try.prog 23 = true := by decide +kernel
@[simp] theorem aggT_23 : aggT Try.prog 23 = false := by decide +kernel
@[simp] theorem zeroCs_23 : zeroCs Try.prog 23 = some [.sl true 1 []] := by kernel_rfl
attribute [simp] Try.underlying24
@[simp] theorem info_24 : (Try.prog.info? 24).isSome = true := by decide +kernel
@[simp] theorem esz_24 : esz Try.prog 24 = 1 := by decide +kernel
@[simp] theorem ebytes_24 : ebytes Try.prog 24 = 24 := by decide +kernel
@[simp] theorem tyOk_24 : tyOk Try.prog 24 = true := by decide +kernel
@[simp] theorem aggT_24 : aggT Try.prog 24 = false := by decide +kernel
@[simp] theorem zeroCs_24 : zeroCs Try.prog 24 = some [.sl true 1 []] := by kernel_rfl
attribute [simp] Try.underlying25
@[simp] theorem info_25 : (Try.prog.info? 25).isSome = true := by decide +kernel
@[simp] theorem esz_25 : esz Try.prog 25 = 4 := by decide +kernel
@[simp] theorem ebytes_25 : ebytes Try.prog 25 = 80 := by decide +kernel
@[simp] theorem tyOk_25 : tyOk Try.prog 25 = true := by decide +kernel
@[simp] theorem aggT_25 : aggT Try.prog 25 = true := by decide +kernel
@[simp] theorem places_25 : placesOf Try.prog 25 = some [(3, 0, 1), (22, 1, 1), (23, 2, 1), (24, 3, 1)] := by kernel_rfl
@[simp] theorem zeroCs_25 : zeroCs Try.prog 25 = some [.prim (.int .i64 0), .sl true 2 [], .sl true 1 [], .sl true 1 []] := by kernel_rfl
attribute [simp] Try.underlying26
@[simp] theorem info_26 : (Try.prog.info? 26).isSome = true := by decide +kernel
@[simp] theorem esz_26 : esz Try.prog 26 = 4 := by decide +kernel
@[simp] theorem ebytes_26 : ebytes Try.prog 26 = 80 := by decide +kernel
@[simp] theorem tyOk_26 : tyOk Try.prog 26 = true := by decide +kernel
@[simp] theorem aggT_26 : aggT Try.prog 26 = true := by decide +kernel
@[simp] theorem places_26 : placesOf Try.prog 26 = some [(3, 0, 1), (22, 1, 1), (23, 2, 1), (24, 3, 1)] := by kernel_rfl
@[simp] theorem zeroCs_26 : zeroCs Try.prog 26 = some [.prim (.int .i64 0), .sl true 2 [], .sl true 1 [], .sl true 1 []] := by kernel_rfl
attribute [simp] Try.underlying27
@[simp] theorem info_27 : (Try.prog.info? 27).isSome = true := by decide +kernel
@[simp] theorem esz_27 : esz Try.prog 27 = 1 := by decide +kernel
@[simp] theorem ebytes_27 : ebytes Try.prog 27 = 24 := by decide +kernel
@[simp] theorem tyOk_27 : tyOk Try.prog 27 = true := by decide +kernel
@[simp] theorem aggT_27 : aggT Try.prog 27 = false := by decide +kernel
@[simp] theorem zeroCs_27 : zeroCs Try.prog 27 = some [.sl true 1 []] := by kernel_rfl
attribute [simp] Try.underlying28
@[simp] theorem info_28 : (Try.prog.info? 28).isSome = true := by decide +kernel
@[simp] theorem esz_28 : esz Try.prog 28 = 1 := by decide +kernel
@[simp] theorem ebytes_28 : ebytes Try.prog 28 = 2 := by decide +kernel
@[simp] theorem tyOk_28 : tyOk Try.prog 28 = true := by decide +kernel
@[simp] theorem aggT_28 : aggT Try.prog 28 = false := by decide +kernel
@[simp] theorem zeroCs_28 : zeroCs Try.prog 28 = some [.prim (.int .u16 0)] := by kernel_rfl
attribute [simp] Try.underlying29
@[simp] theorem info_29 : (Try.prog.info? 29).isSome = true := by decide +kernel
@[simp] theorem esz_29 : esz Try.prog 29 = 2 := by decide +kernel
@[simp] theorem ebytes_29 : ebytes Try.prog 29 = 4 := by decide +kernel
@[simp] theorem tyOk_29 : tyOk Try.prog 29 = true := by decide +kernel
@[simp] theorem aggT_29 : aggT Try.prog 29 = true := by decide +kernel
@[simp] theorem zeroCs_29 : zeroCs Try.prog 29 = some [.prim (.int .u16 0), .prim (.int .u16 0)] := by kernel_rfl
attribute [simp] Try.underlying35
@[simp] theorem info_35 : (Try.prog.info? 35).isSome = true := by decide +kernel
@[simp] theorem esz_35 : esz Try.prog 35 = 1 := by decide +kernel
@[simp] theorem ebytes_35 : ebytes Try.prog 35 = 8 := by decide +kernel
@[simp] theorem tyOk_35 : tyOk Try.prog 35 = true := by decide +kernel
@[simp] theorem aggT_35 : aggT Try.prog 35 = false := by decide +kernel
@[simp] theorem zeroCs_35 : zeroCs Try.prog 35 = some [.prim (.int .i64 0)] := by kernel_rfl
attribute [simp] Try.underlying44
@[simp] theorem info_44 : (Try.prog.info? 44).isSome = true := by decide +kernel
@[simp] theorem esz_44 : esz Try.prog 44 = 3 := by decide +kernel
@[simp] theorem ebytes_44 : ebytes Try.prog 44 = 24 := by decide +kernel
@[simp] theorem tyOk_44 : tyOk Try.prog 44 = true := by decide +kernel
@[simp] theorem aggT_44 : aggT Try.prog 44 = true := by decide +kernel
@[simp] theorem zeroCs_44 : zeroCs Try.prog 44 = some [.prim (.int .i64 0), .prim (.int .i64 0), .prim (.int .i64 0)] := by kernel_rfl
attribute [simp] Try.underlying47
@[simp] theorem info_47 : (Try.prog.info? 47).isSome = true := by decide +kernel
@[simp] theorem esz_47 : esz Try.prog 47 = 1 := by decide +kernel
@[simp] theorem ebytes_47 : ebytes Try.prog 47 = 4 := by decide +kernel
@[simp] theorem tyOk_47 : tyOk Try.prog 47 = true := by decide +kernel
@[simp] theorem aggT_47 : aggT Try.prog 47 = false := by decide +kernel
@[simp] theorem zeroCs_47 : zeroCs Try.prog 47 = some [.prim (.int .u32 0)] := by kernel_rfl
attribute [simp] Try.underlying50
@[simp] theorem info_50 : (Try.prog.info? 50).isSome = true := by decide +kernel
@[simp] theorem esz_50 : esz Try.prog 50 = 2 := by decide +kernel
@[simp] theorem ebytes_50 : ebytes Try.prog 50 = 2 := by decide +kernel
@[simp] theorem tyOk_50 : tyOk Try.prog 50 = true := by decide +kernel
@[simp] theorem aggT_50 : aggT Try.prog 50 = true := by decide +kernel
@[simp] theorem zeroCs_50 : zeroCs Try.prog 50 = some [.prim (.int .u8 0), .prim (.int .u8 0)] := by kernel_rfl
attribute [simp] Try.underlying52
@[simp] theorem info_52 : (Try.prog.info? 52).isSome = true := by decide +kernel
@[simp] theorem esz_52 : esz Try.prog 52 = 3 := by decide +kernel
@[simp] theorem ebytes_52 : ebytes Try.prog 52 = 3 := by decide +kernel
@[simp] theorem tyOk_52 : tyOk Try.prog 52 = true := by decide +kernel
@[simp] theorem aggT_52 : aggT Try.prog 52 = true := by decide +kernel
@[simp] theorem zeroCs_52 : zeroCs Try.prog 52 = some [.prim (.int .u8 0), .prim (.int .u8 0), .prim (.int .u8 0)] := by kernel_rfl
attribute [simp] Try.underlying54
@[simp] theorem info_54 : (Try.prog.info? 54).isSome = true := by decide +kernel
@[simp] theorem esz_54 : esz Try.prog 54 = 1 := by decide +kernel
@[simp] theorem ebytes_54 : ebytes Try.prog 54 = 8 := by decide +kernel
@[simp] theorem tyOk_54 : tyOk Try.prog 54 = true := by decide +kernel
@[simp] theorem aggT_54 : aggT Try.prog 54 = false := by decide +kernel
@[simp] theorem zeroCs_54 : zeroCs Try.prog 54 = some [.prim (.int .u64 0)] := by kernel_rfl
attribute [simp] Try.underlying55
@[simp] theorem info_55 : (Try.prog.info? 55).isSome = true := by decide +kernel
@[simp] theorem esz_55 : esz Try.prog 55 = 2 := by decide +kernel
@[simp] theorem ebytes_55 : ebytes Try.prog 55 = 16 := by decide +kernel
@[simp] theorem tyOk_55 : tyOk Try.prog 55 = true := by decide +kernel
@[simp] theorem aggT_55 : aggT Try.prog 55 = true := by decide +kernel
@[simp] theorem places_55 : placesOf Try.prog 55 = some [(3, 0, 1), (3, 1, 1)] := by kernel_rfl
@[simp] theorem zeroCs_55 : zeroCs Try.prog 55 = some [.prim (.int .i64 0), .prim (.int .i64 0)] := by kernel_rfl
attribute [simp] Try.underlying56
@[simp] theorem info_56 : (Try.prog.info? 56).isSome = true := by decide +kernel
@[simp] theorem esz_56 : esz Try.prog 56 = 2 := by decide +kernel
@[simp] theorem ebytes_56 : ebytes Try.prog 56 = 16 := by decide +kernel
@[simp] theorem tyOk_56 : tyOk Try.prog 56 = true := by decide +kernel
@[simp] theorem aggT_56 : aggT Try.prog 56 = true := by decide +kernel
@[simp] theorem places_56 : placesOf Try.prog 56 = some [(3, 0, 1), (3, 1, 1)] := by kernel_rfl
@[simp] theorem zeroCs_56 : zeroCs Try.prog 56 = some [.prim (.int .i64 0), .prim (.int .i64 0)] := by kernel_rfl
attribute [simp] Try.underlying57
@[simp] theorem info_57 : (Try.prog.info? 57).isSome = true := by decide +kernel
@[simp] theorem esz_57 : esz Try.prog 57 = 1 := by decide +kernel
@[simp] theorem ebytes_57 : ebytes Try.prog 57 = 24 := by decide +kernel
@[simp] theorem tyOk_57 : tyOk Try.prog 57 = true := by decide +kernel
@[simp] theorem aggT_57 : aggT Try.prog 57 = false := by decide +kernel
@[simp] theorem zeroCs_57 : zeroCs Try.prog 57 = some [.sl true 1 []] := by kernel_rfl
attribute [simp] Try.underlying64
@[simp] theorem info_64 : (Try.prog.info? 64).isSome = true := by decide +kernel
@[simp] theorem esz_64 : esz Try.prog 64 = 2 := by decide +kernel
@[simp] theorem ebytes_64 : ebytes Try.prog 64 = 16 := by decide +kernel
@[simp] theorem tyOk_64 : tyOk Try.prog 64 = true := by decide +kernel
@[simp] theorem aggT_64 : aggT Try.prog 64 = true := by decide +kernel
@[simp] theorem zeroCs_64 : zeroCs Try.prog 64 = some [.prim (.int .i64 0), .prim (.int .i64 0)] := by kernel_rfl
attribute [simp] Try.underlying65
@[simp] theorem info_65 : (Try.prog.info? 65).isSome = true := by decide +kernel
@[simp] theorem esz_65 : esz Try.prog 65 = 1 := by decide +kernel
@[simp] theorem ebytes_65 : ebytes Try.prog 65 = 24 := by decide +kernel
@[simp] theorem tyOk_65 : tyOk Try.prog 65 = true := by decide +kernel
@[simp] theorem aggT_65 : aggT Try.prog 65 = false := by decide +kernel
@[simp] theorem zeroCs_65 : zeroCs Try.prog 65 = some [.sl true 2 []] := by kernel_rfl
attribute [simp] Try.underlying67
@[simp] theorem info_67 : (Try.prog.info? 67).isSome = true := by decide +kernel
@[simp] theorem esz_67 : esz Try.prog 67 = 2 := by decide +kernel
@[simp] theorem ebytes_67 : ebytes Try.prog 67 = 48 := by decide +kernel
@[simp] theorem tyOk_67 : tyOk Try.prog 67 = true := by decide +kernel
@[simp] theorem aggT_67 : aggT Try.prog 67 = true := by decide +kernel
@[simp] theorem zeroCs_67 : zeroCs Try.prog 67 = some [.sl true 1 [], .sl true 1 []] := by kernel_rfl
attribute [simp] Try.underlying75
@[simp] theorem info_75 : (Try.prog.info? 75).isSome = true := by decide +kernel
@[simp] theorem esz_75 : esz Try.prog 75 = 2 := by decide +kernel
@[simp] theorem ebytes_75 : ebytes Try.prog 75 = 8 := by decide +kernel
@[simp] theorem tyOk_75 : tyOk Try.prog 75 = true := by decide +kernel
@[simp] theorem aggT_75 : aggT Try.prog 75 = true := by decide +kernel
@[simp] theorem zeroCs_75 : zeroCs Try.prog 75 = some [.prim (.int .u32 0), .prim (.int .u32 0)] := by kernel_rfl
attribute [simp] Try.underlying80
@[simp] theorem info_80 : (Try.prog.info? 80).isSome = true := by decide +kernel
@[simp] theorem esz_80 : esz Try.prog 80 = 2 := by decide +kernel
@[simp] theorem ebytes_80 : ebytes Try.prog 80 = 32 := by decide +kernel
@[simp] theorem tyOk_80 : tyOk Try.prog 80 = true := by decide +kernel
@[simp] theorem aggT_80 : aggT Try.prog 80 = true := by decide +kernel
@[simp] theorem places_80 : placesOf Try.prog 80 = some [(57, 0, 1), (4, 1, 1)] := by kernel_rfl
@[simp] theorem zeroCs_80 : zeroCs Try.prog 80 = some [.sl true 1 [], .prim (.bool false)] := by kernel_rfl
attribute [simp] Try.underlying81
@[simp] theorem info_81 : (Try.prog.info? 81).isSome = true := by decide +kernel
@[simp] theorem esz_81 : esz Try.prog 81 = 2 := by decide +kernel
@[simp] theorem ebytes_81 : ebytes Try.prog 81 = 32 := by decide +kernel
@[simp] theorem tyOk_81 : tyOk Try.prog 81 = true := by decide +kernel
@[simp] theorem aggT_81 : aggT Try.prog 81 = true := by decide +kernel
@[simp] theorem places_81 : placesOf Try.prog 81 = some [(57, 0, 1), (4, 1, 1)] := by kernel_rfl
@[simp] theorem zeroCs_81 : zeroCs Try.prog 81 = some [.sl true 1 [], .prim (.bool false)] := by kernel_rfl
attribute [simp] Try.underlying85
@[simp] theorem info_85 : (Try.prog.info? 85).isSome = true := by decide +kernel
@[simp] theorem esz_85 : esz Try.prog 85 = 4 := by decide +kernel
@[simp] theorem ebytes_85 : ebytes Try.prog 85 = 4 := by decide +kernel
@[simp] theorem tyOk_85 : tyOk Try.prog 85 = true := by decide +kernel
@[simp] theorem aggT_85 : aggT Try.prog 85 = true := by decide +kernel
@[simp] theorem zeroCs_85 : zeroCs Try.prog 85 = some [.prim (.int .u8 0), .prim (.int .u8 0), .prim (.int .u8 0), .prim (.int .u8 0)] := by kernel_rfl
attribute [simp] Try.underlying86
@[simp] theorem info_86 : (Try.prog.info? 86).isSome = true := by decide +kernel
@[simp] theorem esz_86 : esz Try.prog 86 = 4 := by decide +kernel
@[simp] theorem ebytes_86 : ebytes Try.prog 86 = 4 := by decide +kernel
@[simp] theorem tyOk_86 : tyOk Try.prog 86 = true := by decide +kernel
@[simp] theorem aggT_86 : aggT Try.prog 86 = true := by decide +kernel
@[simp] theorem zeroCs_86 : zeroCs Try.prog 86 = some [.prim (.int .u8 0), .prim (.int .u8 0), .prim (.int .u8 0), .prim (.int .u8 0)] := by kernel_rfl
attribute [simp] Try.underlying98
@[simp] theorem info_98 : (Try.prog.info? 98).isSome = true := by decide +kernel
@[simp] theorem esz_98 : esz Try.prog 98 = 2 := by decide +kernel
@[simp] theorem ebytes_98 : ebytes Try.prog 98 = 16 := by decide +kernel
@[simp] theorem tyOk_98 : tyOk Try.prog 98 = true := by decide +kernel
@[simp] theorem aggT_98 : aggT Try.prog 98 = true := by decide +kernel
@[simp] theorem places_98 : placesOf Try.prog 98 = some [(3, 0, 1), (4, 1, 1)] := by kernel_rfl
@[simp] theorem zeroCs_98 : zeroCs Try.prog 98 = some [.prim (.int .i64 0), .prim (.bool false)] := by kernel_rfl
attribute [simp] Try.underlying99
@[simp] theorem info_99 : (Try.prog.info? 99).isSome = true := by decide +kernel
@[simp] theorem esz_99 : esz Try.prog 99 = 2 := by decide +kernel
@[simp] theorem ebytes_99 : ebytes Try.prog 99 = 16 := by decide +kernel
@[simp] theorem tyOk_99 : tyOk Try.prog 99 = true := by decide +kernel
@[simp] theorem aggT_99 : aggT Try.prog 99 = true := by decide +kernel
@[simp] theorem places_99 : placesOf Try.prog 99 = some [(3, 0, 1), (4, 1, 1)] := by kernel_rfl
@[simp] theorem zeroCs_99 : zeroCs Try.prog 99 = some [.prim (.int .i64 0), .prim (.bool false)] := by kernel_rfl
attribute [simp] Try.underlying103
@[simp] theorem info_103 : (Try.prog.info? 103).isSome = true := by decide +kernel
@[simp] theorem esz_103 : esz Try.prog 103 = 2 := by decide +kernel
@[simp] theorem ebytes_103 : ebytes Try.prog 103 = 16 := by decide +kernel
@[simp] theorem tyOk_103 : tyOk Try.prog 103 = true := by decide +kernel
@[simp] theorem aggT_103 : aggT Try.prog 103 = true := by decide +kernel
@[simp] theorem places_103 : placesOf Try.prog 103 = some [(3, 0, 1), (3, 1, 1)] := by kernel_rfl
@[simp] theorem zeroCs_103 : zeroCs Try.prog 103 = some [.prim (.int .i64 0), .prim (.int .i64 0)] := by kernel_rfl
attribute [simp] Try.underlying104
@[simp] theorem info_104 : (Try.prog.info? 104).isSome = true := by decide +kernel
@[simp] theorem esz_104 : esz Try.prog 104 = 2 := by decide +kernel
@[simp] theorem ebytes_104 : ebytes Try.prog 104 = 16 := by decide +kernel
@[simp] theorem tyOk_104 : tyOk Try.prog 104 = true := by decide +kernel
@[simp] theorem aggT_104 : aggT Try.prog 104 = true := by decide +kernel
@[simp] theorem places_104 : placesOf Try.prog 104 = some [(3, 0, 1), (3, 1, 1)] := by kernel_rfl
@[simp] theorem zeroCs_104 : zeroCs Try.prog 104 = some [.prim (.int .i64 0), .prim (.int .i64 0)] := by kernel_rfl
attribute [simp] Try.underlying105
@[simp] theorem info_105 : (Try.prog.info? 105).isSome = true := by decide +kernel
@[simp] theorem esz_105 : esz Try.prog 105 = 1 := by decide +kernel
@[simp] theorem ebytes_105 : ebytes Try.prog 105 = 24 := by decide +kernel
@[simp] theorem tyOk_105 : tyOk Try.prog 105 = true := by decide +kernel
@[simp] theorem aggT_105 : aggT Try.prog 105 = false := by decide +kernel
@[simp] theorem zeroCs_105 : zeroCs Try.prog 105 = some [.sl true 1 []] := by kernel_rfl
attribute [simp] Try.underlying108
@[simp] theorem info_108 : (Try.prog.info? 108).isSome = true := by decide +kernel
@[simp] theorem esz_108 : esz Try.prog 108 = 1 := by decide +kernel
@[simp] theorem ebytes_108 : ebytes Try.prog 108 = 8 := by decide +kernel
@[simp] theorem tyOk_108 : tyOk Try.prog 108 = true := by decide +kernel
@[simp] theorem aggT_108 : aggT Try.prog 108 = false := by decide +kernel
@[simp] theorem zeroCs_108 : zeroCs Try.prog 108 = some [.prim (.pointer none)] := by kernel_rfl
attribute [simp] Try.underlying111
@[simp] theorem info_111 : (Try.prog.info? 111).isSome = true := by decide +kernel
@[simp] theorem esz_111 : esz Try.prog 111 = 1 := by decide +kernel
@[simp] theorem ebytes_111 : ebytes Try.prog 111 = 8 := by decide +kernel
@[simp] theorem tyOk_111 : tyOk Try.prog 111 = true := by decide +kernel
@[simp] theorem aggT_111 : aggT Try.prog 111 = false := by decide +kernel
@[simp] theorem zeroCs_111 : zeroCs Try.prog 111 = some [.prim (.map none)] := by kernel_rfl
attribute [simp] Try.underlying112
@[simp] theorem info_112 : (Try.prog.info? 112).isSome = true := by decide +kernel
@[simp] theorem esz_112 : esz Try.prog 112 = 6 := by decide +kernel
@[simp] theorem ebytes_112 : ebytes Try.prog 112 = 96 := by decide +kernel
@[simp] theorem tyOk_112 : tyOk Try.prog 112 = true := by decide +kernel
@[simp] theorem aggT_112 : aggT Try.prog 112 = true := by decide +kernel
@[simp] theorem places_112 : placesOf Try.prog 112 = some [(26, 0, 4), (111, 4, 1), (3, 5, 1)] := by kernel_rfl
@[simp] theorem zeroCs_112 : zeroCs Try.prog 112 = some [.prim (.int .i64 0), .sl true 2 [], .sl true 1 [], .sl true 1 [], .prim (.map none), .prim (.int .i64 0)] := by kernel_rfl
attribute [simp] Try.underlying113
@[simp] theorem info_113 : (Try.prog.info? 113).isSome = true := by decide +kernel
@[simp] theorem esz_113 : esz Try.prog 113 = 6 := by decide +kernel
@[simp] theorem ebytes_113 : ebytes Try.prog 113 = 96 := by decide +kernel
@[simp] theorem tyOk_113 : tyOk Try.prog 113 = true := by decide +kernel
@[simp] theorem aggT_113 : aggT Try.prog 113 = true := by decide +kernel
@[simp] theorem places_113 : placesOf Try.prog 113 = some [(26, 0, 4), (111, 4, 1), (3, 5, 1)] := by kernel_rfl
@[simp] theorem zeroCs_113 : zeroCs Try.prog 113 = some [.prim (.int .i64 0), .sl true 2 [], .sl true 1 [], .sl true 1 [], .prim (.map none), .prim (.int .i64 0)] := by kernel_rfl
attribute [simp] Try.underlying122
@[simp] theorem info_122 : (Try.prog.info? 122).isSome = true := by decide +kernel
@[simp] theorem esz_122 : esz Try.prog 122 = 1 := by decide +kernel
@[simp] theorem ebytes_122 : ebytes Try.prog 122 = 8 := by decide +kernel
@[simp] theorem tyOk_122 : tyOk Try.prog 122 = true := by decide +kernel
@[simp] theorem aggT_122 : aggT Try.prog 122 = false := by decide +kernel
@[simp] theorem zeroCs_122 : zeroCs Try.prog 122 = some [.prim (.map none)] := by kernel_rfl
attribute [simp] Try.underlying123
@[simp] theorem info_123 : (Try.prog.info? 123).isSome = true := by decide +kernel
@[simp] theorem esz_123 : esz Try.prog 123 = 1 := by decide +kernel
@[simp] theorem ebytes_123 : ebytes Try.prog 123 = 24 := by decide +kernel
@[simp] theorem tyOk_123 : tyOk Try.prog 123 = true := by decide +kernel
@[simp] theorem aggT_123 : aggT Try.prog 123 = false := by decide +kernel
@[simp] theorem zeroCs_123 : zeroCs Try.prog 123 = some [.sl true 2 []] := by kernel_rfl
attribute [simp] Try.underlying132
@[simp] theorem info_132 : (Try.prog.info? 132).isSome = true := by decide +kernel
@[simp] theorem esz_132 : esz Try.prog 132 = 4 := by decide +kernel
@[simp] theorem ebytes_132 : ebytes Try.prog 132 = 40 := by decide +kernel
@[simp] theorem tyOk_132 : tyOk Try.prog 132 = true := by decide +kernel
@[simp] theorem aggT_132 : aggT Try.prog 132 = true := by decide +kernel
@[simp] theorem places_132 : placesOf Try.prog 132 = some [(17, 0, 1), (17, 1, 1), (17, 2, 1), (9, 3, 1)] := by kernel_rfl
@[simp] theorem zeroCs_132 : zeroCs Try.prog 132 = some [.prim (.pointer none), .prim (.pointer none), .prim (.pointer none), .prim (.string ⟨#[]⟩)] := by kernel_rfl
attribute [simp] Try.underlying133
@[simp] theorem info_133 : (Try.prog.info? 133).isSome = true := by decide +kernel
@[simp] theorem esz_133 : esz Try.prog 133 = 4 := by decide +kernel
@[simp] theorem ebytes_133 : ebytes Try.prog 133 = 40 := by decide +kernel
@[simp] theorem tyOk_133 : tyOk Try.prog 133 = true := by decide +kernel
@[simp] theorem aggT_133 : aggT Try.prog 133 = true := by decide +kernel
@[simp] theorem places_133 : placesOf Try.prog 133 = some [(17, 0, 1), (17, 1, 1), (17, 2, 1), (9, 3, 1)] := by kernel_rfl
@[simp] theorem zeroCs_133 : zeroCs Try.prog 133 = some [.prim (.pointer none), .prim (.pointer none), .prim (.pointer none), .prim (.string ⟨#[]⟩)] := by kernel_rfl
attribute [simp] Try.underlying134
@[simp] theorem info_134 : (Try.prog.info? 134).isSome = true := by decide +kernel
@[simp] theorem esz_134 : esz Try.prog 134 = 0 := by decide +kernel
@[simp] theorem ebytes_134 : ebytes Try.prog 134 = 0 := by decide +kernel
@[simp] theorem tyOk_134 : tyOk Try.prog 134 = true := by decide +kernel
@[simp] theorem aggT_134 : aggT Try.prog 134 = true := by decide +kernel
@[simp] theorem zeroCs_134 : zeroCs Try.prog 134 = some [] := by kernel_rfl
attribute [simp] Try.underlying135
@[simp] theorem info_135 : (Try.prog.info? 135).isSome = true := by decide +kernel
@[simp] theorem esz_135 : esz Try.prog 135 = 0 := by decide +kernel
@[simp] theorem ebytes_135 : ebytes Try.prog 135 = 0 := by decide +kernel
@[simp] theorem tyOk_135 : tyOk Try.prog 135 = true := by decide +kernel
@[simp] theorem aggT_135 : aggT Try.prog 135 = true := by decide +kernel
@[simp] theorem places_135 : placesOf Try.prog 135 = some [(134, 0, 0)] := by kernel_rfl
@[simp] theorem zeroCs_135 : zeroCs Try.prog 135 = some [] := by kernel_rfl
attribute [simp] Try.underlying136
@[simp] theorem info_136 : (Try.prog.info? 136).isSome = true := by decide +kernel
@[simp] theorem esz_136 : esz Try.prog 136 = 0 := by decide +kernel
@[simp] theorem ebytes_136 : ebytes Try.prog 136 = 0 := by decide +kernel
@[simp] theorem tyOk_136 : tyOk Try.prog 136 = true := by decide +kernel
@[simp] theorem aggT_136 : aggT Try.prog 136 = true := by decide +kernel
@[simp] theorem places_136 : placesOf Try.prog 136 = some [(134, 0, 0)] := by kernel_rfl
@[simp] theorem zeroCs_136 : zeroCs Try.prog 136 = some [] := by kernel_rfl
attribute [simp] Try.underlying141
@[simp] theorem info_141 : (Try.prog.info? 141).isSome = true := by decide +kernel
@[simp] theorem esz_141 : esz Try.prog 141 = 1 := by decide +kernel
@[simp] theorem ebytes_141 : ebytes Try.prog 141 = 8 := by decide +kernel
@[simp] theorem tyOk_141 : tyOk Try.prog 141 = true := by decide +kernel
@[simp] theorem aggT_141 : aggT Try.prog 141 = false := by decide +kernel
@[simp] theorem zeroCs_141 : zeroCs Try.prog 141 = some [.prim (.pointer none)] := by kernel_rfl
end Go.V
