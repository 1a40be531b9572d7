/- A part of the proof of SegmentWhole: contracts of functions, or what these lean on. No condition. -/
import Derived.Test.YtldoffdakikaeaaDoorVTy
import Derived.Test.YtldoffdakikaeaaDoorVM4
namespace Go.V
open Go.Proofs
theorem mixed : Tryd.prog.follows .mixedOrders = true := by decide +kernel
abbrev Tb (tbl : Tbl) (G : Nat → Option (List PV)) : Prop := ∀ f, Impl Tryd.prog G f (tbl f)
noncomputable abbrev En (tbl : Tbl) (G : Nat → Option (List PV)) (n : Nat) (k : Nat → List Tmp) (p : List Tmp) : Env := { P := Tryd.prog, tbl := tbl, G := G, nt := n, gs := [], keep := k, pin := p }
def k_law02_UtfBack : Nat → List Tmp
  | 0 => [0, 1]
  | 1 => [0, 1, 24]
  | 2 => [4]
  | 3 => [0, 1, 5]
  | 4 => [0, 1, 5, 6]
  | 5 => [0, 1, 5, 6, 7]
  | 6 => [0, 1, 5, 6, 7, 8]
  | 7 => [0, 1, 5, 6, 7, 8, 31]
  | 8 => [0, 1, 5, 6, 7, 8]
  | 9 => [0, 1, 5, 6, 7, 8, 56]
  | 10 => [4]
  | 11 => [0, 1, 5, 6, 7, 8]
  | 12 => [0, 1, 5, 6, 7, 8]
  | 13 => [0, 1, 6, 75]
  | 14 => [4]
  | 15 => [0, 1, 9, 10]
  | 16 => [1, 90]
  | 17 => [4]
  | 18 => [1, 11, 12]
  | 19 => [1, 11, 97]
  | 20 => [4]
  | 21 => [1, 11, 13]
  | 22 => [1, 13, 114]
  | 23 => [4]
  | 24 => [1, 13, 14]
  | 25 => [1, 13, 14, 118]
  | 26 => [1, 13, 14]
  | 27 => [1, 13, 14, 15, 16]
  | 28 => [1, 13, 14, 152]
  | 29 => [4]
  | 30 => [4]
  | _ => []
attribute [simp] k_law02_UtfBack.eq_1 k_law02_UtfBack.eq_2 k_law02_UtfBack.eq_3 k_law02_UtfBack.eq_4 k_law02_UtfBack.eq_5 k_law02_UtfBack.eq_6 k_law02_UtfBack.eq_7 k_law02_UtfBack.eq_8 k_law02_UtfBack.eq_9 k_law02_UtfBack.eq_10 k_law02_UtfBack.eq_11 k_law02_UtfBack.eq_12 k_law02_UtfBack.eq_13 k_law02_UtfBack.eq_14 k_law02_UtfBack.eq_15 k_law02_UtfBack.eq_16 k_law02_UtfBack.eq_17 k_law02_UtfBack.eq_18 k_law02_UtfBack.eq_19 k_law02_UtfBack.eq_20 k_law02_UtfBack.eq_21 k_law02_UtfBack.eq_22 k_law02_UtfBack.eq_23 k_law02_UtfBack.eq_24 k_law02_UtfBack.eq_25 k_law02_UtfBack.eq_26 k_law02_UtfBack.eq_27 k_law02_UtfBack.eq_28 k_law02_UtfBack.eq_29 k_law02_UtfBack.eq_30 k_law02_UtfBack.eq_31
@[simp] theorem call_law02_UtfBack : callable Tryd.prog 3 = true := by decide +kernel
def k_law02_UtfForms : Nat → List Tmp
  | 0 => [0]
  | 1 => [0, 3, 4]
  | 2 => [0, 3, 14]
  | 3 => [2]
  | 4 => [0, 3, 5]
  | 5 => [0, 3, 5, 37]
  | 6 => [0, 3, 5]
  | 7 => [0, 3, 5, 41]
  | 8 => [0, 3, 5]
  | 9 => [0, 3, 5, 45]
  | 10 => [0, 3, 5]
  | 11 => [0, 3, 5, 51]
  | 12 => [2]
  | 13 => [0, 3, 5, 6]
  | 14 => [0, 3, 5, 6, 54]
  | 15 => [0, 3, 5, 6]
  | 16 => [0, 3, 5, 6, 7]
  | 17 => [0, 3, 5, 6, 73]
  | 18 => [2]
  | 19 => [2]
  | _ => []
attribute [simp] k_law02_UtfForms.eq_1 k_law02_UtfForms.eq_2 k_law02_UtfForms.eq_3 k_law02_UtfForms.eq_4 k_law02_UtfForms.eq_5 k_law02_UtfForms.eq_6 k_law02_UtfForms.eq_7 k_law02_UtfForms.eq_8 k_law02_UtfForms.eq_9 k_law02_UtfForms.eq_10 k_law02_UtfForms.eq_11 k_law02_UtfForms.eq_12 k_law02_UtfForms.eq_13 k_law02_UtfForms.eq_14 k_law02_UtfForms.eq_15 k_law02_UtfForms.eq_16 k_law02_UtfForms.eq_17 k_law02_UtfForms.eq_18 k_law02_UtfForms.eq_19 k_law02_UtfForms.eq_20
@[simp] theorem call_law02_UtfForms : callable Tryd.prog 4 = true := by decide +kernel
def k_law02_UtfOdd : Nat → List Tmp
  | 0 => [0, 1]
  | 1 => [0, 1, 15]
  | 2 => [4]
  | 3 => [0, 1, 5]
  | 4 => [0, 1, 5, 6]
  | 5 => [0, 1, 5, 6, 7]
  | 6 => [0, 1, 6, 7, 38]
  | 7 => [4]
  | 8 => [0, 1, 6, 7, 53]
  | 9 => [4]
  | 10 => [4]
  | _ => []
attribute [simp] k_law02_UtfOdd.eq_1 k_law02_UtfOdd.eq_2 k_law02_UtfOdd.eq_3 k_law02_UtfOdd.eq_4 k_law02_UtfOdd.eq_5 k_law02_UtfOdd.eq_6 k_law02_UtfOdd.eq_7 k_law02_UtfOdd.eq_8 k_law02_UtfOdd.eq_9 k_law02_UtfOdd.eq_10 k_law02_UtfOdd.eq_11
@[simp] theorem call_law02_UtfOdd : callable Tryd.prog 5 = true := by decide +kernel
def k_law02_UtfRows : Nat → List Tmp
  | 0 => [0, 1]
  | 1 => [0, 1, 17]
  | 2 => [4]
  | 3 => [0, 5, 6, 7]
  | 4 => [0, 5, 6, 7, 29]
  | 5 => [4]
  | 6 => [0, 5, 6, 7, 38]
  | 7 => [4]
  | 8 => [0, 5, 6, 7, 8]
  | 9 => [0, 5, 6, 7, 8, 42]
  | 10 => [0, 5, 6, 7, 8]
  | 11 => [0, 5, 6, 7, 8, 9]
  | 12 => [0, 5, 6, 7, 8, 9, 49]
  | 13 => [0, 5, 6, 7, 8, 9]
  | 14 => [0, 5, 6, 7, 8, 9]
  | 15 => [0, 5, 6, 7, 8, 9]
  | 16 => [0, 5, 6, 7, 8, 72]
  | 17 => [4]
  | 18 => [4]
  | _ => []
attribute [simp] k_law02_UtfRows.eq_1 k_law02_UtfRows.eq_2 k_law02_UtfRows.eq_3 k_law02_UtfRows.eq_4 k_law02_UtfRows.eq_5 k_law02_UtfRows.eq_6 k_law02_UtfRows.eq_7 k_law02_UtfRows.eq_8 k_law02_UtfRows.eq_9 k_law02_UtfRows.eq_10 k_law02_UtfRows.eq_11 k_law02_UtfRows.eq_12 k_law02_UtfRows.eq_13 k_law02_UtfRows.eq_14 k_law02_UtfRows.eq_15 k_law02_UtfRows.eq_16 k_law02_UtfRows.eq_17 k_law02_UtfRows.eq_18 k_law02_UtfRows.eq_19
@[simp] theorem call_law02_UtfRows : callable Tryd.prog 6 = true := by decide +kernel
def k_law02_UtfTells : Nat → List Tmp
  | 0 => [0, 1, 2]
  | 1 => [0, 1, 2, 21]
  | 2 => [6]
  | 3 => [0, 1, 2, 7]
  | 4 => [0, 1, 2, 7, 8, 9]
  | 5 => [0, 1, 2, 7, 8, 9, 10, 11]
  | 6 => [0, 1, 2, 7, 8, 9, 10, 11, 12, 13]
  | 7 => [6]
  | _ => []
attribute [simp] k_law02_UtfTells.eq_1 k_law02_UtfTells.eq_2 k_law02_UtfTells.eq_3 k_law02_UtfTells.eq_4 k_law02_UtfTells.eq_5 k_law02_UtfTells.eq_6 k_law02_UtfTells.eq_7 k_law02_UtfTells.eq_8
@[simp] theorem call_law02_UtfTells : callable Tryd.prog 7 = true := by decide +kernel
def k_law09_SegmentAhead : Nat → List Tmp
  | 0 => [1, 2, 3]
  | 1 => [1, 2, 3, 28]
  | 2 => [6]
  | 3 => [1, 2, 3, 7, 8]
  | 4 => [1, 7, 8, 9, 10]
  | 5 => [1, 7, 9, 49]
  | 6 => [6]
  | 7 => [1, 7, 9, 11]
  | 8 => [1, 7, 9, 11, 12]
  | 9 => [1, 7, 9, 11, 12, 53]
  | 10 => [1, 7, 9, 11, 12]
  | 11 => [1, 7, 9, 11, 12, 62]
  | 12 => [1, 7, 9, 11, 12]
  | 13 => [6]
  | _ => []
attribute [simp] k_law09_SegmentAhead.eq_1 k_law09_SegmentAhead.eq_2 k_law09_SegmentAhead.eq_3 k_law09_SegmentAhead.eq_4 k_law09_SegmentAhead.eq_5 k_law09_SegmentAhead.eq_6 k_law09_SegmentAhead.eq_7 k_law09_SegmentAhead.eq_8 k_law09_SegmentAhead.eq_9 k_law09_SegmentAhead.eq_10 k_law09_SegmentAhead.eq_11 k_law09_SegmentAhead.eq_12 k_law09_SegmentAhead.eq_13 k_law09_SegmentAhead.eq_14
@[simp] theorem call_law09_SegmentAhead : callable Tryd.prog 8 = true := by decide +kernel
def k_law09_SegmentIll : Nat → List Tmp
  | 0 => [1, 2]
  | 1 => [1, 2, 25]
  | 2 => [4]
  | 3 => [1, 2, 5]
  | 4 => [1, 2, 5, 6]
  | 5 => [1, 2, 5, 6, 7, 8]
  | 6 => [1, 2, 5, 6, 7, 8, 9]
  | 7 => [1, 2, 5, 6, 7, 8, 9, 32]
  | 8 => [1, 2, 5, 6, 7, 8, 9]
  | 9 => [1, 2, 5, 6, 7, 8, 9]
  | 10 => [1, 2, 5, 6, 7, 8, 9, 10, 11]
  | 11 => [1, 2, 5, 6, 7, 8, 9, 10, 58]
  | 12 => [4]
  | 13 => [1, 2, 5, 6, 7, 8, 9]
  | 14 => [1, 2, 6, 7, 8]
  | 15 => [2, 6, 7, 8, 12, 13]
  | 16 => [7, 8, 12, 13, 14, 15]
  | 17 => [7, 8, 12, 14, 96]
  | 18 => [4]
  | 19 => [7, 8, 12, 14, 16]
  | 20 => [7, 8, 12, 14, 16, 17]
  | 21 => [7, 8, 12, 14, 16, 17, 100]
  | 22 => [7, 8, 12, 14, 16, 17]
  | 23 => [7, 8, 12, 14, 16, 17, 117]
  | 24 => [7, 8, 12, 14, 16, 17]
  | 25 => [7, 8, 12, 14, 16, 17, 134]
  | 26 => [4]
  | 27 => [4]
  | _ => []
attribute [simp] k_law09_SegmentIll.eq_1 k_law09_SegmentIll.eq_2 k_law09_SegmentIll.eq_3 k_law09_SegmentIll.eq_4 k_law09_SegmentIll.eq_5 k_law09_SegmentIll.eq_6 k_law09_SegmentIll.eq_7 k_law09_SegmentIll.eq_8 k_law09_SegmentIll.eq_9 k_law09_SegmentIll.eq_10 k_law09_SegmentIll.eq_11 k_law09_SegmentIll.eq_12 k_law09_SegmentIll.eq_13 k_law09_SegmentIll.eq_14 k_law09_SegmentIll.eq_15 k_law09_SegmentIll.eq_16 k_law09_SegmentIll.eq_17 k_law09_SegmentIll.eq_18 k_law09_SegmentIll.eq_19 k_law09_SegmentIll.eq_20 k_law09_SegmentIll.eq_21 k_law09_SegmentIll.eq_22 k_law09_SegmentIll.eq_23 k_law09_SegmentIll.eq_24 k_law09_SegmentIll.eq_25 k_law09_SegmentIll.eq_26 k_law09_SegmentIll.eq_27 k_law09_SegmentIll.eq_28
@[simp] theorem call_law09_SegmentIll : callable Tryd.prog 9 = true := by decide +kernel
def k_law09_SegmentTells : Nat → List Tmp
  | 0 => [1, 2]
  | 1 => [1, 2, 19]
  | 2 => [4]
  | 3 => [1, 2, 5, 6]
  | 4 => [1, 2, 5, 6, 7, 8]
  | 5 => [1, 2, 5, 6, 7, 8, 9, 10]
  | 6 => [5, 6, 7, 8, 9, 10, 11, 12]
  | 7 => [4]
  | _ => []
attribute [simp] k_law09_SegmentTells.eq_1 k_law09_SegmentTells.eq_2 k_law09_SegmentTells.eq_3 k_law09_SegmentTells.eq_4 k_law09_SegmentTells.eq_5 k_law09_SegmentTells.eq_6 k_law09_SegmentTells.eq_7 k_law09_SegmentTells.eq_8
@[simp] theorem call_law09_SegmentTells : callable Tryd.prog 10 = true := by decide +kernel
def k_law09_SegmentWhole : Nat → List Tmp
  | 0 => [1, 2]
  | 1 => [1, 2, 27]
  | 2 => [4]
  | 3 => [1, 2, 5, 6]
  | 4 => [1, 2, 5, 6, 7, 8]
  | 5 => [1, 2, 5, 7, 46]
  | 6 => [4]
  | 7 => [1, 2, 5, 7, 9]
  | 8 => [1, 2, 5, 7, 9, 10]
  | 9 => [1, 2, 5, 7, 9, 10, 50]
  | 10 => [1, 2, 5, 7, 9, 10]
  | 11 => [1, 2, 5, 7, 9, 10, 57]
  | 12 => [4]
  | 13 => [1, 2, 5, 7, 9, 10]
  | 14 => [1, 2, 5, 7, 66]
  | 15 => [4]
  | 16 => [1, 2, 5, 7, 11]
  | 17 => [1, 2, 5, 7, 11, 12]
  | 18 => [1, 2, 5, 7, 11, 12, 13]
  | 19 => [1, 2, 5, 7, 11, 12, 13, 72]
  | 20 => [1, 2, 5, 7, 11, 12, 13]
  | 21 => [1, 2, 5, 7, 11, 12, 13]
  | 22 => [1, 5, 7, 11, 14, 15]
  | 23 => [1, 5, 7, 11, 14, 97]
  | 24 => [4]
  | 25 => [1, 5, 7, 11, 14, 16]
  | 26 => [1, 5, 7, 11, 14, 16, 101]
  | 27 => [1, 5, 7, 11, 14, 16]
  | 28 => [1, 5, 7, 11, 14, 16, 17]
  | 29 => [1, 5, 7, 11, 14, 16, 17, 119]
  | 30 => [4]
  | 31 => [1, 5, 7, 11, 14, 16, 17, 126]
  | 32 => [1, 5, 7, 11, 14, 16, 17]
  | 33 => [1, 5, 7, 11, 14, 16, 156]
  | 34 => [4]
  | 35 => [1, 5, 7, 18]
  | 36 => [1, 5, 7, 18, 19]
  | 37 => [1, 5, 7, 18, 19, 160]
  | 38 => [1, 5, 7, 18, 19]
  | 39 => [1, 5, 7, 18, 19, 176]
  | 40 => [1, 5, 7, 18, 19]
  | 41 => [4]
  | _ => []
attribute [simp] k_law09_SegmentWhole.eq_1 k_law09_SegmentWhole.eq_2 k_law09_SegmentWhole.eq_3 k_law09_SegmentWhole.eq_4 k_law09_SegmentWhole.eq_5 k_law09_SegmentWhole.eq_6 k_law09_SegmentWhole.eq_7 k_law09_SegmentWhole.eq_8 k_law09_SegmentWhole.eq_9 k_law09_SegmentWhole.eq_10 k_law09_SegmentWhole.eq_11 k_law09_SegmentWhole.eq_12 k_law09_SegmentWhole.eq_13 k_law09_SegmentWhole.eq_14 k_law09_SegmentWhole.eq_15 k_law09_SegmentWhole.eq_16 k_law09_SegmentWhole.eq_17 k_law09_SegmentWhole.eq_18 k_law09_SegmentWhole.eq_19 k_law09_SegmentWhole.eq_20 k_law09_SegmentWhole.eq_21 k_law09_SegmentWhole.eq_22 k_law09_SegmentWhole.eq_23 k_law09_SegmentWhole.eq_24 k_law09_SegmentWhole.eq_25 k_law09_SegmentWhole.eq_26 k_law09_SegmentWhole.eq_27 k_law09_SegmentWhole.eq_28 k_law09_SegmentWhole.eq_29 k_law09_SegmentWhole.eq_30 k_law09_SegmentWhole.eq_31 k_law09_SegmentWhole.eq_32 k_law09_SegmentWhole.eq_33 k_law09_SegmentWhole.eq_34 k_law09_SegmentWhole.eq_35 k_law09_SegmentWhole.eq_36 k_law09_SegmentWhole.eq_37 k_law09_SegmentWhole.eq_38 k_law09_SegmentWhole.eq_39 k_law09_SegmentWhole.eq_40 k_law09_SegmentWhole.eq_41 k_law09_SegmentWhole.eq_42
@[simp] theorem call_law09_SegmentWhole : callable Tryd.prog 11 = true := by decide +kernel
def k_law10_SeekAround : Nat → List Tmp
  | 0 => [1, 2, 3]
  | 1 => [1, 2, 3, 25]
  | 2 => [6]
  | 3 => [1, 3, 7]
  | 4 => [1, 3, 7, 8, 9]
  | 5 => [1, 3, 7, 8, 9, 10, 11]
  | 6 => [1, 3, 7, 8, 9, 10, 11, 12, 13]
  | 7 => [1, 3, 7, 8, 10, 12, 73]
  | 8 => [6]
  | 9 => [1, 3, 7, 8, 10, 12, 77]
  | 10 => [1, 3, 7, 8, 10, 12, 14, 15]
  | 11 => [1, 3, 7, 8, 10, 12, 103]
  | 12 => [6]
  | 13 => [1, 3, 7, 8, 10, 12, 105]
  | 14 => [7, 8, 10, 16, 17]
  | 15 => [131]
  | 16 => [6]
  | 17 => [6]
  | _ => []
attribute [simp] k_law10_SeekAround.eq_1 k_law10_SeekAround.eq_2 k_law10_SeekAround.eq_3 k_law10_SeekAround.eq_4 k_law10_SeekAround.eq_5 k_law10_SeekAround.eq_6 k_law10_SeekAround.eq_7 k_law10_SeekAround.eq_8 k_law10_SeekAround.eq_9 k_law10_SeekAround.eq_10 k_law10_SeekAround.eq_11 k_law10_SeekAround.eq_12 k_law10_SeekAround.eq_13 k_law10_SeekAround.eq_14 k_law10_SeekAround.eq_15 k_law10_SeekAround.eq_16 k_law10_SeekAround.eq_17 k_law10_SeekAround.eq_18
@[simp] theorem call_law10_SeekAround : callable Tryd.prog 12 = true := by decide +kernel
def k_law10_SeekErrors : Nat → List Tmp
  | 0 => [1, 2, 3]
  | 1 => [1, 2, 3, 20]
  | 2 => [6]
  | 3 => [1, 2, 3, 7]
  | 4 => [1, 2, 3, 7, 29]
  | 5 => [1, 2, 3, 7]
  | 6 => [1, 2, 3, 7, 32]
  | 7 => [1, 2, 3, 7]
  | 8 => [1, 2, 3, 7, 8, 9]
  | 9 => [1, 2, 3, 7, 8, 9, 10, 11]
  | 10 => [7, 8, 9, 10, 11, 12, 13]
  | 11 => [6]
  | _ => []
attribute [simp] k_law10_SeekErrors.eq_1 k_law10_SeekErrors.eq_2 k_law10_SeekErrors.eq_3 k_law10_SeekErrors.eq_4 k_law10_SeekErrors.eq_5 k_law10_SeekErrors.eq_6 k_law10_SeekErrors.eq_7 k_law10_SeekErrors.eq_8 k_law10_SeekErrors.eq_9 k_law10_SeekErrors.eq_10 k_law10_SeekErrors.eq_11 k_law10_SeekErrors.eq_12
@[simp] theorem call_law10_SeekErrors : callable Tryd.prog 13 = true := by decide +kernel
def k_law10_SeekGoes : Nat → List Tmp
  | 0 => [1, 2]
  | 1 => [1, 2, 27]
  | 2 => [4]
  | 3 => [1, 2, 5, 6]
  | 4 => [1, 2, 5, 36]
  | 5 => [4]
  | 6 => [1, 2, 5, 7, 8]
  | 7 => [1, 2, 5, 7, 8, 9]
  | 8 => [1, 2, 5, 7, 8, 9, 10, 11]
  | 9 => [1, 2, 5, 7, 8, 9, 10, 44]
  | 10 => [4]
  | 11 => [1, 2, 5, 7, 8, 9, 45]
  | 12 => [1, 2, 5, 7, 8, 9]
  | 13 => [1, 2, 5, 7, 8, 9, 12]
  | 14 => [1, 2, 5, 7, 8, 9, 12, 52]
  | 15 => [1, 2, 5, 7, 8, 9, 12]
  | 16 => [1, 2, 5, 7, 8, 9, 12, 13, 14]
  | 17 => [1, 2, 5, 7, 8, 12, 13, 68]
  | 18 => [4]
  | 19 => [1, 2, 5, 7, 8, 12, 13, 72]
  | 20 => [1, 2, 5, 7, 8, 12, 13]
  | 21 => [1, 2, 5, 7, 8, 9, 12]
  | 22 => [1, 2, 5, 7, 8, 9]
  | 23 => [1, 2, 5, 7, 8, 9, 15, 16]
  | 24 => [1, 2, 5, 7, 8, 9, 15, 88]
  | 25 => [4]
  | 26 => [1, 2, 5, 7, 8, 9, 89]
  | 27 => [1, 2, 5, 7, 8, 9]
  | 28 => [1, 2, 5, 7, 8, 9, 17]
  | 29 => [1, 2, 5, 7, 8, 9, 17, 97]
  | 30 => [1, 2, 5, 7, 8, 9, 17]
  | 31 => [1, 2, 5, 7, 8, 9, 17, 18, 19]
  | 32 => [1, 2, 5, 7, 8, 17, 18, 113]
  | 33 => [4]
  | 34 => [1, 2, 5, 7, 8, 17, 18, 115]
  | 35 => [1, 2, 5, 7, 8, 17, 18]
  | 36 => [1, 2, 5, 7, 8, 9, 17]
  | 37 => [4]
  | _ => []
attribute [simp] k_law10_SeekGoes.eq_1 k_law10_SeekGoes.eq_2 k_law10_SeekGoes.eq_3 k_law10_SeekGoes.eq_4 k_law10_SeekGoes.eq_5 k_law10_SeekGoes.eq_6 k_law10_SeekGoes.eq_7 k_law10_SeekGoes.eq_8 k_law10_SeekGoes.eq_9 k_law10_SeekGoes.eq_10 k_law10_SeekGoes.eq_11 k_law10_SeekGoes.eq_12 k_law10_SeekGoes.eq_13 k_law10_SeekGoes.eq_14 k_law10_SeekGoes.eq_15 k_law10_SeekGoes.eq_16 k_law10_SeekGoes.eq_17 k_law10_SeekGoes.eq_18 k_law10_SeekGoes.eq_19 k_law10_SeekGoes.eq_20 k_law10_SeekGoes.eq_21 k_law10_SeekGoes.eq_22 k_law10_SeekGoes.eq_23 k_law10_SeekGoes.eq_24 k_law10_SeekGoes.eq_25 k_law10_SeekGoes.eq_26 k_law10_SeekGoes.eq_27 k_law10_SeekGoes.eq_28 k_law10_SeekGoes.eq_29 k_law10_SeekGoes.eq_30 k_law10_SeekGoes.eq_31 k_law10_SeekGoes.eq_32 k_law10_SeekGoes.eq_33 k_law10_SeekGoes.eq_34 k_law10_SeekGoes.eq_35 k_law10_SeekGoes.eq_36 k_law10_SeekGoes.eq_37 k_law10_SeekGoes.eq_38
@[simp] theorem call_law10_SeekGoes : callable Tryd.prog 14 = true := by decide +kernel
def k_law10_SeekTells : Nat → List Tmp
  | 0 => [1, 2, 3]
  | 1 => [1, 2, 3, 20]
  | 2 => [6]
  | 3 => [1, 2, 3, 7, 8]
  | 4 => [1, 2, 3, 7, 8, 9, 10]
  | 5 => [1, 2, 3, 7, 8, 9, 10, 11, 12]
  | 6 => [7, 8, 9, 10, 11, 12, 13]
  | 7 => [6]
  | _ => []
attribute [simp] k_law10_SeekTells.eq_1 k_law10_SeekTells.eq_2 k_law10_SeekTells.eq_3 k_law10_SeekTells.eq_4 k_law10_SeekTells.eq_5 k_law10_SeekTells.eq_6 k_law10_SeekTells.eq_7 k_law10_SeekTells.eq_8
@[simp] theorem call_law10_SeekTells : callable Tryd.prog 15 = true := by decide +kernel
def k_law10_SeekWithin : Nat → List Tmp
  | 0 => [1, 2, 3]
  | 1 => [1, 2, 3, 27]
  | 2 => [6]
  | 3 => [1, 3, 7]
  | 4 => [1, 3, 7, 8, 9]
  | 5 => [1, 3, 7, 8, 9, 10, 11]
  | 6 => [1, 3, 7, 8, 9, 10, 11, 12, 13]
  | 7 => [1, 7, 8, 9, 10, 11, 12, 13, 14, 15]
  | 8 => [1, 7, 8, 10, 12, 14, 96]
  | 9 => [6]
  | 10 => [1, 7, 8, 10, 12, 14, 16]
  | 11 => [1, 7, 8, 10, 12, 14, 16, 17]
  | 12 => [1, 7, 8, 10, 12, 14, 16, 17, 100]
  | 13 => [1, 7, 8, 10, 12, 14, 16, 17]
  | 14 => [1, 7, 8, 10, 12, 14, 16, 17]
  | 15 => [1, 7, 8, 10, 12, 14, 16, 17, 141]
  | 16 => [6]
  | 17 => [7, 10, 16, 18]
  | 18 => [7, 10, 16, 18, 19]
  | 19 => [7, 10, 16, 18, 19, 147]
  | 20 => [7, 10, 16, 18, 19]
  | 21 => [7, 10, 16, 18, 19, 174]
  | 22 => [6]
  | 23 => [6]
  | _ => []
attribute [simp] k_law10_SeekWithin.eq_1 k_law10_SeekWithin.eq_2 k_law10_SeekWithin.eq_3 k_law10_SeekWithin.eq_4 k_law10_SeekWithin.eq_5 k_law10_SeekWithin.eq_6 k_law10_SeekWithin.eq_7 k_law10_SeekWithin.eq_8 k_law10_SeekWithin.eq_9 k_law10_SeekWithin.eq_10 k_law10_SeekWithin.eq_11 k_law10_SeekWithin.eq_12 k_law10_SeekWithin.eq_13 k_law10_SeekWithin.eq_14 k_law10_SeekWithin.eq_15 k_law10_SeekWithin.eq_16 k_law10_SeekWithin.eq_17 k_law10_SeekWithin.eq_18 k_law10_SeekWithin.eq_19 k_law10_SeekWithin.eq_20 k_law10_SeekWithin.eq_21 k_law10_SeekWithin.eq_22 k_law10_SeekWithin.eq_23 k_law10_SeekWithin.eq_24
@[simp] theorem call_law10_SeekWithin : callable Tryd.prog 16 = true := by decide +kernel
def k_law02_wakes : Nat → List Tmp
  | 0 => []
  | 1 => [1]
  | 2 => [1, 2, 3]
  | 3 => [1, 2, 3, 5]
  | 4 => [1, 2, 3, 5, 6, 7]
  | 5 => [0]
  | _ => []
attribute [simp] k_law02_wakes.eq_1 k_law02_wakes.eq_2 k_law02_wakes.eq_3 k_law02_wakes.eq_4 k_law02_wakes.eq_5 k_law02_wakes.eq_6
@[simp] theorem call_law02_wakes : callable Tryd.prog 17 = true := by decide +kernel
def k_utf_Pieces : Nat → List Tmp
  | 0 => [0]
  | 1 => [0, 3]
  | 2 => [0, 3, 4]
  | 3 => [0, 3, 4, 11]
  | 4 => [0, 3, 4, 5, 6]
  | 5 => [0, 3, 4, 5, 6, 7]
  | 6 => [0, 3, 4, 5, 7, 23]
  | 7 => [0, 3, 4, 7]
  | 8 => [0, 3, 4, 7]
  | 9 => [0, 3, 4]
  | 10 => [2]
  | _ => []
attribute [simp] k_utf_Pieces.eq_1 k_utf_Pieces.eq_2 k_utf_Pieces.eq_3 k_utf_Pieces.eq_4 k_utf_Pieces.eq_5 k_utf_Pieces.eq_6 k_utf_Pieces.eq_7 k_utf_Pieces.eq_8 k_utf_Pieces.eq_9 k_utf_Pieces.eq_10 k_utf_Pieces.eq_11
@[simp] theorem call_utf_Pieces : callable Tryd.prog 18 = true := by decide +kernel
def k_utf_Text : Nat → List Tmp
  | 0 => [0]
  | 1 => [0, 4]
  | 2 => [0, 4, 9, 10, 11]
  | 3 => [0, 4, 9, 10, 11, 12]
  | 4 => [0, 4, 6, 9, 10, 11]
  | 5 => [0, 4, 7, 8, 9, 10, 11]
  | 6 => [0, 4, 7, 9, 10, 11, 21]
  | 7 => [2, 3]
  | 8 => [0, 4, 9, 10, 11]
  | 9 => [0, 4, 9, 10, 11]
  | 10 => [2, 3]
  | _ => []
attribute [simp] k_utf_Text.eq_1 k_utf_Text.eq_2 k_utf_Text.eq_3 k_utf_Text.eq_4 k_utf_Text.eq_5 k_utf_Text.eq_6 k_utf_Text.eq_7 k_utf_Text.eq_8 k_utf_Text.eq_9 k_utf_Text.eq_10 k_utf_Text.eq_11
@[simp] theorem call_utf_Text : callable Tryd.prog 19 = true := by decide +kernel
def k_utf_Valid : Nat → List Tmp
  | 0 => [0]
  | 1 => [0, 3]
  | 2 => [0, 3, 9]
  | 3 => [0, 3, 4, 5]
  | 4 => [0, 3, 4, 18]
  | 5 => [2]
  | 6 => [0, 3]
  | 7 => [2]
  | _ => []
attribute [simp] k_utf_Valid.eq_1 k_utf_Valid.eq_2 k_utf_Valid.eq_3 k_utf_Valid.eq_4 k_utf_Valid.eq_5 k_utf_Valid.eq_6 k_utf_Valid.eq_7 k_utf_Valid.eq_8
@[simp] theorem call_utf_Valid : callable Tryd.prog 20 = true := by decide +kernel
def k_utf_Bytes : Nat → List Tmp
  | 0 => [0]
  | 1 => [0, 9]
  | 2 => [2, 3]
  | 3 => [0, 4]
  | 4 => [0, 4, 13]
  | 5 => [2, 3]
  | 6 => [0, 4, 5]
  | 7 => [0, 4, 5, 6]
  | 8 => [0, 4, 5, 6, 23]
  | 9 => [0, 4, 5, 6]
  | 10 => [0, 4, 5, 6]
  | 11 => [0, 4, 5, 6]
  | 12 => [5]
  | 13 => [2, 3]
  | _ => []
attribute [simp] k_utf_Bytes.eq_1 k_utf_Bytes.eq_2 k_utf_Bytes.eq_3 k_utf_Bytes.eq_4 k_utf_Bytes.eq_5 k_utf_Bytes.eq_6 k_utf_Bytes.eq_7 k_utf_Bytes.eq_8 k_utf_Bytes.eq_9 k_utf_Bytes.eq_10 k_utf_Bytes.eq_11 k_utf_Bytes.eq_12 k_utf_Bytes.eq_13 k_utf_Bytes.eq_14
@[simp] theorem call_utf_Bytes : callable Tryd.prog 21 = true := by decide +kernel
def k_keep_Pieces : Nat → List Tmp
  | 0 => [0, 1]
  | 1 => [0, 1, 10]
  | 2 => [4]
  | 3 => [0, 1, 5]
  | 4 => [0, 1, 5, 14]
  | 5 => [0, 1, 5]
  | 6 => [0, 1, 5, 25]
  | 7 => [4]
  | 8 => [4]
  | _ => []
attribute [simp] k_keep_Pieces.eq_1 k_keep_Pieces.eq_2 k_keep_Pieces.eq_3 k_keep_Pieces.eq_4 k_keep_Pieces.eq_5 k_keep_Pieces.eq_6 k_keep_Pieces.eq_7 k_keep_Pieces.eq_8 k_keep_Pieces.eq_9
@[simp] theorem call_keep_Pieces : callable Tryd.prog 22 = true := by decide +kernel
def k_ref02_Valid : Nat → List Tmp
  | 0 => [0]
  | 1 => [0, 3]
  | 2 => [0, 3, 4]
  | 3 => [0, 3, 4, 10]
  | 4 => [0, 3, 4]
  | 5 => [0, 3, 4, 37]
  | 6 => [2]
  | 7 => [2]
  | _ => []
attribute [simp] k_ref02_Valid.eq_1 k_ref02_Valid.eq_2 k_ref02_Valid.eq_3 k_ref02_Valid.eq_4 k_ref02_Valid.eq_5 k_ref02_Valid.eq_6 k_ref02_Valid.eq_7 k_ref02_Valid.eq_8
@[simp] theorem call_ref02_Valid : callable Tryd.prog 23 = true := by decide +kernel
def k_ref02_Text : Nat → List Tmp
  | 0 => [0]
  | 1 => [0, 4]
  | 2 => [0, 4, 5]
  | 3 => [0, 4, 5, 10]
  | 4 => [0, 4, 5]
  | 5 => [0, 4, 5, 6]
  | 6 => [0, 4, 5, 6, 19]
  | 7 => [2, 3]
  | 8 => [0, 4, 5]
  | 9 => [2, 3]
  | _ => []
attribute [simp] k_ref02_Text.eq_1 k_ref02_Text.eq_2 k_ref02_Text.eq_3 k_ref02_Text.eq_4 k_ref02_Text.eq_5 k_ref02_Text.eq_6 k_ref02_Text.eq_7 k_ref02_Text.eq_8 k_ref02_Text.eq_9 k_ref02_Text.eq_10
@[simp] theorem call_ref02_Text : callable Tryd.prog 24 = true := by decide +kernel
def k_ref02_Pieces : Nat → List Tmp
  | 0 => [0]
  | 1 => [0, 3]
  | 2 => [0, 3, 4]
  | 3 => [0, 3, 4, 12]
  | 4 => [0, 3, 4, 5]
  | 5 => [0, 3, 4, 5, 32]
  | 6 => [0, 3, 4, 5]
  | 7 => [0, 3, 4, 5, 6]
  | 8 => [0, 3, 4, 5, 6, 48]
  | 9 => [0, 3, 4, 5, 6, 7]
  | 10 => [0, 3, 4, 5, 6, 7, 54]
  | 11 => [0, 3, 4, 5, 6, 7]
  | 12 => [0, 3, 4, 5, 6, 7, 8]
  | 13 => [0, 3, 4, 5, 6, 7, 8, 63]
  | 14 => [0, 3, 4, 5, 6, 7, 8]
  | 15 => [0, 3, 4, 5, 6, 7, 8]
  | 16 => [0, 3, 4, 6]
  | 17 => [0, 3, 4, 6]
  | 18 => [0, 3, 4]
  | 19 => [2]
  | _ => []
attribute [simp] k_ref02_Pieces.eq_1 k_ref02_Pieces.eq_2 k_ref02_Pieces.eq_3 k_ref02_Pieces.eq_4 k_ref02_Pieces.eq_5 k_ref02_Pieces.eq_6 k_ref02_Pieces.eq_7 k_ref02_Pieces.eq_8 k_ref02_Pieces.eq_9 k_ref02_Pieces.eq_10 k_ref02_Pieces.eq_11 k_ref02_Pieces.eq_12 k_ref02_Pieces.eq_13 k_ref02_Pieces.eq_14 k_ref02_Pieces.eq_15 k_ref02_Pieces.eq_16 k_ref02_Pieces.eq_17 k_ref02_Pieces.eq_18 k_ref02_Pieces.eq_19 k_ref02_Pieces.eq_20
@[simp] theorem call_ref02_Pieces : callable Tryd.prog 25 = true := by decide +kernel
def k_ref02_Bytes : Nat → List Tmp
  | 0 => [0]
  | 1 => [0, 3]
  | 2 => [2]
  | 3 => [0, 7]
  | 4 => [2]
  | 5 => [0, 14]
  | 6 => [2]
  | 7 => [0, 27]
  | 8 => [2]
  | 9 => [2]
  | _ => []
attribute [simp] k_ref02_Bytes.eq_1 k_ref02_Bytes.eq_2 k_ref02_Bytes.eq_3 k_ref02_Bytes.eq_4 k_ref02_Bytes.eq_5 k_ref02_Bytes.eq_6 k_ref02_Bytes.eq_7 k_ref02_Bytes.eq_8 k_ref02_Bytes.eq_9 k_ref02_Bytes.eq_10
@[simp] theorem call_ref02_Bytes : callable Tryd.prog 26 = true := by decide +kernel
def k_keep_Ints : Nat → List Tmp
  | 0 => [0, 1]
  | 1 => [0, 1, 10]
  | 2 => [4]
  | 3 => [0, 1, 5]
  | 4 => [0, 1, 5, 14]
  | 5 => [0, 1, 5]
  | 6 => [0, 1, 5, 25]
  | 7 => [4]
  | 8 => [4]
  | _ => []
attribute [simp] k_keep_Ints.eq_1 k_keep_Ints.eq_2 k_keep_Ints.eq_3 k_keep_Ints.eq_4 k_keep_Ints.eq_5 k_keep_Ints.eq_6 k_keep_Ints.eq_7 k_keep_Ints.eq_8 k_keep_Ints.eq_9
@[simp] theorem call_keep_Ints : callable Tryd.prog 27 = true := by decide +kernel
def k_ref07_Table : Nat → List Tmp
  | 0 => [1]
  | 1 => [1, 20]
  | 2 => [2]
  | 3 => [1, 3]
  | 4 => [1, 3, 25]
  | 5 => [1, 3]
  | 6 => [1, 3, 4]
  | 7 => [1, 3, 73]
  | 8 => [2]
  | 9 => [1, 5]
  | 10 => [1, 5, 6]
  | 11 => [1, 5, 6, 78]
  | 12 => [1, 5, 6]
  | 13 => [1, 5, 6, 7]
  | 14 => [1, 5, 6, 7, 99]
  | 15 => [2]
  | 16 => [1, 5, 6, 102]
  | 17 => [1, 5, 6]
  | 18 => [1, 108]
  | 19 => [2]
  | 20 => [1, 111]
  | 21 => [2]
  | 22 => [1, 8]
  | 23 => [1, 8, 9]
  | 24 => [1, 8, 9, 114]
  | 25 => [1, 8, 9]
  | 26 => [1, 8, 9, 10]
  | 27 => [1, 8, 9, 10, 120]
  | 28 => [1, 8, 9, 10]
  | 29 => [1, 8, 9, 10, 132]
  | 30 => [2]
  | 31 => [1, 8, 9, 10, 142]
  | 32 => [1, 8, 9, 10]
  | 33 => [1, 149]
  | 34 => [2]
  | 35 => [1, 11]
  | 36 => [1, 11, 12]
  | 37 => [1, 11, 12, 156]
  | 38 => [1, 11, 12]
  | 39 => [1, 11, 12, 13]
  | 40 => [1, 11, 12, 13, 161]
  | 41 => [1, 11, 12, 13]
  | 42 => [1, 11, 12, 13, 171]
  | 43 => [2]
  | 44 => [1, 14]
  | 45 => [1, 14, 175]
  | 46 => [1, 14]
  | 47 => [1, 14, 15]
  | 48 => [1, 14, 15, 180]
  | 49 => [1, 14, 15]
  | 50 => [1, 14, 15, 16]
  | 51 => [1, 14, 15, 16, 17]
  | 52 => [1, 14, 15, 16, 17, 187]
  | 53 => [1, 14, 15, 16, 17]
  | 54 => [1, 14, 15, 16, 17]
  | 55 => [1, 14, 15, 210]
  | 56 => [2]
  | 57 => [2]
  | _ => []
attribute [simp] k_ref07_Table.eq_1 k_ref07_Table.eq_2 k_ref07_Table.eq_3 k_ref07_Table.eq_4 k_ref07_Table.eq_5 k_ref07_Table.eq_6 k_ref07_Table.eq_7 k_ref07_Table.eq_8 k_ref07_Table.eq_9 k_ref07_Table.eq_10 k_ref07_Table.eq_11 k_ref07_Table.eq_12 k_ref07_Table.eq_13 k_ref07_Table.eq_14 k_ref07_Table.eq_15 k_ref07_Table.eq_16 k_ref07_Table.eq_17 k_ref07_Table.eq_18 k_ref07_Table.eq_19 k_ref07_Table.eq_20 k_ref07_Table.eq_21 k_ref07_Table.eq_22 k_ref07_Table.eq_23 k_ref07_Table.eq_24 k_ref07_Table.eq_25 k_ref07_Table.eq_26 k_ref07_Table.eq_27 k_ref07_Table.eq_28 k_ref07_Table.eq_29 k_ref07_Table.eq_30 k_ref07_Table.eq_31 k_ref07_Table.eq_32 k_ref07_Table.eq_33 k_ref07_Table.eq_34 k_ref07_Table.eq_35 k_ref07_Table.eq_36 k_ref07_Table.eq_37 k_ref07_Table.eq_38 k_ref07_Table.eq_39 k_ref07_Table.eq_40 k_ref07_Table.eq_41 k_ref07_Table.eq_42 k_ref07_Table.eq_43 k_ref07_Table.eq_44 k_ref07_Table.eq_45 k_ref07_Table.eq_46 k_ref07_Table.eq_47 k_ref07_Table.eq_48 k_ref07_Table.eq_49 k_ref07_Table.eq_50 k_ref07_Table.eq_51 k_ref07_Table.eq_52 k_ref07_Table.eq_53 k_ref07_Table.eq_54 k_ref07_Table.eq_55 k_ref07_Table.eq_56 k_ref07_Table.eq_57 k_ref07_Table.eq_58
@[simp] theorem call_ref07_Table : callable Tryd.prog 28 = true := by decide +kernel
def k_law09_wakes : Nat → List Tmp
  | 0 => []
  | 1 => [1, 2]
  | 2 => [1, 2, 3, 4]
  | 3 => [1, 2, 3, 4, 6]
  | 4 => [0]
  | _ => []
attribute [simp] k_law09_wakes.eq_1 k_law09_wakes.eq_2 k_law09_wakes.eq_3 k_law09_wakes.eq_4 k_law09_wakes.eq_5
@[simp] theorem call_law09_wakes : callable Tryd.prog 29 = true := by decide +kernel
def k_segment_Of : Nat → List Tmp
  | 0 => [1, 2]
  | 1 => [1, 2, 6]
  | 2 => [1, 2, 6, 7]
  | 3 => [1, 2, 6, 7, 17, 18, 19]
  | 4 => [1, 2, 6, 7, 17, 18, 19, 20]
  | 5 => [1, 2, 6, 7, 9, 17, 18, 19]
  | 6 => [1, 2, 6, 7, 17, 18, 19]
  | 7 => [1, 2, 6, 7, 17, 18, 19]
  | 8 => [1, 6, 10, 11]
  | 9 => [1, 6, 10, 36]
  | 10 => [4, 5]
  | 11 => [6, 10]
  | 12 => [6, 10, 12]
  | 13 => [6, 10, 12, 43, 44, 45]
  | 14 => [6, 10, 12, 43, 44, 45, 46]
  | 15 => [6, 10, 12, 14, 43, 44, 45]
  | 16 => [6, 10, 12, 43, 44, 45]
  | 17 => [6, 10, 12, 43, 44, 45]
  | 18 => [4, 5]
  | _ => []
attribute [simp] k_segment_Of.eq_1 k_segment_Of.eq_2 k_segment_Of.eq_3 k_segment_Of.eq_4 k_segment_Of.eq_5 k_segment_Of.eq_6 k_segment_Of.eq_7 k_segment_Of.eq_8 k_segment_Of.eq_9 k_segment_Of.eq_10 k_segment_Of.eq_11 k_segment_Of.eq_12 k_segment_Of.eq_13 k_segment_Of.eq_14 k_segment_Of.eq_15 k_segment_Of.eq_16 k_segment_Of.eq_17 k_segment_Of.eq_18 k_segment_Of.eq_19
@[simp] theorem call_segment_Of : callable Tryd.prog 30 = true := by decide +kernel
def k_law06_Large : Nat → List Tmp
  | 0 => [1]
  | 1 => [2]
  | _ => []
attribute [simp] k_law06_Large.eq_1 k_law06_Large.eq_2
@[simp] theorem call_law06_Large : callable Tryd.prog 31 = true := by decide +kernel
def k_ref09_Of : Nat → List Tmp
  | 0 => [1, 2]
  | 1 => [1, 2, 6]
  | 2 => [1, 2, 6, 7]
  | 3 => [1, 2, 6, 7, 8]
  | 4 => [1, 2, 6, 7, 8, 18]
  | 5 => [1, 2, 6, 7, 8]
  | 6 => [1, 2, 6, 7, 8]
  | 7 => [1, 6, 9, 10]
  | 8 => [1, 6, 9, 10, 11]
  | 9 => [1, 6, 9, 10, 11, 12]
  | 10 => [1, 6, 9, 10, 11, 12, 38]
  | 11 => [1, 6, 9, 10, 11, 12]
  | 12 => [1, 6, 9, 10, 11, 12, 47]
  | 13 => [1, 6, 9, 10, 11, 12]
  | 14 => [1, 6, 9, 10, 11, 12]
  | 15 => [4, 5]
  | _ => []
attribute [simp] k_ref09_Of.eq_1 k_ref09_Of.eq_2 k_ref09_Of.eq_3 k_ref09_Of.eq_4 k_ref09_Of.eq_5 k_ref09_Of.eq_6 k_ref09_Of.eq_7 k_ref09_Of.eq_8 k_ref09_Of.eq_9 k_ref09_Of.eq_10 k_ref09_Of.eq_11 k_ref09_Of.eq_12 k_ref09_Of.eq_13 k_ref09_Of.eq_14 k_ref09_Of.eq_15 k_ref09_Of.eq_16
@[simp] theorem call_ref09_Of : callable Tryd.prog 32 = true := by decide +kernel
def k_segment_Cut : Nat → List Tmp
  | 0 => [1, 2]
  | 1 => [1, 6, 7]
  | 2 => [1, 6, 20]
  | 3 => [4, 5]
  | 4 => [1, 6, 8]
  | 5 => [1, 6, 8, 9]
  | 6 => [1, 8, 9, 25, 26, 27]
  | 7 => [1, 8, 9, 25, 26, 27, 28]
  | 8 => [1, 8, 9, 11, 25, 26, 27]
  | 9 => [1, 8, 11, 12, 25, 26, 27]
  | 10 => [1, 8, 11, 12, 25, 26, 27, 38]
  | 11 => [1, 8, 11, 25, 26, 27]
  | 12 => [1, 8, 9, 25, 26, 27]
  | 13 => [1, 8, 9, 25, 26, 27]
  | 14 => [4, 5]
  | _ => []
attribute [simp] k_segment_Cut.eq_1 k_segment_Cut.eq_2 k_segment_Cut.eq_3 k_segment_Cut.eq_4 k_segment_Cut.eq_5 k_segment_Cut.eq_6 k_segment_Cut.eq_7 k_segment_Cut.eq_8 k_segment_Cut.eq_9 k_segment_Cut.eq_10 k_segment_Cut.eq_11 k_segment_Cut.eq_12 k_segment_Cut.eq_13 k_segment_Cut.eq_14 k_segment_Cut.eq_15
@[simp] theorem call_segment_Cut : callable Tryd.prog 33 = true := by decide +kernel
def k_ref09_Cut : Nat → List Tmp
  | 0 => [1, 2]
  | 1 => [1, 6, 7]
  | 2 => [1, 6, 19]
  | 3 => [4, 5]
  | 4 => [1, 6, 8]
  | 5 => [1, 6, 8, 9]
  | 6 => [1, 6, 8, 9, 10]
  | 7 => [1, 6, 8, 9, 10, 23]
  | 8 => [1, 6, 8, 9, 10]
  | 9 => [1, 6, 8, 9, 10, 11]
  | 10 => [1, 6, 8, 9, 10, 11, 31]
  | 11 => [1, 6, 8, 9, 10, 11]
  | 12 => [1, 6, 8, 9, 10, 11, 38]
  | 13 => [1, 6, 8, 10, 11]
  | 14 => [1, 6, 8, 9, 10]
  | 15 => [4, 5]
  | _ => []
attribute [simp] k_ref09_Cut.eq_1 k_ref09_Cut.eq_2 k_ref09_Cut.eq_3 k_ref09_Cut.eq_4 k_ref09_Cut.eq_5 k_ref09_Cut.eq_6 k_ref09_Cut.eq_7 k_ref09_Cut.eq_8 k_ref09_Cut.eq_9 k_ref09_Cut.eq_10 k_ref09_Cut.eq_11 k_ref09_Cut.eq_12 k_ref09_Cut.eq_13 k_ref09_Cut.eq_14 k_ref09_Cut.eq_15 k_ref09_Cut.eq_16
@[simp] theorem call_ref09_Cut : callable Tryd.prog 34 = true := by decide +kernel
def k_keep_Texts : Nat → List Tmp
  | 0 => [0, 1]
  | 1 => [0, 1, 10]
  | 2 => [4]
  | 3 => [0, 1, 5]
  | 4 => [0, 1, 5, 14]
  | 5 => [0, 1, 5]
  | 6 => [0, 1, 5, 25]
  | 7 => [4]
  | 8 => [4]
  | _ => []
attribute [simp] k_keep_Texts.eq_1 k_keep_Texts.eq_2 k_keep_Texts.eq_3 k_keep_Texts.eq_4 k_keep_Texts.eq_5 k_keep_Texts.eq_6 k_keep_Texts.eq_7 k_keep_Texts.eq_8 k_keep_Texts.eq_9
@[simp] theorem call_keep_Texts : callable Tryd.prog 35 = true := by decide +kernel
def k_walk_Breaks : Nat → List Tmp
  | 0 => [1, 2]
  | 1 => [1, 2, 6, 7]
  | 2 => [1, 2, 6, 16]
  | 3 => [4, 5]
  | 4 => [1, 2, 6, 8]
  | 5 => [1, 2, 6, 8, 9]
  | 6 => [1, 2, 6, 8, 9]
  | 7 => [1, 2, 6, 8, 9, 26]
  | 8 => [1, 2, 6, 8, 9]
  | 9 => [1, 2, 6, 8, 9, 34]
  | 10 => [4, 5]
  | 11 => [1, 2, 6, 8, 9, 42]
  | 12 => [4, 5]
  | _ => []
attribute [simp] k_walk_Breaks.eq_1 k_walk_Breaks.eq_2 k_walk_Breaks.eq_3 k_walk_Breaks.eq_4 k_walk_Breaks.eq_5 k_walk_Breaks.eq_6 k_walk_Breaks.eq_7 k_walk_Breaks.eq_8 k_walk_Breaks.eq_9 k_walk_Breaks.eq_10 k_walk_Breaks.eq_11 k_walk_Breaks.eq_12 k_walk_Breaks.eq_13
@[simp] theorem call_walk_Breaks : callable Tryd.prog 36 = true := by decide +kernel
def k_law10_wakes : Nat → List Tmp
  | 0 => []
  | 1 => [1, 2]
  | 2 => [1, 2, 3, 4]
  | 3 => [1, 2, 3, 4, 5, 6]
  | 4 => [1, 2, 3, 4, 5, 6, 7, 8]
  | 5 => [1, 2, 3, 4, 5, 6, 7, 8, 9, 10]
  | 6 => [1, 2, 3, 4, 5, 6, 7, 8, 9, 10, 12]
  | 7 => [1, 2, 3, 4, 5, 6, 7, 8, 9, 10, 12, 14]
  | 8 => [3, 4, 5, 6, 7, 8, 9, 10, 12, 14, 15, 16]
  | 9 => [0]
  | _ => []
attribute [simp] k_law10_wakes.eq_1 k_law10_wakes.eq_2 k_law10_wakes.eq_3 k_law10_wakes.eq_4 k_law10_wakes.eq_5 k_law10_wakes.eq_6 k_law10_wakes.eq_7 k_law10_wakes.eq_8 k_law10_wakes.eq_9 k_law10_wakes.eq_10
@[simp] theorem call_law10_wakes : callable Tryd.prog 37 = true := by decide +kernel
def k_seek_Is : Nat → List Tmp
  | 0 => [1, 2, 3]
  | 1 => [1, 2, 8, 9]
  | 2 => [6, 7]
  | _ => []
attribute [simp] k_seek_Is.eq_1 k_seek_Is.eq_2 k_seek_Is.eq_3
@[simp] theorem call_seek_Is : callable Tryd.prog 38 = true := by decide +kernel
def k_seek_Next : Nat → List Tmp
  | 0 => [1, 2, 3]
  | 1 => [1, 2, 8, 9]
  | 2 => [1, 2, 8, 9, 18]
  | 3 => [6, 7]
  | 4 => [1, 2, 8]
  | 5 => [1, 2, 8, 32]
  | 6 => [1, 2, 8]
  | 7 => [6, 7]
  | _ => []
attribute [simp] k_seek_Next.eq_1 k_seek_Next.eq_2 k_seek_Next.eq_3 k_seek_Next.eq_4 k_seek_Next.eq_5 k_seek_Next.eq_6 k_seek_Next.eq_7 k_seek_Next.eq_8
@[simp] theorem call_seek_Next : callable Tryd.prog 39 = true := by decide +kernel
def k_seek_Prev : Nat → List Tmp
  | 0 => [1, 2, 3]
  | 1 => [1, 2, 8, 9]
  | 2 => [1, 2, 8, 9, 18]
  | 3 => [6, 7]
  | 4 => [1, 2, 8]
  | 5 => [1, 2, 8, 30]
  | 6 => [1, 2, 8]
  | 7 => [6, 7]
  | _ => []
attribute [simp] k_seek_Prev.eq_1 k_seek_Prev.eq_2 k_seek_Prev.eq_3 k_seek_Prev.eq_4 k_seek_Prev.eq_5 k_seek_Prev.eq_6 k_seek_Prev.eq_7 k_seek_Prev.eq_8
@[simp] theorem call_seek_Prev : callable Tryd.prog 40 = true := by decide +kernel
def k_ref10_At : Nat → List Tmp
  | 0 => [1, 2, 3, 6]
  | 1 => [1, 2, 6, 7, 8]
  | 2 => [1, 2, 6, 7, 18]
  | 3 => [6]
  | 4 => [1, 2, 6, 7, 27]
  | 5 => [6]
  | 6 => [1, 2, 6, 7, 9]
  | 7 => [1, 2, 6, 7, 9, 10]
  | 8 => [1, 2, 6, 7, 9, 10, 36]
  | 9 => [1, 2, 6, 7, 9, 10]
  | 10 => [1, 2, 6, 7, 9, 10, 39]
  | 11 => [1, 2, 6, 7, 9, 10]
  | 12 => [1, 2, 6, 7, 9, 10, 47]
  | 13 => [1, 2, 6, 7, 9, 10]
  | 14 => [1, 2, 6, 7, 9, 10, 59]
  | 15 => [1, 2, 6, 7, 9, 10]
  | 16 => [6]
  | _ => []
attribute [simp] k_ref10_At.eq_1 k_ref10_At.eq_2 k_ref10_At.eq_3 k_ref10_At.eq_4 k_ref10_At.eq_5 k_ref10_At.eq_6 k_ref10_At.eq_7 k_ref10_At.eq_8 k_ref10_At.eq_9 k_ref10_At.eq_10 k_ref10_At.eq_11 k_ref10_At.eq_12 k_ref10_At.eq_13 k_ref10_At.eq_14 k_ref10_At.eq_15 k_ref10_At.eq_16 k_ref10_At.eq_17
@[simp] theorem call_ref10_At : callable Tryd.prog 41 = true := by decide +kernel
def k_utf_begun : Nat → List Tmp
  | 0 => [0]
  | 1 => [0, 4, 5]
  | 2 => [0, 4, 16]
  | 3 => [2, 3]
  | 4 => [0, 4, 6, 7]
  | 5 => [0, 4, 6, 7, 8]
  | 6 => [0, 4, 6, 7, 8, 24]
  | 7 => [0, 4, 6, 7, 8]
  | 8 => [0, 4, 8, 44]
  | 9 => [2, 3]
  | 10 => [0, 4, 6, 7, 8]
  | 11 => [2, 3]
  | _ => []
attribute [simp] k_utf_begun.eq_1 k_utf_begun.eq_2 k_utf_begun.eq_3 k_utf_begun.eq_4 k_utf_begun.eq_5 k_utf_begun.eq_6 k_utf_begun.eq_7 k_utf_begun.eq_8 k_utf_begun.eq_9 k_utf_begun.eq_10 k_utf_begun.eq_11 k_utf_begun.eq_12
@[simp] theorem call_utf_begun : callable Tryd.prog 42 = true := by decide +kernel
def k_utf_value : Nat → List Tmp
  | 0 => [0]
  | 1 => [0, 7]
  | 2 => [2]
  | 3 => [0, 3]
  | 4 => [0, 3, 4]
  | 5 => [0, 3, 4, 23]
  | 6 => [0, 3, 4]
  | 7 => [0, 3, 4]
  | 8 => [2]
  | _ => []
attribute [simp] k_utf_value.eq_1 k_utf_value.eq_2 k_utf_value.eq_3 k_utf_value.eq_4 k_utf_value.eq_5 k_utf_value.eq_6 k_utf_value.eq_7 k_utf_value.eq_8 k_utf_value.eq_9
@[simp] theorem call_utf_value : callable Tryd.prog 43 = true := by decide +kernel
def k_Builder_WriteString : Nat → List Tmp
  | 0 => [0, 1]
  | 1 => [0, 1]
  | 2 => [0, 1]
  | 3 => [0, 4, 5]
  | _ => []
attribute [simp] k_Builder_WriteString.eq_1 k_Builder_WriteString.eq_2 k_Builder_WriteString.eq_3 k_Builder_WriteString.eq_4
@[simp] theorem call_Builder_WriteString : callable Tryd.prog 44 = true := by decide +kernel
def k_Builder_String : Nat → List Tmp
  | 0 => [0]
  | 1 => [0, 2]
  | _ => []
attribute [simp] k_Builder_String.eq_1 k_Builder_String.eq_2
@[simp] theorem call_Builder_String : callable Tryd.prog 45 = true := by decide +kernel
def k_scalar_Is : Nat → List Tmp
  | 0 => [0]
  | 1 => [4]
  | 2 => [2]
  | _ => []
attribute [simp] k_scalar_Is.eq_1 k_scalar_Is.eq_2 k_scalar_Is.eq_3
@[simp] theorem call_scalar_Is : callable Tryd.prog 46 = true := by decide +kernel
def k_utf_size : Nat → List Tmp
  | 0 => [0]
  | 1 => [0, 3]
  | 2 => [2]
  | 3 => [0, 6]
  | 4 => [2]
  | 5 => [9]
  | 6 => [2]
  | 7 => [2]
  | _ => []
attribute [simp] k_utf_size.eq_1 k_utf_size.eq_2 k_utf_size.eq_3 k_utf_size.eq_4 k_utf_size.eq_5 k_utf_size.eq_6 k_utf_size.eq_7 k_utf_size.eq_8
@[simp] theorem call_utf_size : callable Tryd.prog 47 = true := by decide +kernel
def k_ref02_begins : Nat → List Tmp
  | 0 => [0]
  | 1 => [0, 3]
  | 2 => [0, 3, 19]
  | 3 => [2]
  | 4 => [0, 3, 4]
  | 5 => [0, 3, 4, 20]
  | 6 => [0, 3, 4, 20, 21]
  | 7 => [2]
  | 8 => [0, 3, 4, 20, 23]
  | 9 => [0, 3, 4]
  | 10 => [0, 3, 4, 20, 29]
  | 11 => [0, 3, 4]
  | 12 => [0, 3, 4, 35]
  | 13 => [0, 3, 4]
  | 14 => [0, 3, 4, 6]
  | 15 => [0, 3, 4, 6, 44]
  | 16 => [0, 3, 4, 6]
  | 17 => [0, 3, 4, 6, 56]
  | 18 => [2]
  | 19 => [0, 3, 4, 6]
  | 20 => [0, 3, 4, 5]
  | 21 => [3, 4, 5, 7]
  | 22 => [3, 4, 5, 7, 70]
  | 23 => [3, 4, 5, 7]
  | 24 => [3, 4, 5, 7]
  | 25 => [4, 5, 8]
  | 26 => [4, 5]
  | 27 => [2]
  | _ => []
attribute [simp] k_ref02_begins.eq_1 k_ref02_begins.eq_2 k_ref02_begins.eq_3 k_ref02_begins.eq_4 k_ref02_begins.eq_5 k_ref02_begins.eq_6 k_ref02_begins.eq_7 k_ref02_begins.eq_8 k_ref02_begins.eq_9 k_ref02_begins.eq_10 k_ref02_begins.eq_11 k_ref02_begins.eq_12 k_ref02_begins.eq_13 k_ref02_begins.eq_14 k_ref02_begins.eq_15 k_ref02_begins.eq_16 k_ref02_begins.eq_17 k_ref02_begins.eq_18 k_ref02_begins.eq_19 k_ref02_begins.eq_20 k_ref02_begins.eq_21 k_ref02_begins.eq_22 k_ref02_begins.eq_23 k_ref02_begins.eq_24 k_ref02_begins.eq_25 k_ref02_begins.eq_26 k_ref02_begins.eq_27 k_ref02_begins.eq_28
@[simp] theorem call_ref02_begins : callable Tryd.prog 48 = true := by decide +kernel
def k_ref02_need : Nat → List Tmp
  | 0 => [0]
  | 1 => [0, 3]
  | 2 => [2]
  | 3 => [0, 6]
  | 4 => [2]
  | 5 => [0, 13]
  | 6 => [2]
  | 7 => [20]
  | 8 => [2]
  | 9 => [2]
  | _ => []
attribute [simp] k_ref02_need.eq_1 k_ref02_need.eq_2 k_ref02_need.eq_3 k_ref02_need.eq_4 k_ref02_need.eq_5 k_ref02_need.eq_6 k_ref02_need.eq_7 k_ref02_need.eq_8 k_ref02_need.eq_9 k_ref02_need.eq_10
@[simp] theorem call_ref02_need : callable Tryd.prog 49 = true := by decide +kernel
def k_ref01_Is : Nat → List Tmp
  | 0 => [0]
  | 1 => [2]
  | _ => []
attribute [simp] k_ref01_Is.eq_1 k_ref01_Is.eq_2
@[simp] theorem call_ref01_Is : callable Tryd.prog 50 = true := by decide +kernel
def k_ref07_counts : Nat → List Tmp
  | 0 => [1]
  | 1 => [1, 3]
  | 2 => [1, 3, 4]
  | 3 => [1, 3, 4, 10]
  | 4 => [1, 3, 4]
  | 5 => [1, 3, 4, 21]
  | 6 => [2]
  | 7 => [2]
  | _ => []
attribute [simp] k_ref07_counts.eq_1 k_ref07_counts.eq_2 k_ref07_counts.eq_3 k_ref07_counts.eq_4 k_ref07_counts.eq_5 k_ref07_counts.eq_6 k_ref07_counts.eq_7 k_ref07_counts.eq_8
@[simp] theorem call_ref07_counts : callable Tryd.prog 51 = true := by decide +kernel
def k_ref07_nexts : Nat → List Tmp
  | 0 => [1]
  | 1 => [1, 3]
  | 2 => [1, 3, 9]
  | 3 => [1, 3]
  | 4 => [1, 3, 4]
  | 5 => [1, 3, 4, 19]
  | 6 => [1, 3, 4]
  | 7 => [1, 3, 4, 44]
  | 8 => [2]
  | 9 => [2]
  | _ => []
attribute [simp] k_ref07_nexts.eq_1 k_ref07_nexts.eq_2 k_ref07_nexts.eq_3 k_ref07_nexts.eq_4 k_ref07_nexts.eq_5 k_ref07_nexts.eq_6 k_ref07_nexts.eq_7 k_ref07_nexts.eq_8 k_ref07_nexts.eq_9 k_ref07_nexts.eq_10
@[simp] theorem call_ref07_nexts : callable Tryd.prog 52 = true := by decide +kernel
def k_ref07_apart : Nat → List Tmp
  | 0 => [1]
  | 1 => [1, 3]
  | 2 => [1, 3, 4]
  | 3 => [1, 3, 4, 5]
  | 4 => [1, 3, 4, 5, 18]
  | 5 => [1, 3, 4, 5]
  | 6 => [1, 3, 4, 5]
  | 7 => [1, 3, 4, 5, 6]
  | 8 => [1, 3, 4, 5, 6, 28]
  | 9 => [1, 3, 4, 5, 6]
  | 10 => [1, 3, 4, 5, 6]
  | 11 => [1, 3, 4, 7]
  | 12 => [1, 3, 4, 7, 52]
  | 13 => [1, 3, 4, 7]
  | 14 => [1, 3, 4, 7, 8]
  | 15 => [1, 3, 4, 7, 8, 57]
  | 16 => [1, 3, 4, 7, 8]
  | 17 => [1, 3, 4, 7, 8, 9]
  | 18 => [1, 3, 4, 7, 8, 9, 62]
  | 19 => [1, 3, 4, 7, 8, 9]
  | 20 => [1, 3, 4, 7, 8, 9, 10]
  | 21 => [1, 3, 4, 7, 8, 9, 10, 68]
  | 22 => [1, 3, 4, 7, 8, 9, 10]
  | 23 => [1, 3, 4, 7, 8, 9, 10]
  | 24 => [2]
  | _ => []
attribute [simp] k_ref07_apart.eq_1 k_ref07_apart.eq_2 k_ref07_apart.eq_3 k_ref07_apart.eq_4 k_ref07_apart.eq_5 k_ref07_apart.eq_6 k_ref07_apart.eq_7 k_ref07_apart.eq_8 k_ref07_apart.eq_9 k_ref07_apart.eq_10 k_ref07_apart.eq_11 k_ref07_apart.eq_12 k_ref07_apart.eq_13 k_ref07_apart.eq_14 k_ref07_apart.eq_15 k_ref07_apart.eq_16 k_ref07_apart.eq_17 k_ref07_apart.eq_18 k_ref07_apart.eq_19 k_ref07_apart.eq_20 k_ref07_apart.eq_21 k_ref07_apart.eq_22 k_ref07_apart.eq_23 k_ref07_apart.eq_24 k_ref07_apart.eq_25
@[simp] theorem call_ref07_apart : callable Tryd.prog 53 = true := by decide +kernel
def k_law08_Two : Nat → List Tmp
  | 0 => [0]
  | 1 => [0]
  | _ => []
attribute [simp] k_law08_Two.eq_1 k_law08_Two.eq_2
@[simp] theorem call_law08_Two : callable Tryd.prog 54 = true := by decide +kernel
def k_keep_LargeLists : Nat → List Tmp
  | 0 => [0, 1]
  | 1 => [0, 1, 5]
  | 2 => [0, 1, 5, 6]
  | 3 => [0, 1, 5, 6, 15]
  | 4 => [0, 1, 5, 6]
  | 5 => [0, 1, 5, 6]
  | 6 => [4]
  | _ => []
attribute [simp] k_keep_LargeLists.eq_1 k_keep_LargeLists.eq_2 k_keep_LargeLists.eq_3 k_keep_LargeLists.eq_4 k_keep_LargeLists.eq_5 k_keep_LargeLists.eq_6 k_keep_LargeLists.eq_7
@[simp] theorem call_keep_LargeLists : callable Tryd.prog 55 = true := by decide +kernel
def k_ref08_Breaks : Nat → List Tmp
  | 0 => [1, 2]
  | 1 => [2, 6]
  | 2 => [2, 6, 7]
  | 3 => [2, 6, 7, 8]
  | 4 => [2, 6, 7, 8, 16]
  | 5 => [2, 6, 7, 8]
  | 6 => [2, 6, 7, 8, 27]
  | 7 => [2, 6, 7, 8]
  | 8 => [4, 5]
  | _ => []
attribute [simp] k_ref08_Breaks.eq_1 k_ref08_Breaks.eq_2 k_ref08_Breaks.eq_3 k_ref08_Breaks.eq_4 k_ref08_Breaks.eq_5 k_ref08_Breaks.eq_6 k_ref08_Breaks.eq_7 k_ref08_Breaks.eq_8 k_ref08_Breaks.eq_9
@[simp] theorem call_ref08_Breaks : callable Tryd.prog 56 = true := by decide +kernel
def k_walk_begun : Nat → List Tmp
  | 0 => [1]
  | 1 => [2, 3]
  | _ => []
attribute [simp] k_walk_begun.eq_1 k_walk_begun.eq_2
@[simp] theorem call_walk_begun : callable Tryd.prog 57 = true := by decide +kernel
def k_walker_step : Nat → List Tmp
  | 0 => [0, 1]
  | 1 => [0, 5, 6]
  | 2 => [0, 5, 6, 13]
  | 3 => [0, 6]
  | 4 => [0, 4]
  | _ => []
attribute [simp] k_walker_step.eq_1 k_walker_step.eq_2 k_walker_step.eq_3 k_walker_step.eq_4 k_walker_step.eq_5
@[simp] theorem call_walker_step : callable Tryd.prog 58 = true := by decide +kernel
def k_seek_of : Nat → List Tmp
  | 0 => [1, 2, 3]
  | 1 => [1, 2, 8, 9]
  | 2 => [1, 2, 8, 19]
  | 3 => [6, 7]
  | 4 => [1, 8, 22]
  | 5 => [6, 7]
  | 6 => [1, 8, 10]
  | 7 => [1, 8, 10, 32, 33, 34]
  | 8 => [1, 8, 10, 32, 33, 34, 35]
  | 9 => [1, 8, 10, 11, 12, 32, 33, 34]
  | 10 => [1, 8, 10, 32, 33, 34]
  | 11 => [1, 8, 10, 32, 33, 34]
  | 12 => [6, 7]
  | _ => []
attribute [simp] k_seek_of.eq_1 k_seek_of.eq_2 k_seek_of.eq_3 k_seek_of.eq_4 k_seek_of.eq_5 k_seek_of.eq_6 k_seek_of.eq_7 k_seek_of.eq_8 k_seek_of.eq_9 k_seek_of.eq_10 k_seek_of.eq_11 k_seek_of.eq_12 k_seek_of.eq_13
@[simp] theorem call_seek_of : callable Tryd.prog 59 = true := by decide +kernel
def k_breaks_has : Nat → List Tmp
  | 0 => [0, 1, 2]
  | 1 => [8]
  | 2 => [6]
  | _ => []
attribute [simp] k_breaks_has.eq_1 k_breaks_has.eq_2 k_breaks_has.eq_3
@[simp] theorem call_breaks_has : callable Tryd.prog 60 = true := by decide +kernel
def k_utf_of : Nat → List Tmp
  | 0 => [0, 2]
  | 1 => [0, 2, 6, 7]
  | 2 => [0, 2, 6, 7, 8]
  | 3 => [0, 2, 5, 6, 7]
  | 4 => [0, 2, 5, 6, 7, 19]
  | 5 => [2, 3]
  | 6 => [0, 2, 6, 7]
  | 7 => [2, 3]
  | _ => []
attribute [simp] k_utf_of.eq_1 k_utf_of.eq_2 k_utf_of.eq_3 k_utf_of.eq_4 k_utf_of.eq_5 k_utf_of.eq_6 k_utf_of.eq_7 k_utf_of.eq_8
@[simp] theorem call_utf_of : callable Tryd.prog 61 = true := by decide +kernel
def k_Builder_copyCheck : Nat → List Tmp
  | 0 => [0, 6]
  | 1 => [0]
  | 2 => [0, 19]
  | _ => []
attribute [simp] k_Builder_copyCheck.eq_1 k_Builder_copyCheck.eq_2 k_Builder_copyCheck.eq_3
@[simp] theorem call_Builder_copyCheck : callable Tryd.prog 62 = true := by decide +kernel
def k_scalar_sign : Nat → List Tmp
  | 0 => [0]
  | 1 => [0, 10]
  | 2 => [2, 3]
  | 3 => [4]
  | 4 => [2, 3]
  | _ => []
attribute [simp] k_scalar_sign.eq_1 k_scalar_sign.eq_2 k_scalar_sign.eq_3 k_scalar_sign.eq_4 k_scalar_sign.eq_5
@[simp] theorem call_scalar_sign : callable Tryd.prog 63 = true := by decide +kernel
def k_ref01_Count : Nat → List Tmp
  | 0 => [0, 1]
  | 1 => [0, 1, 15]
  | 2 => [4]
  | 3 => [4]
  | _ => []
attribute [simp] k_ref01_Count.eq_1 k_ref01_Count.eq_2 k_ref01_Count.eq_3 k_ref01_Count.eq_4
@[simp] theorem call_ref01_Count : callable Tryd.prog 64 = true := by decide +kernel
def k_ref08_States : Nat → List Tmp
  | 0 => [1, 2, 4]
  | 1 => [1, 2, 4, 10]
  | 2 => [4]
  | 3 => [1, 2, 4, 5]
  | 4 => [1, 2, 4, 5, 6]
  | 5 => [1, 2, 4, 5, 6, 16]
  | 6 => [1, 2, 4, 5, 6]
  | 7 => [1, 2, 4, 5, 6, 7]
  | 8 => [1, 2, 4, 5, 6, 7, 27]
  | 9 => [4]
  | 10 => [1, 2, 4, 5, 6]
  | 11 => [4]
  | _ => []
attribute [simp] k_ref08_States.eq_1 k_ref08_States.eq_2 k_ref08_States.eq_3 k_ref08_States.eq_4 k_ref08_States.eq_5 k_ref08_States.eq_6 k_ref08_States.eq_7 k_ref08_States.eq_8 k_ref08_States.eq_9 k_ref08_States.eq_10 k_ref08_States.eq_11 k_ref08_States.eq_12
@[simp] theorem call_ref08_States : callable Tryd.prog 65 = true := by decide +kernel
def k_valid_Table : Nat → List Tmp
  | 0 => [1]
  | 1 => [1, 3]
  | 2 => [2]
  | 3 => [1, 7]
  | 4 => [2]
  | 5 => [1, 11]
  | 6 => [2]
  | 7 => [1, 15]
  | 8 => [2]
  | 9 => [1, 19]
  | 10 => [2]
  | 11 => [1, 23]
  | 12 => [2]
  | 13 => [27]
  | 14 => [2]
  | 15 => [2]
  | _ => []
attribute [simp] k_valid_Table.eq_1 k_valid_Table.eq_2 k_valid_Table.eq_3 k_valid_Table.eq_4 k_valid_Table.eq_5 k_valid_Table.eq_6 k_valid_Table.eq_7 k_valid_Table.eq_8 k_valid_Table.eq_9 k_valid_Table.eq_10 k_valid_Table.eq_11 k_valid_Table.eq_12 k_valid_Table.eq_13 k_valid_Table.eq_14 k_valid_Table.eq_15 k_valid_Table.eq_16
@[simp] theorem call_valid_Table : callable Tryd.prog 66 = true := by decide +kernel
def k_walker_class : Nat → List Tmp
  | 0 => [0, 1]
  | 1 => [0, 1, 16]
  | 2 => [0, 4, 5]
  | 3 => [0, 6]
  | 4 => [0, 6, 7, 8]
  | 5 => [0, 6, 7, 28]
  | 6 => [0, 4, 5]
  | 7 => [0, 6, 9, 10]
  | 8 => [0, 6, 9, 10, 41]
  | 9 => [0, 9, 10]
  | 10 => [0, 4, 5]
  | _ => []
attribute [simp] k_walker_class.eq_1 k_walker_class.eq_2 k_walker_class.eq_3 k_walker_class.eq_4 k_walker_class.eq_5 k_walker_class.eq_6 k_walker_class.eq_7 k_walker_class.eq_8 k_walker_class.eq_9 k_walker_class.eq_10 k_walker_class.eq_11
@[simp] theorem call_walker_class : callable Tryd.prog 67 = true := by decide +kernel
def k_ref01_Below : Nat → List Tmp
  | 0 => [0]
  | 1 => [0]
  | 2 => [0, 7]
  | 3 => [2]
  | 4 => [2]
  | _ => []
attribute [simp] k_ref01_Below.eq_1 k_ref01_Below.eq_2 k_ref01_Below.eq_3 k_ref01_Below.eq_4 k_ref01_Below.eq_5
@[simp] theorem call_ref01_Below : callable Tryd.prog 69 = true := by decide +kernel
def k_ref04_Of : Nat → List Tmp
  | 0 => [0, 1]
  | 1 => [0, 1, 5]
  | 2 => [0, 1, 5, 6]
  | 3 => [0, 1, 5, 6, 14]
  | 4 => [0, 1, 5, 6]
  | 5 => [0, 1, 5, 6, 23]
  | 6 => [0, 1, 5, 6]
  | 7 => [4]
  | _ => []
attribute [simp] k_ref04_Of.eq_1 k_ref04_Of.eq_2 k_ref04_Of.eq_3 k_ref04_Of.eq_4 k_ref04_Of.eq_5 k_ref04_Of.eq_6 k_ref04_Of.eq_7 k_ref04_Of.eq_8
@[simp] theorem call_ref04_Of : callable Tryd.prog 70 = true := by decide +kernel
def k_valid_counts : Nat → List Tmp
  | 0 => [1]
  | 1 => [2]
  | _ => []
attribute [simp] k_valid_counts.eq_1 k_valid_counts.eq_2
@[simp] theorem call_valid_counts : callable Tryd.prog 71 = true := by decide +kernel
def k_valid_bands : Nat → List Tmp
  | 0 => [1]
  | 1 => [1, 5, 6, 7, 8]
  | 2 => [1, 5, 6, 7, 8, 9]
  | 3 => [1, 3, 4, 5, 6, 7, 8]
  | 4 => [1, 3, 4, 5, 6, 7, 8, 25]
  | 5 => [2]
  | 6 => [1, 5, 6, 7, 8, 51]
  | 7 => [2]
  | 8 => [1, 5, 6, 7, 8]
  | 9 => [2]
  | _ => []
attribute [simp] k_valid_bands.eq_1 k_valid_bands.eq_2 k_valid_bands.eq_3 k_valid_bands.eq_4 k_valid_bands.eq_5 k_valid_bands.eq_6 k_valid_bands.eq_7 k_valid_bands.eq_8 k_valid_bands.eq_9 k_valid_bands.eq_10
@[simp] theorem call_valid_bands : callable Tryd.prog 72 = true := by decide +kernel
def k_valid_classes : Nat → List Tmp
  | 0 => [1]
  | 1 => [1, 3]
  | 2 => [1, 3, 8, 9, 10, 11]
  | 3 => [1, 3, 8, 9, 10, 11, 12]
  | 4 => [1, 3, 5, 8, 9, 10, 11]
  | 5 => [1, 3, 8, 9, 10, 11]
  | 6 => [1, 3, 8, 9, 10, 11]
  | 7 => [1, 6, 7]
  | 8 => [2]
  | _ => []
attribute [simp] k_valid_classes.eq_1 k_valid_classes.eq_2 k_valid_classes.eq_3 k_valid_classes.eq_4 k_valid_classes.eq_5 k_valid_classes.eq_6 k_valid_classes.eq_7 k_valid_classes.eq_8 k_valid_classes.eq_9
@[simp] theorem call_valid_classes : callable Tryd.prog 73 = true := by decide +kernel
def k_valid_nexts : Nat → List Tmp
  | 0 => [1]
  | 1 => [2]
  | _ => []
attribute [simp] k_valid_nexts.eq_1 k_valid_nexts.eq_2
@[simp] theorem call_valid_nexts : callable Tryd.prog 74 = true := by decide +kernel
def k_valid_numbered : Nat → List Tmp
  | 0 => [1]
  | 1 => [1, 3]
  | 2 => [1, 3, 7, 8, 9, 10]
  | 3 => [1, 3, 7, 8, 9, 10, 11]
  | 4 => [1, 3, 4, 5, 7, 8, 9, 10]
  | 5 => [1, 3, 5, 6, 7, 8, 9, 10]
  | 6 => [1, 3, 5, 6, 7, 8, 9, 10, 18]
  | 7 => [1, 3, 6, 7, 8, 9, 10]
  | 8 => [1, 3, 7, 8, 9, 10, 26]
  | 9 => [2]
  | 10 => [1, 3, 7, 8, 9, 10]
  | 11 => [2]
  | _ => []
attribute [simp] k_valid_numbered.eq_1 k_valid_numbered.eq_2 k_valid_numbered.eq_3 k_valid_numbered.eq_4 k_valid_numbered.eq_5 k_valid_numbered.eq_6 k_valid_numbered.eq_7 k_valid_numbered.eq_8 k_valid_numbered.eq_9 k_valid_numbered.eq_10 k_valid_numbered.eq_11 k_valid_numbered.eq_12
@[simp] theorem call_valid_numbered : callable Tryd.prog 75 = true := by decide +kernel
def k_valid_least : Nat → List Tmp
  | 0 => [1]
  | 1 => [1, 7, 8]
  | 2 => [1, 7, 8, 9]
  | 3 => [1, 3, 7, 8]
  | 4 => [1, 3, 7, 8, 11, 12]
  | 5 => [1, 3, 7, 8, 11, 12, 13]
  | 6 => [1, 3, 4, 7, 8, 11, 12]
  | 7 => [1, 3, 7, 8, 11, 12, 19]
  | 8 => [2]
  | 9 => [1, 3, 7, 8, 11, 12]
  | 10 => [1, 7, 8]
  | 11 => [2]
  | _ => []
attribute [simp] k_valid_least.eq_1 k_valid_least.eq_2 k_valid_least.eq_3 k_valid_least.eq_4 k_valid_least.eq_5 k_valid_least.eq_6 k_valid_least.eq_7 k_valid_least.eq_8 k_valid_least.eq_9 k_valid_least.eq_10 k_valid_least.eq_11 k_valid_least.eq_12
@[simp] theorem call_valid_least : callable Tryd.prog 76 = true := by decide +kernel
def k_valid_columns : Nat → List Tmp
  | 0 => [1]
  | 1 => [1, 6, 7]
  | 2 => [1, 6, 7, 8]
  | 3 => [1, 3, 6, 7]
  | 4 => [1, 3, 6, 7, 10, 11]
  | 5 => [1, 3, 6, 7, 10, 11, 12]
  | 6 => [1, 3, 4, 6, 7, 10, 11]
  | 7 => [1, 3, 6, 7, 10, 11, 20]
  | 8 => [2]
  | 9 => [1, 3, 6, 7, 10, 11]
  | 10 => [1, 6, 7]
  | 11 => [2]
  | _ => []
attribute [simp] k_valid_columns.eq_1 k_valid_columns.eq_2 k_valid_columns.eq_3 k_valid_columns.eq_4 k_valid_columns.eq_5 k_valid_columns.eq_6 k_valid_columns.eq_7 k_valid_columns.eq_8 k_valid_columns.eq_9 k_valid_columns.eq_10 k_valid_columns.eq_11 k_valid_columns.eq_12
@[simp] theorem call_valid_columns : callable Tryd.prog 77 = true := by decide +kernel
def k_refine_Of : Nat → List Tmp
  | 0 => [0, 1]
  | 1 => [0, 1, 9]
  | 2 => [4, 5]
  | 3 => [0, 1, 6]
  | 4 => [0, 1, 6, 14]
  | 5 => [0, 1, 6]
  | 6 => [0, 1, 6, 23]
  | 7 => [4, 5]
  | 8 => [4, 5]
  | _ => []
attribute [simp] k_refine_Of.eq_1 k_refine_Of.eq_2 k_refine_Of.eq_3 k_refine_Of.eq_4 k_refine_Of.eq_5 k_refine_Of.eq_6 k_refine_Of.eq_7 k_refine_Of.eq_8 k_refine_Of.eq_9
@[simp] theorem call_refine_Of : callable Tryd.prog 78 = true := by decide +kernel
def k_valid_between : Nat → List Tmp
  | 0 => [0, 1, 2]
  | 1 => [6]
  | _ => []
attribute [simp] k_valid_between.eq_1 k_valid_between.eq_2
@[simp] theorem call_valid_between : callable Tryd.prog 79 = true := by decide +kernel
def k_valid_shaped : Nat → List Tmp
  | 0 => [1]
  | 1 => [2]
  | _ => []
attribute [simp] k_valid_shaped.eq_1 k_valid_shaped.eq_2
@[simp] theorem call_valid_shaped : callable Tryd.prog 80 = true := by decide +kernel
def k_valid_inOrder : Nat → List Tmp
  | 0 => [0, 1]
  | 1 => [0, 1, 8, 9, 10]
  | 2 => [0, 1, 8, 9, 10, 11]
  | 3 => [0, 1, 7, 8, 9, 10]
  | 4 => [0, 1, 7, 8, 9, 10, 20]
  | 5 => [4, 5]
  | 6 => [0, 1, 8, 9, 10, 24]
  | 7 => [0, 1, 8, 9, 10]
  | 8 => [0, 1, 8, 9, 10]
  | 9 => [4, 5]
  | _ => []
attribute [simp] k_valid_inOrder.eq_1 k_valid_inOrder.eq_2 k_valid_inOrder.eq_3 k_valid_inOrder.eq_4 k_valid_inOrder.eq_5 k_valid_inOrder.eq_6 k_valid_inOrder.eq_7 k_valid_inOrder.eq_8 k_valid_inOrder.eq_9 k_valid_inOrder.eq_10
@[simp] theorem call_valid_inOrder : callable Tryd.prog 81 = true := by decide +kernel
def k_slices_ContainsFunc_s_int : Nat → List Tmp
  | 0 => [0, 1]
  | 1 => [4]
  | _ => []
attribute [simp] k_slices_ContainsFunc_s_int.eq_1 k_slices_ContainsFunc_s_int.eq_2
@[simp] theorem call_slices_ContainsFunc_s_int : callable Tryd.prog 82 = true := by decide +kernel
def k_valid_nexts_1 : Nat → List Tmp
  | 0 => [0, 1]
  | 1 => [3]
  | _ => []
attribute [simp] k_valid_nexts_1.eq_1 k_valid_nexts_1.eq_2
@[simp] theorem call_valid_nexts_1 : callable Tryd.prog 83 = true := by decide +kernel
def k_slices_ContainsFunc_int : Nat → List Tmp
  | 0 => [0, 1]
  | 1 => [4]
  | _ => []
attribute [simp] k_slices_ContainsFunc_int.eq_1 k_slices_ContainsFunc_int.eq_2
@[simp] theorem call_slices_ContainsFunc_int : callable Tryd.prog 84 = true := by decide +kernel
def k_valid_nexts_1_1 : Nat → List Tmp
  | 0 => [0, 1]
  | 1 => [3]
  | _ => []
attribute [simp] k_valid_nexts_1_1.eq_1 k_valid_nexts_1_1.eq_2
@[simp] theorem call_valid_nexts_1_1 : callable Tryd.prog 85 = true := by decide +kernel
def k_valid_alike : Nat → List Tmp
  | 0 => [2, 3]
  | 1 => [2, 3, 5]
  | 2 => [2, 5, 6]
  | 3 => [2, 5, 6, 19]
  | 4 => [2, 5, 6]
  | 5 => [2, 5, 6, 7]
  | 6 => [2, 5, 6, 7, 37]
  | 7 => [4]
  | 8 => [2, 5, 6, 7, 39, 40]
  | 9 => [2, 5, 6, 7, 39, 40, 41]
  | 10 => [2, 5, 6, 7, 8, 39, 40]
  | 11 => [2, 5, 6, 7, 9, 39, 40]
  | 12 => [2, 5, 6, 7, 9, 11, 39, 40]
  | 13 => [2, 5, 6, 7, 9, 39, 40, 69]
  | 14 => [2, 5, 6, 7, 9, 39, 40]
  | 15 => [2, 5, 6, 7, 39, 40]
  | 16 => [2, 5, 6, 7, 39, 40]
  | 17 => [4]
  | _ => []
attribute [simp] k_valid_alike.eq_1 k_valid_alike.eq_2 k_valid_alike.eq_3 k_valid_alike.eq_4 k_valid_alike.eq_5 k_valid_alike.eq_6 k_valid_alike.eq_7 k_valid_alike.eq_8 k_valid_alike.eq_9 k_valid_alike.eq_10 k_valid_alike.eq_11 k_valid_alike.eq_12 k_valid_alike.eq_13 k_valid_alike.eq_14 k_valid_alike.eq_15 k_valid_alike.eq_16 k_valid_alike.eq_17 k_valid_alike.eq_18
@[simp] theorem call_valid_alike : callable Tryd.prog 86 = true := by decide +kernel
def k_slices_Equal_int : Nat → List Tmp
  | 0 => [0, 1]
  | 1 => [0, 1, 10]
  | 2 => [4]
  | 3 => [0, 1, 12, 13]
  | 4 => [0, 1, 12, 13, 14]
  | 5 => [0, 1, 5, 12, 13]
  | 6 => [0, 1, 12, 13, 24]
  | 7 => [4]
  | 8 => [0, 1, 12, 13]
  | 9 => [4]
  | _ => []
attribute [simp] k_slices_Equal_int.eq_1 k_slices_Equal_int.eq_2 k_slices_Equal_int.eq_3 k_slices_Equal_int.eq_4 k_slices_Equal_int.eq_5 k_slices_Equal_int.eq_6 k_slices_Equal_int.eq_7 k_slices_Equal_int.eq_8 k_slices_Equal_int.eq_9 k_slices_Equal_int.eq_10
@[simp] theorem call_slices_Equal_int : callable Tryd.prog 87 = true := by decide +kernel
def k_valid_column : Nat → List Tmp
  | 0 => [1, 2]
  | 1 => [1, 2, 5]
  | 2 => [1, 2, 5, 8, 9, 10, 11]
  | 3 => [1, 2, 5, 8, 9, 10, 11, 12]
  | 4 => [1, 2, 5, 7, 8, 9, 10, 11]
  | 5 => [1, 2, 5, 8, 9, 10, 11]
  | 6 => [1, 2, 5, 8, 9, 10, 11]
  | 7 => [4]
  | _ => []
attribute [simp] k_valid_column.eq_1 k_valid_column.eq_2 k_valid_column.eq_3 k_valid_column.eq_4 k_valid_column.eq_5 k_valid_column.eq_6 k_valid_column.eq_7 k_valid_column.eq_8
@[simp] theorem call_valid_column : callable Tryd.prog 88 = true := by decide +kernel
def k_valid_shaped_1 : Nat → List Tmp
  | 0 => [0, 1]
  | 1 => [3]
  | _ => []
attribute [simp] k_valid_shaped_1.eq_1 k_valid_shaped_1.eq_2
@[simp] theorem call_valid_shaped_1 : callable Tryd.prog 89 = true := by decide +kernel
def k_slices_IndexFunc_s_int : Nat → List Tmp
  | 0 => [0, 1]
  | 1 => [0, 1, 7, 8]
  | 2 => [0, 1, 7, 8, 9]
  | 3 => [0, 1, 5, 7, 8]
  | 4 => [0, 1, 5, 7, 8, 16]
  | 5 => [4]
  | 6 => [0, 1, 7, 8]
  | 7 => [4]
  | _ => []
attribute [simp] k_slices_IndexFunc_s_int.eq_1 k_slices_IndexFunc_s_int.eq_2 k_slices_IndexFunc_s_int.eq_3 k_slices_IndexFunc_s_int.eq_4 k_slices_IndexFunc_s_int.eq_5 k_slices_IndexFunc_s_int.eq_6 k_slices_IndexFunc_s_int.eq_7 k_slices_IndexFunc_s_int.eq_8
@[simp] theorem call_slices_IndexFunc_s_int : callable Tryd.prog 90 = true := by decide +kernel
def k_slices_IndexFunc_int : Nat → List Tmp
  | 0 => [0, 1]
  | 1 => [0, 1, 7, 8]
  | 2 => [0, 1, 7, 8, 9]
  | 3 => [0, 1, 5, 7, 8]
  | 4 => [0, 1, 5, 7, 8, 16]
  | 5 => [4]
  | 6 => [0, 1, 7, 8]
  | 7 => [4]
  | _ => []
attribute [simp] k_slices_IndexFunc_int.eq_1 k_slices_IndexFunc_int.eq_2 k_slices_IndexFunc_int.eq_3 k_slices_IndexFunc_int.eq_4 k_slices_IndexFunc_int.eq_5 k_slices_IndexFunc_int.eq_6 k_slices_IndexFunc_int.eq_7 k_slices_IndexFunc_int.eq_8
@[simp] theorem call_slices_IndexFunc_int : callable Tryd.prog 91 = true := by decide +kernel
def k_gosem_cut_vars : Nat → List Tmp
  | 0 => []
  | _ => []
attribute [simp] k_gosem_cut_vars.eq_1
@[simp] theorem call_gosem_cut_vars : callable Tryd.prog 112 = true := by decide +kernel
def keeps : FuncId → Nat → List Tmp := fun f => ([k_law02_UtfBack, k_law02_UtfForms, k_law02_UtfOdd, k_law02_UtfRows, k_law02_UtfTells, k_law09_SegmentAhead, k_law09_SegmentIll, k_law09_SegmentTells, k_law09_SegmentWhole, k_law10_SeekAround, k_law10_SeekErrors, k_law10_SeekGoes, k_law10_SeekTells, k_law10_SeekWithin, k_law02_wakes, k_utf_Pieces, k_utf_Text, k_utf_Valid, k_utf_Bytes, k_keep_Pieces, k_ref02_Valid, k_ref02_Text, k_ref02_Pieces, k_ref02_Bytes, k_keep_Ints, k_ref07_Table, k_law09_wakes, k_segment_Of, k_law06_Large, k_ref09_Of, k_segment_Cut, k_ref09_Cut, k_keep_Texts, k_walk_Breaks, k_law10_wakes, k_seek_Is, k_seek_Next, k_seek_Prev, k_ref10_At, k_utf_begun, k_utf_value, k_Builder_WriteString, k_Builder_String, k_scalar_Is, k_utf_size, k_ref02_begins, k_ref02_need, k_ref01_Is, k_ref07_counts, k_ref07_nexts, k_ref07_apart, k_law08_Two, k_keep_LargeLists, k_ref08_Breaks, k_walk_begun, k_walker_step, k_seek_of, k_breaks_has, k_utf_of, k_Builder_copyCheck, k_scalar_sign, k_ref01_Count, k_ref08_States, k_valid_Table, k_walker_class, (fun _ => []), k_ref01_Below, k_ref04_Of, k_valid_counts, k_valid_bands, k_valid_classes, k_valid_nexts, k_valid_numbered, k_valid_least, k_valid_columns, k_refine_Of, k_valid_between, k_valid_shaped, k_valid_inOrder, k_slices_ContainsFunc_s_int, k_valid_nexts_1, k_slices_ContainsFunc_int, k_valid_nexts_1_1, k_valid_alike, k_slices_Equal_int, k_valid_column, k_valid_shaped_1, k_slices_IndexFunc_s_int, k_slices_IndexFunc_int, (fun _ => []), (fun _ => []), (fun _ => []), (fun _ => []), (fun _ => []), (fun _ => []), (fun _ => []), (fun _ => []), (fun _ => []), (fun _ => []), (fun _ => []), (fun _ => []), (fun _ => []), (fun _ => []), (fun _ => []), (fun _ => []), (fun _ => []), (fun _ => []), (fun _ => []), (fun _ => []), k_gosem_cut_vars] : List (Nat → List Tmp)).getD (f - 3) (fun _ => [])
end Go.V
