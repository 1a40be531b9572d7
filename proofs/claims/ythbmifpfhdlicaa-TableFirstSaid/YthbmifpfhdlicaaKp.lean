/- A part of the proof of TableFirst: contracts of functions, or what these lean on. No condition. -/
import Derived.Test.YthbmifpfhdlicaaVTy
import Derived.Test.YthbmifpfhdlicaaVM4
namespace Go.V
open Go.Proofs
theorem mixed : Try.prog.follows .mixedOrders = true := by decide +kernel
abbrev Tb (tbl : Tbl) (G : Nat → Option (List PV)) : Prop := ∀ f, Impl Try.prog G f (tbl f)
noncomputable abbrev En (tbl : Tbl) (G : Nat → Option (List PV)) (n : Nat) (k : Nat → List Tmp) (p : List Tmp) : Env := { P := Try.prog, tbl := tbl, G := G, nt := n, gs := [], keep := k, pin := p }
def k_law06_TableBack : Nat → List Tmp
  | 0 => [1, 3, 5]
  | 1 => [1, 3, 5, 25]
  | 2 => [6]
  | 3 => [1, 3, 5, 7, 8]
  | 4 => [1, 3, 5, 7, 32]
  | 5 => [1, 3, 5, 7, 49]
  | 6 => [6]
  | 7 => [1, 3, 5, 7, 9, 10]
  | 8 => [1, 3, 5, 7, 9, 10, 11]
  | 9 => [1, 5, 7, 96]
  | 10 => [6]
  | 11 => [1, 5, 12]
  | 12 => [1, 12]
  | 13 => [1, 14]
  | 14 => [1, 126]
  | 15 => [6]
  | 16 => [1, 15, 16]
  | 17 => [1, 15, 133]
  | 18 => [6]
  | 19 => [1, 17, 18]
  | 20 => [6]
  | _ => []
attribute [simp] k_law06_TableBack.eq_1 k_law06_TableBack.eq_2 k_law06_TableBack.eq_3 k_law06_TableBack.eq_4 k_law06_TableBack.eq_5 k_law06_TableBack.eq_6 k_law06_TableBack.eq_7 k_law06_TableBack.eq_8 k_law06_TableBack.eq_9 k_law06_TableBack.eq_10 k_law06_TableBack.eq_11 k_law06_TableBack.eq_12 k_law06_TableBack.eq_13 k_law06_TableBack.eq_14 k_law06_TableBack.eq_15 k_law06_TableBack.eq_16 k_law06_TableBack.eq_17 k_law06_TableBack.eq_18 k_law06_TableBack.eq_19 k_law06_TableBack.eq_20 k_law06_TableBack.eq_21
@[simp] theorem call_law06_TableBack : callable Try.prog 3 = true := by decide +kernel
def k_law06_TableCodes : Nat → List Tmp
  | 0 => [2, 3, 4]
  | 1 => [2, 3, 4, 27]
  | 2 => [6]
  | 3 => [2, 3, 4, 7]
  | 4 => [2, 3, 4, 7, 8, 9]
  | 5 => [2, 3, 4, 7, 8, 9, 10, 11]
  | 6 => [2, 3, 4, 7, 8, 9, 10, 11, 12, 13]
  | 7 => [2, 3, 4, 7, 8, 9, 10, 11, 12, 13, 14, 15]
  | 8 => [2, 3, 4, 7, 8, 9, 10, 11, 12, 13, 14, 15, 16]
  | 9 => [6]
  | _ => []
attribute [simp] k_law06_TableCodes.eq_1 k_law06_TableCodes.eq_2 k_law06_TableCodes.eq_3 k_law06_TableCodes.eq_4 k_law06_TableCodes.eq_5 k_law06_TableCodes.eq_6 k_law06_TableCodes.eq_7 k_law06_TableCodes.eq_8 k_law06_TableCodes.eq_9 k_law06_TableCodes.eq_10
@[simp] theorem call_law06_TableCodes : callable Try.prog 4 = true := by decide +kernel
def k_law06_TableCut : Nat → List Tmp
  | 0 => [1, 2, 3]
  | 1 => [1, 2, 3, 19]
  | 2 => [6]
  | 3 => [1, 2, 3, 7, 8]
  | 4 => [1, 2, 3, 7, 27]
  | 5 => [6]
  | 6 => [1, 2, 7, 59]
  | 7 => [6]
  | 8 => [1, 2, 9]
  | 9 => [2, 9, 10]
  | 10 => [2, 9, 11]
  | 11 => [2, 9, 11]
  | 12 => [11, 12]
  | 13 => [11, 12]
  | 14 => [11, 12, 14]
  | 15 => [11, 14, 16]
  | 16 => [11, 14, 16, 17]
  | 17 => [14, 16, 17, 109]
  | 18 => [14, 16, 17]
  | 19 => [6]
  | _ => []
attribute [simp] k_law06_TableCut.eq_1 k_law06_TableCut.eq_2 k_law06_TableCut.eq_3 k_law06_TableCut.eq_4 k_law06_TableCut.eq_5 k_law06_TableCut.eq_6 k_law06_TableCut.eq_7 k_law06_TableCut.eq_8 k_law06_TableCut.eq_9 k_law06_TableCut.eq_10 k_law06_TableCut.eq_11 k_law06_TableCut.eq_12 k_law06_TableCut.eq_13 k_law06_TableCut.eq_14 k_law06_TableCut.eq_15 k_law06_TableCut.eq_16 k_law06_TableCut.eq_17 k_law06_TableCut.eq_18 k_law06_TableCut.eq_19 k_law06_TableCut.eq_20
@[simp] theorem call_law06_TableCut : callable Try.prog 5 = true := by decide +kernel
def k_law06_TableFirst : Nat → List Tmp
  | 0 => [2, 3]
  | 1 => [2, 3, 35]
  | 2 => [4]
  | 3 => [2, 3, 5, 6]
  | 4 => [2, 3, 5, 43]
  | 5 => [4]
  | 6 => [2, 3, 5, 47]
  | 7 => [4]
  | 8 => [2, 3, 7]
  | 9 => [2, 3, 7, 8]
  | 10 => [3, 7, 8, 61]
  | 11 => [3, 7]
  | 12 => [3, 7, 8]
  | 13 => [3, 7, 8, 73]
  | 14 => [3, 7]
  | 15 => [3, 7, 8]
  | 16 => [3, 7, 8]
  | 17 => [3, 7, 8, 96]
  | 18 => [3, 7]
  | 19 => [3, 7, 8]
  | 20 => [3, 7, 8, 108]
  | 21 => [3, 7]
  | 22 => [3, 7, 8]
  | 23 => [3, 7, 8, 121]
  | 24 => [7]
  | 25 => [7, 8]
  | 26 => [8, 10]
  | 27 => [4]
  | _ => []
attribute [simp] k_law06_TableFirst.eq_1 k_law06_TableFirst.eq_2 k_law06_TableFirst.eq_3 k_law06_TableFirst.eq_4 k_law06_TableFirst.eq_5 k_law06_TableFirst.eq_6 k_law06_TableFirst.eq_7 k_law06_TableFirst.eq_8 k_law06_TableFirst.eq_9 k_law06_TableFirst.eq_10 k_law06_TableFirst.eq_11 k_law06_TableFirst.eq_12 k_law06_TableFirst.eq_13 k_law06_TableFirst.eq_14 k_law06_TableFirst.eq_15 k_law06_TableFirst.eq_16 k_law06_TableFirst.eq_17 k_law06_TableFirst.eq_18 k_law06_TableFirst.eq_19 k_law06_TableFirst.eq_20 k_law06_TableFirst.eq_21 k_law06_TableFirst.eq_22 k_law06_TableFirst.eq_23 k_law06_TableFirst.eq_24 k_law06_TableFirst.eq_25 k_law06_TableFirst.eq_26 k_law06_TableFirst.eq_27 k_law06_TableFirst.eq_28
@[simp] theorem call_law06_TableFirst : callable Try.prog 6 = true := by decide +kernel
def k_law06_TableLengths : Nat → List Tmp
  | 0 => [1]
  | 1 => [3, 4, 5]
  | 2 => [3, 4, 5, 6]
  | 3 => [3, 4, 5, 6, 47]
  | 4 => [2]
  | 5 => [3, 4, 5, 6, 7]
  | 6 => [3, 4, 5, 6, 7, 50]
  | 7 => [3, 4, 5, 6, 7]
  | 8 => [3, 4, 5, 65]
  | 9 => [2]
  | 10 => [2]
  | _ => []
attribute [simp] k_law06_TableLengths.eq_1 k_law06_TableLengths.eq_2 k_law06_TableLengths.eq_3 k_law06_TableLengths.eq_4 k_law06_TableLengths.eq_5 k_law06_TableLengths.eq_6 k_law06_TableLengths.eq_7 k_law06_TableLengths.eq_8 k_law06_TableLengths.eq_9 k_law06_TableLengths.eq_10 k_law06_TableLengths.eq_11
@[simp] theorem call_law06_TableLengths : callable Try.prog 7 = true := by decide +kernel
def k_law06_TablePlaces : Nat → List Tmp
  | 0 => [1]
  | 1 => [1, 13]
  | 2 => [2]
  | 3 => [1, 3, 4]
  | 4 => [1, 3, 21]
  | 5 => [2]
  | 6 => [1, 3, 79]
  | 7 => [2]
  | 8 => [1, 3, 5]
  | 9 => [1, 3, 5, 6]
  | 10 => [1, 3, 5, 6, 84]
  | 11 => [1, 3, 5, 6]
  | 12 => [1, 3, 5, 6, 129]
  | 13 => [2]
  | 14 => [1, 3, 5, 6]
  | 15 => [1, 3, 5, 7]
  | 16 => [1, 3, 5, 7, 136]
  | 17 => [1, 3, 5, 7]
  | 18 => [1, 3, 5, 7, 8]
  | 19 => [1, 3, 5, 7, 8, 142]
  | 20 => [1, 3, 5, 7, 8]
  | 21 => [1, 3, 5, 7, 8, 158]
  | 22 => [2]
  | 23 => [1, 3, 5, 7, 8]
  | 24 => [1, 3, 5, 9]
  | 25 => [1, 3, 5, 9, 165]
  | 26 => [1, 3, 5, 9]
  | 27 => [1, 3, 5, 9, 186]
  | 28 => [2]
  | 29 => [3, 10]
  | 30 => [10, 11]
  | 31 => [2]
  | _ => []
attribute [simp] k_law06_TablePlaces.eq_1 k_law06_TablePlaces.eq_2 k_law06_TablePlaces.eq_3 k_law06_TablePlaces.eq_4 k_law06_TablePlaces.eq_5 k_law06_TablePlaces.eq_6 k_law06_TablePlaces.eq_7 k_law06_TablePlaces.eq_8 k_law06_TablePlaces.eq_9 k_law06_TablePlaces.eq_10 k_law06_TablePlaces.eq_11 k_law06_TablePlaces.eq_12 k_law06_TablePlaces.eq_13 k_law06_TablePlaces.eq_14 k_law06_TablePlaces.eq_15 k_law06_TablePlaces.eq_16 k_law06_TablePlaces.eq_17 k_law06_TablePlaces.eq_18 k_law06_TablePlaces.eq_19 k_law06_TablePlaces.eq_20 k_law06_TablePlaces.eq_21 k_law06_TablePlaces.eq_22 k_law06_TablePlaces.eq_23 k_law06_TablePlaces.eq_24 k_law06_TablePlaces.eq_25 k_law06_TablePlaces.eq_26 k_law06_TablePlaces.eq_27 k_law06_TablePlaces.eq_28 k_law06_TablePlaces.eq_29 k_law06_TablePlaces.eq_30 k_law06_TablePlaces.eq_31 k_law06_TablePlaces.eq_32
@[simp] theorem call_law06_TablePlaces : callable Try.prog 8 = true := by decide +kernel
def k_law07_ValidAlike : Nat → List Tmp
  | 0 => [2, 3]
  | 1 => [2, 3, 25]
  | 2 => [4]
  | 3 => [2, 3, 5]
  | 4 => [2, 6, 7, 8]
  | 5 => [2, 6, 7, 9, 10, 11]
  | 6 => [2, 6, 7, 9, 82]
  | 7 => [4]
  | 8 => [4]
  | _ => []
attribute [simp] k_law07_ValidAlike.eq_1 k_law07_ValidAlike.eq_2 k_law07_ValidAlike.eq_3 k_law07_ValidAlike.eq_4 k_law07_ValidAlike.eq_5 k_law07_ValidAlike.eq_6 k_law07_ValidAlike.eq_7 k_law07_ValidAlike.eq_8 k_law07_ValidAlike.eq_9
@[simp] theorem call_law07_ValidAlike : callable Try.prog 9 = true := by decide +kernel
def k_law07_ValidBreaks : Nat → List Tmp
  | 0 => [1, 2]
  | 1 => [1, 2, 15]
  | 2 => [4]
  | 3 => [1, 5, 6]
  | 4 => [1, 5, 6, 7]
  | 5 => [1, 5, 6, 7, 25]
  | 6 => [1, 5, 6, 7]
  | 7 => [1, 5, 6, 7]
  | 8 => [5, 6, 8]
  | 9 => [5, 6]
  | 10 => [5, 6, 9]
  | 11 => [5, 6, 9, 10]
  | 12 => [5, 6, 9, 10, 58]
  | 13 => [5, 6, 9, 10]
  | 14 => [5, 6, 9, 10, 11]
  | 15 => [5, 6, 9, 10, 11, 63]
  | 16 => [5, 6, 9, 10, 11]
  | 17 => [5, 6, 9, 10, 11]
  | 18 => [5, 6, 9, 12]
  | 19 => [5, 6, 12, 73]
  | 20 => [5, 6, 12]
  | 21 => [4]
  | _ => []
attribute [simp] k_law07_ValidBreaks.eq_1 k_law07_ValidBreaks.eq_2 k_law07_ValidBreaks.eq_3 k_law07_ValidBreaks.eq_4 k_law07_ValidBreaks.eq_5 k_law07_ValidBreaks.eq_6 k_law07_ValidBreaks.eq_7 k_law07_ValidBreaks.eq_8 k_law07_ValidBreaks.eq_9 k_law07_ValidBreaks.eq_10 k_law07_ValidBreaks.eq_11 k_law07_ValidBreaks.eq_12 k_law07_ValidBreaks.eq_13 k_law07_ValidBreaks.eq_14 k_law07_ValidBreaks.eq_15 k_law07_ValidBreaks.eq_16 k_law07_ValidBreaks.eq_17 k_law07_ValidBreaks.eq_18 k_law07_ValidBreaks.eq_19 k_law07_ValidBreaks.eq_20 k_law07_ValidBreaks.eq_21 k_law07_ValidBreaks.eq_22
@[simp] theorem call_law07_ValidBreaks : callable Try.prog 10 = true := by decide +kernel
def k_law07_ValidClasses : Nat → List Tmp
  | 0 => [2, 3]
  | 1 => [2, 3, 21]
  | 2 => [4]
  | 3 => [2, 5, 6]
  | 4 => [2, 5, 6, 7]
  | 5 => [2, 5, 6, 7, 8]
  | 6 => [2, 5, 6, 7, 8, 41]
  | 7 => [2, 5, 6, 7, 8]
  | 8 => [2, 5, 6, 7, 8, 51]
  | 9 => [2, 5, 6, 7, 8]
  | 10 => [2, 5, 6, 7, 8, 65]
  | 11 => [2, 5, 6, 7, 8]
  | 12 => [2, 5, 6, 7, 9]
  | 13 => [2, 5, 6, 7, 9, 76]
  | 14 => [2, 5, 6, 7, 9]
  | 15 => [2, 5, 6, 7, 9]
  | 16 => [2, 5, 6, 10]
  | 17 => [2, 125]
  | 18 => [4]
  | 19 => [2, 146]
  | 20 => [4]
  | 21 => [2, 11]
  | 22 => [2, 11, 12]
  | 23 => [2, 11, 12]
  | 24 => [11, 12]
  | 25 => [11, 12, 13]
  | 26 => [11, 12, 13, 175]
  | 27 => [11, 12, 13]
  | 28 => [11, 12, 13]
  | 29 => [4]
  | _ => []
attribute [simp] k_law07_ValidClasses.eq_1 k_law07_ValidClasses.eq_2 k_law07_ValidClasses.eq_3 k_law07_ValidClasses.eq_4 k_law07_ValidClasses.eq_5 k_law07_ValidClasses.eq_6 k_law07_ValidClasses.eq_7 k_law07_ValidClasses.eq_8 k_law07_ValidClasses.eq_9 k_law07_ValidClasses.eq_10 k_law07_ValidClasses.eq_11 k_law07_ValidClasses.eq_12 k_law07_ValidClasses.eq_13 k_law07_ValidClasses.eq_14 k_law07_ValidClasses.eq_15 k_law07_ValidClasses.eq_16 k_law07_ValidClasses.eq_17 k_law07_ValidClasses.eq_18 k_law07_ValidClasses.eq_19 k_law07_ValidClasses.eq_20 k_law07_ValidClasses.eq_21 k_law07_ValidClasses.eq_22 k_law07_ValidClasses.eq_23 k_law07_ValidClasses.eq_24 k_law07_ValidClasses.eq_25 k_law07_ValidClasses.eq_26 k_law07_ValidClasses.eq_27 k_law07_ValidClasses.eq_28 k_law07_ValidClasses.eq_29 k_law07_ValidClasses.eq_30
@[simp] theorem call_law07_ValidClasses : callable Try.prog 11 = true := by decide +kernel
def k_law07_ValidOne : Nat → List Tmp
  | 0 => [2, 3]
  | 1 => [2, 3, 36]
  | 2 => [4]
  | 3 => [2, 3, 5]
  | 4 => [2, 3, 5, 6]
  | 5 => [2, 3, 5, 6, 7]
  | 6 => [2, 3, 5, 6, 7, 43]
  | 7 => [2, 3, 5, 6, 7]
  | 8 => [2, 3, 5, 6, 7, 8, 9]
  | 9 => [2, 3, 5, 6, 7, 8, 9]
  | 10 => [2, 3, 5, 6, 7, 8, 9, 10]
  | 11 => [2, 3, 5, 6, 7, 8, 9, 10, 73]
  | 12 => [2, 3, 5, 6, 7, 8, 9, 10]
  | 13 => [2, 3, 5, 6, 7, 8, 9, 10, 11]
  | 14 => [2, 3, 5, 6, 7, 8, 9, 10, 11, 12]
  | 15 => [2, 3, 5, 6, 7, 8, 9, 10, 11, 12, 13]
  | 16 => [2, 3, 5, 6, 7, 8, 9, 10, 11, 12, 13, 96]
  | 17 => [2, 3, 5, 6, 7, 8, 9, 10, 11, 12, 13]
  | 18 => [2, 3, 5, 6, 7, 8, 9, 10, 11, 12, 13]
  | 19 => [2, 3, 5, 6, 7, 8, 9, 10, 11, 109]
  | 20 => [2, 3, 5, 6, 7, 8, 9, 10]
  | 21 => [4]
  | _ => []
attribute [simp] k_law07_ValidOne.eq_1 k_law07_ValidOne.eq_2 k_law07_ValidOne.eq_3 k_law07_ValidOne.eq_4 k_law07_ValidOne.eq_5 k_law07_ValidOne.eq_6 k_law07_ValidOne.eq_7 k_law07_ValidOne.eq_8 k_law07_ValidOne.eq_9 k_law07_ValidOne.eq_10 k_law07_ValidOne.eq_11 k_law07_ValidOne.eq_12 k_law07_ValidOne.eq_13 k_law07_ValidOne.eq_14 k_law07_ValidOne.eq_15 k_law07_ValidOne.eq_16 k_law07_ValidOne.eq_17 k_law07_ValidOne.eq_18 k_law07_ValidOne.eq_19 k_law07_ValidOne.eq_20 k_law07_ValidOne.eq_21 k_law07_ValidOne.eq_22
@[simp] theorem call_law07_ValidOne : callable Try.prog 12 = true := by decide +kernel
def k_law07_ValidStates : Nat → List Tmp
  | 0 => [2, 3]
  | 1 => [2, 3, 16]
  | 2 => [4]
  | 3 => [2, 3, 5]
  | 4 => [2, 5, 6, 7]
  | 5 => [2, 5, 6, 7, 8]
  | 6 => [2, 5, 6, 7, 8]
  | 7 => [2, 5, 6, 7, 8]
  | 8 => [2, 5, 6, 7, 8, 9]
  | 9 => [2, 5, 6, 7, 8, 9, 76]
  | 10 => [2, 5, 6, 7, 8, 9]
  | 11 => [2, 5, 6, 7, 8, 9, 10]
  | 12 => [2, 5, 6, 7, 8, 9, 10, 82]
  | 13 => [2, 5, 6, 7, 8, 9, 10]
  | 14 => [2, 5, 6, 7, 8, 9, 10, 94]
  | 15 => [2, 5, 6, 7, 8, 9, 10]
  | 16 => [2, 5, 6, 7, 8, 9, 10, 112]
  | 17 => [2, 5, 6, 7, 8, 9, 10]
  | 18 => [2, 5, 6, 7, 11]
  | 19 => [2, 5, 6, 7, 11, 129]
  | 20 => [4]
  | 21 => [2, 5, 6, 144]
  | 22 => [4]
  | 23 => [2, 6, 146]
  | 24 => [6, 12]
  | 25 => [6, 12]
  | 26 => [12]
  | 27 => [13]
  | 28 => [174]
  | 29 => [4]
  | 30 => [4]
  | _ => []
attribute [simp] k_law07_ValidStates.eq_1 k_law07_ValidStates.eq_2 k_law07_ValidStates.eq_3 k_law07_ValidStates.eq_4 k_law07_ValidStates.eq_5 k_law07_ValidStates.eq_6 k_law07_ValidStates.eq_7 k_law07_ValidStates.eq_8 k_law07_ValidStates.eq_9 k_law07_ValidStates.eq_10 k_law07_ValidStates.eq_11 k_law07_ValidStates.eq_12 k_law07_ValidStates.eq_13 k_law07_ValidStates.eq_14 k_law07_ValidStates.eq_15 k_law07_ValidStates.eq_16 k_law07_ValidStates.eq_17 k_law07_ValidStates.eq_18 k_law07_ValidStates.eq_19 k_law07_ValidStates.eq_20 k_law07_ValidStates.eq_21 k_law07_ValidStates.eq_22 k_law07_ValidStates.eq_23 k_law07_ValidStates.eq_24 k_law07_ValidStates.eq_25 k_law07_ValidStates.eq_26 k_law07_ValidStates.eq_27 k_law07_ValidStates.eq_28 k_law07_ValidStates.eq_29 k_law07_ValidStates.eq_30 k_law07_ValidStates.eq_31
@[simp] theorem call_law07_ValidStates : callable Try.prog 13 = true := by decide +kernel
def k_law07_ValidTells : Nat → List Tmp
  | 0 => [1, 3, 5]
  | 1 => [1, 3, 5, 18]
  | 2 => [6]
  | 3 => [1, 3, 5, 7]
  | 4 => [1, 3, 5, 7, 8, 9]
  | 5 => [3, 5, 7, 8, 9, 10, 11]
  | 6 => [6]
  | _ => []
attribute [simp] k_law07_ValidTells.eq_1 k_law07_ValidTells.eq_2 k_law07_ValidTells.eq_3 k_law07_ValidTells.eq_4 k_law07_ValidTells.eq_5 k_law07_ValidTells.eq_6 k_law07_ValidTells.eq_7
@[simp] theorem call_law07_ValidTells : callable Try.prog 14 = true := by decide +kernel
def k_law08_WalkAhead : Nat → List Tmp
  | 0 => [1, 3, 5]
  | 1 => [1, 3, 7, 8]
  | 2 => [1, 3, 7, 8, 35]
  | 3 => [6]
  | 4 => [1, 3, 8, 9, 10]
  | 5 => [1, 3, 9, 10, 11, 12]
  | 6 => [1, 3, 9, 10, 11, 12, 13, 14]
  | 7 => [1, 3, 9, 11, 13, 14, 68]
  | 8 => [6]
  | 9 => [1, 3, 9, 11, 13, 82]
  | 10 => [6]
  | 11 => [1, 3, 13, 15, 16]
  | 12 => [3, 13, 15, 16, 17]
  | 13 => [6]
  | _ => []
attribute [simp] k_law08_WalkAhead.eq_1 k_law08_WalkAhead.eq_2 k_law08_WalkAhead.eq_3 k_law08_WalkAhead.eq_4 k_law08_WalkAhead.eq_5 k_law08_WalkAhead.eq_6 k_law08_WalkAhead.eq_7 k_law08_WalkAhead.eq_8 k_law08_WalkAhead.eq_9 k_law08_WalkAhead.eq_10 k_law08_WalkAhead.eq_11 k_law08_WalkAhead.eq_12 k_law08_WalkAhead.eq_13 k_law08_WalkAhead.eq_14
@[simp] theorem call_law08_WalkAhead : callable Try.prog 15 = true := by decide +kernel
def k_law08_WalkBands : Nat → List Tmp
  | 0 => [2, 3]
  | 1 => [2, 3, 18]
  | 2 => [4]
  | 3 => [2, 3, 5]
  | 4 => [2, 3, 5, 6, 7]
  | 5 => [2, 3, 5, 6, 7, 38]
  | 6 => [2, 3, 5, 6, 7]
  | 7 => [2, 3, 5, 8]
  | 8 => [2, 3, 5, 8, 9, 10]
  | 9 => [2, 3, 5, 9, 10, 11]
  | 10 => [2, 3, 92]
  | 11 => [4]
  | 12 => [2, 3, 13]
  | 13 => [13, 15]
  | 14 => [4]
  | _ => []
attribute [simp] k_law08_WalkBands.eq_1 k_law08_WalkBands.eq_2 k_law08_WalkBands.eq_3 k_law08_WalkBands.eq_4 k_law08_WalkBands.eq_5 k_law08_WalkBands.eq_6 k_law08_WalkBands.eq_7 k_law08_WalkBands.eq_8 k_law08_WalkBands.eq_9 k_law08_WalkBands.eq_10 k_law08_WalkBands.eq_11 k_law08_WalkBands.eq_12 k_law08_WalkBands.eq_13 k_law08_WalkBands.eq_14 k_law08_WalkBands.eq_15
@[simp] theorem call_law08_WalkBands : callable Try.prog 16 = true := by decide +kernel
def k_law08_WalkSteps : Nat → List Tmp
  | 0 => [1, 2]
  | 1 => [1, 2, 20]
  | 2 => [4]
  | 3 => [1, 2, 5]
  | 4 => [1, 2, 5, 6]
  | 5 => [1, 2, 5, 6, 25]
  | 6 => [1, 2, 5, 6]
  | 7 => [1, 2, 5, 6, 7, 8]
  | 8 => [1, 2, 5, 6, 7, 8, 9, 10]
  | 9 => [1, 2, 5, 6, 7, 8, 9, 48]
  | 10 => [4]
  | 11 => [1, 2, 5, 6, 7, 9, 50]
  | 12 => [12]
  | 13 => [4]
  | 14 => [1, 2, 6, 9, 81]
  | 15 => [4]
  | 16 => [1, 2, 5, 6]
  | 17 => [4]
  | _ => []
attribute [simp] k_law08_WalkSteps.eq_1 k_law08_WalkSteps.eq_2 k_law08_WalkSteps.eq_3 k_law08_WalkSteps.eq_4 k_law08_WalkSteps.eq_5 k_law08_WalkSteps.eq_6 k_law08_WalkSteps.eq_7 k_law08_WalkSteps.eq_8 k_law08_WalkSteps.eq_9 k_law08_WalkSteps.eq_10 k_law08_WalkSteps.eq_11 k_law08_WalkSteps.eq_12 k_law08_WalkSteps.eq_13 k_law08_WalkSteps.eq_14 k_law08_WalkSteps.eq_15 k_law08_WalkSteps.eq_16 k_law08_WalkSteps.eq_17 k_law08_WalkSteps.eq_18
@[simp] theorem call_law08_WalkSteps : callable Try.prog 17 = true := by decide +kernel
def k_law08_WalkTells : Nat → List Tmp
  | 0 => [1, 2, 3]
  | 1 => [1, 2, 3, 24]
  | 2 => [6]
  | 3 => [1, 2, 3, 7]
  | 4 => [1, 2, 3, 7, 8, 9]
  | 5 => [1, 2, 3, 7, 8, 9, 10, 11]
  | 6 => [1, 2, 3, 7, 8, 9, 10, 11, 12, 13]
  | 7 => [1, 3, 7, 8, 9, 10, 11, 12, 13, 14, 15]
  | 8 => [1, 7, 8, 9, 10, 11, 12, 13, 14, 15, 16, 17]
  | 9 => [1, 7, 12, 13, 16, 17, 105]
  | 10 => [6]
  | 11 => [6]
  | _ => []
attribute [simp] k_law08_WalkTells.eq_1 k_law08_WalkTells.eq_2 k_law08_WalkTells.eq_3 k_law08_WalkTells.eq_4 k_law08_WalkTells.eq_5 k_law08_WalkTells.eq_6 k_law08_WalkTells.eq_7 k_law08_WalkTells.eq_8 k_law08_WalkTells.eq_9 k_law08_WalkTells.eq_10 k_law08_WalkTells.eq_11 k_law08_WalkTells.eq_12
@[simp] theorem call_law08_WalkTells : callable Try.prog 18 = true := by decide +kernel
def k_law06_Large : Nat → List Tmp
  | 0 => [1]
  | 1 => [2]
  | _ => []
attribute [simp] k_law06_Large.eq_1 k_law06_Large.eq_2
@[simp] theorem call_law06_Large : callable Try.prog 19 = true := by decide +kernel
def k_law06_wakes : Nat → List Tmp
  | 0 => []
  | 1 => [1]
  | 2 => [1, 2, 3]
  | 3 => [1, 2, 3, 4, 5]
  | 4 => [1, 2, 3, 4, 5, 7]
  | 5 => [1, 2, 3, 4, 5, 7, 9]
  | 6 => [0]
  | _ => []
attribute [simp] k_law06_wakes.eq_1 k_law06_wakes.eq_2 k_law06_wakes.eq_3 k_law06_wakes.eq_4 k_law06_wakes.eq_5 k_law06_wakes.eq_6 k_law06_wakes.eq_7
@[simp] theorem call_law06_wakes : callable Try.prog 20 = true := by decide +kernel
def k_table_Encode : Nat → List Tmp
  | 0 => [1]
  | 1 => [1, 14]
  | 2 => [2, 3]
  | 3 => [1, 4]
  | 4 => [1, 5]
  | 5 => [1, 5, 30, 31, 32, 33]
  | 6 => [1, 5, 30, 31, 32, 33, 34]
  | 7 => [1, 5, 7, 30, 31, 32, 33]
  | 8 => [1, 5, 30, 31, 32, 33]
  | 9 => [1, 5, 30, 31, 32, 33]
  | 10 => [1, 5, 47, 48, 49, 50]
  | 11 => [1, 5, 47, 48, 49, 50, 51]
  | 12 => [1, 5, 9, 47, 48, 49, 50]
  | 13 => [1, 5, 9, 47, 48, 49, 50, 54, 55, 56]
  | 14 => [1, 5, 9, 47, 48, 49, 50, 54, 55, 56, 57]
  | 15 => [1, 5, 9, 11, 47, 48, 49, 50, 54, 55, 56]
  | 16 => [1, 5, 9, 47, 48, 49, 50, 54, 55, 56]
  | 17 => [1, 5, 9, 47, 48, 49, 50, 54, 55, 56]
  | 18 => [1, 5, 47, 48, 49, 50]
  | 19 => [5]
  | 20 => [2, 3]
  | _ => []
attribute [simp] k_table_Encode.eq_1 k_table_Encode.eq_2 k_table_Encode.eq_3 k_table_Encode.eq_4 k_table_Encode.eq_5 k_table_Encode.eq_6 k_table_Encode.eq_7 k_table_Encode.eq_8 k_table_Encode.eq_9 k_table_Encode.eq_10 k_table_Encode.eq_11 k_table_Encode.eq_12 k_table_Encode.eq_13 k_table_Encode.eq_14 k_table_Encode.eq_15 k_table_Encode.eq_16 k_table_Encode.eq_17 k_table_Encode.eq_18 k_table_Encode.eq_19 k_table_Encode.eq_20 k_table_Encode.eq_21
@[simp] theorem call_table_Encode : callable Try.prog 21 = true := by decide +kernel
def k_table_Length : Nat → List Tmp
  | 0 => [0, 1, 2]
  | 1 => [0, 1, 2, 19]
  | 2 => [6]
  | 3 => [6]
  | _ => []
attribute [simp] k_table_Length.eq_1 k_table_Length.eq_2 k_table_Length.eq_3 k_table_Length.eq_4
@[simp] theorem call_table_Length : callable Try.prog 22 = true := by decide +kernel
def k_table_Decode : Nat → List Tmp
  | 0 => [0, 2]
  | 1 => [0, 2, 15]
  | 2 => [2, 3]
  | 3 => [0, 2, 20]
  | 4 => [2, 3]
  | 5 => [0, 2, 28]
  | 6 => [2, 3]
  | 7 => [0, 2, 4]
  | 8 => [0, 2, 4, 5, 6]
  | 9 => [0, 2, 4, 5, 6, 69]
  | 10 => [2, 3]
  | 11 => [0, 2, 4, 5, 6, 7]
  | 12 => [0, 2, 4, 5, 7, 71, 72]
  | 13 => [0, 2, 4, 5, 7, 71, 72, 73]
  | 14 => [0, 2, 4, 5, 7, 8, 71, 72]
  | 15 => [0, 2, 4, 5, 7, 71, 72]
  | 16 => [0, 2, 4, 5, 7, 71, 72]
  | 17 => [0, 2, 4, 5, 7, 71, 72]
  | 18 => [0, 2, 4, 5, 7, 96, 97]
  | 19 => [0, 2, 4, 5, 7, 96, 97, 98]
  | 20 => [0, 2, 4, 5, 7, 10, 96, 97]
  | 21 => [0, 2, 4, 5, 7, 10, 96, 97, 99, 105, 106, 107]
  | 22 => [0, 2, 4, 5, 7, 10, 96, 97, 99, 105, 106, 107, 108]
  | 23 => [0, 2, 4, 5, 7, 10, 12, 96, 97, 99, 105, 106, 107]
  | 24 => [0, 2, 4, 5, 7, 10, 96, 97, 99, 105, 106, 107]
  | 25 => [0, 2, 4, 5, 7, 10, 96, 97, 99, 105, 106, 107]
  | 26 => [0, 2, 4, 5, 7, 96, 97]
  | 27 => [0, 2, 4, 5, 7, 96, 97]
  | 28 => [0, 2, 4, 5, 7, 96, 97]
  | 29 => [2, 4, 13, 14]
  | 30 => [2, 4, 13, 140]
  | 31 => [2, 3]
  | 32 => [2, 4]
  | 33 => [2, 3]
  | _ => []
attribute [simp] k_table_Decode.eq_1 k_table_Decode.eq_2 k_table_Decode.eq_3 k_table_Decode.eq_4 k_table_Decode.eq_5 k_table_Decode.eq_6 k_table_Decode.eq_7 k_table_Decode.eq_8 k_table_Decode.eq_9 k_table_Decode.eq_10 k_table_Decode.eq_11 k_table_Decode.eq_12 k_table_Decode.eq_13 k_table_Decode.eq_14 k_table_Decode.eq_15 k_table_Decode.eq_16 k_table_Decode.eq_17 k_table_Decode.eq_18 k_table_Decode.eq_19 k_table_Decode.eq_20 k_table_Decode.eq_21 k_table_Decode.eq_22 k_table_Decode.eq_23 k_table_Decode.eq_24 k_table_Decode.eq_25 k_table_Decode.eq_26 k_table_Decode.eq_27 k_table_Decode.eq_28 k_table_Decode.eq_29 k_table_Decode.eq_30 k_table_Decode.eq_31 k_table_Decode.eq_32 k_table_Decode.eq_33 k_table_Decode.eq_34
@[simp] theorem call_table_Decode : callable Try.prog 23 = true := by decide +kernel
def k_keep_Table : Nat → List Tmp
  | 0 => [2, 3]
  | 1 => [4]
  | _ => []
attribute [simp] k_keep_Table.eq_1 k_keep_Table.eq_2
@[simp] theorem call_keep_Table : callable Try.prog 24 = true := by decide +kernel
def k_keep_Bytes : Nat → List Tmp
  | 0 => [0, 1]
  | 1 => [4]
  | _ => []
attribute [simp] k_keep_Bytes.eq_1 k_keep_Bytes.eq_2
@[simp] theorem call_keep_Bytes : callable Try.prog 25 = true := by decide +kernel
def k_keep_OwnTable : Nat → List Tmp
  | 0 => [1, 2]
  | 1 => [2]
  | _ => []
attribute [simp] k_keep_OwnTable.eq_1 k_keep_OwnTable.eq_2
@[simp] theorem call_keep_OwnTable : callable Try.prog 26 = true := by decide +kernel
def k_ref06_Encode : Nat → List Tmp
  | 0 => [1]
  | 1 => [1, 4]
  | 2 => [1, 4, 41]
  | 3 => [2, 3]
  | 4 => [1, 4, 5]
  | 5 => [1, 4, 5, 6]
  | 6 => [1, 4, 5, 6, 56]
  | 7 => [1, 4, 5, 6]
  | 8 => [1, 4, 5, 6, 7]
  | 9 => [1, 4, 5, 6, 7, 77]
  | 10 => [2, 3]
  | 11 => [1, 4, 5, 6]
  | 12 => [1, 4, 5, 8]
  | 13 => [1, 4, 5, 8, 89]
  | 14 => [1, 4, 5, 8]
  | 15 => [1, 4, 5, 8, 100]
  | 16 => [2, 3]
  | 17 => [1, 4, 5, 8, 9]
  | 18 => [1, 4, 5, 8, 9, 104]
  | 19 => [1, 4, 5, 8, 9]
  | 20 => [1, 4, 5, 8, 9, 116]
  | 21 => [2, 3]
  | 22 => [1, 4, 5, 8, 9]
  | 23 => [5]
  | 24 => [2, 3]
  | _ => []
attribute [simp] k_ref06_Encode.eq_1 k_ref06_Encode.eq_2 k_ref06_Encode.eq_3 k_ref06_Encode.eq_4 k_ref06_Encode.eq_5 k_ref06_Encode.eq_6 k_ref06_Encode.eq_7 k_ref06_Encode.eq_8 k_ref06_Encode.eq_9 k_ref06_Encode.eq_10 k_ref06_Encode.eq_11 k_ref06_Encode.eq_12 k_ref06_Encode.eq_13 k_ref06_Encode.eq_14 k_ref06_Encode.eq_15 k_ref06_Encode.eq_16 k_ref06_Encode.eq_17 k_ref06_Encode.eq_18 k_ref06_Encode.eq_19 k_ref06_Encode.eq_20 k_ref06_Encode.eq_21 k_ref06_Encode.eq_22 k_ref06_Encode.eq_23 k_ref06_Encode.eq_24 k_ref06_Encode.eq_25
@[simp] theorem call_ref06_Encode : callable Try.prog 27 = true := by decide +kernel
def k_ref06_Decode : Nat → List Tmp
  | 0 => [0, 2]
  | 1 => [0, 2, 17]
  | 2 => [2, 3]
  | 3 => [0, 2, 22]
  | 4 => [2, 3]
  | 5 => [0, 2, 37]
  | 6 => [2, 3]
  | 7 => [0, 2, 4, 5, 6]
  | 8 => [0, 2, 4, 5, 6, 81]
  | 9 => [2, 3]
  | 10 => [0, 2, 4, 5, 6, 7]
  | 11 => [0, 2, 4, 5, 6, 7, 8]
  | 12 => [0, 2, 4, 5, 6, 7, 8, 9]
  | 13 => [0, 2, 4, 5, 6, 7, 8, 9, 87]
  | 14 => [0, 2, 4, 5, 6, 7, 8, 9]
  | 15 => [0, 2, 4, 5, 6, 7, 8, 9]
  | 16 => [0, 2, 4, 5, 6, 7, 8, 9]
  | 17 => [0, 2, 4, 5, 7, 8, 10]
  | 18 => [0, 2, 4, 5, 7, 8, 10, 110]
  | 19 => [0, 2, 4, 5, 7, 8, 10]
  | 20 => [0, 2, 4, 5, 7, 8, 10, 11]
  | 21 => [0, 2, 4, 5, 7, 8, 10, 11, 12]
  | 22 => [0, 2, 4, 5, 7, 8, 10, 11, 12, 115]
  | 23 => [0, 2, 4, 5, 7, 8, 10, 11, 12]
  | 24 => [0, 2, 4, 5, 7, 8, 10, 11, 12]
  | 25 => [0, 2, 4, 5, 7, 8, 10, 11, 12]
  | 26 => [0, 2, 4, 5, 7, 8, 10]
  | 27 => [2, 7, 13, 14]
  | 28 => [2, 7, 13, 146]
  | 29 => [2, 3]
  | 30 => [2, 7]
  | 31 => [2, 3]
  | _ => []
attribute [simp] k_ref06_Decode.eq_1 k_ref06_Decode.eq_2 k_ref06_Decode.eq_3 k_ref06_Decode.eq_4 k_ref06_Decode.eq_5 k_ref06_Decode.eq_6 k_ref06_Decode.eq_7 k_ref06_Decode.eq_8 k_ref06_Decode.eq_9 k_ref06_Decode.eq_10 k_ref06_Decode.eq_11 k_ref06_Decode.eq_12 k_ref06_Decode.eq_13 k_ref06_Decode.eq_14 k_ref06_Decode.eq_15 k_ref06_Decode.eq_16 k_ref06_Decode.eq_17 k_ref06_Decode.eq_18 k_ref06_Decode.eq_19 k_ref06_Decode.eq_20 k_ref06_Decode.eq_21 k_ref06_Decode.eq_22 k_ref06_Decode.eq_23 k_ref06_Decode.eq_24 k_ref06_Decode.eq_25 k_ref06_Decode.eq_26 k_ref06_Decode.eq_27 k_ref06_Decode.eq_28 k_ref06_Decode.eq_29 k_ref06_Decode.eq_30 k_ref06_Decode.eq_31 k_ref06_Decode.eq_32
@[simp] theorem call_ref06_Decode : callable Try.prog 28 = true := by decide +kernel
def k_table_Same : Nat → List Tmp
  | 0 => [2, 3]
  | 1 => [4]
  | _ => []
attribute [simp] k_table_Same.eq_1 k_table_Same.eq_2
@[simp] theorem call_table_Same : callable Try.prog 29 = true := by decide +kernel
def k_ref06_Length : Nat → List Tmp
  | 0 => [0, 1, 2]
  | 1 => [0, 1, 2, 19]
  | 2 => [6]
  | 3 => [6]
  | _ => []
attribute [simp] k_ref06_Length.eq_1 k_ref06_Length.eq_2 k_ref06_Length.eq_3 k_ref06_Length.eq_4
@[simp] theorem call_ref06_Length : callable Try.prog 30 = true := by decide +kernel
def k_ref05_Put : Nat → List Tmp
  | 0 => [0, 1, 2]
  | 1 => [1, 2, 7]
  | 2 => [1, 7, 8]
  | 3 => [1, 7, 8, 17]
  | 4 => [1, 7, 8]
  | 5 => [1, 7, 8]
  | 6 => [6]
  | _ => []
attribute [simp] k_ref05_Put.eq_1 k_ref05_Put.eq_2 k_ref05_Put.eq_3 k_ref05_Put.eq_4 k_ref05_Put.eq_5 k_ref05_Put.eq_6 k_ref05_Put.eq_7
@[simp] theorem call_ref05_Put : callable Try.prog 31 = true := by decide +kernel
def k_ref05_Sum : Nat → List Tmp
  | 0 => [0]
  | 1 => [0, 3]
  | 2 => [0, 3, 4]
  | 3 => [0, 3, 4, 8]
  | 4 => [0, 3, 4]
  | 5 => [0, 3, 4]
  | 6 => [0, 3, 4]
  | 7 => [0, 3, 4]
  | 8 => [2]
  | _ => []
attribute [simp] k_ref05_Sum.eq_1 k_ref05_Sum.eq_2 k_ref05_Sum.eq_3 k_ref05_Sum.eq_4 k_ref05_Sum.eq_5 k_ref05_Sum.eq_6 k_ref05_Sum.eq_7 k_ref05_Sum.eq_8 k_ref05_Sum.eq_9
@[simp] theorem call_ref05_Sum : callable Try.prog 32 = true := by decide +kernel
def k_law07_wakes : Nat → List Tmp
  | 0 => []
  | 1 => [1]
  | 2 => [1, 2]
  | 3 => [1, 2, 3]
  | 4 => [1, 2, 3]
  | 5 => [1, 2, 3, 4]
  | 6 => [1, 2, 3, 4]
  | 7 => [1, 2, 3, 4, 5]
  | 8 => [1, 2, 3, 4, 7, 8]
  | 9 => [0]
  | _ => []
attribute [simp] k_law07_wakes.eq_1 k_law07_wakes.eq_2 k_law07_wakes.eq_3 k_law07_wakes.eq_4 k_law07_wakes.eq_5 k_law07_wakes.eq_6 k_law07_wakes.eq_7 k_law07_wakes.eq_8 k_law07_wakes.eq_9 k_law07_wakes.eq_10
@[simp] theorem call_law07_wakes : callable Try.prog 33 = true := by decide +kernel
def k_valid_Alike : Nat → List Tmp
  | 0 => [1, 2, 3]
  | 1 => [1, 2, 3, 7]
  | 2 => [6]
  | _ => []
attribute [simp] k_valid_Alike.eq_1 k_valid_Alike.eq_2 k_valid_Alike.eq_3
@[simp] theorem call_valid_Alike : callable Try.prog 34 = true := by decide +kernel
def k_valid_Table : Nat → List Tmp
  | 0 => [1]
  | 1 => [1, 3]
  | 2 => [2]
  | 3 => [1, 7]
  | 4 => [2]
  | 5 => [1, 11]
  | 6 => [2]
  | 7 => [1, 15]
  | 8 => [2]
  | 9 => [1, 19]
  | 10 => [2]
  | 11 => [1, 23]
  | 12 => [2]
  | 13 => [27]
  | 14 => [2]
  | 15 => [2]
  | _ => []
attribute [simp] k_valid_Table.eq_1 k_valid_Table.eq_2 k_valid_Table.eq_3 k_valid_Table.eq_4 k_valid_Table.eq_5 k_valid_Table.eq_6 k_valid_Table.eq_7 k_valid_Table.eq_8 k_valid_Table.eq_9 k_valid_Table.eq_10 k_valid_Table.eq_11 k_valid_Table.eq_12 k_valid_Table.eq_13 k_valid_Table.eq_14 k_valid_Table.eq_15 k_valid_Table.eq_16
@[simp] theorem call_valid_Table : callable Try.prog 35 = true := by decide +kernel
def k_ref07_Table : Nat → List Tmp
  | 0 => [1]
  | 1 => [1, 20]
  | 2 => [2]
  | 3 => [1, 3]
  | 4 => [1, 3, 25]
  | 5 => [1, 3]
  | 6 => [1, 3, 4]
  | 7 => [1, 3, 73]
  | 8 => [2]
  | 9 => [1, 5]
  | 10 => [1, 5, 6]
  | 11 => [1, 5, 6, 78]
  | 12 => [1, 5, 6]
  | 13 => [1, 5, 6, 7]
  | 14 => [1, 5, 6, 7, 99]
  | 15 => [2]
  | 16 => [1, 5, 6, 102]
  | 17 => [1, 5, 6]
  | 18 => [1, 108]
  | 19 => [2]
  | 20 => [1, 111]
  | 21 => [2]
  | 22 => [1, 8]
  | 23 => [1, 8, 9]
  | 24 => [1, 8, 9, 114]
  | 25 => [1, 8, 9]
  | 26 => [1, 8, 9, 10]
  | 27 => [1, 8, 9, 10, 120]
  | 28 => [1, 8, 9, 10]
  | 29 => [1, 8, 9, 10, 132]
  | 30 => [2]
  | 31 => [1, 8, 9, 10, 142]
  | 32 => [1, 8, 9, 10]
  | 33 => [1, 149]
  | 34 => [2]
  | 35 => [1, 11]
  | 36 => [1, 11, 12]
  | 37 => [1, 11, 12, 156]
  | 38 => [1, 11, 12]
  | 39 => [1, 11, 12, 13]
  | 40 => [1, 11, 12, 13, 161]
  | 41 => [1, 11, 12, 13]
  | 42 => [1, 11, 12, 13, 171]
  | 43 => [2]
  | 44 => [1, 14]
  | 45 => [1, 14, 175]
  | 46 => [1, 14]
  | 47 => [1, 14, 15]
  | 48 => [1, 14, 15, 180]
  | 49 => [1, 14, 15]
  | 50 => [1, 14, 15, 16]
  | 51 => [1, 14, 15, 16, 17]
  | 52 => [1, 14, 15, 16, 17, 187]
  | 53 => [1, 14, 15, 16, 17]
  | 54 => [1, 14, 15, 16, 17]
  | 55 => [1, 14, 15, 210]
  | 56 => [2]
  | 57 => [2]
  | _ => []
attribute [simp] k_ref07_Table.eq_1 k_ref07_Table.eq_2 k_ref07_Table.eq_3 k_ref07_Table.eq_4 k_ref07_Table.eq_5 k_ref07_Table.eq_6 k_ref07_Table.eq_7 k_ref07_Table.eq_8 k_ref07_Table.eq_9 k_ref07_Table.eq_10 k_ref07_Table.eq_11 k_ref07_Table.eq_12 k_ref07_Table.eq_13 k_ref07_Table.eq_14 k_ref07_Table.eq_15 k_ref07_Table.eq_16 k_ref07_Table.eq_17 k_ref07_Table.eq_18 k_ref07_Table.eq_19 k_ref07_Table.eq_20 k_ref07_Table.eq_21 k_ref07_Table.eq_22 k_ref07_Table.eq_23 k_ref07_Table.eq_24 k_ref07_Table.eq_25 k_ref07_Table.eq_26 k_ref07_Table.eq_27 k_ref07_Table.eq_28 k_ref07_Table.eq_29 k_ref07_Table.eq_30 k_ref07_Table.eq_31 k_ref07_Table.eq_32 k_ref07_Table.eq_33 k_ref07_Table.eq_34 k_ref07_Table.eq_35 k_ref07_Table.eq_36 k_ref07_Table.eq_37 k_ref07_Table.eq_38 k_ref07_Table.eq_39 k_ref07_Table.eq_40 k_ref07_Table.eq_41 k_ref07_Table.eq_42 k_ref07_Table.eq_43 k_ref07_Table.eq_44 k_ref07_Table.eq_45 k_ref07_Table.eq_46 k_ref07_Table.eq_47 k_ref07_Table.eq_48 k_ref07_Table.eq_49 k_ref07_Table.eq_50 k_ref07_Table.eq_51 k_ref07_Table.eq_52 k_ref07_Table.eq_53 k_ref07_Table.eq_54 k_ref07_Table.eq_55 k_ref07_Table.eq_56 k_ref07_Table.eq_57 k_ref07_Table.eq_58
@[simp] theorem call_ref07_Table : callable Try.prog 36 = true := by decide +kernel
def k_keep_Bands : Nat → List Tmp
  | 0 => [0, 1]
  | 1 => [0, 1, 10]
  | 2 => [4]
  | 3 => [0, 1, 5]
  | 4 => [0, 1, 5, 14]
  | 5 => [0, 1, 5]
  | 6 => [0, 1, 5, 25]
  | 7 => [4]
  | 8 => [4]
  | _ => []
attribute [simp] k_keep_Bands.eq_1 k_keep_Bands.eq_2 k_keep_Bands.eq_3 k_keep_Bands.eq_4 k_keep_Bands.eq_5 k_keep_Bands.eq_6 k_keep_Bands.eq_7 k_keep_Bands.eq_8 k_keep_Bands.eq_9
@[simp] theorem call_keep_Bands : callable Try.prog 37 = true := by decide +kernel
def k_valid_Bytes : Nat → List Tmp
  | 0 => [0, 2]
  | 1 => [2, 4, 5]
  | 2 => [2, 4, 5, 12]
  | 3 => [2, 4, 5]
  | 4 => [2, 4, 5, 16]
  | 5 => [2, 3]
  | 6 => [2, 3]
  | _ => []
attribute [simp] k_valid_Bytes.eq_1 k_valid_Bytes.eq_2 k_valid_Bytes.eq_3 k_valid_Bytes.eq_4 k_valid_Bytes.eq_5 k_valid_Bytes.eq_6 k_valid_Bytes.eq_7
@[simp] theorem call_valid_Bytes : callable Try.prog 38 = true := by decide +kernel
def k_ref07_Bytes : Nat → List Tmp
  | 0 => [0, 2]
  | 1 => [2, 4, 5]
  | 2 => [2, 4, 5, 13]
  | 3 => [2, 3]
  | 4 => [2, 4, 6]
  | 5 => [2, 4, 6, 19]
  | 6 => [2, 3]
  | 7 => [2, 3]
  | _ => []
attribute [simp] k_ref07_Bytes.eq_1 k_ref07_Bytes.eq_2 k_ref07_Bytes.eq_3 k_ref07_Bytes.eq_4 k_ref07_Bytes.eq_5 k_ref07_Bytes.eq_6 k_ref07_Bytes.eq_7 k_ref07_Bytes.eq_8
@[simp] theorem call_ref07_Bytes : callable Try.prog 39 = true := by decide +kernel
def k_ref07_Alike : Nat → List Tmp
  | 0 => [1, 2, 3]
  | 1 => [1, 2, 3, 36]
  | 2 => [6]
  | 3 => [6]
  | _ => []
attribute [simp] k_ref07_Alike.eq_1 k_ref07_Alike.eq_2 k_ref07_Alike.eq_3 k_ref07_Alike.eq_4
@[simp] theorem call_ref07_Alike : callable Try.prog 40 = true := by decide +kernel
def k_law08_wakes : Nat → List Tmp
  | 0 => []
  | 1 => [1, 2]
  | 2 => [1, 2, 3, 4]
  | 3 => [1, 2, 3, 4, 5, 6]
  | 4 => [1, 2, 3, 4, 5, 6, 8]
  | 5 => [1, 2, 3, 4, 5, 6, 8, 10]
  | 6 => [0]
  | _ => []
attribute [simp] k_law08_wakes.eq_1 k_law08_wakes.eq_2 k_law08_wakes.eq_3 k_law08_wakes.eq_4 k_law08_wakes.eq_5 k_law08_wakes.eq_6 k_law08_wakes.eq_7
@[simp] theorem call_law08_wakes : callable Try.prog 41 = true := by decide +kernel
def k_walk_Breaks : Nat → List Tmp
  | 0 => [1, 2]
  | 1 => [1, 2, 6, 7]
  | 2 => [1, 2, 6, 16]
  | 3 => [4, 5]
  | 4 => [1, 2, 6, 8]
  | 5 => [1, 2, 6, 8, 9]
  | 6 => [1, 2, 6, 8, 9]
  | 7 => [1, 2, 6, 8, 9, 26]
  | 8 => [1, 2, 6, 8, 9]
  | 9 => [1, 2, 6, 8, 9, 34]
  | 10 => [4, 5]
  | 11 => [1, 2, 6, 8, 9, 42]
  | 12 => [4, 5]
  | _ => []
attribute [simp] k_walk_Breaks.eq_1 k_walk_Breaks.eq_2 k_walk_Breaks.eq_3 k_walk_Breaks.eq_4 k_walk_Breaks.eq_5 k_walk_Breaks.eq_6 k_walk_Breaks.eq_7 k_walk_Breaks.eq_8 k_walk_Breaks.eq_9 k_walk_Breaks.eq_10 k_walk_Breaks.eq_11 k_walk_Breaks.eq_12 k_walk_Breaks.eq_13
@[simp] theorem call_walk_Breaks : callable Try.prog 42 = true := by decide +kernel
def k_walk_State : Nat → List Tmp
  | 0 => [1, 2]
  | 1 => [1, 6, 7]
  | 2 => [1, 6, 7, 15, 16, 17]
  | 3 => [1, 6, 7, 15, 16, 17, 18]
  | 4 => [1, 6, 7, 9, 15, 16, 17]
  | 5 => [1, 6, 7, 15, 16, 17]
  | 6 => [1, 6, 7, 15, 16, 17]
  | 7 => [6, 29]
  | 8 => [4, 5]
  | 9 => [4, 5]
  | _ => []
attribute [simp] k_walk_State.eq_1 k_walk_State.eq_2 k_walk_State.eq_3 k_walk_State.eq_4 k_walk_State.eq_5 k_walk_State.eq_6 k_walk_State.eq_7 k_walk_State.eq_8 k_walk_State.eq_9 k_walk_State.eq_10
@[simp] theorem call_walk_State : callable Try.prog 43 = true := by decide +kernel
def k_law08_upto : Nat → List Tmp
  | 0 => [0, 1]
  | 1 => [0, 1, 5]
  | 2 => [0, 1, 5, 6]
  | 3 => [0, 1, 5, 6, 10]
  | 4 => [0, 1, 5, 6]
  | 5 => [0, 1, 5, 6, 18]
  | 6 => [0, 1, 5, 6]
  | 7 => [4]
  | _ => []
attribute [simp] k_law08_upto.eq_1 k_law08_upto.eq_2 k_law08_upto.eq_3 k_law08_upto.eq_4 k_law08_upto.eq_5 k_law08_upto.eq_6 k_law08_upto.eq_7 k_law08_upto.eq_8
@[simp] theorem call_law08_upto : callable Try.prog 44 = true := by decide +kernel
def k_keep_Ints : Nat → List Tmp
  | 0 => [0, 1]
  | 1 => [0, 1, 10]
  | 2 => [4]
  | 3 => [0, 1, 5]
  | 4 => [0, 1, 5, 14]
  | 5 => [0, 1, 5]
  | 6 => [0, 1, 5, 25]
  | 7 => [4]
  | 8 => [4]
  | _ => []
attribute [simp] k_keep_Ints.eq_1 k_keep_Ints.eq_2 k_keep_Ints.eq_3 k_keep_Ints.eq_4 k_keep_Ints.eq_5 k_keep_Ints.eq_6 k_keep_Ints.eq_7 k_keep_Ints.eq_8 k_keep_Ints.eq_9
@[simp] theorem call_keep_Ints : callable Try.prog 45 = true := by decide +kernel
def k_walk_Class : Nat → List Tmp
  | 0 => [1, 2]
  | 1 => [1, 6, 7]
  | 2 => [1, 6, 14]
  | 3 => [4, 5]
  | 4 => [4, 5]
  | _ => []
attribute [simp] k_walk_Class.eq_1 k_walk_Class.eq_2 k_walk_Class.eq_3 k_walk_Class.eq_4 k_walk_Class.eq_5
@[simp] theorem call_walk_Class : callable Try.prog 46 = true := by decide +kernel
def k_ref08_Class : Nat → List Tmp
  | 0 => [1, 2]
  | 1 => [1, 2, 8]
  | 2 => [4]
  | 3 => [2, 5]
  | 4 => [2, 5, 14]
  | 5 => [4]
  | 6 => [4]
  | _ => []
attribute [simp] k_ref08_Class.eq_1 k_ref08_Class.eq_2 k_ref08_Class.eq_3 k_ref08_Class.eq_4 k_ref08_Class.eq_5 k_ref08_Class.eq_6 k_ref08_Class.eq_7
@[simp] theorem call_ref08_Class : callable Try.prog 47 = true := by decide +kernel
def k_ref08_States : Nat → List Tmp
  | 0 => [1, 2, 4]
  | 1 => [1, 2, 4, 10]
  | 2 => [4]
  | 3 => [1, 2, 4, 5]
  | 4 => [1, 2, 4, 5, 6]
  | 5 => [1, 2, 4, 5, 6, 16]
  | 6 => [1, 2, 4, 5, 6]
  | 7 => [1, 2, 4, 5, 6, 7]
  | 8 => [1, 2, 4, 5, 6, 7, 27]
  | 9 => [4]
  | 10 => [1, 2, 4, 5, 6]
  | 11 => [4]
  | _ => []
attribute [simp] k_ref08_States.eq_1 k_ref08_States.eq_2 k_ref08_States.eq_3 k_ref08_States.eq_4 k_ref08_States.eq_5 k_ref08_States.eq_6 k_ref08_States.eq_7 k_ref08_States.eq_8 k_ref08_States.eq_9 k_ref08_States.eq_10 k_ref08_States.eq_11 k_ref08_States.eq_12
@[simp] theorem call_ref08_States : callable Try.prog 48 = true := by decide +kernel
def k_ref08_Breaks : Nat → List Tmp
  | 0 => [1, 2]
  | 1 => [2, 6]
  | 2 => [2, 6, 7]
  | 3 => [2, 6, 7, 8]
  | 4 => [2, 6, 7, 8, 16]
  | 5 => [2, 6, 7, 8]
  | 6 => [2, 6, 7, 8, 27]
  | 7 => [2, 6, 7, 8]
  | 8 => [4, 5]
  | _ => []
attribute [simp] k_ref08_Breaks.eq_1 k_ref08_Breaks.eq_2 k_ref08_Breaks.eq_3 k_ref08_Breaks.eq_4 k_ref08_Breaks.eq_5 k_ref08_Breaks.eq_6 k_ref08_Breaks.eq_7 k_ref08_Breaks.eq_8 k_ref08_Breaks.eq_9
@[simp] theorem call_ref08_Breaks : callable Try.prog 49 = true := by decide +kernel
def k_keep_LargeLists : Nat → List Tmp
  | 0 => [0, 1]
  | 1 => [0, 1, 5]
  | 2 => [0, 1, 5, 6]
  | 3 => [0, 1, 5, 6, 15]
  | 4 => [0, 1, 5, 6]
  | 5 => [0, 1, 5, 6]
  | 6 => [4]
  | _ => []
attribute [simp] k_keep_LargeLists.eq_1 k_keep_LargeLists.eq_2 k_keep_LargeLists.eq_3 k_keep_LargeLists.eq_4 k_keep_LargeLists.eq_5 k_keep_LargeLists.eq_6 k_keep_LargeLists.eq_7
@[simp] theorem call_keep_LargeLists : callable Try.prog 50 = true := by decide +kernel
def k_table_may : Nat → List Tmp
  | 0 => [1]
  | 1 => [1, 32]
  | 2 => [2]
  | 3 => [1, 33, 34, 35, 36]
  | 4 => [1, 33, 34, 35, 36, 37]
  | 5 => [1, 4, 33, 34, 35, 36]
  | 6 => [1, 33, 34, 35, 36, 49]
  | 7 => [2]
  | 8 => [1, 33, 34, 35, 36]
  | 9 => [1, 51, 52, 53, 54]
  | 10 => [1, 51, 52, 53, 54, 55]
  | 11 => [1, 6, 51, 52, 53, 54]
  | 12 => [1, 51, 52, 53, 54, 66]
  | 13 => [2]
  | 14 => [1, 51, 52, 53, 54]
  | 15 => [2]
  | _ => []
attribute [simp] k_table_may.eq_1 k_table_may.eq_2 k_table_may.eq_3 k_table_may.eq_4 k_table_may.eq_5 k_table_may.eq_6 k_table_may.eq_7 k_table_may.eq_8 k_table_may.eq_9 k_table_may.eq_10 k_table_may.eq_11 k_table_may.eq_12 k_table_may.eq_13 k_table_may.eq_14 k_table_may.eq_15 k_table_may.eq_16
@[simp] theorem call_table_may : callable Try.prog 51 = true := by decide +kernel
def k_table_known : Nat → List Tmp
  | 0 => [0]
  | 1 => [0]
  | _ => []
attribute [simp] k_table_known.eq_1 k_table_known.eq_2
@[simp] theorem call_table_known : callable Try.prog 52 = true := by decide +kernel
def k_pack_Put : Nat → List Tmp
  | 0 => [0, 1, 2]
  | 1 => [0, 2, 7]
  | 2 => [0, 2, 7]
  | 3 => [6]
  | _ => []
attribute [simp] k_pack_Put.eq_1 k_pack_Put.eq_2 k_pack_Put.eq_3 k_pack_Put.eq_4
@[simp] theorem call_pack_Put : callable Try.prog 53 = true := by decide +kernel
def k_pack_Bits : Nat → List Tmp
  | 0 => [0]
  | 1 => [0, 3]
  | 2 => [0, 3, 10, 11, 12]
  | 3 => [0, 3, 10, 11, 12, 13]
  | 4 => [0, 3, 4, 5, 10, 11, 12]
  | 5 => [0, 3, 4, 10, 11, 12, 17]
  | 6 => [0, 3, 10, 11, 12]
  | 7 => [0, 3, 10, 11, 12]
  | 8 => [2]
  | _ => []
attribute [simp] k_pack_Bits.eq_1 k_pack_Bits.eq_2 k_pack_Bits.eq_3 k_pack_Bits.eq_4 k_pack_Bits.eq_5 k_pack_Bits.eq_6 k_pack_Bits.eq_7 k_pack_Bits.eq_8 k_pack_Bits.eq_9
@[simp] theorem call_pack_Bits : callable Try.prog 54 = true := by decide +kernel
def k_pack_Sum : Nat → List Tmp
  | 0 => [0]
  | 1 => [0, 3]
  | 2 => [0, 3, 6, 7, 8]
  | 3 => [0, 3, 6, 7, 8, 9]
  | 4 => [0, 3, 5, 6, 7, 8]
  | 5 => [0, 3, 6, 7, 8]
  | 6 => [0, 3, 6, 7, 8]
  | 7 => [2]
  | _ => []
attribute [simp] k_pack_Sum.eq_1 k_pack_Sum.eq_2 k_pack_Sum.eq_3 k_pack_Sum.eq_4 k_pack_Sum.eq_5 k_pack_Sum.eq_6 k_pack_Sum.eq_7 k_pack_Sum.eq_8
@[simp] theorem call_pack_Sum : callable Try.prog 55 = true := by decide +kernel
def k_table_between : Nat → List Tmp
  | 0 => [0, 1, 2]
  | 1 => [6]
  | _ => []
attribute [simp] k_table_between.eq_1 k_table_between.eq_2
@[simp] theorem call_table_between : callable Try.prog 56 = true := by decide +kernel
def k_table_sealed : Nat → List Tmp
  | 0 => [0]
  | 1 => [0, 3]
  | 2 => [0, 3, 4]
  | 3 => [2]
  | _ => []
attribute [simp] k_table_sealed.eq_1 k_table_sealed.eq_2 k_table_sealed.eq_3 k_table_sealed.eq_4
@[simp] theorem call_table_sealed : callable Try.prog 57 = true := by decide +kernel
def k_pack_Get : Nat → List Tmp
  | 0 => [0, 1, 2]
  | 1 => [0, 1, 2, 28]
  | 2 => [6, 7]
  | 3 => [0, 1, 2, 8]
  | 4 => [0, 8, 29, 34, 35, 36]
  | 5 => [0, 8, 29, 34, 35, 36, 37]
  | 6 => [0, 8, 10, 29, 34, 35, 36]
  | 7 => [0, 8, 29, 34, 35, 36]
  | 8 => [0, 8, 29, 34, 35, 36]
  | 9 => [6, 7]
  | _ => []
attribute [simp] k_pack_Get.eq_1 k_pack_Get.eq_2 k_pack_Get.eq_3 k_pack_Get.eq_4 k_pack_Get.eq_5 k_pack_Get.eq_6 k_pack_Get.eq_7 k_pack_Get.eq_8 k_pack_Get.eq_9 k_pack_Get.eq_10
@[simp] theorem call_pack_Get : callable Try.prog 58 = true := by decide +kernel
def k_pack_Unbits : Nat → List Tmp
  | 0 => [0, 1]
  | 1 => [0, 1, 23]
  | 2 => [4, 5]
  | 3 => [0, 6]
  | 4 => [0, 6, 27, 28]
  | 5 => [0, 6, 27, 28, 29]
  | 6 => [0, 6, 7, 27, 28]
  | 7 => [0, 6, 27, 28]
  | 8 => [0, 6, 27, 28]
  | 9 => [6, 49]
  | 10 => [4, 5]
  | 11 => [4, 5]
  | _ => []
attribute [simp] k_pack_Unbits.eq_1 k_pack_Unbits.eq_2 k_pack_Unbits.eq_3 k_pack_Unbits.eq_4 k_pack_Unbits.eq_5 k_pack_Unbits.eq_6 k_pack_Unbits.eq_7 k_pack_Unbits.eq_8 k_pack_Unbits.eq_9 k_pack_Unbits.eq_10 k_pack_Unbits.eq_11 k_pack_Unbits.eq_12
@[simp] theorem call_pack_Unbits : callable Try.prog 59 = true := by decide +kernel
def k_keep_Lists : Nat → List Tmp
  | 0 => [0, 1]
  | 1 => [0, 1, 10]
  | 2 => [4]
  | 3 => [0, 1, 5]
  | 4 => [0, 1, 5, 14]
  | 5 => [0, 1, 5]
  | 6 => [0, 1, 5, 26]
  | 7 => [4]
  | 8 => [4]
  | _ => []
attribute [simp] k_keep_Lists.eq_1 k_keep_Lists.eq_2 k_keep_Lists.eq_3 k_keep_Lists.eq_4 k_keep_Lists.eq_5 k_keep_Lists.eq_6 k_keep_Lists.eq_7 k_keep_Lists.eq_8 k_keep_Lists.eq_9
@[simp] theorem call_keep_Lists : callable Try.prog 60 = true := by decide +kernel
def k_keep_Bools : Nat → List Tmp
  | 0 => [0, 1]
  | 1 => [0, 1, 10]
  | 2 => [4]
  | 3 => [0, 1, 5]
  | 4 => [0, 1, 5, 14]
  | 5 => [0, 1, 5]
  | 6 => [0, 1, 5, 25]
  | 7 => [4]
  | 8 => [4]
  | _ => []
attribute [simp] k_keep_Bools.eq_1 k_keep_Bools.eq_2 k_keep_Bools.eq_3 k_keep_Bools.eq_4 k_keep_Bools.eq_5 k_keep_Bools.eq_6 k_keep_Bools.eq_7 k_keep_Bools.eq_8 k_keep_Bools.eq_9
@[simp] theorem call_keep_Bools : callable Try.prog 61 = true := by decide +kernel
def k_keep_OwnLists : Nat → List Tmp
  | 0 => [0]
  | 1 => [0, 3]
  | 2 => [0, 3, 4]
  | 3 => [0, 3, 4, 8]
  | 4 => [0, 3, 4]
  | 5 => [0, 3, 4]
  | 6 => [2]
  | _ => []
attribute [simp] k_keep_OwnLists.eq_1 k_keep_OwnLists.eq_2 k_keep_OwnLists.eq_3 k_keep_OwnLists.eq_4 k_keep_OwnLists.eq_5 k_keep_OwnLists.eq_6 k_keep_OwnLists.eq_7
@[simp] theorem call_keep_OwnLists : callable Try.prog 62 = true := by decide +kernel
def k_ref06_byteOf : Nat → List Tmp
  | 0 => [0]
  | 1 => [2]
  | _ => []
attribute [simp] k_ref06_byteOf.eq_1 k_ref06_byteOf.eq_2
@[simp] theorem call_ref06_byteOf : callable Try.prog 63 = true := by decide +kernel
def k_ref05_Bits : Nat → List Tmp
  | 0 => [0]
  | 1 => [0, 3]
  | 2 => [0, 3, 4]
  | 3 => [0, 3, 4, 13]
  | 4 => [0, 3, 4]
  | 5 => [0, 3, 4, 19]
  | 6 => [0, 3, 4]
  | 7 => [2]
  | _ => []
attribute [simp] k_ref05_Bits.eq_1 k_ref05_Bits.eq_2 k_ref05_Bits.eq_3 k_ref05_Bits.eq_4 k_ref05_Bits.eq_5 k_ref05_Bits.eq_6 k_ref05_Bits.eq_7 k_ref05_Bits.eq_8
@[simp] theorem call_ref05_Bits : callable Try.prog 64 = true := by decide +kernel
def k_ref05_Get : Nat → List Tmp
  | 0 => [0, 1, 2, 6]
  | 1 => [0, 1, 2, 6, 26]
  | 2 => [6]
  | 3 => [0, 1, 2, 6, 7]
  | 4 => [0, 1, 2, 6, 7, 8]
  | 5 => [0, 1, 2, 6, 7, 8, 30]
  | 6 => [0, 1, 2, 6, 7, 8]
  | 7 => [0, 1, 2, 6, 7, 8]
  | 8 => [6]
  | _ => []
attribute [simp] k_ref05_Get.eq_1 k_ref05_Get.eq_2 k_ref05_Get.eq_3 k_ref05_Get.eq_4 k_ref05_Get.eq_5 k_ref05_Get.eq_6 k_ref05_Get.eq_7 k_ref05_Get.eq_8 k_ref05_Get.eq_9
@[simp] theorem call_ref05_Get : callable Try.prog 65 = true := by decide +kernel
def k_ref05_Unbits : Nat → List Tmp
  | 0 => [0, 1]
  | 1 => [0, 1, 25]
  | 2 => [4, 5]
  | 3 => [0, 1, 6]
  | 4 => [0, 1, 6, 7]
  | 5 => [0, 1, 6, 7, 30]
  | 6 => [0, 1, 6, 7]
  | 7 => [0, 1, 6, 7, 8]
  | 8 => [0, 1, 6, 7, 8, 46]
  | 9 => [0, 1, 6, 7]
  | 10 => [0, 1, 6, 7, 51]
  | 11 => [4, 5]
  | 12 => [4, 5]
  | _ => []
attribute [simp] k_ref05_Unbits.eq_1 k_ref05_Unbits.eq_2 k_ref05_Unbits.eq_3 k_ref05_Unbits.eq_4 k_ref05_Unbits.eq_5 k_ref05_Unbits.eq_6 k_ref05_Unbits.eq_7 k_ref05_Unbits.eq_8 k_ref05_Unbits.eq_9 k_ref05_Unbits.eq_10 k_ref05_Unbits.eq_11 k_ref05_Unbits.eq_12 k_ref05_Unbits.eq_13
@[simp] theorem call_ref05_Unbits : callable Try.prog 66 = true := by decide +kernel
def k_slices_Equal_Band : Nat → List Tmp
  | 0 => [0, 1]
  | 1 => [0, 1, 10]
  | 2 => [4]
  | 3 => [0, 1, 12, 13]
  | 4 => [0, 1, 12, 13, 14]
  | 5 => [0, 1, 5, 12, 13]
  | 6 => [0, 1, 12, 13, 24]
  | 7 => [4]
  | 8 => [0, 1, 12, 13]
  | 9 => [4]
  | _ => []
attribute [simp] k_slices_Equal_Band.eq_1 k_slices_Equal_Band.eq_2 k_slices_Equal_Band.eq_3 k_slices_Equal_Band.eq_4 k_slices_Equal_Band.eq_5 k_slices_Equal_Band.eq_6 k_slices_Equal_Band.eq_7 k_slices_Equal_Band.eq_8 k_slices_Equal_Band.eq_9 k_slices_Equal_Band.eq_10
@[simp] theorem call_slices_Equal_Band : callable Try.prog 67 = true := by decide +kernel
def k_slices_Equal_bool : Nat → List Tmp
  | 0 => [0, 1]
  | 1 => [0, 1, 10]
  | 2 => [4]
  | 3 => [0, 1, 12, 13]
  | 4 => [0, 1, 12, 13, 14]
  | 5 => [0, 1, 5, 12, 13]
  | 6 => [0, 1, 12, 13, 24]
  | 7 => [4]
  | 8 => [0, 1, 12, 13]
  | 9 => [4]
  | _ => []
attribute [simp] k_slices_Equal_bool.eq_1 k_slices_Equal_bool.eq_2 k_slices_Equal_bool.eq_3 k_slices_Equal_bool.eq_4 k_slices_Equal_bool.eq_5 k_slices_Equal_bool.eq_6 k_slices_Equal_bool.eq_7 k_slices_Equal_bool.eq_8 k_slices_Equal_bool.eq_9 k_slices_Equal_bool.eq_10
@[simp] theorem call_slices_Equal_bool : callable Try.prog 68 = true := by decide +kernel
def k_slices_EqualFunc_s_int : Nat → List Tmp
  | 0 => [0, 1, 2]
  | 1 => [0, 1, 2, 14]
  | 2 => [6]
  | 3 => [0, 1, 2, 15, 16, 17]
  | 4 => [0, 1, 2, 15, 16, 17, 18]
  | 5 => [0, 1, 2, 7, 8, 15, 16, 17]
  | 6 => [0, 1, 2, 8, 9, 15, 16, 17]
  | 7 => [0, 1, 2, 15, 16, 17, 30]
  | 8 => [6]
  | 9 => [0, 1, 2, 15, 16, 17]
  | 10 => [6]
  | _ => []
attribute [simp] k_slices_EqualFunc_s_int.eq_1 k_slices_EqualFunc_s_int.eq_2 k_slices_EqualFunc_s_int.eq_3 k_slices_EqualFunc_s_int.eq_4 k_slices_EqualFunc_s_int.eq_5 k_slices_EqualFunc_s_int.eq_6 k_slices_EqualFunc_s_int.eq_7 k_slices_EqualFunc_s_int.eq_8 k_slices_EqualFunc_s_int.eq_9 k_slices_EqualFunc_s_int.eq_10 k_slices_EqualFunc_s_int.eq_11
@[simp] theorem call_slices_EqualFunc_s_int : callable Try.prog 69 = true := by decide +kernel
def k_table_Same_1 : Nat → List Tmp
  | 0 => [0, 1]
  | 1 => [4]
  | _ => []
attribute [simp] k_table_Same_1.eq_1 k_table_Same_1.eq_2
@[simp] theorem call_table_Same_1 : callable Try.prog 70 = true := by decide +kernel
def k_slices_Equal_int : Nat → List Tmp
  | 0 => [0, 1]
  | 1 => [0, 1, 10]
  | 2 => [4]
  | 3 => [0, 1, 12, 13]
  | 4 => [0, 1, 12, 13, 14]
  | 5 => [0, 1, 5, 12, 13]
  | 6 => [0, 1, 12, 13, 24]
  | 7 => [4]
  | 8 => [0, 1, 12, 13]
  | 9 => [4]
  | _ => []
attribute [simp] k_slices_Equal_int.eq_1 k_slices_Equal_int.eq_2 k_slices_Equal_int.eq_3 k_slices_Equal_int.eq_4 k_slices_Equal_int.eq_5 k_slices_Equal_int.eq_6 k_slices_Equal_int.eq_7 k_slices_Equal_int.eq_8 k_slices_Equal_int.eq_9 k_slices_Equal_int.eq_10
@[simp] theorem call_slices_Equal_int : callable Try.prog 71 = true := by decide +kernel
def k_valid_counts : Nat → List Tmp
  | 0 => [1]
  | 1 => [2]
  | _ => []
attribute [simp] k_valid_counts.eq_1 k_valid_counts.eq_2
@[simp] theorem call_valid_counts : callable Try.prog 72 = true := by decide +kernel
def k_valid_nexts : Nat → List Tmp
  | 0 => [1]
  | 1 => [2]
  | _ => []
attribute [simp] k_valid_nexts.eq_1 k_valid_nexts.eq_2
@[simp] theorem call_valid_nexts : callable Try.prog 73 = true := by decide +kernel
def k_valid_between : Nat → List Tmp
  | 0 => [0, 1, 2]
  | 1 => [6]
  | _ => []
attribute [simp] k_valid_between.eq_1 k_valid_between.eq_2
@[simp] theorem call_valid_between : callable Try.prog 74 = true := by decide +kernel
def k_valid_alike : Nat → List Tmp
  | 0 => [2, 3]
  | 1 => [2, 3, 5]
  | 2 => [2, 5, 6]
  | 3 => [2, 5, 6, 19]
  | 4 => [2, 5, 6]
  | 5 => [2, 5, 6, 7]
  | 6 => [2, 5, 6, 7, 37]
  | 7 => [4]
  | 8 => [2, 5, 6, 7, 39, 40]
  | 9 => [2, 5, 6, 7, 39, 40, 41]
  | 10 => [2, 5, 6, 7, 8, 39, 40]
  | 11 => [2, 5, 6, 7, 9, 39, 40]
  | 12 => [2, 5, 6, 7, 9, 11, 39, 40]
  | 13 => [2, 5, 6, 7, 9, 39, 40, 69]
  | 14 => [2, 5, 6, 7, 9, 39, 40]
  | 15 => [2, 5, 6, 7, 39, 40]
  | 16 => [2, 5, 6, 7, 39, 40]
  | 17 => [4]
  | _ => []
attribute [simp] k_valid_alike.eq_1 k_valid_alike.eq_2 k_valid_alike.eq_3 k_valid_alike.eq_4 k_valid_alike.eq_5 k_valid_alike.eq_6 k_valid_alike.eq_7 k_valid_alike.eq_8 k_valid_alike.eq_9 k_valid_alike.eq_10 k_valid_alike.eq_11 k_valid_alike.eq_12 k_valid_alike.eq_13 k_valid_alike.eq_14 k_valid_alike.eq_15 k_valid_alike.eq_16 k_valid_alike.eq_17 k_valid_alike.eq_18
@[simp] theorem call_valid_alike : callable Try.prog 75 = true := by decide +kernel
def k_valid_bands : Nat → List Tmp
  | 0 => [1]
  | 1 => [1, 5, 6, 7, 8]
  | 2 => [1, 5, 6, 7, 8, 9]
  | 3 => [1, 3, 4, 5, 6, 7, 8]
  | 4 => [1, 3, 4, 5, 6, 7, 8, 25]
  | 5 => [2]
  | 6 => [1, 5, 6, 7, 8, 51]
  | 7 => [2]
  | 8 => [1, 5, 6, 7, 8]
  | 9 => [2]
  | _ => []
attribute [simp] k_valid_bands.eq_1 k_valid_bands.eq_2 k_valid_bands.eq_3 k_valid_bands.eq_4 k_valid_bands.eq_5 k_valid_bands.eq_6 k_valid_bands.eq_7 k_valid_bands.eq_8 k_valid_bands.eq_9 k_valid_bands.eq_10
@[simp] theorem call_valid_bands : callable Try.prog 76 = true := by decide +kernel
def k_valid_classes : Nat → List Tmp
  | 0 => [1]
  | 1 => [1, 3]
  | 2 => [1, 3, 8, 9, 10, 11]
  | 3 => [1, 3, 8, 9, 10, 11, 12]
  | 4 => [1, 3, 5, 8, 9, 10, 11]
  | 5 => [1, 3, 8, 9, 10, 11]
  | 6 => [1, 3, 8, 9, 10, 11]
  | 7 => [1, 6, 7]
  | 8 => [2]
  | _ => []
attribute [simp] k_valid_classes.eq_1 k_valid_classes.eq_2 k_valid_classes.eq_3 k_valid_classes.eq_4 k_valid_classes.eq_5 k_valid_classes.eq_6 k_valid_classes.eq_7 k_valid_classes.eq_8 k_valid_classes.eq_9
@[simp] theorem call_valid_classes : callable Try.prog 77 = true := by decide +kernel
def k_valid_numbered : Nat → List Tmp
  | 0 => [1]
  | 1 => [1, 3]
  | 2 => [1, 3, 7, 8, 9, 10]
  | 3 => [1, 3, 7, 8, 9, 10, 11]
  | 4 => [1, 3, 4, 5, 7, 8, 9, 10]
  | 5 => [1, 3, 5, 6, 7, 8, 9, 10]
  | 6 => [1, 3, 5, 6, 7, 8, 9, 10, 18]
  | 7 => [1, 3, 6, 7, 8, 9, 10]
  | 8 => [1, 3, 7, 8, 9, 10, 26]
  | 9 => [2]
  | 10 => [1, 3, 7, 8, 9, 10]
  | 11 => [2]
  | _ => []
attribute [simp] k_valid_numbered.eq_1 k_valid_numbered.eq_2 k_valid_numbered.eq_3 k_valid_numbered.eq_4 k_valid_numbered.eq_5 k_valid_numbered.eq_6 k_valid_numbered.eq_7 k_valid_numbered.eq_8 k_valid_numbered.eq_9 k_valid_numbered.eq_10 k_valid_numbered.eq_11 k_valid_numbered.eq_12
@[simp] theorem call_valid_numbered : callable Try.prog 78 = true := by decide +kernel
def k_valid_least : Nat → List Tmp
  | 0 => [1]
  | 1 => [1, 7, 8]
  | 2 => [1, 7, 8, 9]
  | 3 => [1, 3, 7, 8]
  | 4 => [1, 3, 7, 8, 11, 12]
  | 5 => [1, 3, 7, 8, 11, 12, 13]
  | 6 => [1, 3, 4, 7, 8, 11, 12]
  | 7 => [1, 3, 7, 8, 11, 12, 19]
  | 8 => [2]
  | 9 => [1, 3, 7, 8, 11, 12]
  | 10 => [1, 7, 8]
  | 11 => [2]
  | _ => []
attribute [simp] k_valid_least.eq_1 k_valid_least.eq_2 k_valid_least.eq_3 k_valid_least.eq_4 k_valid_least.eq_5 k_valid_least.eq_6 k_valid_least.eq_7 k_valid_least.eq_8 k_valid_least.eq_9 k_valid_least.eq_10 k_valid_least.eq_11 k_valid_least.eq_12
@[simp] theorem call_valid_least : callable Try.prog 79 = true := by decide +kernel
def k_valid_columns : Nat → List Tmp
  | 0 => [1]
  | 1 => [1, 6, 7]
  | 2 => [1, 6, 7, 8]
  | 3 => [1, 3, 6, 7]
  | 4 => [1, 3, 6, 7, 10, 11]
  | 5 => [1, 3, 6, 7, 10, 11, 12]
  | 6 => [1, 3, 4, 6, 7, 10, 11]
  | 7 => [1, 3, 6, 7, 10, 11, 20]
  | 8 => [2]
  | 9 => [1, 3, 6, 7, 10, 11]
  | 10 => [1, 6, 7]
  | 11 => [2]
  | _ => []
attribute [simp] k_valid_columns.eq_1 k_valid_columns.eq_2 k_valid_columns.eq_3 k_valid_columns.eq_4 k_valid_columns.eq_5 k_valid_columns.eq_6 k_valid_columns.eq_7 k_valid_columns.eq_8 k_valid_columns.eq_9 k_valid_columns.eq_10 k_valid_columns.eq_11 k_valid_columns.eq_12
@[simp] theorem call_valid_columns : callable Try.prog 80 = true := by decide +kernel
def k_ref07_counts : Nat → List Tmp
  | 0 => [1]
  | 1 => [1, 3]
  | 2 => [1, 3, 4]
  | 3 => [1, 3, 4, 10]
  | 4 => [1, 3, 4]
  | 5 => [1, 3, 4, 21]
  | 6 => [2]
  | 7 => [2]
  | _ => []
attribute [simp] k_ref07_counts.eq_1 k_ref07_counts.eq_2 k_ref07_counts.eq_3 k_ref07_counts.eq_4 k_ref07_counts.eq_5 k_ref07_counts.eq_6 k_ref07_counts.eq_7 k_ref07_counts.eq_8
@[simp] theorem call_ref07_counts : callable Try.prog 81 = true := by decide +kernel
def k_ref01_Is : Nat → List Tmp
  | 0 => [0]
  | 1 => [2]
  | _ => []
attribute [simp] k_ref01_Is.eq_1 k_ref01_Is.eq_2
@[simp] theorem call_ref01_Is : callable Try.prog 82 = true := by decide +kernel
def k_ref07_nexts : Nat → List Tmp
  | 0 => [1]
  | 1 => [1, 3]
  | 2 => [1, 3, 9]
  | 3 => [1, 3]
  | 4 => [1, 3, 4]
  | 5 => [1, 3, 4, 19]
  | 6 => [1, 3, 4]
  | 7 => [1, 3, 4, 44]
  | 8 => [2]
  | 9 => [2]
  | _ => []
attribute [simp] k_ref07_nexts.eq_1 k_ref07_nexts.eq_2 k_ref07_nexts.eq_3 k_ref07_nexts.eq_4 k_ref07_nexts.eq_5 k_ref07_nexts.eq_6 k_ref07_nexts.eq_7 k_ref07_nexts.eq_8 k_ref07_nexts.eq_9 k_ref07_nexts.eq_10
@[simp] theorem call_ref07_nexts : callable Try.prog 83 = true := by decide +kernel
def k_ref07_apart : Nat → List Tmp
  | 0 => [1]
  | 1 => [1, 3]
  | 2 => [1, 3, 4]
  | 3 => [1, 3, 4, 5]
  | 4 => [1, 3, 4, 5, 18]
  | 5 => [1, 3, 4, 5]
  | 6 => [1, 3, 4, 5]
  | 7 => [1, 3, 4, 5, 6]
  | 8 => [1, 3, 4, 5, 6, 28]
  | 9 => [1, 3, 4, 5, 6]
  | 10 => [1, 3, 4, 5, 6]
  | 11 => [1, 3, 4, 7]
  | 12 => [1, 3, 4, 7, 52]
  | 13 => [1, 3, 4, 7]
  | 14 => [1, 3, 4, 7, 8]
  | 15 => [1, 3, 4, 7, 8, 57]
  | 16 => [1, 3, 4, 7, 8]
  | 17 => [1, 3, 4, 7, 8, 9]
  | 18 => [1, 3, 4, 7, 8, 9, 62]
  | 19 => [1, 3, 4, 7, 8, 9]
  | 20 => [1, 3, 4, 7, 8, 9, 10]
  | 21 => [1, 3, 4, 7, 8, 9, 10, 68]
  | 22 => [1, 3, 4, 7, 8, 9, 10]
  | 23 => [1, 3, 4, 7, 8, 9, 10]
  | 24 => [2]
  | _ => []
attribute [simp] k_ref07_apart.eq_1 k_ref07_apart.eq_2 k_ref07_apart.eq_3 k_ref07_apart.eq_4 k_ref07_apart.eq_5 k_ref07_apart.eq_6 k_ref07_apart.eq_7 k_ref07_apart.eq_8 k_ref07_apart.eq_9 k_ref07_apart.eq_10 k_ref07_apart.eq_11 k_ref07_apart.eq_12 k_ref07_apart.eq_13 k_ref07_apart.eq_14 k_ref07_apart.eq_15 k_ref07_apart.eq_16 k_ref07_apart.eq_17 k_ref07_apart.eq_18 k_ref07_apart.eq_19 k_ref07_apart.eq_20 k_ref07_apart.eq_21 k_ref07_apart.eq_22 k_ref07_apart.eq_23 k_ref07_apart.eq_24 k_ref07_apart.eq_25
@[simp] theorem call_ref07_apart : callable Try.prog 84 = true := by decide +kernel
def k_law08_Two : Nat → List Tmp
  | 0 => [0]
  | 1 => [0]
  | _ => []
attribute [simp] k_law08_Two.eq_1 k_law08_Two.eq_2
@[simp] theorem call_law08_Two : callable Try.prog 85 = true := by decide +kernel
def k_walk_begun : Nat → List Tmp
  | 0 => [1]
  | 1 => [2, 3]
  | _ => []
attribute [simp] k_walk_begun.eq_1 k_walk_begun.eq_2
@[simp] theorem call_walk_begun : callable Try.prog 86 = true := by decide +kernel
def k_walker_step : Nat → List Tmp
  | 0 => [0, 1]
  | 1 => [0, 5, 6]
  | 2 => [0, 5, 6, 13]
  | 3 => [0, 6]
  | 4 => [0, 4]
  | _ => []
attribute [simp] k_walker_step.eq_1 k_walker_step.eq_2 k_walker_step.eq_3 k_walker_step.eq_4 k_walker_step.eq_5
@[simp] theorem call_walker_step : callable Try.prog 87 = true := by decide +kernel
def k_walker_class : Nat → List Tmp
  | 0 => [0, 1]
  | 1 => [0, 1, 16]
  | 2 => [0, 4, 5]
  | 3 => [0, 6]
  | 4 => [0, 6, 7, 8]
  | 5 => [0, 6, 7, 28]
  | 6 => [0, 4, 5]
  | 7 => [0, 6, 9, 10]
  | 8 => [0, 6, 9, 10, 41]
  | 9 => [0, 9, 10]
  | 10 => [0, 4, 5]
  | _ => []
attribute [simp] k_walker_class.eq_1 k_walker_class.eq_2 k_walker_class.eq_3 k_walker_class.eq_4 k_walker_class.eq_5 k_walker_class.eq_6 k_walker_class.eq_7 k_walker_class.eq_8 k_walker_class.eq_9 k_walker_class.eq_10 k_walker_class.eq_11
@[simp] theorem call_walker_class : callable Try.prog 88 = true := by decide +kernel
def k_ref04_Of : Nat → List Tmp
  | 0 => [0, 1]
  | 1 => [0, 1, 5]
  | 2 => [0, 1, 5, 6]
  | 3 => [0, 1, 5, 6, 14]
  | 4 => [0, 1, 5, 6]
  | 5 => [0, 1, 5, 6, 23]
  | 6 => [0, 1, 5, 6]
  | 7 => [4]
  | _ => []
attribute [simp] k_ref04_Of.eq_1 k_ref04_Of.eq_2 k_ref04_Of.eq_3 k_ref04_Of.eq_4 k_ref04_Of.eq_5 k_ref04_Of.eq_6 k_ref04_Of.eq_7 k_ref04_Of.eq_8
@[simp] theorem call_ref04_Of : callable Try.prog 89 = true := by decide +kernel
def k_slices_ContainsFunc_int : Nat → List Tmp
  | 0 => [0, 1]
  | 1 => [4]
  | _ => []
attribute [simp] k_slices_ContainsFunc_int.eq_1 k_slices_ContainsFunc_int.eq_2
@[simp] theorem call_slices_ContainsFunc_int : callable Try.prog 90 = true := by decide +kernel
def k_table_may_1 : Nat → List Tmp
  | 0 => [0]
  | 1 => [2]
  | _ => []
attribute [simp] k_table_may_1.eq_1 k_table_may_1.eq_2
@[simp] theorem call_table_may_1 : callable Try.prog 91 = true := by decide +kernel
def k_slices_Clone_byte : Nat → List Tmp
  | 0 => [0]
  | 1 => [0, 4]
  | 2 => [2]
  | 3 => [2]
  | _ => []
attribute [simp] k_slices_Clone_byte.eq_1 k_slices_Clone_byte.eq_2 k_slices_Clone_byte.eq_3 k_slices_Clone_byte.eq_4
@[simp] theorem call_slices_Clone_byte : callable Try.prog 92 = true := by decide +kernel
def k_pack_length : Nat → List Tmp
  | 0 => [0]
  | 1 => [2]
  | _ => []
attribute [simp] k_pack_length.eq_1 k_pack_length.eq_2
@[simp] theorem call_pack_length : callable Try.prog 93 = true := by decide +kernel
def k_bits_RotateLeft32 : Nat → List Tmp
  | 0 => [0, 1]
  | 1 => [0, 5]
  | 2 => [4]
  | _ => []
attribute [simp] k_bits_RotateLeft32.eq_1 k_bits_RotateLeft32.eq_2 k_bits_RotateLeft32.eq_3
@[simp] theorem call_bits_RotateLeft32 : callable Try.prog 94 = true := by decide +kernel
def k_slices_Equal_byte : Nat → List Tmp
  | 0 => [0, 1]
  | 1 => [0, 1, 10]
  | 2 => [4]
  | 3 => [0, 1, 12, 13]
  | 4 => [0, 1, 12, 13, 14]
  | 5 => [0, 1, 5, 12, 13]
  | 6 => [0, 1, 12, 13, 24]
  | 7 => [4]
  | 8 => [0, 1, 12, 13]
  | 9 => [4]
  | _ => []
attribute [simp] k_slices_Equal_byte.eq_1 k_slices_Equal_byte.eq_2 k_slices_Equal_byte.eq_3 k_slices_Equal_byte.eq_4 k_slices_Equal_byte.eq_5 k_slices_Equal_byte.eq_6 k_slices_Equal_byte.eq_7 k_slices_Equal_byte.eq_8 k_slices_Equal_byte.eq_9 k_slices_Equal_byte.eq_10
@[simp] theorem call_slices_Equal_byte : callable Try.prog 95 = true := by decide +kernel
def k_valid_shaped : Nat → List Tmp
  | 0 => [1]
  | 1 => [2]
  | _ => []
attribute [simp] k_valid_shaped.eq_1 k_valid_shaped.eq_2
@[simp] theorem call_valid_shaped : callable Try.prog 96 = true := by decide +kernel
def k_slices_ContainsFunc_s_int : Nat → List Tmp
  | 0 => [0, 1]
  | 1 => [4]
  | _ => []
attribute [simp] k_slices_ContainsFunc_s_int.eq_1 k_slices_ContainsFunc_s_int.eq_2
@[simp] theorem call_slices_ContainsFunc_s_int : callable Try.prog 97 = true := by decide +kernel
def k_valid_nexts_1 : Nat → List Tmp
  | 0 => [0, 1]
  | 1 => [3]
  | _ => []
attribute [simp] k_valid_nexts_1.eq_1 k_valid_nexts_1.eq_2
@[simp] theorem call_valid_nexts_1 : callable Try.prog 98 = true := by decide +kernel
def k_valid_nexts_1_1 : Nat → List Tmp
  | 0 => [0, 1]
  | 1 => [3]
  | _ => []
attribute [simp] k_valid_nexts_1_1.eq_1 k_valid_nexts_1_1.eq_2
@[simp] theorem call_valid_nexts_1_1 : callable Try.prog 99 = true := by decide +kernel
def k_scalar_Is : Nat → List Tmp
  | 0 => [0]
  | 1 => [4]
  | 2 => [2]
  | _ => []
attribute [simp] k_scalar_Is.eq_1 k_scalar_Is.eq_2 k_scalar_Is.eq_3
@[simp] theorem call_scalar_Is : callable Try.prog 100 = true := by decide +kernel
def k_valid_inOrder : Nat → List Tmp
  | 0 => [0, 1]
  | 1 => [0, 1, 8, 9, 10]
  | 2 => [0, 1, 8, 9, 10, 11]
  | 3 => [0, 1, 7, 8, 9, 10]
  | 4 => [0, 1, 7, 8, 9, 10, 20]
  | 5 => [4, 5]
  | 6 => [0, 1, 8, 9, 10, 24]
  | 7 => [0, 1, 8, 9, 10]
  | 8 => [0, 1, 8, 9, 10]
  | 9 => [4, 5]
  | _ => []
attribute [simp] k_valid_inOrder.eq_1 k_valid_inOrder.eq_2 k_valid_inOrder.eq_3 k_valid_inOrder.eq_4 k_valid_inOrder.eq_5 k_valid_inOrder.eq_6 k_valid_inOrder.eq_7 k_valid_inOrder.eq_8 k_valid_inOrder.eq_9 k_valid_inOrder.eq_10
@[simp] theorem call_valid_inOrder : callable Try.prog 101 = true := by decide +kernel
def k_valid_column : Nat → List Tmp
  | 0 => [1, 2]
  | 1 => [1, 2, 5]
  | 2 => [1, 2, 5, 8, 9, 10, 11]
  | 3 => [1, 2, 5, 8, 9, 10, 11, 12]
  | 4 => [1, 2, 5, 7, 8, 9, 10, 11]
  | 5 => [1, 2, 5, 8, 9, 10, 11]
  | 6 => [1, 2, 5, 8, 9, 10, 11]
  | 7 => [4]
  | _ => []
attribute [simp] k_valid_column.eq_1 k_valid_column.eq_2 k_valid_column.eq_3 k_valid_column.eq_4 k_valid_column.eq_5 k_valid_column.eq_6 k_valid_column.eq_7 k_valid_column.eq_8
@[simp] theorem call_valid_column : callable Try.prog 102 = true := by decide +kernel
def k_refine_Of : Nat → List Tmp
  | 0 => [0, 1]
  | 1 => [0, 1, 9]
  | 2 => [4, 5]
  | 3 => [0, 1, 6]
  | 4 => [0, 1, 6, 14]
  | 5 => [0, 1, 6]
  | 6 => [0, 1, 6, 23]
  | 7 => [4, 5]
  | 8 => [4, 5]
  | _ => []
attribute [simp] k_refine_Of.eq_1 k_refine_Of.eq_2 k_refine_Of.eq_3 k_refine_Of.eq_4 k_refine_Of.eq_5 k_refine_Of.eq_6 k_refine_Of.eq_7 k_refine_Of.eq_8 k_refine_Of.eq_9
@[simp] theorem call_refine_Of : callable Try.prog 103 = true := by decide +kernel
def k_slices_IndexFunc_int : Nat → List Tmp
  | 0 => [0, 1]
  | 1 => [0, 1, 7, 8]
  | 2 => [0, 1, 7, 8, 9]
  | 3 => [0, 1, 5, 7, 8]
  | 4 => [0, 1, 5, 7, 8, 16]
  | 5 => [4]
  | 6 => [0, 1, 7, 8]
  | 7 => [4]
  | _ => []
attribute [simp] k_slices_IndexFunc_int.eq_1 k_slices_IndexFunc_int.eq_2 k_slices_IndexFunc_int.eq_3 k_slices_IndexFunc_int.eq_4 k_slices_IndexFunc_int.eq_5 k_slices_IndexFunc_int.eq_6 k_slices_IndexFunc_int.eq_7 k_slices_IndexFunc_int.eq_8
@[simp] theorem call_slices_IndexFunc_int : callable Try.prog 104 = true := by decide +kernel
def k_valid_shaped_1 : Nat → List Tmp
  | 0 => [0, 1]
  | 1 => [3]
  | _ => []
attribute [simp] k_valid_shaped_1.eq_1 k_valid_shaped_1.eq_2
@[simp] theorem call_valid_shaped_1 : callable Try.prog 105 = true := by decide +kernel
def k_slices_IndexFunc_s_int : Nat → List Tmp
  | 0 => [0, 1]
  | 1 => [0, 1, 7, 8]
  | 2 => [0, 1, 7, 8, 9]
  | 3 => [0, 1, 5, 7, 8]
  | 4 => [0, 1, 5, 7, 8, 16]
  | 5 => [4]
  | 6 => [0, 1, 7, 8]
  | 7 => [4]
  | _ => []
attribute [simp] k_slices_IndexFunc_s_int.eq_1 k_slices_IndexFunc_s_int.eq_2 k_slices_IndexFunc_s_int.eq_3 k_slices_IndexFunc_s_int.eq_4 k_slices_IndexFunc_s_int.eq_5 k_slices_IndexFunc_s_int.eq_6 k_slices_IndexFunc_s_int.eq_7 k_slices_IndexFunc_s_int.eq_8
@[simp] theorem call_slices_IndexFunc_s_int : callable Try.prog 106 = true := by decide +kernel
def k_scalar_sign : Nat → List Tmp
  | 0 => [0]
  | 1 => [0, 10]
  | 2 => [2, 3]
  | 3 => [4]
  | 4 => [2, 3]
  | _ => []
attribute [simp] k_scalar_sign.eq_1 k_scalar_sign.eq_2 k_scalar_sign.eq_3 k_scalar_sign.eq_4 k_scalar_sign.eq_5
@[simp] theorem call_scalar_sign : callable Try.prog 107 = true := by decide +kernel
def keeps : FuncId → Nat → List Tmp := fun f => ([k_law06_TableBack, k_law06_TableCodes, k_law06_TableCut, k_law06_TableFirst, k_law06_TableLengths, k_law06_TablePlaces, k_law07_ValidAlike, k_law07_ValidBreaks, k_law07_ValidClasses, k_law07_ValidOne, k_law07_ValidStates, k_law07_ValidTells, k_law08_WalkAhead, k_law08_WalkBands, k_law08_WalkSteps, k_law08_WalkTells, k_law06_Large, k_law06_wakes, k_table_Encode, k_table_Length, k_table_Decode, k_keep_Table, k_keep_Bytes, k_keep_OwnTable, k_ref06_Encode, k_ref06_Decode, k_table_Same, k_ref06_Length, k_ref05_Put, k_ref05_Sum, k_law07_wakes, k_valid_Alike, k_valid_Table, k_ref07_Table, k_keep_Bands, k_valid_Bytes, k_ref07_Bytes, k_ref07_Alike, k_law08_wakes, k_walk_Breaks, k_walk_State, k_law08_upto, k_keep_Ints, k_walk_Class, k_ref08_Class, k_ref08_States, k_ref08_Breaks, k_keep_LargeLists, k_table_may, k_table_known, k_pack_Put, k_pack_Bits, k_pack_Sum, k_table_between, k_table_sealed, k_pack_Get, k_pack_Unbits, k_keep_Lists, k_keep_Bools, k_keep_OwnLists, k_ref06_byteOf, k_ref05_Bits, k_ref05_Get, k_ref05_Unbits, k_slices_Equal_Band, k_slices_Equal_bool, k_slices_EqualFunc_s_int, k_table_Same_1, k_slices_Equal_int, k_valid_counts, k_valid_nexts, k_valid_between, k_valid_alike, k_valid_bands, k_valid_classes, k_valid_numbered, k_valid_least, k_valid_columns, k_ref07_counts, k_ref01_Is, k_ref07_nexts, k_ref07_apart, k_law08_Two, k_walk_begun, k_walker_step, k_walker_class, k_ref04_Of, k_slices_ContainsFunc_int, k_table_may_1, k_slices_Clone_byte, k_pack_length, k_bits_RotateLeft32, k_slices_Equal_byte, k_valid_shaped, k_slices_ContainsFunc_s_int, k_valid_nexts_1, k_valid_nexts_1_1, k_scalar_Is, k_valid_inOrder, k_valid_column, k_refine_Of, k_slices_IndexFunc_int, k_valid_shaped_1, k_slices_IndexFunc_s_int, k_scalar_sign] : List (Nat → List Tmp)).getD (f - 3) (fun _ => [])
end Go.V
