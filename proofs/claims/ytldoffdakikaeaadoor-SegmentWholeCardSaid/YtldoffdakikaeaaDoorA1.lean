/- A part of the proof of SegmentWhole: contracts of functions, or what these lean on. No condition. -/
import Derived.Test.YtldoffdakikaeaaDoorVB1
namespace Go.V
open Go.Proofs
set_option maxRecDepth 8000
set_option linter.unusedSimpArgs false
set_option linter.unusedVariables false
def inR (v l m : Int) : Bool := decide (l ≤ v) && decide (v ≤ m)
theorem inR_iff {v l m : Int} : inR v l m = true ↔ l ≤ v ∧ v ≤ m := by simp [inR]
theorem inR_not {v l m : Int} : inR v l m = false ↔ ¬ (l ≤ v ∧ v ≤ m) := by simp [← inR_iff]
def lenV (c s b : Int) : Int := if inR c 0 255 = true ∧ inR s 0 255 = true ∧ inR b 0 255 = true then 11 + 4 * b + c * s + (s + 7) / 8 else 0
def rot5 (x : UInt32) : UInt32 := (x <<< 5) ||| (x >>> 27)
theorem fdiv_pow {a : Int} {n : Nat} : a.fdiv (2 ^ n) = a / 2 ^ n := Int.fdiv_eq_ediv_of_nonneg _ (Int.le_of_lt (pow_pos' _))
theorem rot5_int {x : UInt32} : by32 ((x.toNat : Int) * 32) ||| by32 ((x.toNat : Int) / 134217728) = rot5 x := by
  have h1 : by32 ((x.toNat : Int) * 32) = x <<< 5 := by
    apply by32_ext; rw [UInt32.toNat_shiftLeft]
    have : (5 : UInt32).toNat % 32 = 5 := by decide
    rw [this, Nat.shiftLeft_eq]; omega
  have h2 : by32 ((x.toNat : Int) / 134217728) = x >>> 27 := by
    apply by32_ext; rw [UInt32.toNat_shiftRight]
    have : (27 : UInt32).toNat % 32 = 27 := by decide
    have := x.toNat_lt
    rw [‹(27 : UInt32).toNat % 32 = 27›, Nat.shiftRight_eq_div_pow]; omega
  rw [h1, h2]; rfl
def sumStep (s : UInt32) (b : UInt8) : UInt32 := rot5 (s ^^^ by32 b.toNat) + 2654435761
def sumL (l : List UInt8) : UInt32 := l.foldl sumStep 2166136261
theorem by32_addk {a : UInt32} : by32 ((a.toNat : Int) + 2654435761) = a + 2654435761 := by
  apply by32_ext; rw [UInt32.toNat_add]
  have : (2654435761 : UInt32).toNat = 2654435761 := by decide
  rw [this]; omega

end Go.V
