/- A part of the proof of TableFirst: contracts of functions, or what these lean on. No condition. -/
import Derived.Test.YthbmifpfhdlicaaA4
import Derived.Test.YthbmifpfhdlicaaA2c
import Derived.Test.YthbmifpfhdlicaaVArr
namespace Go.V
open Go.Proofs
set_option maxRecDepth 8000
set_option linter.unusedSimpArgs false
set_option linter.unusedVariables false
def isByte : PV → Bool
  | .prim (.int .u8 n) => decide (0 ≤ n) && decide (n ≤ 255)
  | _ => false
def toByte : PV → UInt8
  | .prim (.int .u8 n) => by8 n
  | _ => 0
def cloneC : List PV → Option (PV × List PV)
  | [.sl false 1 xs] => if xs.all isByte = true ∧ xs.length < 2 ^ 40 then some (.sl true 1 xs, []) else none
  | _ => none
theorem byte_eq {x : PV} (h : isByte x = true) : x = pY (toByte x) := by
  unfold isByte at h
  split at h
  · simp only [Bool.and_eq_true, decide_eq_true_eq] at h
    rename_i n
    show PV.prim (.int .u8 n) = PV.prim (.int .u8 ((by8 n).toNat : Int))
    rw [by8_toNat, Int.emod_eq_of_lt h.1 (by omega)]
  · cases h
theorem cloneC_ok {G : Nat → Option (List PV)} (h : Impl Try.prog G 92 g_slices_Clone_byte) : Impl Try.prog G 92 cloneC := by
  intro w Z xs vs φ r outs h1 h2 h3 h4 hg
  refine h w Z xs vs φ r outs h1 h2 h3 h4 ?_
  unfold cloneC at hg
  split at hg
  · rename_i ys
    split at hg
    · rename_i hc
      have hy : ys = (ys.map toByte).map pY := by
        rw [List.map_map]
        exact (List.map_id ys).symm.trans (List.map_congr_left fun x hx => byte_eq (List.all_eq_true.1 hc.1 x hx))
      simp only [Option.some.injEq, Prod.mk.injEq] at hg
      obtain ⟨rfl, rfl⟩ := hg
      rw [hy]
      exact Ok_eq (by rw [Ok_slices_Clone_byte]; exact ⟨by simpa using hc.2, rfl⟩)
    · cases hg
  · cases hg
def base6 : FuncId → Option (List PV → Option (PV × List PV)) := fun f => if f = 92 then some cloneC else none
theorem base6_ok {G : Nat → Option (List PV)} : ∀ f g, base6 f = some g → Impl Try.prog G f g := by
  intro f g h
  unfold base6 at h
  split at h
  · rename_i hf
    subst hf
    obtain rfl := Option.some.inj h
    exact cloneC_ok (impl_slices_Clone_byte Tbl.none_ok)
  · cases h
noncomputable def ev6 (G : Nat → Option (List PV)) : Tbl := evt base6 Try.prog G [] keeps 60
theorem ev6_ok {G : Nat → Option (List PV)} : ∀ f, Impl Try.prog G f (ev6 G f) := evt_ok mixed base6_ok 60
def noG : Nat → Option (List PV) := fun _ => none
theorem wakes6 : saysTrue (evt base6 Try.prog noG [] keeps 60 20 []) = true := by decide +kernel
theorem impl_law06_wakes : Impl Try.prog noG 20 gTrue := impl_true (ev6_ok 20) wakes6

end Go.V
