/- A part of the proof of TableLengths: contracts of functions, or what these lean on. No condition. -/
import Derived.Test.YtlcplpapiikkpaaA1
import Derived.Test.YtlcplpapiikkpaaW6
namespace Go.V
open Go.Proofs
set_option maxRecDepth 8000
set_option linter.unusedSimpArgs false
set_option linter.unusedVariables false
def e_law06_TableLengths : UInt8 × UInt8 × UInt8 → List PV := fun (a, b, c) => [.agg [pY a, pY b, pY c]]
noncomputable def g_law06_TableLengths : List PV → Option (PV × List PV) := spec e_law06_TableLengths (fun (a, b, c) => True) fun (a, b, c) => (pB true, [])
theorem e_law06_TableLengths_inj (a b : UInt8 × UInt8 × UInt8) (h : e_law06_TableLengths a = e_law06_TableLengths b) : a = b := by
  obtain ⟨a1, b1, c1⟩ := a; obtain ⟨a2, b2, c2⟩ := b; simp [e_law06_TableLengths, map_pI_inj, map_pB_inj, map_pY_inj, map_pBand_inj, map_sI_inj, UInt8.toNat_inj, UInt32.toNat_inj] at h; first | exact h | (simp [h]; done) | exact UInt32.toNat_inj.1 (by omega) | exact UInt8.toNat_inj.1 (by omega) | (simp only [Prod.mk.injEq, ← UInt8.toNat_inj, ← UInt32.toNat_inj] at *; omega) | grind
theorem Ok_law06_TableLengths {a : UInt8} {b : UInt8} {c : UInt8} {K : PV × List PV → Prop} : Ok (g_law06_TableLengths [.agg [pY a, pY b, pY c]]) K = ((True) ∧ K (pB true, [])) := Ok_spec e_law06_TableLengths_inj (a, b, c)
set_option maxHeartbeats 16000000 in
theorem impl_law06_TableLengths {tbl : Tbl} {G : Nat → Option (List PV)} (hT : Tb tbl G) (h_table_Length : tbl 22 = g_table_Length) (h_w : tbl 20 = gTrue) : Impl Try.prog G 7 (g_law06_TableLengths) := by
  refine impl_p (E := En tbl G 83 k_law06_TableLengths []) (c := _) hT mixed Try.func7 rfl rfl (fun a => by simp [e_law06_TableLengths, pinned.eq_1, pinned.eq_2, PV.isMut.eq_1, PV.isMut.eq_2]) ?_
  rintro ⟨a, b, c⟩ hok
  refine ⟨by simp [e_law06_TableLengths], ?_⟩
  have hw : gTrue [] = some (pB true, []) := rfl
  have ha := a.toNat_lt
  have hb := b.toNat_lt
  have hc := c.toNat_lt
  have hm : 0 ≤ (a.toNat : Int) * b.toNat ∧ (a.toNat : Int) * b.toNat ≤ 255 * 255 := ⟨Int.mul_nonneg (by omega) (by omega), Int.mul_le_mul (by omega) (by omega) (by omega) (by decide)⟩
  have hL : ∀ x y z : Int, 0 ≤ x ∧ x ≤ 255 → 0 ≤ y ∧ y ≤ 255 → 0 ≤ z ∧ z ≤ 255 → lenV x y z = 11 + 4 * z + x * y + (y + 7) / 8 := by
    intro x y z h1 h2 h3
    rw [lenV, if_pos ⟨inR_iff.2 h1, inR_iff.2 h2, inR_iff.2 h3⟩]
  have e0 := hL a.toNat b.toNat c.toNat (by omega) (by omega) (by omega)
  have e1 : (a.toNat : Int) < 255 → lenV (a.toNat + 1) b.toNat c.toNat = lenV a.toNat b.toNat c.toNat + b.toNat := fun h => by
    rw [hL _ _ _ (by omega) (by omega) (by omega), e0, Int.add_mul]; omega
  have e2 : (c.toNat : Int) < 255 → lenV a.toNat b.toNat (c.toNat + 1) = lenV a.toNat b.toNat c.toNat + 4 := fun h => by
    rw [hL _ _ _ (by omega) (by omega) (by omega), e0]; omega
  have e3 : (b.toNat : Int) < 255 → (b.toNat : Int) % 8 = 0 → lenV a.toNat (b.toNat + 1) c.toNat = lenV a.toNat b.toNat c.toNat + a.toNat + 1 := fun h h8 => by
    rw [hL _ _ _ (by omega) (by omega) (by omega), e0, Int.mul_add]; omega
  have e4 : (b.toNat : Int) < 255 → ¬ (b.toNat : Int) % 8 = 0 → lenV a.toNat (b.toNat + 1) c.toNat = lenV a.toNat b.toNat c.toNat + a.toNat := fun h h8 => by
    rw [hL _ _ _ (by omega) (by omega) (by omega), e0, Int.mul_add]; omega
  have e5 : lenV 0 0 0 = 11 := by decide
  have e6 : ∀ x y, lenV (-1) x y = 0 := fun x y => by rw [lenV, if_neg]; simp [inR]
  have e7 : ∀ x y, lenV x 256 y = 0 := fun x y => by rw [lenV, if_neg]; simp [inR]
  have hLb : 0 ≤ lenV a.toNat b.toNat c.toNat ∧ lenV a.toNat b.toNat c.toNat ≤ 100000 := by rw [e0]; omega
  simp -implicitDefEqProofs +contextual (maxSteps := 4000000) [-Int.not_le, -Int.not_lt, -Nat.not_le, -Nat.not_lt, -UInt32.toNat_or, -UInt32.toNat_xor, -UInt32.toNat_and, -UInt8.toNat_or, -UInt8.toNat_xor, -UInt8.toNat_and, -UInt32.toNat_add, -UInt8.toNat_add, -List.map_take, -List.map_drop, ← List.map_take, ← List.map_drop, -List.length_take, -List.length_drop, -List.map_replicate, rep_pY0, rep_pB0, rep_pI0, e_law06_TableLengths.eq_1, Try.results7, h_table_Length, Ok_table_Length, h_w, hw, e1, e2, e3, e4, e5, e6, e7]
  (repeat' (first | exact (show drawD _ _ = true by decide +kernel) | with_reducible refine and_imp_self' ?_ ?_ | with_reducible refine And.intro ?_ ?_ | with_reducible refine Exists.intro (i + 1) ?_ | with_reducible refine Exists.intro (by omega) ?_ | intro _)) <;> (try (first | omega | (unfold fits; omega) | assumption | with_reducible rfl | (simp only [inR_iff, inR_not, fits_iff] at *; omega)))
theorem law_law06_TableLengths_eq (x : UInt8 × UInt8 × UInt8) (w : True ∧ True ∧ True) : g_law06_TableLengths [.agg [pY x.1, pY x.2.1, pY x.2.2]] = some (pB true, []) :=
  Ok_eq (by rw [Ok_law06_TableLengths]; exact ⟨trivial, rfl⟩)

end Go.V
