/- A part of the proof of ValidTells: contracts of functions, or what these lean on. No condition. -/
import Derived.Test.YthbmifpfhdlicaaA13
import Derived.Test.YthbmifpfhdlicaaA14
import Derived.Test.YthbmifpfhdlicaaA15
import Derived.Test.YthbmifpfhdlicaaA4
import Derived.Test.YthbmifpfhdlicaaVM4
namespace Go.V
open Go.Proofs
set_option maxRecDepth 8000
set_option linter.unusedSimpArgs false
set_option linter.unusedVariables false
theorem get4_r {b : List UInt8} {x : Int} : 0 ≤ getN b x 4 ∧ getN b x 4 < 4294967296 := by
  unfold getN
  split
  · have hl : (List.take (4 : Int).toNat (b.drop x.toNat)).length ≤ 4 := by rw [List.length_take]; exact Nat.min_le_left _ _
    generalize List.take (4 : Int).toNat (b.drop x.toNat) = l at hl
    match l, hl with
    | [], _ => simp [beN]
    | [a], _ => have := a.toNat_lt; simp [beN]; omega
    | [a, b], _ => have := a.toNat_lt; have := b.toNat_lt; simp [beN]; omega
    | [a, b, c], _ => have := a.toNat_lt; have := b.toNat_lt; have := c.toNat_lt; simp [beN]; omega
    | [a, b, c, d], _ => have := a.toNat_lt; have := b.toNat_lt; have := c.toNat_lt; have := d.toNat_lt; simp [beN]; omega
  · omega
theorem seal_iff {b : List UInt8} : sealedB b = true ↔ getN b ((b.length : Int) - 4) 4 = ((sumL (b.take (b.length - 4))).toNat : Int) := by
  unfold sealedB
  have hr := get4_r (b := b) (x := (b.length : Int) - 4)
  rw [decide_eq_true_eq]
  have := @by32_toNat (getN b ((b.length : Int) - 4) 4)
  omega
theorem mrk_iff {b : List UInt8} : mrk b = (b.take 4 == [66, 82, 75, 49]) := rfl
def e_ref06_Decode : (List UInt8) → List PV := fun b => [sY b]
noncomputable def g_ref06_Decode : List PV → Option (PV × List PV) := spec e_ref06_Decode (fun b => b.length < 2 ^ 30) fun b => (.tup [oT (dec b), pI (decE b)], [])
theorem e_ref06_Decode_inj (a b : (List UInt8)) (h : e_ref06_Decode a = e_ref06_Decode b) : a = b := by
  simp [e_ref06_Decode, map_pI_inj, map_pB_inj, map_pY_inj, map_pBand_inj, map_sI_inj, Int.natCast_inj, UInt8.toNat_inj, UInt32.toNat_inj] at h; first | exact h | (simp [h]; done) | exact UInt32.toNat_inj.1 (by omega) | exact UInt8.toNat_inj.1 (by omega) | (simp only [Prod.mk.injEq, ← UInt8.toNat_inj, ← UInt32.toNat_inj] at *; omega) | grind
theorem Ok_ref06_Decode {b : List UInt8} {K : PV × List PV → Prop} : Ok (g_ref06_Decode [sY b]) K = ((b.length < 2 ^ 30) ∧ K (.tup [oT (dec b), pI (decE b)], [])) := Ok_spec e_ref06_Decode_inj b
set_option maxHeartbeats 4000000 in
theorem impl_ref06_Decode {tbl : Tbl} {G : Nat → Option (List PV)} (hT : Tb tbl G) (h_ref06_Length : tbl 30 = g_ref06_Length) (h_ref05_Sum : tbl 32 = g_ref05_Sum) (h_ref05_Get : tbl 65 = g_ref05_Get) (h_ref05_Unbits : tbl 66 = g_ref05_Unbits) : Impl Try.prog G 28 (g_ref06_Decode) := by
  refine impl_p (E := En tbl G 151 k_ref06_Decode []) (c := _) hT mixed Try.func28 rfl rfl (fun a => by simp [e_ref06_Decode, pinned.eq_1, pinned.eq_2, PV.isMut.eq_1, PV.isMut.eq_2]) ?_
  rintro b hok
  refine ⟨by simp [e_ref06_Decode], ?_⟩
  replace hok : b.length < 2 ^ 30 := hok
  have hs4 : (⟨#[66, 82, 75, 49]⟩ : ByteArray) = str [66, 82, 75, 49] := rfl
  by_cases h1 : b.length < 11
  · have hE : decE b = 21 := by simp [decE, h1]
    have hV : dec b = ⟨0, [], [], []⟩ := by simp [dec, hE]
    have h1' : (b.length : Int) < 11 := by omega
    simp -implicitDefEqProofs +contextual (maxSteps := 4000000) [-Int.not_le, -Int.not_lt, -Nat.not_le, -Nat.not_lt, -UInt32.toNat_or, -UInt32.toNat_xor, -UInt32.toNat_and, -UInt8.toNat_or, -UInt8.toNat_xor, -UInt8.toNat_and, -UInt32.toNat_add, -UInt8.toNat_add, -List.map_take, -List.map_drop, ← List.map_take, ← List.map_drop, -List.length_take, -List.length_drop, -List.map_replicate, rep_pY0, rep_pB0, rep_pI0, e_ref06_Decode.eq_1, Try.results28, h_ref06_Length, Ok_ref06_Length, h_ref05_Sum, Ok_ref05_Sum, h_ref05_Get, Ok_ref05_Get, h_ref05_Unbits, Ok_ref05_Unbits, hE, hV, h1']
  have h1' : ¬ (b.length : Int) < 11 := by omega
  have tn4 : ((b.length : Int) - 4).toNat = b.length - 4 := by omega
  have hT : (List.take (b.length - 4) b).length = b.length - 4 := by rw [List.length_take]; omega
  cases h2 : mrk b
  · have hE : decE b = 22 := by simp [decE, h1, h2]
    have hV : dec b = ⟨0, [], [], []⟩ := by simp [dec, hE]
    rw [mrk_iff] at h2
    simp -implicitDefEqProofs +contextual (maxSteps := 4000000) [-Int.not_le, -Int.not_lt, -Nat.not_le, -Nat.not_lt, -UInt32.toNat_or, -UInt32.toNat_xor, -UInt32.toNat_and, -UInt8.toNat_or, -UInt8.toNat_xor, -UInt8.toNat_and, -UInt32.toNat_add, -UInt8.toNat_add, -List.map_take, -List.map_drop, ← List.map_take, ← List.map_drop, -List.length_take, -List.length_drop, -List.map_replicate, rep_pY0, rep_pB0, rep_pI0, e_ref06_Decode.eq_1, Try.results28, h_ref06_Length, Ok_ref06_Length, h_ref05_Sum, Ok_ref05_Sum, h_ref05_Get, Ok_ref05_Get, h_ref05_Unbits, Ok_ref05_Unbits, hE, hV, h1', hs4, h2]
    (repeat' (first | exact (show drawD _ _ = true by decide +kernel) | exact (show _ = List.range' _ _ from rfl) | with_reducible refine and_imp_self' ?_ ?_ | with_reducible refine And.intro ?_ ?_ | with_reducible refine @Exists.intro Nat _ (i + 1) ?_ | with_reducible refine Exists.intro (show (_ : Nat) < _ by omega) ?_ | intro _)) <;> (try (first | omega | (unfold fits; omega) | assumption | with_reducible rfl | (simp only [inR_iff, inR_not, fits_iff] at *; omega)))
    all_goals trace_state
  have h2' := h2
  rw [mrk_iff] at h2'
  cases h3 : sealedB b
  · have hE : decE b = 23 := by simp [decE, h1, h2, h3]
    have hV : dec b = ⟨0, [], [], []⟩ := by simp [dec, hE]
    have h3' : ¬ getN b ((b.length : Int) - 4) 4 = ((sumL (b.take (b.length - 4))).toNat : Int) := fun h => by rw [seal_iff.2 h] at h3; cases h3
    simp -implicitDefEqProofs +contextual (maxSteps := 4000000) [-Int.not_le, -Int.not_lt, -Nat.not_le, -Nat.not_lt, -UInt32.toNat_or, -UInt32.toNat_xor, -UInt32.toNat_and, -UInt8.toNat_or, -UInt8.toNat_xor, -UInt8.toNat_and, -UInt32.toNat_add, -UInt8.toNat_add, -List.map_take, -List.map_drop, ← List.map_take, ← List.map_drop, -List.length_take, -List.length_drop, -List.map_replicate, rep_pY0, rep_pB0, rep_pI0, e_ref06_Decode.eq_1, Try.results28, h_ref06_Length, Ok_ref06_Length, h_ref05_Sum, Ok_ref05_Sum, h_ref05_Get, Ok_ref05_Get, h_ref05_Unbits, Ok_ref05_Unbits, hE, hV, h1', hs4, h2', h3', tn4]
    (repeat' (first | exact (show drawD _ _ = true by decide +kernel) | exact (show _ = List.range' _ _ from rfl) | with_reducible refine and_imp_self' ?_ ?_ | with_reducible refine And.intro ?_ ?_ | with_reducible refine @Exists.intro Nat _ (i + 1) ?_ | with_reducible refine Exists.intro (show (_ : Nat) < _ by omega) ?_ | intro _)) <;> (try (first | omega | (unfold fits; omega) | assumption | with_reducible rfl | (simp only [inR_iff, inR_not, fits_iff] at *; omega)))
    all_goals trace_state
  have h3' := seal_iff.1 h3
  have no : decC b = false → decE b = 24 ∧ dec b = ⟨0, [], [], []⟩ := fun h4 => by
    have hE : decE b = 24 := by simp [decE, h1, h2, h3, h4]
    exact ⟨hE, by simp [dec, hE]⟩
  have g1 := inR_iff (v := byB b 4) (l := 1) (m := 8)
  have g2 := inR_iff (v := byB b 5) (l := 1) (m := 5)
  have g3 := inR_iff (v := byB b 6) (l := 1) (m := 60)
  by_cases h4 : decC b = false
  · obtain ⟨hE, hV⟩ := no h4
    by_cases c1 : byB b 4 < 1
    · simp -implicitDefEqProofs +contextual (maxSteps := 4000000) [-Int.not_le, -Int.not_lt, -Nat.not_le, -Nat.not_lt, -UInt32.toNat_or, -UInt32.toNat_xor, -UInt32.toNat_and, -UInt8.toNat_or, -UInt8.toNat_xor, -UInt8.toNat_and, -UInt32.toNat_add, -UInt8.toNat_add, -List.map_take, -List.map_drop, ← List.map_take, ← List.map_drop, -List.length_take, -List.length_drop, -List.map_replicate, rep_pY0, rep_pB0, rep_pI0, e_ref06_Decode.eq_1, Try.results28, h_ref06_Length, Ok_ref06_Length, h_ref05_Sum, Ok_ref05_Sum, h_ref05_Get, Ok_ref05_Get, h_ref05_Unbits, Ok_ref05_Unbits, hE, hV, h1', hs4, h2', h3', tn4, byB_eq, c1]
      (repeat' (first | exact (show drawD _ _ = true by decide +kernel) | exact (show _ = List.range' _ _ from rfl) | with_reducible refine and_imp_self' ?_ ?_ | with_reducible refine And.intro ?_ ?_ | with_reducible refine @Exists.intro Nat _ (i + 1) ?_ | with_reducible refine Exists.intro (show (_ : Nat) < _ by omega) ?_ | intro _)) <;> (try (first | omega | (unfold fits; omega) | assumption | with_reducible rfl | (simp only [inR_iff, inR_not, fits_iff] at *; omega)))
    by_cases c2 : 8 < byB b 4
    · simp -implicitDefEqProofs +contextual (maxSteps := 4000000) [-Int.not_le, -Int.not_lt, -Nat.not_le, -Nat.not_lt, -UInt32.toNat_or, -UInt32.toNat_xor, -UInt32.toNat_and, -UInt8.toNat_or, -UInt8.toNat_xor, -UInt8.toNat_and, -UInt32.toNat_add, -UInt8.toNat_add, -List.map_take, -List.map_drop, ← List.map_take, ← List.map_drop, -List.length_take, -List.length_drop, -List.map_replicate, rep_pY0, rep_pB0, rep_pI0, e_ref06_Decode.eq_1, Try.results28, h_ref06_Length, Ok_ref06_Length, h_ref05_Sum, Ok_ref05_Sum, h_ref05_Get, Ok_ref05_Get, h_ref05_Unbits, Ok_ref05_Unbits, hE, hV, h1', hs4, h2', h3', tn4, byB_eq, c1, c2]
      (repeat' (first | exact (show drawD _ _ = true by decide +kernel) | exact (show _ = List.range' _ _ from rfl) | with_reducible refine and_imp_self' ?_ ?_ | with_reducible refine And.intro ?_ ?_ | with_reducible refine @Exists.intro Nat _ (i + 1) ?_ | with_reducible refine Exists.intro (show (_ : Nat) < _ by omega) ?_ | intro _)) <;> (try (first | omega | (unfold fits; omega) | assumption | with_reducible rfl | (simp only [inR_iff, inR_not, fits_iff] at *; omega)))
    by_cases c3 : byB b 5 < 1
    · simp -implicitDefEqProofs +contextual (maxSteps := 4000000) [-Int.not_le, -Int.not_lt, -Nat.not_le, -Nat.not_lt, -UInt32.toNat_or, -UInt32.toNat_xor, -UInt32.toNat_and, -UInt8.toNat_or, -UInt8.toNat_xor, -UInt8.toNat_and, -UInt32.toNat_add, -UInt8.toNat_add, -List.map_take, -List.map_drop, ← List.map_take, ← List.map_drop, -List.length_take, -List.length_drop, -List.map_replicate, rep_pY0, rep_pB0, rep_pI0, e_ref06_Decode.eq_1, Try.results28, h_ref06_Length, Ok_ref06_Length, h_ref05_Sum, Ok_ref05_Sum, h_ref05_Get, Ok_ref05_Get, h_ref05_Unbits, Ok_ref05_Unbits, hE, hV, h1', hs4, h2', h3', tn4, byB_eq, c1, c2, c3]
      (repeat' (first | exact (show drawD _ _ = true by decide +kernel) | exact (show _ = List.range' _ _ from rfl) | with_reducible refine and_imp_self' ?_ ?_ | with_reducible refine And.intro ?_ ?_ | with_reducible refine @Exists.intro Nat _ (i + 1) ?_ | with_reducible refine Exists.intro (show (_ : Nat) < _ by omega) ?_ | intro _)) <;> (try (first | omega | (unfold fits; omega) | assumption | with_reducible rfl | (simp only [inR_iff, inR_not, fits_iff] at *; omega)))
    by_cases c4 : 5 < byB b 5
    · simp -implicitDefEqProofs +contextual (maxSteps := 4000000) [-Int.not_le, -Int.not_lt, -Nat.not_le, -Nat.not_lt, -UInt32.toNat_or, -UInt32.toNat_xor, -UInt32.toNat_and, -UInt8.toNat_or, -UInt8.toNat_xor, -UInt8.toNat_and, -UInt32.toNat_add, -UInt8.toNat_add, -List.map_take, -List.map_drop, ← List.map_take, ← List.map_drop, -List.length_take, -List.length_drop, -List.map_replicate, rep_pY0, rep_pB0, rep_pI0, e_ref06_Decode.eq_1, Try.results28, h_ref06_Length, Ok_ref06_Length, h_ref05_Sum, Ok_ref05_Sum, h_ref05_Get, Ok_ref05_Get, h_ref05_Unbits, Ok_ref05_Unbits, hE, hV, h1', hs4, h2', h3', tn4, byB_eq, c1, c2, c3, c4]
      (repeat' (first | exact (show drawD _ _ = true by decide +kernel) | exact (show _ = List.range' _ _ from rfl) | with_reducible refine and_imp_self' ?_ ?_ | with_reducible refine And.intro ?_ ?_ | with_reducible refine @Exists.intro Nat _ (i + 1) ?_ | with_reducible refine Exists.intro (show (_ : Nat) < _ by omega) ?_ | intro _)) <;> (try (first | omega | (unfold fits; omega) | assumption | with_reducible rfl | (simp only [inR_iff, inR_not, fits_iff] at *; omega)))
    by_cases c5 : byB b 6 < 1
    · simp -implicitDefEqProofs +contextual (maxSteps := 4000000) [-Int.not_le, -Int.not_lt, -Nat.not_le, -Nat.not_lt, -UInt32.toNat_or, -UInt32.toNat_xor, -UInt32.toNat_and, -UInt8.toNat_or, -UInt8.toNat_xor, -UInt8.toNat_and, -UInt32.toNat_add, -UInt8.toNat_add, -List.map_take, -List.map_drop, ← List.map_take, ← List.map_drop, -List.length_take, -List.length_drop, -List.map_replicate, rep_pY0, rep_pB0, rep_pI0, e_ref06_Decode.eq_1, Try.results28, h_ref06_Length, Ok_ref06_Length, h_ref05_Sum, Ok_ref05_Sum, h_ref05_Get, Ok_ref05_Get, h_ref05_Unbits, Ok_ref05_Unbits, hE, hV, h1', hs4, h2', h3', tn4, byB_eq, c1, c2, c3, c4, c5]
      (repeat' (first | exact (show drawD _ _ = true by decide +kernel) | exact (show _ = List.range' _ _ from rfl) | with_reducible refine and_imp_self' ?_ ?_ | with_reducible refine And.intro ?_ ?_ | with_reducible refine @Exists.intro Nat _ (i + 1) ?_ | with_reducible refine Exists.intro (show (_ : Nat) < _ by omega) ?_ | intro _)) <;> (try (first | omega | (unfold fits; omega) | assumption | with_reducible rfl | (simp only [inR_iff, inR_not, fits_iff] at *; omega)))
    by_cases c6 : 60 < byB b 6
    · simp -implicitDefEqProofs +contextual (maxSteps := 4000000) [-Int.not_le, -Int.not_lt, -Nat.not_le, -Nat.not_lt, -UInt32.toNat_or, -UInt32.toNat_xor, -UInt32.toNat_and, -UInt8.toNat_or, -UInt8.toNat_xor, -UInt8.toNat_and, -UInt32.toNat_add, -UInt8.toNat_add, -List.map_take, -List.map_drop, ← List.map_take, ← List.map_drop, -List.length_take, -List.length_drop, -List.map_replicate, rep_pY0, rep_pB0, rep_pI0, e_ref06_Decode.eq_1, Try.results28, h_ref06_Length, Ok_ref06_Length, h_ref05_Sum, Ok_ref05_Sum, h_ref05_Get, Ok_ref05_Get, h_ref05_Unbits, Ok_ref05_Unbits, hE, hV, h1', hs4, h2', h3', tn4, byB_eq, c1, c2, c3, c4, c5, c6]
      (repeat' (first | exact (show drawD _ _ = true by decide +kernel) | exact (show _ = List.range' _ _ from rfl) | with_reducible refine and_imp_self' ?_ ?_ | with_reducible refine And.intro ?_ ?_ | with_reducible refine @Exists.intro Nat _ (i + 1) ?_ | with_reducible refine Exists.intro (show (_ : Nat) < _ by omega) ?_ | intro _)) <;> (try (first | omega | (unfold fits; omega) | assumption | with_reducible rfl | (simp only [inR_iff, inR_not, fits_iff] at *; omega)))
    by_cases c7 : lenV (byB b 4) (byB b 5) (byB b 6) = b.length
    · exfalso
      have : decC b = true := by unfold decC; rw [g1.2 (by omega), g2.2 (by omega), g3.2 (by omega)]; simpa using c7
      rw [this] at h4; cases h4
    simp -implicitDefEqProofs +contextual (maxSteps := 4000000) [-Int.not_le, -Int.not_lt, -Nat.not_le, -Nat.not_lt, -UInt32.toNat_or, -UInt32.toNat_xor, -UInt32.toNat_and, -UInt8.toNat_or, -UInt8.toNat_xor, -UInt8.toNat_and, -UInt32.toNat_add, -UInt8.toNat_add, -List.map_take, -List.map_drop, ← List.map_take, ← List.map_drop, -List.length_take, -List.length_drop, -List.map_replicate, rep_pY0, rep_pB0, rep_pI0, e_ref06_Decode.eq_1, Try.results28, h_ref06_Length, Ok_ref06_Length, h_ref05_Sum, Ok_ref05_Sum, h_ref05_Get, Ok_ref05_Get, h_ref05_Unbits, Ok_ref05_Unbits, hE, hV, h1', hs4, h2', h3', tn4, byB_eq, c1, c2, c3, c4, c5, c6, c7]
    (repeat' (first | exact (show drawD _ _ = true by decide +kernel) | exact (show _ = List.range' _ _ from rfl) | with_reducible refine and_imp_self' ?_ ?_ | with_reducible refine And.intro ?_ ?_ | with_reducible refine @Exists.intro Nat _ (i + 1) ?_ | with_reducible refine Exists.intro (show (_ : Nat) < _ by omega) ?_ | intro _)) <;> (try (first | omega | (unfold fits; omega) | assumption | with_reducible rfl | (simp only [inR_iff, inR_not, fits_iff] at *; omega)))
  simp only [Bool.not_eq_false] at h4
  have h4' := h4
  unfold decC at h4'
  simp only [Bool.and_eq_true, decide_eq_true_eq, inR_iff] at h4'
  obtain ⟨⟨⟨r1, r2⟩, r3⟩, c7⟩ := h4'
  have c1 : ¬ byB b 4 < 1 := by omega
  have c2 : ¬ 8 < byB b 4 := by omega
  have c3 : ¬ byB b 5 < 1 := by omega
  have c4 : ¬ 5 < byB b 5 := by omega
  have c5 : ¬ byB b 6 < 1 := by omega
  have c6 : ¬ 60 < byB b 6 := by omega
  have hl := c7
  rw [lenV, if_pos ⟨inR_iff.2 (by omega), inR_iff.2 (by omega), inR_iff.2 (by omega)⟩] at hl
  simp -implicitDefEqProofs +contextual (maxSteps := 4000000) [-Int.not_le, -Int.not_lt, -Nat.not_le, -Nat.not_lt, -UInt32.toNat_or, -UInt32.toNat_xor, -UInt32.toNat_and, -UInt8.toNat_or, -UInt8.toNat_xor, -UInt8.toNat_and, -UInt32.toNat_add, -UInt8.toNat_add, -List.map_take, -List.map_drop, ← List.map_take, ← List.map_drop, -List.length_take, -List.length_drop, -List.map_replicate, rep_pY0, rep_pB0, rep_pI0, e_ref06_Decode.eq_1, Try.results28, h_ref06_Length, Ok_ref06_Length, h_ref05_Sum, Ok_ref05_Sum, h_ref05_Get, Ok_ref05_Get, h_ref05_Unbits, Ok_ref05_Unbits, h1', hs4, h2', h3', tn4, byB_eq, c1, c2, c3, c4, c5, c6, c7]
  (repeat' (first | exact (show drawD _ _ = true by decide +kernel) | exact (show _ = List.range' _ _ from rfl) | with_reducible refine and_imp_self' ?_ ?_ | with_reducible refine And.intro ?_ ?_ | with_reducible refine @Exists.intro Nat _ (i + 1) ?_ | with_reducible refine Exists.intro (show (_ : Nat) < _ by omega) ?_ | intro _)) <;> (try (first | omega | (unfold fits; omega) | assumption | with_reducible rfl | (simp only [inR_iff, inR_not, fits_iff] at *; omega)))
  have hnn : 0 ≤ byB b 4 * byB b 5 := Int.mul_nonneg (by omega) (by omega)
  have hA0 : dAt b 0 = 7 + 4 * (byB b 6).toNat := by unfold dAt; omega
  have hAn : dAt b (byB b 5).toNat + ((byB b 5).toNat + 7) / 8 + 4 = b.length := by
    have h5 : ((byB b 4).toNat * (byB b 5).toNat : Nat) = byB b 4 * byB b 5 := by rw [Int.natCast_mul]; congr 1 <;> omega
    unfold dAt; omega
  refine loopu (fun i => i ≤ (byB b 6).toNat)
    (fun i => [(7, .ptr true [pI (byB b 4), tBand (decBs b i), .sl true 1 [], .sl true 1 []]), (8, pI (dB i)), (9, pI i)])
    (fun i => (byB b 6).toNat - i) ?_ (s := 0) rfl (by simp)
  intro i hi
  have tn3 : ((dB i : Int) + 3).toNat = dB i + 3 := by omega
  have hdB : dB i = 7 + 4 * i := rfl
  have hdB1 : dB (i + 1) = 7 + 4 * (i + 1) := rfl
  simp -implicitDefEqProofs +contextual (maxSteps := 4000000) [-Int.not_le, -Int.not_lt, -Nat.not_le, -Nat.not_lt, -UInt32.toNat_or, -UInt32.toNat_xor, -UInt32.toNat_and, -UInt8.toNat_or, -UInt8.toNat_xor, -UInt8.toNat_and, -UInt32.toNat_add, -UInt8.toNat_add, -List.map_take, -List.map_drop, ← List.map_take, ← List.map_drop, -List.length_take, -List.length_drop, -List.map_replicate, rep_pY0, rep_pB0, rep_pI0, e_ref06_Decode.eq_1, Try.results28, h_ref06_Length, Ok_ref06_Length, h_ref05_Sum, Ok_ref05_Sum, h_ref05_Get, Ok_ref05_Get, h_ref05_Unbits, Ok_ref05_Unbits, byB_eq, tn3, decBs_len]
  (repeat' (first | exact (show drawD _ _ = true by decide +kernel) | exact (show _ = List.range' _ _ from rfl) | with_reducible refine and_imp_self' ?_ ?_ | with_reducible refine And.intro ?_ ?_ | with_reducible refine @Exists.intro Nat _ (i + 1) ?_ | with_reducible refine Exists.intro (show (_ : Nat) < _ by omega) ?_ | intro _)) <;> (try (first | omega | (unfold fits; omega) | assumption | with_reducible rfl | (simp only [inR_iff, inR_not, fits_iff] at *; omega)))
  · rw [decBs_succ, List.map_append]; rfl
  obtain rfl : i = (byB b 6).toNat := by omega
  have e0 : dB (byB b 6).toNat = dAt b 0 := by omega
  rw [e0]
  refine loopu (fun s => s ≤ (byB b 5).toNat)
    (fun s => [(7, .ptr true [pI (byB b 4), tBand (decBs b (byB b 6).toNat), tII (decRs b s), .sl true 1 []]), (8, pI (dAt b s)), (10, pI s)])
    (fun s => (byB b 5).toNat - s) ?_ (s := 0) rfl (by simp)
  intro s hs
  have tnt : ((b.length : Int) - 4).toNat - dAt b (byB b 5).toNat = b.length - 4 - dAt b (byB b 5).toNat := by omega
  have hsn : s < (byB b 5).toNat → dAt b s + (byB b 4).toNat ≤ dAt b (byB b 5).toNat := fun h => by rw [← dAt_succ]; exact dAt_le h
  have hsle : dAt b s ≤ dAt b (byB b 5).toNat := dAt_le hs
  have hrl : s < (byB b 5).toNat → (rowB b s).length = (byB b 4).toNat := fun h => by
    have := hsn h
    rw [rowB, List.length_take, List.length_drop]; omega
  simp -implicitDefEqProofs +contextual (maxSteps := 4000000) [-Int.not_le, -Int.not_lt, -Nat.not_le, -Nat.not_lt, -UInt32.toNat_or, -UInt32.toNat_xor, -UInt32.toNat_and, -UInt8.toNat_or, -UInt8.toNat_xor, -UInt8.toNat_and, -UInt32.toNat_add, -UInt8.toNat_add, -List.map_take, -List.map_drop, ← List.map_take, ← List.map_drop, -List.length_take, -List.length_drop, -List.map_replicate, rep_pY0, rep_pB0, rep_pI0, e_ref06_Decode.eq_1, Try.results28, h_ref06_Length, Ok_ref06_Length, h_ref05_Sum, Ok_ref05_Sum, h_ref05_Get, Ok_ref05_Get, h_ref05_Unbits, Ok_ref05_Unbits]
  (repeat' (first | exact (show drawD _ _ = true by decide +kernel) | exact (show _ = List.range' _ _ from rfl) | with_reducible refine and_imp_self' ?_ ?_ | with_reducible refine And.intro ?_ ?_ | with_reducible refine @Exists.intro Nat _ (i + 1) ?_ | with_reducible refine Exists.intro (show (_ : Nat) < _ by omega) ?_ | intro _)) <;> (try (first | omega | (unfold fits; omega) | assumption | with_reducible rfl | (simp only [inR_iff, inR_not, fits_iff] at *; omega)))
  · have hs' : s < (byB b 5).toNat := by omega
    have hr := hrl hs'
    have hsn' := hsn hs'
    refine loopu (fun i => i ≤ (rowB b s).length)
      (fun i => [(8, pI (dAt b s + i : Nat)), (11, tI (nums ((rowB b s).take i))), (12, pI i)])
      (fun i => (rowB b s).length - i) ?_ (s := 0) rfl (by simp)
    intro i hi
    have hB : ∀ h : i < (rowB b s).length, byB b (dAt b s + i) = ((rowB b s)[i].toNat : Int) := fun h => by
      have h2 : dAt b s + i < b.length := by omega
      rw [← byB_eq h2]
      simp only [rowB, List.getElem_take, List.getElem_drop]
    simp -implicitDefEqProofs +contextual (maxSteps := 4000000) [-Int.not_le, -Int.not_lt, -Nat.not_le, -Nat.not_lt, -UInt32.toNat_or, -UInt32.toNat_xor, -UInt32.toNat_and, -UInt8.toNat_or, -UInt8.toNat_xor, -UInt8.toNat_and, -UInt32.toNat_add, -UInt8.toNat_add, -List.map_take, -List.map_drop, ← List.map_take, ← List.map_drop, -List.length_take, -List.length_drop, -List.map_replicate, rep_pY0, rep_pB0, rep_pI0, e_ref06_Decode.eq_1, Try.results28, h_ref06_Length, Ok_ref06_Length, h_ref05_Sum, Ok_ref05_Sum, h_ref05_Get, Ok_ref05_Get, h_ref05_Unbits, Ok_ref05_Unbits, decRs_len, byB_eq]
    have tna : ((dAt b s : Int) + i).toNat = dAt b s + i := by omega
    have hnl : (nums (List.take i (rowB b s))).length ≤ 8 := by rw [nums, List.length_map, List.length_take]; omega
    have hbr := byB_r (b := b) (i := dAt b s + i)
    rw [tna]
    refine ⟨fun a => ⟨by omega, fun _ _ => ⟨by unfold fits; omega, fun _ => ⟨by omega, fun _ => ⟨by unfold fits; omega, fun _ => ⟨by unfold fits; omega, fun _ => ⟨i + 1, by omega, by omega, by omega, ?_, by omega⟩⟩⟩⟩⟩⟩, fun a => ⟨by omega, fun _ => ⟨by unfold fits; omega, fun _ => ⟨s + 1, by omega, by omega, ?_, ?_, by omega⟩⟩⟩⟩
    · have a' : i < (rowB b s).length := by omega
      rw [hB a', take_succ' a', nums, nums, List.map_append, List.map_append]; rfl
    · rw [decRs_succ, List.map_append, List.take_of_length_le (by omega)]; rfl
    · rw [dAt_succ]; omega
  all_goals (obtain rfl : s = (byB b 5).toNat := by omega)
  all_goals (have eT : List.take (((b.length : Int) - 4).toNat - dAt b (byB b 5).toNat) (List.drop (dAt b (byB b 5).toNat) b) = decTail b := by rw [tnt]; rfl)
  all_goals (simp only [eT] at *)
  all_goals first
    | (unfold decTail; rw [List.length_take]; omega)
    | (have hu : unbitsB (decTail b) (byB b 5) = false := by assumption
       have hE : decE b = 25 := by simp [decE, h1, h2, h3, h4, hu]
       simp [dec, hE]; done)
    | (have hu : unbitsB (decTail b) (byB b 5) = true := by assumption
       have hE : decE b = 0 := by simp [decE, h1, h2, h3, h4, hu]
       simp [dec, hE, decT]; done)

end Go.V
