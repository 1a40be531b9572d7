/- A part of the proof of TableFirst: contracts of functions, or what these lean on. No condition. -/
import Derived.Test.YthbmifpfhdlicaaA2
import Derived.Test.YthbmifpfhdlicaaA4
namespace Go.V
open Go.Proofs
set_option maxRecDepth 8000
set_option linter.unusedSimpArgs false
set_option linter.unusedVariables false
def bitAt (b : List UInt8) (i : Nat) : Bool := decide (((by8 (((b.getD (i / 8) 0).toNat : Int) / 2 ^ (i % 8)) &&& 1).toNat : Int) = 1)
def unbitsTo (b : List UInt8) (n i : Nat) : List Bool := (List.range i).foldl (fun out k => out.set k (bitAt b k)) (List.replicate n false)
theorem unbitsTo_succ {b : List UInt8} {n i : Nat} : unbitsTo b n (i + 1) = (unbitsTo b n i).set i (bitAt b i) := foldl_range
theorem unbitsTo_len {b : List UInt8} {n i : Nat} : (unbitsTo b n i).length = n := by
  induction i with
  | zero => simp [unbitsTo]
  | succ i ih => rw [unbitsTo_succ]; simp [ih]
def unbitsC (b : List UInt8) (n : Int) : Bool := decide (0 ≤ n) && decide (n ≤ 8 * b.length) && decide ((b.length : Int) = (n + 7) / 8)
def unbitsB (b : List UInt8) (n : Int) : Bool := unbitsC b n && decide (bitsL (unbitsTo b n.toNat n.toNat) = b)
def unbitsL (b : List UInt8) (n : Int) : List Bool := if unbitsB b n = true then unbitsTo b n.toNat n.toNat else []
def e_pack_Unbits : (List UInt8) × Int → List PV := fun (b, n) => [sY b, pI n]
noncomputable def g_pack_Unbits : List PV → Option (PV × List PV) := spec e_pack_Unbits (fun (b, n) => b.length < 2 ^ 36) fun (b, n) => (.tup [tB (unbitsL b n), pB (unbitsB b n)], [])
theorem e_pack_Unbits_inj (a b : (List UInt8) × Int) (h : e_pack_Unbits a = e_pack_Unbits b) : a = b := by
  obtain ⟨b1, n1⟩ := a; obtain ⟨b2, n2⟩ := b; simp [e_pack_Unbits, map_pI_inj, map_pB_inj, map_pY_inj, map_pBand_inj, map_sI_inj, Int.natCast_inj, UInt8.toNat_inj, UInt32.toNat_inj] at h; first | exact h | (simp [h]; done) | exact UInt32.toNat_inj.1 (by omega) | exact UInt8.toNat_inj.1 (by omega) | (simp only [Prod.mk.injEq, ← UInt8.toNat_inj, ← UInt32.toNat_inj] at *; omega) | grind
theorem Ok_pack_Unbits {b : List UInt8} {n : Int} {K : PV × List PV → Prop} : Ok (g_pack_Unbits [sY b, pI n]) K = ((b.length < 2 ^ 36) ∧ K (.tup [tB (unbitsL b n), pB (unbitsB b n)], [])) := Ok_spec e_pack_Unbits_inj (b, n)
set_option maxHeartbeats 1000000 in
theorem impl_pack_Unbits {tbl : Tbl} {G : Nat → Option (List PV)} (hT : Tb tbl G) (h_pack_Bits : tbl 54 = g_pack_Bits) (h_pack_length : tbl 93 = g_pack_length) (h_slices_Equal_byte : tbl 95 = g_slices_Equal_byte) : Impl Try.prog G 59 (g_pack_Unbits) := by
  refine impl_p (E := En tbl G 51 k_pack_Unbits []) (c := _) hT mixed Try.func59 rfl rfl (fun a => by simp [e_pack_Unbits, pinned.eq_1, pinned.eq_2, PV.isMut.eq_1, PV.isMut.eq_2]) ?_
  rintro ⟨b, n⟩ hok
  refine ⟨by simp [e_pack_Unbits], ?_⟩
  replace hok : b.length < 2 ^ 36 := hok
  by_cases h : unbitsC b n = true
  · have h1 : 0 ≤ n ∧ n ≤ 8 * b.length ∧ (b.length : Int) = (n + 7) / 8 := by simpa [unbitsC, and_assoc] using h
    obtain ⟨h1, h2, h3⟩ := h1
    obtain ⟨m, rfl⟩ := Int.eq_ofNat_of_zero_le h1
    have g1 : ¬ (m : Int) < 0 := by omega
    have g2 : ¬ 8 * (b.length : Int) < m := by omega
    simp -implicitDefEqProofs +contextual (maxSteps := 4000000) [-Int.not_le, -Int.not_lt, -Nat.not_le, -Nat.not_lt, -UInt32.toNat_or, -UInt32.toNat_xor, -UInt32.toNat_and, -UInt8.toNat_or, -UInt8.toNat_xor, -UInt8.toNat_and, -UInt32.toNat_add, -UInt8.toNat_add, -List.map_take, -List.map_drop, ← List.map_take, ← List.map_drop, -List.length_take, -List.length_drop, -List.map_replicate, rep_pY0, rep_pB0, rep_pI0, e_pack_Unbits.eq_1, Try.results59, h_pack_Bits, Ok_pack_Bits, h_pack_length, Ok_pack_length, h_slices_Equal_byte, Ok_slices_Equal_byte, g1, g2, ← h3]
    (repeat' (first | exact (show drawD _ _ = true by decide +kernel) | exact (show _ = List.range' _ _ from rfl) | with_reducible refine and_imp_self' ?_ ?_ | with_reducible refine And.intro ?_ ?_ | with_reducible refine @Exists.intro Nat _ (i + 1) ?_ | with_reducible refine Exists.intro (show (_ : Nat) < _ by omega) ?_ | intro _)) <;> (try (first | omega | (unfold fits; omega) | assumption | with_reducible rfl | (simp only [inR_iff, inR_not, fits_iff] at *; omega)))
    refine loopo (fun i => i ≤ m)
      (fun i => [(0, .val (sY b), 0, 0), (6, .val (tB (unbitsTo b m i)), 0, 0), (27, .val (pI m), 0, 0), (28, .val (pI i), 0, 0)])
      (fun i => m - i) ?_ (s := 0) ?_ ?_
    rotate_left
    · simp [unbitsTo]
    · simp
    intro i hi
    obtain ⟨q, q1, hq⟩ : ∃ q : Nat, (i : Int) / 8 = q ∧ q = i / 8 := ⟨_, by omega, rfl⟩
    obtain ⟨r, q2, hr⟩ : ∃ r : Nat, (i : Int) % 8 = r ∧ r = i % 8 := ⟨_, by omega, rfl⟩
    have hlen : (bitsL (unbitsTo b m m)).length < 4611686018427387904 := by rw [bitsL, bitsTo_len, unbitsTo_len]; omega
    simp -implicitDefEqProofs +contextual (maxSteps := 4000000) [-Int.not_le, -Int.not_lt, -Nat.not_le, -Nat.not_lt, -UInt32.toNat_or, -UInt32.toNat_xor, -UInt32.toNat_and, -UInt8.toNat_or, -UInt8.toNat_xor, -UInt8.toNat_and, -UInt32.toNat_add, -UInt8.toNat_add, -List.map_take, -List.map_drop, ← List.map_take, ← List.map_drop, -List.length_take, -List.length_drop, -List.map_replicate, rep_pY0, rep_pB0, rep_pI0, e_pack_Unbits.eq_1, Try.results59, h_pack_Bits, Ok_pack_Bits, h_pack_length, Ok_pack_length, h_slices_Equal_byte, Ok_slices_Equal_byte, q1, q2, unbitsTo_len]
    (repeat' (first | exact (show drawD _ _ = true by decide +kernel) | exact (show _ = List.range' _ _ from rfl) | with_reducible refine and_imp_self' ?_ ?_ | with_reducible refine And.intro ?_ ?_ | with_reducible refine @Exists.intro Nat _ (i + 1) ?_ | with_reducible refine Exists.intro (show (_ : Nat) < _ by omega) ?_ | intro _)) <;> (try (first | omega | (unfold fits; omega) | assumption | with_reducible rfl | (simp only [inR_iff, inR_not, fits_iff] at *; omega)))
    · rw [unbitsTo_succ]
      have : pB (decide (((by8 (((b[q]'(by omega)).toNat : Int) / 2 ^ r) &&& 1).toNat : Int) = 1)) = pB (bitAt b i) := by
        unfold bitAt
        rw [← hq, ← hr, List.getD_eq_getElem?_getD, List.getElem?_eq_getElem (by omega)]; rfl
      rw [List.map_set, ← this]
    all_goals have hme : i = m := by omega
    all_goals subst hme
    · exact hlen
    · rw [unbitsL, if_neg]
      simp [unbitsB, h]
      assumption
    · simp [unbitsB, h]
      assumption
    · rw [unbitsL, if_pos]
      · rfl
      · simp [unbitsB, h]
        assumption
    · simp [unbitsB, h]
      assumption
  · have g : n < 0 ∨ 8 * (b.length : Int) < n ∨ ¬ (b.length : Int) = (n + 7) / 8 := by
      have h' : ¬ (0 ≤ n ∧ n ≤ 8 * b.length ∧ (b.length : Int) = (n + 7) / 8) := by simpa [unbitsC, and_assoc] using h
      omega
    have hB : unbitsB b n = false := by simp [unbitsB, h]
    simp -implicitDefEqProofs +contextual (maxSteps := 4000000) [-Int.not_le, -Int.not_lt, -Nat.not_le, -Nat.not_lt, -UInt32.toNat_or, -UInt32.toNat_xor, -UInt32.toNat_and, -UInt8.toNat_or, -UInt8.toNat_xor, -UInt8.toNat_and, -UInt32.toNat_add, -UInt8.toNat_add, -List.map_take, -List.map_drop, ← List.map_take, ← List.map_drop, -List.length_take, -List.length_drop, -List.map_replicate, rep_pY0, rep_pB0, rep_pI0, e_pack_Unbits.eq_1, Try.results59, h_pack_Bits, Ok_pack_Bits, h_pack_length, Ok_pack_length, h_slices_Equal_byte, Ok_slices_Equal_byte, hB, unbitsL.eq_1]
    (repeat' (first | exact (show drawD _ _ = true by decide +kernel) | exact (show _ = List.range' _ _ from rfl) | with_reducible refine and_imp_self' ?_ ?_ | with_reducible refine And.intro ?_ ?_ | with_reducible refine @Exists.intro Nat _ (i + 1) ?_ | with_reducible refine Exists.intro (show (_ : Nat) < _ by omega) ?_ | intro _)) <;> (try (first | omega | (unfold fits; omega) | assumption | with_reducible rfl | (simp only [inR_iff, inR_not, fits_iff] at *; omega)))
def sealedB (b : List UInt8) : Bool := decide (((by32 (getN b (b.length - 4) 4)).toNat : Int) = (sumL (b.take (b.length - 4))).toNat)
def e_table_sealed : (List UInt8) → List PV := fun b => [sY b]
noncomputable def g_table_sealed : List PV → Option (PV × List PV) := spec e_table_sealed (fun b => 4 ≤ b.length ∧ b.length < 2 ^ 40) fun b => (pB (sealedB b), [])
theorem e_table_sealed_inj (a b : (List UInt8)) (h : e_table_sealed a = e_table_sealed b) : a = b := by
  simp [e_table_sealed, map_pI_inj, map_pB_inj, map_pY_inj, map_pBand_inj, map_sI_inj, Int.natCast_inj, UInt8.toNat_inj, UInt32.toNat_inj] at h; first | exact h | (simp [h]; done) | exact UInt32.toNat_inj.1 (by omega) | exact UInt8.toNat_inj.1 (by omega) | (simp only [Prod.mk.injEq, ← UInt8.toNat_inj, ← UInt32.toNat_inj] at *; omega) | grind
theorem Ok_table_sealed {b : List UInt8} {K : PV × List PV → Prop} : Ok (g_table_sealed [sY b]) K = ((4 ≤ b.length ∧ b.length < 2 ^ 40) ∧ K (pB (sealedB b), [])) := Ok_spec e_table_sealed_inj b
set_option maxHeartbeats 1000000 in
theorem impl_table_sealed {tbl : Tbl} {G : Nat → Option (List PV)} (hT : Tb tbl G) (h_pack_Sum : tbl 55 = g_pack_Sum) (h_pack_Get : tbl 58 = g_pack_Get) : Impl Try.prog G 57 (g_table_sealed) := by
  refine impl_p (E := En tbl G 22 k_table_sealed []) (c := _) hT mixed Try.func57 rfl rfl (fun a => by simp [e_table_sealed, pinned.eq_1, pinned.eq_2, PV.isMut.eq_1, PV.isMut.eq_2]) ?_
  rintro b hok
  refine ⟨by simp [e_table_sealed], ?_⟩
  replace hok : 4 ≤ b.length ∧ b.length < 2 ^ 40 := hok
  obtain ⟨m, hm⟩ : ∃ m : Nat, (b.length : Int) - 4 = m ∧ m = b.length - 4 := ⟨_, by omega, rfl⟩
  simp -implicitDefEqProofs +contextual (maxSteps := 4000000) [-Int.not_le, -Int.not_lt, -Nat.not_le, -Nat.not_lt, -UInt32.toNat_or, -UInt32.toNat_xor, -UInt32.toNat_and, -UInt8.toNat_or, -UInt8.toNat_xor, -UInt8.toNat_and, -UInt32.toNat_add, -UInt8.toNat_add, -List.map_take, -List.map_drop, ← List.map_take, ← List.map_drop, -List.length_take, -List.length_drop, -List.map_replicate, rep_pY0, rep_pB0, rep_pI0, e_table_sealed.eq_1, Try.results57, h_pack_Sum, Ok_pack_Sum, h_pack_Get, Ok_pack_Get, hm.1]
  (repeat' (first | exact (show drawD _ _ = true by decide +kernel) | exact (show _ = List.range' _ _ from rfl) | with_reducible refine and_imp_self' ?_ ?_ | with_reducible refine And.intro ?_ ?_ | with_reducible refine @Exists.intro Nat _ (i + 1) ?_ | with_reducible refine Exists.intro (show (_ : Nat) < _ by omega) ?_ | intro _)) <;> (try (first | omega | (unfold fits; omega) | assumption | with_reducible rfl | (simp only [inR_iff, inR_not, fits_iff] at *; omega)))
  · rw [List.length_take]; omega
  · rw [sealedB, ← hm.1, ← hm.2]

end Go.V
