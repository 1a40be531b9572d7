/- A part of the proof of TableFirst: contracts of functions, or what these lean on. No condition. -/
import Derived.Test.YthbmifpfhdlicaaVB1
namespace Go.V
open Go.Proofs
set_option maxRecDepth 8000
set_option linter.unusedSimpArgs false
set_option linter.unusedVariables false
def inR (v l m : Int) : Bool := decide (l ≤ v) && decide (v ≤ m)
theorem inR_iff {v l m : Int} : inR v l m = true ↔ l ≤ v ∧ v ≤ m := by simp [inR]
theorem inR_not {v l m : Int} : inR v l m = false ↔ ¬ (l ≤ v ∧ v ≤ m) := by simp [← inR_iff]
def e_table_between : Int × Int × Int → List PV := fun (v, l, m) => [pI v, pI l, pI m]
noncomputable def g_table_between : List PV → Option (PV × List PV) := spec e_table_between (fun (v, l, m) => True) fun (v, l, m) => (pB (inR v l m), [])
theorem e_table_between_inj (a b : Int × Int × Int) (h : e_table_between a = e_table_between b) : a = b := by
  obtain ⟨v1, l1, m1⟩ := a; obtain ⟨v2, l2, m2⟩ := b; simp [e_table_between, map_pI_inj, map_pB_inj, map_pY_inj, map_pBand_inj, map_sI_inj, Int.natCast_inj, UInt8.toNat_inj, UInt32.toNat_inj] at h; first | exact h | (simp [h]; done) | exact UInt32.toNat_inj.1 (by omega) | exact UInt8.toNat_inj.1 (by omega) | (simp only [Prod.mk.injEq, ← UInt8.toNat_inj, ← UInt32.toNat_inj] at *; omega) | grind
theorem Ok_table_between {v : Int} {l : Int} {m : Int} {K : PV × List PV → Prop} : Ok (g_table_between [pI v, pI l, pI m]) K = ((True) ∧ K (pB (inR v l m), [])) := Ok_spec e_table_between_inj (v, l, m)
set_option maxHeartbeats 1000000 in
theorem impl_table_between {tbl : Tbl} {G : Nat → Option (List PV)} (hT : Tb tbl G) : Impl Try.prog G 56 (g_table_between) := by
  refine impl_p (E := En tbl G 15 k_table_between []) (c := _) hT mixed Try.func56 rfl rfl (fun a => by simp [e_table_between, pinned.eq_1, pinned.eq_2, PV.isMut.eq_1, PV.isMut.eq_2]) ?_
  rintro ⟨v, l, m⟩ hok
  refine ⟨by simp [e_table_between], ?_⟩
  simp -implicitDefEqProofs +contextual (maxSteps := 4000000) [-Int.not_le, -Int.not_lt, -Nat.not_le, -Nat.not_lt, -UInt32.toNat_or, -UInt32.toNat_xor, -UInt32.toNat_and, -UInt8.toNat_or, -UInt8.toNat_xor, -UInt8.toNat_and, -UInt32.toNat_add, -UInt8.toNat_add, -List.map_take, -List.map_drop, ← List.map_take, ← List.map_drop, -List.length_take, -List.length_drop, -List.map_replicate, rep_pY0, rep_pB0, rep_pI0, e_table_between.eq_1, Try.results56, inR.eq_1]
def lenV (c s b : Int) : Int := if inR c 0 255 = true ∧ inR s 0 255 = true ∧ inR b 0 255 = true then 11 + 4 * b + c * s + (s + 7) / 8 else 0
def e_table_Length : Int × Int × Int → List PV := fun (c, s, b) => [pI c, pI s, pI b]
noncomputable def g_table_Length : List PV → Option (PV × List PV) := spec e_table_Length (fun (c, s, b) => True) fun (c, s, b) => (pI (lenV c s b), [])
theorem e_table_Length_inj (a b : Int × Int × Int) (h : e_table_Length a = e_table_Length b) : a = b := by
  obtain ⟨c1, s1, b1⟩ := a; obtain ⟨c2, s2, b2⟩ := b; simp [e_table_Length, map_pI_inj, map_pB_inj, map_pY_inj, map_pBand_inj, map_sI_inj, Int.natCast_inj, UInt8.toNat_inj, UInt32.toNat_inj] at h; first | exact h | (simp [h]; done) | exact UInt32.toNat_inj.1 (by omega) | exact UInt8.toNat_inj.1 (by omega) | (simp only [Prod.mk.injEq, ← UInt8.toNat_inj, ← UInt32.toNat_inj] at *; omega) | grind
theorem Ok_table_Length {c : Int} {s : Int} {b : Int} {K : PV × List PV → Prop} : Ok (g_table_Length [pI c, pI s, pI b]) K = ((True) ∧ K (pI (lenV c s b), [])) := Ok_spec e_table_Length_inj (c, s, b)
set_option maxHeartbeats 1000000 in
theorem impl_table_Length {tbl : Tbl} {G : Nat → Option (List PV)} (hT : Tb tbl G) (h_table_between : tbl 56 = g_table_between) : Impl Try.prog G 22 (g_table_Length) := by
  refine impl_p (E := En tbl G 32 k_table_Length []) (c := _) hT mixed Try.func22 rfl rfl (fun a => by simp [e_table_Length, pinned.eq_1, pinned.eq_2, PV.isMut.eq_1, PV.isMut.eq_2]) ?_
  rintro ⟨c, s, b⟩ hok
  refine ⟨by simp [e_table_Length], ?_⟩
  simp -implicitDefEqProofs +contextual (maxSteps := 4000000) [-Int.not_le, -Int.not_lt, -Nat.not_le, -Nat.not_lt, -UInt32.toNat_or, -UInt32.toNat_xor, -UInt32.toNat_and, -UInt8.toNat_or, -UInt8.toNat_xor, -UInt8.toNat_and, -UInt32.toNat_add, -UInt8.toNat_add, -List.map_take, -List.map_drop, ← List.map_take, ← List.map_drop, -List.length_take, -List.length_drop, -List.map_replicate, rep_pY0, rep_pB0, rep_pI0, e_table_Length.eq_1, Try.results22, h_table_between, Ok_table_between, lenV.eq_1]
  by_cases hc : inR c 0 255 = true
  · by_cases hs : inR s 0 255 = true
    · have i1 := inR_iff.1 hc
      have i2 := inR_iff.1 hs
      have hm : 0 ≤ c * s ∧ c * s ≤ 255 * 255 := ⟨Int.mul_nonneg i1.1 i2.1, Int.mul_le_mul i1.2 i2.2 i2.1 (by decide)⟩
      (repeat' (first | exact (show drawD _ _ = true by decide +kernel) | exact (show _ = List.range' _ _ from rfl) | with_reducible refine and_imp_self' ?_ ?_ | with_reducible refine And.intro ?_ ?_ | with_reducible refine @Exists.intro Nat _ (i + 1) ?_ | with_reducible refine Exists.intro (show (_ : Nat) < _ by omega) ?_ | intro _)) <;> (try (first | omega | (unfold fits; omega) | assumption | with_reducible rfl | (simp only [inR_iff, inR_not, fits_iff] at *; omega)))
    · (repeat' (first | exact (show drawD _ _ = true by decide +kernel) | exact (show _ = List.range' _ _ from rfl) | with_reducible refine and_imp_self' ?_ ?_ | with_reducible refine And.intro ?_ ?_ | with_reducible refine @Exists.intro Nat _ (i + 1) ?_ | with_reducible refine Exists.intro (show (_ : Nat) < _ by omega) ?_ | intro _)) <;> (try (first | omega | (unfold fits; omega) | assumption | with_reducible rfl | (simp only [inR_iff, inR_not, fits_iff] at *; omega)))
  · (repeat' (first | exact (show drawD _ _ = true by decide +kernel) | exact (show _ = List.range' _ _ from rfl) | with_reducible refine and_imp_self' ?_ ?_ | with_reducible refine And.intro ?_ ?_ | with_reducible refine @Exists.intro Nat _ (i + 1) ?_ | with_reducible refine Exists.intro (show (_ : Nat) < _ by omega) ?_ | intro _)) <;> (try (first | omega | (unfold fits; omega) | assumption | with_reducible rfl | (simp only [inR_iff, inR_not, fits_iff] at *; omega)))
def e_pack_length : Int → List PV := fun n => [pI n]
noncomputable def g_pack_length : List PV → Option (PV × List PV) := spec e_pack_length (fun n => 0 ≤ n ∧ n < 2 ^ 62) fun n => (pI ((n + 7) / 8), [])
theorem e_pack_length_inj (a b : Int) (h : e_pack_length a = e_pack_length b) : a = b := by
  simp [e_pack_length, map_pI_inj, map_pB_inj, map_pY_inj, map_pBand_inj, map_sI_inj, Int.natCast_inj, UInt8.toNat_inj, UInt32.toNat_inj] at h; first | exact h | (simp [h]; done) | exact UInt32.toNat_inj.1 (by omega) | exact UInt8.toNat_inj.1 (by omega) | (simp only [Prod.mk.injEq, ← UInt8.toNat_inj, ← UInt32.toNat_inj] at *; omega) | grind
theorem Ok_pack_length {n : Int} {K : PV × List PV → Prop} : Ok (g_pack_length [pI n]) K = ((0 ≤ n ∧ n < 2 ^ 62) ∧ K (pI ((n + 7) / 8), [])) := Ok_spec e_pack_length_inj n
set_option maxHeartbeats 1000000 in
theorem impl_pack_length {tbl : Tbl} {G : Nat → Option (List PV)} (hT : Tb tbl G) : Impl Try.prog G 93 (g_pack_length) := by
  refine impl_p (E := En tbl G 7 k_pack_length []) (c := _) hT mixed Try.func93 rfl rfl (fun a => by simp [e_pack_length, pinned.eq_1, pinned.eq_2, PV.isMut.eq_1, PV.isMut.eq_2]) ?_
  rintro n hok
  refine ⟨by simp [e_pack_length], ?_⟩
  replace hok : 0 ≤ n ∧ n < 2 ^ 62 := hok
  simp -implicitDefEqProofs +contextual (maxSteps := 4000000) [-Int.not_le, -Int.not_lt, -Nat.not_le, -Nat.not_lt, -UInt32.toNat_or, -UInt32.toNat_xor, -UInt32.toNat_and, -UInt8.toNat_or, -UInt8.toNat_xor, -UInt8.toNat_and, -UInt32.toNat_add, -UInt8.toNat_add, -List.map_take, -List.map_drop, ← List.map_take, ← List.map_drop, -List.length_take, -List.length_drop, -List.map_replicate, rep_pY0, rep_pB0, rep_pI0, e_pack_length.eq_1, Try.results93]
  (repeat' (first | exact (show drawD _ _ = true by decide +kernel) | exact (show _ = List.range' _ _ from rfl) | with_reducible refine and_imp_self' ?_ ?_ | with_reducible refine And.intro ?_ ?_ | with_reducible refine @Exists.intro Nat _ (i + 1) ?_ | with_reducible refine Exists.intro (show (_ : Nat) < _ by omega) ?_ | intro _)) <;> (try (first | omega | (unfold fits; omega) | assumption | with_reducible rfl | (simp only [inR_iff, inR_not, fits_iff] at *; omega)))
def rot5 (x : UInt32) : UInt32 := (x <<< 5) ||| (x >>> 27)
theorem fdiv_pow {a : Int} {n : Nat} : a.fdiv (2 ^ n) = a / 2 ^ n := Int.fdiv_eq_ediv_of_nonneg _ (Int.le_of_lt (pow_pos' _))
theorem rot5_int {x : UInt32} : by32 ((x.toNat : Int) * 32) ||| by32 ((x.toNat : Int) / 134217728) = rot5 x := by
  have h1 : by32 ((x.toNat : Int) * 32) = x <<< 5 := by
    apply by32_ext; rw [UInt32.toNat_shiftLeft]
    have : (5 : UInt32).toNat % 32 = 5 := by decide
    rw [this, Nat.shiftLeft_eq]; omega
  have h2 : by32 ((x.toNat : Int) / 134217728) = x >>> 27 := by
    apply by32_ext; rw [UInt32.toNat_shiftRight]
    have : (27 : UInt32).toNat % 32 = 27 := by decide
    have := x.toNat_lt
    rw [‹(27 : UInt32).toNat % 32 = 27›, Nat.shiftRight_eq_div_pow]; omega
  rw [h1, h2]; rfl
def e_bits_RotateLeft32 : UInt32 → List PV := fun x => [pW x, pI 5]
noncomputable def g_bits_RotateLeft32 : List PV → Option (PV × List PV) := spec e_bits_RotateLeft32 (fun x => True) fun x => (pW (rot5 x), [])
theorem e_bits_RotateLeft32_inj (a b : UInt32) (h : e_bits_RotateLeft32 a = e_bits_RotateLeft32 b) : a = b := by
  simp [e_bits_RotateLeft32, map_pI_inj, map_pB_inj, map_pY_inj, map_pBand_inj, map_sI_inj, Int.natCast_inj, UInt8.toNat_inj, UInt32.toNat_inj] at h; first | exact h | (simp [h]; done) | exact UInt32.toNat_inj.1 (by omega) | exact UInt8.toNat_inj.1 (by omega) | (simp only [Prod.mk.injEq, ← UInt8.toNat_inj, ← UInt32.toNat_inj] at *; omega) | grind
theorem Ok_bits_RotateLeft32 {x : UInt32} {K : PV × List PV → Prop} : Ok (g_bits_RotateLeft32 [pW x, pI 5]) K = ((True) ∧ K (pW (rot5 x), [])) := Ok_spec e_bits_RotateLeft32_inj x
set_option maxHeartbeats 1000000 in
theorem impl_bits_RotateLeft32 {tbl : Tbl} {G : Nat → Option (List PV)} (hT : Tb tbl G) : Impl Try.prog G 94 (g_bits_RotateLeft32) := by
  refine impl_p (E := En tbl G 17 k_bits_RotateLeft32 []) (c := _) hT mixed Try.func94 rfl rfl (fun a => by simp [e_bits_RotateLeft32, pinned.eq_1, pinned.eq_2, PV.isMut.eq_1, PV.isMut.eq_2]) ?_
  rintro x hok
  refine ⟨by simp [e_bits_RotateLeft32], ?_⟩
  have e5 : IntKind.u64.wrap 5 = 5 := by decide
  have e27 : IntKind.u64.wrap 27 = 27 := by decide
  simp -implicitDefEqProofs +contextual (maxSteps := 4000000) [-Int.not_le, -Int.not_lt, -Nat.not_le, -Nat.not_lt, -UInt32.toNat_or, -UInt32.toNat_xor, -UInt32.toNat_and, -UInt8.toNat_or, -UInt8.toNat_xor, -UInt8.toNat_and, -UInt32.toNat_add, -UInt8.toNat_add, -List.map_take, -List.map_drop, ← List.map_take, ← List.map_drop, -List.length_take, -List.length_drop, -List.map_replicate, rep_pY0, rep_pB0, rep_pI0, e_bits_RotateLeft32.eq_1, Try.results94, e5, e27]
  rw [rot5_int]
def sumStep (s : UInt32) (b : UInt8) : UInt32 := rot5 (s ^^^ by32 b.toNat) + 2654435761
def sumL (l : List UInt8) : UInt32 := l.foldl sumStep 2166136261
theorem by32_addk {a : UInt32} : by32 ((a.toNat : Int) + 2654435761) = a + 2654435761 := by
  apply by32_ext; rw [UInt32.toNat_add]
  have : (2654435761 : UInt32).toNat = 2654435761 := by decide
  rw [this]; omega
def e_pack_Sum : (List UInt8) → List PV := fun l => [sY l]
noncomputable def g_pack_Sum : List PV → Option (PV × List PV) := spec e_pack_Sum (fun l => l.length < 2 ^ 62) fun l => (pW (sumL l), [])
theorem e_pack_Sum_inj (a b : (List UInt8)) (h : e_pack_Sum a = e_pack_Sum b) : a = b := by
  simp [e_pack_Sum, map_pI_inj, map_pB_inj, map_pY_inj, map_pBand_inj, map_sI_inj, Int.natCast_inj, UInt8.toNat_inj, UInt32.toNat_inj] at h; first | exact h | (simp [h]; done) | exact UInt32.toNat_inj.1 (by omega) | exact UInt8.toNat_inj.1 (by omega) | (simp only [Prod.mk.injEq, ← UInt8.toNat_inj, ← UInt32.toNat_inj] at *; omega) | grind
theorem Ok_pack_Sum {l : List UInt8} {K : PV × List PV → Prop} : Ok (g_pack_Sum [sY l]) K = ((l.length < 2 ^ 62) ∧ K (pW (sumL l), [])) := Ok_spec e_pack_Sum_inj l
set_option maxHeartbeats 1000000 in
theorem impl_pack_Sum {tbl : Tbl} {G : Nat → Option (List PV)} (hT : Tb tbl G) (h_bits_RotateLeft32 : tbl 94 = g_bits_RotateLeft32) : Impl Try.prog G 55 (g_pack_Sum) := by
  refine impl_p (E := En tbl G 20 k_pack_Sum []) (c := _) hT mixed Try.func55 rfl rfl (fun a => by simp [e_pack_Sum, pinned.eq_1, pinned.eq_2, PV.isMut.eq_1, PV.isMut.eq_2]) ?_
  rintro l hok
  refine ⟨by simp [e_pack_Sum], ?_⟩
  replace hok : l.length < 2 ^ 62 := hok
  simp -implicitDefEqProofs +contextual (maxSteps := 4000000) [-Int.not_le, -Int.not_lt, -Nat.not_le, -Nat.not_lt, -UInt32.toNat_or, -UInt32.toNat_xor, -UInt32.toNat_and, -UInt8.toNat_or, -UInt8.toNat_xor, -UInt8.toNat_and, -UInt32.toNat_add, -UInt8.toNat_add, -List.map_take, -List.map_drop, ← List.map_take, ← List.map_drop, -List.length_take, -List.length_drop, -List.map_replicate, rep_pY0, rep_pB0, rep_pI0, e_pack_Sum.eq_1, Try.results55, h_bits_RotateLeft32, Ok_bits_RotateLeft32, by32_addk]
  refine loopo (fun i => i ≤ l.length)
    (fun i => [(0, .val (sY l), 0, 0), (3, .val (pW (sumL (l.take i))), 0, 0), (6, .val (sY l), 0, 0), (7, .val (pI l.length), 0, 0), (8, .val (pI i), 0, 0)])
    (fun i => l.length - i) ?_ (s := 0) rfl (by simp)
  intro i hi
  simp -implicitDefEqProofs +contextual (maxSteps := 4000000) [-Int.not_le, -Int.not_lt, -Nat.not_le, -Nat.not_lt, -UInt32.toNat_or, -UInt32.toNat_xor, -UInt32.toNat_and, -UInt8.toNat_or, -UInt8.toNat_xor, -UInt8.toNat_and, -UInt32.toNat_add, -UInt8.toNat_add, -List.map_take, -List.map_drop, ← List.map_take, ← List.map_drop, -List.length_take, -List.length_drop, -List.map_replicate, rep_pY0, rep_pB0, rep_pI0, e_pack_Sum.eq_1, Try.results55, h_bits_RotateLeft32, Ok_bits_RotateLeft32, by32_addk]
  (repeat' (first | exact (show drawD _ _ = true by decide +kernel) | exact (show _ = List.range' _ _ from rfl) | with_reducible refine and_imp_self' ?_ ?_ | with_reducible refine And.intro ?_ ?_ | with_reducible refine @Exists.intro Nat _ (i + 1) ?_ | with_reducible refine Exists.intro (show (_ : Nat) < _ by omega) ?_ | intro _)) <;> (try (first | omega | (unfold fits; omega) | assumption | with_reducible rfl | (simp only [inR_iff, inR_not, fits_iff] at *; omega)))
  · rw [sumL, sumL, foldl_take ‹_›]; rfl
  · rw [List.take_of_length_le (by omega)]

end Go.V
