/- A part of the proof of TableBack: contracts of functions, or what these lean on. No condition. -/
import Derived.Test.YthbmifpfhdlicaaP8
import Derived.Test.YthbmifpfhdlicaaA3
import Derived.Test.YthbmifpfhdlicaaA6
namespace Go.V
open Go.Proofs
set_option maxRecDepth 8000
set_option linter.unusedSimpArgs false
set_option linter.unusedVariables false
theorem set_pY {l : List UInt8} {k : Nat} {v : UInt8} : (l.map pY).set k (PV.prim (.int .u8 v.toNat)) = (l.set k v).map pY := by rw [List.map_set]
def e_law06_TableBack : Tab × (List UInt8) × Int × Int → List PV := fun (t, b, n, m) => [pT t, sY b, .agg [.prim (.int .u16 n), .prim (.int .u16 m)]]
noncomputable def g_law06_TableBack : List PV → Option (PV × List PV) := spec e_law06_TableBack (fun (t, b, n, m) => (t.bands.length < 2 ^ 63 ∧ t.next.length < 2 ^ 63 ∧ t.brk.length < 2 ^ 63) ∧ (0 ≤ n ∧ n < 65536) ∧ (0 ≤ m ∧ m < 65536) ∧ b.length < 2 ^ 63) fun (t, b, n, m) => (pB true, [])
theorem e_law06_TableBack_inj (a b : Tab × (List UInt8) × Int × Int) (h : e_law06_TableBack a = e_law06_TableBack b) : a = b := by
  obtain ⟨⟨t1a, t1b, t1c, t1d⟩, b1, n1, m1⟩ := a; obtain ⟨⟨t2a, t2b, t2c, t2d⟩, b2, n2, m2⟩ := b; simp [e_law06_TableBack, map_pI_inj, map_pB_inj, map_pY_inj, map_pBand_inj, map_sI_inj, Int.natCast_inj, UInt8.toNat_inj, UInt32.toNat_inj] at h; first | exact h | (simp [h]; done) | exact UInt32.toNat_inj.1 (by omega) | exact UInt8.toNat_inj.1 (by omega) | (simp only [Prod.mk.injEq, ← UInt8.toNat_inj, ← UInt32.toNat_inj] at *; omega) | grind
theorem Ok_law06_TableBack {t : Tab} {b : List UInt8} {n : Int} {m : Int} {K : PV × List PV → Prop} : Ok (g_law06_TableBack [pT t, sY b, .agg [.prim (.int .u16 n), .prim (.int .u16 m)]]) K = (((t.bands.length < 2 ^ 63 ∧ t.next.length < 2 ^ 63 ∧ t.brk.length < 2 ^ 63) ∧ (0 ≤ n ∧ n < 65536) ∧ (0 ≤ m ∧ m < 65536) ∧ b.length < 2 ^ 63) ∧ K (pB true, [])) := Ok_spec e_law06_TableBack_inj (t, b, n, m)
set_option maxHeartbeats 4000000 in
theorem impl_law06_TableBack {tbl : Tbl} {G : Nat → Option (List PV)} (hT : Tb tbl G) (h_law06_Large : tbl 19 = g_law06_Large) (h_table_Encode : tbl 21 = g_table_Encode) (h_table_Length : tbl 22 = g_table_Length) (h_table_Decode : tbl 23 = g_table_Decode) (h_keep_Table : tbl 24 = g_keep_Table) (h_keep_Bytes : tbl 25 = g_keep_Bytes) (h_w : tbl 20 = gTrue) : Impl Try.prog G 3 (g_law06_TableBack) := by
  refine impl_p (E := En tbl G 160 k_law06_TableBack []) (c := _) hT mixed Try.func3 rfl rfl (fun a => by simp [e_law06_TableBack, pinned.eq_1, pinned.eq_2, PV.isMut.eq_1, PV.isMut.eq_2]) ?_
  rintro ⟨t, b, n, m⟩ hok
  refine ⟨by simp [e_law06_TableBack], ?_⟩
  replace hok : (t.bands.length < 2 ^ 63 ∧ t.next.length < 2 ^ 63 ∧ t.brk.length < 2 ^ 63) ∧ (0 ≤ n ∧ n < 65536) ∧ (0 ≤ m ∧ m < 65536) ∧ b.length < 2 ^ 63 := hok
  have hw : gTrue [] = some (pB true, []) := rfl
  obtain ⟨hok, ⟨hn0, hn1⟩, ⟨hm0, hm1⟩, hbl⟩ := hok
  by_cases hL : largeT t = true
  · simp -implicitDefEqProofs +contextual (maxSteps := 4000000) [-Int.not_le, -Int.not_lt, -Nat.not_le, -Nat.not_lt, -UInt32.toNat_or, -UInt32.toNat_xor, -UInt32.toNat_and, -UInt8.toNat_or, -UInt8.toNat_xor, -UInt8.toNat_and, -UInt32.toNat_add, -UInt8.toNat_add, -List.map_take, -List.map_drop, ← List.map_take, ← List.map_drop, -List.length_take, -List.length_drop, -List.map_replicate, rep_pY0, rep_pB0, rep_pI0, e_law06_TableBack.eq_1, Try.results3, h_law06_Large, Ok_law06_Large, h_table_Encode, Ok_table_Encode, h_table_Length, Ok_table_Length, h_table_Decode, Ok_table_Decode, h_keep_Table, Ok_keep_Table, h_keep_Bytes, Ok_keep_Bytes, h_w, hw, hL]
    omega
  have hL' : largeT t = false := by simpa using hL
  by_cases hB : 2000 < (b.length : Int)
  · simp -implicitDefEqProofs +contextual (maxSteps := 4000000) [-Int.not_le, -Int.not_lt, -Nat.not_le, -Nat.not_lt, -UInt32.toNat_or, -UInt32.toNat_xor, -UInt32.toNat_and, -UInt8.toNat_or, -UInt8.toNat_xor, -UInt8.toNat_and, -UInt32.toNat_add, -UInt8.toNat_add, -List.map_take, -List.map_drop, ← List.map_take, ← List.map_drop, -List.length_take, -List.length_drop, -List.map_replicate, rep_pY0, rep_pB0, rep_pI0, e_law06_TableBack.eq_1, Try.results3, h_law06_Large, Ok_law06_Large, h_table_Encode, Ok_table_Encode, h_table_Length, Ok_table_Length, h_table_Decode, Ok_table_Decode, h_keep_Table, Ok_keep_Table, h_keep_Bytes, Ok_keep_Bytes, h_w, hw, hL', hB]
    omega
  have hsm := largeT_small hL'
  have kV : ¬ decE b = 0 → dec b = ⟨0, [], [], []⟩ := @dec_no b
  have kM : decE b = 0 → May (dec b) := fun h => (enc_dec h).1
  have kE : decE b = 0 → encL (dec b) = b := fun h => (enc_dec h).2
  have kS : small (dec b) := dec_small
  by_cases hM : May t
  case neg =>
    have hEn : encL t = [] := by unfold encL; rw [if_neg hM]
    simp -implicitDefEqProofs +contextual (maxSteps := 4000000) [-Int.not_le, -Int.not_lt, -Nat.not_le, -Nat.not_lt, -UInt32.toNat_or, -UInt32.toNat_xor, -UInt32.toNat_and, -UInt8.toNat_or, -UInt8.toNat_xor, -UInt8.toNat_and, -UInt32.toNat_add, -UInt8.toNat_add, -List.map_take, -List.map_drop, ← List.map_take, ← List.map_drop, -List.length_take, -List.length_drop, -List.map_replicate, rep_pY0, rep_pB0, rep_pI0, e_law06_TableBack.eq_1, Try.results3, h_law06_Large, Ok_law06_Large, h_table_Encode, Ok_table_Encode, h_table_Length, Ok_table_Length, h_table_Decode, Ok_table_Decode, h_keep_Table, Ok_keep_Table, h_keep_Bytes, Ok_keep_Bytes, h_w, hw, hL', hB, hM, hEn, hsm, kM, kS, kV, kE]
    (repeat' (first | exact (show drawD _ _ = true by decide +kernel) | exact (show _ = List.range' _ _ from rfl) | with_reducible refine and_imp_self' ?_ ?_ | with_reducible refine And.intro ?_ ?_ | with_reducible refine @Exists.intro Nat _ (i + 1) ?_ | with_reducible refine Exists.intro (show (_ : Nat) < _ by omega) ?_ | intro _)) <;> (try (first | omega | (unfold fits; omega) | assumption | with_reducible rfl | (simp only [inR_iff, inR_not, fits_iff] at *; omega)))
  have hlen := encL_len hM
  have hbf := body_facts hM
  have hblen := bodyL_len hM
  obtain ⟨hc, hn, hb, hl⟩ := hM.counts
  have hlt : (encL t).length < 2 ^ 20 := by
    have : t.classes.toNat * t.next.length ≤ 255 * 255 := Nat.mul_le_mul (by omega) (by omega)
    omega
  have g11 : ¬ ((encL t).length : Int) < 11 := by omega
  have hv := (encL_V hM).symm
  obtain ⟨k, hk, hk2⟩ : ∃ k : Nat, n % ((encL t).length : Int) = k ∧ k < (encL t).length :=
    ⟨(n % ((encL t).length : Int)).toNat, by have := Int.emod_nonneg n (b := (encL t).length) (by omega); omega, by have := Int.emod_nonneg n (b := (encL t).length) (by omega); have := Int.emod_lt_of_pos n (b := (encL t).length) (by omega); omega⟩
  have hd : (encL t)[k] ^^^ by8 (1 + ((by8 (m.tmod 255)).toNat : Int)) ≠ (encL t)[k] := by
    intro e
    have e1 : by8 (1 + ((by8 (m.tmod 255)).toNat : Int)) = 0 := by
      have e2 := congrArg (fun z => (encL t)[k] ^^^ z) e
      simpa [← UInt8.xor_assoc] using e2
    have e3 := congrArg (fun z : UInt8 => (z.toNat : Int)) e1
    simp only [by8_toNat] at e3
    rw [Int.tmod_eq_emod_of_nonneg (by omega)] at e3
    have : ((0 : UInt8).toNat : Int) = 0 := rfl
    omega
  have hse : sealedB (encL t) = true := by rw [encL_seal hM]; exact seal_ok
  have hf := dec_unsealed (b := (encL t).set k ((encL t)[k] ^^^ by8 (1 + ((by8 (m.tmod 255)).toNat : Int)))) (by rw [List.length_set]; omega) (sealed_set (by omega) hse hk2 hd)
  by_cases hG : cntOk t
  · obtain ⟨z1, z2⟩ := dec_enc hM hG
    obtain ⟨d1, d2, d3, d4⟩ := hG
    simp -implicitDefEqProofs +contextual (maxSteps := 4000000) [-Int.not_le, -Int.not_lt, -Nat.not_le, -Nat.not_lt, -UInt32.toNat_or, -UInt32.toNat_xor, -UInt32.toNat_and, -UInt8.toNat_or, -UInt8.toNat_xor, -UInt8.toNat_and, -UInt32.toNat_add, -UInt8.toNat_add, -List.map_take, -List.map_drop, ← List.map_take, ← List.map_drop, -List.length_take, -List.length_drop, -List.map_replicate, rep_pY0, rep_pB0, rep_pI0, e_law06_TableBack.eq_1, Try.results3, h_law06_Large, Ok_law06_Large, h_table_Encode, Ok_table_Encode, h_table_Length, Ok_table_Length, h_table_Decode, Ok_table_Decode, h_keep_Table, Ok_keep_Table, h_keep_Bytes, Ok_keep_Bytes, h_w, hw, hL', hB, hM, hsm, g11, hv, z1, z2, d1, d2, d3, d4, hk, -List.map_set, set_pY, kM, kS, kV, kE]
    (repeat' (first | exact (show drawD _ _ = true by decide +kernel) | exact (show _ = List.range' _ _ from rfl) | with_reducible refine and_imp_self' ?_ ?_ | with_reducible refine And.intro ?_ ?_ | with_reducible refine @Exists.intro Nat _ (i + 1) ?_ | with_reducible refine Exists.intro (show (_ : Nat) < _ by omega) ?_ | intro _)) <;> (try (first | omega | (unfold fits; omega) | assumption | with_reducible rfl | (simp only [inR_iff, inR_not, fits_iff] at *; omega)))
  have z1 := dec_enc_no hM hG
  have z2 : dec (encL t) = ⟨0, [], [], []⟩ := dec_no (by rw [z1]; decide)
  by_cases d1 : t.classes ≤ 8
  case neg =>
    simp -implicitDefEqProofs +contextual (maxSteps := 4000000) [-Int.not_le, -Int.not_lt, -Nat.not_le, -Nat.not_lt, -UInt32.toNat_or, -UInt32.toNat_xor, -UInt32.toNat_and, -UInt8.toNat_or, -UInt8.toNat_xor, -UInt8.toNat_and, -UInt32.toNat_add, -UInt8.toNat_add, -List.map_take, -List.map_drop, ← List.map_take, ← List.map_drop, -List.length_take, -List.length_drop, -List.map_replicate, rep_pY0, rep_pB0, rep_pI0, e_law06_TableBack.eq_1, Try.results3, h_law06_Large, Ok_law06_Large, h_table_Encode, Ok_table_Encode, h_table_Length, Ok_table_Length, h_table_Decode, Ok_table_Decode, h_keep_Table, Ok_keep_Table, h_keep_Bytes, Ok_keep_Bytes, h_w, hw, hL', hB, hM, hsm, g11, hv, z1, z2, d1, hk, -List.map_set, set_pY, kM, kS, kV, kE]
    (repeat' (first | exact (show drawD _ _ = true by decide +kernel) | exact (show _ = List.range' _ _ from rfl) | with_reducible refine and_imp_self' ?_ ?_ | with_reducible refine And.intro ?_ ?_ | with_reducible refine @Exists.intro Nat _ (i + 1) ?_ | with_reducible refine Exists.intro (show (_ : Nat) < _ by omega) ?_ | intro _)) <;> (try (first | omega | (unfold fits; omega) | assumption | with_reducible rfl | (simp only [inR_iff, inR_not, fits_iff] at *; omega)))
  by_cases d2 : (t.next.length : Int) ≤ 5
  case neg =>
    simp -implicitDefEqProofs +contextual (maxSteps := 4000000) [-Int.not_le, -Int.not_lt, -Nat.not_le, -Nat.not_lt, -UInt32.toNat_or, -UInt32.toNat_xor, -UInt32.toNat_and, -UInt8.toNat_or, -UInt8.toNat_xor, -UInt8.toNat_and, -UInt32.toNat_add, -UInt8.toNat_add, -List.map_take, -List.map_drop, ← List.map_take, ← List.map_drop, -List.length_take, -List.length_drop, -List.map_replicate, rep_pY0, rep_pB0, rep_pI0, e_law06_TableBack.eq_1, Try.results3, h_law06_Large, Ok_law06_Large, h_table_Encode, Ok_table_Encode, h_table_Length, Ok_table_Length, h_table_Decode, Ok_table_Decode, h_keep_Table, Ok_keep_Table, h_keep_Bytes, Ok_keep_Bytes, h_w, hw, hL', hB, hM, hsm, g11, hv, z1, z2, d1, d2, hk, -List.map_set, set_pY, kM, kS, kV, kE]
    (repeat' (first | exact (show drawD _ _ = true by decide +kernel) | exact (show _ = List.range' _ _ from rfl) | with_reducible refine and_imp_self' ?_ ?_ | with_reducible refine And.intro ?_ ?_ | with_reducible refine @Exists.intro Nat _ (i + 1) ?_ | with_reducible refine Exists.intro (show (_ : Nat) < _ by omega) ?_ | intro _)) <;> (try (first | omega | (unfold fits; omega) | assumption | with_reducible rfl | (simp only [inR_iff, inR_not, fits_iff] at *; omega)))
  by_cases d3 : 1 ≤ (t.bands.length : Int)
  case neg =>
    simp -implicitDefEqProofs +contextual (maxSteps := 4000000) [-Int.not_le, -Int.not_lt, -Nat.not_le, -Nat.not_lt, -UInt32.toNat_or, -UInt32.toNat_xor, -UInt32.toNat_and, -UInt8.toNat_or, -UInt8.toNat_xor, -UInt8.toNat_and, -UInt32.toNat_add, -UInt8.toNat_add, -List.map_take, -List.map_drop, ← List.map_take, ← List.map_drop, -List.length_take, -List.length_drop, -List.map_replicate, rep_pY0, rep_pB0, rep_pI0, e_law06_TableBack.eq_1, Try.results3, h_law06_Large, Ok_law06_Large, h_table_Encode, Ok_table_Encode, h_table_Length, Ok_table_Length, h_table_Decode, Ok_table_Decode, h_keep_Table, Ok_keep_Table, h_keep_Bytes, Ok_keep_Bytes, h_w, hw, hL', hB, hM, hsm, g11, hv, z1, z2, d1, d2, d3, hk, -List.map_set, set_pY, kM, kS, kV, kE]
    (repeat' (first | exact (show drawD _ _ = true by decide +kernel) | exact (show _ = List.range' _ _ from rfl) | with_reducible refine and_imp_self' ?_ ?_ | with_reducible refine And.intro ?_ ?_ | with_reducible refine @Exists.intro Nat _ (i + 1) ?_ | with_reducible refine Exists.intro (show (_ : Nat) < _ by omega) ?_ | intro _)) <;> (try (first | omega | (unfold fits; omega) | assumption | with_reducible rfl | (simp only [inR_iff, inR_not, fits_iff] at *; omega)))
  by_cases d4 : (t.bands.length : Int) ≤ 60
  case neg =>
    simp -implicitDefEqProofs +contextual (maxSteps := 4000000) [-Int.not_le, -Int.not_lt, -Nat.not_le, -Nat.not_lt, -UInt32.toNat_or, -UInt32.toNat_xor, -UInt32.toNat_and, -UInt8.toNat_or, -UInt8.toNat_xor, -UInt8.toNat_and, -UInt32.toNat_add, -UInt8.toNat_add, -List.map_take, -List.map_drop, ← List.map_take, ← List.map_drop, -List.length_take, -List.length_drop, -List.map_replicate, rep_pY0, rep_pB0, rep_pI0, e_law06_TableBack.eq_1, Try.results3, h_law06_Large, Ok_law06_Large, h_table_Encode, Ok_table_Encode, h_table_Length, Ok_table_Length, h_table_Decode, Ok_table_Decode, h_keep_Table, Ok_keep_Table, h_keep_Bytes, Ok_keep_Bytes, h_w, hw, hL', hB, hM, hsm, g11, hv, z1, z2, d1, d2, d3, d4, hk, -List.map_set, set_pY, kM, kS, kV, kE]
    (repeat' (first | exact (show drawD _ _ = true by decide +kernel) | exact (show _ = List.range' _ _ from rfl) | with_reducible refine and_imp_self' ?_ ?_ | with_reducible refine And.intro ?_ ?_ | with_reducible refine @Exists.intro Nat _ (i + 1) ?_ | with_reducible refine Exists.intro (show (_ : Nat) < _ by omega) ?_ | intro _)) <;> (try (first | omega | (unfold fits; omega) | assumption | with_reducible rfl | (simp only [inR_iff, inR_not, fits_iff] at *; omega)))
  exact absurd ⟨d1, d2, d3, d4⟩ hG
theorem law_law06_TableBack_eq (t : Tab) (w : wfT t) (b : List UInt8) (wb : b.length ≤ maxLen ∧ ∀ x ∈ b, True) (n : Int × Int) (wn : (Lit.int .u16 n.1).wf = true ∧ (Lit.int .u16 n.2).wf = true) : g_law06_TableBack [pT t, sY b, .agg [.prim (.int .u16 n.1), .prim (.int .u16 n.2)]] = some (pB true, []) :=
  Ok_eq (by
    rw [Ok_law06_TableBack]
    have h : 0 ≤ n.1 ∧ n.1 ≤ 65535 := by simpa [Lit.wf, IntKind.min, IntKind.max, IntKind.signed] using wn.1
    have h2 : 0 ≤ n.2 ∧ n.2 ≤ 65535 := by simpa [Lit.wf, IntKind.min, IntKind.max, IntKind.signed] using wn.2
    have h3 := wb.1
    unfold maxLen at h3
    exact ⟨⟨wfT_len w, by omega, by omega, by omega⟩, rfl⟩)

end Go.V
