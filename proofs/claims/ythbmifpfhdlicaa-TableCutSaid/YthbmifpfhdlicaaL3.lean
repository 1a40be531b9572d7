/- A part of the proof of TableCut: contracts of functions, or what these lean on. No condition. -/
import Derived.Test.YthbmifpfhdlicaaP7
namespace Go.V
open Go.Proofs
set_option maxRecDepth 8000
set_option linter.unusedSimpArgs false
set_option linter.unusedVariables false
def e_law06_TableCut : Tab × Int × UInt8 → List PV := fun (t, n, more) => [pT t, .prim (.int .u16 n), pY more]
noncomputable def g_law06_TableCut : List PV → Option (PV × List PV) := spec e_law06_TableCut (fun (t, n, more) => (t.bands.length < 2 ^ 63 ∧ t.next.length < 2 ^ 63 ∧ t.brk.length < 2 ^ 63) ∧ 0 ≤ n ∧ n < 65536) fun (t, n, more) => (pB true, [])
theorem e_law06_TableCut_inj (a b : Tab × Int × UInt8) (h : e_law06_TableCut a = e_law06_TableCut b) : a = b := by
  obtain ⟨⟨t1a, t1b, t1c, t1d⟩, n1, more1⟩ := a; obtain ⟨⟨t2a, t2b, t2c, t2d⟩, n2, more2⟩ := b; simp [e_law06_TableCut, map_pI_inj, map_pB_inj, map_pY_inj, map_pBand_inj, map_sI_inj, Int.natCast_inj, UInt8.toNat_inj, UInt32.toNat_inj] at h; first | exact h | (simp [h]; done) | exact UInt32.toNat_inj.1 (by omega) | exact UInt8.toNat_inj.1 (by omega) | (simp only [Prod.mk.injEq, ← UInt8.toNat_inj, ← UInt32.toNat_inj] at *; omega) | grind
theorem Ok_law06_TableCut {t : Tab} {n : Int} {more : UInt8} {K : PV × List PV → Prop} : Ok (g_law06_TableCut [pT t, .prim (.int .u16 n), pY more]) K = (((t.bands.length < 2 ^ 63 ∧ t.next.length < 2 ^ 63 ∧ t.brk.length < 2 ^ 63) ∧ 0 ≤ n ∧ n < 65536) ∧ K (pB true, [])) := Ok_spec e_law06_TableCut_inj (t, n, more)
set_option maxHeartbeats 4000000 in
theorem impl_law06_TableCut {tbl : Tbl} {G : Nat → Option (List PV)} (hT : Tb tbl G) (h_law06_Large : tbl 19 = g_law06_Large) (h_table_Encode : tbl 21 = g_table_Encode) (h_table_Decode : tbl 23 = g_table_Decode) (h_ref05_Put : tbl 31 = g_ref05_Put) (h_ref05_Sum : tbl 32 = g_ref05_Sum) (h_w : tbl 20 = gTrue) : Impl Try.prog G 5 (g_law06_TableCut) := by
  refine impl_p (E := En tbl G 120 k_law06_TableCut []) (c := _) hT mixed Try.func5 rfl rfl (fun a => by simp [e_law06_TableCut, pinned.eq_1, pinned.eq_2, PV.isMut.eq_1, PV.isMut.eq_2]) ?_
  rintro ⟨t, n, more⟩ hok
  refine ⟨by simp [e_law06_TableCut], ?_⟩
  replace hok : (t.bands.length < 2 ^ 63 ∧ t.next.length < 2 ^ 63 ∧ t.brk.length < 2 ^ 63) ∧ 0 ≤ n ∧ n < 65536 := hok
  have hw : gTrue [] = some (pB true, []) := rfl
  obtain ⟨hok, hn0, hn1⟩ := hok
  by_cases hL : largeT t = true
  · simp -implicitDefEqProofs +contextual (maxSteps := 4000000) [-Int.not_le, -Int.not_lt, -Nat.not_le, -Nat.not_lt, -UInt32.toNat_or, -UInt32.toNat_xor, -UInt32.toNat_and, -UInt8.toNat_or, -UInt8.toNat_xor, -UInt8.toNat_and, -UInt32.toNat_add, -UInt8.toNat_add, -List.map_take, -List.map_drop, ← List.map_take, ← List.map_drop, -List.length_take, -List.length_drop, -List.map_replicate, rep_pY0, rep_pB0, rep_pI0, e_law06_TableCut.eq_1, Try.results5, h_law06_Large, Ok_law06_Large, h_table_Encode, Ok_table_Encode, h_table_Decode, Ok_table_Decode, h_ref05_Put, Ok_ref05_Put, h_ref05_Sum, Ok_ref05_Sum, h_w, hw, hL]
    omega
  have hL' : largeT t = false := by simpa using hL
  have hsm := largeT_small hL'
  by_cases hM : May t
  case neg =>
    simp -implicitDefEqProofs +contextual (maxSteps := 4000000) [-Int.not_le, -Int.not_lt, -Nat.not_le, -Nat.not_lt, -UInt32.toNat_or, -UInt32.toNat_xor, -UInt32.toNat_and, -UInt8.toNat_or, -UInt8.toNat_xor, -UInt8.toNat_and, -UInt32.toNat_add, -UInt8.toNat_add, -List.map_take, -List.map_drop, ← List.map_take, ← List.map_drop, -List.length_take, -List.length_drop, -List.map_replicate, rep_pY0, rep_pB0, rep_pI0, e_law06_TableCut.eq_1, Try.results5, h_law06_Large, Ok_law06_Large, h_table_Encode, Ok_table_Encode, h_table_Decode, Ok_table_Decode, h_ref05_Put, Ok_ref05_Put, h_ref05_Sum, Ok_ref05_Sum, h_w, hw, hL', hM, encL.eq_1, hsm]
    omega
  obtain ⟨hc, hn, hb, hl⟩ := hM.counts
  have hlen := encL_len hM
  have hbf := body_facts hM
  have g11 : ¬ ((encL t).length : Int) < 11 := by omega
  have g11' : 11 ≤ ((encL t).length : Int) := by omega
  by_cases d1 : 8 < t.classes
  · simp -implicitDefEqProofs +contextual (maxSteps := 4000000) [-Int.not_le, -Int.not_lt, -Nat.not_le, -Nat.not_lt, -UInt32.toNat_or, -UInt32.toNat_xor, -UInt32.toNat_and, -UInt8.toNat_or, -UInt8.toNat_xor, -UInt8.toNat_and, -UInt32.toNat_add, -UInt8.toNat_add, -List.map_take, -List.map_drop, ← List.map_take, ← List.map_drop, -List.length_take, -List.length_drop, -List.map_replicate, rep_pY0, rep_pB0, rep_pI0, e_law06_TableCut.eq_1, Try.results5, h_law06_Large, Ok_law06_Large, h_table_Encode, Ok_table_Encode, h_table_Decode, Ok_table_Decode, h_ref05_Put, Ok_ref05_Put, h_ref05_Sum, Ok_ref05_Sum, h_w, hw, hL', hM, hsm, g11, g11', d1]
    omega
  by_cases d2 : 5 < (t.next.length : Int)
  · simp -implicitDefEqProofs +contextual (maxSteps := 4000000) [-Int.not_le, -Int.not_lt, -Nat.not_le, -Nat.not_lt, -UInt32.toNat_or, -UInt32.toNat_xor, -UInt32.toNat_and, -UInt8.toNat_or, -UInt8.toNat_xor, -UInt8.toNat_and, -UInt32.toNat_add, -UInt8.toNat_add, -List.map_take, -List.map_drop, ← List.map_take, ← List.map_drop, -List.length_take, -List.length_drop, -List.map_replicate, rep_pY0, rep_pB0, rep_pI0, e_law06_TableCut.eq_1, Try.results5, h_law06_Large, Ok_law06_Large, h_table_Encode, Ok_table_Encode, h_table_Decode, Ok_table_Decode, h_ref05_Put, Ok_ref05_Put, h_ref05_Sum, Ok_ref05_Sum, h_w, hw, hL', hM, hsm, g11, g11', d1, d2]
    omega
  by_cases d3 : (t.bands.length : Int) < 1
  · simp -implicitDefEqProofs +contextual (maxSteps := 4000000) [-Int.not_le, -Int.not_lt, -Nat.not_le, -Nat.not_lt, -UInt32.toNat_or, -UInt32.toNat_xor, -UInt32.toNat_and, -UInt8.toNat_or, -UInt8.toNat_xor, -UInt8.toNat_and, -UInt32.toNat_add, -UInt8.toNat_add, -List.map_take, -List.map_drop, ← List.map_take, ← List.map_drop, -List.length_take, -List.length_drop, -List.map_replicate, rep_pY0, rep_pB0, rep_pI0, e_law06_TableCut.eq_1, Try.results5, h_law06_Large, Ok_law06_Large, h_table_Encode, Ok_table_Encode, h_table_Decode, Ok_table_Decode, h_ref05_Put, Ok_ref05_Put, h_ref05_Sum, Ok_ref05_Sum, h_w, hw, hL', hM, hsm, g11, g11', d1, d2, d3]
    omega
  by_cases d4 : 60 < (t.bands.length : Int)
  · simp -implicitDefEqProofs +contextual (maxSteps := 4000000) [-Int.not_le, -Int.not_lt, -Nat.not_le, -Nat.not_lt, -UInt32.toNat_or, -UInt32.toNat_xor, -UInt32.toNat_and, -UInt8.toNat_or, -UInt8.toNat_xor, -UInt8.toNat_and, -UInt32.toNat_add, -UInt8.toNat_add, -List.map_take, -List.map_drop, ← List.map_take, ← List.map_drop, -List.length_take, -List.length_drop, -List.map_replicate, rep_pY0, rep_pB0, rep_pI0, e_law06_TableCut.eq_1, Try.results5, h_law06_Large, Ok_law06_Large, h_table_Encode, Ok_table_Encode, h_table_Decode, Ok_table_Decode, h_ref05_Put, Ok_ref05_Put, h_ref05_Sum, Ok_ref05_Sum, h_w, hw, hL', hM, hsm, g11, g11', d1, d2, d3, d4]
    omega
  have hbl := bodyL_len hM
  have hlt : (encL t).length < 2 ^ 20 := by
    have : t.classes.toNat * t.next.length ≤ 255 * 255 := Nat.mul_le_mul (by omega) (by omega)
    omega
  have tnl : (((encL t).length : Int) - 4).toNat = (bodyL t).length := by omega
  have htk := encL_take hM
  obtain ⟨k, hk, hk2⟩ : ∃ k : Nat, n % ((bodyL t).length : Int) = k ∧ k < (bodyL t).length :=
    ⟨(n % ((bodyL t).length : Int)).toNat, by have := Int.emod_nonneg n (b := (bodyL t).length) (by omega); omega, by have := Int.emod_nonneg n (b := (bodyL t).length) (by omega); have := Int.emod_lt_of_pos n (b := (bodyL t).length) (by omega); omega⟩
  have e1 := cut_short hM hk2
  have e2 := cut_long hM (c := more)
  unfold seal4 at e1 e2
  have e3 : decE (bodyL t ++ more :: putL (sumL (bodyL t ++ [more])).toNat 4) = 24 := by rw [List.append_assoc] at e2; exact e2
  have hlk : (List.take k (bodyL t)).length = k := by rw [List.length_take]; omega
  have hp4 : ∀ x : Int, (putL x 4).length = 4 := fun x => rfl
  simp -implicitDefEqProofs +contextual (maxSteps := 4000000) [-Int.not_le, -Int.not_lt, -Nat.not_le, -Nat.not_lt, -UInt32.toNat_or, -UInt32.toNat_xor, -UInt32.toNat_and, -UInt8.toNat_or, -UInt8.toNat_xor, -UInt8.toNat_and, -UInt32.toNat_add, -UInt8.toNat_add, -List.map_take, -List.map_drop, ← List.map_take, ← List.map_drop, -List.length_take, -List.length_drop, -List.map_replicate, rep_pY0, rep_pB0, rep_pI0, e_law06_TableCut.eq_1, Try.results5, h_law06_Large, Ok_law06_Large, h_table_Encode, Ok_table_Encode, h_table_Decode, Ok_table_Decode, h_ref05_Put, Ok_ref05_Put, h_ref05_Sum, Ok_ref05_Sum, h_w, hw, hL', hM, hsm, g11, g11', d1, d2, d3, d4, tnl, htk, hk, hlk, hp4, e1, e3, -List.map_append, ← List.map_append, app_pY1]
  (repeat' (first | exact (show drawD _ _ = true by decide +kernel) | exact (show _ = List.range' _ _ from rfl) | with_reducible refine and_imp_self' ?_ ?_ | with_reducible refine And.intro ?_ ?_ | with_reducible refine @Exists.intro Nat _ (i + 1) ?_ | with_reducible refine Exists.intro (show (_ : Nat) < _ by omega) ?_ | intro _)) <;> (try (first | omega | (unfold fits; omega) | assumption | with_reducible rfl | (simp only [inR_iff, inR_not, fits_iff] at *; omega)))
theorem law_law06_TableCut_eq (t : Tab) (w : wfT t) (n : Int) (wn : (Lit.int .u16 n).wf = true) (m : UInt8) (_ : True) : g_law06_TableCut [pT t, .prim (.int .u16 n), pY m] = some (pB true, []) :=
  Ok_eq (by
    rw [Ok_law06_TableCut]
    have h : 0 ≤ n ∧ n ≤ 65535 := by simpa [Lit.wf, IntKind.min, IntKind.max, IntKind.signed] using wn
    exact ⟨⟨wfT_len w, by omega, by omega⟩, rfl⟩)

end Go.V
