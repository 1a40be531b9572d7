/- A part of the proof of TableFirst: contracts of functions, or what these lean on. No condition. -/
import Derived.Test.YthbmifpfhdlicaaP16
import Derived.Test.YthbmifpfhdlicaaA13
import Derived.Test.YthbmifpfhdlicaaA14
import Derived.Test.YthbmifpfhdlicaaA12
import Derived.Test.YthbmifpfhdlicaaA10
import Derived.Test.YthbmifpfhdlicaaA11
import Derived.Test.YthbmifpfhdlicaaW6
namespace Go.V
open Go.Proofs
set_option maxRecDepth 8000
set_option linter.unusedSimpArgs false
set_option linter.unusedVariables false
theorem set_pY' {l : List UInt8} {k : Nat} {v : UInt8} : (l.map pY).set k (PV.prim (.int .u8 v.toNat)) = (l.set k v).map pY := by rw [List.map_set]
theorem seal_fold {p : List UInt8} : p ++ putL (sumL p).toNat 4 = seal4 p := rfl
def e_law06_TableFirst : Tab × UInt8 × UInt8 → List PV := fun (t, n, m) => [pT t, .agg [pY n, pY m]]
noncomputable def g_law06_TableFirst : List PV → Option (PV × List PV) := spec e_law06_TableFirst (fun (t, n, m) => t.bands.length < 2 ^ 63 ∧ t.next.length < 2 ^ 63 ∧ t.brk.length < 2 ^ 63) fun (t, n, m) => (pB true, [])
theorem e_law06_TableFirst_inj (a b : Tab × UInt8 × UInt8) (h : e_law06_TableFirst a = e_law06_TableFirst b) : a = b := by
  obtain ⟨⟨t1a, t1b, t1c, t1d⟩, n1, m1⟩ := a; obtain ⟨⟨t2a, t2b, t2c, t2d⟩, n2, m2⟩ := b; simp [e_law06_TableFirst, map_pI_inj, map_pB_inj, map_pY_inj, map_pBand_inj, map_sI_inj, Int.natCast_inj, UInt8.toNat_inj, UInt32.toNat_inj] at h; first | exact h | (simp [h]; done) | exact UInt32.toNat_inj.1 (by omega) | exact UInt8.toNat_inj.1 (by omega) | (simp only [Prod.mk.injEq, ← UInt8.toNat_inj, ← UInt32.toNat_inj] at *; omega) | grind
theorem Ok_law06_TableFirst {t : Tab} {n : UInt8} {m : UInt8} {K : PV × List PV → Prop} : Ok (g_law06_TableFirst [pT t, .agg [pY n, pY m]]) K = ((t.bands.length < 2 ^ 63 ∧ t.next.length < 2 ^ 63 ∧ t.brk.length < 2 ^ 63) ∧ K (pB true, [])) := Ok_spec e_law06_TableFirst_inj (t, n, m)
set_option maxHeartbeats 4000000 in
theorem impl_law06_TableFirst {tbl : Tbl} {G : Nat → Option (List PV)} (hT : Tb tbl G) (h_law06_Large : tbl 19 = g_law06_Large) (h_table_Encode : tbl 21 = g_table_Encode) (h_table_Decode : tbl 23 = g_table_Decode) (h_ref05_Put : tbl 31 = g_ref05_Put) (h_ref05_Sum : tbl 32 = g_ref05_Sum) (h_w : tbl 20 = gTrue) : Impl Try.prog G 6 (g_law06_TableFirst) := by
  refine impl_p (E := En tbl G 139 k_law06_TableFirst []) (c := _) hT mixed Try.func6 rfl rfl (fun a => by simp [e_law06_TableFirst, pinned.eq_1, pinned.eq_2, PV.isMut.eq_1, PV.isMut.eq_2]) ?_
  rintro ⟨t, n, m⟩ hok
  refine ⟨by simp [e_law06_TableFirst], ?_⟩
  replace hok : t.bands.length < 2 ^ 63 ∧ t.next.length < 2 ^ 63 ∧ t.brk.length < 2 ^ 63 := hok
  have hw : gTrue [] = some (pB true, []) := rfl
  by_cases hL : largeT t = true
  · simp -implicitDefEqProofs +contextual (maxSteps := 4000000) [-Int.not_le, -Int.not_lt, -Nat.not_le, -Nat.not_lt, -UInt32.toNat_or, -UInt32.toNat_xor, -UInt32.toNat_and, -UInt8.toNat_or, -UInt8.toNat_xor, -UInt8.toNat_and, -UInt32.toNat_add, -UInt8.toNat_add, -List.map_take, -List.map_drop, ← List.map_take, ← List.map_drop, -List.length_take, -List.length_drop, -List.map_replicate, rep_pY0, rep_pB0, rep_pI0, e_law06_TableFirst.eq_1, Try.results6, h_law06_Large, Ok_law06_Large, h_table_Encode, Ok_table_Encode, h_table_Decode, Ok_table_Decode, h_ref05_Put, Ok_ref05_Put, h_ref05_Sum, Ok_ref05_Sum, h_w, hw, hL]
    omega
  have hL' : largeT t = false := by simpa using hL
  have hsm := largeT_small hL'
  by_cases d1 : 8 < t.classes
  · simp -implicitDefEqProofs +contextual (maxSteps := 4000000) [-Int.not_le, -Int.not_lt, -Nat.not_le, -Nat.not_lt, -UInt32.toNat_or, -UInt32.toNat_xor, -UInt32.toNat_and, -UInt8.toNat_or, -UInt8.toNat_xor, -UInt8.toNat_and, -UInt32.toNat_add, -UInt8.toNat_add, -List.map_take, -List.map_drop, ← List.map_take, ← List.map_drop, -List.length_take, -List.length_drop, -List.map_replicate, rep_pY0, rep_pB0, rep_pI0, e_law06_TableFirst.eq_1, Try.results6, h_law06_Large, Ok_law06_Large, h_table_Encode, Ok_table_Encode, h_table_Decode, Ok_table_Decode, h_ref05_Put, Ok_ref05_Put, h_ref05_Sum, Ok_ref05_Sum, h_w, hw, hL', d1]
    omega
  by_cases d2 : 5 < (t.next.length : Int)
  · simp -implicitDefEqProofs +contextual (maxSteps := 4000000) [-Int.not_le, -Int.not_lt, -Nat.not_le, -Nat.not_lt, -UInt32.toNat_or, -UInt32.toNat_xor, -UInt32.toNat_and, -UInt8.toNat_or, -UInt8.toNat_xor, -UInt8.toNat_and, -UInt32.toNat_add, -UInt8.toNat_add, -List.map_take, -List.map_drop, ← List.map_take, ← List.map_drop, -List.length_take, -List.length_drop, -List.map_replicate, rep_pY0, rep_pB0, rep_pI0, e_law06_TableFirst.eq_1, Try.results6, h_law06_Large, Ok_law06_Large, h_table_Encode, Ok_table_Encode, h_table_Decode, Ok_table_Decode, h_ref05_Put, Ok_ref05_Put, h_ref05_Sum, Ok_ref05_Sum, h_w, hw, hL', d1, d2]
    omega
  by_cases d3 : (t.bands.length : Int) < 1
  · simp -implicitDefEqProofs +contextual (maxSteps := 4000000) [-Int.not_le, -Int.not_lt, -Nat.not_le, -Nat.not_lt, -UInt32.toNat_or, -UInt32.toNat_xor, -UInt32.toNat_and, -UInt8.toNat_or, -UInt8.toNat_xor, -UInt8.toNat_and, -UInt32.toNat_add, -UInt8.toNat_add, -List.map_take, -List.map_drop, ← List.map_take, ← List.map_drop, -List.length_take, -List.length_drop, -List.map_replicate, rep_pY0, rep_pB0, rep_pI0, e_law06_TableFirst.eq_1, Try.results6, h_law06_Large, Ok_law06_Large, h_table_Encode, Ok_table_Encode, h_table_Decode, Ok_table_Decode, h_ref05_Put, Ok_ref05_Put, h_ref05_Sum, Ok_ref05_Sum, h_w, hw, hL', d1, d2, d3]
    omega
  by_cases d4 : 60 < (t.bands.length : Int)
  · simp -implicitDefEqProofs +contextual (maxSteps := 4000000) [-Int.not_le, -Int.not_lt, -Nat.not_le, -Nat.not_lt, -UInt32.toNat_or, -UInt32.toNat_xor, -UInt32.toNat_and, -UInt8.toNat_or, -UInt8.toNat_xor, -UInt8.toNat_and, -UInt32.toNat_add, -UInt8.toNat_add, -List.map_take, -List.map_drop, ← List.map_take, ← List.map_drop, -List.length_take, -List.length_drop, -List.map_replicate, rep_pY0, rep_pB0, rep_pI0, e_law06_TableFirst.eq_1, Try.results6, h_law06_Large, Ok_law06_Large, h_table_Encode, Ok_table_Encode, h_table_Decode, Ok_table_Decode, h_ref05_Put, Ok_ref05_Put, h_ref05_Sum, Ok_ref05_Sum, h_w, hw, hL', d1, d2, d3, d4]
    omega
  by_cases hM : May t
  case neg =>
    have hEn : encL t = [] := by unfold encL; rw [if_neg hM]
    simp -implicitDefEqProofs +contextual (maxSteps := 4000000) [-Int.not_le, -Int.not_lt, -Nat.not_le, -Nat.not_lt, -UInt32.toNat_or, -UInt32.toNat_xor, -UInt32.toNat_and, -UInt8.toNat_or, -UInt8.toNat_xor, -UInt8.toNat_and, -UInt32.toNat_add, -UInt8.toNat_add, -List.map_take, -List.map_drop, ← List.map_take, ← List.map_drop, -List.length_take, -List.length_drop, -List.map_replicate, rep_pY0, rep_pB0, rep_pI0, e_law06_TableFirst.eq_1, Try.results6, h_law06_Large, Ok_law06_Large, h_table_Encode, Ok_table_Encode, h_table_Decode, Ok_table_Decode, h_ref05_Put, Ok_ref05_Put, h_ref05_Sum, Ok_ref05_Sum, h_w, hw, hL', d1, d2, d3, d4, hM, hEn, hsm]
    omega
  have hlen := encL_len hM
  have hbf := body_facts hM
  have hbl := bodyL_len hM
  have g11 : ¬ ((encL t).length : Int) < 11 := by omega
  have hlt : (encL t).length < 2 ^ 20 := by
    have hc := hM.counts
    have : t.classes.toNat * t.next.length ≤ 255 * 255 := Nat.mul_le_mul (by omega) (by omega)
    omega
  have tn4 : (((encL t).length : Int) - 4).toNat = (bodyL t).length := by omega
  have tn5 : (((encL t).length : Int) - 5).toNat = (bodyL t).length - 1 := by omega
  have htk := encL_take hM
  have tn1 : ∀ k : Nat, (((k + 4 : Nat) : Int) - 1).toNat = k + 3 := fun k => by omega
  have n7 : 7 ≤ (bodyL t).length := hbf.1
  have e5 : (5 : Int) ≤ (encL t).length := by omega
  have e5' : ((encL t).length : Int) - 5 < (encL t).length := by omega
  have e4 : (4 : Int) ≤ (encL t).length := by omega
  have e4' : ((encL t).length : Int) - 4 ≤ (encL t).length := by omega
  have e6 : (5 : Int) < (encL t).length := by omega
  have e6' : 5 < (encL t).length := by omega
  have eB : (bodyL t).length ≤ (encL t).length := by omega
  have eB1 : (bodyL t).length - 1 < (encL t).length := by omega
  have q5 : fits (((encL t).length : Int) - 5) := by unfold fits; omega
  have q4 : fits (((encL t).length : Int) - 4) := by unfold fits; omega
  have qz : (encL t).length * 2 ≤ 70368744177664 := by omega
  have qb : (bodyL t).length < 4611686018427387904 := by omega
  have qc : (bodyL t).length < 549755813888 := by omega
  have hc : cntOk t := ⟨by omega, by omega, by omega, by omega⟩
  have E0 : decE (seal4 (bodyL t)) = 0 := by rw [← encL_seal hM]; exact (dec_enc hM hc).1
  have S0 : Sld (seal4 (bodyL t)) (bodyL t).length := .of rfl n7 hbf.2.1
  have hm := hbf.2.1
  have S2 : Sld (seal4 ((bodyL t).set 5 (by8 (6 + ((m.toNat : Int)).tmod 100)))) (bodyL t).length := .of (by rw [List.length_set]) n7 (by rw [mrk_set (by decide), hm])
  have E2 : decE (seal4 ((bodyL t).set 5 (by8 (6 + ((m.toNat : Int)).tmod 100)))) = 24 := dec_count5 rfl n7 hm rem100
  by_cases a1 : ((n &&& 1).toNat : Int) = 1
  case neg =>
    simp -implicitDefEqProofs +contextual (maxSteps := 4000000) [-Int.not_le, -Int.not_lt, -Nat.not_le, -Nat.not_lt, -UInt32.toNat_or, -UInt32.toNat_xor, -UInt32.toNat_and, -UInt8.toNat_or, -UInt8.toNat_xor, -UInt8.toNat_and, -UInt32.toNat_add, -UInt8.toNat_add, -List.map_take, -List.map_drop, ← List.map_take, ← List.map_drop, -List.length_take, -List.length_drop, -List.map_replicate, rep_pY0, rep_pB0, rep_pI0, e_law06_TableFirst.eq_1, Try.results6, h_law06_Large, Ok_law06_Large, h_table_Encode, Ok_table_Encode, h_table_Decode, Ok_table_Decode, h_ref05_Put, Ok_ref05_Put, h_ref05_Sum, Ok_ref05_Sum, a1, h_w, hw, hL', d1, d2, d3, d4, hM, hsm, g11, tn4, tn5, htk, List.take_set, seal_fold, seal_len, tn1, e5, e5', e4, e4', e6, e6', eB, eB1, q5, q4, qz, qb, qc, -List.map_append, ← List.map_append, -List.map_set, set_pY']
    (repeat' (first | exact (show drawD _ _ = true by decide +kernel) | with_reducible refine and_imp_self' ?_ ?_ | with_reducible refine And.intro ?_ ?_ | with_reducible refine Exists.intro (show (_ : Nat) < _ by omega) ?_ | intro _))
    all_goals first
      | (with_reducible refine dec_short ?_; simp only [List.length_set, List.length_take]; omega)
      | with_reducible exact E0
      | with_reducible exact E2
      | (with_reducible refine S0.mark ?_ (List.getElem?_eq_getElem _); omega)
      | (with_reducible refine S0.sum ?_ (List.getElem?_eq_getElem _); omega)
      | (with_reducible refine (S0.set ?_).mark ?_ ?_; omega; omega; first | exact List.getElem?_eq_getElem _ | (rw [List.getElem?_set_ne (by omega)]; exact List.getElem?_eq_getElem _))
      | (with_reducible refine S2.mark ?_ (List.getElem?_eq_getElem _); omega)
      | (with_reducible refine S2.sum ?_ (List.getElem?_eq_getElem _); omega)
      | (with_reducible refine (S2.set ?_).mark ?_ ?_; omega; omega; first | exact List.getElem?_eq_getElem _ | (rw [List.getElem?_set_ne (by omega)]; exact List.getElem?_eq_getElem _))
      | (with_reducible refine isS_get ?_; simp only [List.length_set, seal_len]; omega)
      | omega
      | (unfold fits; omega)
      | (simp only [List.length_set, List.length_take, seal_len]; omega)
  by_cases a8 : (t.next.length : Int) % 8 = 0
  · simp -implicitDefEqProofs +contextual (maxSteps := 4000000) [-Int.not_le, -Int.not_lt, -Nat.not_le, -Nat.not_lt, -UInt32.toNat_or, -UInt32.toNat_xor, -UInt32.toNat_and, -UInt8.toNat_or, -UInt8.toNat_xor, -UInt8.toNat_and, -UInt32.toNat_add, -UInt8.toNat_add, -List.map_take, -List.map_drop, ← List.map_take, ← List.map_drop, -List.length_take, -List.length_drop, -List.map_replicate, rep_pY0, rep_pB0, rep_pI0, e_law06_TableFirst.eq_1, Try.results6, h_law06_Large, Ok_law06_Large, h_table_Encode, Ok_table_Encode, h_table_Decode, Ok_table_Decode, h_ref05_Put, Ok_ref05_Put, h_ref05_Sum, Ok_ref05_Sum, a1, a8, h_w, hw, hL', d1, d2, d3, d4, hM, hsm, g11, tn4, tn5, htk, List.take_set, seal_fold, seal_len, tn1, e5, e5', e4, e4', e6, e6', eB, eB1, q5, q4, qz, qb, qc, -List.map_append, ← List.map_append, -List.map_set, set_pY']
    (repeat' (first | exact (show drawD _ _ = true by decide +kernel) | with_reducible refine and_imp_self' ?_ ?_ | with_reducible refine And.intro ?_ ?_ | with_reducible refine Exists.intro (show (_ : Nat) < _ by omega) ?_ | intro _))
    all_goals first
      | (with_reducible refine dec_short ?_; simp only [List.length_set, List.length_take]; omega)
      | with_reducible exact E0
      | with_reducible exact E2
      | (with_reducible refine S0.mark ?_ (List.getElem?_eq_getElem _); omega)
      | (with_reducible refine S0.sum ?_ (List.getElem?_eq_getElem _); omega)
      | (with_reducible refine (S0.set ?_).mark ?_ ?_; omega; omega; first | exact List.getElem?_eq_getElem _ | (rw [List.getElem?_set_ne (by omega)]; exact List.getElem?_eq_getElem _))
      | (with_reducible refine S2.mark ?_ (List.getElem?_eq_getElem _); omega)
      | (with_reducible refine S2.sum ?_ (List.getElem?_eq_getElem _); omega)
      | (with_reducible refine (S2.set ?_).mark ?_ ?_; omega; omega; first | exact List.getElem?_eq_getElem _ | (rw [List.getElem?_set_ne (by omega)]; exact List.getElem?_eq_getElem _))
      | (with_reducible refine isS_get ?_; simp only [List.length_set, seal_len]; omega)
      | omega
      | (unfold fits; omega)
      | (simp only [List.length_set, List.length_take, seal_len]; omega)
  have l1 : ∀ a : UInt8, ((bodyL t).set ((bodyL t).length - 1) a).length = (bodyL t).length := fun a => by rw [List.length_set]
  have m1 : ∀ a : UInt8, mrk ((bodyL t).set ((bodyL t).length - 1) a) = true := fun a => by rw [mrk_set (by omega), hm]
  have S1 : ∀ a : UInt8, Sld (seal4 ((bodyL t).set ((bodyL t).length - 1) a)) (bodyL t).length := fun a => .of (l1 a) n7 (m1 a)
  have E1 : ∀ a : UInt8, a.toNat.testBit 7 = true → decE (seal4 ((bodyL t).set ((bodyL t).length - 1) a)) = 25 := fun a ha => dec_bits hM hc (by omega) ha
  have S3 : ∀ a : UInt8, Sld (seal4 (((bodyL t).set ((bodyL t).length - 1) a).set 5 (by8 (6 + ((m.toNat : Int)).tmod 100)))) (bodyL t).length := fun a => .of (by rw [List.length_set, l1]) n7 (by rw [mrk_set (by decide), m1])
  have E3 : ∀ a : UInt8, decE (seal4 (((bodyL t).set ((bodyL t).length - 1) a).set 5 (by8 (6 + ((m.toNat : Int)).tmod 100)))) = 24 := fun a => dec_count5 (l1 a) n7 (m1 a) rem100
  simp -implicitDefEqProofs +contextual (maxSteps := 4000000) [-Int.not_le, -Int.not_lt, -Nat.not_le, -Nat.not_lt, -UInt32.toNat_or, -UInt32.toNat_xor, -UInt32.toNat_and, -UInt8.toNat_or, -UInt8.toNat_xor, -UInt8.toNat_and, -UInt32.toNat_add, -UInt8.toNat_add, -List.map_take, -List.map_drop, ← List.map_take, ← List.map_drop, -List.length_take, -List.length_drop, -List.map_replicate, rep_pY0, rep_pB0, rep_pI0, e_law06_TableFirst.eq_1, Try.results6, h_law06_Large, Ok_law06_Large, h_table_Encode, Ok_table_Encode, h_table_Decode, Ok_table_Decode, h_ref05_Put, Ok_ref05_Put, h_ref05_Sum, Ok_ref05_Sum, a1, a8, h_w, hw, hL', d1, d2, d3, d4, hM, hsm, g11, tn4, tn5, htk, List.take_set, seal_fold, seal_len, tn1, e5, e5', e4, e4', e6, e6', eB, eB1, q5, q4, qz, qb, qc, -List.map_append, ← List.map_append, -List.map_set, set_pY']
  (repeat' (first | exact (show drawD _ _ = true by decide +kernel) | with_reducible refine and_imp_self' ?_ ?_ | with_reducible refine And.intro ?_ ?_ | with_reducible refine Exists.intro (show (_ : Nat) < _ by omega) ?_ | intro _))
  all_goals first
    | (with_reducible refine dec_short ?_; simp only [List.length_set, List.length_take]; omega)
    | (with_reducible refine E1 _ ?_; with_reducible exact by8_top')
    | with_reducible exact E3 _
    | (with_reducible refine (S1 _).mark ?_ (List.getElem?_eq_getElem _); omega)
    | (with_reducible refine (S1 _).sum ?_ (List.getElem?_eq_getElem _); omega)
    | (with_reducible refine ((S1 _).set ?_).mark ?_ ?_; omega; omega; first | exact List.getElem?_eq_getElem _ | (rw [List.getElem?_set_ne (by omega)]; exact List.getElem?_eq_getElem _))
    | (with_reducible refine (S3 _).mark ?_ (List.getElem?_eq_getElem _); omega)
    | (with_reducible refine (S3 _).sum ?_ (List.getElem?_eq_getElem _); omega)
    | (with_reducible refine ((S3 _).set ?_).mark ?_ ?_; omega; omega; first | exact List.getElem?_eq_getElem _ | (rw [List.getElem?_set_ne (by omega)]; exact List.getElem?_eq_getElem _))
    | (with_reducible refine isS_get ?_; simp only [List.length_set, seal_len]; omega)
    | omega
    | (unfold fits; omega)
    | (simp only [List.length_set, List.length_take, seal_len]; omega)
theorem law_law06_TableFirst_eq (t : Tab) (w : wfT t) (x : UInt8 × UInt8) (wx : True ∧ True) : g_law06_TableFirst [pT t, .agg [pY x.1, pY x.2]] = some (pB true, []) :=
  Ok_eq (by
    rw [Ok_law06_TableFirst]
    exact ⟨wfT_len w, rfl⟩)

end Go.V
