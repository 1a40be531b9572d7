/- A part of the proof of SegmentAhead: contracts of functions, or what these lean on. No condition. -/
import Derived.Test.YtldoffdakikaeaaDoorB5
import Derived.Test.YtldoffdakikaeaaDoorW9
import Derived.Test.YtldoffdakikaeaaDoorA24
import Derived.Test.YtldoffdakikaeaaDoorA10
import Derived.Test.YtldoffdakikaeaaDoorPT
namespace Go.V
open Go.Proofs
set_option maxRecDepth 8000
set_option linter.unusedSimpArgs false
set_option linter.unusedVariables false
theorem filter_take_succ {l : List Int} {i : Nat} {n : Int} (h : i < l.length) : (l.take (i + 1)).filter (fun x => decide (x ≤ n)) = (l.take i).filter (fun x => decide (x ≤ n)) ++ if l[i] ≤ n then [l[i]] else [] := by
  rw [List.take_succ_eq_append_getElem h, List.filter_append]
  congr 1
  by_cases h2 : l[i] ≤ n <;> simp [h2]
def e_law09_SegmentAhead : Tab × (List UInt8) × (List UInt8) → List PV := fun (t, s, u) => [pT t, pS s, pS u]
noncomputable def g_law09_SegmentAhead : List PV → Option (PV × List PV) := spec e_law09_SegmentAhead (fun (t, s, u) => wide t ∧ s.length < 2 ^ 47 ∧ u.length < 2 ^ 47) fun (t, s, u) => (pB true, [])
theorem e_law09_SegmentAhead_inj (a b : Tab × (List UInt8) × (List UInt8)) (h : e_law09_SegmentAhead a = e_law09_SegmentAhead b) : a = b := by
  obtain ⟨⟨t1a, t1b, t1c, t1d⟩, s1, u1⟩ := a; obtain ⟨⟨t2a, t2b, t2c, t2d⟩, s2, u2⟩ := b; simp [e_law09_SegmentAhead, map_pI_inj, map_pB_inj, map_pY_inj, map_pBand_inj, map_sI_inj, str_inj, Int.natCast_inj, UInt8.toNat_inj, UInt32.toNat_inj] at h; first | exact h | (simp [h]; done) | exact UInt32.toNat_inj.1 (by omega) | exact UInt8.toNat_inj.1 (by omega) | (simp only [Prod.mk.injEq, ← UInt8.toNat_inj, ← UInt32.toNat_inj] at *; omega) | grind
theorem Ok_law09_SegmentAhead {t : Tab} {s : List UInt8} {u : List UInt8} {K : PV × List PV → Prop} : Ok (g_law09_SegmentAhead [pT t, pS s, pS u]) K = ((wide t ∧ s.length < 2 ^ 47 ∧ u.length < 2 ^ 47) ∧ K (pB true, [])) := Ok_spec e_law09_SegmentAhead_inj (t, s, u)
set_option maxHeartbeats 4000000 in
theorem impl_law09_SegmentAhead {tbl : Tbl} {G : Nat → Option (List PV)} (hT : Tb tbl G) (h_utf_Valid : tbl 20 = g_utf_Valid) (h_keep_Ints : tbl 27 = g_keep_Ints) (h_ref07_Table : tbl 28 = g_ref07_Table) (h_segment_Of : tbl 30 = g_segment_Of) (h_w : tbl 29 = gTrue) : Impl Tryd.prog G 8 (g_law09_SegmentAhead) := by
  refine impl_p (E := En tbl G 76 k_law09_SegmentAhead []) (c := _) hT mixed Tryd.func8 rfl rfl (fun a => by simp [e_law09_SegmentAhead, pinned.eq_1, pinned.eq_2, PV.isMut.eq_1, PV.isMut.eq_2]) ?_
  rintro ⟨t, s, u⟩ hok
  refine ⟨by simp [e_law09_SegmentAhead], ?_⟩
  replace hok : wide t ∧ s.length < 2 ^ 47 ∧ u.length < 2 ^ 47 := hok
  have hw : gTrue [] = some (pB true, []) := rfl
  obtain ⟨hwd, hs0, hu⟩ := hok
  have hs : s.length < 2 ^ 62 := by omega
  by_cases hV : validE t = 0
  case neg =>
    simp -implicitDefEqProofs +contextual (maxSteps := 4000000) [-Int.not_le, -Int.not_lt, -Nat.not_le, -Nat.not_lt, -UInt32.toNat_or, -UInt32.toNat_xor, -UInt32.toNat_and, -UInt8.toNat_or, -UInt8.toNat_xor, -UInt8.toNat_and, -UInt32.toNat_add, -UInt8.toNat_add, -List.map_take, -List.map_drop, ← List.map_take, ← List.map_drop, -List.length_take, -List.length_drop, -List.map_replicate, rep_pY0, rep_pB0, rep_pI0, e_law09_SegmentAhead.eq_1, Tryd.results8, h_utf_Valid, Ok_utf_Valid, h_keep_Ints, Ok_keep_Ints, h_ref07_Table, Ok_ref07_Table, h_segment_Of, Ok_segment_Of, h_w, hw, hwd, hV]
  have q1 : fits ((s.length : Int) + u.length) := by unfold fits; omega
  by_cases hL : 500 < (s.length : Int) + u.length
  · simp -implicitDefEqProofs +contextual (maxSteps := 4000000) [-Int.not_le, -Int.not_lt, -Nat.not_le, -Nat.not_lt, -UInt32.toNat_or, -UInt32.toNat_xor, -UInt32.toNat_and, -UInt8.toNat_or, -UInt8.toNat_xor, -UInt8.toNat_and, -UInt32.toNat_add, -UInt8.toNat_add, -List.map_take, -List.map_drop, ← List.map_take, ← List.map_drop, -List.length_take, -List.length_drop, -List.map_replicate, rep_pY0, rep_pB0, rep_pI0, e_law09_SegmentAhead.eq_1, Tryd.results8, h_utf_Valid, Ok_utf_Valid, h_keep_Ints, Ok_keep_Ints, h_ref07_Table, Ok_ref07_Table, h_segment_Of, Ok_segment_Of, h_w, hw, hwd, hV, hL, q1]
  cases hS : validU s with
  | false =>
    simp -implicitDefEqProofs +contextual (maxSteps := 4000000) [-Int.not_le, -Int.not_lt, -Nat.not_le, -Nat.not_lt, -UInt32.toNat_or, -UInt32.toNat_xor, -UInt32.toNat_and, -UInt8.toNat_or, -UInt8.toNat_xor, -UInt8.toNat_and, -UInt32.toNat_add, -UInt8.toNat_add, -List.map_take, -List.map_drop, ← List.map_take, ← List.map_drop, -List.length_take, -List.length_drop, -List.map_replicate, rep_pY0, rep_pB0, rep_pI0, e_law09_SegmentAhead.eq_1, Tryd.results8, h_utf_Valid, Ok_utf_Valid, h_keep_Ints, Ok_keep_Ints, h_ref07_Table, Ok_ref07_Table, h_segment_Of, Ok_segment_Of, h_w, hw, hwd, hV, hL, hS, q1, hs]
  | true =>
  have ok1 : ∀ x : List UInt8, okU t x = true := fun x => by rw [okU_eq]; simp [hV]
  have l1 : s.length < 2 ^ 38 := by omega
  have l2 : (s ++ u).length < 2 ^ 38 := by rw [List.length_append]; omega
  have l3 : (s.length : Int) + u.length ≤ 9223372036854775807 := by omega
  have hah := ofU_ahead (t := t) (b := u) hS
  have hlen : ∀ x : List UInt8, (ofU t x).length ≤ x.length + 1 := fun x => by
    unfold ofU; rw [List.length_map]
    have := brkV_len (t := t) (l := scU x)
    rw [scU_len] at this
    have := @pcs_len x
    omega
  have b1 := hlen s
  have b2 := hlen (s ++ u)
  rw [List.length_append] at b2
  simp -implicitDefEqProofs +contextual (maxSteps := 4000000) [-Int.not_le, -Int.not_lt, -Nat.not_le, -Nat.not_lt, -UInt32.toNat_or, -UInt32.toNat_xor, -UInt32.toNat_and, -UInt8.toNat_or, -UInt8.toNat_xor, -UInt8.toNat_and, -UInt32.toNat_add, -UInt8.toNat_add, -List.map_take, -List.map_drop, ← List.map_take, ← List.map_drop, -List.length_take, -List.length_drop, -List.map_replicate, rep_pY0, rep_pB0, rep_pI0, e_law09_SegmentAhead.eq_1, Tryd.results8, h_utf_Valid, Ok_utf_Valid, h_keep_Ints, Ok_keep_Ints, h_ref07_Table, Ok_ref07_Table, h_segment_Of, Ok_segment_Of, h_w, hw, hwd, hV, hL, hS, q1, hs, ok1, l1, l2, l3]
  refine ⟨by omega, ?_⟩
  generalize ofU t (s ++ u) = B at b2 hah
  generalize ofU t s = A at b1 hah
  refine loopu (fun i => i ≤ B.length) (fun i => [(11, tI ((B.take i).filter (fun x => decide (x ≤ (s.length : Int))))), (12, pI i)]) (fun i => B.length - i) ?_ (s := 0) rfl (by omega)
  intro i hi
  by_cases c : i = B.length
  · have c' : (i : Int) = B.length := by omega
    have htk : B.take i = B := List.take_of_length_le (by omega)
    have z1 : A.length < 2 ^ 62 := by omega
    simp -implicitDefEqProofs +contextual (maxSteps := 4000000) [-Int.not_le, -Int.not_lt, -Nat.not_le, -Nat.not_lt, -UInt32.toNat_or, -UInt32.toNat_xor, -UInt32.toNat_and, -UInt8.toNat_or, -UInt8.toNat_xor, -UInt8.toNat_and, -UInt32.toNat_add, -UInt8.toNat_add, -List.map_take, -List.map_drop, ← List.map_take, ← List.map_drop, -List.length_take, -List.length_drop, -List.map_replicate, rep_pY0, rep_pB0, rep_pI0, e_law09_SegmentAhead.eq_1, Tryd.results8, h_utf_Valid, Ok_utf_Valid, h_keep_Ints, Ok_keep_Ints, h_ref07_Table, Ok_ref07_Table, h_segment_Of, Ok_segment_Of, h_w, hw, c', htk, hah, z1]
  have c' : (i : Int) < B.length := by omega
  have hc : i < B.length := by omega
  have hg : B[i]? = some B[i] := List.getElem?_eq_getElem hc
  have hx := filter_take_succ (l := B) (n := (s.length : Int)) hc
  have hfl : ((B.take i).filter (fun x => decide (x ≤ (s.length : Int)))).length ≤ i := by
    have := List.length_filter_le (fun x => decide (x ≤ (s.length : Int))) (B.take i)
    rw [List.length_take] at this; omega
  have hbt : (((B.take i).filter (fun x => decide (x ≤ (s.length : Int)))).length + 1) * 9 ≤ 70368744177664 := by omega
  have hge : ∀ h : i < B.length, B[i]'h = B[i] := fun _ => rfl
  generalize hR : (B.take i).filter (fun x => decide (x ≤ (s.length : Int))) = R at hfl hbt hx
  have nx : ∀ L : List PV, List.map pI ((B.take (i + 1)).filter (fun x => decide (x ≤ (s.length : Int)))) = L → fits ((i : Int) + 1) ∧ (fits ((i : Int) + 1) → ∃ s', s' ≤ B.length ∧ B.length - s' < B.length - i ∧ L = List.map pI ((B.take s').filter (fun x => decide (x ≤ (s.length : Int)))) ∧ (i : Int) + 1 = (s' : Int)) :=
    fun L e => ⟨by unfold fits; omega, fun _ => ⟨i + 1, by omega, by omega, e.symm, by omega⟩⟩
  simp -implicitDefEqProofs +contextual (maxSteps := 4000000) [-Int.not_le, -Int.not_lt, -Nat.not_le, -Nat.not_lt, -UInt32.toNat_or, -UInt32.toNat_xor, -UInt32.toNat_and, -UInt8.toNat_or, -UInt8.toNat_xor, -UInt8.toNat_and, -UInt32.toNat_add, -UInt8.toNat_add, -List.map_take, -List.map_drop, ← List.map_take, ← List.map_drop, -List.length_take, -List.length_drop, -List.map_replicate, rep_pY0, rep_pB0, rep_pI0, e_law09_SegmentAhead.eq_1, Tryd.results8, h_utf_Valid, Ok_utf_Valid, h_keep_Ints, Ok_keep_Ints, h_ref07_Table, Ok_ref07_Table, h_segment_Of, Ok_segment_Of, hc, c', hR, hbt, -List.map_append]
  refine ⟨fun d => nx _ ?_, fun d => nx _ ?_⟩
  · rw [hx, if_pos d, List.map_append]; rfl
  · rw [hx, if_neg d, List.append_nil]
theorem law_law09_SegmentAhead_eq (t : Tab) (w : wfT t) (s : List UInt8) (ws : s.length ≤ maxLen) (zs : s.length ≤ reachBytes) (u : List UInt8) (wu : u.length ≤ maxLen) (zu : u.length ≤ reachBytes) : g_law09_SegmentAhead [pT t, pS s, pS u] = some (pB true, []) :=
  Ok_eq (by
    rw [Ok_law09_SegmentAhead]
    have h := reachBytes_lt
    exact ⟨⟨wide_wf w, by omega, by omega⟩, rfl⟩)

end Go.V
