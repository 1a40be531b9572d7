/- A part of the proof of SegmentWhole: contracts of functions, or what these lean on. No condition. -/
import Derived.Test.YtldoffdakikaeaaDoorPU6
import Derived.Test.YtldoffdakikaeaaDoorW9
import Derived.Test.YtldoffdakikaeaaDoorA24
import Derived.Test.YtldoffdakikaeaaDoorA10
import Derived.Test.YtldoffdakikaeaaDoorPT
namespace Go.V
open Go.Proofs
set_option maxRecDepth 8000
set_option linter.unusedSimpArgs false
set_option linter.unusedVariables false
theorem flat_take {l : List (List UInt8)} {i : Nat} (h : i < l.length) : (l.take (i + 1)).flatten = (l.take i).flatten ++ l[i] := by
  rw [List.take_succ_eq_append_getElem h, List.flatten_append]; simp
theorem flat_le {l : List (List UInt8)} {i : Nat} : (l.take i).flatten.length ≤ l.flatten.length := by
  conv => rhs; rw [← List.take_append_drop i l, List.flatten_append, List.length_append]
  omega
theorem pS_eq {a : List UInt8} : (a == []) = decide (a = []) := by cases a <;> simp
def e_law09_SegmentWhole : Tab × (List UInt8) → List PV := fun (t, s) => [pT t, pS s]
noncomputable def g_law09_SegmentWhole : List PV → Option (PV × List PV) := spec e_law09_SegmentWhole (fun (t, s) => wide t ∧ s.length < 2 ^ 63) fun (t, s) => (pB true, [])
theorem e_law09_SegmentWhole_inj (a b : Tab × (List UInt8)) (h : e_law09_SegmentWhole a = e_law09_SegmentWhole b) : a = b := by
  obtain ⟨⟨t1a, t1b, t1c, t1d⟩, s1⟩ := a; obtain ⟨⟨t2a, t2b, t2c, t2d⟩, s2⟩ := b; simp [e_law09_SegmentWhole, map_pI_inj, map_pB_inj, map_pY_inj, map_pBand_inj, map_sI_inj, str_inj, Int.natCast_inj, UInt8.toNat_inj, UInt32.toNat_inj] at h; first | exact h | (simp [h]; done) | exact UInt32.toNat_inj.1 (by omega) | exact UInt8.toNat_inj.1 (by omega) | (simp only [Prod.mk.injEq, ← UInt8.toNat_inj, ← UInt32.toNat_inj] at *; omega) | grind
theorem Ok_law09_SegmentWhole {t : Tab} {s : List UInt8} {K : PV × List PV → Prop} : Ok (g_law09_SegmentWhole [pT t, pS s]) K = ((wide t ∧ s.length < 2 ^ 63) ∧ K (pB true, [])) := Ok_spec e_law09_SegmentWhole_inj (t, s)
set_option maxHeartbeats 4000000 in
theorem impl_law09_SegmentWhole {tbl : Tbl} {G : Nat → Option (List PV)} (hT : Tb tbl G) (h_utf_Pieces : tbl 18 = g_utf_Pieces) (h_ref07_Table : tbl 28 = g_ref07_Table) (h_segment_Of : tbl 30 = g_segment_Of) (h_segment_Cut : tbl 33 = g_segment_Cut) (h_walk_Breaks : tbl 36 = g_walk_Breaks) (h_w : tbl 29 = gTrue) : Impl Tryd.prog G 11 (g_law09_SegmentWhole) := by
  refine impl_p (E := En tbl G 200 k_law09_SegmentWhole []) (c := _) hT mixed Tryd.func11 rfl rfl (fun a => by simp [e_law09_SegmentWhole, pinned.eq_1, pinned.eq_2, PV.isMut.eq_1, PV.isMut.eq_2]) ?_
  rintro ⟨t, s⟩ hok
  refine ⟨by simp [e_law09_SegmentWhole], ?_⟩
  replace hok : wide t ∧ s.length < 2 ^ 63 := hok
  have hw : gTrue [] = some (pB true, []) := rfl
  obtain ⟨hwd, hs⟩ := hok
  by_cases hV : validE t = 0
  case neg =>
    simp -implicitDefEqProofs +contextual (maxSteps := 4000000) [-Int.not_le, -Int.not_lt, -Nat.not_le, -Nat.not_lt, -UInt32.toNat_or, -UInt32.toNat_xor, -UInt32.toNat_and, -UInt8.toNat_or, -UInt8.toNat_xor, -UInt8.toNat_and, -UInt32.toNat_add, -UInt8.toNat_add, -List.map_take, -List.map_drop, ← List.map_take, ← List.map_drop, -List.length_take, -List.length_drop, -List.map_replicate, rep_pY0, rep_pB0, rep_pI0, e_law09_SegmentWhole.eq_1, Tryd.results11, h_utf_Pieces, Ok_utf_Pieces, h_ref07_Table, Ok_ref07_Table, h_segment_Of, Ok_segment_Of, h_segment_Cut, Ok_segment_Cut, h_walk_Breaks, Ok_walk_Breaks, h_w, hw, hwd, hV]
  by_cases hL : 500 < (s.length : Int)
  · simp -implicitDefEqProofs +contextual (maxSteps := 4000000) [-Int.not_le, -Int.not_lt, -Nat.not_le, -Nat.not_lt, -UInt32.toNat_or, -UInt32.toNat_xor, -UInt32.toNat_and, -UInt8.toNat_or, -UInt8.toNat_xor, -UInt8.toNat_and, -UInt32.toNat_add, -UInt8.toNat_add, -List.map_take, -List.map_drop, ← List.map_take, ← List.map_drop, -List.length_take, -List.length_drop, -List.map_replicate, rep_pY0, rep_pB0, rep_pI0, e_law09_SegmentWhole.eq_1, Tryd.results11, h_utf_Pieces, Ok_utf_Pieces, h_ref07_Table, Ok_ref07_Table, h_segment_Of, Ok_segment_Of, h_segment_Cut, Ok_segment_Cut, h_walk_Breaks, Ok_walk_Breaks, h_w, hw, hwd, hV, hL]
  have ok1 : okU t s = true := by rw [okU_eq]; simp [hV]
  have ok2 : staB t (scU s) = true := ok1
  have hl40 : s.length < 2 ^ 40 := by omega
  have hl38 : s.length < 2 ^ 38 := by omega
  have hpl := @pcs_len s
  have hP : (stand 0 (pcs s)).length = (pcs s).length := stand_len
  have hsc : (stand 0 (pcs s)).map (·.1) = scU s := scU_sc.symm
  have hof : offU s = (stand 0 (pcs s)).map (·.2.1) ++ [(s.length : Int)] := rfl
  have hsl := @scU_len s
  have hX : ofU t s = (brkV t (scU s)).map fun i => (offU s).getD i.toNat 0 := rfl
  have hBl := brkV_len (t := t) (l := scU s)
  have hBr := brkV_rng (t := t) (l := scU s)
  have hXp := ofU_pair (t := t) (s := s)
  obtain ⟨hC1, hC2, hC3⟩ := cutU_ok ok1
  rw [hsl] at hBl hBr
  have hU40 : (scU s).length < 2 ^ 40 := by omega
  have hCl : (cutU t s).length ≤ 600 := by
    have h1 := List.length_filter_le (fun x => decide (0 < x) && decide (x < (s.length : Int))) (ofU t s)
    have h2 : (ofU t s).length = (brkV t (scU s)).length := by rw [hX, List.length_map]
    rw [hC3]; split <;> omega
  simp -implicitDefEqProofs +contextual (maxSteps := 4000000) [-Int.not_le, -Int.not_lt, -Nat.not_le, -Nat.not_lt, -UInt32.toNat_or, -UInt32.toNat_xor, -UInt32.toNat_and, -UInt8.toNat_or, -UInt8.toNat_xor, -UInt8.toNat_and, -UInt32.toNat_add, -UInt8.toNat_add, -List.map_take, -List.map_drop, ← List.map_take, ← List.map_drop, -List.length_take, -List.length_drop, -List.map_replicate, rep_pY0, rep_pB0, rep_pI0, e_law09_SegmentWhole.eq_1, Tryd.results11, h_utf_Pieces, Ok_utf_Pieces, h_ref07_Table, Ok_ref07_Table, h_segment_Of, Ok_segment_Of, h_segment_Cut, Ok_segment_Cut, h_walk_Breaks, Ok_walk_Breaks, h_w, hw, hwd, hV, hL, hl38, ok1]
  generalize hCC : cutU t s = Cu at hC1 hC2 hC3 hCl
  refine loopu (fun i => i ≤ Cu.length) (fun i => [(9, pS (Cu.take i).flatten), (10, pI i)]) (fun i => Cu.length - i) ?_ (s := 0) rfl (by omega)
  intro i hi
  by_cases c : i = Cu.length
  case neg =>
    have ci : i < Cu.length := by omega
    have c' : (i : Int) < Cu.length := by omega
    have hne : ¬ Cu[i] = [] := hC1 _ (List.getElem_mem ci)
    have hft := flat_take ci
    have hfl := flat_le (l := Cu) (i := i + 1)
    rw [hft, List.length_append, hC2] at hfl
    have z1 : ((Cu.take i).flatten.length : Int) + Cu[i].length ≤ 9223372036854775807 := by omega
    simp -implicitDefEqProofs +contextual (maxSteps := 4000000) [-Int.not_le, -Int.not_lt, -Nat.not_le, -Nat.not_lt, -UInt32.toNat_or, -UInt32.toNat_xor, -UInt32.toNat_and, -UInt8.toNat_or, -UInt8.toNat_xor, -UInt8.toNat_and, -UInt32.toNat_add, -UInt8.toNat_add, -List.map_take, -List.map_drop, ← List.map_take, ← List.map_drop, -List.length_take, -List.length_drop, -List.map_replicate, rep_pY0, rep_pB0, rep_pI0, e_law09_SegmentWhole.eq_1, Tryd.results11, h_utf_Pieces, Ok_utf_Pieces, h_ref07_Table, Ok_ref07_Table, h_segment_Of, Ok_segment_Of, h_segment_Cut, Ok_segment_Cut, h_walk_Breaks, Ok_walk_Breaks, ci, c', pS_eq, -List.flatten_append]
    exact ⟨hne, fun _ => ⟨by rw [← List.length_flatten]; exact z1, fun _ => ⟨by unfold fits; omega, fun _ => ⟨i + 1, by omega, by omega, by rw [hft], by omega⟩⟩⟩⟩
  have c' : (i : Int) = Cu.length := by omega
  have w1 : (Cu.take i).flatten = s := by rw [List.take_of_length_le (by omega), hC2]
  simp -implicitDefEqProofs +contextual (maxSteps := 4000000) [-Int.not_le, -Int.not_lt, -Nat.not_le, -Nat.not_lt, -UInt32.toNat_or, -UInt32.toNat_xor, -UInt32.toNat_and, -UInt8.toNat_or, -UInt8.toNat_xor, -UInt8.toNat_and, -UInt32.toNat_add, -UInt8.toNat_add, -List.map_take, -List.map_drop, ← List.map_take, ← List.map_drop, -List.length_take, -List.length_drop, -List.map_replicate, rep_pY0, rep_pB0, rep_pI0, e_law09_SegmentWhole.eq_1, Tryd.results11, h_utf_Pieces, Ok_utf_Pieces, h_ref07_Table, Ok_ref07_Table, h_segment_Of, Ok_segment_Of, h_segment_Cut, Ok_segment_Cut, h_walk_Breaks, Ok_walk_Breaks, c', w1, hl40]
  generalize hPP : stand 0 (pcs s) = P at hP hsc hof
  generalize hA : offU s = A at hof hX
  generalize hU : scU s = U at hsc hsl hX hBl hBr ok2 hU40
  generalize hn : (pcs s).length = n at hpl hP hsl hBl hBr
  refine loopu (fun i => i ≤ n) (fun i => [(12, tI (U.take i)), (13, pI i)]) (fun i => n - i) ?_ (s := 0) rfl (by omega)
  intro i2 hi2
  by_cases d : i2 = n
  case neg =>
    have di : i2 < P.length := by omega
    have d' : (i2 : Int) < P.length := by omega
    have g1 : U[i2]? = some P[i2].1 := by rw [← hsc, List.getElem?_map, List.getElem?_eq_getElem di]; rfl
    have x1 : U.take (i2 + 1) = U.take i2 ++ [P[i2].1] := by rw [List.take_add_one, g1]; rfl
    have z1 : (U.take i2).length = i2 := by rw [List.length_take]; omega
    have z5 : (i2 + 1) * 9 ≤ 70368744177664 := by omega
    simp -implicitDefEqProofs +contextual (maxSteps := 4000000) [-Int.not_le, -Int.not_lt, -Nat.not_le, -Nat.not_lt, -UInt32.toNat_or, -UInt32.toNat_xor, -UInt32.toNat_and, -UInt8.toNat_or, -UInt8.toNat_xor, -UInt8.toNat_and, -UInt32.toNat_add, -UInt8.toNat_add, -List.map_take, -List.map_drop, ← List.map_take, ← List.map_drop, -List.length_take, -List.length_drop, -List.map_replicate, rep_pY0, rep_pB0, rep_pI0, e_law09_SegmentWhole.eq_1, Tryd.results11, h_utf_Pieces, Ok_utf_Pieces, h_ref07_Table, Ok_ref07_Table, h_segment_Of, Ok_segment_Of, h_segment_Cut, Ok_segment_Cut, h_walk_Breaks, Ok_walk_Breaks, di, d', z1, z5, -List.map_append]
    exact ⟨by unfold fits; omega, fun _ => ⟨i2 + 1, by omega, by omega, by rw [x1, List.map_append]; rfl, by omega⟩⟩
  have d' : (i2 : Int) = P.length := by omega
  have w2 : U.take i2 = U := List.take_of_length_le (by omega)
  have lx : (ofU t s).length = (brkV t U).length := by rw [hX, List.length_map]
  simp -implicitDefEqProofs +contextual (maxSteps := 4000000) [-Int.not_le, -Int.not_lt, -Nat.not_le, -Nat.not_lt, -UInt32.toNat_or, -UInt32.toNat_xor, -UInt32.toNat_and, -UInt8.toNat_or, -UInt8.toNat_xor, -UInt8.toNat_and, -UInt32.toNat_add, -UInt8.toNat_add, -List.map_take, -List.map_drop, ← List.map_take, ← List.map_drop, -List.length_take, -List.length_drop, -List.map_replicate, rep_pY0, rep_pB0, rep_pI0, e_law09_SegmentWhole.eq_1, Tryd.results11, h_utf_Pieces, Ok_utf_Pieces, h_ref07_Table, Ok_ref07_Table, h_segment_Of, Ok_segment_Of, h_segment_Cut, Ok_segment_Cut, h_walk_Breaks, Ok_walk_Breaks, d', w2, hwd, hU40, ok2, lx]
  have gx : ∀ j, (h : j < (brkV t U).length) → (ofU t s)[j]? = some (A.getD (brkV t U)[j].toNat 0) := fun j h => by rw [hX, List.getElem?_map, List.getElem?_eq_getElem h]; rfl
  generalize brkV t U = W at hBl hBr lx gx
  generalize ofU t s = X at hXp hC3 lx gx
  refine loopu (fun i => i ≤ X.length) (fun i => [(16, pI i)]) (fun i => X.length - i) ?_ (s := 0) rfl (by omega)
  intro j hj
  by_cases e : j = X.length
  case neg =>
    have ej : j < X.length := by omega
    have ew : j < W.length := by omega
    have e' : (j : Int) < X.length := by omega
    have ew' : (j : Int) < W.length := by omega
    have hr := hBr W[j] (List.getElem_mem ew)
    have hgx := gx j ew
    have gX : ∀ h : j < X.length, X[j]'h = A.getD W[j].toNat 0 := fun h => by rw [List.getElem?_eq_getElem h] at hgx; exact Option.some.inj hgx
    have hnx : 0 < j → X.getD (j - 1) 0 < X.getD j 0 := fun h => pair_get hXp (by omega) ej
    have hnn : 0 ≤ W[j] := hr.1
    have q0 : ¬ W[j] < 0 := by omega
    have q1 : ¬ (P.length : Int) < W[j] := by omega
    have tn : ((j : Int) - 1).toNat = j - 1 := by omega
    have ej1 : j - 1 < X.length := by omega
    have f1 : fits ((j : Int) + 1) := by unfold fits; omega
    have nx : ∃ s', s' ≤ X.length ∧ X.length - s' < X.length - j ∧ (j : Int) + 1 = (s' : Int) := ⟨j + 1, by omega, by omega, by omega⟩
    have gN : ∀ h : j - 1 < X.length, X[j - 1]'h = X.getD (j - 1) 0 := fun h => by rw [List.getD_eq_getElem?_getD, List.getElem?_eq_getElem h]; rfl
    have gD : X.getD j 0 = A.getD W[j].toNat 0 := by rw [← gX ej, List.getD_eq_getElem?_getD, List.getElem?_eq_getElem ej]; rfl
    rw [gD] at hnx
    have hAv : A.getD W[j].toNat 0 = if h : W[j].toNat < P.length then (P[W[j].toNat]'h).2.1 else (s.length : Int) := by
      rw [hof, List.getD_eq_getElem?_getD]
      split
      · rename_i h
        rw [List.getElem?_append_left (by rw [List.length_map]; exact h), List.getElem?_map, List.getElem?_eq_getElem h]; rfl
      · rename_i h
        rw [List.getElem?_append_right (by rw [List.length_map]; omega), List.length_map, show W[j].toNat - P.length = 0 by omega]; rfl
    clear gx gD
    by_cases q : W[j] < (P.length : Int)
    · have q2 : W[j].toNat < P.length := by omega
      rw [dif_pos q2] at hAv
      rw [hAv] at gX hnx
      rcases Nat.eq_zero_or_pos j with j0 | j0
      · have j0' : ¬ 0 < (j : Int) := by omega
        simp -implicitDefEqProofs +contextual (maxSteps := 4000000) [-Int.not_le, -Int.not_lt, -Nat.not_le, -Nat.not_lt, -UInt32.toNat_or, -UInt32.toNat_xor, -UInt32.toNat_and, -UInt8.toNat_or, -UInt8.toNat_xor, -UInt8.toNat_and, -UInt32.toNat_add, -UInt8.toNat_add, -List.map_take, -List.map_drop, ← List.map_take, ← List.map_drop, -List.length_take, -List.length_drop, -List.map_replicate, rep_pY0, rep_pB0, rep_pI0, e_law09_SegmentWhole.eq_1, Tryd.results11, h_utf_Pieces, Ok_utf_Pieces, h_ref07_Table, Ok_ref07_Table, h_segment_Of, Ok_segment_Of, h_segment_Cut, Ok_segment_Cut, h_walk_Breaks, Ok_walk_Breaks, ej, ew, e', ew', q0, q1, q, q2, hnn, gX, j0']
        exact ⟨fun h => absurd h (by omega), fun _ => ⟨show drawD _ _ = true by decide +kernel, f1, fun _ => nx⟩⟩
      · have j0' : 0 < (j : Int) := by omega
        have j1 : 1 ≤ (j : Int) := by omega
        have j2 : (j : Int) - 1 < X.length := by omega
        have j3 : fits ((j : Int) - 1) := by unfold fits; omega
        have hl := hnx j0
        generalize X.getD (j - 1) 0 = pv at gN hl
        have hl2 : ¬ (P[W[j].toNat]).2.1 ≤ pv := by omega
        simp -implicitDefEqProofs +contextual (maxSteps := 4000000) [-Int.not_le, -Int.not_lt, -Nat.not_le, -Nat.not_lt, -UInt32.toNat_or, -UInt32.toNat_xor, -UInt32.toNat_and, -UInt8.toNat_or, -UInt8.toNat_xor, -UInt8.toNat_and, -UInt32.toNat_add, -UInt8.toNat_add, -List.map_take, -List.map_drop, ← List.map_take, ← List.map_drop, -List.length_take, -List.length_drop, -List.map_replicate, rep_pY0, rep_pB0, rep_pI0, e_law09_SegmentWhole.eq_1, Tryd.results11, h_utf_Pieces, Ok_utf_Pieces, h_ref07_Table, Ok_ref07_Table, h_segment_Of, Ok_segment_Of, h_segment_Cut, Ok_segment_Cut, h_walk_Breaks, Ok_walk_Breaks, ej, ew, e', ew', q0, q1, q, q2, hnn, gX, gN, j0', j1, j2, j3, ej1, tn, hl2]
        exact ⟨fun _ => ⟨show drawD _ _ = true by decide +kernel, f1, fun _ => nx⟩, fun h => absurd j0 h⟩
    · rw [dif_neg (by omega)] at hAv
      rw [hAv] at gX hnx
      rcases Nat.eq_zero_or_pos j with j0 | j0
      · have j0' : ¬ 0 < (j : Int) := by omega
        simp -implicitDefEqProofs +contextual (maxSteps := 4000000) [-Int.not_le, -Int.not_lt, -Nat.not_le, -Nat.not_lt, -UInt32.toNat_or, -UInt32.toNat_xor, -UInt32.toNat_and, -UInt8.toNat_or, -UInt8.toNat_xor, -UInt8.toNat_and, -UInt32.toNat_add, -UInt8.toNat_add, -List.map_take, -List.map_drop, ← List.map_take, ← List.map_drop, -List.length_take, -List.length_drop, -List.map_replicate, rep_pY0, rep_pB0, rep_pI0, e_law09_SegmentWhole.eq_1, Tryd.results11, h_utf_Pieces, Ok_utf_Pieces, h_ref07_Table, Ok_ref07_Table, h_segment_Of, Ok_segment_Of, h_segment_Cut, Ok_segment_Cut, h_walk_Breaks, Ok_walk_Breaks, ej, ew, e', ew', q0, q1, q, hnn, gX, j0']
        exact ⟨fun h => absurd h (by omega), fun _ => ⟨show drawD _ _ = true by decide +kernel, f1, fun _ => nx⟩⟩
      · have j0' : 0 < (j : Int) := by omega
        have j1 : 1 ≤ (j : Int) := by omega
        have j2 : (j : Int) - 1 < X.length := by omega
        have j3 : fits ((j : Int) - 1) := by unfold fits; omega
        have hl := hnx j0
        generalize X.getD (j - 1) 0 = pv at gN hl
        have hl2 : ¬ (s.length : Int) ≤ pv := by omega
        simp -implicitDefEqProofs +contextual (maxSteps := 4000000) [-Int.not_le, -Int.not_lt, -Nat.not_le, -Nat.not_lt, -UInt32.toNat_or, -UInt32.toNat_xor, -UInt32.toNat_and, -UInt8.toNat_or, -UInt8.toNat_xor, -UInt8.toNat_and, -UInt32.toNat_add, -UInt8.toNat_add, -List.map_take, -List.map_drop, ← List.map_take, ← List.map_drop, -List.length_take, -List.length_drop, -List.map_replicate, rep_pY0, rep_pB0, rep_pI0, e_law09_SegmentWhole.eq_1, Tryd.results11, h_utf_Pieces, Ok_utf_Pieces, h_ref07_Table, Ok_ref07_Table, h_segment_Of, Ok_segment_Of, h_segment_Cut, Ok_segment_Cut, h_walk_Breaks, Ok_walk_Breaks, ej, ew, e', ew', q0, q1, q, hnn, gX, gN, j0', j1, j2, j3, ej1, tn, hl2]
        exact ⟨fun _ => ⟨show drawD _ _ = true by decide +kernel, f1, fun _ => nx⟩, fun h => absurd j0 h⟩
  have e' : (j : Int) = X.length := by omega
  simp -implicitDefEqProofs +contextual (maxSteps := 4000000) [-Int.not_le, -Int.not_lt, -Nat.not_le, -Nat.not_lt, -UInt32.toNat_or, -UInt32.toNat_xor, -UInt32.toNat_and, -UInt8.toNat_or, -UInt8.toNat_xor, -UInt8.toNat_and, -UInt32.toNat_add, -UInt8.toNat_add, -List.map_take, -List.map_drop, ← List.map_take, ← List.map_drop, -List.length_take, -List.length_drop, -List.map_replicate, rep_pY0, rep_pB0, rep_pI0, e_law09_SegmentWhole.eq_1, Tryd.results11, h_utf_Pieces, Ok_utf_Pieces, h_ref07_Table, Ok_ref07_Table, h_segment_Of, Ok_segment_Of, h_segment_Cut, Ok_segment_Cut, h_walk_Breaks, Ok_walk_Breaks, e']
  refine loopu (fun i => i ≤ X.length) (fun i => [(18, pI ((X.take i).filter (fun x => decide (0 < x) && decide (x < (s.length : Int)))).length), (19, pI i)]) (fun i => X.length - i) ?_ (s := 0) rfl (by omega)
  intro k hk
  have hcl := List.length_filter_le (fun x => decide (0 < x) && decide (x < (s.length : Int))) (X.take k)
  rw [List.length_take] at hcl
  by_cases g : k = X.length
  · have g' : (k : Int) = X.length := by omega
    have wk : X.take k = X := List.take_of_length_le (by omega)
    rw [wk] at hcl ⊢
    generalize (X.filter (fun x => decide (0 < x) && decide (x < (s.length : Int)))).length = N at hC3 hcl
    have fN : fits ((N : Int) + 1) := by unfold fits; omega
    by_cases z : s = []
    · subst z
      have hc0 : (Cu.length : Int) = 0 := by
        rw [if_neg (by simp)] at hC3
        have : Cu = [] := by
          cases Cu with
          | nil => rfl
          | cons a l => exact absurd hC2 (by intro h; rw [List.flatten_cons, List.append_eq_nil_iff] at h; exact hC1 a List.mem_cons_self h.1)
        rw [this]; rfl
      simp -implicitDefEqProofs +contextual (maxSteps := 4000000) [-Int.not_le, -Int.not_lt, -Nat.not_le, -Nat.not_lt, -UInt32.toNat_or, -UInt32.toNat_xor, -UInt32.toNat_and, -UInt8.toNat_or, -UInt8.toNat_xor, -UInt8.toNat_and, -UInt32.toNat_add, -UInt8.toNat_add, -List.map_take, -List.map_drop, ← List.map_take, ← List.map_drop, -List.length_take, -List.length_drop, -List.map_replicate, rep_pY0, rep_pB0, rep_pI0, e_law09_SegmentWhole.eq_1, Tryd.results11, h_utf_Pieces, Ok_utf_Pieces, h_ref07_Table, Ok_ref07_Table, h_segment_Of, Ok_segment_Of, h_segment_Cut, Ok_segment_Cut, h_walk_Breaks, Ok_walk_Breaks, h_w, hw, g', hc0, fN, pS_eq]
    · have zp : 0 < s.length := List.length_pos_iff.2 z
      rw [if_pos zp] at hC3
      have hc0 : (Cu.length : Int) = (N : Int) + 1 := by omega
      simp -implicitDefEqProofs +contextual (maxSteps := 4000000) [-Int.not_le, -Int.not_lt, -Nat.not_le, -Nat.not_lt, -UInt32.toNat_or, -UInt32.toNat_xor, -UInt32.toNat_and, -UInt8.toNat_or, -UInt8.toNat_xor, -UInt8.toNat_and, -UInt32.toNat_add, -UInt8.toNat_add, -List.map_take, -List.map_drop, ← List.map_take, ← List.map_drop, -List.length_take, -List.length_drop, -List.map_replicate, rep_pY0, rep_pB0, rep_pI0, e_law09_SegmentWhole.eq_1, Tryd.results11, h_utf_Pieces, Ok_utf_Pieces, h_ref07_Table, Ok_ref07_Table, h_segment_Of, Ok_segment_Of, h_segment_Cut, Ok_segment_Cut, h_walk_Breaks, Ok_walk_Breaks, h_w, hw, g', hc0, fN, z, pS_eq]
  have gk : k < X.length := by omega
  have g' : (k : Int) < X.length := by omega
  have hft : ((X.take (k + 1)).filter (fun x => decide (0 < x) && decide (x < (s.length : Int)))).length = ((X.take k).filter (fun x => decide (0 < x) && decide (x < (s.length : Int)))).length + if (0 < X[k] ∧ X[k] < (s.length : Int)) then 1 else 0 := by
    rw [List.take_succ_eq_append_getElem gk, List.filter_append, List.length_append]
    congr 1
    by_cases h : 0 < X[k] ∧ X[k] < (s.length : Int)
    · rw [if_pos h]; simp [h]
    · rw [if_neg h]
      have : (decide (0 < X[k]) && decide (X[k] < (s.length : Int))) = false := by simpa using fun a => by have := fun b => h ⟨a, b⟩; omega
      simp [this]
  generalize hN : ((X.take k).filter (fun x => decide (0 < x) && decide (x < (s.length : Int)))).length = N at hft hcl
  have f1 : fits ((k : Int) + 1) := by unfold fits; omega
  have f2 : fits ((N : Int) + 1) := by unfold fits; omega
  simp -implicitDefEqProofs +contextual (maxSteps := 4000000) [-Int.not_le, -Int.not_lt, -Nat.not_le, -Nat.not_lt, -UInt32.toNat_or, -UInt32.toNat_xor, -UInt32.toNat_and, -UInt8.toNat_or, -UInt8.toNat_xor, -UInt8.toNat_and, -UInt32.toNat_add, -UInt8.toNat_add, -List.map_take, -List.map_drop, ← List.map_take, ← List.map_drop, -List.length_take, -List.length_drop, -List.map_replicate, rep_pY0, rep_pB0, rep_pI0, e_law09_SegmentWhole.eq_1, Tryd.results11, h_utf_Pieces, Ok_utf_Pieces, h_ref07_Table, Ok_ref07_Table, h_segment_Of, Ok_segment_Of, h_segment_Cut, Ok_segment_Cut, h_walk_Breaks, Ok_walk_Breaks, gk, g', hN]
  refine ⟨fun a => ⟨fun b => ⟨f2, fun _ => ⟨f1, fun _ => ⟨k + 1, by omega, by omega, ?_, by omega⟩⟩⟩, fun b => ⟨f1, fun _ => ⟨k + 1, by omega, by omega, ?_, by omega⟩⟩⟩, fun a => ⟨f1, fun _ => ⟨k + 1, by omega, by omega, ?_, by omega⟩⟩⟩
  · rw [hft, if_pos ⟨a, b⟩]; rfl
  · rw [hft, if_neg (fun h => b h.2)]; rfl
  · rw [hft, if_neg (fun h => a h.1)]; rfl
theorem law_law09_SegmentWhole_eq (t : Tab) (w : wfT t) (s : List UInt8) (ws : s.length ≤ maxLen) (zs : s.length ≤ reachBytes) : g_law09_SegmentWhole [pT t, pS s] = some (pB true, []) :=
  Ok_eq (by
    rw [Ok_law09_SegmentWhole]
    have h := reachBytes_lt
    exact ⟨⟨wide_wf w, by omega⟩, rfl⟩)

end Go.V
