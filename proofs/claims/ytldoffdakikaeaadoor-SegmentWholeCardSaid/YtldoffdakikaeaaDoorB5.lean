/- A part of the proof of SegmentWhole: contracts of functions, or what these lean on. No condition. -/
import Derived.Test.YtldoffdakikaeaaDoorB4
import Derived.Test.YtldoffdakikaeaaDoorA27
import Derived.Test.YtldoffdakikaeaaDoorPU4
namespace Go.V
open Go.Proofs
set_option maxRecDepth 8000
set_option linter.unusedSimpArgs false
set_option linter.unusedVariables false
theorem brkV_len {t : Tab} {l : List Int} : (brkV t l).length ≤ l.length + 1 := by
  unfold brkV
  cases h : stsV t l with
  | none => simp
  | some P =>
    have h2 : stsL t 0 l = some P := by unfold stsV at h; split at h; exact h; cases h
    have := (stsL_ne h2).1
    show (brkIx t P).length ≤ _
    unfold brkIx; rw [List.length_map]
    have := List.length_filter_le (fun i => bk t (P.getD i 0)) (List.range P.length)
    rw [List.length_range] at this; omega
def e_segment_Of : Tab × (List UInt8) → List PV := fun (t, s) => [pT t, pS s]
noncomputable def g_segment_Of : List PV → Option (PV × List PV) := spec e_segment_Of (fun (t, s) => wide t ∧ s.length < 2 ^ 38) fun (t, s) => (.tup [tI (ofU t s), pB (okU t s)], [])
theorem e_segment_Of_inj (a b : Tab × (List UInt8)) (h : e_segment_Of a = e_segment_Of b) : a = b := by
  obtain ⟨⟨t1a, t1b, t1c, t1d⟩, s1⟩ := a; obtain ⟨⟨t2a, t2b, t2c, t2d⟩, s2⟩ := b; simp [e_segment_Of, map_pI_inj, map_pB_inj, map_pY_inj, map_pBand_inj, map_sI_inj, str_inj, Int.natCast_inj, UInt8.toNat_inj, UInt32.toNat_inj] at h; first | exact h | (simp [h]; done) | exact UInt32.toNat_inj.1 (by omega) | exact UInt8.toNat_inj.1 (by omega) | (simp only [Prod.mk.injEq, ← UInt8.toNat_inj, ← UInt32.toNat_inj] at *; omega) | grind
theorem Ok_segment_Of {t : Tab} {s : List UInt8} {K : PV × List PV → Prop} : Ok (g_segment_Of [pT t, pS s]) K = ((wide t ∧ s.length < 2 ^ 38) ∧ K (.tup [tI (ofU t s), pB (okU t s)], [])) := Ok_spec e_segment_Of_inj (t, s)
set_option maxHeartbeats 1000000 in
theorem impl_segment_Of {tbl : Tbl} {G : Nat → Option (List PV)} (hT : Tb tbl G) (h_utf_Pieces : tbl 18 = g_utf_Pieces) (h_walk_Breaks : tbl 36 = g_walk_Breaks) : Impl Tryd.prog G 30 (g_segment_Of) := by
  refine impl_p (E := En tbl G 59 k_segment_Of []) (c := _) hT mixed Tryd.func30 rfl rfl (fun a => by simp [e_segment_Of, pinned.eq_1, pinned.eq_2, PV.isMut.eq_1, PV.isMut.eq_2]) ?_
  rintro ⟨t, s⟩ hok
  refine ⟨by simp [e_segment_Of], ?_⟩
  replace hok : wide t ∧ s.length < 2 ^ 38 := hok
  have hpl := @pcs_len s
  have hsl : (scU s).length < 2 ^ 40 := by rw [scU_len]; omega
  have hP : (stand 0 (pcs s)).length = (pcs s).length := stand_len
  have hsc : (stand 0 (pcs s)).map (·.1) = scU s := scU_sc.symm
  generalize hPP : stand 0 (pcs s) = P at hP hsc
  obtain ⟨hw, hs⟩ := hok
  simp -implicitDefEqProofs +contextual (maxSteps := 4000000) [-Int.not_le, -Int.not_lt, -Nat.not_le, -Nat.not_lt, -UInt32.toNat_or, -UInt32.toNat_xor, -UInt32.toNat_and, -UInt8.toNat_or, -UInt8.toNat_xor, -UInt8.toNat_and, -UInt32.toNat_add, -UInt8.toNat_add, -List.map_take, -List.map_drop, ← List.map_take, ← List.map_drop, -List.length_take, -List.length_drop, -List.map_replicate, rep_pY0, rep_pB0, rep_pI0, e_segment_Of.eq_1, Tryd.results30, h_utf_Pieces, Ok_utf_Pieces, h_walk_Breaks, Ok_walk_Breaks, hPP, hw]
  refine ⟨by omega, ?_⟩
  refine loopu (fun i => i ≤ P.length) (fun i => [(7, tI ((scU s).take i)), (19, pI i)]) (fun i => P.length - i) ?_ (s := 0) rfl (by omega)
  intro i hi
  by_cases a : i = P.length
  case neg =>
    have a' : (i : Int) < P.length := by omega
    have hg : P[i]? = some P[i] := List.getElem?_eq_getElem (by omega)
    have hx : (scU s).take (i + 1) = (scU s).take i ++ [P[i].1] := by
      rw [List.take_succ_eq_append_getElem (by rw [scU_len]; omega)]
      congr 2
      simp only [← hsc, List.getElem_map]
    have htl : ((scU s).take i).length = i := by rw [List.length_take, scU_len]; omega
    have hbt : (i + 1) * 9 ≤ 70368744177664 := by omega
    generalize P[i] = q at hg hx
    obtain ⟨q1, q2, q3⟩ := q
    simp -implicitDefEqProofs +contextual (maxSteps := 4000000) [-Int.not_le, -Int.not_lt, -Nat.not_le, -Nat.not_lt, -UInt32.toNat_or, -UInt32.toNat_xor, -UInt32.toNat_and, -UInt8.toNat_or, -UInt8.toNat_xor, -UInt8.toNat_and, -UInt32.toNat_add, -UInt8.toNat_add, -List.map_take, -List.map_drop, ← List.map_take, ← List.map_drop, -List.length_take, -List.length_drop, -List.map_replicate, rep_pY0, rep_pB0, rep_pI0, e_segment_Of.eq_1, Tryd.results30, h_utf_Pieces, Ok_utf_Pieces, h_walk_Breaks, Ok_walk_Breaks, a', hg, htl, hbt, -List.map_append, ← List.map_append]
    exact ⟨by unfold fits; omega, fun _ => ⟨i + 1, by omega, by omega, by rw [hx, List.map_append]; rfl, by omega⟩⟩
  have a' : (i : Int) = P.length := by omega
  have htk : (scU s).take i = scU s := List.take_of_length_le (by rw [scU_len]; omega)
  cases ho : okU t s with
  | false =>
    have hb : staB t (scU s) = false := ho
    have hz : ofU t s = [] := by unfold ofU; rw [brkV_no hb]; rfl
    simp -implicitDefEqProofs +contextual (maxSteps := 4000000) [-Int.not_le, -Int.not_lt, -Nat.not_le, -Nat.not_lt, -UInt32.toNat_or, -UInt32.toNat_xor, -UInt32.toNat_and, -UInt8.toNat_or, -UInt8.toNat_xor, -UInt8.toNat_and, -UInt32.toNat_add, -UInt8.toNat_add, -List.map_take, -List.map_drop, ← List.map_take, ← List.map_drop, -List.length_take, -List.length_drop, -List.map_replicate, rep_pY0, rep_pB0, rep_pI0, e_segment_Of.eq_1, Tryd.results30, h_utf_Pieces, Ok_utf_Pieces, h_walk_Breaks, Ok_walk_Breaks, a', htk, hb, hz, hw, hsl]
  | true =>
    have hb : staB t (scU s) = true := ho
    simp -implicitDefEqProofs +contextual (maxSteps := 4000000) [-Int.not_le, -Int.not_lt, -Nat.not_le, -Nat.not_lt, -UInt32.toNat_or, -UInt32.toNat_xor, -UInt32.toNat_and, -UInt8.toNat_or, -UInt8.toNat_xor, -UInt8.toNat_and, -UInt32.toNat_add, -UInt8.toNat_add, -List.map_take, -List.map_drop, ← List.map_take, ← List.map_drop, -List.length_take, -List.length_drop, -List.map_replicate, rep_pY0, rep_pB0, rep_pI0, e_segment_Of.eq_1, Tryd.results30, h_utf_Pieces, Ok_utf_Pieces, h_walk_Breaks, Ok_walk_Breaks, a', htk, hb, hw, hsl]
    refine ⟨by omega, fun _ => ?_⟩
    have hBl := brkV_len (t := t) (l := scU s)
    have hBr := brkV_rng (t := t) (l := scU s)
    rw [scU_len] at hBl hBr
    have hof : ofU t s = (brkV t (scU s)).map fun i => (offU s).getD i.toNat 0 := rfl
    generalize brkV t (scU s) = B at hBl hBr hof
    have hol : (ofU t s).length = B.length := by rw [hof, List.length_map]
    generalize hQ : List.map pPc P ++ [PV.agg [pI 0, pI (s.length : Int), pI 0]] = Q
    have hQl : Q.length = P.length + 1 := by rw [← hQ, List.length_append, List.length_map]; rfl
    refine loopu (fun i => i ≤ B.length) (fun i => [(12, tI ((ofU t s).take i)), (45, pI i)]) (fun i => B.length - i) ?_ (s := 0) rfl (by omega)
    intro i hi
    by_cases c : i = B.length
    · have c' : (i : Int) = B.length := by omega
      have htk2 : (ofU t s).take i = ofU t s := List.take_of_length_le (by omega)
      simp -implicitDefEqProofs +contextual (maxSteps := 4000000) [-Int.not_le, -Int.not_lt, -Nat.not_le, -Nat.not_lt, -UInt32.toNat_or, -UInt32.toNat_xor, -UInt32.toNat_and, -UInt8.toNat_or, -UInt8.toNat_xor, -UInt8.toNat_and, -UInt32.toNat_add, -UInt8.toNat_add, -List.map_take, -List.map_drop, ← List.map_take, ← List.map_drop, -List.length_take, -List.length_drop, -List.map_replicate, rep_pY0, rep_pB0, rep_pI0, e_segment_Of.eq_1, Tryd.results30, h_utf_Pieces, Ok_utf_Pieces, h_walk_Breaks, Ok_walk_Breaks, c', htk2]
    have c' : (i : Int) < B.length := by omega
    have hg : B[i]? = some B[i] := List.getElem?_eq_getElem (by omega)
    have hr := hBr B[i] (List.getElem_mem (by omega))
    have hx : (ofU t s).take (i + 1) = (ofU t s).take i ++ [(offU s).getD B[i].toNat 0] := by
      rw [List.take_succ_eq_append_getElem (by omega)]
      congr 2
      simp only [hof, List.getElem_map]
    have htl : ((ofU t s).take i).length = i := by rw [List.length_take]; omega
    have hbt : (i + 1) * 9 ≤ 70368744177664 := by omega
    generalize B[i] = b at hg hr hx
    obtain ⟨x0, x2, hm⟩ : ∃ x0 x2, Q[b.toNat]? = some (PV.agg [pI x0, pI ((offU s).getD b.toNat 0), pI x2]) := by
      unfold offU
      rw [hPP, ← hQ]
      simp only [List.getD_eq_getElem?_getD]
      rcases Nat.lt_or_ge b.toNat P.length with h1 | h1
      · rw [List.getElem?_append_left (by rw [List.length_map]; exact h1), List.getElem?_append_left (by rw [List.length_map]; exact h1), List.getElem?_map, List.getElem?_map, List.getElem?_eq_getElem h1]
        exact ⟨_, _, rfl⟩
      · rw [List.getElem?_append_right (by rw [List.length_map]; exact h1), List.getElem?_append_right (by rw [List.length_map]; exact h1), List.length_map, List.length_map, show b.toNat - P.length = 0 by omega]
        exact ⟨0, 0, rfl⟩
    have hr2 : b < (Q.length : Int) := by omega
    have hb3 : b.toNat < Q.length := by omega
    have hmg : ∀ h : b.toNat < Q.length, Q[b.toNat]'h = PV.agg [pI x0, pI ((offU s).getD b.toNat 0), pI x2] := fun h => by rw [List.getElem?_eq_getElem h] at hm; exact Option.some.inj hm
    generalize (offU s).getD b.toNat 0 = off at hmg hx hm
    simp -implicitDefEqProofs +contextual (maxSteps := 4000000) [-Int.not_le, -Int.not_lt, -Nat.not_le, -Nat.not_lt, -UInt32.toNat_or, -UInt32.toNat_xor, -UInt32.toNat_and, -UInt8.toNat_or, -UInt8.toNat_xor, -UInt8.toNat_and, -UInt32.toNat_add, -UInt8.toNat_add, -List.map_take, -List.map_drop, ← List.map_take, ← List.map_drop, -List.length_take, -List.length_drop, -List.map_replicate, rep_pY0, rep_pB0, rep_pI0, e_segment_Of.eq_1, Tryd.results30, h_utf_Pieces, Ok_utf_Pieces, h_walk_Breaks, Ok_walk_Breaks, c', hg, hr.1, hr2, hmg, hb3, htl, hbt, -List.map_append]
    exact ⟨by unfold fits; omega, fun _ => ⟨i + 1, by omega, by omega, by rw [hx, List.map_append]; rfl, by omega⟩⟩

end Go.V
