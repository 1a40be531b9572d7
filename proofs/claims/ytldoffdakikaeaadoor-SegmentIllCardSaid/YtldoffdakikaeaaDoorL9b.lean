/- A part of the proof of SegmentIll: contracts of functions, or what these lean on. No condition. -/
import Derived.Test.YtldoffdakikaeaaDoorB5
import Derived.Test.YtldoffdakikaeaaDoorW9
import Derived.Test.YtldoffdakikaeaaDoorA24
import Derived.Test.YtldoffdakikaeaaDoorA10
import Derived.Test.YtldoffdakikaeaaDoorPT
import Derived.Test.YtldoffdakikaeaaDoorPU5
namespace Go.V
open Go.Proofs
set_option maxRecDepth 8000
set_option linter.unusedSimpArgs false
set_option linter.unusedVariables false
def e_law09_SegmentIll : Tab × (List UInt8) → List PV := fun (t, s) => [pT t, pS s]
noncomputable def g_law09_SegmentIll : List PV → Option (PV × List PV) := spec e_law09_SegmentIll (fun (t, s) => wide t ∧ s.length < 2 ^ 63) fun (t, s) => (pB true, [])
theorem e_law09_SegmentIll_inj (a b : Tab × (List UInt8)) (h : e_law09_SegmentIll a = e_law09_SegmentIll b) : a = b := by
  obtain ⟨⟨t1a, t1b, t1c, t1d⟩, s1⟩ := a; obtain ⟨⟨t2a, t2b, t2c, t2d⟩, s2⟩ := b; simp [e_law09_SegmentIll, map_pI_inj, map_pB_inj, map_pY_inj, map_pBand_inj, map_sI_inj, str_inj, Int.natCast_inj, UInt8.toNat_inj, UInt32.toNat_inj] at h; first | exact h | (simp [h]; done) | exact UInt32.toNat_inj.1 (by omega) | exact UInt8.toNat_inj.1 (by omega) | (simp only [Prod.mk.injEq, ← UInt8.toNat_inj, ← UInt32.toNat_inj] at *; omega) | grind
theorem Ok_law09_SegmentIll {t : Tab} {s : List UInt8} {K : PV × List PV → Prop} : Ok (g_law09_SegmentIll [pT t, pS s]) K = ((wide t ∧ s.length < 2 ^ 63) ∧ K (pB true, [])) := Ok_spec e_law09_SegmentIll_inj (t, s)
set_option maxHeartbeats 4000000 in
theorem impl_law09_SegmentIll {tbl : Tbl} {G : Nat → Option (List PV)} (hT : Tb tbl G) (h_utf_Pieces : tbl 18 = g_utf_Pieces) (h_utf_Bytes : tbl 21 = g_utf_Bytes) (h_ref07_Table : tbl 28 = g_ref07_Table) (h_segment_Of : tbl 30 = g_segment_Of) (h_w : tbl 29 = gTrue) : Impl Tryd.prog G 9 (g_law09_SegmentIll) := by
  refine impl_p (E := En tbl G 136 k_law09_SegmentIll []) (c := _) hT mixed Tryd.func9 rfl rfl (fun a => by simp [e_law09_SegmentIll, pinned.eq_1, pinned.eq_2, PV.isMut.eq_1, PV.isMut.eq_2]) ?_
  rintro ⟨t, s⟩ hok
  refine ⟨by simp [e_law09_SegmentIll], ?_⟩
  replace hok : wide t ∧ s.length < 2 ^ 63 := hok
  have hw : gTrue [] = some (pB true, []) := rfl
  obtain ⟨hwd, hs⟩ := hok
  by_cases hV : validE t = 0
  case neg =>
    simp -implicitDefEqProofs +contextual (maxSteps := 4000000) [-Int.not_le, -Int.not_lt, -Nat.not_le, -Nat.not_lt, -UInt32.toNat_or, -UInt32.toNat_xor, -UInt32.toNat_and, -UInt8.toNat_or, -UInt8.toNat_xor, -UInt8.toNat_and, -UInt32.toNat_add, -UInt8.toNat_add, -List.map_take, -List.map_drop, ← List.map_take, ← List.map_drop, -List.length_take, -List.length_drop, -List.map_replicate, rep_pY0, rep_pB0, rep_pI0, e_law09_SegmentIll.eq_1, Tryd.results9, h_utf_Pieces, Ok_utf_Pieces, h_utf_Bytes, Ok_utf_Bytes, h_ref07_Table, Ok_ref07_Table, h_segment_Of, Ok_segment_Of, h_w, hw, hwd, hV]
  by_cases hL : 500 < (s.length : Int)
  · simp -implicitDefEqProofs +contextual (maxSteps := 4000000) [-Int.not_le, -Int.not_lt, -Nat.not_le, -Nat.not_lt, -UInt32.toNat_or, -UInt32.toNat_xor, -UInt32.toNat_and, -UInt8.toNat_or, -UInt8.toNat_xor, -UInt8.toNat_and, -UInt32.toNat_add, -UInt8.toNat_add, -List.map_take, -List.map_drop, ← List.map_take, ← List.map_drop, -List.length_take, -List.length_drop, -List.map_replicate, rep_pY0, rep_pB0, rep_pI0, e_law09_SegmentIll.eq_1, Tryd.results9, h_utf_Pieces, Ok_utf_Pieces, h_utf_Bytes, Ok_utf_Bytes, h_ref07_Table, Ok_ref07_Table, h_segment_Of, Ok_segment_Of, h_w, hw, hwd, hV, hL]
  have ok1 : ∀ x : List UInt8, okU t x = true := fun x => by rw [okU_eq]; simp [hV]
  have hl40 : s.length < 2 ^ 40 := by omega
  have hl38 : s.length < 2 ^ 38 := by omega
  have hpl := @pcs_len s
  have hP : (stand 0 (pcs s)).length = (pcs s).length := stand_len
  have hsc : (stand 0 (pcs s)).map (·.1) = scU s := scU_sc.symm
  have hof : offU s = (stand 0 (pcs s)).map (·.2.1) ++ [(s.length : Int)] := rfl
  have hof2 : ∀ i, i ≤ (pcs s).length → (offU (putU s))[i]? = some ((encsU ((scU s).take i)).length : Int) := fun i h => offU_put h
  have hol := @offU_len s
  have hol2 := @offU_len (putU s)
  rw [pcs_put_len] at hol2
  have hsl := @scU_len s
  have hB : ofU t s = (brkV t (scU s)).map fun i => (offU s).getD i.toNat 0 := rfl
  have hB2 : ofU t (putU s) = (brkV t (scU s)).map fun i => (offU (putU s)).getD i.toNat 0 := by unfold ofU; rw [scU_put]
  have hBl := brkV_len (t := t) (l := scU s)
  have hBr := brkV_rng (t := t) (l := scU s)
  have hBp := brkV_pair (t := t) (l := scU s)
  have hAp := @offU_pair s
  have hall := @scU_all s
  have hput : putU s = encsU (scU s) := rfl
  rw [hsl] at hBl hBr
  simp -implicitDefEqProofs +contextual (maxSteps := 4000000) [-Int.not_le, -Int.not_lt, -Nat.not_le, -Nat.not_lt, -UInt32.toNat_or, -UInt32.toNat_xor, -UInt32.toNat_and, -UInt8.toNat_or, -UInt8.toNat_xor, -UInt8.toNat_and, -UInt32.toNat_add, -UInt8.toNat_add, -List.map_take, -List.map_drop, ← List.map_take, ← List.map_drop, -List.length_take, -List.length_drop, -List.map_replicate, rep_pY0, rep_pB0, rep_pI0, e_law09_SegmentIll.eq_1, Tryd.results9, h_utf_Pieces, Ok_utf_Pieces, h_utf_Bytes, Ok_utf_Bytes, h_ref07_Table, Ok_ref07_Table, h_segment_Of, Ok_segment_Of, h_w, hw, hwd, hV, hL, hl40]
  generalize hPP : stand 0 (pcs s) = P at hP hsc hof
  generalize hA : offU s = A at hof hol hAp hB
  generalize hC : offU (putU s) = C at hof2 hol2 hB2
  generalize hU : scU s = U at hsc hof2 hsl hB hB2 hBl hBr hBp hall hput
  generalize hn : (pcs s).length = n at hpl hP hof2 hol hol2 hsl hBl hBr
  refine loopu (fun i => i ≤ n) (fun i => [(6, pS (encsU (U.take i))), (7, tI (A.take i)), (8, tI (C.take i)), (9, pI i)]) (fun i => n - i) ?_ (s := 0) rfl (by omega)
  intro i hi
  by_cases c : i = n
  case neg =>
    have hi2 : i < P.length := by omega
    have hi3 : (i : Int) < P.length := by omega
    have g1 : U[i]? = some P[i].1 := by rw [← hsc, List.getElem?_map, List.getElem?_eq_getElem hi2]; rfl
    have g2 : A[i]? = some P[i].2.1 := by rw [hof, List.getElem?_append_left (by rw [List.length_map]; omega), List.getElem?_map, List.getElem?_eq_getElem hi2]; rfl
    have g3 := hof2 i hi
    have g4 : P[i]? = some P[i] := List.getElem?_eq_getElem hi2
    have hsv : isSc P[i].1 = true := hall _ (List.mem_of_getElem? g1)
    have x1 : U.take (i + 1) = U.take i ++ [P[i].1] := by rw [List.take_add_one, g1]; rfl
    have x2 : A.take (i + 1) = A.take i ++ [P[i].2.1] := by rw [List.take_add_one, g2]; rfl
    have x3 : C.take (i + 1) = C.take i ++ [((encsU (U.take i)).length : Int)] := by rw [List.take_add_one, g3]; rfl
    have z1 : (A.take i).length = i := by rw [List.length_take]; omega
    have z2 : (C.take i).length = i := by rw [List.length_take]; omega
    have z3 := encsU_len (l := U.take i)
    rw [List.length_take] at z3
    have z4 := @encU_le P[i].1
    have z5 : (i + 1) * 9 ≤ 70368744177664 := by omega
    have z6 : ((encsU (U.take i)).length : Int) + (bytesU P[i].1).length ≤ 9223372036854775807 := by rw [bytesU_sc hsv]; omega
    have x4 : encsU (U.take (i + 1)) = encsU (U.take i) ++ bytesU P[i].1 := by rw [bytesU_sc hsv, x1, encsU_app, encsU_cons, encsU_nil, List.append_nil]
    simp -implicitDefEqProofs +contextual (maxSteps := 4000000) [-Int.not_le, -Int.not_lt, -Nat.not_le, -Nat.not_lt, -UInt32.toNat_or, -UInt32.toNat_xor, -UInt32.toNat_and, -UInt8.toNat_or, -UInt8.toNat_xor, -UInt8.toNat_and, -UInt32.toNat_add, -UInt8.toNat_add, -List.map_take, -List.map_drop, ← List.map_take, ← List.map_drop, -List.length_take, -List.length_drop, -List.map_replicate, rep_pY0, rep_pB0, rep_pI0, e_law09_SegmentIll.eq_1, Tryd.results9, h_utf_Pieces, Ok_utf_Pieces, h_utf_Bytes, Ok_utf_Bytes, h_ref07_Table, Ok_ref07_Table, h_segment_Of, Ok_segment_Of, hi2, hi3, z1, z2, z5, -List.map_append]
    exact ⟨hsv, fun _ => ⟨z6, fun _ => ⟨by unfold fits; omega, fun _ => ⟨i + 1, by omega, by omega, by rw [x4], by rw [x2, List.map_append]; rfl, by rw [x3, List.map_append]; rfl, by omega⟩⟩⟩⟩
  have c' : (i : Int) = P.length := by omega
  have w1 : U.take i = U := List.take_of_length_le (by omega)
  have w2 : A.take i ++ [(s.length : Int)] = A := by
    rw [hof]; congr 1; rw [List.take_left' (by rw [List.length_map]; omega)]
  have w3 : C.take i ++ [((encsU U).length : Int)] = C := by
    have := hof2 n (Nat.le_refl _)
    rw [List.take_of_length_le (by omega)] at this
    have h2 : C.take (n + 1) = C := List.take_of_length_le (by omega)
    have h3 : C.take (n + 1) = C.take n ++ [((encsU U).length : Int)] := by rw [List.take_add_one, this]; rfl
    rw [c]; exact h3.symm.trans h2
  have v2 : List.map pI (A.take i) ++ [pI s.length] = List.map pI A := by have := congrArg (List.map pI) w2; rw [List.map_append] at this; exact this
  have v3 : List.map pI (C.take i) ++ [pI (encsU U).length] = List.map pI C := by have := congrArg (List.map pI) w3; rw [List.map_append] at this; exact this
  have z1 : (A.take i).length = i := by rw [List.length_take]; omega
  have z2 : (C.take i).length = i := by rw [List.length_take]; omega
  have z5 : (i + 1) * 9 ≤ 70368744177664 := by omega
  have hput' : encsU U = putU s := hput.symm
  have hpl2 : (putU s).length < 2 ^ 38 := by
    have := encsU_len (l := U)
    rw [hput]; omega
  rw [hput'] at v3
  generalize brkV t U = B at hB hB2 hBl hBr hBp
  have la : (ofU t s).length = B.length := by rw [hB, List.length_map]
  have lb : (ofU t (putU s)).length = B.length := by rw [hB2, List.length_map]
  simp -implicitDefEqProofs +contextual (maxSteps := 4000000) [-Int.not_le, -Int.not_lt, -Nat.not_le, -Nat.not_lt, -UInt32.toNat_or, -UInt32.toNat_xor, -UInt32.toNat_and, -UInt8.toNat_or, -UInt8.toNat_xor, -UInt8.toNat_and, -UInt32.toNat_add, -UInt8.toNat_add, -List.map_take, -List.map_drop, ← List.map_take, ← List.map_drop, -List.length_take, -List.length_drop, -List.map_replicate, rep_pY0, rep_pB0, rep_pI0, e_law09_SegmentIll.eq_1, Tryd.results9, h_utf_Pieces, Ok_utf_Pieces, h_utf_Bytes, Ok_utf_Bytes, h_ref07_Table, Ok_ref07_Table, h_segment_Of, Ok_segment_Of, c', w1, v2, v3, z1, z2, z5, hput', hpl2, hl38, hwd, ok1, la, lb, -List.map_append]
  have hga : ∀ j, (h : j < B.length) → (ofU t s)[j]? = some (A.getD B[j].toNat 0) := fun j h => by rw [hB, List.getElem?_map, List.getElem?_eq_getElem h]; rfl
  have hgb : ∀ j, (h : j < B.length) → (ofU t (putU s))[j]? = some (C.getD B[j].toNat 0) := fun j h => by rw [hB2, List.getElem?_map, List.getElem?_eq_getElem h]; rfl
  generalize ofU t s = X at la hga
  generalize ofU t (putU s) = Y at lb hgb
  refine loopu (fun (x : Nat × Nat) => x.1 ≤ B.length ∧ ∀ h : x.1 < B.length, x.2 ≤ B[x.1].toNat) (fun x => [(16, pI x.2), (17, pI x.1)]) (fun x => B.length - x.1) ?_ (s := (0, 0)) rfl ⟨by omega, fun _ => by omega⟩
  rintro ⟨j, k⟩ ⟨h1, h2⟩
  simp only at h1 h2
  by_cases d : j = B.length
  · have d' : (j : Int) = X.length := by omega
    simp -implicitDefEqProofs +contextual (maxSteps := 4000000) [-Int.not_le, -Int.not_lt, -Nat.not_le, -Nat.not_lt, -UInt32.toNat_or, -UInt32.toNat_xor, -UInt32.toNat_and, -UInt8.toNat_or, -UInt8.toNat_xor, -UInt8.toNat_and, -UInt32.toNat_add, -UInt8.toNat_add, -List.map_take, -List.map_drop, ← List.map_take, ← List.map_drop, -List.length_take, -List.length_drop, -List.map_replicate, rep_pY0, rep_pB0, rep_pI0, e_law09_SegmentIll.eq_1, Tryd.results9, h_utf_Pieces, Ok_utf_Pieces, h_utf_Bytes, Ok_utf_Bytes, h_ref07_Table, Ok_ref07_Table, h_segment_Of, Ok_segment_Of, h_w, hw, d']
  have dj : j < B.length := by omega
  have djx : j < X.length := by omega
  have djy : j < Y.length := by omega
  have d' : (j : Int) < X.length := by omega
  have d2 : (j : Int) < Y.length := by omega
  have h2 := h2 dj
  have ga := hga j dj
  have gb := hgb j dj
  have hbr := hBr B[j] (List.getElem_mem dj)
  have nxt : ∀ h : j + 1 < B.length, B[j].toNat ≤ B[j + 1].toNat := fun h => by
    have := List.pairwise_iff_getElem.1 hBp j (j + 1) dj h (by omega)
    omega
  generalize hb : B[j].toNat = m at h2 ga gb nxt
  have hm : m ≤ n := by omega
  have gX : ∀ h : j < X.length, X[j]'h = A.getD m 0 := fun h => by rw [List.getElem?_eq_getElem h] at ga; exact Option.some.inj ga
  have gY : ∀ h : j < Y.length, Y[j]'h = C.getD m 0 := fun h => by rw [List.getElem?_eq_getElem h] at gb; exact Option.some.inj gb
  simp -implicitDefEqProofs +contextual (maxSteps := 4000000) [-Int.not_le, -Int.not_lt, -Nat.not_le, -Nat.not_lt, -UInt32.toNat_or, -UInt32.toNat_xor, -UInt32.toNat_and, -UInt8.toNat_or, -UInt8.toNat_xor, -UInt8.toNat_and, -UInt32.toNat_add, -UInt8.toNat_add, -List.map_take, -List.map_drop, ← List.map_take, ← List.map_drop, -List.length_take, -List.length_drop, -List.map_replicate, rep_pY0, rep_pB0, rep_pI0, e_law09_SegmentIll.eq_1, Tryd.results9, h_utf_Pieces, Ok_utf_Pieces, h_utf_Bytes, Ok_utf_Bytes, h_ref07_Table, Ok_ref07_Table, h_segment_Of, Ok_segment_Of, d']
  refine loopo (fun o : Option Nat => o.getD k ≤ m) (fun o => (7, Slot.val (.sl true 1 (List.map pI A)), 0, 0) :: (8, .val (tI C), 0, 0) :: (12, .val (tI X), 0, 0) :: (14, .val (tI Y), 0, 0) :: (16, .val (pI ((o.getD k : Nat) : Int)), 0, 0) :: (17, .val (pI j), 0, 0) :: (if o = none then [(100, .val (pB true), 0, 0)] else []))
    (fun o => if o = none then m + 1 else m - o.getD k) ?_ (s := none) rfl h2
  rintro (_ | q) hk
  · have hk' : k ≤ m := hk
    have k1 : k < A.length := by omega
    have k2 : (k : Int) < A.length := by omega
    have k3 : k < C.length := by omega
    have k4 : (k : Int) < C.length := by omega
    have gA : ∀ h : k < A.length, A[k]'h = A.getD k 0 := fun h => by rw [List.getD_eq_getElem?_getD, List.getElem?_eq_getElem h]; rfl
    have gC : ∀ h : k < C.length, C[k]'h = C.getD k 0 := fun h => by rw [List.getD_eq_getElem?_getD, List.getElem?_eq_getElem h]; rfl
    by_cases e : k = m
    · subst e
      have k5 : ¬ (k : Int) = A.length := by omega
      clear hga hgb hB hB2 ga gb
      generalize A.getD k 0 = ak at gA gX
      generalize C.getD k 0 = ck at gC gY
      simp -implicitDefEqProofs +contextual (maxSteps := 4000000) [-Int.not_le, -Int.not_lt, -Nat.not_le, -Nat.not_lt, -UInt32.toNat_or, -UInt32.toNat_xor, -UInt32.toNat_and, -UInt8.toNat_or, -UInt8.toNat_xor, -UInt8.toNat_and, -UInt32.toNat_add, -UInt8.toNat_add, -List.map_take, -List.map_drop, ← List.map_take, ← List.map_drop, -List.length_take, -List.length_drop, -List.map_replicate, rep_pY0, rep_pB0, rep_pI0, e_law09_SegmentIll.eq_1, Tryd.results9, h_utf_Pieces, Ok_utf_Pieces, h_utf_Bytes, Ok_utf_Bytes, h_ref07_Table, Ok_ref07_Table, h_segment_Of, Ok_segment_Of, k1, k2, k3, k4, k5, d', d2, djx, djy, gX, gY, gA, gC]
      exact ⟨by decide +kernel, by decide +kernel, by unfold fits; omega, fun _ => ⟨j + 1, k, ⟨by omega, nxt⟩, by omega, rfl, by omega⟩⟩
    · have lt := pair_get hAp (show k < m by omega) (by omega)
      have ne : ¬ A.getD k 0 = A.getD m 0 := by omega
      clear lt hga hgb hB hB2 ga gb gC gY
      generalize A.getD k 0 = ak at gA ne
      generalize A.getD m 0 = am at gX ne
      simp -implicitDefEqProofs +contextual (maxSteps := 4000000) [-Int.not_le, -Int.not_lt, -Nat.not_le, -Nat.not_lt, -UInt32.toNat_or, -UInt32.toNat_xor, -UInt32.toNat_and, -UInt8.toNat_or, -UInt8.toNat_xor, -UInt8.toNat_and, -UInt32.toNat_add, -UInt8.toNat_add, -List.map_take, -List.map_drop, ← List.map_take, ← List.map_drop, -List.length_take, -List.length_drop, -List.map_replicate, rep_pY0, rep_pB0, rep_pI0, e_law09_SegmentIll.eq_1, Tryd.results9, h_utf_Pieces, Ok_utf_Pieces, h_utf_Bytes, Ok_utf_Bytes, h_ref07_Table, Ok_ref07_Table, h_segment_Of, Ok_segment_Of, k1, k2, d', djx, gX, gA, ne]
      exact ⟨by decide +kernel, by unfold fits; omega, fun _ => ⟨some (k + 1), show k + 1 ≤ m by omega, by simp; omega, by simp, by simp⟩⟩
  · have hk' : q ≤ m := hk
    have k1 : q < A.length := by omega
    have k2 : (q : Int) < A.length := by omega
    have k3 : q < C.length := by omega
    have k4 : (q : Int) < C.length := by omega
    have gA : ∀ h : q < A.length, A[q]'h = A.getD q 0 := fun h => by rw [List.getD_eq_getElem?_getD, List.getElem?_eq_getElem h]; rfl
    have gC : ∀ h : q < C.length, C[q]'h = C.getD q 0 := fun h => by rw [List.getD_eq_getElem?_getD, List.getElem?_eq_getElem h]; rfl
    by_cases e : q = m
    · subst e
      have k5 : ¬ (q : Int) = A.length := by omega
      clear hga hgb hB hB2 ga gb
      generalize A.getD q 0 = ak at gA gX
      generalize C.getD q 0 = ck at gC gY
      simp -implicitDefEqProofs +contextual (maxSteps := 4000000) [-Int.not_le, -Int.not_lt, -Nat.not_le, -Nat.not_lt, -UInt32.toNat_or, -UInt32.toNat_xor, -UInt32.toNat_and, -UInt8.toNat_or, -UInt8.toNat_xor, -UInt8.toNat_and, -UInt32.toNat_add, -UInt8.toNat_add, -List.map_take, -List.map_drop, ← List.map_take, ← List.map_drop, -List.length_take, -List.length_drop, -List.map_replicate, rep_pY0, rep_pB0, rep_pI0, e_law09_SegmentIll.eq_1, Tryd.results9, h_utf_Pieces, Ok_utf_Pieces, h_utf_Bytes, Ok_utf_Bytes, h_ref07_Table, Ok_ref07_Table, h_segment_Of, Ok_segment_Of, k1, k2, k3, k4, k5, d', d2, djx, djy, gX, gY, gA, gC]
      exact ⟨by decide +kernel, by decide +kernel, by unfold fits; omega, fun _ => ⟨j + 1, q, ⟨by omega, nxt⟩, by omega, rfl, by omega⟩⟩
    · have lt := pair_get hAp (show q < m by omega) (by omega)
      have ne : ¬ A.getD q 0 = A.getD m 0 := by omega
      clear lt hga hgb hB hB2 ga gb gC gY
      generalize A.getD q 0 = ak at gA ne
      generalize A.getD m 0 = am at gX ne
      simp -implicitDefEqProofs +contextual (maxSteps := 4000000) [-Int.not_le, -Int.not_lt, -Nat.not_le, -Nat.not_lt, -UInt32.toNat_or, -UInt32.toNat_xor, -UInt32.toNat_and, -UInt8.toNat_or, -UInt8.toNat_xor, -UInt8.toNat_and, -UInt32.toNat_add, -UInt8.toNat_add, -List.map_take, -List.map_drop, ← List.map_take, ← List.map_drop, -List.length_take, -List.length_drop, -List.map_replicate, rep_pY0, rep_pB0, rep_pI0, e_law09_SegmentIll.eq_1, Tryd.results9, h_utf_Pieces, Ok_utf_Pieces, h_utf_Bytes, Ok_utf_Bytes, h_ref07_Table, Ok_ref07_Table, h_segment_Of, Ok_segment_Of, k1, k2, d', djx, gX, gA, ne]
      exact ⟨by decide +kernel, by unfold fits; omega, fun _ => ⟨some (q + 1), show q + 1 ≤ m by omega, by simp; omega, by simp, by simp⟩⟩
theorem law_law09_SegmentIll_eq (t : Tab) (w : wfT t) (s : List UInt8) (ws : s.length ≤ maxLen) (zs : s.length ≤ reachBytes) : g_law09_SegmentIll [pT t, pS s] = some (pB true, []) :=
  Ok_eq (by
    rw [Ok_law09_SegmentIll]
    have h := reachBytes_lt
    exact ⟨⟨wide_wf w, by omega⟩, rfl⟩)

end Go.V
