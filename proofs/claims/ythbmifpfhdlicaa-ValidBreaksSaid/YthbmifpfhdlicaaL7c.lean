/- A part of this seat's proofs: contracts of functions, or what these lean on. No condition. -/
import Derived.Test.YthbmifpfhdlicaaA24
import Derived.Test.YthbmifpfhdlicaaA6
import Derived.Test.YthbmifpfhdlicaaP13
import Derived.Test.YthbmifpfhdlicaaP6
import Derived.Test.YthbmifpfhdlicaaW6
namespace Go.V
open Go.Proofs
set_option maxRecDepth 8000
set_option linter.unusedSimpArgs false
set_option linter.unusedVariables false
abbrev oP (t : Tab) : PV := .ptr true [pI t.classes, tBand t.bands, tII t.next, tB t.brk]
def e_law07_ValidBreaks : Tab × UInt8 → List PV := fun (t, n) => [pT t, pY n]
noncomputable def g_law07_ValidBreaks : List PV → Option (PV × List PV) := spec e_law07_ValidBreaks (fun (t, n) => wide t) fun (t, n) => (pB true, [])
theorem e_law07_ValidBreaks_inj (a b : Tab × UInt8) (h : e_law07_ValidBreaks a = e_law07_ValidBreaks b) : a = b := by
  obtain ⟨⟨t1a, t1b, t1c, t1d⟩, n1⟩ := a; obtain ⟨⟨t2a, t2b, t2c, t2d⟩, n2⟩ := b; simp [e_law07_ValidBreaks, map_pI_inj, map_pB_inj, map_pY_inj, map_pBand_inj, map_sI_inj, Int.natCast_inj, UInt8.toNat_inj, UInt32.toNat_inj] at h; first | exact h | (simp [h]; done) | exact UInt32.toNat_inj.1 (by omega) | exact UInt8.toNat_inj.1 (by omega) | (simp only [Prod.mk.injEq, ← UInt8.toNat_inj, ← UInt32.toNat_inj] at *; omega) | grind
theorem Ok_law07_ValidBreaks {t : Tab} {n : UInt8} {K : PV × List PV → Prop} : Ok (g_law07_ValidBreaks [pT t, pY n]) K = ((wide t) ∧ K (pB true, [])) := Ok_spec e_law07_ValidBreaks_inj (t, n)
set_option maxHeartbeats 8000000 in
theorem impl_law07_ValidBreaks {tbl : Tbl} {G : Nat → Option (List PV)} (hT : Tb tbl G) (h_keep_OwnTable : tbl 26 = g_keep_OwnTable) (h_valid_Alike : tbl 34 = g_valid_Alike) (h_valid_Table : tbl 35 = g_valid_Table) (h_ref07_Table : tbl 36 = g_ref07_Table) (h_w : tbl 33 = gTrue) : Impl Try.prog G 10 (g_law07_ValidBreaks) := by
  refine impl_p (E := En tbl G 86 k_law07_ValidBreaks []) (c := _) hT mixed Try.func10 rfl rfl (fun a => by simp [e_law07_ValidBreaks, pinned.eq_1, pinned.eq_2, PV.isMut.eq_1, PV.isMut.eq_2]) ?_
  rintro ⟨t, n⟩ hok
  refine ⟨by simp [e_law07_ValidBreaks], ?_⟩
  replace hok : wide t := hok
  have hw : gTrue [] = some (pB true, []) := rfl
  have hwd := hok
  by_cases hV : validE t = 0
  case neg =>
    simp -implicitDefEqProofs +contextual (maxSteps := 4000000) [-Int.not_le, -Int.not_lt, -Nat.not_le, -Nat.not_lt, -UInt32.toNat_or, -UInt32.toNat_xor, -UInt32.toNat_and, -UInt8.toNat_or, -UInt8.toNat_xor, -UInt8.toNat_and, -UInt32.toNat_add, -UInt8.toNat_add, -List.map_take, -List.map_drop, ← List.map_take, ← List.map_drop, -List.length_take, -List.length_drop, -List.map_replicate, rep_pY0, rep_pB0, rep_pI0, e_law07_ValidBreaks.eq_1, Try.results10, h_keep_OwnTable, Ok_keep_OwnTable, h_valid_Alike, Ok_valid_Alike, h_valid_Table, Ok_valid_Table, h_ref07_Table, Ok_ref07_Table, h_w, hw, hwd, hV]
  have hv := validE_iff.1 hV
  have hC := hv.cnt
  have hsm := hC.small
  have hok := hsm
  unfold small at hok
  have h5 := hC.n
  have hk := hC.k
  simp -implicitDefEqProofs +contextual (maxSteps := 4000000) [-Int.not_le, -Int.not_lt, -Nat.not_le, -Nat.not_lt, -UInt32.toNat_or, -UInt32.toNat_xor, -UInt32.toNat_and, -UInt8.toNat_or, -UInt8.toNat_xor, -UInt8.toNat_and, -UInt32.toNat_add, -UInt8.toNat_add, -List.map_take, -List.map_drop, ← List.map_take, ← List.map_drop, -List.length_take, -List.length_drop, -List.map_replicate, rep_pY0, rep_pB0, rep_pI0, e_law07_ValidBreaks.eq_1, Try.results10, h_keep_OwnTable, Ok_keep_OwnTable, h_valid_Alike, Ok_valid_Alike, h_valid_Table, Ok_valid_Table, h_ref07_Table, Ok_ref07_Table, h_w, hw, hwd, hsm, hV]
  refine ⟨by decide +kernel, ?_⟩
  refine loopu (fun s => s ≤ t.brk.length)
    (fun s => [(5, .ptr true [pI t.classes, tBand t.bands, tII t.next, tB (negTo t.brk s)]), (7, pI s)])
    (fun s => t.brk.length - s) ?_ (s := 0) ?_ (by simp)
  rotate_left
  · simp [negTo]
  intro s hs
  have hnl : (negTo t.brk s).length = t.brk.length := negTo_len
  by_cases hlt : s < t.brk.length
  · have hg : (negTo t.brk s)[s]'(by rw [hnl]; exact hlt) = t.brk[s] := by
      have := negTo_get (s := s) hlt
      rw [if_neg (by omega), List.getElem?_eq_getElem (by rw [hnl]; exact hlt)] at this
      exact Option.some.inj this
    simp -implicitDefEqProofs +contextual (maxSteps := 4000000) [-Int.not_le, -Int.not_lt, -Nat.not_le, -Nat.not_lt, -UInt32.toNat_or, -UInt32.toNat_xor, -UInt32.toNat_and, -UInt8.toNat_or, -UInt8.toNat_xor, -UInt8.toNat_and, -UInt32.toNat_add, -UInt8.toNat_add, -List.map_take, -List.map_drop, ← List.map_take, ← List.map_drop, -List.length_take, -List.length_drop, -List.map_replicate, rep_pY0, rep_pB0, rep_pI0, e_law07_ValidBreaks.eq_1, Try.results10, h_keep_OwnTable, Ok_keep_OwnTable, h_valid_Alike, Ok_valid_Alike, h_valid_Table, Ok_valid_Table, h_ref07_Table, Ok_ref07_Table, hlt, hnl, hg]
    refine ⟨by decide +kernel, by unfold fits; omega, fun _ => ⟨s + 1, by omega, by omega, ?_, by omega⟩⟩
    rw [← List.map_set, negTo_succ hlt]
  rw [negTo_all (show t.brk.length ≤ s by omega)]
  have hpos : (0 : Int) < t.brk.length := by omega
  obtain ⟨k, hkk, hkl⟩ : ∃ k : Nat, (n.toNat : Int) % t.brk.length = k ∧ k < t.brk.length := by
    have h1 := Int.emod_nonneg (n.toNat : Int) (show (t.brk.length : Int) ≠ 0 by omega)
    have h2 := Int.emod_lt_of_pos (n.toNat : Int) hpos
    exact ⟨((n.toNat : Int) % t.brk.length).toNat, by omega, by omega⟩
  simp -implicitDefEqProofs +contextual (maxSteps := 4000000) [-Int.not_le, -Int.not_lt, -Nat.not_le, -Nat.not_lt, -UInt32.toNat_or, -UInt32.toNat_xor, -UInt32.toNat_and, -UInt8.toNat_or, -UInt8.toNat_xor, -UInt8.toNat_and, -UInt32.toNat_add, -UInt8.toNat_add, -List.map_take, -List.map_drop, ← List.map_take, ← List.map_drop, -List.length_take, -List.length_drop, -List.map_replicate, rep_pY0, rep_pB0, rep_pI0, e_law07_ValidBreaks.eq_1, Try.results10, h_keep_OwnTable, Ok_keep_OwnTable, h_valid_Alike, Ok_valid_Alike, h_valid_Table, Ok_valid_Table, h_ref07_Table, Ok_ref07_Table, hlt, hkk, hkl, hpos]
  refine ⟨by omega, fun _ => ⟨by decide +kernel, ?_⟩⟩
  have hsl : (t.brk.set k (!t.brk[k])).length = t.next.length := by rw [List.length_set]; exact hk
  have hml : (t.brk.map (!·)).length = t.next.length := by rw [List.length_map]; exact hk
  have hsmV : small (t.withB (t.brk.set k (!t.brk[k]))) := ⟨⟨hok.1.1, hok.1.2.1, by simp only [Tab.withB, hsl]; omega⟩, hok.2⟩
  have hsmU : small (t.withB (t.brk.map (!·))) := ⟨⟨hok.1.1, hok.1.2.1, by simp only [Tab.withB, hml]; omega⟩, hok.2⟩
  have hwdV := wide_of hsmV
  have hwdU := wide_of hsmU
  have hCV := cnt_withB hC hsl
  have hVl : (t.withB (t.brk.set k (!t.brk[k]))).next.length = t.next.length := rfl
  have hVn : nxtV (t.withB (t.brk.set k (!t.brk[k]))) = true := hv.nxt
  have hVE := validE_withB hv hsl
  have hUE := valid_neg hv
  have hal : ∀ a b : Nat, a < t.next.length → b < t.next.length → alkV (t.withB (t.brk.set k (!t.brk[k]))) a b = alk (t.withB (t.brk.set k (!t.brk[k]))) a b := fun a b ha hb => by
    unfold alkV; rw [cntV_iff.2 hCV, hVn, inR_iff.2 (by omega), inR_iff.2 (by omega)]; simp
  have hset : (t.brk.map pB).set k (pB (!t.brk[k])) = (t.withB (t.brk.set k (!t.brk[k]))).brk.map pB := by rw [← List.map_set]; rfl
  rw [hset]
  refine loopu (fun (x : Nat × Bool) => x.1 ≤ t.next.length ∧ (x.2 = true ↔ ∃ a' b', a' < x.1 ∧ b' < a' ∧ alk (t.withB (t.brk.set k (!t.brk[k]))) a' b' = true))
    (fun x => [(5, oP (t.withB (t.brk.map (!·)))), (6, oP (t.withB (t.brk.set k (!t.brk[k])))), (9, pB x.2), (10, pI x.1)])
    (fun x => t.next.length - x.1) ?_ (s := (0, false)) rfl (by simp)
  generalize hV' : t.withB (t.brk.set k (!t.brk[k])) = V at *
  generalize hU' : t.withB (t.brk.map (!·)) = U at *
  rintro ⟨a, al⟩ ⟨ha, hal1⟩
  simp only at ha hal1
  by_cases hat : a < t.next.length
  · simp -implicitDefEqProofs +contextual (maxSteps := 4000000) [-Int.not_le, -Int.not_lt, -Nat.not_le, -Nat.not_lt, -UInt32.toNat_or, -UInt32.toNat_xor, -UInt32.toNat_and, -UInt8.toNat_or, -UInt8.toNat_xor, -UInt8.toNat_and, -UInt32.toNat_add, -UInt8.toNat_add, -List.map_take, -List.map_drop, ← List.map_take, ← List.map_drop, -List.length_take, -List.length_drop, -List.map_replicate, rep_pY0, rep_pB0, rep_pI0, e_law07_ValidBreaks.eq_1, Try.results10, h_keep_OwnTable, Ok_keep_OwnTable, h_valid_Alike, Ok_valid_Alike, h_valid_Table, Ok_valid_Table, h_ref07_Table, Ok_ref07_Table, hVl, hat]
    refine loopu (fun (x : Nat × Bool) => x.1 ≤ a ∧ (x.2 = true ↔ (∃ a' b', a' < a ∧ b' < a' ∧ alk V a' b' = true) ∨ ∃ b', b' < x.1 ∧ alk V a b' = true))
      (fun x => [(9, pB x.2), (11, pI x.1)])
      (fun x => a - x.1) ?_ (s := (0, al)) rfl (by simp [hal1])
    rintro ⟨b, bl⟩ ⟨hb, hbl⟩
    simp only at hb hbl
    by_cases hba : b < a
    · have e := hal a b hat (by omega)
      cases bl
      · simp -implicitDefEqProofs +contextual (maxSteps := 4000000) [-Int.not_le, -Int.not_lt, -Nat.not_le, -Nat.not_lt, -UInt32.toNat_or, -UInt32.toNat_xor, -UInt32.toNat_and, -UInt8.toNat_or, -UInt8.toNat_xor, -UInt8.toNat_and, -UInt32.toNat_add, -UInt8.toNat_add, -List.map_take, -List.map_drop, ← List.map_take, ← List.map_drop, -List.length_take, -List.length_drop, -List.map_replicate, rep_pY0, rep_pB0, rep_pI0, e_law07_ValidBreaks.eq_1, Try.results10, h_keep_OwnTable, Ok_keep_OwnTable, h_valid_Alike, Ok_valid_Alike, h_valid_Table, Ok_valid_Table, h_ref07_Table, Ok_ref07_Table, hba, hwdV, e]
        have hno := mt hbl.2 (by decide)
        refine ⟨by unfold fits; omega, fun _ => ⟨b + 1, ?_⟩⟩
        cases h : alk V a b
        · refine .inl ⟨⟨by omega, fun x hx y hy => ?_, fun x hx => ?_⟩, by omega, rfl, by omega⟩
          · rw [← Bool.not_eq_true]; exact fun e => hno (.inl ⟨x, y, hx, hy, e⟩)
          · rcases (show x < b ∨ x = b by omega) with k | rfl
            · rw [← Bool.not_eq_true]; exact fun e => hno (.inr ⟨x, k, e⟩)
            · exact h
        · exact .inr ⟨⟨by omega, .inr ⟨b, by omega, h⟩⟩, by omega, rfl, by omega⟩
      · simp -implicitDefEqProofs +contextual (maxSteps := 4000000) [-Int.not_le, -Int.not_lt, -Nat.not_le, -Nat.not_lt, -UInt32.toNat_or, -UInt32.toNat_xor, -UInt32.toNat_and, -UInt8.toNat_or, -UInt8.toNat_xor, -UInt8.toNat_and, -UInt32.toNat_add, -UInt8.toNat_add, -List.map_take, -List.map_drop, ← List.map_take, ← List.map_drop, -List.length_take, -List.length_drop, -List.map_replicate, rep_pY0, rep_pB0, rep_pI0, e_law07_ValidBreaks.eq_1, Try.results10, h_keep_OwnTable, Ok_keep_OwnTable, h_valid_Alike, Ok_valid_Alike, h_valid_Table, Ok_valid_Table, h_ref07_Table, Ok_ref07_Table, hba, hwdV, e]
        refine ⟨by unfold fits; omega, fun _ => ⟨b + 1, ⟨by omega, ?_⟩, by omega, by omega⟩⟩
        rcases hbl.1 rfl with ⟨x, y, hx, hy, e⟩ | ⟨y, hy, e⟩
        · exact .inl ⟨x, hx, y, hy, e⟩
        · exact .inr ⟨y, by omega, e⟩
    · simp -implicitDefEqProofs +contextual (maxSteps := 4000000) [-Int.not_le, -Int.not_lt, -Nat.not_le, -Nat.not_lt, -UInt32.toNat_or, -UInt32.toNat_xor, -UInt32.toNat_and, -UInt8.toNat_or, -UInt8.toNat_xor, -UInt8.toNat_and, -UInt32.toNat_add, -UInt8.toNat_add, -List.map_take, -List.map_drop, ← List.map_take, ← List.map_drop, -List.length_take, -List.length_drop, -List.map_replicate, rep_pY0, rep_pB0, rep_pI0, e_law07_ValidBreaks.eq_1, Try.results10, h_keep_OwnTable, Ok_keep_OwnTable, h_valid_Alike, Ok_valid_Alike, h_valid_Table, Ok_valid_Table, h_ref07_Table, Ok_ref07_Table, hba]
      refine ⟨by unfold fits; omega, fun _ => ⟨a + 1, ?_⟩⟩
      cases bl
      · have hno := mt hbl.2 (by decide)
        refine .inl ⟨⟨by omega, fun x hx y hy => ?_⟩, by omega, rfl, by omega⟩
        rw [← Bool.not_eq_true]
        rcases (show x < a ∨ x = a by omega) with k | rfl
        · exact fun e => hno (.inl ⟨x, y, k, hy, e⟩)
        · exact fun e => hno (.inr ⟨y, by omega, e⟩)
      · refine .inr ⟨⟨by omega, ?_⟩, by omega, rfl, by omega⟩
        rcases hbl.1 rfl with ⟨x, y, hx, hy, e⟩ | ⟨y, hy, e⟩
        · exact ⟨x, by omega, y, hy, e⟩
        · exact ⟨a, by omega, y, by omega, e⟩
  cases al
  · simp -implicitDefEqProofs +contextual (maxSteps := 4000000) [-Int.not_le, -Int.not_lt, -Nat.not_le, -Nat.not_lt, -UInt32.toNat_or, -UInt32.toNat_xor, -UInt32.toNat_and, -UInt8.toNat_or, -UInt8.toNat_xor, -UInt8.toNat_and, -UInt32.toNat_add, -UInt8.toNat_add, -List.map_take, -List.map_drop, ← List.map_take, ← List.map_drop, -List.length_take, -List.length_drop, -List.map_replicate, rep_pY0, rep_pB0, rep_pI0, e_law07_ValidBreaks.eq_1, Try.results10, h_keep_OwnTable, Ok_keep_OwnTable, h_valid_Alike, Ok_valid_Alike, h_valid_Table, Ok_valid_Table, h_ref07_Table, Ok_ref07_Table, hVl, hat, h_w, hw, hwdU, hwdV, hVE, hUE]
    have hno := mt hal1.2 (by decide)
    refine pairsV_iff.2 fun x y hx hy => ?_
    rw [Bool.not_eq_true', ← Bool.not_eq_true]
    exact fun e => hno ⟨x, y, by omega, hy, e⟩
  · simp -implicitDefEqProofs +contextual (maxSteps := 4000000) [-Int.not_le, -Int.not_lt, -Nat.not_le, -Nat.not_lt, -UInt32.toNat_or, -UInt32.toNat_xor, -UInt32.toNat_and, -UInt8.toNat_or, -UInt8.toNat_xor, -UInt8.toNat_and, -UInt32.toNat_add, -UInt8.toNat_add, -List.map_take, -List.map_drop, ← List.map_take, ← List.map_drop, -List.length_take, -List.length_drop, -List.map_replicate, rep_pY0, rep_pB0, rep_pI0, e_law07_ValidBreaks.eq_1, Try.results10, h_keep_OwnTable, Ok_keep_OwnTable, h_valid_Alike, Ok_valid_Alike, h_valid_Table, Ok_valid_Table, h_ref07_Table, Ok_ref07_Table, hVl, hat, h_w, hw, hwdU, hwdV, hVE, hUE]
    obtain ⟨x, y, hx, hy, e⟩ := hal1.1 rfl
    exact pairsV_no (show x < V.next.length by omega) hy (by rw [e]; rfl)
theorem law_law07_ValidBreaks_eq (t : Tab) (w : wfT t) (n : UInt8) (_ : True) : g_law07_ValidBreaks [pT t, pY n] = some (pB true, []) :=
  Ok_eq (by rw [Ok_law07_ValidBreaks]; exact ⟨wfT_len w, rfl⟩)

end Go.V
