/- A part of the proof of TableCodes: contracts of functions, or what these lean on. No condition. -/
import Derived.Test.YthbmifpfhdlicaaP6
import Derived.Test.YthbmifpfhdlicaaA14
import Derived.Test.YthbmifpfhdlicaaA15
import Derived.Test.YthbmifpfhdlicaaA12
import Derived.Test.YthbmifpfhdlicaaA4
namespace Go.V
open Go.Proofs
set_option maxRecDepth 8000
set_option linter.unusedSimpArgs false
set_option linter.unusedVariables false
theorem may_no {t : Tab} (h : ¬ May t) : encL t = [] ∧ (¬ May t) := ⟨by unfold encL; rw [if_neg h], h⟩
theorem may_iff {t : Tab} : May t ↔ ((1 ≤ t.classes ∧ t.classes ≤ 255) ∧ (1 ≤ t.next.length ∧ t.next.length ≤ 255) ∧ t.brk.length = t.next.length ∧ t.bands.length ≤ 255) ∧ (∀ x ∈ t.bands, bandOk x = true) ∧ ∀ x ∈ t.next, rowOk t.classes x = true := by
  constructor
  · intro h; exact ⟨h.counts, h.2.1.h, h.2.2.h⟩
  · rintro ⟨⟨h1, h2, h3, h4⟩, h5, h6⟩
    exact ⟨⟨inR_iff.2 h1, inR_iff.2 (by omega), by omega, by omega⟩, ⟨h5⟩, ⟨h6⟩⟩
theorem bad_band {t : Tab} {i : Nat} (hi : i < t.bands.length) (h : ¬ ((0 ≤ t.bands[i].1 ∧ t.bands[i].1 ≤ 16777215) ∧ inR t.bands[i].2 0 255 = true)) : ¬ May t := fun hM => by
  have hb := hM.2.1.at hi
  simp only [bandOk, Bool.and_eq_true] at hb
  exact h ⟨inR_iff.1 hb.1, hb.2⟩
theorem bad_row {t : Tab} {s : Nat} (hs : s < t.next.length) (h : ¬ (t.next[s].length : Int) = t.classes) : ¬ May t := fun hM => h (hM.rows _ (List.getElem_mem hs)).1
theorem bad_cell {t : Tab} {s c : Nat} (hs : s < t.next.length) (hc : c < t.next[s].length) (h : inR t.next[s][c] 0 255 = false) : ¬ May t := fun hM => by
  have := (hM.rows _ (List.getElem_mem hs)).2 _ (List.getElem_mem hc)
  rw [← Bool.not_eq_true, inR_iff] at h
  exact h this
theorem enc2_len' {t : Tab} {s : Nat} (h1 : 1 ≤ t.classes ∧ t.classes ≤ 255) (h2 : t.next.length ≤ 255) (h3 : t.bands.length ≤ 255) (hr : ∀ x ∈ t.next.take s, rowOk t.classes x = true) : (enc2 t s).length ≤ 7 + 4 * 255 + 255 * 255 := by
  unfold enc2
  rw [List.length_append, List.length_append, flat4, flatR (n := t.classes.toNat) (fun x hx => by have := hr x hx; simp only [rowOk, Bool.and_eq_true, decide_eq_true_eq] at this; omega), List.length_take]
  simp only [hdL, List.length_cons, List.length_nil]
  have h4 : t.classes.toNat * min s t.next.length ≤ 255 * 255 := Nat.mul_le_mul (by omega) (by omega)
  omega
def e_ref06_Encode : Tab → List PV := fun t => [pT t]
noncomputable def g_ref06_Encode : List PV → Option (PV × List PV) := spec e_ref06_Encode (fun t => small t) fun t => (.tup [tY (encL t), pB (decide (May t))], [])
theorem e_ref06_Encode_inj (a b : Tab) (h : e_ref06_Encode a = e_ref06_Encode b) : a = b := by
  obtain ⟨t1a, t1b, t1c, t1d⟩ := a; obtain ⟨t2a, t2b, t2c, t2d⟩ := b; simp [e_ref06_Encode, map_pI_inj, map_pB_inj, map_pY_inj, map_pBand_inj, map_sI_inj, Int.natCast_inj, UInt8.toNat_inj, UInt32.toNat_inj] at h; first | exact h | (simp [h]; done) | exact UInt32.toNat_inj.1 (by omega) | exact UInt8.toNat_inj.1 (by omega) | (simp only [Prod.mk.injEq, ← UInt8.toNat_inj, ← UInt32.toNat_inj] at *; omega) | grind
theorem Ok_ref06_Encode {t : Tab} {K : PV × List PV → Prop} : Ok (g_ref06_Encode [pT t]) K = ((small t) ∧ K (.tup [tY (encL t), pB (decide (May t))], [])) := Ok_spec e_ref06_Encode_inj t
set_option maxHeartbeats 4000000 in
theorem impl_ref06_Encode {tbl : Tbl} {G : Nat → Option (List PV)} (hT : Tb tbl G) (h_ref05_Put : tbl 31 = g_ref05_Put) (h_ref05_Sum : tbl 32 = g_ref05_Sum) (h_ref06_byteOf : tbl 63 = g_ref06_byteOf) (h_ref05_Bits : tbl 64 = g_ref05_Bits) : Impl Try.prog G 27 (g_ref06_Encode) := by
  refine impl_p (E := En tbl G 139 k_ref06_Encode []) (c := _) hT mixed Try.func27 rfl rfl (fun a => by simp [e_ref06_Encode, pinned.eq_1, pinned.eq_2, PV.isMut.eq_1, PV.isMut.eq_2]) ?_
  rintro t hok
  refine ⟨by simp [e_ref06_Encode], ?_⟩
  replace hok : small t := hok
  unfold small at hok
  by_cases e1 : t.classes < 1
  · obtain ⟨hN, hM⟩ := may_no (t := t) (fun h => by have := h.counts; omega)
    simp -implicitDefEqProofs +contextual (maxSteps := 4000000) [-Int.not_le, -Int.not_lt, -Nat.not_le, -Nat.not_lt, -UInt32.toNat_or, -UInt32.toNat_xor, -UInt32.toNat_and, -UInt8.toNat_or, -UInt8.toNat_xor, -UInt8.toNat_and, -UInt32.toNat_add, -UInt8.toNat_add, -List.map_take, -List.map_drop, ← List.map_take, ← List.map_drop, -List.length_take, -List.length_drop, -List.map_replicate, rep_pY0, rep_pB0, rep_pI0, e_ref06_Encode.eq_1, Try.results27, h_ref05_Put, Ok_ref05_Put, h_ref05_Sum, Ok_ref05_Sum, h_ref06_byteOf, Ok_ref06_byteOf, h_ref05_Bits, Ok_ref05_Bits, hM, hN, e1]
  by_cases e2 : 255 < t.classes
  · obtain ⟨hN, hM⟩ := may_no (t := t) (fun h => by have := h.counts; omega)
    simp -implicitDefEqProofs +contextual (maxSteps := 4000000) [-Int.not_le, -Int.not_lt, -Nat.not_le, -Nat.not_lt, -UInt32.toNat_or, -UInt32.toNat_xor, -UInt32.toNat_and, -UInt8.toNat_or, -UInt8.toNat_xor, -UInt8.toNat_and, -UInt32.toNat_add, -UInt8.toNat_add, -List.map_take, -List.map_drop, ← List.map_take, ← List.map_drop, -List.length_take, -List.length_drop, -List.map_replicate, rep_pY0, rep_pB0, rep_pI0, e_ref06_Encode.eq_1, Try.results27, h_ref05_Put, Ok_ref05_Put, h_ref05_Sum, Ok_ref05_Sum, h_ref06_byteOf, Ok_ref06_byteOf, h_ref05_Bits, Ok_ref05_Bits, hM, hN, e1, e2]
  by_cases e3 : (t.next.length : Int) < 1
  · obtain ⟨hN, hM⟩ := may_no (t := t) (fun h => by have := h.counts; omega)
    simp -implicitDefEqProofs +contextual (maxSteps := 4000000) [-Int.not_le, -Int.not_lt, -Nat.not_le, -Nat.not_lt, -UInt32.toNat_or, -UInt32.toNat_xor, -UInt32.toNat_and, -UInt8.toNat_or, -UInt8.toNat_xor, -UInt8.toNat_and, -UInt32.toNat_add, -UInt8.toNat_add, -List.map_take, -List.map_drop, ← List.map_take, ← List.map_drop, -List.length_take, -List.length_drop, -List.map_replicate, rep_pY0, rep_pB0, rep_pI0, e_ref06_Encode.eq_1, Try.results27, h_ref05_Put, Ok_ref05_Put, h_ref05_Sum, Ok_ref05_Sum, h_ref06_byteOf, Ok_ref06_byteOf, h_ref05_Bits, Ok_ref05_Bits, hM, hN, e1, e2, e3]
  by_cases e4 : 255 < (t.next.length : Int)
  · obtain ⟨hN, hM⟩ := may_no (t := t) (fun h => by have := h.counts; omega)
    simp -implicitDefEqProofs +contextual (maxSteps := 4000000) [-Int.not_le, -Int.not_lt, -Nat.not_le, -Nat.not_lt, -UInt32.toNat_or, -UInt32.toNat_xor, -UInt32.toNat_and, -UInt8.toNat_or, -UInt8.toNat_xor, -UInt8.toNat_and, -UInt32.toNat_add, -UInt8.toNat_add, -List.map_take, -List.map_drop, ← List.map_take, ← List.map_drop, -List.length_take, -List.length_drop, -List.map_replicate, rep_pY0, rep_pB0, rep_pI0, e_ref06_Encode.eq_1, Try.results27, h_ref05_Put, Ok_ref05_Put, h_ref05_Sum, Ok_ref05_Sum, h_ref06_byteOf, Ok_ref06_byteOf, h_ref05_Bits, Ok_ref05_Bits, hM, hN, e1, e2, e3, e4]
  by_cases e5 : (t.brk.length : Int) = t.next.length
  case neg =>
    obtain ⟨hN, hM⟩ := may_no (t := t) (fun h => by have := h.counts; omega)
    simp -implicitDefEqProofs +contextual (maxSteps := 4000000) [-Int.not_le, -Int.not_lt, -Nat.not_le, -Nat.not_lt, -UInt32.toNat_or, -UInt32.toNat_xor, -UInt32.toNat_and, -UInt8.toNat_or, -UInt8.toNat_xor, -UInt8.toNat_and, -UInt32.toNat_add, -UInt8.toNat_add, -List.map_take, -List.map_drop, ← List.map_take, ← List.map_drop, -List.length_take, -List.length_drop, -List.map_replicate, rep_pY0, rep_pB0, rep_pI0, e_ref06_Encode.eq_1, Try.results27, h_ref05_Put, Ok_ref05_Put, h_ref05_Sum, Ok_ref05_Sum, h_ref06_byteOf, Ok_ref06_byteOf, h_ref05_Bits, Ok_ref05_Bits, hM, hN, e1, e2, e3, e4, e5]
  by_cases e6 : 255 < (t.bands.length : Int)
  · obtain ⟨hN, hM⟩ := may_no (t := t) (fun h => by have := h.counts; omega)
    simp -implicitDefEqProofs +contextual (maxSteps := 4000000) [-Int.not_le, -Int.not_lt, -Nat.not_le, -Nat.not_lt, -UInt32.toNat_or, -UInt32.toNat_xor, -UInt32.toNat_and, -UInt8.toNat_or, -UInt8.toNat_xor, -UInt8.toNat_and, -UInt32.toNat_add, -UInt8.toNat_add, -List.map_take, -List.map_drop, ← List.map_take, ← List.map_drop, -List.length_take, -List.length_drop, -List.map_replicate, rep_pY0, rep_pB0, rep_pI0, e_ref06_Encode.eq_1, Try.results27, h_ref05_Put, Ok_ref05_Put, h_ref05_Sum, Ok_ref05_Sum, h_ref06_byteOf, Ok_ref06_byteOf, h_ref05_Bits, Ok_ref05_Bits, hM, hN, e1, e2, e3, e4, e5, e6]
  simp -implicitDefEqProofs +contextual (maxSteps := 4000000) [-Int.not_le, -Int.not_lt, -Nat.not_le, -Nat.not_lt, -UInt32.toNat_or, -UInt32.toNat_xor, -UInt32.toNat_and, -UInt8.toNat_or, -UInt8.toNat_xor, -UInt8.toNat_and, -UInt32.toNat_add, -UInt8.toNat_add, -List.map_take, -List.map_drop, ← List.map_take, ← List.map_drop, -List.length_take, -List.length_drop, -List.map_replicate, rep_pY0, rep_pB0, rep_pI0, e_ref06_Encode.eq_1, Try.results27, h_ref05_Put, Ok_ref05_Put, h_ref05_Sum, Ok_ref05_Sum, h_ref06_byteOf, Ok_ref06_byteOf, h_ref05_Bits, Ok_ref05_Bits, e1, e2, e3, e4, e5, e6]
  (repeat' (first | exact (show drawD _ _ = true by decide +kernel) | exact (show _ = List.range' _ _ from rfl) | with_reducible refine and_imp_self' ?_ ?_ | with_reducible refine And.intro ?_ ?_ | with_reducible refine @Exists.intro Nat _ (i + 1) ?_ | with_reducible refine Exists.intro (show (_ : Nat) < _ by omega) ?_ | intro _)) <;> (try (first | omega | (unfold fits; omega) | assumption | with_reducible rfl | (simp only [inR_iff, inR_not, fits_iff] at *; omega)))
  refine loopo (fun i => i ≤ t.bands.length ∧ ∀ x ∈ t.bands.take i, bandOk x = true)
    (fun i => [(1, .val (.ptr true [pI t.classes, sBand t.bands, sII t.next, sB t.brk]), 0, 0), (4, .val (pI t.next.length), 0, 0), (5, .val (tY (enc1 t i)), 0, 0), (6, .val (pI i), 0, 0)])
    (fun i => t.bands.length - i) ?_ (s := 0) ?_ ?_
  rotate_left
  · simp [enc1, hdL]
  · simp
  rintro i ⟨hi, hz⟩
  have hle := enc1_len (t := t) (i := i)
  simp -implicitDefEqProofs +contextual (maxSteps := 4000000) [-Int.not_le, -Int.not_lt, -Nat.not_le, -Nat.not_lt, -UInt32.toNat_or, -UInt32.toNat_xor, -UInt32.toNat_and, -UInt8.toNat_or, -UInt8.toNat_xor, -UInt8.toNat_and, -UInt32.toNat_add, -UInt8.toNat_add, -List.map_take, -List.map_drop, ← List.map_take, ← List.map_drop, -List.length_take, -List.length_drop, -List.map_replicate, rep_pY0, rep_pB0, rep_pI0, e_ref06_Encode.eq_1, Try.results27, h_ref05_Put, Ok_ref05_Put, h_ref05_Sum, Ok_ref05_Sum, h_ref06_byteOf, Ok_ref06_byteOf, h_ref05_Bits, Ok_ref05_Bits, List.length_append, putL_len, allOwnL_app]
  refine ⟨fun a => ⟨fun b1 => ⟨fun b2 => ⟨fun b3 => may_no (bad_band a (by rw [b3]; simp)), fun b3 => ⟨⟨by omega, by unfold fits; omega⟩, by omega, fun _ => ⟨by decide +kernel, by unfold fits; omega, fun _ => ⟨i + 1, ⟨by omega, fun x y hx => ?_⟩, by omega, ?_, by omega⟩⟩⟩⟩, fun b2 => may_no (bad_band a (by omega))⟩, fun b1 => may_no (bad_band a (by omega))⟩, fun a => ?_⟩
  · rw [take_succ' a] at hx
    rcases List.mem_append.1 hx with hx | hx
    · exact hz _ hx
    · have e : (x, y) = t.bands[i] := by simpa using hx
      rw [e]
      simp only [bandOk, Bool.and_eq_true, b3, and_true, inR_iff]
      omega
  · rw [enc1_succ a, bandL]; simp
  rw [enc1_end a]
  have hzb : ∀ x ∈ t.bands, bandOk x = true := by rw [List.take_of_length_le (by omega)] at hz; exact hz
  clear hz hle hi
  refine loopo (fun s => s ≤ t.next.length ∧ ∀ x ∈ t.next.take s, rowOk t.classes x = true)
    (fun s => [(1, .val (.ptr true [pI t.classes, sBand t.bands, sII t.next, sB t.brk]), 0, 0), (4, .val (pI t.next.length), 0, 0), (5, .val (tY (enc2 t s)), 0, 0), (8, .val (pI s), 0, 0)])
    (fun s => t.next.length - s) ?_ (s := 0) rfl (by simp)
  rintro s ⟨hs, hr⟩
  simp -implicitDefEqProofs +contextual (maxSteps := 4000000) [-Int.not_le, -Int.not_lt, -Nat.not_le, -Nat.not_lt, -UInt32.toNat_or, -UInt32.toNat_xor, -UInt32.toNat_and, -UInt8.toNat_or, -UInt8.toNat_xor, -UInt8.toNat_and, -UInt32.toNat_add, -UInt8.toNat_add, -List.map_take, -List.map_drop, ← List.map_take, ← List.map_drop, -List.length_take, -List.length_drop, -List.map_replicate, rep_pY0, rep_pB0, rep_pI0, e_ref06_Encode.eq_1, Try.results27, h_ref05_Put, Ok_ref05_Put, h_ref05_Sum, Ok_ref05_Sum, h_ref06_byteOf, Ok_ref06_byteOf, h_ref05_Bits, Ok_ref05_Bits, -List.map_append, ← List.map_append, app_pY1, List.length_append, bitsL_len]
  refine ⟨fun a => ⟨by decide +kernel, fun b1 => may_no (bad_row a b1), fun b1 => ?_⟩, fun a => ?_⟩
  · refine loopo (fun i => i ≤ t.next[s].length ∧ ∀ j (h : j < t.next[s].length), j < i → inR t.next[s][j] 0 255 = true)
      (fun i => [(1, .val (.ptr true [pI t.classes, sBand t.bands, sII t.next, sB t.brk]), 0, 0), (4, .val (pI t.next.length), 0, 0), (5, .val (tY (enc2 t s ++ rowL (t.next[s].take i))), 0, 0), (8, .val (pI s), 0, 0), (9, .val (pI i), 0, 0)])
      (fun i => t.next[s].length - i) ?_ (s := 0) ?_ ?_
    rotate_left
    · simp [rowL]
    · simp
    rintro i ⟨hi, hc⟩
    simp -implicitDefEqProofs +contextual (maxSteps := 4000000) [-Int.not_le, -Int.not_lt, -Nat.not_le, -Nat.not_lt, -UInt32.toNat_or, -UInt32.toNat_xor, -UInt32.toNat_and, -UInt8.toNat_or, -UInt8.toNat_xor, -UInt8.toNat_and, -UInt32.toNat_add, -UInt8.toNat_add, -List.map_take, -List.map_drop, ← List.map_take, ← List.map_drop, -List.length_take, -List.length_drop, -List.map_replicate, rep_pY0, rep_pB0, rep_pI0, e_ref06_Encode.eq_1, Try.results27, h_ref05_Put, Ok_ref05_Put, h_ref05_Sum, Ok_ref05_Sum, h_ref06_byteOf, Ok_ref06_byteOf, h_ref05_Bits, Ok_ref05_Bits, -List.map_append, ← List.map_append, app_pY1, List.length_append]
    have h2 := enc2_len' (t := t) (s := s) (by omega) (by omega) (by omega) hr
    have h3 : (rowL (List.take i t.next[s])).length ≤ 255 := by unfold rowL; rw [List.length_map, List.length_take]; omega
    refine ⟨fun a1 => ⟨a, fun _ => ⟨by omega, fun a3 => ⟨fun b2 => may_no (bad_cell a a3 b2), fun b2 => ⟨by omega, fun _ => ⟨by unfold fits; omega, fun _ => ⟨i + 1, ⟨by omega, fun j hj hj2 => ?_⟩, by omega, ?_, by omega⟩⟩⟩⟩⟩⟩, fun a1 => ⟨by unfold fits; omega, fun _ => ⟨s + 1, ⟨by omega, fun x hx => ?_⟩, by omega, ?_, by omega⟩⟩⟩
    · rcases (show j < i ∨ j = i by omega) with k | rfl
      · exact hc j hj k
      · exact b2
    · congr 2
      rw [rowL, rowL, map_take_succ a3]
    · rw [take_succ' a] at hx
      rcases List.mem_append.1 hx with hx | hx
      · exact hr _ hx
      · obtain rfl : x = t.next[s] := by simpa using hx
        simp only [rowOk, Bool.and_eq_true, decide_eq_true_eq, Bool.not_eq_true', List.any_eq_false]
        refine ⟨b1, fun v hv => ?_⟩
        obtain ⟨j, hj, rfl⟩ := List.getElem_of_mem hv
        simp [hc j hj (by omega)]
    · rw [enc2_succ a, List.take_of_length_le (by omega)]
  · have hM : May t := may_iff.2 ⟨by omega, hzb, by rw [List.take_of_length_le (by omega)] at hr; exact hr⟩
    have e := enc2_end a
    have h2 := enc2_len hM (i := s)
    rw [← List.append_assoc, e]
    exact ⟨by omega, by omega, fun _ => ⟨by omega, by omega, by unfold encL; rw [if_pos hM], hM⟩⟩

end Go.V
