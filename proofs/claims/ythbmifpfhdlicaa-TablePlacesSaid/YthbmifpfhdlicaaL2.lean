/- A part of the proof of TablePlaces: contracts of functions, or what these lean on. No condition. -/
import Derived.Test.YthbmifpfhdlicaaP6
import Derived.Test.YthbmifpfhdlicaaA12
import Derived.Test.YthbmifpfhdlicaaA10
namespace Go.V
open Go.Proofs
set_option maxRecDepth 8000
set_option linter.unusedSimpArgs false
set_option linter.unusedVariables false
theorem largeGo_false {most : Int} : ∀ {l : List (List Int)} {n : Int}, 0 ≤ n → 0 ≤ most → largeGo most l n = false → n + l.length ≤ most ∧ ∀ x ∈ l, (x.length : Int) ≤ most
  | [], n, h, _, hl => by simp [largeGo] at hl; simp; omega
  | x :: xs, n, h, hm, hl => by
    rw [largeGo] at hl
    split at hl
    · have hs : 0 ≤ (if most < (x.length : Int) then most else x.length) := by split <;> omega
      obtain ⟨h1, h2⟩ := largeGo_false (by omega) hm hl
      have h3 : (x.length : Int) ≤ most := by
        by_cases hc : most < (x.length : Int)
        · rw [if_pos hc] at h1; omega
        · omega
      refine ⟨by rw [List.length_cons]; omega, fun y hy => ?_⟩
      rcases List.mem_cons.1 hy with rfl | hy
      · exact h3
      · exact h2 y hy
    · cases hl
theorem largeT_small {t : Tab} (h : largeT t = false) : small t := by
  simp only [largeT, Bool.or_eq_false_iff, decide_eq_false_iff_not] at h
  obtain ⟨⟨h1, h2⟩, h3⟩ := h
  obtain ⟨h4, h5⟩ := largeGo_false (by decide) (by decide) h2
  exact ⟨by omega, fun x hx => by have := h5 x hx; omega⟩
def atB (i : Nat) : Nat := 7 + 4 * i
def atR (t : Tab) (s c : Nat) : Nat := 7 + 4 * t.bands.length + t.classes.toNat * s + c
theorem getE {l : List UInt8} {k : Nat} {x : UInt8} (h : l[k]? = some x) : ∀ hk : k < l.length, l[k] = x := fun hk => by rw [List.getElem?_eq_getElem hk] at h; exact Option.some.inj h
theorem band_bytes {t : Tab} (h : May t) {i : Nat} (hi : i < t.bands.length) : atB i + 3 < (encL t).length ∧ (0 ≤ t.bands[i].1 ∧ t.bands[i].1 ≤ 16777215) ∧ (0 ≤ t.bands[i].2 ∧ t.bands[i].2 ≤ 255) ∧
    (∀ h0 : atB i < (encL t).length, ((encL t)[atB i].toNat : Int) = t.bands[i].1 / 65536 % 256) ∧ (∀ h0 : atB i + 1 < (encL t).length, ((encL t)[atB i + 1].toNat : Int) = t.bands[i].1 / 256 % 256) ∧
    (∀ h0 : atB i + 2 < (encL t).length, ((encL t)[atB i + 2].toNat : Int) = t.bands[i].1 % 256) ∧ ∀ h0 : atB i + 3 < (encL t).length, ((encL t)[atB i + 3].toNat : Int) = t.bands[i].2 := by
  have hb := h.2.1.at hi
  simp only [bandOk, Bool.and_eq_true, inR_iff] at hb
  have hl := encL_len h
  have hl2 := bodyL_len h
  have e0 := getE (encL_b h hi (k := 0) (by decide))
  have e1 := getE (encL_b h hi (k := 1) (by decide))
  have e2 := getE (encL_b h hi (k := 2) (by decide))
  have e3 := getE (encL_b h hi (k := 3) (by decide))
  simp only [Nat.add_zero] at e0
  refine ⟨by unfold atB; omega, by omega, by omega, fun h0 => ?_, fun h0 => ?_, fun h0 => ?_, fun h0 => ?_⟩
  · rw [show (encL t)[atB i] = _ from e0 h0, by8_toNat]
  · rw [show (encL t)[atB i + 1] = _ from e1 h0, by8_toNat]
  · rw [show (encL t)[atB i + 2] = _ from e2 h0, by8_toNat]
  · rw [show (encL t)[atB i + 3] = _ from e3 h0, by8_toNat]; omega
theorem row_byte {t : Tab} (h : May t) {s c : Nat} (hs : s < t.next.length) (hc : (c : Int) < t.classes) : atR t s c < (encL t).length ∧ c < t.next[s].length ∧
    ∀ (h0 : atR t s c < (encL t).length) (h1 : c < t.next[s].length), ((encL t)[atR t s c].toNat : Int) = t.next[s][c] := by
  obtain ⟨hl, hn⟩ := h.rows _ (List.getElem_mem hs)
  have h1 : c < t.next[s].length := by omega
  have e0 := getE (encL_r h hs (k := c) (by omega) h1)
  have h2 := encL_len h
  have h3 := bodyL_len h
  have h4 : t.classes.toNat * (s + 1) ≤ t.classes.toNat * t.next.length := Nat.mul_le_mul_left _ (by omega)
  rw [Nat.mul_add] at h4
  refine ⟨by unfold atR; omega, h1, fun h0 h1 => ?_⟩
  rw [show (encL t)[atR t s c] = _ from e0 h0, by8_small (hn _ (List.getElem_mem h1))]
theorem atR_succ {t : Tab} {s c : Nat} : atR t s (c + 1) = atR t s c + 1 := rfl
theorem atR_next {t : Tab} {s c : Nat} (h : c = t.classes.toNat) : atR t s c = atR t (s + 1) 0 := by unfold atR; rw [h, Nat.mul_add]; omega
theorem bit_byte {t : Tab} (h : May t) {s : Nat} (hs : s < t.brk.length) : atR t t.next.length 0 + s / 8 < (encL t).length ∧ ∀ h0 : atR t t.next.length 0 + s / 8 < (encL t).length,
    decide (((by8 (((encL t)[atR t t.next.length 0 + s / 8].toNat : Int) / 2 ^ (s % 8)) &&& 1).toNat : Int) = 1) = t.brk[s] := by
  have hx : s / 8 < (bitsL t.brk).length := by rw [bitsL_len]; omega
  have h2 := encL_len h
  have h3 := bodyL_len h
  have h4 := h.counts.2.2.1
  rw [bitsL_len] at hx
  have e0 := encL_x h (j := s / 8) (by rw [bitsL_len]; exact hx)
  refine ⟨by unfold atR; omega, fun h0 => ?_⟩
  have hx2 : s / 8 < (bitsL t.brk).length := by rw [bitsL_len]; exact hx
  rw [List.getElem?_eq_getElem hx2] at e0
  rw [bit_test, ← bitsL_bit hs (List.getElem?_eq_getElem hx2)]
  exact congrArg (fun x : UInt8 => x.toNat.testBit (s % 8)) (getE e0 h0)
theorem sum4 {x : UInt32} : ((by32 (((by32 ((by8 ((x.toNat : Int) / 16777216)).toNat : Int)).toNat : Int) * 16777216) + by32 (((by32 ((by8 ((x.toNat : Int) / 65536)).toNat : Int)).toNat : Int) * 65536) +
    by32 (((by32 ((by8 ((x.toNat : Int) / 256)).toNat : Int)).toNat : Int) * 256) + by32 ((by8 (x.toNat : Int)).toNat : Int)).toNat : Int) = x.toNat := by
  have hx := x.toNat_lt
  have b := @by8_toNat
  have w := @by32_toNat
  simp only [UInt32.toNat_add, Int.natCast_emod, Int.natCast_add, b, w]
  omega
theorem wrapU64 {n : Int} (h : 0 ≤ n ∧ n ≤ 18446744073709551615) : IntKind.u64.wrap n = n := by
  simp [IntKind.wrap, IntKind.bits, IntKind.signed]
  omega
theorem atB_succ {i : Nat} : atB (i + 1) = atB i + 4 := by unfold atB; omega
def e_law06_TablePlaces : Tab → List PV := fun t => [pT t]
noncomputable def g_law06_TablePlaces : List PV → Option (PV × List PV) := spec e_law06_TablePlaces (fun t => t.bands.length < 2 ^ 63 ∧ t.next.length < 2 ^ 63 ∧ t.brk.length < 2 ^ 63) fun t => (pB true, [])
theorem e_law06_TablePlaces_inj (a b : Tab) (h : e_law06_TablePlaces a = e_law06_TablePlaces b) : a = b := by
  obtain ⟨t1a, t1b, t1c, t1d⟩ := a; obtain ⟨t2a, t2b, t2c, t2d⟩ := b; simp [e_law06_TablePlaces, map_pI_inj, map_pB_inj, map_pY_inj, map_pBand_inj, map_sI_inj, UInt8.toNat_inj, UInt32.toNat_inj] at h; first | exact h | (simp [h]; done) | exact UInt32.toNat_inj.1 (by omega) | exact UInt8.toNat_inj.1 (by omega) | (simp only [Prod.mk.injEq, ← UInt8.toNat_inj, ← UInt32.toNat_inj] at *; omega) | grind
theorem Ok_law06_TablePlaces {t : Tab} {K : PV × List PV → Prop} : Ok (g_law06_TablePlaces [pT t]) K = ((t.bands.length < 2 ^ 63 ∧ t.next.length < 2 ^ 63 ∧ t.brk.length < 2 ^ 63) ∧ K (pB true, [])) := Ok_spec e_law06_TablePlaces_inj t
set_option maxHeartbeats 8000000 in
theorem impl_law06_TablePlaces {tbl : Tbl} {G : Nat → Option (List PV)} (hT : Tb tbl G) (h_law06_Large : tbl 19 = g_law06_Large) (h_table_Encode : tbl 21 = g_table_Encode) (h_table_Length : tbl 22 = g_table_Length) (h_ref05_Sum : tbl 32 = g_ref05_Sum) (h_w : tbl 20 = gTrue) : Impl Try.prog G 8 (g_law06_TablePlaces) := by
  refine impl_p (E := En tbl G 225 k_law06_TablePlaces []) (c := _) hT mixed Try.func8 rfl rfl (fun a => by simp [e_law06_TablePlaces, pinned.eq_1, pinned.eq_2, PV.isMut.eq_1, PV.isMut.eq_2]) ?_
  rintro t hok
  refine ⟨by simp [e_law06_TablePlaces], ?_⟩
  replace hok : t.bands.length < 2 ^ 63 ∧ t.next.length < 2 ^ 63 ∧ t.brk.length < 2 ^ 63 := hok
  have hw : gTrue [] = some (pB true, []) := rfl
  by_cases hL : largeT t = true
  · simp -implicitDefEqProofs +contextual (maxSteps := 4000000) [-Int.not_le, -Int.not_lt, -Nat.not_le, -Nat.not_lt, -UInt32.toNat_or, -UInt32.toNat_xor, -UInt32.toNat_and, -UInt8.toNat_or, -UInt8.toNat_xor, -UInt8.toNat_and, -UInt32.toNat_add, -UInt8.toNat_add, -List.map_take, -List.map_drop, ← List.map_take, ← List.map_drop, -List.length_take, -List.length_drop, -List.map_replicate, rep_pY0, rep_pB0, rep_pI0, e_law06_TablePlaces.eq_1, Try.results8, h_law06_Large, Ok_law06_Large, h_table_Encode, Ok_table_Encode, h_table_Length, Ok_table_Length, h_ref05_Sum, Ok_ref05_Sum, h_w, hw, hL]
    omega
  have hL' : largeT t = false := by simpa using hL
  have hsm := largeT_small hL'
  by_cases hM : May t
  · obtain ⟨hc, hn, hb, hl⟩ := hM.counts
    have hv := encL_V hM
    have hlen := encL_len hM
    have hbl := bodyL_len hM
    have h11 : ¬ lenV t.classes t.next.length t.bands.length < 11 := by omega
    have h4 := getE (encL_h hM (k := 4) (by decide))
    have h5 := getE (encL_h hM (k := 5) (by decide))
    have h6 := getE (encL_h hM (k := 6) (by decide))
    have ht4 : (encL t).take 4 = [66, 82, 75, 49] := by rw [encL_hd hM]; rfl
    have hq : ((encL t).take 4 == [66, 82, 75, 49]) = true := by rw [ht4]; rfl
    have hs4 : (⟨#[66, 82, 75, 49]⟩ : ByteArray) = str [66, 82, 75, 49] := rfl
    have e4 : ((by8 t.classes).toNat : Int) = t.classes := by8_small (by omega)
    have e5 : ((by8 t.next.length).toNat : Int) = t.next.length := by8_small (by omega)
    have e6 : ((by8 t.bands.length).toNat : Int) = t.bands.length := by8_small (by omega)
    have hlt : (encL t).length < 2 ^ 20 := by
      have : t.classes.toNat * t.next.length ≤ 255 * 255 := Nat.mul_le_mul (by omega) (by omega)
      omega
    have h4le : 4 ≤ (encL t).length := by omega
    simp -implicitDefEqProofs +contextual (maxSteps := 4000000) [-Int.not_le, -Int.not_lt, -Nat.not_le, -Nat.not_lt, -UInt32.toNat_or, -UInt32.toNat_xor, -UInt32.toNat_and, -UInt8.toNat_or, -UInt8.toNat_xor, -UInt8.toNat_and, -UInt32.toNat_add, -UInt8.toNat_add, -List.map_take, -List.map_drop, ← List.map_take, ← List.map_drop, -List.length_take, -List.length_drop, -List.map_replicate, rep_pY0, rep_pB0, rep_pI0, e_law06_TablePlaces.eq_1, Try.results8, h_law06_Large, Ok_law06_Large, h_table_Encode, Ok_table_Encode, h_table_Length, Ok_table_Length, h_ref05_Sum, Ok_ref05_Sum, h_w, hw, hL', hM, hv, h11, h4le, h4, h5, h6, hq, hs4, e4, e5, e6, hsm]
    have h7 : 7 ≤ lenV t.classes t.next.length t.bands.length := by omega
    (repeat' (first | exact (show drawD _ _ = true by decide +kernel) | exact (show _ = List.range' _ _ from rfl) | with_reducible refine and_imp_self' ?_ ?_ | with_reducible refine And.intro ?_ ?_ | with_reducible refine @Exists.intro Nat _ (i + 1) ?_ | with_reducible refine Exists.intro (show (_ : Nat) < _ by omega) ?_ | intro _)) <;> (try (first | omega | (unfold fits; omega) | assumption | with_reducible rfl | (simp only [inR_iff, inR_not, fits_iff] at *; omega)))
    refine loopo (fun i => i ≤ t.bands.length)
      (fun i => [(1, .val (.ptr true [pI t.classes, sBand t.bands, sII t.next, sB t.brk]), 0, 0), (3, .val (tY (encL t)), 0, 0), (5, .val (pI (atB i)), 0, 0), (6, .val (pI i), 0, 0)])
      (fun i => t.bands.length - i) ?_ (s := 0) rfl (by simp)
    intro i hi
    clear h4 h5 h6 hq hs4 ht4 e4 e5 e6
    have tn2 : ((atB i : Int) + 2).toNat = atB i + 2 := by omega
    have tn3 : ((atB i : Int) + 3).toNat = atB i + 3 := by omega
    simp -implicitDefEqProofs +contextual (maxSteps := 4000000) [-Int.not_le, -Int.not_lt, -Nat.not_le, -Nat.not_lt, -UInt32.toNat_or, -UInt32.toNat_xor, -UInt32.toNat_and, -UInt8.toNat_or, -UInt8.toNat_xor, -UInt8.toNat_and, -UInt32.toNat_add, -UInt8.toNat_add, -List.map_take, -List.map_drop, ← List.map_take, ← List.map_drop, -List.length_take, -List.length_drop, -List.map_replicate, rep_pY0, rep_pB0, rep_pI0, e_law06_TablePlaces.eq_1, Try.results8, h_law06_Large, Ok_law06_Large, h_table_Encode, Ok_table_Encode, h_table_Length, Ok_table_Length, h_ref05_Sum, Ok_ref05_Sum, h_w, hw, tn2, tn3]
    refine ⟨fun a => ?_, fun a => ?_⟩
    · obtain ⟨q0, q1, q2, v0, v1, v2, v3⟩ := band_bytes hM a
      have w0 := v0 (by omega)
      have w1 := v1 (by omega)
      have w2 := v2 (by omega)
      have w3 := v3 (by omega)
      (repeat' (first | exact (show drawD _ _ = true by decide +kernel) | exact (show _ = List.range' _ _ from rfl) | with_reducible refine and_imp_self' ?_ ?_ | with_reducible refine And.intro ?_ ?_ | with_reducible refine @Exists.intro Nat _ (i + 1) ?_ | with_reducible refine Exists.intro (show (_ : Nat) < _ by omega) ?_ | intro _)) <;> (try (first | omega | (unfold fits; omega) | assumption | with_reducible rfl | (simp only [inR_iff, inR_not, fits_iff] at *; omega)))
      all_goals (first | (rw [atB_succ]; omega) | skip)
    obtain rfl : i = t.bands.length := by omega
    have e0 : atB t.bands.length = atR t 0 0 := by unfold atB atR; omega
    rw [e0]
    refine loopo (fun s => s ≤ t.next.length)
      (fun s => [(1, .val (.ptr true [pI t.classes, sBand t.bands, sII t.next, sB t.brk]), 0, 0), (3, .val (tY (encL t)), 0, 0), (5, .val (pI (atR t s 0)), 0, 0), (7, .val (pI s), 0, 0)])
      (fun s => t.next.length - s) ?_ (s := 0) rfl (by simp)
    intro s hs
    simp -implicitDefEqProofs +contextual (maxSteps := 4000000) [-Int.not_le, -Int.not_lt, -Nat.not_le, -Nat.not_lt, -UInt32.toNat_or, -UInt32.toNat_xor, -UInt32.toNat_and, -UInt8.toNat_or, -UInt8.toNat_xor, -UInt8.toNat_and, -UInt32.toNat_add, -UInt8.toNat_add, -List.map_take, -List.map_drop, ← List.map_take, ← List.map_drop, -List.length_take, -List.length_drop, -List.map_replicate, rep_pY0, rep_pB0, rep_pI0, e_law06_TablePlaces.eq_1, Try.results8, h_law06_Large, Ok_law06_Large, h_table_Encode, Ok_table_Encode, h_table_Length, Ok_table_Length, h_ref05_Sum, Ok_ref05_Sum, h_w, hw]
    refine ⟨fun a => ?_, fun a => ?_⟩
    · refine loopo (fun c => c ≤ t.classes.toNat)
        (fun c => [(1, .val (.ptr true [pI t.classes, sBand t.bands, sII t.next, sB t.brk]), 0, 0), (3, .val (tY (encL t)), 0, 0), (5, .val (pI (atR t s c)), 0, 0), (7, .val (pI s), 0, 0), (8, .val (pI c), 0, 0)])
        (fun c => t.classes.toNat - c) ?_ (s := 0) rfl (by simp)
      intro i hcc
      simp -implicitDefEqProofs +contextual (maxSteps := 4000000) [-Int.not_le, -Int.not_lt, -Nat.not_le, -Nat.not_lt, -UInt32.toNat_or, -UInt32.toNat_xor, -UInt32.toNat_and, -UInt8.toNat_or, -UInt8.toNat_xor, -UInt8.toNat_and, -UInt32.toNat_add, -UInt8.toNat_add, -List.map_take, -List.map_drop, ← List.map_take, ← List.map_drop, -List.length_take, -List.length_drop, -List.map_replicate, rep_pY0, rep_pB0, rep_pI0, e_law06_TablePlaces.eq_1, Try.results8, h_law06_Large, Ok_law06_Large, h_table_Encode, Ok_table_Encode, h_table_Length, Ok_table_Length, h_ref05_Sum, Ok_ref05_Sum, h_w, hw]
      refine ⟨fun b => ?_, fun b => ?_⟩
      · obtain ⟨q0, q1, v0⟩ := row_byte hM a b
        have w0 := v0 q0 q1
        (repeat' (first | exact (show drawD _ _ = true by decide +kernel) | exact (show _ = List.range' _ _ from rfl) | with_reducible refine and_imp_self' ?_ ?_ | with_reducible refine And.intro ?_ ?_ | with_reducible refine @Exists.intro Nat _ (i + 1) ?_ | with_reducible refine Exists.intro (show (_ : Nat) < _ by omega) ?_ | intro _)) <;> (try (first | omega | (unfold fits; omega) | assumption | with_reducible rfl | (simp only [inR_iff, inR_not, fits_iff] at *; omega)))
        rw [atR_succ]; omega
      · have e1 := atR_next (t := t) (s := s) (c := i) (by omega)
        refine ⟨by unfold fits; omega, fun _ => ⟨s + 1, by omega, by omega, by rw [e1], by omega⟩⟩
    obtain rfl : s = t.next.length := by omega
    refine loopo (fun s => s ≤ t.brk.length)
      (fun s => [(1, .val (.ptr true [pI t.classes, sBand t.bands, sII t.next, sB t.brk]), 0, 0), (3, .val (tY (encL t)), 0, 0), (5, .val (pI (atR t t.next.length 0)), 0, 0), (9, .val (pI s), 0, 0)])
      (fun s => t.brk.length - s) ?_ (s := 0) rfl (by simp)
    intro i hi'
    have hs7 : IntKind.u64.wrap ((i &&& 7 : Nat) : Int) = ((i % 8 : Nat) : Int) := by
      have := Nat.and_two_pow_sub_one_eq_mod i 3
      rw [show i &&& 7 = i % 8 from this, wrapU64 (by omega)]
    have tnb : ((atR t t.next.length 0 : Int) + (i : Int) / 8).toNat = atR t t.next.length 0 + i / 8 := by omega
    have tns : ((i : Int) % 8).toNat = i % 8 := by omega
    have tnl : (((encL t).length : Int) - 4).toNat = (bodyL t).length := by omega
    have tn4 : (encL t).length - (bodyL t).length = 4 := by omega
    have hdr := encL_drop hM
    have htk := encL_take hM
    have hp4 : putL ((sumL (bodyL t)).toNat : Int) 4 = [by8 ((sumL (bodyL t)).toNat / 16777216), by8 ((sumL (bodyL t)).toNat / 65536), by8 ((sumL (bodyL t)).toNat / 256), by8 (sumL (bodyL t)).toNat] := rfl
    have hbit : ∀ (h : i < t.brk.length) (h0 : atR t t.next.length 0 + i / 8 < (encL t).length), decide (((by8 (((encL t)[atR t t.next.length 0 + i / 8].toNat : Int) / 2 ^ (i % 8)) &&& 1).toNat : Int) = 1) = t.brk[i] := fun h h0 => (bit_byte hM h).2 h0
    simp -implicitDefEqProofs +contextual (maxSteps := 4000000) [-Int.not_le, -Int.not_lt, -Nat.not_le, -Nat.not_lt, -UInt32.toNat_or, -UInt32.toNat_xor, -UInt32.toNat_and, -UInt8.toNat_or, -UInt8.toNat_xor, -UInt8.toNat_and, -UInt32.toNat_add, -UInt8.toNat_add, -List.map_take, -List.map_drop, ← List.map_take, ← List.map_drop, -List.length_take, -List.length_drop, -List.map_replicate, rep_pY0, rep_pB0, rep_pI0, e_law06_TablePlaces.eq_1, Try.results8, h_law06_Large, Ok_law06_Large, h_table_Encode, Ok_table_Encode, h_table_Length, Ok_table_Length, h_ref05_Sum, Ok_ref05_Sum, h_w, hw, hs7, tnb, tns, tnl, tn4, hdr, htk, hp4, hbit, sum4]
    have hat := fun h : i < t.brk.length => (bit_byte hM h).1
    (repeat' (first | exact (show drawD _ _ = true by decide +kernel) | exact (show _ = List.range' _ _ from rfl) | with_reducible refine and_imp_self' ?_ ?_ | with_reducible refine And.intro ?_ ?_ | with_reducible refine @Exists.intro Nat _ (i + 1) ?_ | with_reducible refine Exists.intro (show (_ : Nat) < _ by omega) ?_ | intro _)) <;> (try (first | omega | (unfold fits; omega) | assumption | with_reducible rfl | (simp only [inR_iff, inR_not, fits_iff] at *; omega)))
  · simp -implicitDefEqProofs +contextual (maxSteps := 4000000) [-Int.not_le, -Int.not_lt, -Nat.not_le, -Nat.not_lt, -UInt32.toNat_or, -UInt32.toNat_xor, -UInt32.toNat_and, -UInt8.toNat_or, -UInt8.toNat_xor, -UInt8.toNat_and, -UInt32.toNat_add, -UInt8.toNat_add, -List.map_take, -List.map_drop, ← List.map_take, ← List.map_drop, -List.length_take, -List.length_drop, -List.map_replicate, rep_pY0, rep_pB0, rep_pI0, e_law06_TablePlaces.eq_1, Try.results8, h_law06_Large, Ok_law06_Large, h_table_Encode, Ok_table_Encode, h_table_Length, Ok_table_Length, h_ref05_Sum, Ok_ref05_Sum, h_w, hw, hL', hM, encL.eq_1, hsm]
    omega
theorem law_law06_TablePlaces_eq (t : Tab) (w : wfT t) : g_law06_TablePlaces [pT t] = some (pB true, []) :=
  Ok_eq (by rw [Ok_law06_TablePlaces]; exact ⟨wfT_len w, rfl⟩)

end Go.V
