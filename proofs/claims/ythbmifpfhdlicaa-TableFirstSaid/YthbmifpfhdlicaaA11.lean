/- A part of the proof of TableFirst: contracts of functions, or what these lean on. No condition. -/
import Derived.Test.YthbmifpfhdlicaaA8
import Derived.Test.YthbmifpfhdlicaaA2
import Derived.Test.YthbmifpfhdlicaaA4
import Derived.Test.YthbmifpfhdlicaaA9
namespace Go.V
open Go.Proofs
set_option maxRecDepth 8000
set_option linter.unusedSimpArgs false
set_option linter.unusedVariables false
def bandL (b : Int × Int) : List UInt8 := putL b.1 3 ++ [by8 b.2]
theorem putL_len {v : Int} : (putL v 3).length = 3 := rfl
theorem bandL_len {b : Int × Int} : (bandL b).length = 4 := rfl
def rowL (l : List Int) : List UInt8 := l.map by8
def hdL (t : Tab) : List UInt8 := [66, 82, 75, 49, by8 t.classes, by8 t.next.length, by8 t.bands.length]
def enc1 (t : Tab) (i : Nat) : List UInt8 := hdL t ++ (t.bands.take i).flatMap bandL
def enc2 (t : Tab) (i : Nat) : List UInt8 := hdL t ++ t.bands.flatMap bandL ++ (t.next.take i).flatMap rowL
def bodyL (t : Tab) : List UInt8 := hdL t ++ t.bands.flatMap bandL ++ t.next.flatMap rowL ++ bitsL t.brk
def encL (t : Tab) : List UInt8 := if May t then bodyL t ++ putL (sumL (bodyL t)).toNat 4 else []
theorem flat4 {l : List (Int × Int)} : (l.flatMap bandL).length = 4 * l.length := by
  induction l with
  | nil => rfl
  | cons a l ih => rw [List.flatMap_cons, List.length_append, ih, bandL_len, List.length_cons]; omega
theorem flatR {n : Nat} {l : List (List Int)} (h : ∀ x ∈ l, x.length = n) : (l.flatMap rowL).length = n * l.length := by
  induction l with
  | nil => simp
  | cons a l ih => rw [List.flatMap_cons, List.length_append, ih (fun x hx => h x (by simp [hx])), List.length_cons, rowL, List.length_map, h a (by simp), Nat.mul_add]; omega
theorem enc1_len {t : Tab} {i : Nat} : (enc1 t i).length ≤ 7 + 4 * t.bands.length := by
  unfold enc1; rw [List.length_append, flat4, List.length_take]; simp only [hdL, List.length_cons, List.length_nil]; omega
theorem May.rows {t : Tab} (h : May t) : ∀ x ∈ t.next, (x.length : Int) = t.classes ∧ ∀ n ∈ x, 0 ≤ n ∧ n ≤ 255 := by
  intro x hx
  have := h.2.2.h x hx
  simp only [rowOk, Bool.and_eq_true, decide_eq_true_eq, Bool.not_eq_true', List.any_eq_false] at this
  exact ⟨this.1, fun n hn => by have := this.2 n hn; simpa [inR_iff] using this⟩
theorem May.counts {t : Tab} (h : May t) : (1 ≤ t.classes ∧ t.classes ≤ 255) ∧ (1 ≤ t.next.length ∧ t.next.length ≤ 255) ∧ t.brk.length = t.next.length ∧ t.bands.length ≤ 255 := by
  obtain ⟨⟨h1, h2, h3, h4⟩, _⟩ := h
  rw [inR_iff] at h1 h2
  omega
theorem enc2_len {t : Tab} (h : May t) {i : Nat} : (enc2 t i).length ≤ 7 + 4 * 255 + 255 * 255 := by
  obtain ⟨hc, hn, hb, hl⟩ := h.counts
  unfold enc2; rw [List.length_append, List.length_append, flat4, flatR (n := t.classes.toNat) (fun x hx => by have := (h.rows x (List.mem_of_mem_take hx)).1; omega), List.length_take]
  simp only [hdL, List.length_cons, List.length_nil]
  have h1 : t.classes.toNat * min i t.next.length ≤ 255 * 255 := Nat.mul_le_mul (by omega) (by omega)
  omega
theorem flatMap_take_succ {α β : Type} {l : List α} {i : Nat} (h : i < l.length) {f : α → List β} : (l.take (i + 1)).flatMap f = (l.take i).flatMap f ++ f l[i] := by rw [take_succ' h, List.flatMap_append]; simp
theorem enc1_succ {t : Tab} {i : Nat} (h : i < t.bands.length) : enc1 t (i + 1) = enc1 t i ++ bandL t.bands[i] := by unfold enc1; rw [flatMap_take_succ h, List.append_assoc]
theorem enc2_succ {t : Tab} {i : Nat} (h : i < t.next.length) : enc2 t (i + 1) = enc2 t i ++ rowL t.next[i] := by unfold enc2; rw [flatMap_take_succ h]; simp only [List.append_assoc]
theorem enc1_end {t : Tab} {i : Nat} (h : ¬ i < t.bands.length) : enc1 t i = enc2 t 0 := by unfold enc1 enc2; rw [List.take_of_length_le (by omega)]; simp
theorem enc2_end {t : Tab} {i : Nat} (h : ¬ i < t.next.length) : enc2 t i ++ bitsL t.brk = bodyL t := by unfold enc2 bodyL; rw [List.take_of_length_le (by omega)]
theorem allOwnL_app {xs ys : List PV} : allOwnL (xs ++ ys) = (allOwnL xs && allOwnL ys) := by
  induction xs with
  | nil => simp [allOwnL]
  | cons a l ih => simp [allOwnL, ih, Bool.and_assoc]
theorem app_pY1 {l : List UInt8} {c : UInt8} : l.map pY ++ [PV.prim (.int .u8 c.toNat)] = (l ++ [c]).map pY := by simp
theorem bitsL_len {l : List Bool} : (bitsL l).length = (l.length + 7) / 8 := bitsTo_len
def e_table_Encode : Tab → List PV := fun t => [pT t]
noncomputable def g_table_Encode : List PV → Option (PV × List PV) := spec e_table_Encode (fun t => small t) fun t => (.tup [tY (encL t), pB (decide (May t))], [])
theorem e_table_Encode_inj (a b : Tab) (h : e_table_Encode a = e_table_Encode b) : a = b := by
  obtain ⟨t1a, t1b, t1c, t1d⟩ := a; obtain ⟨t2a, t2b, t2c, t2d⟩ := b; simp [e_table_Encode, map_pI_inj, map_pB_inj, map_pY_inj, map_pBand_inj, map_sI_inj, Int.natCast_inj, UInt8.toNat_inj, UInt32.toNat_inj] at h; first | exact h | (simp [h]; done) | exact UInt32.toNat_inj.1 (by omega) | exact UInt8.toNat_inj.1 (by omega) | (simp only [Prod.mk.injEq, ← UInt8.toNat_inj, ← UInt32.toNat_inj] at *; omega) | grind
theorem Ok_table_Encode {t : Tab} {K : PV × List PV → Prop} : Ok (g_table_Encode [pT t]) K = ((small t) ∧ K (.tup [tY (encL t), pB (decide (May t))], [])) := Ok_spec e_table_Encode_inj t
set_option maxHeartbeats 2000000 in
theorem impl_table_Encode {tbl : Tbl} {G : Nat → Option (List PV)} (hT : Tb tbl G) (h_table_may : tbl 51 = g_table_may) (h_table_known : tbl 52 = g_table_known) (h_pack_Put : tbl 53 = g_pack_Put) (h_pack_Bits : tbl 54 = g_pack_Bits) (h_pack_Sum : tbl 55 = g_pack_Sum) : Impl Try.prog G 21 (g_table_Encode) := by
  refine impl_p (E := En tbl G 77 k_table_Encode []) (c := _) hT mixed Try.func21 rfl rfl (fun a => by simp [e_table_Encode, pinned.eq_1, pinned.eq_2, PV.isMut.eq_1, PV.isMut.eq_2]) ?_
  rintro t hok
  refine ⟨by simp [e_table_Encode], ?_⟩
  replace hok : small t := hok
  unfold small at hok
  by_cases hM : May t
  · obtain ⟨hc, hn, hb, hl⟩ := hM.counts
    simp -implicitDefEqProofs +contextual (maxSteps := 4000000) [-Int.not_le, -Int.not_lt, -Nat.not_le, -Nat.not_lt, -UInt32.toNat_or, -UInt32.toNat_xor, -UInt32.toNat_and, -UInt8.toNat_or, -UInt8.toNat_xor, -UInt8.toNat_and, -UInt32.toNat_add, -UInt8.toNat_add, -List.map_take, -List.map_drop, ← List.map_take, ← List.map_drop, -List.length_take, -List.length_drop, -List.map_replicate, rep_pY0, rep_pB0, rep_pI0, e_table_Encode.eq_1, Try.results21, h_table_may, Ok_table_may, h_table_known, Ok_table_known, h_pack_Put, Ok_pack_Put, h_pack_Bits, Ok_pack_Bits, h_pack_Sum, Ok_pack_Sum, hM, encL.eq_1]
    (repeat' (first | exact (show drawD _ _ = true by decide +kernel) | exact (show _ = List.range' _ _ from rfl) | with_reducible refine and_imp_self' ?_ ?_ | with_reducible refine And.intro ?_ ?_ | with_reducible refine @Exists.intro Nat _ (i + 1) ?_ | with_reducible refine Exists.intro (show (_ : Nat) < _ by omega) ?_ | intro _)) <;> (try (first | omega | (unfold fits; omega) | assumption | with_reducible rfl | (simp only [inR_iff, inR_not, fits_iff] at *; omega)))
    all_goals try (exact hok.2 _ ‹_›)
    refine loopo (fun i => i ≤ t.bands.length)
      (fun i => [(1, .val (.ptr true [pI t.classes, sBand t.bands, sII t.next, sB t.brk]), 0, 0), (5, .val (tY (enc1 t i)), 0, 0), (30, .pl 1 [] (.addr 0 1) 0, 0, 0), (31, .val (sBand t.bands), 0, 0), (32, .val (pI t.bands.length), 0, 0), (33, .val (pI i), 0, 0)])
      (fun i => t.bands.length - i) ?_ (s := 0) ?_ ?_
    rotate_left
    · simp [enc1, hdL]
    · simp
    intro i hi
    have hle := enc1_len (t := t) (i := i)
    have hfit : ∀ (h : i < t.bands.length), fits t.bands[i].1 := fun h => by
      have := hM.2.1.at h
      simp only [bandOk, Bool.and_eq_true, inR_iff] at this
      unfold fits; omega
    simp -implicitDefEqProofs +contextual (maxSteps := 4000000) [-Int.not_le, -Int.not_lt, -Nat.not_le, -Nat.not_lt, -UInt32.toNat_or, -UInt32.toNat_xor, -UInt32.toNat_and, -UInt8.toNat_or, -UInt8.toNat_xor, -UInt8.toNat_and, -UInt32.toNat_add, -UInt8.toNat_add, -List.map_take, -List.map_drop, ← List.map_take, ← List.map_drop, -List.length_take, -List.length_drop, -List.map_replicate, rep_pY0, rep_pB0, rep_pI0, e_table_Encode.eq_1, Try.results21, h_table_may, Ok_table_may, h_table_known, Ok_table_known, h_pack_Put, Ok_pack_Put, h_pack_Bits, Ok_pack_Bits, h_pack_Sum, Ok_pack_Sum, List.length_append, putL_len, allOwnL_app]
    (repeat' (first | exact (show drawD _ _ = true by decide +kernel) | exact (show _ = List.range' _ _ from rfl) | with_reducible refine and_imp_self' ?_ ?_ | with_reducible refine And.intro ?_ ?_ | with_reducible refine @Exists.intro Nat _ (i + 1) ?_ | with_reducible refine Exists.intro (show (_ : Nat) < _ by omega) ?_ | intro _)) <;> (try (first | omega | (unfold fits; omega) | assumption | with_reducible rfl | (simp only [inR_iff, inR_not, fits_iff] at *; omega)))
    · exact hfit ‹_›
    · rw [enc1_succ ‹_›, bandL]; simp
    rw [enc1_end ‹_›]
    clear hle hfit hi
    refine loopo (fun i => i ≤ t.next.length)
      (fun i => [(1, .val (.ptr true [pI t.classes, sBand t.bands, sII t.next, sB t.brk]), 0, 0), (5, .val (tY (enc2 t i)), 0, 0), (47, .pl 1 [] (.addr 0 2) 0, 0, 0), (48, .val (sII t.next), 0, 0), (49, .val (pI t.next.length), 0, 0), (50, .val (pI i), 0, 0)])
      (fun i => t.next.length - i) ?_ (s := 0) rfl (by simp)
    intro k hk
    have h2 := enc2_len hM (i := k)
    simp -implicitDefEqProofs +contextual (maxSteps := 4000000) [-Int.not_le, -Int.not_lt, -Nat.not_le, -Nat.not_lt, -UInt32.toNat_or, -UInt32.toNat_xor, -UInt32.toNat_and, -UInt8.toNat_or, -UInt8.toNat_xor, -UInt8.toNat_and, -UInt32.toNat_add, -UInt8.toNat_add, -List.map_take, -List.map_drop, ← List.map_take, ← List.map_drop, -List.length_take, -List.length_drop, -List.map_replicate, rep_pY0, rep_pB0, rep_pI0, e_table_Encode.eq_1, Try.results21, h_table_may, Ok_table_may, h_table_known, Ok_table_known, h_pack_Put, Ok_pack_Put, h_pack_Bits, Ok_pack_Bits, h_pack_Sum, Ok_pack_Sum, -List.map_append, ← List.map_append, app_pY1, List.length_append, bitsL_len, hM, encL.eq_1]
    (repeat' (first | exact (show drawD _ _ = true by decide +kernel) | exact (show _ = List.range' _ _ from rfl) | with_reducible refine and_imp_self' ?_ ?_ | with_reducible refine And.intro ?_ ?_ | with_reducible refine @Exists.intro Nat _ (i + 1) ?_ | with_reducible refine Exists.intro (show (_ : Nat) < _ by omega) ?_ | intro _)) <;> (try (first | omega | (unfold fits; omega) | assumption | with_reducible rfl | (simp only [inR_iff, inR_not, fits_iff] at *; omega)))
    · have hrow := hok.2 _ (List.getElem_mem ‹k < t.next.length›)
      have hrl := (hM.rows _ (List.getElem_mem ‹k < t.next.length›)).1
      refine loopo (fun i => i ≤ t.next[k].length)
        (fun i => [(1, .val (.ptr true [pI t.classes, sBand t.bands, sII t.next, sB t.brk]), 0, 0), (5, .val (tY (enc2 t k ++ rowL (t.next[k].take i))), 0, 0), (9, .val (sI t.next[k]), 0, 0), (47, .pl 1 [] (.addr 0 2) 0, 0, 0), (48, .val (sII t.next), 0, 0), (49, .val (pI t.next.length), 0, 0), (50, .val (pI k), 0, 0), (54, .val (sI t.next[k]), 0, 0), (55, .val (pI t.next[k].length), 0, 0), (56, .val (pI i), 0, 0)])
        (fun i => t.next[k].length - i) ?_ (s := 0) ?_ ?_
      rotate_left
      · simp [rowL]
      · simp
      intro i hi
      have h2 := enc2_len hM (i := k)
      have h3 : (rowL (t.next[k].take i)).length ≤ 255 := by rw [rowL, List.length_map, List.length_take]; omega
      simp -implicitDefEqProofs +contextual (maxSteps := 4000000) [-Int.not_le, -Int.not_lt, -Nat.not_le, -Nat.not_lt, -UInt32.toNat_or, -UInt32.toNat_xor, -UInt32.toNat_and, -UInt8.toNat_or, -UInt8.toNat_xor, -UInt8.toNat_and, -UInt32.toNat_add, -UInt8.toNat_add, -List.map_take, -List.map_drop, ← List.map_take, ← List.map_drop, -List.length_take, -List.length_drop, -List.map_replicate, rep_pY0, rep_pB0, rep_pI0, e_table_Encode.eq_1, Try.results21, h_table_may, Ok_table_may, h_table_known, Ok_table_known, h_pack_Put, Ok_pack_Put, h_pack_Bits, Ok_pack_Bits, h_pack_Sum, Ok_pack_Sum, -List.map_append, ← List.map_append, app_pY1, List.length_append]
      refine ⟨?_, fun hge => ⟨by unfold fits; omega, fun _ => ⟨k + 1, ?_⟩⟩⟩
      · (repeat' (first | exact (show drawD _ _ = true by decide +kernel) | exact (show _ = List.range' _ _ from rfl) | with_reducible refine and_imp_self' ?_ ?_ | with_reducible refine And.intro ?_ ?_ | with_reducible refine @Exists.intro Nat _ (i + 1) ?_ | with_reducible refine Exists.intro (show (_ : Nat) < _ by omega) ?_ | intro _)) <;> (try (first | omega | (unfold fits; omega) | assumption | with_reducible rfl | (simp only [inR_iff, inR_not, fits_iff] at *; omega)))
        rw [rowL, rowL, map_take_succ ‹_›]
      · (repeat' (first | exact (show drawD _ _ = true by decide +kernel) | exact (show _ = List.range' _ _ from rfl) | with_reducible refine and_imp_self' ?_ ?_ | with_reducible refine And.intro ?_ ?_ | with_reducible refine @Exists.intro Nat _ (i + 1) ?_ | with_reducible refine Exists.intro (show (_ : Nat) < _ by omega) ?_ | intro _)) <;> (try (first | omega | (unfold fits; omega) | assumption | with_reducible rfl | (simp only [inR_iff, inR_not, fits_iff] at *; omega)))
        rw [enc2_succ ‹k < _›, List.take_of_length_le (by omega)]
    · rw [← enc2_end ‹¬ k < _›, List.append_assoc]
  · simp -implicitDefEqProofs +contextual (maxSteps := 4000000) [-Int.not_le, -Int.not_lt, -Nat.not_le, -Nat.not_lt, -UInt32.toNat_or, -UInt32.toNat_xor, -UInt32.toNat_and, -UInt8.toNat_or, -UInt8.toNat_xor, -UInt8.toNat_and, -UInt32.toNat_add, -UInt8.toNat_add, -List.map_take, -List.map_drop, ← List.map_take, ← List.map_drop, -List.length_take, -List.length_drop, -List.map_replicate, rep_pY0, rep_pB0, rep_pI0, e_table_Encode.eq_1, Try.results21, h_table_may, Ok_table_may, h_table_known, Ok_table_known, h_pack_Put, Ok_pack_Put, h_pack_Bits, Ok_pack_Bits, h_pack_Sum, Ok_pack_Sum, hM, encL.eq_1]
    (repeat' (first | exact (show drawD _ _ = true by decide +kernel) | exact (show _ = List.range' _ _ from rfl) | with_reducible refine and_imp_self' ?_ ?_ | with_reducible refine And.intro ?_ ?_ | with_reducible refine @Exists.intro Nat _ (i + 1) ?_ | with_reducible refine Exists.intro (show (_ : Nat) < _ by omega) ?_ | intro _)) <;> (try (first | omega | (unfold fits; omega) | assumption | with_reducible rfl | (simp only [inR_iff, inR_not, fits_iff] at *; omega)))
    all_goals try (exact hok.2 _ ‹_›)

end Go.V
