/- What stands where in a table's bytes. -/
import Derived.Test.YthbmifpfhdlicaaA11
import Derived.Test.YthbmifpfhdlicaaA10
namespace Go.V
theorem by8_small {n : Int} (h : 0 ≤ n ∧ n ≤ 255) : ((by8 n).toNat : Int) = n := by rw [by8_toNat, Int.emod_eq_of_lt h.1 (by omega)]
theorem band_at : ∀ {l : List (Int × Int)} {i k : Nat}, k < 4 → (l.flatMap bandL)[4 * i + k]? = (l[i]?).bind fun b => (bandL b)[k]?
  | [], i, k, h => by simp
  | a :: l, 0, k, h => by
    rw [List.flatMap_cons, List.getElem?_append_left (by rw [bandL_len]; omega)]; simp
  | a :: l, i + 1, k, h => by
    rw [List.flatMap_cons, List.getElem?_append_right (by rw [bandL_len]; omega), bandL_len, show 4 * (i + 1) + k - 4 = 4 * i + k by omega, band_at h]; simp
theorem row_at {n : Nat} : ∀ {l : List (List Int)} {i k : Nat}, (∀ x ∈ l, x.length = n) → k < n → (l.flatMap rowL)[n * i + k]? = (l[i]?).bind fun b => (rowL b)[k]?
  | [], i, k, _, h => by simp
  | a :: l, 0, k, hl, h => by
    rw [List.flatMap_cons, List.getElem?_append_left (by rw [rowL, List.length_map, hl a (by simp)]; omega)]; simp
  | a :: l, i + 1, k, hl, h => by
    have ha : (rowL a).length = n := by rw [rowL, List.length_map, hl a (by simp)]
    rw [List.flatMap_cons, List.getElem?_append_right (by rw [ha, Nat.mul_add]; omega), ha, show n * (i + 1) + k - n = n * i + k by rw [Nat.mul_add]; omega, row_at (fun x hx => hl x (by simp [hx])) h]; simp
theorem bodyL_len {t : Tab} (h : May t) : (bodyL t).length = 7 + 4 * t.bands.length + t.classes.toNat * t.next.length + (t.next.length + 7) / 8 := by
  unfold bodyL
  rw [List.length_append, List.length_append, List.length_append, flat4, flatR (n := t.classes.toNat) (fun x hx => by have := (h.rows x hx).1; omega), bitsL_len, h.counts.2.2.1]
  simp only [hdL, List.length_cons, List.length_nil]
theorem encL_len {t : Tab} (h : May t) : (encL t).length = (bodyL t).length + 4 := by
  unfold encL; rw [if_pos h, List.length_append]; rfl
theorem encL_V {t : Tab} (h : May t) : ((encL t).length : Int) = lenV t.classes t.next.length t.bands.length := by
  obtain ⟨hc, hn, hb, hl⟩ := h.counts
  rw [encL_len h, bodyL_len h, lenV, if_pos ⟨inR_iff.2 (by omega), inR_iff.2 (by omega), inR_iff.2 (by omega)⟩]
  have : ((t.classes.toNat * t.next.length : Nat) : Int) = t.classes * t.next.length := by rw [Int.natCast_mul]; congr 1; omega
  omega
theorem encL_hd {t : Tab} (h : May t) : encL t = hdL t ++ (t.bands.flatMap bandL ++ (t.next.flatMap rowL ++ (bitsL t.brk ++ putL (sumL (bodyL t)).toNat 4))) := by
  unfold encL; rw [if_pos h]; unfold bodyL; simp only [List.append_assoc]
theorem hdL_len {t : Tab} : (hdL t).length = 7 := rfl
theorem encL_h {t : Tab} (h : May t) {k : Nat} (hk : k < 7) : (encL t)[k]? = (hdL t)[k]? := by
  rw [encL_hd h, List.getElem?_append_left (by rw [hdL_len]; exact hk)]
theorem encL_b {t : Tab} (h : May t) {i k : Nat} (hi : i < t.bands.length) (hk : k < 4) : (encL t)[7 + 4 * i + k]? = (bandL t.bands[i])[k]? := by
  rw [encL_hd h, List.getElem?_append_right (by rw [hdL_len]; omega), hdL_len, show 7 + 4 * i + k - 7 = 4 * i + k by omega, List.getElem?_append_left (by rw [flat4]; omega), band_at hk, List.getElem?_eq_getElem hi]; rfl
theorem encL_r {t : Tab} (h : May t) {i k : Nat} (hi : i < t.next.length) (hk : k < t.classes.toNat) (hk2 : k < t.next[i].length) : (encL t)[7 + 4 * t.bands.length + t.classes.toNat * i + k]? = some (by8 t.next[i][k]) := by
  have hr : ∀ x ∈ t.next, x.length = t.classes.toNat := fun x hx => by have := (h.rows x hx).1; omega
  rw [encL_hd h, List.getElem?_append_right (by rw [hdL_len]; omega), hdL_len, List.getElem?_append_right (by rw [flat4]; omega), flat4,
    show 7 + 4 * t.bands.length + t.classes.toNat * i + k - 7 - 4 * t.bands.length = t.classes.toNat * i + k by omega]
  have hlt : t.classes.toNat * i + k < t.classes.toNat * t.next.length := by
    have : t.classes.toNat * (i + 1) ≤ t.classes.toNat * t.next.length := Nat.mul_le_mul_left _ (by omega)
    rw [Nat.mul_add] at this; omega
  rw [List.getElem?_append_left (by rw [flatR hr]; exact hlt), row_at hr hk, List.getElem?_eq_getElem hi]
  simp [rowL, hk2]
theorem encL_x {t : Tab} (h : May t) {j : Nat} (hj : j < (bitsL t.brk).length) : (encL t)[7 + 4 * t.bands.length + t.classes.toNat * t.next.length + j]? = (bitsL t.brk)[j]? := by
  have hr : ∀ x ∈ t.next, x.length = t.classes.toNat := fun x hx => by have := (h.rows x hx).1; omega
  rw [encL_hd h, List.getElem?_append_right (by rw [hdL_len]; omega), hdL_len, List.getElem?_append_right (by rw [flat4]; omega), flat4, List.getElem?_append_right (by rw [flatR hr]; omega), flatR hr,
    show 7 + 4 * t.bands.length + t.classes.toNat * t.next.length + j - 7 - 4 * t.bands.length - t.classes.toNat * t.next.length = j by omega, List.getElem?_append_left hj]
theorem encL_take {t : Tab} (h : May t) : (encL t).take (bodyL t).length = bodyL t := by
  unfold encL; rw [if_pos h]; simp
theorem encL_drop {t : Tab} (h : May t) : (encL t).drop (bodyL t).length = putL (sumL (bodyL t)).toNat 4 := by
  unfold encL; rw [if_pos h]; simp
/-! ### Bits -/
theorem pow8 {r : Nat} (h : r < 8) : (by8 (2 ^ r)).toNat = 2 ^ r := by
  have : r = 0 ∨ r = 1 ∨ r = 2 ∨ r = 3 ∨ r = 4 ∨ r = 5 ∨ r = 6 ∨ r = 7 := by omega
  rcases this with rfl | rfl | rfl | rfl | rfl | rfl | rfl | rfl <;> decide
theorem bits_at {l : List Bool} : ∀ (i j k : Nat) (x : UInt8), i ≤ l.length → k < 8 → (bitsTo l i)[j]? = some x → x.toNat.testBit k = (decide (8 * j + k < i) && l.getD (8 * j + k) false)
  | 0, j, k, x, _, hk, hx => by
    simp only [bitsTo, List.range_zero, List.foldl_nil, List.getElem?_replicate] at hx
    split at hx
    · obtain rfl := Option.some.inj hx; simp
    · cases hx
  | i + 1, j, k, x, hi, hk, hx => by
    rw [bitsTo_succ] at hx
    unfold bitStep at hx
    split at hx
    · rename_i hl
      rw [List.getElem?_modify] at hx
      simp only [Option.map_eq_map, Option.map_eq_some_iff] at hx
      obtain ⟨y, hy, rfl⟩ := hx
      have ih := bits_at i j k y (by omega) hk hy
      split
      · rename_i hj
        rw [UInt8.toNat_or, pow8 (Nat.mod_lt _ (by decide)), Nat.testBit_or, ih, Nat.testBit_two_pow]
        by_cases hk2 : i % 8 = k
        · have : 8 * j + k = i := by omega
          have hl2 : l[i]?.getD false = true := by simpa [List.getD_eq_getElem?_getD] using hl
          rw [this]; simp [hl2, hk2]
        · have h1 : (8 * j + k < i + 1) ↔ (8 * j + k < i) := by omega
          simp [hk2, h1]
      · rename_i hj
        rw [ih]
        have h1 : (8 * j + k < i + 1) ↔ (8 * j + k < i) := by omega
        simp [h1]
    · rename_i hl
      rw [bits_at i j k x (by omega) hk hx]
      by_cases h1 : 8 * j + k = i
      · have hl2 : l[i]?.getD false = false := by simpa [List.getD_eq_getElem?_getD] using hl
        rw [h1]; simp [hl2]
      · have h2 : (8 * j + k < i + 1) ↔ (8 * j + k < i) := by omega
        simp [h2]
theorem bit_test {x : UInt8} {k : Nat} : (decide ((((by8 ((x.toNat : Int) / 2 ^ k)) &&& 1).toNat : Int) = 1)) = x.toNat.testBit k := by
  have h1 : ((by8 ((x.toNat : Int) / 2 ^ k)) &&& 1).toNat = x.toNat / 2 ^ k % 2 := by
    rw [UInt8.toNat_and]
    have h2 : (by8 ((x.toNat : Int) / 2 ^ k)).toNat = x.toNat / 2 ^ k := by
      have h3 := @by8_toNat ((x.toNat : Int) / 2 ^ k)
      have h4 : ((x.toNat : Int) / 2 ^ k) = ((x.toNat / 2 ^ k : Nat) : Int) := by norm_cast
      have h5 : x.toNat / 2 ^ k ≤ x.toNat := Nat.div_le_self _ _
      have := x.toNat_lt
      rw [h4] at h3 ⊢
      generalize x.toNat / 2 ^ k = q at *
      omega
    rw [h2]
    exact Nat.and_one_is_mod _
  rw [h1, Nat.testBit_eq_decide_div_mod_eq]
  congr 1
  apply propext
  omega
/-- each bit of a list stands in its byte -/
theorem bitsL_bit {l : List Bool} {s : Nat} (h : s < l.length) {x : UInt8} (hx : (bitsL l)[s / 8]? = some x) : x.toNat.testBit (s % 8) = l[s] := by
  rw [bits_at l.length (s / 8) (s % 8) x (Nat.le_refl _) (Nat.mod_lt _ (by decide)) hx, show 8 * (s / 8) + s % 8 = s by omega]
  simp [h, List.getD_eq_getElem?_getD]
/-- what is known of a table that a law is handed -/
def wfT (t : Tab) : Prop := fits t.classes ∧ (t.bands.length ≤ maxLen ∧ ∀ x ∈ t.bands, fits x.1 ∧ fits x.2) ∧ (t.next.length ≤ maxLen ∧ ∀ x ∈ t.next, x.length ≤ maxLen ∧ ∀ y ∈ x, fits y) ∧ (t.brk.length ≤ maxLen ∧ ∀ x ∈ t.brk, True)
theorem wfT_len {t : Tab} (h : wfT t) : t.bands.length < 2 ^ 63 ∧ t.next.length < 2 ^ 63 ∧ t.brk.length < 2 ^ 63 := by
  obtain ⟨_, ⟨h1, _⟩, ⟨h2, _⟩, h3, _⟩ := h
  unfold maxLen at h1 h2 h3
  omega
theorem largeGo_false {most : Int} : ∀ {l : List (List Int)} {n : Int}, 0 ≤ n → 0 ≤ most → largeGo most l n = false → n + l.length ≤ most ∧ ∀ x ∈ l, (x.length : Int) ≤ most
  | [], n, h, _, hl => by simp [largeGo] at hl; simp; omega
  | x :: xs, n, h, hm, hl => by
    rw [largeGo] at hl
    split at hl
    · have hs : 0 ≤ (if most < (x.length : Int) then most else x.length) := by split <;> omega
      obtain ⟨h1, h2⟩ := largeGo_false (by omega) hm hl
      have h3 : (x.length : Int) ≤ most := by
        by_cases hc : most < (x.length : Int)
        · rw [if_pos hc] at h1; omega
        · omega
      refine ⟨by rw [List.length_cons]; omega, fun y hy => ?_⟩
      rcases List.mem_cons.1 hy with rfl | hy
      · exact h3
      · exact h2 y hy
    · cases hl
theorem largeT_small {t : Tab} (h : largeT t = false) : small t := by
  simp only [largeT, Bool.or_eq_false_iff, decide_eq_false_iff_not] at h
  obtain ⟨⟨h1, h2⟩, h3⟩ := h
  obtain ⟨h4, h5⟩ := largeGo_false (by decide) (by decide) h2
  exact ⟨by omega, fun x hx => by have := h5 x hx; omega⟩
end Go.V
