/- Bytes sealed by their sum, and what is told of them. -/
import Derived.Test.YthbmifpfhdlicaaP6
import Derived.Test.YthbmifpfhdlicaaA13
import Derived.Test.YthbmifpfhdlicaaA14
namespace Go.V
theorem beN_put {x : Int} (h : 0 ≤ x ∧ x < 4294967296) : beN (putL x 4) = x := by
  have hb := @by8_toNat
  show beN [by8 (x / 16777216), by8 (x / 65536), by8 (x / 256), by8 x] = x
  simp only [beN, List.foldl_cons, List.foldl_nil, hb]
  omega
/-- bytes, sealed -/
def seal4 (p : List UInt8) : List UInt8 := p ++ putL (sumL p).toNat 4
theorem seal_len {p : List UInt8} : (seal4 p).length = p.length + 4 := by unfold seal4; rw [List.length_append]; rfl
theorem seal_take {p : List UInt8} : (seal4 p).take p.length = p := by unfold seal4; simp
theorem seal_drop {p : List UInt8} : (seal4 p).drop p.length = putL (sumL p).toNat 4 := by unfold seal4; simp
theorem seal_get {p : List UInt8} : getN (seal4 p) p.length 4 = (sumL p).toNat := by
  have hB : getB (seal4 p) p.length 4 = true := getB_iff.2 ⟨by decide, by decide, by omega, by rw [seal_len]; omega⟩
  rw [getN, if_pos hB, show ((p.length : Int)).toNat = p.length by omega, seal_drop]
  have : ((putL ((sumL p).toNat : Int) 4).take (4 : Int).toNat) = putL ((sumL p).toNat : Int) 4 := rfl
  rw [this, beN_put]
  have := (sumL p).toNat_lt
  omega
theorem seal_ok {p : List UInt8} : sealedB (seal4 p) = true := by
  unfold sealedB
  rw [show ((seal4 p).length : Int) - 4 = p.length by rw [seal_len]; omega, show (seal4 p).length - 4 = p.length by rw [seal_len]; omega, seal_get, seal_take, by32_self]
  simp
theorem seal_byB {p : List UInt8} {i : Nat} (h : i < p.length) : byB (seal4 p) i = byB p i := by
  unfold byB seal4
  rw [List.getD_eq_getElem?_getD, List.getD_eq_getElem?_getD, List.getElem?_append_left h]
theorem seal_mrk {p : List UInt8} (h : 4 ≤ p.length) : mrk (seal4 p) = mrk p := by
  unfold mrk seal4; rw [List.take_append_of_le_length h]
theorem byB_take {p : List UInt8} {i k : Nat} (h : i < k) : byB (p.take k) i = byB p i := by
  unfold byB; rw [List.getD_eq_getElem?_getD, List.getD_eq_getElem?_getD, List.getElem?_take_of_lt h]
theorem encL_seal {t : Tab} (h : May t) : encL t = seal4 (bodyL t) := by unfold encL seal4; rw [if_pos h]
theorem bodyL_hd {t : Tab} : (bodyL t).take 7 = hdL t := by
  unfold bodyL; rw [List.append_assoc, List.append_assoc, List.take_append_of_le_length (by rw [hdL_len]; exact Nat.le_refl 7)]; rfl
theorem hd_facts {t : Tab} (h : May t) {p : List UInt8} (hp : p.take 7 = hdL t) : 7 ≤ p.length ∧ mrk p = true ∧ byB p 4 = t.classes ∧ byB p 5 = t.next.length ∧ byB p 6 = t.bands.length := by
  obtain ⟨hc, hn, hb, hl⟩ := h.counts
  have hlen : 7 ≤ p.length := by have := congrArg List.length hp; rw [List.length_take, hdL_len] at this; omega
  have g : ∀ i, i < 7 → byB p i = byB (hdL t) i := fun i hi => by rw [← hp, byB_take hi]
  refine ⟨hlen, ?_, ?_, ?_, ?_⟩
  · unfold mrk
    rw [show p.take 4 = (p.take 7).take 4 by rw [List.take_take]; rfl, hp]; rfl
  · rw [g 4 (by decide)]; exact by8_small (by omega)
  · rw [g 5 (by decide)]; exact by8_small (by omega)
  · rw [g 6 (by decide)]; exact by8_small (by omega)
theorem body_facts {t : Tab} (h : May t) : 7 ≤ (bodyL t).length ∧ mrk (bodyL t) = true ∧ byB (bodyL t) 4 = t.classes ∧ byB (bodyL t) 5 = t.next.length ∧ byB (bodyL t) 6 = t.bands.length := hd_facts h bodyL_hd
theorem body_lenV {t : Tab} (h : May t) : lenV t.classes t.next.length t.bands.length = (bodyL t).length + 4 := by
  rw [← encL_V h, encL_len h]; omega
/-- bytes with a table's counts, of another length: their counts are wrong -/
theorem wrong_len {t : Tab} (h : May t) {p : List UInt8} (hp : p.take 7 = hdL t) (hne : p.length ≠ (bodyL t).length) : decE (seal4 p) = 24 := by
  obtain ⟨h1, h2, h3, h4, h5⟩ := hd_facts h hp
  have e1 : ¬ (seal4 p).length < 11 := by rw [seal_len]; omega
  have e2 : mrk (seal4 p) = true := by rw [seal_mrk (by omega), h2]
  have e3 : decC (seal4 p) = false := by
    unfold decC
    rw [seal_byB (by omega), seal_byB (by omega), seal_byB (by omega), h3, h4, h5, body_lenV h, seal_len]
    have : decide (((bodyL t).length : Int) + 4 = ((p.length + 4 : Nat) : Int)) = false := by rw [decide_eq_false_iff_not]; omega
    rw [this]; simp
  simp [decE, e1, e2, seal_ok, e3]
theorem cut_short {t : Tab} (h : May t) {k : Nat} (hk : k < (bodyL t).length) : decE (seal4 ((bodyL t).take k)) = if ((seal4 ((bodyL t).take k)).length : Int) < 11 then 21 else 24 := by
  have hl : ((bodyL t).take k).length = k := by rw [List.length_take]; omega
  by_cases h7 : k < 7
  · have e : (seal4 ((bodyL t).take k)).length < 11 := by rw [seal_len, hl]; omega
    rw [if_pos (by omega)]
    simp [decE, e]
  · rw [if_neg (by rw [seal_len, hl]; omega)]
    exact wrong_len h (by rw [List.take_take, show min 7 k = 7 by omega, bodyL_hd]) (by rw [hl]; omega)
theorem cut_long {t : Tab} (h : May t) {c : UInt8} : decE (seal4 (bodyL t ++ [c])) = 24 := by
  have := (body_facts h).1
  exact wrong_len h (by rw [List.take_append_of_le_length this, bodyL_hd]) (by rw [List.length_append]; simp)
end Go.V
