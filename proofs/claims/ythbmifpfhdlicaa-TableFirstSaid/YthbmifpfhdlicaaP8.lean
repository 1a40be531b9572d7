/- A table's bytes, read again; bytes with one of them turned. -/
import Derived.Test.YthbmifpfhdlicaaP7
import Derived.Test.YthbmifpfhdlicaaA15
namespace Go.V
/-! ### The sum, when one byte is another -/
theorem rot5_nat {x : UInt32} : (rot5 x).toNat = x.toNat % 134217728 * 32 + x.toNat / 134217728 := by
  have hx := x.toNat_lt
  unfold rot5
  rw [UInt32.toNat_or, UInt32.toNat_shiftLeft, UInt32.toNat_shiftRight]
  have e5 : (5 : UInt32).toNat % 32 = 5 := rfl
  have e27 : (27 : UInt32).toNat % 32 = 27 := rfl
  rw [e5, e27, Nat.shiftRight_eq_div_pow]
  have h1 : x.toNat <<< 5 % 2 ^ 32 = (x.toNat % 134217728) <<< 5 := by rw [Nat.shiftLeft_eq, Nat.shiftLeft_eq]; omega
  rw [h1, ← Nat.shiftLeft_add_eq_or_of_lt (by omega), Nat.shiftLeft_eq]
theorem rot5_inj {x y : UInt32} (h : rot5 x = rot5 y) : x = y := by
  have h1 := congrArg UInt32.toNat h
  have hx := x.toNat_lt
  have hy := y.toNat_lt
  rw [rot5_nat, rot5_nat] at h1
  rw [← UInt32.toNat_inj]; omega
theorem add_inj {x y k : UInt32} (h : x + k = y + k) : x = y := by
  have h1 := congrArg UInt32.toNat h
  have hx := x.toNat_lt
  have hy := y.toNat_lt
  rw [UInt32.toNat_add, UInt32.toNat_add] at h1
  rw [← UInt32.toNat_inj]; omega
theorem xor_injl {x y k : UInt32} (h : x ^^^ k = y ^^^ k) : x = y := by
  have := congrArg (· ^^^ k) h
  simpa [UInt32.xor_assoc] using this
theorem step_inj {s s' : UInt32} {c : UInt8} (h : sumStep s c = sumStep s' c) : s = s' := xor_injl (rot5_inj (add_inj h))
theorem step_inj2 {s : UInt32} {c c' : UInt8} (h : sumStep s c = sumStep s c') : c = c' := by
  have h1 := rot5_inj (add_inj h)
  rw [UInt32.xor_comm s, UInt32.xor_comm s] at h1
  have h2 := congrArg UInt32.toNat (xor_injl h1)
  have a := @by32_toNat (c.toNat : Int)
  have b := @by32_toNat (c'.toNat : Int)
  have hc := c.toNat_lt
  have hc' := c'.toNat_lt
  rw [← UInt8.toNat_inj]; omega
theorem fold_inj {l : List UInt8} : ∀ {s s' : UInt32}, l.foldl sumStep s = l.foldl sumStep s' → s = s' := by
  induction l with
  | nil => intro s s' h; exact h
  | cons c l ih =>
    intro s s' h
    rw [List.foldl_cons, List.foldl_cons] at h
    have h2 : sumStep s c = sumStep s' c := ih h
    exact step_inj h2
theorem fold_set {l : List UInt8} {i : Nat} (hi : i < l.length) {c : UInt8} {s0 : UInt32} (h : (l.set i c).foldl sumStep s0 = l.foldl sumStep s0) : c = l[i] := by
  have e1 : l = l.take i ++ l[i] :: l.drop (i + 1) := by rw [← List.drop_eq_getElem_cons hi, List.take_append_drop]
  have e2 : l.set i c = l.take i ++ c :: l.drop (i + 1) := List.set_eq_take_append_cons_drop.trans (if_pos hi)
  have e3 : l.foldl sumStep s0 = (l.drop (i + 1)).foldl sumStep (sumStep ((l.take i).foldl sumStep s0) l[i]) := by
    conv => lhs; rw [e1]
    rw [List.foldl_append, List.foldl_cons]
  rw [e2, e3, List.foldl_append, List.foldl_cons] at h
  exact step_inj2 (fold_inj h)
theorem sum_set {l : List UInt8} {i : Nat} (hi : i < l.length) {c : UInt8} (h : sumL (l.set i c) = sumL l) : c = l[i] := fold_set hi h
/-! ### What is sealed -/
theorem len4 {α : Type} {l : List α} (h : l.length = 4) : ∃ a b c d, l = [a, b, c, d] := by
  match l, h with
  | [a, b, c, d], _ => exact ⟨a, b, c, d, rfl⟩
theorem beN4 {a b c d : UInt8} : beN [a, b, c, d] = (((a.toNat : Int) * 256 + b.toNat) * 256 + c.toNat) * 256 + d.toNat := by simp [beN]
theorem beN4_bd {l : List UInt8} (h : l.length = 4) : 0 ≤ beN l ∧ beN l < 4294967296 := by
  obtain ⟨a, b, c, d, rfl⟩ := len4 h
  have := a.toNat_lt; have := b.toNat_lt; have := c.toNat_lt; have := d.toNat_lt
  rw [beN4]; omega
theorem put_beN {l : List UInt8} (h : l.length = 4) : putL (beN l) 4 = l := by
  obtain ⟨a, b, c, d, rfl⟩ := len4 h
  have := a.toNat_lt; have := b.toNat_lt; have := c.toNat_lt; have := d.toNat_lt
  have k : ∀ (n : Int) (x : UInt8), n % 256 = x.toNat → by8 n = x := fun n x hx => by
    rw [← UInt8.toNat_inj]; have := @by8_toNat n; omega
  show [by8 (beN [a, b, c, d] / 16777216), by8 (beN [a, b, c, d] / 65536), by8 (beN [a, b, c, d] / 256), by8 (beN [a, b, c, d])] = [a, b, c, d]
  rw [beN4, k _ a (by omega), k _ b (by omega), k _ c (by omega), k _ d (by omega)]
theorem sealed_iff {b : List UInt8} (h : 4 ≤ b.length) : sealedB b = true ↔ beN (b.drop (b.length - 4)) = (sumL (b.take (b.length - 4))).toNat := by
  have hd : (b.drop (b.length - 4)).length = 4 := by rw [List.length_drop]; omega
  have hB : getB b ((b.length : Int) - 4) 4 = true := getB_iff.2 ⟨by decide, by decide, by omega, by omega⟩
  have hg : getN b ((b.length : Int) - 4) 4 = beN (b.drop (b.length - 4)) := by
    rw [getN, if_pos hB, show ((b.length : Int) - 4).toNat = b.length - 4 by omega]
    congr 1
    exact List.take_of_length_le (by rw [hd]; decide)
  have hbd := beN4_bd hd
  unfold sealedB
  rw [decide_eq_true_iff, hg, by32_toNat, Int.emod_eq_of_lt hbd.1 hbd.2]
theorem sealed_set {b : List UInt8} (h : 4 ≤ b.length) (hs : sealedB b = true) {i : Nat} (hi : i < b.length) {c : UInt8} (hne : c ≠ b[i]) : sealedB (b.set i c) = false := by
  rw [sealed_iff h] at hs
  rw [← Bool.not_eq_true, sealed_iff (by rw [List.length_set]; exact h), List.length_set]
  by_cases hin : i < b.length - 4
  · rw [List.drop_set_of_lt hin, List.take_set, hs]
    intro he
    have hlt : i < (b.take (b.length - 4)).length := by rw [List.length_take]; omega
    have h1 : sumL ((b.take (b.length - 4)).set i c) = sumL (b.take (b.length - 4)) := by rw [← UInt32.toNat_inj]; omega
    have h2 := sum_set hlt h1
    rw [List.getElem_take] at h2
    exact hne h2
  · have e2 : (b.set i c).take (b.length - 4) = b.take (b.length - 4) := by rw [List.take_set, List.set_eq_of_length_le (by rw [List.length_take]; omega)]
    have e1 : (b.set i c).drop (b.length - 4) = (b.drop (b.length - 4)).set (i - (b.length - 4)) c := by rw [List.drop_set, if_neg hin]
    rw [e1, e2, ← hs]
    obtain ⟨a0, a1, a2, a3, ea⟩ := len4 (l := b.drop (b.length - 4)) (by rw [List.length_drop]; omega)
    have hg : (b.drop (b.length - 4))[i - (b.length - 4)]? = some b[i] := by
      rw [List.getElem?_drop, show b.length - 4 + (i - (b.length - 4)) = i by omega, List.getElem?_eq_getElem hi]
    rw [ea] at hg ⊢
    have hx : ∀ {u v : UInt8}, u ≠ v → u.toNat ≠ v.toNat := fun h e => h (UInt8.toNat_inj.1 e)
    generalize b[i] = v at hg hne
    have hne := hx hne
    have hj : i - (b.length - 4) < 4 := by omega
    generalize i - (b.length - 4) = j at hg hj
    match j, hj with
    | 0, _ =>
      obtain rfl : a0 = v := by simpa using hg
      show ¬ beN [c, a1, a2, a3] = _
      rw [beN4, beN4]; omega
    | 1, _ =>
      obtain rfl : a1 = v := by simpa using hg
      show ¬ beN [a0, c, a2, a3] = _
      rw [beN4, beN4]; omega
    | 2, _ =>
      obtain rfl : a2 = v := by simpa using hg
      show ¬ beN [a0, a1, c, a3] = _
      rw [beN4, beN4]; omega
    | 3, _ =>
      obtain rfl : a3 = v := by simpa using hg
      show ¬ beN [a0, a1, a2, c] = _
      rw [beN4, beN4]; omega
theorem dec_unsealed {b : List UInt8} (h : 11 ≤ b.length) (hs : sealedB b = false) : decE b = 22 ∨ decE b = 23 := by
  have h1 : ¬ b.length < 11 := by omega
  cases hm : mrk b
  · left; simp [decE, h1, hm]
  · right; simp [decE, h1, hm, hs]
/-! ### A table's bytes, read -/
theorem enc_at {t : Tab} (h : May t) (s : Nat) : dAt (encL t) s = 7 + 4 * t.bands.length + t.classes.toNat * s ∧ byB (encL t) 4 = t.classes ∧ byB (encL t) 5 = t.next.length ∧ byB (encL t) 6 = t.bands.length ∧ mrk (encL t) = true := by
  obtain ⟨h1, h2, h3, h4, h5⟩ := body_facts h
  have e4 : byB (encL t) 4 = t.classes := by rw [encL_seal h, seal_byB (by omega), h3]
  have e5 : byB (encL t) 5 = t.next.length := by rw [encL_seal h, seal_byB (by omega), h4]
  have e6 : byB (encL t) 6 = t.bands.length := by rw [encL_seal h, seal_byB (by omega), h5]
  refine ⟨by unfold dAt; rw [e4, e6]; simp, e4, e5, e6, by rw [encL_seal h, seal_mrk (by omega), h2]⟩
theorem enc_row {t : Tab} (h : May t) {s : Nat} (hs : s < t.next.length) : decRow (encL t) s = t.next[s] := by
  obtain ⟨ha, e4, e5, e6, _⟩ := enc_at h s
  obtain ⟨hl, hn⟩ := h.rows _ (List.getElem_mem hs)
  have hr : rowB (encL t) s = rowL t.next[s] := by
    unfold rowB
    rw [ha, e4]
    apply List.ext_getElem?
    intro j
    by_cases hj : j < t.classes.toNat
    · rw [List.getElem?_take_of_lt hj, List.getElem?_drop, encL_r h hs hj (by omega)]
      unfold rowL
      rw [List.getElem?_map, List.getElem?_eq_getElem (by omega)]; rfl
    · rw [List.getElem?_eq_none (by rw [List.length_take]; omega), List.getElem?_eq_none (by unfold rowL; rw [List.length_map]; omega)]
  unfold decRow
  rw [hr]
  unfold nums rowL
  rw [List.map_map]
  exact (List.map_congr_left fun x hx => by simp only [Function.comp]; exact by8_small (hn x hx)).trans (List.map_id _)
theorem enc_band {t : Tab} (h : May t) {i : Nat} (hi : i < t.bands.length) : decBand (encL t) i = t.bands[i] := by
  have hb := h.2.1.at hi
  simp only [bandOk, Bool.and_eq_true, inR_iff] at hb
  have hl := encL_len h
  have hl2 := bodyL_len h
  have e3 : byB (encL t) (dB i + 3) = t.bands[i].2 := by
    have e := encL_b h hi (k := 3) (by decide)
    unfold byB
    rw [List.getD_eq_getElem?_getD, show dB i + 3 = 7 + 4 * i + 3 from rfl, e]
    exact by8_small hb.2
  have ht : ((encL t).drop (dB i)).take 3 = putL t.bands[i].1 3 := by
    apply List.ext_getElem?
    intro j
    by_cases hj : j < 3
    · rw [List.getElem?_take_of_lt hj, List.getElem?_drop, show dB i + j = 7 + 4 * i + j from rfl, encL_b h hi (by omega)]
      unfold bandL
      rw [List.getElem?_append_left (by rw [putL_len]; exact hj)]
    · rw [List.getElem?_eq_none (by rw [List.length_take]; omega), List.getElem?_eq_none (by rw [putL_len]; omega)]
  have hB : getB (encL t) (dB i) 3 = true := getB_iff.2 ⟨by decide, by decide, by omega, by unfold dB; omega⟩
  have e0 : getN (encL t) (dB i) 3 = t.bands[i].1 := by
    rw [getN, if_pos hB, show ((dB i : Nat) : Int).toNat = dB i by omega, show (3 : Int).toNat = 3 from rfl, ht]
    have b8 := @by8_toNat
    show beN [by8 (t.bands[i].1 / 65536), by8 (t.bands[i].1 / 256), by8 t.bands[i].1] = _
    simp only [beN, List.foldl_cons, List.foldl_nil, b8]
    omega
  unfold decBand
  rw [e0, e3]
theorem map_range_eq {α : Type} {l : List α} {f : Nat → α} (h : ∀ i (hi : i < l.length), f i = l[i]) : (List.range l.length).map f = l := by
  apply List.ext_getElem (by simp)
  intro i h1 h2
  simp [h i h2]
theorem bits_unbits {l : List Bool} : unbitsB (bitsL l) l.length = true ∧ unbitsTo (bitsL l) l.length l.length = l := by
  have hb : (bitsL l).length = (l.length + 7) / 8 := bitsL_len
  have hC : unbitsC (bitsL l) l.length = true := by
    unfold unbitsC
    simp only [Bool.and_eq_true, decide_eq_true_eq]
    omega
  refine ⟨(unbitsB_iff hC).2 fun k h1 h2 => ?_, ?_⟩
  · have hj : k / 8 < (bitsL l).length := by omega
    rw [bitAt_test, List.getD_eq_getElem?_getD, List.getElem?_eq_getElem hj]
    have := bits_at (l := l) l.length (k / 8) (k % 8) _ (Nat.le_refl _) (Nat.mod_lt _ (by decide)) (List.getElem?_eq_getElem hj)
    rw [show 8 * (k / 8) + k % 8 = k by omega] at this
    refine this.trans ?_
    simp [show ¬ k < l.length by omega]
  · rw [unbitsTo_map]
    refine map_range_eq fun i hi => ?_
    have hj : i / 8 < (bitsL l).length := by omega
    rw [bitAt_test, List.getD_eq_getElem?_getD, List.getElem?_eq_getElem hj]
    exact bitsL_bit hi (List.getElem?_eq_getElem hj)
theorem enc_tail {t : Tab} (h : May t) : decTail (encL t) = bitsL t.brk := by
  have hr : ∀ x ∈ t.next, x.length = t.classes.toNat := fun x hx => by have := (h.rows x hx).1; omega
  obtain ⟨ha, e4, e5, e6, _⟩ := enc_at h t.next.length
  have hl := encL_len h
  have hl2 := bodyL_len h
  have hlb : (bitsL t.brk).length = (t.next.length + 7) / 8 := by rw [bitsL_len, h.counts.2.2.1]
  unfold decTail
  rw [e5, show ((t.next.length : Nat) : Int).toNat = t.next.length by omega, ha]
  have hA : (hdL t ++ t.bands.flatMap bandL ++ t.next.flatMap rowL).length = 7 + 4 * t.bands.length + t.classes.toNat * t.next.length := by
    rw [List.length_append, List.length_append, hdL_len, flat4, flatR hr]
  have e : encL t = (hdL t ++ t.bands.flatMap bandL ++ t.next.flatMap rowL) ++ (bitsL t.brk ++ putL (sumL (bodyL t)).toNat 4) := by
    rw [encL_hd h]; simp only [List.append_assoc]
  rw [← hA]
  have hd : (encL t).drop (hdL t ++ t.bands.flatMap bandL ++ t.next.flatMap rowL).length = bitsL t.brk ++ putL (sumL (bodyL t)).toNat 4 := by
    rw [e]; exact List.drop_left
  rw [hd, hA, List.take_append_of_le_length (by omega), List.take_of_length_le (by omega)]
def cntOk (t : Tab) : Prop := t.classes ≤ 8 ∧ (t.next.length : Int) ≤ 5 ∧ 1 ≤ (t.bands.length : Int) ∧ (t.bands.length : Int) ≤ 60
theorem decE_enc {t : Tab} (h : May t) : decE (encL t) = if decC (encL t) = false then 24 else 0 := by
  obtain ⟨ha, e4, e5, e6, em⟩ := enc_at h t.next.length
  have hl := encL_len h
  have hl2 := bodyL_len h
  have h1 : ¬ (encL t).length < 11 := by omega
  have hs : sealedB (encL t) = true := by rw [encL_seal h]; exact seal_ok
  have hu : unbitsB (decTail (encL t)) (byB (encL t) 5) = true := by
    rw [enc_tail h, e5, ← h.counts.2.2.1]; exact bits_unbits.1
  simp [decE, h1, em, hs, hu]
theorem decC_enc {t : Tab} (h : May t) : decC (encL t) = true ↔ cntOk t := by
  obtain ⟨ha, e4, e5, e6, em⟩ := enc_at h t.next.length
  obtain ⟨hc, hn, hb, hl⟩ := h.counts
  have hV := encL_V h
  unfold decC cntOk
  rw [e4, e5, e6]
  simp only [Bool.and_eq_true, inR_iff, decide_eq_true_eq]
  omega
theorem dec_enc_no {t : Tab} (h : May t) (hc : ¬ cntOk t) : decE (encL t) = 24 := by
  rw [decE_enc h, if_pos]
  rw [← Bool.not_eq_true, decC_enc h]; exact hc
theorem dec_enc {t : Tab} (h : May t) (hc : cntOk t) : decE (encL t) = 0 ∧ dec (encL t) = t := by
  obtain ⟨ha, e4, e5, e6, em⟩ := enc_at h t.next.length
  have hE : decE (encL t) = 0 := by
    rw [decE_enc h, if_neg]
    rw [(decC_enc h).2 hc]; decide
  refine ⟨hE, ?_⟩
  have hb := h.counts.2.2.1
  have k6 : (byB (encL t) 6).toNat = t.bands.length := by omega
  have k5 : (byB (encL t) 5).toNat = t.next.length := by omega
  have u1 : unbitsL (decTail (encL t)) (byB (encL t) 5) = t.brk := by
    rw [enc_tail h, e5, ← hb, unbitsL, if_pos bits_unbits.1]
    exact bits_unbits.2
  unfold dec
  rw [if_pos hE]
  unfold decT
  rw [k6, k5, u1, e4]
  unfold decBs decRs
  rw [map_range_eq (l := t.bands) fun i hi => enc_band h hi, map_range_eq (l := t.next) fun i hi => enc_row h hi]
/-! ### A read table's bytes -/
theorem by8_byB {b : List UInt8} {i : Nat} (h : i < b.length) : by8 (byB b i) = b[i] := by rw [← byB_eq h, by8_self]
theorem len3 {α : Type} {l : List α} (h : l.length = 3) : ∃ a b c, l = [a, b, c] := by
  match l, h with
  | [a, b, c], _ => exact ⟨a, b, c, rfl⟩
theorem put_beN3 {l : List UInt8} (h : l.length = 3) : putL (beN l) 3 = l := by
  obtain ⟨a, b, c, rfl⟩ := len3 h
  have := a.toNat_lt; have := b.toNat_lt; have := c.toNat_lt
  have k : ∀ (n : Int) (x : UInt8), n % 256 = x.toNat → by8 n = x := fun n x hx => by
    rw [← UInt8.toNat_inj]; have := @by8_toNat n; omega
  show [by8 (beN [a, b, c] / 65536), by8 (beN [a, b, c] / 256), by8 (beN [a, b, c])] = [a, b, c]
  have e : beN [a, b, c] = ((a.toNat : Int) * 256 + b.toNat) * 256 + c.toNat := by simp [beN]
  rw [e, k _ a (by omega), k _ b (by omega), k _ c (by omega)]
theorem band_dec {b : List UInt8} {i : Nat} (h : dB i + 4 ≤ b.length) : bandL (decBand b i) = (b.drop (dB i)).take 4 := by
  have hB : getB b (dB i) 3 = true := getB_iff.2 ⟨by decide, by decide, by omega, by omega⟩
  have hl : ((b.drop (dB i)).take 3).length = 3 := by rw [List.length_take, List.length_drop]; omega
  have h1 := take_succ' (l := b.drop (dB i)) (i := 3) (by rw [List.length_drop]; omega)
  unfold bandL decBand
  simp only
  rw [getN, if_pos hB, show ((dB i : Nat) : Int).toNat = dB i by omega, show (3 : Int).toNat = 3 from rfl, put_beN3 hl, by8_byB (by omega), show (4 : Nat) = 3 + 1 from rfl, h1, List.getElem_drop]
theorem bands_dec {b : List UInt8} : ∀ k, 7 + 4 * k ≤ b.length → (decBs b k).flatMap bandL = (b.drop 7).take (4 * k)
  | 0, _ => by simp [decBs]
  | k + 1, h => by
    rw [decBs_succ, List.flatMap_append, bands_dec k (by omega), List.flatMap_singleton, band_dec (by unfold dB; omega), show 4 * (k + 1) = 4 * k + 4 by omega, List.take_add, List.drop_drop]
    rfl
theorem row_dec {b : List UInt8} {s : Nat} : rowL (decRow b s) = rowB b s := by
  unfold rowL decRow nums
  rw [List.map_map]
  exact (List.map_congr_left fun x _ => by simp only [Function.comp]; exact by8_self).trans (List.map_id _)
theorem rows_dec {b : List UInt8} : ∀ n, (decRs b n).flatMap rowL = (b.drop (dAt b 0)).take ((byB b 4).toNat * n)
  | 0 => by simp [decRs]
  | n + 1 => by
    rw [decRs_succ, List.flatMap_append, rows_dec n, List.flatMap_singleton, row_dec, Nat.mul_add, Nat.mul_one, List.take_add, List.drop_drop]
    unfold rowB
    rw [show dAt b 0 + (byB b 4).toNat * n = dAt b n by unfold dAt; omega]
theorem dec_no {b : List UInt8} (h : decE b ≠ 0) : dec b = ⟨0, [], [], []⟩ := by unfold dec; rw [if_neg h]
theorem dec_facts {b : List UInt8} (h : decE b = 0) : 11 ≤ b.length ∧ mrk b = true ∧ sealedB b = true ∧ decC b = true ∧ unbitsB (decTail b) (byB b 5) = true := by
  unfold decE at h
  split at h
  · exact absurd h (by decide)
  rename_i h1
  split at h
  · exact absurd h (by decide)
  rename_i h2
  split at h
  · exact absurd h (by decide)
  rename_i h3
  split at h
  · exact absurd h (by decide)
  rename_i h4
  split at h
  · exact absurd h (by decide)
  rename_i h5
  exact ⟨by omega, by simpa using h2, by simpa using h3, by simpa using h4, by simpa using h5⟩
theorem enc_dec {b : List UInt8} (h : decE b = 0) : May (dec b) ∧ encL (dec b) = b := by
  obtain ⟨h1, h2, h3, h4, h5⟩ := dec_facts h
  unfold decC at h4
  simp only [Bool.and_eq_true, inR_iff, decide_eq_true_eq] at h4
  obtain ⟨⟨⟨c1, c2⟩, c3⟩, c4⟩ := h4
  rw [lenV, if_pos ⟨inR_iff.2 (by omega), inR_iff.2 (by omega), inR_iff.2 (by omega)⟩] at c4
  have hm : ((byB b 4).toNat * (byB b 5).toNat : Nat) = byB b 4 * byB b 5 := by rw [Int.natCast_mul]; congr 1 <;> omega
  have a0 : dAt b 0 = 7 + 4 * (byB b 6).toNat := by unfold dAt; omega
  have an : dAt b (byB b 5).toNat = dAt b 0 + (byB b 4).toNat * (byB b 5).toNat := by unfold dAt; omega
  have hle : ∀ s, s < (byB b 5).toNat → dAt b s + (byB b 4).toNat ≤ dAt b (byB b 5).toNat := fun s hs => by rw [← dAt_succ]; exact dAt_le hs
  have hV : dec b = decT b := by unfold dec; rw [if_pos h]
  have hub : unbitsL (decTail b) (byB b 5) = unbitsTo (decTail b) (byB b 5).toNat (byB b 5).toNat := by rw [unbitsL, if_pos h5]
  have hbt : bitsL (unbitsTo (decTail b) (byB b 5).toNat (byB b 5).toNat) = decTail b := by
    unfold unbitsB at h5
    simp only [Bool.and_eq_true, decide_eq_true_eq] at h5
    exact h5.2
  have hMay : May (dec b) := by
    rw [hV]
    refine ⟨⟨inR_iff.2 ?_, inR_iff.2 ?_, ?_, ?_⟩, ⟨fun x hx => ?_⟩, ⟨fun x hx => ?_⟩⟩
    · show 1 ≤ byB b 4 ∧ byB b 4 ≤ 255; omega
    · show 1 ≤ ((decRs b (byB b 5).toNat).length : Int) ∧ ((decRs b (byB b 5).toNat).length : Int) ≤ 255
      rw [decRs_len]; omega
    · show ((unbitsL (decTail b) (byB b 5)).length : Int) = (decRs b (byB b 5).toNat).length
      rw [hub, unbitsTo_len, decRs_len]
    · show ¬ 255 < ((decBs b (byB b 6).toNat).length : Int)
      rw [decBs_len]; omega
    · obtain ⟨i, _, rfl⟩ := List.mem_map.1 hx
      have hg : 0 ≤ getN b (dB i) 3 ∧ getN b (dB i) 3 ≤ 16777215 := by
        unfold getN
        split
        · have := beN_lt (l := (b.drop ((dB i : Nat) : Int).toNat).take (3 : Int).toNat) (by rw [List.length_take]; omega)
          omega
        · omega
      have := byB_r (b := b) (i := dB i + 3)
      simp only [bandOk, decBand, Bool.and_eq_true, inR_iff]
      omega
    · obtain ⟨i, hi, rfl⟩ := List.mem_map.1 hx
      have hi := List.mem_range.1 hi
      have hl := hle i hi
      have hlen : (rowB b i).length = (byB b 4).toNat := by unfold rowB; rw [List.length_take, List.length_drop]; omega
      simp only [rowOk, Bool.and_eq_true, decide_eq_true_eq, Bool.not_eq_true', List.any_eq_false]
      refine ⟨?_, fun v hv => ?_⟩
      · show ((decRow b i).length : Int) = byB b 4
        unfold decRow nums
        rw [List.length_map, hlen]; omega
      · obtain ⟨u, _, rfl⟩ := List.mem_map.1 hv
        have := u.toNat_lt
        simp only [Bool.not_eq_false, inR_iff]
        omega
  refine ⟨hMay, ?_⟩
  have e7 : hdL (dec b) = b.take 7 := by
    rw [hV]
    have e4 : b.take 4 = [66, 82, 75, 49] := by unfold mrk at h2; exact beq_iff_eq.1 h2
    have s4 := take_succ' (l := b) (i := 4) (by omega)
    have s5 := take_succ' (l := b) (i := 5) (by omega)
    have s6 := take_succ' (l := b) (i := 6) (by omega)
    rw [s6, s5, s4, e4]
    unfold hdL decT
    simp only
    rw [decRs_len, decBs_len, show (((byB b 5).toNat : Nat) : Int) = byB b 5 by omega, show (((byB b 6).toNat : Nat) : Int) = byB b 6 by omega, by8_byB (by omega), by8_byB (by omega), by8_byB (by omega)]
    rfl
  have hbody : bodyL (dec b) = b.take (b.length - 4) := by
    unfold bodyL
    rw [e7, hV]
    unfold decT
    simp only
    rw [bands_dec _ (by omega), rows_dec, hub, hbt, ← List.take_add, a0, ← List.take_add]
    unfold decTail
    rw [an, a0, ← List.take_add]
    congr 1
    omega
  rw [encL_seal hMay]
  unfold seal4
  rw [hbody, ← (sealed_iff (by omega)).1 h3, put_beN (by rw [List.length_drop]; omega), List.take_append_drop]
theorem may_small {t : Tab} (h : May t) : small t := by
  obtain ⟨hc, hn, hb, hl⟩ := h.counts
  exact ⟨⟨by omega, by omega, by omega⟩, fun x hx => by have := (h.rows x hx).1; omega⟩
theorem dec_small {b : List UInt8} : small (dec b) := by
  by_cases h : decE b = 0
  · exact may_small (enc_dec h).1
  · rw [dec_no h]; exact ⟨⟨by decide, by decide, by decide⟩, by simp⟩
end Go.V
