/- What is wrong first is told first: a table's bytes, changed in one way or another. -/
import Derived.Test.YthbmifpfhdlicaaP8
namespace Go.V
theorem dec_short {x : List UInt8} (h : x.length < 11) : decE x = 21 := by simp [decE, h]
theorem mrk_set {x : List UInt8} {j : Nat} {v : UInt8} (h : 4 ≤ j) : mrk (x.set j v) = mrk x := by
  unfold mrk; rw [List.take_set, List.set_eq_of_length_le (by rw [List.length_take]; omega)]
theorem mrk_bad {x : List UInt8} {j : Nat} {v : UInt8} (hm : mrk x = true) (hj : j < 4) (hl : j < x.length) (hv : v ≠ x[j]) : mrk (x.set j v) = false := by
  unfold mrk at hm ⊢
  have e := beq_iff_eq.1 hm
  rw [← Bool.not_eq_true, beq_iff_eq, List.take_set, ← e]
  intro h
  have h1 : ((x.take 4).set j v)[j]? = (x.take 4)[j]? := by rw [h]
  rw [List.getElem?_set_self (by rw [List.length_take]; omega), List.getElem?_take_of_lt hj, List.getElem?_eq_getElem hl] at h1
  exact hv (Option.some.inj h1)
theorem dec_mark {x : List UInt8} {j : Nat} {v : UInt8} (h : 11 ≤ x.length) (hm : mrk x = true) (hj : j < 4) (hv : v ≠ x[j]'(by omega)) : decE (x.set j v) = 22 := by
  have h1 : ¬ (x.set j v).length < 11 := by rw [List.length_set]; omega
  have h2 := mrk_bad hm hj (by omega) hv
  simp only [decE, if_neg h1, h2, if_true]
theorem dec_sum {x : List UInt8} {j : Nat} {v : UInt8} (h : 11 ≤ x.length) (hm : mrk x = true) (hs : sealedB x = true) (hj : 4 ≤ j) (hl : j < x.length) (hv : v ≠ x[j]) : decE (x.set j v) = 23 := by
  have h1 : ¬ (x.set j v).length < 11 := by rw [List.length_set]; omega
  have h2 : mrk (x.set j v) = true := by rw [mrk_set hj, hm]
  have h3 := sealed_set (by omega) hs hl hv
  simp only [decE, if_neg h1, h2, h3, if_true]
  rfl
theorem dec_count {p : List UInt8} (h : 7 ≤ p.length) (hm : mrk p = true) (h5 : 5 < byB p 5) : decE (seal4 p) = 24 := by
  have h1 : ¬ (seal4 p).length < 11 := by rw [seal_len]; omega
  have h2 : mrk (seal4 p) = true := by rw [seal_mrk (by omega), hm]
  have h3 : decC (seal4 p) = false := by
    unfold decC
    have hI : inR (byB p 5) 1 5 = false := inR_not.2 (by omega)
    rw [seal_byB (i := 5) (by omega), hI]
    simp
  simp [decE, h1, h2, seal_ok, h3]
theorem byB_set {x : List UInt8} {i j : Nat} {v : UInt8} (h : i < x.length) : byB (x.set i v) j = if i = j then (v.toNat : Int) else byB x j := by
  unfold byB
  rw [List.getD_eq_getElem?_getD, List.getElem?_set]
  split
  · rename_i e; subst e; first | rfl | (rw [if_pos h]; rfl)
  · rw [List.getD_eq_getElem?_getD]
/-- a bit beyond the states -/
theorem dec_bits {t : Tab} (h : May t) (hc : cntOk t) (_hn : t.next.length % 8 ≠ 0) {v : UInt8} (hv : v.toNat.testBit 7 = true) : decE (seal4 ((bodyL t).set ((bodyL t).length - 1) v)) = 25 := by
  obtain ⟨hC, hN, hB, hL⟩ := h.counts
  obtain ⟨f1, f2, f3, f4, f5⟩ := body_facts h
  have hbl := bodyL_len h
  have hV := body_lenV h
  have hpl : ((bodyL t).set ((bodyL t).length - 1) v).length = (bodyL t).length := List.length_set
  have g : ∀ j, j < 7 → (bodyL t).length - 1 ≠ j := fun j hj => by omega
  have b4 : byB (seal4 ((bodyL t).set ((bodyL t).length - 1) v)) 4 = t.classes := by rw [seal_byB (by omega), byB_set (by omega), if_neg (g 4 (by decide)), f3]
  have b5 : byB (seal4 ((bodyL t).set ((bodyL t).length - 1) v)) 5 = t.next.length := by rw [seal_byB (by omega), byB_set (by omega), if_neg (g 5 (by decide)), f4]
  have b6 : byB (seal4 ((bodyL t).set ((bodyL t).length - 1) v)) 6 = t.bands.length := by rw [seal_byB (by omega), byB_set (by omega), if_neg (g 6 (by decide)), f5]
  have h1 : ¬ (seal4 ((bodyL t).set ((bodyL t).length - 1) v)).length < 11 := by rw [seal_len]; omega
  have h2 : mrk (seal4 ((bodyL t).set ((bodyL t).length - 1) v)) = true := by rw [seal_mrk (by omega), mrk_set (by omega), f2]
  obtain ⟨c1, c2, c3, c4⟩ := hc
  have h3 : decC (seal4 ((bodyL t).set ((bodyL t).length - 1) v)) = true := by
    unfold decC
    rw [b4, b5, b6, hV, seal_len, hpl]
    simp only [Bool.and_eq_true, inR_iff, decide_eq_true_eq]
    omega
  have hda : dAt (seal4 ((bodyL t).set ((bodyL t).length - 1) v)) t.next.length = (bodyL t).length - (t.next.length + 7) / 8 := by
    unfold dAt; rw [b4, b6]; omega
  have htl : (decTail (seal4 ((bodyL t).set ((bodyL t).length - 1) v))).length = (t.next.length + 7) / 8 := by
    unfold decTail
    rw [b5, show ((t.next.length : Nat) : Int).toNat = t.next.length by omega, hda, List.length_take, List.length_drop, seal_len, hpl]; omega
  have hlast : (decTail (seal4 ((bodyL t).set ((bodyL t).length - 1) v)))[(t.next.length + 7) / 8 - 1]? = some v := by
    unfold decTail
    rw [b5, show ((t.next.length : Nat) : Int).toNat = t.next.length by omega, hda, List.getElem?_take_of_lt (by rw [seal_len, hpl]; omega), List.getElem?_drop,
      show (bodyL t).length - (t.next.length + 7) / 8 + ((t.next.length + 7) / 8 - 1) = (bodyL t).length - 1 by omega]
    unfold seal4
    rw [List.getElem?_append_left (by rw [hpl]; omega), List.getElem?_set_self (by omega)]
  have h4 : unbitsB (decTail (seal4 ((bodyL t).set ((bodyL t).length - 1) v))) (byB (seal4 ((bodyL t).set ((bodyL t).length - 1) v)) 5) = false := by
    rw [b5]
    have hU : unbitsC (decTail (seal4 ((bodyL t).set ((bodyL t).length - 1) v))) t.next.length = true := by
      unfold unbitsC
      rw [htl]
      simp only [Bool.and_eq_true, decide_eq_true_eq]
      omega
    rw [← Bool.not_eq_true, unbitsB_iff hU]
    intro hh
    have := hh (8 * ((t.next.length + 7) / 8 - 1) + 7) (by omega) (by rw [htl]; omega)
    rw [bitAt_test, show (8 * ((t.next.length + 7) / 8 - 1) + 7) / 8 = (t.next.length + 7) / 8 - 1 by omega, show (8 * ((t.next.length + 7) / 8 - 1) + 7) % 8 = 7 by omega, List.getD_eq_getElem?_getD, hlast] at this
    rw [show ((some v).getD 0 : UInt8) = v from rfl, hv] at this
    cases this
  simp [decE, h1, h2, seal_ok, h3, h4]
theorem or128 {x : UInt8} : (x ||| 128).toNat.testBit 7 = true := by
  rw [UInt8.toNat_or, Nat.testBit_or]
  have : (128 : UInt8).toNat.testBit 7 = true := by decide
  rw [this]; simp
theorem add1_ne {x : UInt8} : x + 1 ≠ x := by
  intro h
  have := congrArg UInt8.toNat h
  rw [UInt8.toNat_add] at this
  have h1 : (1 : UInt8).toNat = 1 := rfl
  have := x.toNat_lt
  omega
end Go.V
