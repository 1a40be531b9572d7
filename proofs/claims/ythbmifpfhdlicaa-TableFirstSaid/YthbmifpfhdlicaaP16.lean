/- The last tests of a table's changed bytes. -/
import Derived.Test.YthbmifpfhdlicaaP9
namespace Go.V
theorem by8_succ_ne {a : UInt8} : by8 ((a.toNat : Int) + 1) ≠ a := by
  intro h
  have h1 := @by8_toNat ((a.toNat : Int) + 1)
  rw [h] at h1
  have := a.toNat_lt
  omega
theorem by8_top {a : UInt8} : (by8 ((a.toBitVec ||| 128#8).toNat : Int)).toNat.testBit 7 = true := by
  have h1 := @by8_toNat ((a.toBitVec ||| 128#8).toNat : Int)
  have h2 : (by8 ((a.toBitVec ||| 128#8).toNat : Int)).toNat = (a.toBitVec ||| 128#8).toNat := by
    have := (a.toBitVec ||| 128#8).isLt
    omega
  rw [h2, BitVec.toNat_or, Nat.testBit_or]
  have : (128#8).toNat.testBit 7 = true := by decide
  rw [this, Bool.or_true]
theorem by8_top' {a : UInt8} : (by8 ((@HOr.hOr (BitVec 8) (BitVec 8) (BitVec 8) (@instHOrOfOrOp (BitVec IntKind.u8.bits) (@BitVec.instOrOp IntKind.u8.bits)) a.toBitVec (128#8)).toNat : Int)).toNat.testBit 7 = true := by8_top
/-- bytes of a table's form, whose word is known -/
structure Sld (x : List UInt8) (n : Nat) : Prop where
  len : x.length = n + 4
  n7 : 7 ≤ n
  m4 : mrk x = true
theorem Sld.of {p : List UInt8} {n : Nat} (h : p.length = n) (h7 : 7 ≤ n) (hm : mrk p = true) : Sld (seal4 p) n := ⟨by rw [seal_len, h], h7, by rw [seal_mrk (by omega), hm]⟩
theorem Sld.set {x : List UInt8} {n j : Nat} {v : UInt8} (h : Sld x n) (hj : 4 ≤ j) : Sld (x.set j v) n := ⟨by rw [List.length_set, h.len], h.n7, by rw [mrk_set hj, h.m4]⟩
theorem Sld.mark {x : List UInt8} {n j : Nat} {a : UInt8} (h : Sld x n) (hj : j < 4) (ha : x[j]? = some a) : decE (x.set j (by8 ((a.toNat : Int) + 1))) = 22 := by
  have := h.len; have := h.n7
  have hl : j < x.length := by omega
  refine dec_mark (by omega) h.m4 hj ?_
  rw [List.getElem?_eq_getElem hl] at ha
  rw [Option.some.inj ha]
  exact by8_succ_ne
theorem Sld.sum {p : List UInt8} {n j : Nat} {a : UInt8} (h : Sld (seal4 p) n) (hj : 4 ≤ j) (ha : (seal4 p)[j]? = some a) : decE ((seal4 p).set j (by8 ((a.toNat : Int) + 1))) = 23 := by
  have := h.len; have := h.n7
  have hl : j < (seal4 p).length := by rcases Nat.lt_or_ge j (seal4 p).length with h | h; exact h; rw [List.getElem?_eq_none h] at ha; cases ha
  refine dec_sum (by omega) h.m4 seal_ok hj hl ?_
  rw [List.getElem?_eq_getElem hl] at ha
  rw [Option.some.inj ha]
  exact by8_succ_ne
theorem dec_count5 {p : List UInt8} {n : Nat} {v : UInt8} (h : p.length = n) (h7 : 7 ≤ n) (hm : mrk p = true) (hv : 5 < v.toNat) : decE (seal4 (p.set 5 v)) = 24 :=
  dec_count (by rw [List.length_set]; omega) (by rw [mrk_set (by decide), hm]) (by rw [byB_set (by omega), if_pos rfl]; omega)
theorem isS_get {x : List UInt8} {i : Nat} (h : i < x.length) : ((Option.map pY x[i]?).bind fun c => c.cells[0]?).isSome = true := by
  rw [List.getElem?_eq_getElem h]; simp [pY]
theorem rem100 {m : UInt8} : 5 < (by8 (6 + ((m.toNat : Int)).tmod 100)).toNat := by
  have h1 := @by8_toNat (6 + ((m.toNat : Int)).tmod 100)
  have h2 := Int.tmod_nonneg (a := (m.toNat : Int)) 100 (by omega)
  have h3 := Int.tmod_lt_of_pos (m.toNat : Int) (show (0 : Int) < 100 by decide)
  omega
end Go.V
