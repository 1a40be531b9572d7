/- Tables that may be, with other breaks. -/
import Derived.Test.YthbmifpfhdlicaaP12
namespace Go.V
def negTo (l : List Bool) (s : Nat) : List Bool := (l.take s).map (!·) ++ l.drop s
theorem negTo_len {l : List Bool} {s : Nat} : (negTo l s).length = l.length := by
  unfold negTo; rw [List.length_append, List.length_map, List.length_take, List.length_drop]; omega
theorem negTo_get {l : List Bool} {s i : Nat} (h : i < l.length) : (negTo l s)[i]? = some (if i < s then !l[i] else l[i]) := by
  unfold negTo
  by_cases k : i < s
  · rw [List.getElem?_append_left (by rw [List.length_map, List.length_take]; omega), if_pos k, List.getElem?_map, List.getElem?_take_of_lt k, List.getElem?_eq_getElem h]; rfl
  · rw [List.getElem?_append_right (by rw [List.length_map, List.length_take]; omega), if_neg k, List.length_map, List.length_take, List.getElem?_drop, show s + (i - min s l.length) = i by omega, List.getElem?_eq_getElem h]
theorem negTo_succ {l : List Bool} {s : Nat} (h : s < l.length) : (negTo l s).set s (!l[s]) = negTo l (s + 1) := by
  apply List.ext_getElem?
  intro i
  by_cases hi : i < l.length
  · rw [List.getElem?_set, negTo_get hi, negTo_get hi, negTo_len]
    by_cases e : s = i
    · subst e; rw [if_pos rfl, if_pos h, if_pos (by omega)]
    · rw [if_neg e]; congr 1
      by_cases k : i < s
      · rw [if_pos k, if_pos (by omega)]
      · rw [if_neg k, if_neg (by omega)]
  · rw [List.getElem?_eq_none (by rw [List.length_set, negTo_len]; omega), List.getElem?_eq_none (by rw [negTo_len]; omega)]
theorem negTo_all {l : List Bool} {s : Nat} (h : l.length ≤ s) : negTo l s = l.map (!·) := by
  unfold negTo; rw [List.take_of_length_le h, List.drop_eq_nil_of_le h, List.append_nil]
def Tab.withB (t : Tab) (l : List Bool) : Tab := ⟨t.classes, t.bands, t.next, l⟩
theorem cnt_withB {t : Tab} (h : Cnt t) {l : List Bool} (hl : l.length = t.next.length) : Cnt (t.withB l) := ⟨h.c, h.n, h.b, hl, h.r⟩
theorem validE_withB {t : Tab} (h : Valid t) {l : List Bool} (hl : l.length = t.next.length) : validE (t.withB l) = if lstV (t.withB l) = false then 30 else 0 := by
  have h1 : cntV (t.withB l) = true := cntV_iff.2 (cnt_withB h.cnt hl)
  have h2 : bndV (t.withB l).bands = true := h.bnd
  have h3 : clsV (t.withB l) = true := h.cls
  have h4 : nxtV (t.withB l) = true := h.nxt
  have h5 : numV (t.withB l) = true := h.num
  have h7 : colV (t.withB l) = true := h.col
  have f : ¬ (true = false) := by decide
  unfold validE
  rw [h1, h2, h3, h4, h5, h7, if_neg f, if_neg f, if_neg f, if_neg f, if_neg f, if_neg f]
theorem runW_withB {t : Tab} {l : List Bool} {s : Nat} {w : List Nat} : runW (t.withB l) s w = runW t s w := rfl
theorem valid_neg {t : Tab} (h : Valid t) : validE (t.withB (t.brk.map (!·))) = 0 := by
  rw [validE_withB h (by rw [List.length_map]; exact h.cnt.k), if_neg]
  rw [Bool.not_eq_false]
  refine pairsV_iff.2 fun a b ha hb => ?_
  have hI := inn_of h.cnt h.nxt
  have hbk : ∀ s, s < t.next.length → bk (t.withB (t.brk.map (!·))) s = !bk t s := fun s hs => by
    have hs2 : s < t.brk.length := by rw [h.cnt.k]; exact hs
    rw [bk_eq hs2, bk_eq (show s < (t.withB (t.brk.map (!·))).brk.length by simp only [Tab.withB, List.length_map]; exact hs2)]
    simp [Tab.withB]
  have := pairsV_iff.1 h.lst a b ha hb
  rw [Bool.not_eq_true'] at this ⊢
  rw [alk_not] at this ⊢
  intro hA
  apply this
  intro w hw
  have h1 := hA w hw
  rw [runW_withB, runW_withB, hbk _ (hI.run ha hw), hbk _ (hI.run (show b < t.next.length by
    have : a < t.next.length := ha
    omega) hw)] at h1
  cases h2 : bk t (runW t a w) <;> cases h3 : bk t (runW t b w) <;> simp_all
end Go.V
