/- What is told of states and breaks, by rows put together; bands by their places. -/
import Derived.Test.YtldoffdakikaeaaDoorP14
namespace Go.V
theorem lastTo_at {l : List (Int × Int)} {v : Int} {k : Nat} : ∀ {n : Nat}, k < n → (l.getD k (0, 0)).1 ≤ v → (∀ j, k < j → j < n → v < (l.getD j (0, 0)).1) → lastTo l v n = k
  | 0, h, _, _ => absurd h (by omega)
  | n + 1, h, h1, h2 => by
    rw [lastTo]
    rcases (show k = n ∨ k < n by omega) with rfl | hk
    · rw [if_pos h1]
    · rw [if_neg (by have := h2 n hk (by omega); omega), lastTo_at hk h1 (fun j a b => h2 j a (by omega))]
theorem bnd_rise {l : List (Int × Int)} (h : bndV l = true) : ∀ {i j : Nat}, i < j → j < l.length → (l.getD i (0, 0)).1 < (l.getD j (0, 0)).1 := by
  have hb := bndV_iff.1 h
  have step : ∀ j, j + 1 < l.length → (l.getD j (0, 0)).1 < (l.getD (j + 1) (0, 0)).1 := fun j hj => by
    have := hb (j + 1) hj
    unfold bOk at this
    rw [if_neg (by omega)] at this
    simp only [Bool.and_eq_true, decide_eq_true_eq] at this
    exact this.2.1
  intro i j
  induction j with
  | zero => intro h; omega
  | succ j ih =>
    intro hij hj
    rcases (show i = j ∨ i < j by omega) with rfl | k
    · exact step i hj
    · have h1 := ih k (by omega)
      have h2 := step j hj
      omega
theorem bnd_first {l : List (Int × Int)} (h : bndV l = true) (h0 : 0 < l.length) : (l.getD 0 (0, 0)).1 = 0 := by
  have := bndV_iff.1 h 0 h0
  unfold bOk at this
  rw [if_pos rfl] at this
  simp only [Bool.and_eq_true, decide_eq_true_eq] at this
  exact this.2
theorem bnd_sc {l : List (Int × Int)} (h : bndV l = true) {i : Nat} (hi : i < l.length) : isSc (l.getD i (0, 0)).1 = true := by
  have := bndV_iff.1 h i hi
  unfold bOk at this
  simp only [Bool.and_eq_true] at this
  exact this.1
theorem lastTo_ge {l : List (Int × Int)} {v : Int} {k : Nat} : ∀ {n : Nat}, k < n → (l.getD k (0, 0)).1 ≤ v → (k : Int) ≤ lastTo l v n
  | 0, h, _ => absurd h (by omega)
  | n + 1, h, h1 => by
    rw [lastTo]
    split
    · omega
    · rename_i hc
      rcases (show k = n ∨ k < n by omega) with rfl | hk
      · exact absurd h1 hc
      · exact lastTo_ge hk h1
/-- each scalar has a class -/
theorem Valid.classB {t : Tab} (h : Valid t) {v : Int} : classB t.bands v = isSc v := by
  cases hs : isSc v
  · exact (classB_no hs).1
  · have hb := h.cnt.b
    have h0 := bnd_first h.bnd (by omega)
    have hv := isSc_iff.1 hs
    have := lastTo_ge (l := t.bands) (v := v) (k := 0) (n := t.bands.length) (by omega) (by omega)
    unfold Go.V.classB bandI
    rw [if_pos hs, decide_eq_true (by omega)]
theorem classV_at {l : List (Int × Int)} {v : Int} {k : Nat} (hs : isSc v = true) (hk : k < l.length) (h1 : (l.getD k (0, 0)).1 ≤ v) (h2 : ∀ j, k < j → j < l.length → v < (l.getD j (0, 0)).1) : classV l v = l[k].2 := by
  have : bandI l v = k := by unfold bandI; rw [if_pos hs, lastTo_at hk h1 h2]
  unfold classV
  rw [this, if_pos (by omega), Int.toNat_natCast, List.getD_eq_getElem?_getD, List.getElem?_eq_getElem hk]; rfl
/-- states behind a row's: they begin with its own -/
theorem stsL_pre {t : Tab} {l m : List Int} {s : Nat} {Q : List Nat} (h : stsL t s (l ++ m) = some Q) : ∃ p u q, stsL t s l = some (p ++ [u]) ∧ Q = p ++ [u] ++ q ∧ p.length = l.length := by
  cases hl : stsL t s l with
  | none => rw [stsL_no hl] at h; cases h
  | some P =>
    have hP := stsL_ne hl
    have hne : P ≠ [] := by rintro rfl; simp at hP
    obtain ⟨p, u, rfl⟩ : ∃ p u, P = p ++ [u] := ⟨P.dropLast, P.getLast hne, (List.dropLast_concat_getLast hne).symm⟩
    rw [stsL_app hl, Option.map_eq_some_iff] at h
    obtain ⟨q, hq, rfl⟩ := h
    have hq1 := (stsL_ne hq).2
    cases q with
    | nil => cases hq1
    | cons a q =>
      simp at hq1; subst hq1
      exact ⟨p, a, q, rfl, by simp, by have := hP.1; simp at this; exact this⟩
theorem brkIx_app {t : Tab} : ∀ {q p : List Nat}, ∃ r, brkIx t (p ++ q) = brkIx t p ++ r ∧ ∀ x ∈ r, (p.length : Int) ≤ x
  | [], p => ⟨[], by simp, by simp⟩
  | s :: q, p => by
    obtain ⟨r, h1, h2⟩ := brkIx_app (t := t) (q := q) (p := p ++ [s])
    refine ⟨(if bk t s = true then [(p.length : Int)] else []) ++ r, by rw [show p ++ s :: q = p ++ [s] ++ q by simp, h1, brkIx_snoc, List.append_assoc], ?_⟩
    intro x hx
    rcases List.mem_append.1 hx with hx | hx
    · split at hx
      · obtain rfl := List.mem_singleton.1 hx; exact Int.le_refl _
      · cases hx
    · have := h2 x hx
      rw [List.length_append] at this
      simp at this
      omega
theorem brkIx_lt {t : Tab} {p : List Nat} : ∀ x ∈ brkIx t p, 0 ≤ x ∧ x < p.length := by
  intro x hx
  unfold brkIx at hx
  obtain ⟨i, hi, rfl⟩ := List.mem_map.1 hx
  have := List.mem_range.1 (List.mem_filter.1 hi).1
  omega
/-- of a longer row's breaks those up to a row's last place are the row's own -/
theorem upto_brk {t : Tab} {p q : List Nat} {n : Int} (h : (p.length : Int) = n + 1) : (brkIx t (p ++ q)).filter (fun x => decide (x ≤ n)) = brkIx t p := by
  obtain ⟨r, h1, h2⟩ := brkIx_app (t := t) (p := p) (q := q)
  rw [h1, List.filter_append, List.filter_eq_self.2 (fun x hx => by have := brkIx_lt x hx; simp; omega), List.filter_eq_nil_iff.2 (fun x hx => by have := h2 x hx; simp; omega), List.append_nil]
end Go.V
