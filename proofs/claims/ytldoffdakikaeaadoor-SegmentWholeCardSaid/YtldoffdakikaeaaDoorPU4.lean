/- The bytes at which there is a break. -/
import Derived.Test.YtldoffdakikaeaaDoorPU3
import Derived.Test.YtldoffdakikaeaaDoorP15
namespace Go.V
set_option linter.unusedVariables false
set_option linter.unusedSimpArgs false
noncomputable def scU (s : List UInt8) : List Int := (pcs s).map (·.1)
noncomputable def offU (s : List UInt8) : List Int := (stand 0 (pcs s)).map (·.2.1) ++ [(s.length : Int)]
noncomputable def ofU (t : Tab) (s : List UInt8) : List Int := (brkV t (scU s)).map fun i => (offU s).getD i.toNat 0
noncomputable def okU (t : Tab) (s : List UInt8) : Bool := staB t (scU s)
theorem stand_sc : ∀ {l : List (Int × Nat)} {k : Nat}, (stand k l).map (·.1) = l.map (·.1)
  | [], _ => by rw [stand_nil]; rfl
  | p :: l, k => by rw [stand_cons, List.map_cons, List.map_cons, stand_sc]
theorem scU_sc {s : List UInt8} : scU s = (stand 0 (pcs s)).map (·.1) := stand_sc.symm
theorem scU_len {s : List UInt8} : (scU s).length = (pcs s).length := by unfold scU; rw [List.length_map]
theorem offU_len {s : List UInt8} : (offU s).length = (pcs s).length + 1 := by unfold offU; rw [List.length_append, List.length_map, stand_len]; rfl
theorem sizes_len : ∀ {l : List (Int × Nat)}, (∀ p ∈ l, 1 ≤ p.2) → l.length ≤ sizes l
  | [], _ => by simp [sizes]
  | p :: l, h => by
    have := sizes_len (l := l) (fun q hq => h q (by simp [hq]))
    have := h p (by simp)
    simp only [sizes, List.map_cons, List.sum_cons, List.length_cons] at *; omega
theorem pcs_len {s : List UInt8} : (pcs s).length ≤ s.length := by
  have := sizes_len (l := pcs s) (fun p hp => (pcs_mem hp).2.1)
  rwa [pcs_sizes] at this
theorem brkV_rng {t : Tab} {l : List Int} : ∀ i ∈ brkV t l, 0 ≤ i ∧ i ≤ l.length := by
  intro i hi
  unfold brkV at hi
  cases h : stsV t l with
  | none => rw [h] at hi; simp at hi
  | some p =>
    rw [h] at hi
    have h1 := brkIx_lt i (by simpa using hi)
    have h2 : stsL t 0 l = some p := by unfold stsV at h; split at h; exact h; cases h
    have := (stsL_ne h2).1
    omega
theorem brkV_no {t : Tab} {l : List Int} (h : staB t l = false) : brkV t l = [] := by
  unfold staB at h; unfold brkV
  cases hs : stsV t l with
  | none => rfl
  | some p => rw [hs] at h; cases h
theorem scU_all {s : List UInt8} : ∀ v ∈ scU s, isSc v = true := by
  intro v hv
  obtain ⟨p, hp, rfl⟩ := List.mem_map.1 hv
  exact (pcs_mem hp).1
theorem stsL_scs {t : Tab} (h : Valid t) : ∀ {l : List Int} {s : Nat}, (∀ v ∈ l, isSc v = true) → ∃ p, stsL t s l = some p
  | [], s, _ => ⟨_, rfl⟩
  | v :: l, s, hl => by
    have hc : classB t.bands v = true := by rw [h.classB]; exact hl v (by simp)
    obtain ⟨p, hp⟩ := stsL_scs h (l := l) (s := nx t s (classV t.bands v).toNat) (fun u hu => hl u (by simp [hu]))
    exact ⟨s :: p, by simp only [stsL]; rw [if_pos hc, hp]; rfl⟩
theorem okU_eq {t : Tab} {s : List UInt8} : okU t s = decide (validE t = 0) := by
  unfold okU staB stsV
  by_cases h : validE t = 0
  · rw [if_pos h]
    obtain ⟨p, hp⟩ := stsL_scs (validE_iff.1 h) (l := scU s) (s := 0) scU_all
    rw [hp]; simp [h]
  · rw [if_neg h]; simp [h]
theorem stand_at : ∀ {l : List (Int × Nat)} {k : Nat} {p : Int × Int × Int}, p ∈ stand k l → (k : Int) ≤ p.2.1 ∧ p.2.1 + p.2.2 ≤ (k + sizes l : Nat)
  | [], k, p, h => by rw [stand_nil] at h; cases h
  | q :: l, k, p, h => by
    rw [stand_cons] at h
    rcases List.mem_cons.1 h with rfl | h
    · simp only [sizes, List.map_cons, List.sum_cons]; omega
    · have := stand_at h
      simp only [sizes, List.map_cons, List.sum_cons] at *; omega
theorem offU_mem {s : List UInt8} : ∀ x ∈ offU s, 0 ≤ x ∧ x ≤ s.length := by
  intro x hx
  unfold offU at hx
  rcases List.mem_append.1 hx with h | h
  · obtain ⟨p, hp, rfl⟩ := List.mem_map.1 h
    have h1 := stand_at hp
    rw [pcs_sizes] at h1
    obtain ⟨hl, hk⟩ : 0 ≤ p.2.2 ∧ True := by
      refine ⟨?_, trivial⟩
      have : ∀ {l : List (Int × Nat)} {k : Nat} {p : Int × Int × Int}, p ∈ stand k l → 0 ≤ p.2.2 := by
        intro l
        induction l with
        | nil => intro k p h; rw [stand_nil] at h; cases h
        | cons q l ih =>
          intro k p h
          rw [stand_cons] at h
          rcases List.mem_cons.1 h with rfl | h
          · simp
          · exact ih h
      exact this hp
    omega
  · rw [List.mem_singleton] at h; omega
/-! ### Behind a text that is well formed -/
theorem scU_app {a b : List UInt8} (h : validU a = true) : scU (a ++ b) = scU a ++ scU b := by unfold scU; rw [pcs_app h, List.map_append]
theorem offU_app {a b : List UInt8} (h : validU a = true) {i : Nat} (hi : i ≤ (pcs a).length) : (offU (a ++ b)).getD i 0 = (offU a).getD i 0 := by
  unfold offU
  rw [pcs_app h, stand_app, List.map_append, Nat.zero_add, pcs_sizes, List.append_assoc]
  simp only [List.getD_eq_getElem?_getD]
  have hA : ((stand 0 (pcs a)).map (·.2.1)).length = (pcs a).length := by rw [List.length_map, stand_len]
  generalize (stand 0 (pcs a)).map (·.2.1) = A at hA
  rcases Nat.lt_or_eq_of_le hi with h1 | h1
  · rw [List.getElem?_append_left (by omega), List.getElem?_append_left (by omega)]
  · rw [List.getElem?_append, List.getElem?_append (l₁ := A) (l₂ := [(a.length : Int)]), if_neg (by omega), if_neg (by omega), h1, hA, Nat.sub_self]
    simp only [List.getElem?_cons_zero, Option.getD_some]
    by_cases hb : b = []
    · subst hb; rw [pcs_nil, stand_nil]; simp
    · rw [pcs_cons hb, stand_cons]; simp
theorem offU_big {a b : List UInt8} (h : validU a = true) {i : Nat} (hi : (pcs a).length < i) (hi2 : i ≤ (pcs (a ++ b)).length) : (a.length : Int) < (offU (a ++ b)).getD i 0 := by
  have hbn : b ≠ [] := by rintro rfl; rw [List.append_nil] at hi2; omega
  unfold offU
  rw [pcs_app h, stand_app, List.map_append, Nat.zero_add, pcs_sizes, List.append_assoc]
  simp only [List.getD_eq_getElem?_getD]
  rw [List.getElem?_append_right (by rw [List.length_map, stand_len]; omega), List.length_map, stand_len, pcs_cons hbn, stand_cons]
  obtain ⟨j, hj⟩ : ∃ j, i - (pcs a).length = j + 1 := ⟨i - (pcs a).length - 1, by omega⟩
  rw [hj, List.map_cons, List.cons_append, List.getElem?_cons_succ]
  rw [pcs_app h, pcs_cons hbn, List.length_append, List.length_cons] at hi2
  generalize hm : max (begU b).1 1 = m
  rw [hm] at hi2
  rcases Nat.lt_or_ge j (pcs (b.drop m)).length with hjl | hjl
  · rw [List.getElem?_append_left (by rw [List.length_map, stand_len]; exact hjl)]
    have hx : j < ((stand (a.length + m) (pcs (b.drop m))).map (·.2.1)).length := by rw [List.length_map, stand_len]; exact hjl
    rw [List.getElem?_eq_getElem hx, Option.getD_some, List.getElem_map]
    have := (stand_at (List.getElem_mem (l := stand (a.length + m) (pcs (b.drop m))) (n := j) (by rw [stand_len]; exact hjl))).1
    omega
  · rw [List.getElem?_append_right (by rw [List.length_map, stand_len]; exact hjl), List.length_map, stand_len, show j - (pcs (b.drop m)).length = 0 by omega]
    simp only [List.getElem?_cons_zero, Option.getD_some, List.length_append]
    have : 0 < b.length := List.length_pos_iff.2 hbn
    omega
/-- the breaks within the first of two texts -/
theorem ofU_ahead {t : Tab} {a b : List UInt8} (h : validU a = true) : (ofU t (a ++ b)).filter (fun x => decide (x ≤ (a.length : Int))) = ofU t a := by
  have hb : (brkV t (scU (a ++ b))).filter (fun x => decide (x ≤ ((pcs a).length : Int))) = brkV t (scU a) := by
    rw [scU_app h]
    by_cases hv : validE t = 0
    · obtain ⟨p, hp⟩ := stsL_scs (validE_iff.1 hv) (l := scU a) (s := 0) scU_all
      obtain ⟨q, hq⟩ := stsL_scs (validE_iff.1 hv) (l := scU a ++ scU b) (s := 0) (fun v hv => (List.mem_append.1 hv).elim (scU_all v) (scU_all v))
      have hl := (stsL_ne hp).1
      have hne : p ≠ [] := by rintro rfl; simp at hl
      obtain ⟨p', u, rfl⟩ : ∃ p' u, p = p' ++ [u] := ⟨p.dropLast, p.getLast hne, (List.dropLast_concat_getLast hne).symm⟩
      have h2 := stsL_app (m := scU b) hp
      rw [hq] at h2
      have h3 : ∃ r, q = p' ++ [u] ++ r := by
        cases hr : stsL t u (scU b) with
        | none => rw [hr] at h2; cases h2
        | some r =>
          rw [hr] at h2
          simp only [Option.map_some, Option.some.injEq] at h2
          have hh := (stsL_ne hr).2
          cases r with
          | nil => simp at hh
          | cons x r => simp at hh; subst hh; exact ⟨r, by rw [h2]; simp⟩
      obtain ⟨r, rfl⟩ := h3
      have e1 : brkV t (scU a ++ scU b) = brkIx t (p' ++ [u] ++ r) := by unfold brkV stsV; rw [if_pos hv, hq]; rfl
      have e2 : brkV t (scU a) = brkIx t (p' ++ [u]) := by unfold brkV stsV; rw [if_pos hv, hp]; rfl
      rw [e1, e2]
      exact upto_brk (by rw [scU_len] at hl; omega)
    · have e : ∀ l, brkV t l = [] := fun l => by unfold brkV stsV; rw [if_neg hv]; rfl
      rw [e, e]; rfl
  unfold ofU
  rw [← hb, List.filter_map]
  have e : (brkV t (scU (a ++ b))).filter ((fun x => decide (x ≤ (a.length : Int))) ∘ fun i => (offU (a ++ b)).getD i.toNat 0) = (brkV t (scU (a ++ b))).filter (fun x => decide (x ≤ ((pcs a).length : Int))) := by
    apply List.filter_congr
    intro i hi
    have hr := brkV_rng i hi
    rw [scU_len] at hr
    simp only [Function.comp_apply]
    congr 1
    apply propext
    constructor
    · intro h1
      rcases Nat.lt_or_ge (pcs a).length i.toNat with h2 | h2
      · have := offU_big (b := b) h h2 (by omega); omega
      · omega
    · intro h1
      rw [offU_app h (by omega)]
      have hx : i.toNat < (offU a).length := by rw [offU_len]; omega
      rw [List.getD_eq_getElem?_getD, List.getElem?_eq_getElem hx, Option.getD_some]
      exact (offU_mem _ (List.getElem_mem hx)).2
  rw [e]
  apply List.map_congr_left
  intro i hi
  have h1 := (List.mem_filter.1 hi).2
  have hr := brkV_rng i (List.mem_filter.1 hi).1
  rw [decide_eq_true_iff] at h1
  exact offU_app h (by omega)
end Go.V
