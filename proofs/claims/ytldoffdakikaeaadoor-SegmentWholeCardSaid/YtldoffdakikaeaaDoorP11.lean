/- Which states of a table are told apart, round by round. -/
import Derived.Test.YtldoffdakikaeaaDoorP10
namespace Go.V
def mg (M : List (List Bool)) (a b : Nat) : Bool := (M.getD a []).getD b false
/-- as wide as long -/
def Sqr (n : Nat) (M : List (List Bool)) : Prop := M.length = n ∧ ∀ r ∈ M, r.length = n
/-- where a round stands -/
def Lex (a' b' d a b c : Nat) : Prop := a' < a ∨ a' = a ∧ (b' < b ∨ b' = b ∧ d < c)
structure Rnd (t : Tab) (n k a b c : Nat) (M : List (List Bool)) : Prop where
  sq : Sqr n M
  ok : Sq t n k (mg M)
  go : ∀ a' b' d w, a' < n → b' < n → Lex a' b' d a b c → Row t (d :: w) → w.length ≤ k → bk t (runW t a' (d :: w)) ≠ bk t (runW t b' (d :: w)) → mg M a' b' = true
def upM (t : Tab) (M : List (List Bool)) (a b c : Nat) : List (List Bool) := M.modify a fun r => r.set b (mg M a b || mg M (nx t a c) (nx t b c))
theorem mg_set {M : List (List Bool)} {n a b a' b' : Nat} {v : Bool} (h : Sqr n M) (ha : a < n) (hb : b < n) : mg (M.modify a fun r => r.set b v) a' b' = if a' = a ∧ b' = b then v else mg M a' b' := by
  unfold mg
  simp only [List.getD_eq_getElem?_getD, List.getElem?_modify]
  by_cases e : a' = a
  · subst e
    have hl : a' < M.length := by rw [h.1]; exact ha
    rw [List.getElem?_eq_getElem hl]
    have hr := h.2 _ (List.getElem_mem hl)
    simp only [if_true, Option.map_eq_map, Option.map_some, Option.getD_some, true_and, List.getElem?_set]
    by_cases e2 : b' = b
    · subst e2; rw [if_pos rfl, if_pos rfl, if_pos (by omega)]; rfl
    · rw [if_neg (fun h => e2 h.symm), if_neg e2]
  · rw [if_neg (fun h => e h.1)]
    simp only [show ¬ a = a' from fun h => e h.symm, if_false]
    cases M[a']? <;> rfl
theorem Sqr.up {t : Tab} {M : List (List Bool)} {n a b c : Nat} (h : Sqr n M) : Sqr n (upM t M a b c) := by
  refine ⟨by unfold upM; rw [List.length_modify]; exact h.1, fun r hr => ?_⟩
  unfold upM at hr
  obtain ⟨i, hi, rfl⟩ := List.getElem_of_mem hr
  rw [List.length_modify] at hi
  rw [List.getElem_modify]
  split
  · rw [List.length_set]; exact h.2 _ (List.getElem_mem hi)
  · exact h.2 _ (List.getElem_mem hi)
theorem Rnd.step {t : Tab} {n k a b c : Nat} {M : List (List Bool)} (h : Rnd t n k a b c M) (hI : Inn t n) (ha : a < n) (hb : b < n) (hc : c < t.classes.toNat) : Rnd t n k a b (c + 1) (upM t M a b c) := by
  have hg : ∀ a' b', mg (upM t M a b c) a' b' = if a' = a ∧ b' = b then (mg M a b || mg M (nx t a c) (nx t b c)) else mg M a' b' := fun a' b' => mg_set h.sq ha hb
  have mono : ∀ a' b', mg M a' b' = true → mg (upM t M a b c) a' b' = true := by
    intro a' b' hm
    rw [hg]; split
    · rename_i e; rw [← e.1, ← e.2, hm]; rfl
    · exact hm
  refine ⟨h.sq.up, ⟨?_, fun a' b' w ha' hb' hw hl hd => mono _ _ (h.ok.cmp a' b' w ha' hb' hw hl hd)⟩, ?_⟩
  · intro a' b' ha' hb' hm
    rw [hg] at hm
    split at hm
    · rename_i e
      rw [Bool.or_eq_true] at hm
      rcases hm with hm | hm
      · rw [e.1, e.2]; exact h.ok.snd a b ha hb hm
      · intro hA
        rw [e.1, e.2] at hA
        exact h.ok.snd _ _ (hI _ _ ha hc) (hI _ _ hb hc) hm (hA.next hc)
    · exact h.ok.snd _ _ ha' hb' hm
  · intro a' b' d w ha' hb' hlx hw hl hd
    by_cases hold : Lex a' b' d a b c
    · exact mono _ _ (h.go a' b' d w ha' hb' hold hw hl hd)
    · have e : a' = a ∧ b' = b ∧ d = c := by unfold Lex at hlx hold; omega
      obtain ⟨rfl, rfl, rfl⟩ := e
      rw [hg, if_pos ⟨rfl, rfl⟩, h.ok.cmp _ _ w (hI _ _ ha hc) (hI _ _ hb hc) hw.tail.2 hl hd]
      simp
theorem Rnd.row {t : Tab} {n k a b : Nat} {M : List (List Bool)} (h : Rnd t n k a b t.classes.toNat M) : Rnd t n k a (b + 1) 0 M :=
  ⟨h.sq, h.ok, fun a' b' d w ha' hb' hlx hw hl hd => h.go a' b' d w ha' hb' (by have := hw.tail.1; unfold Lex at *; omega) hw hl hd⟩
theorem Rnd.col {t : Tab} {n k a : Nat} {M : List (List Bool)} (h : Rnd t n k a n 0 M) : Rnd t n k (a + 1) 0 0 M :=
  ⟨h.sq, h.ok, fun a' b' d w ha' hb' hlx hw hl hd => h.go a' b' d w ha' hb' (by unfold Lex at *; omega) hw hl hd⟩
theorem Rnd.first {t : Tab} {n k : Nat} {M : List (List Bool)} (h : Sqr n M) (ho : Sq t n k (mg M)) : Rnd t n k 0 0 0 M :=
  ⟨h, ho, fun a' b' d w _ _ hlx _ _ _ => by unfold Lex at hlx; omega⟩
theorem Rnd.last {t : Tab} {n k : Nat} {M : List (List Bool)} (h : Rnd t n k n 0 0 M) : Sq t n (k + 1) (mg M) := by
  refine ⟨h.ok.snd, fun a b w ha hb hw hl hd => ?_⟩
  cases w with
  | nil => exact h.ok.cmp a b [] ha hb hw (Nat.zero_le _) hd
  | cons d w => exact h.go a b d w ha hb (.inl ha) hw (by simpa using hl) hd
/-- the first square: by their breaks -/
theorem Sq.zero {t : Tab} {n : Nat} {m : Nat → Nat → Bool} (h : ∀ a b, a < n → b < n → m a b = (bk t a != bk t b)) : Sq t n 0 m := by
  refine ⟨fun a b ha hb hm hA => ?_, fun a b w ha hb _ hl hd => ?_⟩
  · rw [h a b ha hb, hA.bk] at hm; simp at hm
  · have : w = [] := List.length_eq_zero_iff.1 (by omega)
    subst this
    rw [h a b ha hb]; simpa [runW] using hd
noncomputable def apM (t : Tab) : List (List Bool) := (List.range t.next.length).map fun a => (List.range t.next.length).map fun b => !alk t a b
end Go.V
namespace Go.V
theorem apM_of {t : Tab} {M : List (List Bool)} (h : Sqr t.next.length M) (ho : Sq t t.next.length (t.next.length * t.next.length) (mg M)) (hI : Inn t t.next.length) : M = apM t := by
  unfold apM
  apply List.ext_getElem
  · rw [List.length_map, List.length_range]; exact h.1
  · intro a h1 h2
    have ha : a < t.next.length := by rw [← h.1]; exact h1
    have hr := h.2 _ (List.getElem_mem h1)
    rw [List.getElem_map, List.getElem_range]
    apply List.ext_getElem
    · rw [List.length_map, List.length_range]; exact hr
    · intro b h3 h4
      have hb : b < t.next.length := by omega
      rw [List.getElem_map, List.getElem_range, ← ho.done hI ha hb]
      unfold mg
      simp [List.getD_eq_getElem?_getD, h1, h3]
theorem mg_apM {t : Tab} {a b : Nat} (ha : a < t.next.length) (hb : b < t.next.length) : mg (apM t) a b = !alk t a b := by
  unfold mg apM
  simp [List.getD_eq_getElem?_getD, ha, hb]
end Go.V
