/- When a table may be: each of what is asked, in plain words. -/
import Derived.Test.YtldoffdakikaeaaDoorA1
import Derived.Test.YtldoffdakikaeaaDoorP11
namespace Go.V
/-- a scalar -/
def isSc (v : Int) : Bool := decide (0 ≤ v) && decide (v ≤ 1114111) && (decide (v < 55296) || decide (57344 ≤ v))
theorem isSc_iff {v : Int} : isSc v = true ↔ 0 ≤ v ∧ v ≤ 1114111 ∧ (v < 55296 ∨ 57344 ≤ v) := by simp [isSc, and_assoc]
theorem isSc_not {v : Int} : isSc v = false ↔ ¬ (0 ≤ v ∧ v ≤ 1114111 ∧ (v < 55296 ∨ 57344 ≤ v)) := by rw [← isSc_iff]; simp
def cntV (t : Tab) : Bool := inR t.classes 1 8 && inR t.next.length 1 5 && inR t.bands.length 1 60 && decide (t.brk.length = t.next.length) && t.next.all fun l => decide ((l.length : Int) = t.classes)
structure Cnt (t : Tab) : Prop where
  c : 1 ≤ t.classes ∧ t.classes ≤ 8
  n : 1 ≤ t.next.length ∧ t.next.length ≤ 5
  b : 1 ≤ t.bands.length ∧ t.bands.length ≤ 60
  k : t.brk.length = t.next.length
  r : ∀ l ∈ t.next, (l.length : Int) = t.classes
theorem cntV_iff {t : Tab} : cntV t = true ↔ Cnt t := by
  unfold cntV
  simp only [Bool.and_eq_true, inR_iff, decide_eq_true_eq, List.all_eq_true]
  exact ⟨fun ⟨⟨⟨⟨h1, h2⟩, h3⟩, h4⟩, h5⟩ => ⟨h1, by omega, by omega, h4, h5⟩, fun h => ⟨⟨⟨⟨h.c, by have := h.n; omega⟩, by have := h.b; omega⟩, h.k⟩, h.r⟩⟩
def bOk (l : List (Int × Int)) (i : Nat) : Bool := isSc (l.getD i (0, 0)).1 && (if i = 0 then decide ((l.getD i (0, 0)).1 = 0) else decide ((l.getD (i - 1) (0, 0)).1 < (l.getD i (0, 0)).1) && decide ((l.getD i (0, 0)).2 ≠ (l.getD (i - 1) (0, 0)).2))
def bndV (l : List (Int × Int)) : Bool := (List.range l.length).all (bOk l)
theorem bndV_iff {l : List (Int × Int)} : bndV l = true ↔ ∀ i, i < l.length → bOk l i = true := by
  unfold bndV; simp only [List.all_eq_true, List.mem_range]
theorem bndV_no {l : List (Int × Int)} {i : Nat} (h : i < l.length) (hb : bOk l i = false) : bndV l = false := by
  rw [← Bool.not_eq_true, bndV_iff]; intro hh; rw [hh i h] at hb; cases hb
/-- numbers that come first in order, from some on -/
def ordR : Int → List Int → Int × Bool
  | come, [] => (come, true)
  | come, n :: l => if n < 0 ∨ come < n then (come, false) else ordR (if n = come then come + 1 else come) l
theorem ordR_app {l m : List Int} : ∀ {come : Int}, (ordR come l).2 = true → ordR come (l ++ m) = ordR (ordR come l).1 m := by
  induction l with
  | nil => intro come _; rfl
  | cons n l ih =>
    intro come h
    simp only [List.cons_append, ordR] at h ⊢
    split
    · rename_i hc; rw [if_pos hc] at h; cases h
    · rename_i hc; rw [if_neg hc] at h; rw [ih h]
theorem ordR_no {l m : List Int} : ∀ {come : Int}, (ordR come l).2 = false → ordR come (l ++ m) = ordR come l := by
  induction l with
  | nil => intro come h; cases h
  | cons n l ih =>
    intro come h
    simp only [List.cons_append, ordR] at h ⊢
    split
    · rfl
    · rename_i hc; rw [if_neg hc] at h; rw [ih h]
theorem ordR_nxt {n come : Int} (h : ¬ (n < 0 ∨ come < n)) : ∃ k, (if n = come then come + 1 else come) = k ∧ come ≤ k ∧ 0 ≤ n ∧ n < k ∧ k ≤ come + 1 := by
  refine ⟨_, rfl, ?_⟩
  split <;> omega
theorem ordR_le {l : List Int} : ∀ {come : Int}, (ordR come l).2 = true → come ≤ (ordR come l).1 ∧ ∀ n ∈ l, 0 ≤ n ∧ n < (ordR come l).1 := by
  induction l with
  | nil => intro come _; exact ⟨Int.le_refl _, by simp⟩
  | cons n l ih =>
    intro come h
    simp only [ordR] at h ⊢
    split at h
    · cases h
    · rename_i hc
      rw [if_neg hc]
      obtain ⟨k, hk, k1, k2, k3, k4⟩ := ordR_nxt hc
      rw [hk] at h ⊢
      obtain ⟨h1, h2⟩ := ih h
      refine ⟨by omega, fun x hx => ?_⟩
      rcases List.mem_cons.1 hx with rfl | hx
      · omega
      · exact h2 x hx
/-- so far, so many have come -/
theorem ordR_step {l : List Int} {i : Nat} {come0 come : Int} (h : i < l.length) (hp : ordR come0 (l.take i) = (come, true)) (h1 : ¬ l[i] < 0) (h2 : ¬ come < l[i]) : ordR come0 (l.take (i + 1)) = (if l[i] = come then come + 1 else come, true) := by
  rw [take_succ' h, ordR_app (by rw [hp]), hp]
  simp only [ordR]
  rw [if_neg (by omega)]
theorem ordR_stop {l : List Int} {i : Nat} {come0 come : Int} (h : i < l.length) (hp : ordR come0 (l.take i) = (come, true)) (h1 : l[i] < 0 ∨ come < l[i]) : ordR come0 l = (come, false) := by
  have : l = l.take i ++ l[i] :: l.drop (i + 1) := by rw [← List.drop_eq_getElem_cons h, List.take_append_drop]
  rw [this, ordR_app (by rw [hp]), hp]
  simp only [ordR]
  rw [if_pos h1]
theorem ordR_all {l : List Int} {i : Nat} {come0 come : Int} (h : ¬ i < l.length) (hp : ordR come0 (l.take i) = (come, true)) : ordR come0 l = (come, true) := by
  rw [List.take_of_length_le (by omega)] at hp; exact hp
theorem ordR_bound {l : List Int} : ∀ {come : Int}, (ordR come l).1 ≤ come + l.length := by
  induction l with
  | nil => intro come; simp [ordR]
  | cons n l ih =>
    intro come
    simp only [ordR]
    split
    · simp; omega
    · rename_i hc
      obtain ⟨k, hk, k1, k2, k3, k4⟩ := ordR_nxt hc
      rw [hk]
      have := @ih k
      rw [List.length_cons]; omega
def clsL (t : Tab) : List Int := t.bands.map (·.2)
def clsV (t : Tab) : Bool := (ordR 0 (clsL t)).2 && decide ((ordR 0 (clsL t)).1 = t.classes)
theorem clsV_iff {t : Tab} : clsV t = true ↔ ordR 0 (clsL t) = (t.classes, true) := by
  unfold clsV
  simp only [Bool.and_eq_true, decide_eq_true_eq]
  exact ⟨fun h => Prod.ext h.2 h.1, fun h => by rw [h]; exact ⟨rfl, rfl⟩⟩
/-- a class that is none -/
theorem clsV_big {t : Tab} {n : Int} (h : n ∈ clsL t) (hn : t.classes ≤ n) : clsV t = false := by
  rw [← Bool.not_eq_true, clsV_iff]
  intro e
  have := (ordR_le (come := 0) (l := clsL t) (by rw [e])).2 n h
  rw [e] at this
  have := this.2
  simp only at this
  omega
def nxtV (t : Tab) : Bool := t.next.all fun l => l.all fun n => inR n 0 (t.next.length - 1)
theorem nxtV_iff {t : Tab} : nxtV t = true ↔ ∀ l ∈ t.next, ∀ n ∈ l, 0 ≤ n ∧ n < t.next.length := by
  unfold nxtV; simp only [List.all_eq_true, inR_iff]
  exact ⟨fun h l hl n hn => by have := h l hl n hn; omega, fun h l hl n hn => by have := h l hl n hn; omega⟩
def numGo : Nat → Int → List (List Int) → Bool
  | _, _, [] => true
  | s, come, l :: ls => decide ((s : Int) < come) && (ordR come l).2 && numGo (s + 1) (ordR come l).1 ls
def numV (t : Tab) : Bool := numGo 0 1 t.next
/-- of one state and one ahead of it -/
def pairsV (n : Nat) (p : Nat → Nat → Bool) : Bool := (List.range n).all fun a => (List.range a).all fun b => p a b
theorem pairsV_iff {n : Nat} {p : Nat → Nat → Bool} : pairsV n p = true ↔ ∀ a b, a < n → b < a → p a b = true := by
  unfold pairsV; simp only [List.all_eq_true, List.mem_range]
  exact ⟨fun h a b ha hb => h a ha b hb, fun h a ha b hb => h a b ha hb⟩
theorem pairsV_no {n a b : Nat} {p : Nat → Nat → Bool} (ha : a < n) (hb : b < a) (h : p a b = false) : pairsV n p = false := by
  rw [← Bool.not_eq_true, pairsV_iff]; intro hh; rw [hh a b ha hb] at h; cases h
noncomputable def lstV (t : Tab) : Bool := pairsV t.next.length fun a b => !alk t a b
def colL (t : Tab) (c : Nat) : List Int := t.next.map fun r => r.getD c 0
def colV (t : Tab) : Bool := pairsV t.classes.toNat fun a b => !(colL t a == colL t b)
noncomputable def validE (t : Tab) : Int := if cntV t = false then 24 else if bndV t.bands = false then 26 else if clsV t = false then 27 else if nxtV t = false then 28 else if numV t = false then 29 else if lstV t = false then 30 else if colV t = false then 31 else 0
structure Valid (t : Tab) : Prop where
  cnt : Cnt t
  bnd : bndV t.bands = true
  cls : clsV t = true
  nxt : nxtV t = true
  num : numV t = true
  lst : lstV t = true
  col : colV t = true
theorem validE_iff {t : Tab} : validE t = 0 ↔ Valid t := by
  unfold validE
  constructor
  · intro h
    by_cases h1 : cntV t = false
    · rw [if_pos h1] at h; exact absurd h (by decide)
    by_cases h2 : bndV t.bands = false
    · rw [if_neg h1, if_pos h2] at h; exact absurd h (by decide)
    by_cases h3 : clsV t = false
    · rw [if_neg h1, if_neg h2, if_pos h3] at h; exact absurd h (by decide)
    by_cases h4 : nxtV t = false
    · rw [if_neg h1, if_neg h2, if_neg h3, if_pos h4] at h; exact absurd h (by decide)
    by_cases h5 : numV t = false
    · rw [if_neg h1, if_neg h2, if_neg h3, if_neg h4, if_pos h5] at h; exact absurd h (by decide)
    by_cases h6 : lstV t = false
    · rw [if_neg h1, if_neg h2, if_neg h3, if_neg h4, if_neg h5, if_pos h6] at h; exact absurd h (by decide)
    by_cases h7 : colV t = false
    · rw [if_neg h1, if_neg h2, if_neg h3, if_neg h4, if_neg h5, if_neg h6, if_pos h7] at h; exact absurd h (by decide)
    rw [Bool.not_eq_false] at h1 h2 h3 h4 h5 h6 h7
    exact ⟨cntV_iff.1 h1, h2, h3, h4, h5, h6, h7⟩
  · rintro ⟨h1, h2, h3, h4, h5, h6, h7⟩
    rw [← cntV_iff] at h1
    have f : ¬ (true = false) := by decide
    rw [h1, h2, h3, h4, h5, h6, h7, if_neg f, if_neg f, if_neg f, if_neg f, if_neg f, if_neg f, if_neg f]
theorem inn_of {t : Tab} (h : Cnt t) (hn : nxtV t = true) : Inn t t.next.length := by
  intro s c hs hc
  unfold nx
  rw [nxtV_iff] at hn
  have h1 := h.r _ (List.getElem_mem hs)
  have hc2 : c < (t.next[s]).length := by omega
  have := hn _ (List.getElem_mem hs) _ (List.getElem_mem hc2)
  simp only [List.getD_eq_getElem?_getD, List.getElem?_eq_getElem hs, Option.getD_some, List.getElem?_eq_getElem hc2]
  omega
theorem nx_eq {t : Tab} {s c : Nat} (hs : s < t.next.length) (hc : c < (t.next[s]).length) (hn : nxtV t = true) : ((nx t s c : Nat) : Int) = (t.next[s])[c] := by
  rw [nxtV_iff] at hn
  have := hn _ (List.getElem_mem hs) _ (List.getElem_mem hc)
  unfold nx
  simp only [List.getD_eq_getElem?_getD, List.getElem?_eq_getElem hs, Option.getD_some, List.getElem?_eq_getElem hc]
  omega
theorem bk_eq {t : Tab} {s : Nat} (hs : s < t.brk.length) : bk t s = t.brk[s] := by
  unfold bk; simp [List.getD_eq_getElem?_getD, hs]
end Go.V
