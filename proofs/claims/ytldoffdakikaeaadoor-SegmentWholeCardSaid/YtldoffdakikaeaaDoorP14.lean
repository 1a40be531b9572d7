/- Scalars' classes, and where they lead on a table. -/
import Derived.Test.YtldoffdakikaeaaDoorP12
namespace Go.V
/-- the last band, of the first so many, that begins at a number or ahead -/
def lastTo (l : List (Int × Int)) (v : Int) : Nat → Int
  | 0 => -1
  | n + 1 => if (l.getD n (0, 0)).1 ≤ v then n else lastTo l v n
def bandI (l : List (Int × Int)) (v : Int) : Int := if isSc v = true then lastTo l v l.length else -1
def classB (l : List (Int × Int)) (v : Int) : Bool := decide (0 ≤ bandI l v)
def classV (l : List (Int × Int)) (v : Int) : Int := if 0 ≤ bandI l v then (l.getD (bandI l v).toNat (0, 0)).2 else 0
theorem lastTo_r {l : List (Int × Int)} {v : Int} : ∀ {n : Nat}, -1 ≤ lastTo l v n ∧ lastTo l v n < n
  | 0 => by simp [lastTo]
  | n + 1 => by
    simp only [lastTo]; split
    · omega
    · have := lastTo_r (l := l) (v := v) (n := n); omega
theorem bandI_r {l : List (Int × Int)} {v : Int} : -1 ≤ bandI l v ∧ (bandI l v < l.length ∨ bandI l v = -1) := by
  unfold bandI; split
  · have := lastTo_r (l := l) (v := v) (n := l.length); omega
  · omega
theorem classB_no {l : List (Int × Int)} {v : Int} (h : isSc v = false) : classB l v = false ∧ classV l v = 0 := by
  have : bandI l v = -1 := by unfold bandI; rw [if_neg (by simp [h])]
  unfold classB classV; rw [this]; simp
/-- what a walker knows is so -/
def Kn (l : List (Int × Int)) (M : List (Int × Int)) : Prop := ∀ p ∈ M, classB l p.1 = true ∧ p.2 = classV l p.1
/-- all states that scalars lead to, one behind the other -/
def stsL (t : Tab) : Nat → List Int → Option (List Nat)
  | s, [] => some [s]
  | s, v :: l => if classB t.bands v = true then (stsL t (nx t s (classV t.bands v).toNat) l).map (s :: ·) else none
theorem stsL_ne {t : Tab} : ∀ {l : List Int} {s : Nat} {p : List Nat}, stsL t s l = some p → p.length = l.length + 1 ∧ p.head? = some s
  | [], s, p, h => by simp only [stsL, Option.some.injEq] at h; subst h; simp
  | v :: l, s, p, h => by
    simp only [stsL] at h
    split at h
    · simp only [Option.map_eq_some_iff] at h
      obtain ⟨q, hq, rfl⟩ := h
      have := stsL_ne hq
      simp [this.1]
    · cases h
theorem stsL_app {t : Tab} {m : List Int} : ∀ {l : List Int} {s : Nat} {p : List Nat} {u : Nat}, stsL t s l = some (p ++ [u]) → stsL t s (l ++ m) = (stsL t u m).map (p ++ ·)
  | [], s, p, u, h => by
    simp only [stsL, Option.some.injEq] at h
    cases p with
    | cons x p => simp at h
    | nil =>
      simp at h; subst h
      cases hq : stsL t s m <;> simp [hq]
  | v :: l, s, p, u, h => by
    simp only [stsL] at h
    split at h
    · rename_i hc
      simp only [Option.map_eq_some_iff] at h
      obtain ⟨q, hq, e⟩ := h
      have hl := (stsL_ne hq).1
      cases p with
      | nil => simp at e; have : q.length = 0 := by rw [e.2]; rfl
               omega
      | cons x p =>
        simp only [List.cons_append, List.cons.injEq] at e
        obtain ⟨rfl, rfl⟩ := e
        simp only [List.cons_append, stsL, hc, if_true, stsL_app hq, Option.map_map]
        congr 1
    · cases h
theorem stsL_no {t : Tab} {m : List Int} : ∀ {l : List Int} {s : Nat}, stsL t s l = none → stsL t s (l ++ m) = none
  | [], s, h => by simp [stsL] at h
  | v :: l, s, h => by
    simp only [List.cons_append, stsL] at h ⊢
    split
    · rename_i hc
      rw [if_pos hc, Option.map_eq_none_iff] at h
      rw [stsL_no h]; rfl
    · rfl
theorem stsL_snoc {t : Tab} {l : List Int} {s : Nat} {p : List Nat} {u : Nat} {v : Int} (h : stsL t s l = some (p ++ [u])) : stsL t s (l ++ [v]) = if classB t.bands v = true then some (p ++ [u] ++ [nx t u (classV t.bands v).toNat]) else none := by
  rw [stsL_app h]
  simp only [stsL]
  split
  · simp
  · rfl
theorem stsL_step {t : Tab} {l : List Int} {i s : Nat} {p : List Nat} {u : Nat} (hi : i < l.length) (h : stsL t s (l.take i) = some (p ++ [u])) (hc : classB t.bands l[i] = true) : stsL t s (l.take (i + 1)) = some (p ++ [u] ++ [nx t u (classV t.bands l[i]).toNat]) := by
  rw [take_succ' hi, stsL_snoc h, if_pos hc]
theorem stsL_stop {t : Tab} {l : List Int} {i s : Nat} {p : List Nat} {u : Nat} (hi : i < l.length) (h : stsL t s (l.take i) = some (p ++ [u])) (hc : classB t.bands l[i] = false) : stsL t s l = none := by
  have : l = l.take (i + 1) ++ l.drop (i + 1) := (List.take_append_drop _ _).symm
  rw [this]
  apply stsL_no
  rw [take_succ' hi, stsL_snoc h, if_neg (by simp [hc])]
/-- places whose state breaks -/
def brkIx (t : Tab) (p : List Nat) : List Int := ((List.range p.length).filter fun i => bk t (p.getD i 0)).map fun (i : Nat) => (i : Int)
theorem brkIx_snoc {t : Tab} {p : List Nat} {s : Nat} : brkIx t (p ++ [s]) = brkIx t p ++ if bk t s = true then [(p.length : Int)] else [] := by
  unfold brkIx
  rw [List.length_append, List.length_singleton, List.range_succ, List.filter_append, List.map_append]
  congr 1
  · congr 1
    apply List.filter_congr
    intro i hi
    have := List.mem_range.1 hi
    rw [List.getD_eq_getElem?_getD, List.getElem?_append_left this, ← List.getD_eq_getElem?_getD]
  · simp only [List.filter_cons, List.filter_nil, List.getD_eq_getElem?_getD, List.getElem?_append_right (Nat.le_refl _), Nat.sub_self, List.getElem?_cons_zero, Option.getD_some]
    split <;> rfl
noncomputable def stsV (t : Tab) (l : List Int) : Option (List Nat) := if validE t = 0 then stsL t 0 l else none
noncomputable def staB (t : Tab) (l : List Int) : Bool := (stsV t l).isSome
noncomputable def staV (t : Tab) (l : List Int) : Int := ((stsV t l).bind List.getLast?).getD 0
noncomputable def brkV (t : Tab) (l : List Int) : List Int := ((stsV t l).map (brkIx t)).getD []
noncomputable def clsB (t : Tab) (v : Int) : Bool := decide (validE t = 0) && classB t.bands v
noncomputable def clsW (t : Tab) (v : Int) : Int := if validE t = 0 then classV t.bands v else 0
/-- a scalar's class is one of the table's -/
theorem Valid.class {t : Tab} (h : Valid t) {v : Int} (hb : classB t.bands v = true) : 0 ≤ classV t.bands v ∧ classV t.bands v < t.classes := by
  have h1 : 0 ≤ bandI t.bands v := by simpa [classB] using hb
  have h2 := bandI_r (l := t.bands) (v := v)
  have h3 : (bandI t.bands v).toNat < t.bands.length := by omega
  have hm : classV t.bands v ∈ clsL t := by
    unfold classV clsL
    rw [if_pos h1, List.getD_eq_getElem?_getD, List.getElem?_eq_getElem h3]
    exact List.mem_map.2 ⟨_, List.getElem_mem h3, rfl⟩
  have e := clsV_iff.1 h.cls
  have := (ordR_le (come := 0) (l := clsL t) (by rw [e])).2 _ hm
  rw [e] at this; exact this
theorem Valid.sts {t : Tab} (h : Valid t) : ∀ {l : List Int} {s : Nat} {p : List Nat}, s < t.next.length → stsL t s l = some p → ∀ x ∈ p, x < t.next.length
  | [], s, p, hs, hp => by simp only [stsL, Option.some.injEq] at hp; subst hp; simpa using hs
  | v :: l, s, p, hs, hp => by
    simp only [stsL] at hp
    split at hp
    · rename_i hc
      simp only [Option.map_eq_some_iff] at hp
      obtain ⟨q, hq, rfl⟩ := hp
      have hcl := h.class hc
      have hn := inn_of h.cnt h.nxt s (classV t.bands v).toNat hs (by omega)
      intro x hx
      rcases List.mem_cons.1 hx with rfl | hx
      · exact hs
      · exact h.sts hn hq x hx
    · cases hp
end Go.V
