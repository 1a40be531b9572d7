/- Where pieces begin: rising; the same scalars' text; breaks rise. -/
import Derived.Test.YtldoffdakikaeaaDoorPU4
namespace Go.V
set_option linter.unusedVariables false
set_option linter.unusedSimpArgs false
theorem off_pair : ∀ {l : List (Int × Nat)} {k : Nat}, (∀ p ∈ l, 1 ≤ p.2) → List.Pairwise (· < ·) ((stand k l).map (·.2.1) ++ [((k + sizes l : Nat) : Int)]) ∧ ∀ x ∈ (stand k l).map (·.2.1) ++ [((k + sizes l : Nat) : Int)], (k : Int) ≤ x
  | [], k, _ => by rw [stand_nil]; simp [sizes]
  | p :: l, k, h => by
    obtain ⟨h1, h2⟩ := off_pair (l := l) (k := k + p.2) (fun q hq => h q (by simp [hq]))
    have hp := h p (by simp)
    have e : ((k + sizes (p :: l) : Nat) : Int) = ((k + p.2 + sizes l : Nat) : Int) := by simp only [sizes, List.map_cons, List.sum_cons]; omega
    rw [stand_cons, List.map_cons, List.cons_append, e]
    refine ⟨List.pairwise_cons.2 ⟨fun x hx => by have := h2 x hx; show (k : Int) < x; omega, h1⟩, ?_⟩
    intro x hx
    rcases List.mem_cons.1 hx with rfl | hx
    · exact Int.le_refl _
    · have := h2 x hx; omega
theorem offU_pair {s : List UInt8} : List.Pairwise (· < ·) (offU s) := by
  have := (off_pair (l := pcs s) (k := 0) (fun p hp => (pcs_mem hp).2.1)).1
  rw [Nat.zero_add, pcs_sizes] at this
  exact this
theorem pair_get {l : List Int} (h : List.Pairwise (· < ·) l) {i j : Nat} (hij : i < j) (hj : j < l.length) : l.getD i 0 < l.getD j 0 := by
  have := List.pairwise_iff_getElem.1 h i j (by omega) hj hij
  rw [List.getD_eq_getElem?_getD, List.getD_eq_getElem?_getD, List.getElem?_eq_getElem (by omega), List.getElem?_eq_getElem hj]
  exact this
theorem brkIx_pair {t : Tab} {p : List Nat} : List.Pairwise (· < ·) (brkIx t p) := by
  unfold brkIx
  refine List.Pairwise.map _ (fun a b h => ?_) (List.Pairwise.filter _ List.pairwise_lt_range)
  exact Int.ofNat_lt.2 h
theorem brkV_pair {t : Tab} {l : List Int} : List.Pairwise (· < ·) (brkV t l) := by
  unfold brkV
  cases stsV t l with
  | none => exact List.Pairwise.nil
  | some p => exact brkIx_pair
/-- the text with each ill-formed piece put as the sign that stands for it -/
noncomputable def putU (s : List UInt8) : List UInt8 := encsU (scU s)
theorem scU_put {s : List UInt8} : scU (putU s) = scU s := by
  have e : pcs (putU s) = (scU s).map fun v => (v, (encU v).length) := pcs_text scU_all
  have h : scU (putU s) = (pcs (putU s)).map (·.1) := rfl
  rw [h, e, List.map_map]
  exact List.map_id _
theorem encsU_len : ∀ {l : List Int}, (encsU l).length ≤ 4 * l.length
  | [] => by simp [encsU]
  | v :: l => by
    rw [encsU_cons, List.length_append, List.length_cons]
    have := @encU_le v
    have := encsU_len (l := l)
    omega
theorem off_text : ∀ {l : List Int} {k i : Nat}, i ≤ l.length → ((stand k (l.map fun v => (v, (encU v).length))).map (·.2.1) ++ [((k + (encsU l).length : Nat) : Int)])[i]? = some ((k + (encsU (l.take i)).length : Nat) : Int)
  | [], k, i, h => by
    obtain rfl : i = 0 := by simpa using h
    simp [stand_nil, encsU_nil]
  | v :: l, k, 0, h => by simp [stand_cons, encsU_nil]
  | v :: l, k, i + 1, h => by
    rw [List.map_cons, stand_cons, List.map_cons, List.cons_append, List.getElem?_cons_succ, List.take_succ_cons, encsU_cons, encsU_cons, List.length_append, List.length_append]
    have := off_text (l := l) (k := k + (encU v).length) (i := i) (by simpa using h)
    simp only [Nat.add_assoc] at this ⊢
    exact this
theorem offU_put {s : List UInt8} {i : Nat} (h : i ≤ (pcs s).length) : (offU (putU s))[i]? = some ((encsU ((scU s).take i)).length : Int) := by
  unfold offU putU
  rw [pcs_text scU_all]
  have := off_text (l := scU s) (k := 0) (i := i) (by rw [scU_len]; exact h)
  rw [Nat.zero_add, Nat.zero_add] at this
  exact this
theorem pcs_put_len {s : List UInt8} : (pcs (putU s)).length = (pcs s).length := by rw [← scU_len, scU_put, scU_len]
theorem getD_of {l : List Int} {i : Nat} {x : Int} (h : l[i]? = some x) : l.getD i 0 = x := by rw [List.getD_eq_getElem?_getD, h]; rfl
end Go.V
