/- A part of the proof of SegmentWhole: contracts of functions, or what these lean on. No condition. -/
import Derived.Test.YtldoffdakikaeaaDoorB6
namespace Go.V
open Go.Proofs
set_option maxRecDepth 8000
set_option linter.unusedSimpArgs false
set_option linter.unusedVariables false
theorem cuts_ne {s : List UInt8} : ∀ {l : List Int} {f : Nat}, List.Pairwise (· ≤ ·) l → (∀ x ∈ l, (f : Int) ≤ x ∧ x ≤ s.length) → ∀ c ∈ cutsU s f l, c ≠ []
  | [], f, _, _, c, hc => by simp [cutsU] at hc
  | x :: l, f, hp, hm, c, hc => by
    have hx := hm x List.mem_cons_self
    obtain ⟨hp1, hp2⟩ := List.pairwise_cons.1 hp
    simp only [cutsU] at hc
    split at hc
    · exact cuts_ne hp2 (fun y hy => hm y (List.mem_cons_of_mem _ hy)) c hc
    · rcases List.mem_cons.1 hc with rfl | hc
      · intro e
        have := congrArg List.length e
        rw [List.length_take, List.length_drop, List.length_nil] at this
        omega
      · exact cuts_ne hp2 (fun y hy => ⟨by have := hp1 y hy; omega, (hm y (List.mem_cons_of_mem _ hy)).2⟩) c hc
theorem cuts_all {s : List UInt8} : ∀ {l : List Int} {f : Nat}, List.Pairwise (· ≤ ·) (l ++ [(s.length : Int)]) → (∀ x ∈ l ++ [(s.length : Int)], (f : Int) ≤ x ∧ x ≤ s.length) → (cutsU s f (l ++ [(s.length : Int)])).flatten = s.drop f
  | [], f, _, hm => by
    have hx := hm s.length (by simp)
    simp only [List.nil_append, cutsU]
    split
    · rw [List.drop_of_length_le (by omega)]; rfl
    · simp only [List.flatten_cons, List.flatten_nil, List.append_nil, Int.toNat_natCast]
      rw [List.take_of_length_le (by rw [List.length_drop]; omega)]
  | x :: l, f, hp, hm => by
    have hx := hm x (by simp)
    rw [List.cons_append] at hp hm ⊢
    obtain ⟨hp1, hp2⟩ := List.pairwise_cons.1 hp
    simp only [cutsU]
    split
    · exact cuts_all hp2 (fun y hy => hm y (List.mem_cons_of_mem _ hy))
    · rw [List.flatten_cons, cuts_all hp2 (fun y hy => ⟨by have := hp1 y hy; omega, (hm y (List.mem_cons_of_mem _ hy)).2⟩)]
      have e : s.drop x.toNat = (s.drop f).drop (x.toNat - f) := by rw [List.drop_drop]; congr 1; omega
      rw [e, List.take_append_drop]
theorem cuts_len {s : List UInt8} : ∀ {l : List Int} {f : Nat}, List.Pairwise (· < ·) l → (∀ x ∈ l, (f : Int) ≤ x ∧ x ≤ s.length) → f ≤ s.length →
    (cutsU s f (l ++ [(s.length : Int)])).length = (l.filter fun x => decide ((f : Int) < x) && decide (x < (s.length : Int))).length + if f < s.length then 1 else 0
  | [], f, _, hm, hf => by
    simp only [List.nil_append, cutsU, List.filter_nil, List.length_nil, Nat.zero_add]
    split
    · rename_i h; rw [if_neg (by omega)]; rfl
    · rename_i h; rw [if_pos (by omega)]; rfl
  | x :: l, f, hp, hm, hf => by
    have hx := hm x (by simp)
    obtain ⟨hp1, hp2⟩ := List.pairwise_cons.1 hp
    rw [List.cons_append]
    simp only [cutsU]
    split
    · rename_i h
      rw [cuts_len hp2 (fun y hy => hm y (List.mem_cons_of_mem _ hy)) hf, List.filter_cons_of_neg (by simp; omega)]
    · rename_i h
      rw [List.length_cons, cuts_len hp2 (fun y hy => ⟨by have := hp1 y hy; omega, (hm y (List.mem_cons_of_mem _ hy)).2⟩) (by omega)]
      have e : (l.filter fun y => decide (((x.toNat : Nat) : Int) < y) && decide (y < (s.length : Int))) = l.filter fun y => decide ((f : Int) < y) && decide (y < (s.length : Int)) := by
        apply List.filter_congr
        intro y hy
        have := hp1 y hy
        congr 1
        exact decide_eq_decide.2 ⟨fun _ => by omega, fun _ => by omega⟩
      rw [e]
      by_cases h2 : x < (s.length : Int)
      · rw [List.filter_cons_of_pos (by simp; omega), List.length_cons, if_pos (by omega), if_pos (by omega)]
      · rw [List.filter_cons_of_neg (by simp; omega), if_neg (by omega), if_pos (by omega)]
theorem cutU_ok {t : Tab} {s : List UInt8} (h : okU t s = true) : (∀ c ∈ cutU t s, c ≠ []) ∧ (cutU t s).flatten = s ∧ (cutU t s).length = ((ofU t s).filter fun x => decide (0 < x) && decide (x < (s.length : Int))).length + if 0 < s.length then 1 else 0 := by
  have e : cutU t s = cutsU s 0 (ofU t s ++ [(s.length : Int)]) := by unfold cutU; rw [if_pos h]
  rw [e]
  refine ⟨cuts_ne placesU_pair (fun x hx => placesU_mem x hx), ?_, ?_⟩
  · exact cuts_all placesU_pair (fun x hx => placesU_mem x hx)
  · exact cuts_len ofU_pair (fun x hx => ofU_mem x hx) (Nat.zero_le _)

end Go.V
