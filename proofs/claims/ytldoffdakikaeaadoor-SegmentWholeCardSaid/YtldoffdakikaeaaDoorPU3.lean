/- Values of whole pieces; a text's pieces against scalars' bytes. -/
import Derived.Test.YtldoffdakikaeaaDoorPU2
namespace Go.V
set_option linter.unusedVariables false
set_option linter.unusedSimpArgs false

/-- a scalar's bytes, or nothing -/
def bytesU (v : Int) : List UInt8 := if isSc v = true then encU v else []
theorem bytesU_sc {v : Int} (h : isSc v = true) : bytesU v = encU v := by unfold bytesU; rw [if_pos h]
theorem bytesU_no {v : Int} (h : isSc v = false) : bytesU v = [] := by unfold bytesU; rw [if_neg (by simp [h])]
theorem bytesU_nil {v : Int} : bytesU v = [] ↔ isSc v = false := by
  cases h : isSc v with
  | false => simp [bytesU_no h]
  | true =>
    rw [bytesU_sc h]
    have := @encU_pos v
    simp only [Bool.true_eq_false, iff_false]
    intro e; rw [e] at this; simp at this
theorem valU_acc {c : UInt8} {t : List UInt8} (h : (begU (c :: t)).2 = true) :
    accU ((c.toNat : Int) - baseU (begU (c :: t)).1) (t.take ((begU (c :: t)).1 - 1)) = valU ((c :: t).take (begU (c :: t)).1) := by
  obtain ⟨v, r, hv, hs, hb⟩ := begU_whole h
  have hsc := isSc_iff.1 hv
  rw [hb]
  simp only
  have e1 : (c :: t).take (encU v).length = encU v := by rw [hs, List.take_left' rfl]
  have e2 : t.take ((encU v).length - 1) = (encU v).tail := by
    have hp := @encU_pos v
    have : (c :: t).take (encU v).length = c :: t.take ((encU v).length - 1) := by
      obtain ⟨m, hm⟩ : ∃ m, (encU v).length = m + 1 := ⟨(encU v).length - 1, by omega⟩
      rw [hm]; simp
    rw [e1] at this; exact (congrArg List.tail this).symm
  have e3 : (encU v).head? = some c := by
    rw [← e1]
    have hp := @encU_pos v
    obtain ⟨m, hm⟩ : ∃ m, (encU v).length = m + 1 := ⟨(encU v).length - 1, by omega⟩
    rw [hm]; simp
  rw [e1, e2, valU_enc hv]
  unfold encU at e3 ⊢
  split
  · rename_i h1; rw [if_pos h1] at e3
    simp only [List.head?_cons, Option.some.injEq] at e3
    have := @by8_toNat v
    rw [e3] at this
    simp [accU, baseU]; omega
  split
  · rename_i h1 h2; rw [if_neg h1, if_pos h2] at e3
    simp only [List.head?_cons, Option.some.injEq] at e3
    have := @by8_toNat (192 + v / 64)
    rw [e3] at this
    have := @by8_toNat (128 + v % 64)
    simp [accU, baseU]; omega
  split
  · rename_i h1 h2 h3; rw [if_neg h1, if_neg h2, if_pos h3] at e3
    simp only [List.head?_cons, Option.some.injEq] at e3
    have := @by8_toNat (224 + v / 4096)
    rw [e3] at this
    have := @by8_toNat (128 + v / 64 % 64)
    have := @by8_toNat (128 + v % 64)
    simp [accU, baseU]; omega
  · rename_i h1 h2 h3; rw [if_neg h1, if_neg h2, if_neg h3] at e3
    simp only [List.head?_cons, Option.some.injEq] at e3
    have := @by8_toNat (240 + v / 262144)
    rw [e3] at this
    have := @by8_toNat (128 + v / 4096 % 64)
    have := @by8_toNat (128 + v / 64 % 64)
    have := @by8_toNat (128 + v % 64)
    simp [accU, baseU]; omega

/-- a piece against the bytes that it was -/
def sameU (s : List UInt8) (p : Int × Int × Int) : Bool := bytesU p.1 == (s.drop p.2.1.toNat).take p.2.2.toNat
theorem valid_all' {s : List UInt8} : ∀ (m : Nat) {k : Nat}, s.length - k ≤ m → ((stand k (pcs (s.drop k))).all (sameU s)) = validU (s.drop k)
  | m, k, hm => by
    by_cases h0 : s.drop k = []
    · rw [h0, pcs_nil, validU_nil]; simp [stand]
    rw [pcs_cons h0, validU_cons h0]
    have hb := @begU_le (s.drop k)
    have hk : k < s.length := by
      rcases Nat.lt_or_ge k s.length with h | h
      · exact h
      · rw [List.drop_eq_nil_of_le h] at h0; exact absurd rfl h0
    simp only [stand, List.all_cons, sameU, Int.toNat_natCast]
    cases m with
    | zero => omega
    | succ m =>
    have ih := valid_all' (s := s) m (k := k + max (begU (s.drop k)).1 1) (by omega)
    rw [← List.drop_drop] at ih
    have e : (fun p : Int × Int × Int => bytesU p.1 == (s.drop p.2.1.toNat).take p.2.2.toNat) = sameU s := rfl
    rw [show (stand (k + max (begU (s.drop k)).1 1) (pcs ((s.drop k).drop (max (begU (s.drop k)).1 1)))).all (sameU s) = _ from ih]
    cases hw : (begU (s.drop k)).2 with
    | true =>
      obtain ⟨v, hv, h1, h2⟩ := begU_take hw
      have hp := begU_pos hw
      rw [if_pos rfl, h2, bytesU_sc hv, Nat.max_eq_left (by omega), h1]
      simp
    | false =>
      rw [if_neg (by simp), Bool.false_and]
      have : (bytesU 65533 == (s.drop k).take (max (begU (s.drop k)).1 1)) = false := by
        rw [beq_eq_false_iff_ne]
        intro he
        have h3 : isSc 65533 = true := by decide
        rw [bytesU_sc h3] at he
        have h4 := begU_enc h3 ((s.drop k).drop (max (begU (s.drop k)).1 1))
        rw [he, List.take_append_drop] at h4
        rw [h4] at hw; cases hw
      rw [this]; rfl
theorem valid_all {s : List UInt8} : (stand 0 (pcs s)).all (sameU s) = validU s := by
  have := valid_all' (s := s) s.length (k := 0) (by omega)
  simpa using this
/-- the text of numbers, if all are scalars -/
def textU (l : List Int) : List UInt8 × Bool := if l.all isSc = true then (encsU l, true) else ([], false)
theorem textU_ok {l : List Int} (h : l.all isSc = true) : textU l = (encsU l, true) := by unfold textU; rw [if_pos h]
theorem textU_no {l : List Int} (h : ¬ l.all isSc = true) : textU l = ([], false) := by unfold textU; rw [if_neg h]
end Go.V
