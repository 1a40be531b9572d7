/- What package table's functions tell. -/
import Derived.Test.YtpcbhghgommijaaXPack
import Derived.Test.YtpcbhghgommijaaXx4
import Derived.Test.YtpcbhghgommijaaXx6
import Derived.Test.YtpcbhghgommijaaXx5
namespace Go.Proofs.Ytpcbhghgommijaa.XTable
open Go Go.RowKit Go.Proofs.Ytpcbhghgommijaa.X Go.Proofs.Ytpcbhghgommijaa.XPure Go.Proofs.Ytpcbhghgommijaa.XPack Go.Proofs.YtpcbhghgommijaaW.PrintWords Go.Proofs.YtpcbhghgommijaaW.PrintLast Go.Proofs.YtpcbhghgommijaaW.PrintMore
set_option linter.unusedVariables false
set_option linter.unusedSimpArgs false
set_option maxHeartbeats 1000000
abbrev Ba := S52
def btw (a lo hi : Int) : Bool := decide (lo ≤ a ∧ a ≤ hi)
theorem btw_eq (a lo hi : Int) : table_between.f a lo hi = some (btw a lo hi) := by
  unfold table_between.f btw
  by_cases h : a ≥ lo
  · rw [if_pos h]; simp [show lo ≤ a from h]
  · rw [if_neg h]; simp; omega
theorem btw_iff {a lo hi : Int} : btw a lo hi = true ↔ lo ≤ a ∧ a ≤ hi := by simp [btw]
def lenS (c s n : Int) : Int := if 0 ≤ c ∧ c ≤ 255 ∧ 0 ≤ s ∧ s ≤ 255 ∧ 0 ≤ n ∧ n ≤ 255 then 11 + 4 * n + c * s + (s + 7) / 8 else 0
theorem mul255 {a b : Int} (ha : 0 ≤ a ∧ a ≤ 255) (hb : 0 ≤ b ∧ b ≤ 255) : 0 ≤ a * b ∧ a * b ≤ 65025 :=
  ⟨Int.mul_nonneg ha.1 hb.1, Int.le_trans (Int.mul_le_mul ha.2 hb.2 hb.1 (by omega)) (by omega)⟩
theorem length_sum (c s n : Int) (hc : 0 ≤ c ∧ c ≤ 255) (hs : 0 ≤ s ∧ s ≤ 255) (hn : 0 ≤ n ∧ n ≤ 255) :
    wrap64 ((wrap64 ((wrap64 ((wrap64 (7 + (wrap64 (4 * n)))) + (wrap64 (c * s)))) + (wrap64 (Int.tdiv (wrap64 (s + 7)) 8)))) + 4) = 11 + 4 * n + c * s + (s + 7) / 8 := by
  have h := mul255 hc hs
  rw [w64 (n := 4 * n) (by omega) (by omega), w64 (n := 7 + 4 * n) (by omega) (by omega), w64 (n := c * s) (by omega) (by omega), w64 (n := 7 + 4 * n + c * s) (by omega) (by omega), w64 (n := s + 7) (by omega) (by omega), tdiv_nn (by omega), w64 (n := (s + 7) / 8) (by omega) (by omega)]
  rw [w64 (n := 7 + 4 * n + c * s + (s + 7) / 8) (by omega) (by omega), w64 (by omega) (by omega)]
  omega
theorem tlen_eq (c s n : Int) : table_Length.f c s n = some (lenS c s n) := by
  unfold table_Length.f lenS
  rw [btw_eq, Option.bind_some, btw_eq, Option.bind_some, btw_eq, Option.bind_some]
  by_cases h1 : 0 ≤ c ∧ c ≤ 255
  · rw [if_pos (btw_iff.2 h1)]
    by_cases h2 : 0 ≤ s ∧ s ≤ 255
    · rw [if_pos (btw_iff.2 h2)]
      by_cases h3 : 0 ≤ n ∧ n ≤ 255
      · rw [if_pos (btw_iff.2 h3), length_sum c s n h1 h2 h3, if_pos (by omega)]
      · rw [if_neg (fun h => h3 (btw_iff.1 h)), if_neg (by omega)]
    · rw [if_neg (fun h => h2 (btw_iff.1 h)), if_neg (by omega)]
  · rw [if_neg (fun h => h1 (btw_iff.1 h)), if_neg (by omega)]
/-! ### May it be a table -/
theorem may_1_eq (a : Int) : table_may_1.f a = some (!btw a 0 255) := by unfold table_may_1.f; rw [btw_eq]; rfl
theorem rdT (l : List Ba) (i : Nat) (h : i < l.length) : rd_T52 l (i : Int) = l[i] := by simp [rd_T52, h]
theorem rdL (l : List (List Int)) (i : Nat) (h : i < l.length) : rd_L1 l (i : Int) = l[i] := by simp [rd_L1, h]
theorem ix_loop (xs : List Int) (hl : xs.length ≤ 1000000000000) : ∀ (d i : Nat), i + d = xs.length →
    ∃ r, Ev (fun k => slices_IndexFunc_int_int__table_may_1.l0 k xs (xs.length : Int) (i : Int)) r ∧ (decide (r ≥ 0) = !((xs.drop i).all fun n => btw n 0 255)) := by
  intro d
  induction d with
  | zero =>
    intro i hi
    refine ⟨-1, Ev.step (f := fun _ => some (-1)) (fun k => ?_) (Ev.now _), ?_⟩
    · simp only [slices_IndexFunc_int_int__table_may_1.l0]; rw [if_neg (by omega)]
    · rw [List.drop_of_length_le (by omega)]; rfl
  | succ d ih =>
    intro i hi
    have hlt : i < xs.length := by omega
    have e1 : rd xs (i : Int) = xs[i] := by rw [rd_nat, getD_lt hlt]
    cases hb : btw xs[i] 0 255 with
    | true =>
      obtain ⟨r, hr, hq⟩ := ih (i + 1) (by omega)
      refine ⟨r, Ev.step (fun k => ?_) hr, ?_⟩
      · simp only [slices_IndexFunc_int_int__table_may_1.l0]
        rw [if_pos (by omega), if_pos (by omega), if_pos (by omega), e1, may_1_eq, Option.bind_some, hb, if_neg (by decide), succ64 i (by omega)]
      · rw [drop_cons hlt, List.all_cons, hb, Bool.true_and]; exact hq
    | false =>
      refine ⟨(i : Int), Ev.step (f := fun _ => some (i : Int)) (fun k => ?_) (Ev.now _), ?_⟩
      · simp only [slices_IndexFunc_int_int__table_may_1.l0]
        rw [if_pos (by omega), if_pos (by omega), if_pos (by omega), e1, may_1_eq, Option.bind_some, hb, if_pos (by decide)]
      · rw [drop_cons hlt, List.all_cons, hb, Bool.false_and]; simp
theorem contains_ev (xs : List Int) (a : Int) (hl : xs.length ≤ 1000000000000) : Ev (fun k => slices_ContainsFunc_int_int__table_may_1.f k xs a) (!(xs.all fun n => btw n 0 255)) := by
  obtain ⟨r, hr, hq⟩ := ix_loop xs hl xs.length 0 (by omega)
  unfold slices_ContainsFunc_int_int__table_may_1.f slices_IndexFunc_int_int__table_may_1.f
  refine Ev.bind hr ?_
  rw [List.drop_zero] at hq
  rw [hq]
  exact Ev.now _
def bandOk (b : Ba) : Bool := btw b.f0 0 16777215 && btw b.f1 0 255
def rowOk (C : Int) (l : List Int) : Bool := decide ((l.length : Int) = C) && l.all fun n => btw n 0 255
def mayS (C : Int) (bands : List Ba) (next : List (List Int)) (brk : List Bool) : Bool :=
  decide (1 ≤ C ∧ C ≤ 255 ∧ 1 ≤ next.length ∧ next.length ≤ 255 ∧ brk.length = next.length ∧ bands.length ≤ 255) && (bands.all bandOk && next.all (rowOk C))
theorem may_rows (C : Int) (bands : List Ba) (next : List (List Int)) (brk : List Bool) (xs : List (List Int)) (hl : xs.length ≤ 1000000000000) (hr : ∀ x ∈ xs, x.length ≤ 1000000000000) : ∀ (d i : Nat), i + d = xs.length →
    Ev (fun k => table_may.l1 k xs (xs.length : Int) (i : Int) C bands next brk) ((xs.drop i).all (rowOk C)) := by
  intro d
  induction d with
  | zero =>
    intro i hi
    refine Ev.step (f := fun _ => some true) (fun k => ?_) ?_
    · simp only [table_may.l1]; rw [if_neg (by omega)]
    · rw [List.drop_of_length_le (by omega)]; exact Ev.now _
  | succ d ih =>
    intro i hi
    have hlt : i < xs.length := by omega
    rw [drop_cons hlt, List.all_cons]
    unfold rowOk
    by_cases hc : (xs[i].length : Int) = C
    · rw [decide_eq_true hc, Bool.true_and]
      have h1 := contains_ev xs[i] 0 (hr _ (List.getElem_mem hlt))
      cases hb : xs[i].all (fun n => btw n 0 255) with
      | true =>
        rw [hb] at h1
        refine Ev.step (f := fun k => (slices_ContainsFunc_int_int__table_may_1.f k xs[i] 0).bind fun t => if t = true then some false else table_may.l1 k xs (xs.length : Int) ((i + 1 : Nat) : Int) C bands next brk) (fun k => ?_) (Ev.bind h1 (Ev.neg (by decide) (by rw [Bool.true_and]; exact ih (i + 1) (by omega))))
        simp only [table_may.l1]
        rw [if_pos (by omega), if_pos (by omega), if_pos (by omega), rdL _ _ hlt, if_pos hc, succ64 i (by omega)]
      | false =>
        rw [hb] at h1
        refine Ev.step (f := fun k => (slices_ContainsFunc_int_int__table_may_1.f k xs[i] 0).bind fun t => if t = true then some false else table_may.l1 k xs (xs.length : Int) ((i + 1 : Nat) : Int) C bands next brk) (fun k => ?_) (Ev.bind h1 (Ev.pos (by decide) (by rw [Bool.false_and]; exact Ev.now _)))
        simp only [table_may.l1]
        rw [if_pos (by omega), if_pos (by omega), if_pos (by omega), rdL _ _ hlt, if_pos hc, succ64 i (by omega)]
    · rw [decide_eq_false hc, Bool.false_and, Bool.false_and]
      refine Ev.step (f := fun _ => some false) (fun k => ?_) (Ev.now _)
      simp only [table_may.l1]
      rw [if_pos (by omega), if_pos (by omega), if_pos (by omega), rdL _ _ hlt, if_neg hc]
theorem may_bands (C : Int) (bands : List Ba) (next : List (List Int)) (brk : List Bool) (xs : List Ba) (hn : next.length ≤ 1000000000000) (hr : ∀ x ∈ next, x.length ≤ 1000000000000) (hl : xs.length ≤ 1000000000000) : ∀ (d i : Nat), i + d = xs.length →
    Ev (fun k => table_may.l0 k xs (xs.length : Int) (i : Int) C bands next brk) ((xs.drop i).all bandOk && next.all (rowOk C)) := by
  intro d
  induction d with
  | zero =>
    intro i hi
    refine Ev.step (f := fun k => table_may.l1 k next (next.length : Int) ((0 : Nat) : Int) C bands next brk) (fun k => ?_) ?_
    · simp only [table_may.l0]; rw [if_neg (by omega)]; rfl
    · rw [List.drop_of_length_le (by omega)]
      have := may_rows C bands next brk next hn hr next.length 0 (by omega)
      rw [List.drop_zero] at this
      simpa using this
  | succ d ih =>
    intro i hi
    have hlt : i < xs.length := by omega
    rw [drop_cons hlt, List.all_cons]
    unfold bandOk
    cases h1 : btw xs[i].f0 0 16777215 with
    | false =>
      rw [Bool.false_and, Bool.false_and, Bool.false_and]
      refine Ev.step (f := fun _ => some false) (fun k => ?_) (Ev.now _)
      simp only [table_may.l0]
      rw [if_pos (by omega), if_pos (by omega), if_pos (by omega), rdT _ _ hlt, btw_eq, Option.bind_some, h1, if_neg (by decide)]
    | true =>
      cases h2 : btw xs[i].f1 0 255 with
      | false =>
        rw [Bool.true_and, Bool.false_and, Bool.false_and]
        refine Ev.step (f := fun _ => some false) (fun k => ?_) (Ev.now _)
        simp only [table_may.l0]
        rw [if_pos (by omega), if_pos (by omega), if_pos (by omega), rdT _ _ hlt, btw_eq, Option.bind_some, h1, if_pos rfl, btw_eq, Option.bind_some, h2, if_neg (by decide)]
      | true =>
        rw [Bool.true_and, Bool.true_and]
        refine Ev.step (fun k => ?_) (ih (i + 1) (by omega))
        simp only [table_may.l0]
        rw [if_pos (by omega), if_pos (by omega), if_pos (by omega), rdT _ _ hlt, btw_eq, Option.bind_some, h1, if_pos rfl, btw_eq, Option.bind_some, h2, if_pos rfl, succ64 i (by omega)]
theorem may_ev (C : Int) (bands : List Ba) (next : List (List Int)) (brk : List Bool) (hb : bands.length ≤ 1000000000000) (hn : next.length ≤ 1000000000000) (hr : ∀ x ∈ next, x.length ≤ 1000000000000) :
    Ev (fun k => table_may.f k C bands next brk) (mayS C bands next brk) := by
  have hf : ∀ b : Bool, mayS C bands next brk = false → b = true → Ev (fun k => table_may.j0 k b C bands next brk) (mayS C bands next brk) := by
    intro b h hb
    subst hb
    rw [h]
    exact Ev.step (f := fun _ => some false) (fun k => by simp [table_may.j0]) (Ev.now _)
  unfold table_may.f
  refine Ev.bindc (btw_eq _ _ _) ?_
  by_cases h1 : 1 ≤ C ∧ C ≤ 255
  · refine Ev.pos (btw_iff.2 h1) (Ev.bindc (btw_eq _ _ _) ?_)
    by_cases h2 : 1 ≤ (next.length : Int) ∧ (next.length : Int) ≤ 255
    · refine Ev.pos (btw_iff.2 h2) ?_
      by_cases h3 : (brk.length : Int) = next.length
      · refine Ev.pos h3 ?_
        by_cases h4 : bands.length ≤ 255
        · have e : decide ((bands.length : Int) > 255) = false := decide_eq_false (by omega)
          rw [e]
          refine Ev.step (f := fun k => table_may.l0 k bands (bands.length : Int) ((0 : Nat) : Int) C bands next brk) (fun k => by simp only [table_may.j0]; rw [if_neg (by decide)]; rfl) ?_
          have := may_bands C bands next brk bands hn hr hb bands.length 0 (by omega)
          rw [List.drop_zero] at this
          unfold mayS
          rw [decide_eq_true (by omega), Bool.true_and]
          exact this
        · refine hf _ ?_ (decide_eq_true (by omega))
          unfold mayS; rw [decide_eq_false (by omega), Bool.false_and]
      · refine Ev.neg h3 (hf _ ?_ rfl)
        unfold mayS; rw [decide_eq_false (by omega), Bool.false_and]
    · refine Ev.neg (fun h => h2 (btw_iff.1 h)) (hf _ ?_ rfl)
      unfold mayS; rw [decide_eq_false (by omega), Bool.false_and]
  · refine Ev.neg (fun h => h1 (btw_iff.1 h)) (hf _ ?_ rfl)
    unfold mayS; rw [decide_eq_false (by omega), Bool.false_and]
/-! ### A table's bytes -/
abbrev lows (l : List Int) : List Int := l.map fun n => n % 256
def bandB (b : Ba) : List Int := putS [] b.f0 3 ++ [b.f1 % 256]
def endB (acc bits : List Int) : List Int := putS (acc ++ bits) (sumS (acc ++ bits)) 4
theorem putS_app (acc : List Int) (v s : Int) : putS acc v s = acc ++ putS [] v s := by unfold putS; rw [List.nil_append]
theorem put3_len (acc : List Int) (v : Int) : (putS acc v 3).length = acc.length + 3 := by have := put_len acc v 3; omega
theorem put4_len (acc : List Int) (v : Int) : (putS acc v 4).length = acc.length + 4 := by have := put_len acc v 4; omega
theorem bandB_len (b : Ba) : (bandB b).length = 4 := by unfold bandB; rw [List.length_append, put3_len]; rfl
theorem bandB_bytes (b : Ba) : ∀ x ∈ bandB b, 0 ≤ x ∧ x < 256 := by
  intro x hx
  unfold bandB at hx
  rcases List.mem_append.1 hx with h | h
  · exact put_bytes [] _ _ (by simp) x h
  · obtain rfl := List.mem_singleton.1 h; omega
theorem lows_bytes (l : List Int) : ∀ x ∈ lows l, 0 ≤ x ∧ x < 256 := by
  intro x hx
  obtain ⟨y, _, rfl⟩ := List.mem_map.1 hx
  show 0 ≤ y % 256 ∧ y % 256 < 256
  omega
theorem app_bytes {a b : List Int} (ha : ∀ x ∈ a, 0 ≤ x ∧ x < 256) (hb : ∀ x ∈ b, 0 ≤ x ∧ x < 256) : ∀ x ∈ a ++ b, 0 ≤ x ∧ x < 256 := by
  intro x hx
  rcases List.mem_append.1 hx with h | h
  · exact ha x h
  · exact hb x h
theorem enc_cells (C : Int) (bands : List Ba) (next : List (List Int)) (brk : List Bool) (xs : List (List Int)) (m n : Int) (row : List Int) (hl : row.length ≤ 1000000000000) (r : List Int × Bool) : ∀ (d i : Nat) (acc : List Int), i + d = row.length → acc.length + d ≤ 10000000000000 →
    Ev (fun k => table_Encode.l1 k (acc ++ lows (row.drop i)) xs n (wrap64 (m + 1)) C bands next brk) r → Ev (fun k => table_Encode.l2 k acc xs n m row (row.length : Int) (i : Int) C bands next brk) r := by
  intro d
  induction d with
  | zero =>
    intro i acc hi ha h
    refine Ev.step (fun k => ?_) h
    simp only [table_Encode.l2]
    rw [if_neg (by omega), List.drop_of_length_le (by omega), lows, List.map_nil, List.append_nil]
  | succ d ih =>
    intro i acc hi ha h
    have hlt : i < row.length := by omega
    have e1 : rd row (i : Int) = row[i] := by rw [rd_nat, getD_lt hlt]
    refine Ev.step (fun k => ?_) (ih (i + 1) (acc ++ [row[i] % 256]) (by omega) (by simp; omega) ?_)
    · simp only [table_Encode.l2]
      rw [if_pos (by omega), if_pos (by omega), if_pos (by omega), e1, Option.bind_some, if_pos (by simp; omega), succ64 i (by omega)]
    · rw [drop_cons hlt, lows, List.map_cons] at h
      rw [List.append_assoc, List.singleton_append]
      exact h
theorem enc_rows (C : Int) (bands : List Ba) (next : List (List Int)) (brk : List Bool) (bits : List Int) (hb : Ev (fun k => pack_Bits.f k brk) bits) (hbb : ∀ x ∈ bits, 0 ≤ x ∧ x < 256) (hbl : bits.length ≤ 1000000000000)
    (xs : List (List Int)) (hl : xs.length ≤ 1000000) (hr : ∀ x ∈ xs, x.length ≤ 1000) : ∀ (d i : Nat) (acc : List Int), i + d = xs.length → acc.length + 1000 * d ≤ 1000000000000 → (∀ x ∈ acc, 0 ≤ x ∧ x < 256) →
    Ev (fun k => table_Encode.l1 k acc xs (xs.length : Int) (i : Int) C bands next brk) (endB (acc ++ (xs.drop i).flatMap lows) bits, true) := by
  intro d
  induction d with
  | zero =>
    intro i acc hi ha hab
    refine Ev.step (f := fun k => (pack_Bits.f k brk).bind fun t => if acc.length + t.length < 140737488355328 then ((some (acc ++ t : List Int)).bind fun y => (pack_Sum.f k y).bind fun t157 => (pack_Put.f y (wrap64 t157) 4).bind fun t158 => some (t158, true)) else none) (fun k => ?_) ?_
    · simp only [table_Encode.l1]; rw [if_neg (by omega)]
    · rw [List.drop_of_length_le (by omega), List.flatMap_nil, List.append_nil]
      have hbs := app_bytes hab hbb
      have hs := sum_bd (acc ++ bits) 2166136261 (by omega)
      refine Ev.bind hb (Ev.pos (by omega) (Ev.bindc rfl (Ev.bind (sum_ev (acc ++ bits) hbs (by simp; omega)) ?_)))
      have e : wrap64 (sumS (acc ++ bits)) = sumS (acc ++ bits) := w64 (by unfold sumS; omega) (by unfold sumS; omega)
      rw [e]
      refine Ev.bindc (put_eq _ _ _ (by simp; omega)) ?_
      exact Ev.now _
  | succ d ih =>
    intro i acc hi ha hab
    have hlt : i < xs.length := by omega
    have h1 := hr _ (List.getElem_mem hlt)
    refine Ev.step (f := fun k => table_Encode.l2 k acc xs (xs.length : Int) (i : Int) xs[i] (xs[i].length : Int) ((0 : Nat) : Int) C bands next brk) (fun k => ?_) (enc_cells C bands next brk xs _ _ xs[i] (by omega) _ xs[i].length 0 acc (by omega) (by omega) ?_)
    · simp only [table_Encode.l1]
      rw [if_pos (by omega), if_pos (by omega), if_pos (by omega), rdL _ _ hlt]
      rfl
    · rw [succ64 i (by omega), drop_cons hlt, List.flatMap_cons, ← List.append_assoc, List.drop_zero]
      exact ih (i + 1) _ (by omega) (by simp [lows]; omega) (app_bytes hab (lows_bytes _))
theorem enc_bands (C : Int) (bands : List Ba) (next : List (List Int)) (brk : List Bool) (bits : List Int) (hb : Ev (fun k => pack_Bits.f k brk) bits) (hbb : ∀ x ∈ bits, 0 ≤ x ∧ x < 256) (hbl : bits.length ≤ 1000000000000)
    (hl : next.length ≤ 1000000) (hr : ∀ x ∈ next, x.length ≤ 1000) (xs : List Ba) (hxl : xs.length ≤ 1000000) : ∀ (d i : Nat) (acc : List Int), i + d = xs.length → acc.length + 4 * d ≤ 10000000000 → (∀ x ∈ acc, 0 ≤ x ∧ x < 256) →
    Ev (fun k => table_Encode.l0 k acc xs (xs.length : Int) (i : Int) C bands next brk) (endB (acc ++ (xs.drop i).flatMap bandB ++ next.flatMap lows) bits, true) := by
  intro d
  induction d with
  | zero =>
    intro i acc hi ha hab
    refine Ev.step (f := fun k => table_Encode.l1 k acc next (next.length : Int) ((0 : Nat) : Int) C bands next brk) (fun k => ?_) ?_
    · simp only [table_Encode.l0]; rw [if_neg (by omega)]; rfl
    · rw [List.drop_of_length_le (by omega), List.flatMap_nil, List.append_nil]
      have := enc_rows C bands next brk bits hb hbb hbl next hl hr next.length 0 acc (by omega) (by omega) hab
      rw [List.drop_zero] at this
      exact this
  | succ d ih =>
    intro i acc hi ha hab
    have hlt : i < xs.length := by omega
    have e : acc ++ bandB xs[i] = putS acc xs[i].f0 3 ++ [xs[i].f1 % 256] := by unfold bandB; rw [← List.append_assoc, ← putS_app]
    refine Ev.step (f := fun k => table_Encode.l0 k (acc ++ bandB xs[i]) xs (xs.length : Int) ((i + 1 : Nat) : Int) C bands next brk) (fun k => ?_) ?_
    · simp only [table_Encode.l0]
      rw [if_pos (by omega), if_pos (by omega), if_pos (by omega), rdT _ _ hlt, put_eq _ _ _ (by omega), Option.bind_some, Option.bind_some, if_pos (by rw [put3_len]; simp; omega), succ64 i (by omega), e]
    · rw [drop_cons hlt, List.flatMap_cons, ← List.append_assoc acc]
      exact ih (i + 1) _ (by omega) (by rw [List.length_append, bandB_len]; omega) (app_bytes hab (bandB_bytes _))
def headB (C s n : Int) : List Int := [66, 82, 75, 49, C % 256, s % 256, n % 256]
def encB (C : Int) (bands : List Ba) (next : List (List Int)) (bits : List Int) : List Int := endB (headB C next.length bands.length ++ bands.flatMap bandB ++ next.flatMap lows) bits
theorem may_iff {C : Int} {bands : List Ba} {next : List (List Int)} {brk : List Bool} : mayS C bands next brk = true ↔
    (1 ≤ C ∧ C ≤ 255 ∧ 1 ≤ next.length ∧ next.length ≤ 255 ∧ brk.length = next.length ∧ bands.length ≤ 255) ∧ (∀ b ∈ bands, (0 ≤ b.f0 ∧ b.f0 ≤ 16777215) ∧ 0 ≤ b.f1 ∧ b.f1 ≤ 255) ∧ ∀ l ∈ next, (l.length : Int) = C ∧ ∀ n ∈ l, 0 ≤ n ∧ n ≤ 255 := by
  simp only [mayS, Bool.and_eq_true, decide_eq_true_eq, List.all_eq_true, bandOk, rowOk, btw_iff]
theorem enc_ev (C : Int) (bands : List Ba) (next : List (List Int)) (brk : List Bool) (hb : bands.length ≤ 1000000) (hn : next.length ≤ 1000000) (hr : ∀ x ∈ next, x.length ≤ 1000000000000) :
    (mayS C bands next brk = false → Ev (fun k => table_Encode.f k C bands next brk) ([], false)) ∧
    (mayS C bands next brk = true → ∃ bits, IsBits brk bits ∧ Ev (fun k => table_Encode.f k C bands next brk) (encB C bands next bits, true)) := by
  have hm := may_ev C bands next brk (by omega) (by omega) hr
  constructor
  · intro h
    rw [h] at hm
    unfold table_Encode.f
    refine Ev.bind hm (Ev.neg (by decide) (Ev.now _))
  · intro h
    rw [h] at hm
    obtain ⟨h1, h2, h3⟩ := may_iff.1 h
    obtain ⟨bits, he, hi⟩ := bits_ev brk (by omega)
    have hlen := hi.len
    refine ⟨bits, hi, ?_⟩
    unfold table_Encode.f
    refine Ev.bind hm (Ev.pos rfl (Ev.bindc rfl (Ev.bindc rfl (Ev.pos (by simp) ?_))))
    have := enc_bands C bands next brk bits he hi.bytes (by omega) hn (fun x hx => by have := (h3 x hx).1; omega) bands hb bands.length 0 (headB C next.length bands.length) (by omega) (by simp [headB]; omega) (by
      intro x hx
      simp only [headB, List.mem_cons, List.not_mem_nil, or_false] at hx
      omega)
    rw [List.drop_zero] at this
    exact this
/-! ### The table of bytes -/
def bandAt (l : List Int) (i : Nat) : Ba := ⟨be 0 ((l.drop (7 + 4 * i)).take 3), l.getD (10 + 4 * i) 0⟩
def rowAt (l : List Int) (at_ C i : Nat) : List Int := (l.drop (at_ + i * C)).take C
def sealedS (l : List Int) : Bool := (getS l ((l.length : Int) - 4) 4).1 % 4294967296 == sumS (l.take (l.length - 4))
abbrev De := Int × (List Ba) × (List (List Int)) × List Bool × Int
def errS (e : Int) : De := (0, [], [], [], e)
theorem sealed_ev (l : List Int) (hb : ∀ x ∈ l, 0 ≤ x ∧ x < 256) (hl : l.length ≤ 1000000000000) (h4 : 4 ≤ l.length) : Ev (fun k => table_sealed.f k l) (sealedS l) := by
  unfold table_sealed.f sealedS
  have e : wrap64 ((l.length : Int) - 4) = ((l.length - 4 : Nat) : Int) := by rw [w64 (by omega) (by omega)]; omega
  have e' : ((l.length : Int) - 4) = ((l.length - 4 : Nat) : Int) := by omega
  rw [e, e']
  refine Ev.bind (get_ev l _ 4 hb (by omega) (by omega)) (Ev.pos (by omega) (Ev.pos (by omega) (Ev.bind (sum_ev _ (fun x hx => hb x (List.mem_of_mem_take hx)) (by simp; omega)) ?_)))
  rw [show ((l.length - 4 : Nat) : Int).toNat = l.length - 4 by omega]
  exact Ev.now _
theorem dec_cells (l : List Int) (s x7 : Int) (x96 x97 C : Int) (bands : List Ba) (rows : List (List Int)) (y : List Int) (hy : ∀ x ∈ y, 0 ≤ x ∧ x < 256) (hl : y.length ≤ 1000000000) (hrows : rows.length < 5864062014805) (r : De)
    (h : Ev (fun k => table_Decode.l1 k l s (wrap64 (x7 + C)) x96 (wrap64 (x97 + 1)) C bands (rows ++ [y])) r) : ∀ (d i : Nat), i + d = y.length →
    Ev (fun k => table_Decode.l2 k l s x7 (y.take i) x96 x97 y (y.length : Int) (i : Int) C bands rows) r := by
  intro d
  induction d with
  | zero =>
    intro i hi
    refine Ev.step (fun k => ?_) h
    simp only [table_Decode.l2]
    rw [if_neg (by omega), if_pos hrows, List.take_of_length_le (by omega)]
  | succ d ih =>
    intro i hi
    have hlt : i < y.length := by omega
    have e1 : rd y (i : Int) = y[i] := by rw [rd_nat, getD_lt hlt]
    have hx := hy _ (List.getElem_mem hlt)
    have e3 : y.take (i + 1) = y.take i ++ [y[i]] := by rw [List.take_add_one, List.getElem?_eq_getElem hlt]; rfl
    refine Ev.step (fun k => ?_) (ih (i + 1) (by omega))
    simp only [table_Decode.l2]
    rw [if_pos (by omega), if_pos (by omega), if_pos (by omega), if_pos (by simp; omega), e1, w64 (by omega) (by omega), succ64 i (by omega), e3]
theorem dec_rows (l : List Int) (hb : ∀ x ∈ l, 0 ≤ x ∧ x < 256) (hl : l.length ≤ 1000000000) (C s at_ : Nat) (bands : List Ba) (hat : at_ + s * C + 4 ≤ l.length) (hs : s ≤ 1000) : ∀ (d i : Nat), i + d = s →
    Ev (fun k => table_Decode.l1 k l (s : Int) ((at_ + i * C : Nat) : Int) (s : Int) (i : Int) (C : Int) bands ((List.range i).map (rowAt l at_ C)))
      (if (unbitsS ((l.take (l.length - 4)).drop (at_ + s * C)) s).2 = true then ((C : Int), bands, (List.range s).map (rowAt l at_ C), (unbitsS ((l.take (l.length - 4)).drop (at_ + s * C)) s).1, 0) else errS 25) := by
  intro d
  induction d with
  | zero =>
    intro i hi
    obtain rfl : i = s := by omega
    have e : wrap64 ((l.length : Int) - 4) = ((l.length - 4 : Nat) : Int) := by rw [w64 (by omega) (by omega)]; omega
    refine Ev.step (f := fun k => (pack_Unbits.f k ((l.take (l.length - 4)).drop (at_ + i * C)) (i : Int)).bind fun bt => if bt.2 = true then some ((C : Int), bands, (List.range i).map (rowAt l at_ C), bt.1, 0) else some (0, [], [], [], 25)) (fun k => ?_) ?_
    · simp only [table_Decode.l1]
      rw [if_neg (by omega), e, if_pos (by omega), if_pos (by omega), if_pos (by omega), show ((l.length - 4 : Nat) : Int).toNat = l.length - 4 by omega, show ((at_ + i * C : Nat) : Int).toNat = at_ + i * C by omega]
    · refine Ev.bind (unbits_ev _ (i : Int) (fun x hx => hb x (List.mem_of_mem_take (List.mem_of_mem_drop hx))) (by simp; omega)) ?_
      split
      · exact Ev.now _
      · exact Ev.now _
  | succ d ih =>
    intro i hi
    have hC : C ≤ s * C := by
      have := Nat.mul_le_mul_right C (show 1 ≤ s by omega)
      omega
    have hi1 : (i + 1) * C ≤ s * C := Nat.mul_le_mul_right C (by omega)
    have hi2 : (i + 1) * C = i * C + C := by rw [Nat.add_mul, Nat.one_mul]
    have e : wrap64 (((at_ + i * C : Nat) : Int) + (C : Int)) = ((at_ + (i + 1) * C : Nat) : Int) := by rw [w64 (by omega) (by omega), hi2]; omega
    have hy : (l.take (at_ + (i + 1) * C)).drop (at_ + i * C) = rowAt l at_ C i := by
      unfold rowAt
      rw [List.drop_take, hi2]
      congr 1
      omega
    have hyl : (rowAt l at_ C i).length = C := by unfold rowAt; rw [List.length_take, List.length_drop]; omega
    have hyb : ∀ x ∈ rowAt l at_ C i, 0 ≤ x ∧ x < 256 := fun x hx => hb x (List.mem_of_mem_drop (List.mem_of_mem_take hx))
    refine Ev.step (f := fun k => table_Decode.l2 k l (s : Int) ((at_ + i * C : Nat) : Int) ((rowAt l at_ C i).take 0) (s : Int) (i : Int) (rowAt l at_ C i) ((rowAt l at_ C i).length : Int) ((0 : Nat) : Int) (C : Int) bands ((List.range i).map (rowAt l at_ C))) (fun k => ?_)
      (dec_cells l (s : Int) _ _ _ _ bands _ (rowAt l at_ C i) hyb (by omega) (by simp; omega) _ ?_ (rowAt l at_ C i).length 0 (by omega))
    · simp only [table_Decode.l1]
      rw [if_pos (by omega), if_pos (by omega), e, if_pos (by omega), if_pos (by omega), show ((at_ + (i + 1) * C : Nat) : Int).toNat = at_ + (i + 1) * C by omega, show ((at_ + i * C : Nat) : Int).toNat = at_ + i * C by omega, Option.bind_some, hy]
      rfl
    · rw [e, succ64 i (by omega)]
      have e2 : (List.range i).map (rowAt l at_ C) ++ [rowAt l at_ C i] = (List.range (i + 1)).map (rowAt l at_ C) := by rw [List.range_succ, List.map_append]; rfl
      rw [e2]
      exact ih (i + 1) (by omega)
def bodyS (l : List Int) (C s n : Nat) : De :=
  if (unbitsS ((l.take (l.length - 4)).drop (7 + 4 * n + s * C)) s).2 = true then ((C : Int), (List.range n).map (bandAt l), (List.range s).map (rowAt l (7 + 4 * n) C), (unbitsS ((l.take (l.length - 4)).drop (7 + 4 * n + s * C)) s).1, 0) else errS 25
theorem dec_bands (l : List Int) (hb : ∀ x ∈ l, 0 ≤ x ∧ x < 256) (hl : l.length ≤ 1000000000) (C s n : Nat) (hat : 7 + 4 * n + s * C + 4 ≤ l.length) (hs : s ≤ 1000) (hn : n ≤ 1000) : ∀ (d i : Nat), i + d = n →
    Ev (fun k => table_Decode.l0 k l (s : Int) ((7 + 4 * i : Nat) : Int) (n : Int) (i : Int) (C : Int) ((List.range i).map (bandAt l))) (bodyS l C s n) := by
  intro d
  induction d with
  | zero =>
    intro i hi
    obtain rfl : i = n := by omega
    refine Ev.step (f := fun k => table_Decode.l1 k l (s : Int) ((7 + 4 * i + 0 * C : Nat) : Int) (s : Int) ((0 : Nat) : Int) (C : Int) ((List.range i).map (bandAt l)) ((List.range 0).map (rowAt l (7 + 4 * i) C))) (fun k => ?_) (dec_rows l hb hl C s (7 + 4 * i) _ hat hs s 0 (by omega))
    simp only [table_Decode.l0]
    rw [if_neg (by omega), Nat.zero_mul, Nat.add_zero]
    rfl
  | succ d ih =>
    intro i hi
    have hg := get_ev l ((7 + 4 * i : Nat) : Int) 3 hb (by omega) (by omega)
    have eg : getS l ((7 + 4 * i : Nat) : Int) 3 = (be 0 ((l.drop (7 + 4 * i)).take 3), true) := by
      unfold getS
      rw [if_pos (by unfold getOk; exact decide_eq_true (by omega))]
      rw [show ((7 + 4 * i : Nat) : Int).toNat = 7 + 4 * i by omega]
      rfl
    rw [eg] at hg
    have e1 : wrap64 (((7 + 4 * i : Nat) : Int) + 3) = ((10 + 4 * i : Nat) : Int) := by rw [w64 (by omega) (by omega)]; omega
    have e2 : wrap64 (((7 + 4 * i : Nat) : Int) + 4) = ((7 + 4 * (i + 1) : Nat) : Int) := by rw [w64 (by omega) (by omega)]; omega
    have hx := range_of l (fun x => 0 ≤ x ∧ x < 256) hb (by omega) (10 + 4 * i)
    have e3 : wrap64 (rd l ((10 + 4 * i : Nat) : Int)) = l.getD (10 + 4 * i) 0 := by rw [rd_nat, w64 (by omega) (by omega)]
    refine Ev.step (f := fun k => (pack_Get.f k l ((7 + 4 * i : Nat) : Int) 3).bind fun bt => if 0 ≤ wrap64 (((7 + 4 * i : Nat) : Int) + 3) then (if wrap64 (((7 + 4 * i : Nat) : Int) + 3) < (l.length : Int) then (if ((List.range i).map (bandAt l)).length < 8796093022208 then table_Decode.l0 k l (s : Int) (wrap64 (((7 + 4 * i : Nat) : Int) + 4)) (n : Int) (wrap64 ((i : Int) + 1)) (C : Int) ((List.range i).map (bandAt l) ++ [(⟨bt.1, wrap64 (rd l (wrap64 (((7 + 4 * i : Nat) : Int) + 3)))⟩ : Ba)]) else none) else none) else none) (fun k => ?_) ?_
    · simp only [table_Decode.l0]
      rw [if_pos (by omega)]
    · refine Ev.bind hg ?_
      rw [e1, e2, e3, succ64 i (by omega)]
      refine Ev.pos (by omega) (Ev.pos (by omega) (Ev.pos (by simp; omega) ?_))
      have e4 : (List.range i).map (bandAt l) ++ [(⟨be 0 ((l.drop (7 + 4 * i)).take 3), l.getD (10 + 4 * i) 0⟩ : Ba)] = (List.range (i + 1)).map (bandAt l) := by rw [List.range_succ, List.map_append]; rfl
      show Ev (fun k => table_Decode.l0 k l (s : Int) ((7 + 4 * (i + 1) : Nat) : Int) (n : Int) ((i + 1 : Nat) : Int) (C : Int) ((List.range i).map (bandAt l) ++ [(⟨be 0 ((l.drop (7 + 4 * i)).take 3), l.getD (10 + 4 * i) 0⟩ : Ba)])) _
      rw [e4]
      exact ih (i + 1) (by omega)
def countsOk (l : List Int) : Bool := decide ((1 ≤ l.getD 4 0 ∧ l.getD 4 0 ≤ 8) ∧ (1 ≤ l.getD 5 0 ∧ l.getD 5 0 ≤ 5) ∧ (1 ≤ l.getD 6 0 ∧ l.getD 6 0 ≤ 60) ∧ lenS (l.getD 4 0) (l.getD 5 0) (l.getD 6 0) = l.length)
def decS (l : List Int) : De :=
  if l.length < 11 then errS 21 else if l.take 4 ≠ [66, 82, 75, 49] then errS 22 else if sealedS l = false then errS 23 else if countsOk l = false then errS 24
  else bodyS l (l.getD 4 0).toNat (l.getD 5 0).toNat (l.getD 6 0).toNat
theorem take4 {l : List Int} (h : 4 ≤ l.length) : l.take 4 = [l.getD 0 0, l.getD 1 0, l.getD 2 0, l.getD 3 0] := by
  match l, h with
  | a :: b :: c :: d :: r, _ => rfl
theorem dec_ev (l : List Int) (hb : ∀ x ∈ l, 0 ≤ x ∧ x < 256) (hl : l.length ≤ 1000000000) : Ev (fun k => table_Decode.f k l) (decS l) := by
  unfold table_Decode.f decS
  by_cases h0 : l.length < 11
  · rw [if_pos h0]
    exact Ev.pos (by omega) (Ev.now _)
  rw [if_neg h0]
  refine Ev.neg (by omega) (Ev.pos (by omega) (Ev.bindc rfl ?_))
  have ht := take4 (l := l) (by omega)
  rw [ht]
  refine Ev.pos (by simp) (Ev.pos (by simp) (Ev.pos (by simp) (Ev.pos (by simp) (Ev.bindc rfl ?_))))
  show Ev (fun k => if l.getD 0 0 = 66 then (if l.getD 1 0 = 82 then (if l.getD 2 0 = 75 then (if l.getD 3 0 = 49 then _ else _) else _) else _) else _) _
  by_cases m0 : l.getD 0 0 = 66
  case neg =>
    rw [if_pos (fun h => m0 (List.cons.inj h).1)]; exact Ev.neg m0 (Ev.now _)
  by_cases m1 : l.getD 1 0 = 82
  case neg =>
    rw [if_pos (fun h => m1 (List.cons.inj (List.cons.inj h).2).1)]; exact Ev.pos m0 (Ev.neg m1 (Ev.now _))
  by_cases m2 : l.getD 2 0 = 75
  case neg =>
    rw [if_pos (fun h => m2 (List.cons.inj (List.cons.inj (List.cons.inj h).2).2).1)]; exact Ev.pos m0 (Ev.pos m1 (Ev.neg m2 (Ev.now _)))
  by_cases m3 : l.getD 3 0 = 49
  case neg =>
    rw [if_pos (fun h => m3 (List.cons.inj (List.cons.inj (List.cons.inj (List.cons.inj h).2).2).2).1)]; exact Ev.pos m0 (Ev.pos m1 (Ev.pos m2 (Ev.neg m3 (Ev.now _))))
  rw [if_neg (fun h => h (by rw [m0, m1, m2, m3]))]
  refine Ev.pos m0 (Ev.pos m1 (Ev.pos m2 (Ev.pos m3 (Ev.bind (sealed_ev l hb (by omega) (by omega)) ?_))))
  cases hs : sealedS l with
  | false => rw [if_pos rfl]; exact Ev.neg (by decide) (Ev.now _)
  | true =>
  rw [if_neg (by decide)]
  have b4 := range_of l (fun x => 0 ≤ x ∧ x < 256) hb (by omega) 4
  have b5 := range_of l (fun x => 0 ≤ x ∧ x < 256) hb (by omega) 5
  have b6 := range_of l (fun x => 0 ≤ x ∧ x < 256) hb (by omega) 6
  have r4 : wrap64 (rd l 4) = l.getD 4 0 := by rw [show (4 : Int) = ((4 : Nat) : Int) from rfl, rd_nat, w64 (by omega) (by omega)]
  have r5 : wrap64 (rd l 5) = l.getD 5 0 := by rw [show (5 : Int) = ((5 : Nat) : Int) from rfl, rd_nat, w64 (by omega) (by omega)]
  have r6 : wrap64 (rd l 6) = l.getD 6 0 := by rw [show (6 : Int) = ((6 : Nat) : Int) from rfl, rd_nat, w64 (by omega) (by omega)]
  rw [r4, r5, r6]
  have hbad : countsOk l = false → Ev (fun k => table_Decode.j0 k l (l.getD 5 0) (l.getD 6 0) true (l.getD 4 0)) (if countsOk l = false then errS 24 else bodyS l (l.getD 4 0).toNat (l.getD 5 0).toNat (l.getD 6 0).toNat) := by
    intro h
    rw [if_pos h]
    exact Ev.step (f := fun _ => some (errS 24)) (fun k => by simp [table_Decode.j0, errS]) (Ev.now _)
  refine Ev.pos rfl (Ev.pos (by omega) (Ev.pos (by omega) (Ev.pos (by omega) (Ev.bindc (btw_eq _ _ _) ?_))))
  by_cases c4 : 1 ≤ l.getD 4 0 ∧ l.getD 4 0 ≤ 8
  case neg =>
    exact Ev.neg (fun h => c4 (btw_iff.1 h)) (hbad (decide_eq_false (fun h => c4 h.1)))
  refine Ev.pos (btw_iff.2 c4) (Ev.bindc (btw_eq _ _ _) ?_)
  by_cases c5 : 1 ≤ l.getD 5 0 ∧ l.getD 5 0 ≤ 5
  case neg =>
    exact Ev.neg (fun h => c5 (btw_iff.1 h)) (hbad (decide_eq_false (fun h => c5 h.2.1)))
  refine Ev.pos (btw_iff.2 c5) (Ev.bindc (btw_eq _ _ _) ?_)
  by_cases c6 : 1 ≤ l.getD 6 0 ∧ l.getD 6 0 ≤ 60
  case neg =>
    exact Ev.neg (fun h => c6 (btw_iff.1 h)) (hbad (decide_eq_false (fun h => c6 h.2.2.1)))
  refine Ev.pos (btw_iff.2 c6) (Ev.bindc (tlen_eq _ _ _) ?_)
  by_cases cl : lenS (l.getD 4 0) (l.getD 5 0) (l.getD 6 0) = l.length
  case neg =>
    rw [show (lenS (l.getD 4 0) (l.getD 5 0) (l.getD 6 0) != (l.length : Int)) = true by simpa using cl]
    exact hbad (decide_eq_false (fun h => cl h.2.2.2))
  rw [show (lenS (l.getD 4 0) (l.getD 5 0) (l.getD 6 0) != (l.length : Int)) = false by simpa using cl]
  rw [show countsOk l = true from decide_eq_true ⟨c4, c5, c6, cl⟩, if_neg (by decide)]
  generalize l.getD 4 0 = C at *
  generalize l.getD 5 0 = s at *
  generalize l.getD 6 0 = n at *
  obtain ⟨C, rfl⟩ := Int.eq_ofNat_of_zero_le b4.1
  obtain ⟨s, rfl⟩ := Int.eq_ofNat_of_zero_le b5.1
  obtain ⟨n, rfl⟩ := Int.eq_ofNat_of_zero_le b6.1
  have hlen : (l.length : Int) = 11 + 4 * (n : Int) + (C : Int) * (s : Int) + ((s : Int) + 7) / 8 := by
    rw [← cl]; unfold lenS; rw [if_pos (by omega)]
  have hcs : (C : Int) * (s : Int) = ((s * C : Nat) : Int) := by rw [Nat.mul_comm]; simp
  rw [hcs] at hlen
  rw [Int.toNat_natCast, Int.toNat_natCast, Int.toNat_natCast]
  refine Ev.step (f := fun k => table_Decode.l0 k l (s : Int) ((7 + 4 * 0 : Nat) : Int) (n : Int) ((0 : Nat) : Int) (C : Int) ((List.range 0).map (bandAt l))) (fun k => ?_) (dec_bands l hb hl C s n (by omega) (by omega) (by omega) n 0 (by omega))
  simp only [table_Decode.j0]
  rw [if_neg (by decide)]
  rfl
end Go.Proofs.Ytpcbhghgommijaa.XTable
