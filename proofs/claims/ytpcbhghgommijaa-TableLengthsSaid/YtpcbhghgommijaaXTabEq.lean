/- Whether two tables are alike: package table's word and package caesurakeep's. -/
import Derived.Test.YtpcbhghgommijaaXTable
import Derived.Test.YtpcbhghgommijaaXx7
import Derived.Test.YtpcbhghgommijaaXx8
namespace Go.Proofs.Ytpcbhghgommijaa.XTabEq
open Go Go.RowKit Go.Proofs.Ytpcbhghgommijaa.X Go.Proofs.Ytpcbhghgommijaa.XPure Go.Proofs.Ytpcbhghgommijaa.XPack Go.Proofs.Ytpcbhghgommijaa.XTable Go.Proofs.YtpcbhghgommijaaW.PrintWords Go.Proofs.YtpcbhghgommijaaW.PrintLast Go.Proofs.YtpcbhghgommijaaW.PrintMore
set_option linter.unusedVariables false
set_option linter.unusedSimpArgs false
set_option maxHeartbeats 1000000
theorem ba_ext {a b : Ba} (h0 : a.f0 = b.f0) (h1 : a.f1 = b.f1) : a = b := by cases a; cases b; simp_all
instance : DecidableEq Ba := fun a b => if h : a.f0 = b.f0 ∧ a.f1 = b.f1 then isTrue (ba_ext h.1 h.2) else isFalse (fun e => h (by rw [e]; exact ⟨rfl, rfl⟩))
theorem eq_loop {α : Type} [DecidableEq α] (a b : List α) (L : Nat → Nat → Option Bool) (hab : a.length = b.length) (hstop : ∀ i, a.length ≤ i → Ev (fun k => L k i) true)
    (hyes : ∀ i (h : i < a.length) (h' : i < b.length), a[i] = b[i] → ∀ r, Ev (fun k => L k (i + 1)) r → Ev (fun k => L k i) r) (hno : ∀ i (h : i < a.length) (h' : i < b.length), a[i] ≠ b[i] → Ev (fun k => L k i) false) : Ev (fun k => L k 0) (decide (a = b)) := by
  have main : ∀ (d i : Nat), i + d = a.length → Ev (fun k => L k i) (decide (a.drop i = b.drop i)) := by
    intro d
    induction d with
    | zero =>
      intro i hi
      rw [decide_eq_true (by rw [List.drop_of_length_le (by omega), List.drop_of_length_le (by omega)])]
      exact hstop i (by omega)
    | succ d ih =>
      intro i hi
      have ha : i < a.length := by omega
      have hb : i < b.length := by omega
      by_cases he : a[i] = b[i]
      · have : decide (a.drop i = b.drop i) = decide (a.drop (i + 1) = b.drop (i + 1)) := by
          apply decide_eq_decide.2
          rw [drop_cons ha, drop_cons hb, he]
          simp only [List.cons.injEq, true_and]
        rw [this]
        exact hyes i ha hb he _ (ih (i + 1) (by omega))
      · rw [decide_eq_false (by rw [drop_cons ha, drop_cons hb]; exact fun h => he (List.cons.inj h).1)]
        exact hno i ha hb he
  have := main a.length 0 (by omega)
  rw [List.drop_zero, List.drop_zero] at this
  exact this
theorem ne_len {α : Type} [DecidableEq α] {a b : List α} (h : a.length ≠ b.length) : decide (a = b) = false := decide_eq_false (fun e => h (by rw [e]))
theorem ba_ne (a b : Ba) : (!(a.f0 == b.f0) || (!(a.f1 == b.f1))) = true ↔ a ≠ b := by
  constructor
  · intro h e; rw [e] at h; simp at h
  · intro h
    cases hc : (!(a.f0 == b.f0) || (!(a.f1 == b.f1)))
    · simp at hc; exact absurd (ba_ext hc.1 hc.2) h
    · rfl
theorem kbands_ev (a b : List Ba) (hl : a.length ≤ 1000000000000) : Ev (fun k => caesurakeep_Bands.f k a b) (decide (a = b)) := by
  unfold caesurakeep_Bands.f
  by_cases h : a.length = b.length
  · refine Ev.pos (by omega) ?_
    refine eq_loop a b (fun k i => caesurakeep_Bands.l0 k a b (i : Int)) h (fun i hi => Ev.step (f := fun _ => some true) (fun k => ?_) (Ev.now _)) (fun i h1 h2 he r hr => Ev.step (fun k => ?_) hr) (fun i h1 h2 he => Ev.step (f := fun _ => some false) (fun k => ?_) (Ev.now _))
    · simp only [caesurakeep_Bands.l0]; rw [if_neg (by omega)]
    · simp only [caesurakeep_Bands.l0]; rw [if_pos (by omega), if_pos (by omega), if_pos (by omega), rdT _ _ h1, rdT _ _ h2, if_neg (fun h => (ba_ne _ _).1 h he), succ64 i (by omega)]
    · simp only [caesurakeep_Bands.l0]; rw [if_pos (by omega), if_pos (by omega), if_pos (by omega), rdT _ _ h1, rdT _ _ h2, if_pos ((ba_ne _ _).2 he)]
  · rw [ne_len h]; exact Ev.neg (by omega) (Ev.now _)
theorem tbands_ev (a b : List Ba) (hl : a.length ≤ 1000000000000) : Ev (fun k => api_Band.f k a b) (decide (a = b)) := by
  unfold api_Band.f
  by_cases h : a.length = b.length
  · refine Ev.pos (by omega) ?_
    refine eq_loop a b (fun k i => api_Band.l0 k a b (a.length : Int) (i : Int)) h (fun i hi => Ev.step (f := fun _ => some true) (fun k => ?_) (Ev.now _)) (fun i h1 h2 he r hr => Ev.step (fun k => ?_) hr) (fun i h1 h2 he => Ev.step (f := fun _ => some false) (fun k => ?_) (Ev.now _))
    · simp only [api_Band.l0]; rw [if_neg (by omega)]
    · simp only [api_Band.l0]; rw [if_pos (by omega), if_pos (by omega), if_pos (by omega), if_pos (by omega), rdT _ _ h1, rdT _ _ h2, if_neg (fun h => (ba_ne _ _).1 h he), succ64 i (by omega)]
    · simp only [api_Band.l0]; rw [if_pos (by omega), if_pos (by omega), if_pos (by omega), if_pos (by omega), rdT _ _ h1, rdT _ _ h2, if_pos ((ba_ne _ _).2 he)]
  · rw [ne_len h]; exact Ev.neg (by omega) (Ev.now _)
theorem kints_ev (a b : List Int) (hl : a.length ≤ 1000000000000) : Ev (fun k => caesurakeep_Ints.f k a b) (decide (a = b)) := by
  unfold caesurakeep_Ints.f
  by_cases h : a.length = b.length
  · refine Ev.pos (by omega) ?_
    refine eq_loop a b (fun k i => caesurakeep_Ints.l0 k a b (i : Int)) h (fun i hi => Ev.step (f := fun _ => some true) (fun k => ?_) (Ev.now _)) (fun i h1 h2 he r hr => Ev.step (fun k => ?_) hr) (fun i h1 h2 he => Ev.step (f := fun _ => some false) (fun k => ?_) (Ev.now _))
    · simp only [caesurakeep_Ints.l0]; rw [if_neg (by omega)]
    · simp only [caesurakeep_Ints.l0]; rw [if_pos (by omega), if_pos (by omega), if_pos (by omega), rd_nat, rd_nat, getD_lt h1, getD_lt h2, if_pos he, succ64 i (by omega)]
    · simp only [caesurakeep_Ints.l0]; rw [if_pos (by omega), if_pos (by omega), if_pos (by omega), rd_nat, rd_nat, getD_lt h1, getD_lt h2, if_neg he]
  · rw [ne_len h]; exact Ev.neg (by omega) (Ev.now _)
theorem tints_ev (a b : List Int) (hl : a.length ≤ 1000000000000) : Ev (fun k => slices_Equal_int_int.f k a b) (decide (a = b)) := by
  unfold slices_Equal_int_int.f
  by_cases h : a.length = b.length
  · refine Ev.pos (by omega) ?_
    refine eq_loop a b (fun k i => slices_Equal_int_int.l0 k a b (a.length : Int) (i : Int)) h (fun i hi => Ev.step (f := fun _ => some true) (fun k => ?_) (Ev.now _)) (fun i h1 h2 he r hr => Ev.step (fun k => ?_) hr) (fun i h1 h2 he => Ev.step (f := fun _ => some false) (fun k => ?_) (Ev.now _))
    · simp only [slices_Equal_int_int.l0]; rw [if_neg (by omega)]
    · simp only [slices_Equal_int_int.l0]; rw [if_pos (by omega), if_pos (by omega), if_pos (by omega), if_pos (by omega), rd_nat, rd_nat, getD_lt h1, getD_lt h2, if_pos he, succ64 i (by omega)]
    · simp only [slices_Equal_int_int.l0]; rw [if_pos (by omega), if_pos (by omega), if_pos (by omega), if_pos (by omega), rd_nat, rd_nat, getD_lt h1, getD_lt h2, if_neg he]
  · rw [ne_len h]; exact Ev.neg (by omega) (Ev.now _)
theorem same1_ev (a b : List Int) (hl : a.length ≤ 1000000000000) : Ev (fun k => table_Same_1.f k a b) (decide (a = b)) := by
  unfold table_Same_1.f
  exact Ev.bind (tints_ev a b hl) (Ev.now _)
theorem kbools_ev (a b : List Bool) (hl : a.length ≤ 1000000000000) : Ev (fun k => caesurakeep_Bools.f k a b) (decide (a = b)) := by
  unfold caesurakeep_Bools.f
  by_cases h : a.length = b.length
  · refine Ev.pos (by omega) ?_
    refine eq_loop a b (fun k i => caesurakeep_Bools.l0 k a b (i : Int)) h (fun i hi => Ev.step (f := fun _ => some true) (fun k => ?_) (Ev.now _)) (fun i h1 h2 he r hr => Ev.step (fun k => ?_) hr) (fun i h1 h2 he => Ev.step (f := fun _ => some false) (fun k => ?_) (Ev.now _))
    · simp only [caesurakeep_Bools.l0]; rw [if_neg (by omega)]
    · simp only [caesurakeep_Bools.l0]; rw [if_pos (by omega), if_pos (by omega), if_pos (by omega), rdB_nat, rdB_nat, getD_lt h1, getD_lt h2, if_neg (by simpa using he), succ64 i (by omega)]
    · simp only [caesurakeep_Bools.l0]; rw [if_pos (by omega), if_pos (by omega), if_pos (by omega), rdB_nat, rdB_nat, getD_lt h1, getD_lt h2, if_pos (by simpa using he)]
  · rw [ne_len h]; exact Ev.neg (by omega) (Ev.now _)
theorem tbools_ev (a b : List Bool) (hl : a.length ≤ 1000000000000) : Ev (fun k => slices_Equal_bool_bool.f k a b) (decide (a = b)) := by
  unfold slices_Equal_bool_bool.f
  by_cases h : a.length = b.length
  · refine Ev.pos (by omega) ?_
    refine eq_loop a b (fun k i => slices_Equal_bool_bool.l0 k a b (a.length : Int) (i : Int)) h (fun i hi => Ev.step (f := fun _ => some true) (fun k => ?_) (Ev.now _)) (fun i h1 h2 he r hr => Ev.step (fun k => ?_) hr) (fun i h1 h2 he => Ev.step (f := fun _ => some false) (fun k => ?_) (Ev.now _))
    · simp only [slices_Equal_bool_bool.l0]; rw [if_neg (by omega)]
    · simp only [slices_Equal_bool_bool.l0]; rw [if_pos (by omega), if_pos (by omega), if_pos (by omega), if_pos (by omega), rdB_nat, rdB_nat, getD_lt h1, getD_lt h2, if_neg (by simpa using he), succ64 i (by omega)]
    · simp only [slices_Equal_bool_bool.l0]; rw [if_pos (by omega), if_pos (by omega), if_pos (by omega), if_pos (by omega), rdB_nat, rdB_nat, getD_lt h1, getD_lt h2, if_pos (by simpa using he)]
  · rw [ne_len h]; exact Ev.neg (by omega) (Ev.now _)
theorem klists_ev (a b : List (List Int)) (hl : a.length ≤ 1000000000000) (hr : ∀ x ∈ a, x.length ≤ 1000000000000) : Ev (fun k => caesurakeep_Lists.f k a b) (decide (a = b)) := by
  unfold caesurakeep_Lists.f
  by_cases h : a.length = b.length
  · refine Ev.pos (by omega) ?_
    refine eq_loop a b (fun k i => caesurakeep_Lists.l0 k a b (i : Int)) h (fun i hi => Ev.step (f := fun _ => some true) (fun k => ?_) (Ev.now _))
      (fun i h1 h2 he r hr' => Ev.step (f := fun k => (caesurakeep_Ints.f k a[i] b[i]).bind fun t => if t = true then caesurakeep_Lists.l0 k a b ((i + 1 : Nat) : Int) else some false) (fun k => ?_) (Ev.bind (kints_ev a[i] b[i] (hr _ (List.getElem_mem h1))) (Ev.pos (decide_eq_true he) hr')))
      (fun i h1 h2 he => Ev.step (f := fun k => (caesurakeep_Ints.f k a[i] b[i]).bind fun t => if t = true then caesurakeep_Lists.l0 k a b ((i + 1 : Nat) : Int) else some false) (fun k => ?_) (Ev.bind (kints_ev a[i] b[i] (hr _ (List.getElem_mem h1))) (Ev.neg (by simpa using he) (Ev.now _))))
    · simp only [caesurakeep_Lists.l0]; rw [if_neg (by omega)]
    · simp only [caesurakeep_Lists.l0]; rw [if_pos (by omega), if_pos (by omega), if_pos (by omega), rdL _ _ h1, rdL _ _ h2, succ64 i (by omega)]
    · simp only [caesurakeep_Lists.l0]; rw [if_pos (by omega), if_pos (by omega), if_pos (by omega), rdL _ _ h1, rdL _ _ h2, succ64 i (by omega)]
  · rw [ne_len h]; exact Ev.neg (by omega) (Ev.now _)
theorem tlists_ev (a b : List (List Int)) (z : Int) (hl : a.length ≤ 1000000000000) (hr : ∀ x ∈ a, x.length ≤ 1000000000000) : Ev (fun k => slices_EqualFunc_int_int_int_int__table_Same_1.f k a b z) (decide (a = b)) := by
  unfold slices_EqualFunc_int_int_int_int__table_Same_1.f
  by_cases h : a.length = b.length
  · refine Ev.pos (by omega) ?_
    refine eq_loop a b (fun k i => slices_EqualFunc_int_int_int_int__table_Same_1.l0 k b a (a.length : Int) (i : Int)) h (fun i hi => Ev.step (f := fun _ => some true) (fun k => ?_) (Ev.now _))
      (fun i h1 h2 he r hr' => Ev.step (f := fun k => (table_Same_1.f k a[i] b[i]).bind fun t => if t = true then slices_EqualFunc_int_int_int_int__table_Same_1.l0 k b a (a.length : Int) ((i + 1 : Nat) : Int) else some false) (fun k => ?_) (Ev.bind (same1_ev a[i] b[i] (hr _ (List.getElem_mem h1))) (Ev.pos (decide_eq_true he) hr')))
      (fun i h1 h2 he => Ev.step (f := fun k => (table_Same_1.f k a[i] b[i]).bind fun t => if t = true then slices_EqualFunc_int_int_int_int__table_Same_1.l0 k b a (a.length : Int) ((i + 1 : Nat) : Int) else some false) (fun k => ?_) (Ev.bind (same1_ev a[i] b[i] (hr _ (List.getElem_mem h1))) (Ev.neg (by simpa using he) (Ev.now _))))
    · simp only [slices_EqualFunc_int_int_int_int__table_Same_1.l0]; rw [if_neg (by omega)]
    · simp only [slices_EqualFunc_int_int_int_int__table_Same_1.l0]; rw [if_pos (by omega), if_pos (by omega), if_pos (by omega), if_pos (by omega), rdL _ _ h1, rdL _ _ h2, succ64 i (by omega)]
    · simp only [slices_EqualFunc_int_int_int_int__table_Same_1.l0]; rw [if_pos (by omega), if_pos (by omega), if_pos (by omega), if_pos (by omega), rdL _ _ h1, rdL _ _ h2, succ64 i (by omega)]
  · rw [ne_len h]; exact Ev.neg (by omega) (Ev.now _)
def eqS (C : Int) (b : List Ba) (n : List (List Int)) (r : List Bool) (C' : Int) (b' : List Ba) (n' : List (List Int)) (r' : List Bool) : Bool := decide (C = C' ∧ b = b' ∧ n = n' ∧ r = r')
theorem ktable_ev (C : Int) (b : List Ba) (n : List (List Int)) (r : List Bool) (C' : Int) (b' : List Ba) (n' : List (List Int)) (r' : List Bool) (h1 : b.length ≤ 1000000000000) (h2 : n.length ≤ 1000000000000) (h3 : ∀ x ∈ n, x.length ≤ 1000000000000) (h4 : r.length ≤ 1000000000000) :
    Ev (fun k => caesurakeep_Table.f k C b n r C' b' n' r') (eqS C b n r C' b' n' r') := by
  unfold caesurakeep_Table.f eqS
  by_cases hc : C = C'
  case neg => rw [decide_eq_false (fun h => hc h.1)]; exact Ev.neg hc (Ev.now _)
  refine Ev.pos hc (Ev.bind (kbands_ev b b' h1) ?_)
  by_cases hb : b = b'
  case neg => rw [decide_eq_false hb, decide_eq_false (fun h => hb h.2.1)]; exact Ev.neg (by decide) (Ev.now _)
  refine Ev.pos (decide_eq_true hb) (Ev.bind (klists_ev n n' h2 h3) ?_)
  by_cases hn : n = n'
  case neg => rw [decide_eq_false hn, decide_eq_false (fun h => hn h.2.2.1)]; exact Ev.neg (by decide) (Ev.now _)
  refine Ev.pos (decide_eq_true hn) (Ev.bind (kbools_ev r r' h4) ?_)
  rw [show decide (C = C' ∧ b = b' ∧ n = n' ∧ r = r') = decide (r = r') by simp [hc, hb, hn]]
  exact Ev.now _
theorem same_ev (C : Int) (b : List Ba) (n : List (List Int)) (r : List Bool) (C' : Int) (b' : List Ba) (n' : List (List Int)) (r' : List Bool) (h1 : b.length ≤ 1000000000000) (h2 : n.length ≤ 1000000000000) (h3 : ∀ x ∈ n, x.length ≤ 1000000000000) (h4 : r.length ≤ 1000000000000) :
    Ev (fun k => table_Same.f k C b n r C' b' n' r') (eqS C b n r C' b' n' r') := by
  unfold table_Same.f eqS
  by_cases hc : C = C'
  case neg => rw [decide_eq_false (fun h => hc h.1)]; exact Ev.neg hc (Ev.now _)
  refine Ev.pos hc (Ev.bind (tbands_ev b b' h1) ?_)
  by_cases hb : b = b'
  case neg => rw [decide_eq_false hb, decide_eq_false (fun h => hb h.2.1)]; exact Ev.neg (by decide) (Ev.now _)
  refine Ev.pos (decide_eq_true hb) (Ev.bind (tbools_ev r r' h4) ?_)
  by_cases hn : r = r'
  case neg => rw [decide_eq_false hn, decide_eq_false (fun h => hn h.2.2.2)]; exact Ev.neg (by decide) (Ev.now _)
  refine Ev.pos (decide_eq_true hn) (Ev.bind (tlists_ev n n' _ h2 h3) ?_)
  rw [show decide (C = C' ∧ b = b' ∧ n = n' ∧ r = r') = decide (n = n') by simp [hc, hb, hn]]
  exact Ev.now _
end Go.Proofs.Ytpcbhghgommijaa.XTabEq
