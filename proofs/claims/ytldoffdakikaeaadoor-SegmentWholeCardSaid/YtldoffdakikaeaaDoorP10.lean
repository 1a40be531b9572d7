/- States of a table that are alike: by rows of classes; what the two ways of reckoning it come to. -/
import Derived.Test.YtldoffdakikaeaaDoorVB1
namespace Go.V
def nx (t : Tab) (s c : Nat) : Nat := ((t.next.getD s []).getD c 0).toNat
def bk (t : Tab) (s : Nat) : Bool := t.brk.getD s false
def runW (t : Tab) (s : Nat) (w : List Nat) : Nat := w.foldl (nx t) s
/-- rows of classes -/
def Row (t : Tab) (w : List Nat) : Prop := ∀ c ∈ w, c < t.classes.toNat
def Alk (t : Tab) (a b : Nat) : Prop := ∀ w, Row t w → bk t (runW t a w) = bk t (runW t b w)
open Classical in
noncomputable def alk (t : Tab) (a b : Nat) : Bool := decide (Alk t a b)
theorem alk_iff {t : Tab} {a b : Nat} : alk t a b = true ↔ Alk t a b := by unfold alk; simp
theorem alk_not {t : Tab} {a b : Nat} : alk t a b = false ↔ ¬ Alk t a b := by unfold alk; simp
theorem Alk.refl {t : Tab} {a : Nat} : Alk t a a := fun _ _ => rfl
theorem Alk.symm {t : Tab} {a b : Nat} (h : Alk t a b) : Alk t b a := fun w hw => (h w hw).symm
theorem Alk.trans {t : Tab} {a b c : Nat} (h : Alk t a b) (k : Alk t b c) : Alk t a c := fun w hw => (h w hw).trans (k w hw)
theorem Row.nil {t : Tab} : Row t [] := by intro c hc; cases hc
theorem Row.cons {t : Tab} {c : Nat} {w : List Nat} (h : c < t.classes.toNat) (k : Row t w) : Row t (c :: w) := by
  intro d hd; rcases List.mem_cons.1 hd with rfl | hd
  · exact h
  · exact k d hd
theorem Row.app {t : Tab} {v w : List Nat} (h : Row t v) (k : Row t w) : Row t (v ++ w) := by
  intro d hd; rcases List.mem_append.1 hd with hd | hd
  · exact h d hd
  · exact k d hd
theorem Row.tail {t : Tab} {c : Nat} {w : List Nat} (h : Row t (c :: w)) : c < t.classes.toNat ∧ Row t w := ⟨h c (by simp), fun d hd => h d (by simp [hd])⟩
theorem Row.take {t : Tab} {w : List Nat} {i : Nat} (h : Row t w) : Row t (w.take i) := fun d hd => h d (List.mem_of_mem_take hd)
theorem Row.drop {t : Tab} {w : List Nat} {i : Nat} (h : Row t w) : Row t (w.drop i) := fun d hd => h d (List.mem_of_mem_drop hd)
theorem runW_cons {t : Tab} {s c : Nat} {w : List Nat} : runW t s (c :: w) = runW t (nx t s c) w := rfl
theorem runW_app {t : Tab} {s : Nat} {v w : List Nat} : runW t s (v ++ w) = runW t (runW t s v) w := by unfold runW; rw [List.foldl_append]
theorem Alk.next {t : Tab} {a b c : Nat} (h : Alk t a b) (hc : c < t.classes.toNat) : Alk t (nx t a c) (nx t b c) := fun w hw => h (c :: w) (Row.cons hc hw)
theorem Alk.bk {t : Tab} {a b : Nat} (h : Alk t a b) : bk t a = bk t b := h [] Row.nil
/-- no more numbers below N than N -/
theorem pigeon : ∀ {N : Nat} {l : List Nat}, l.Nodup → (∀ x ∈ l, x < N) → l.length ≤ N
  | 0, l, _, h => by
    cases l with
    | nil => simp
    | cons a l => exact absurd (h a (by simp)) (by omega)
  | N + 1, l, hn, h => by
    have h1 := pigeon (N := N) (l := l.erase N) (hn.erase _) (fun x hx => by
      have h2 := h x (List.mem_of_mem_erase hx)
      have h3 : x ≠ N := fun e => by subst e; exact (hn.not_mem_erase) hx
      omega)
    have h4 : l.length ≤ (l.erase N).length + 1 := by
      rw [List.length_erase]; split <;> omega
    omega
theorem pigeon2 {n : Nat} {D : List (Nat × Nat)} (hn : D.Nodup) (h : ∀ p ∈ D, p.1 < n ∧ p.2 < n) : D.length ≤ n * n := by
  have e : (D.map fun p => p.1 * n + p.2).length = D.length := List.length_map _
  rw [← e]
  have lt : ∀ p : Nat × Nat, p.1 < n → p.2 < n → p.1 * n + p.2 < n * n := fun p h1 h2 => by
    have := Nat.mul_le_mul_right n (show p.1 + 1 ≤ n by omega)
    rw [Nat.add_mul] at this; omega
  refine pigeon ?_ ?_
  · unfold List.Nodup at *
    rw [List.pairwise_map]
    refine hn.imp_of_mem ?_
    intro p q hp hq hne hpq
    have h1 := h p hp
    have h2 := h q hq
    apply hne
    have e1 : p.1 = q.1 := by
      have a1 : (p.1 * n + p.2) / n = p.1 := by rw [Nat.mul_comm, Nat.mul_add_div (by omega), Nat.div_eq_of_lt h1.2]; omega
      have a2 : (q.1 * n + q.2) / n = q.1 := by rw [Nat.mul_comm, Nat.mul_add_div (by omega), Nat.div_eq_of_lt h2.2]; omega
      rw [← a1, hpq, a2]
    have e2 : p.2 = q.2 := by rw [e1] at hpq; omega
    exact Prod.ext e1 e2
  · intro x hx
    obtain ⟨p, hp, rfl⟩ := List.mem_map.1 hx
    exact lt p (h p hp).1 (h p hp).2
/-- all states stand in the table, and lead into it -/
def Inn (t : Tab) (n : Nat) : Prop := ∀ s c, s < n → c < t.classes.toNat → nx t s c < n
theorem Inn.run {t : Tab} {n : Nat} (h : Inn t n) : ∀ {w : List Nat} {s : Nat}, s < n → Row t w → runW t s w < n
  | [], s, hs, _ => hs
  | c :: w, s, hs, hw => by rw [runW_cons]; exact h.run (h s c hs hw.tail.1) hw.tail.2
/-! ### By pairs that are met -/
/-- what is known when so many pairs were looked at -/
structure Met (t : Tab) (a b : Nat) (n : Nat) (D : List (Nat × Nat)) (k : Nat) : Prop where
  head : D.head? = some (a, b)
  nodup : D.Nodup
  lt : ∀ p ∈ D, p.1 < n ∧ p.2 < n
  way : ∀ p ∈ D, ∃ w, Row t w ∧ p = (runW t a w, runW t b w)
  same : ∀ p ∈ D.take k, bk t p.1 = bk t p.2
  shut : ∀ p ∈ D.take k, ∀ c, c < t.classes.toNat → (nx t p.1 c, nx t p.2 c) ∈ D
theorem Met.all {t : Tab} {a b n k : Nat} {D : List (Nat × Nat)} (h : Met t a b n D k) (hk : D.length ≤ k) : Alk t a b := by
  have h1 := h.same
  have h2 := h.shut
  rw [List.take_of_length_le hk] at h1 h2
  have key : ∀ w, Row t w → ∀ p ∈ D, (runW t p.1 w, runW t p.2 w) ∈ D := by
    intro w
    induction w with
    | nil => intro _ p hp; exact hp
    | cons c w ih => intro hw p hp; exact ih hw.tail.2 _ (h2 p hp c hw.tail.1)
  have h0 : (a, b) ∈ D := by
    have := h.head
    cases D with
    | nil => cases this
    | cons x D => simp at this; subst this; simp
  intro w hw
  exact h1 _ (key w hw _ h0)
theorem Met.no {t : Tab} {a b n k : Nat} {D : List (Nat × Nat)} (h : Met t a b n D k) (hk : k < D.length) (hd : bk t D[k].1 ≠ bk t D[k].2) : ¬ Alk t a b := by
  intro hA
  obtain ⟨w, hw, e⟩ := h.way _ (List.getElem_mem hk)
  apply hd
  rw [e]; exact hA w hw
theorem Met.len {t : Tab} {a b n k : Nat} {D : List (Nat × Nat)} (h : Met t a b n D k) : D.length ≤ n * n := pigeon2 h.nodup h.lt
/-- one pair more is laid behind, if it is new -/
def addP (D : List (Nat × Nat)) (p : Nat × Nat) : List (Nat × Nat) := if p ∈ D then D else D ++ [p]
theorem addP_mem {D : List (Nat × Nat)} {p q : Nat × Nat} : q ∈ addP D p ↔ q ∈ D ∨ q = p := by
  unfold addP; split
  · rename_i h; exact ⟨.inl, fun h' => h'.elim id (fun e => e ▸ h)⟩
  · simp
theorem addP_head {D : List (Nat × Nat)} {p q : Nat × Nat} (h : D.head? = some q) : (addP D p).head? = some q := by
  unfold addP; split
  · exact h
  · cases D with
    | nil => cases h
    | cons x D => simpa using h
theorem addP_nodup {D : List (Nat × Nat)} {p : Nat × Nat} (h : D.Nodup) : (addP D p).Nodup := by
  unfold addP; split
  · exact h
  · rename_i hp
    rw [List.nodup_append]
    refine ⟨h, by simp, fun x hx y hy => ?_⟩
    obtain rfl := List.mem_singleton.1 hy
    rintro rfl; exact hp hx
theorem addP_take {D : List (Nat × Nat)} {p : Nat × Nat} {k : Nat} (h : k ≤ D.length) : (addP D p).take k = D.take k := by
  unfold addP; split
  · rfl
  · rw [List.take_append_of_le_length h]
theorem addP_len {D : List (Nat × Nat)} {p : Nat × Nat} : D.length ≤ (addP D p).length := by unfold addP; split <;> simp
theorem addP_pre {D : List (Nat × Nat)} {p : Nat × Nat} {k : Nat} (h : k < D.length) : (addP D p)[k]? = D[k]? := by
  unfold addP; split
  · rfl
  · rw [List.getElem?_append_left h]
/-- a pair's ways on, by the first so many classes -/
def addC (t : Tab) (p : Nat × Nat) (D : List (Nat × Nat)) (c : Nat) : List (Nat × Nat) := (List.range c).foldl (fun D c => addP D (nx t p.1 c, nx t p.2 c)) D
theorem addC_zero {t : Tab} {p : Nat × Nat} {D : List (Nat × Nat)} : addC t p D 0 = D := rfl
theorem addC_succ {t : Tab} {p : Nat × Nat} {D : List (Nat × Nat)} {c : Nat} : addC t p D (c + 1) = addP (addC t p D c) (nx t p.1 c, nx t p.2 c) := foldl_range
theorem addC_len {t : Tab} {p : Nat × Nat} {D : List (Nat × Nat)} : ∀ {c : Nat}, D.length ≤ (addC t p D c).length
  | 0 => Nat.le_refl _
  | c + 1 => by rw [addC_succ]; exact Nat.le_trans addC_len addP_len
theorem addC_mem {t : Tab} {p q : Nat × Nat} {D : List (Nat × Nat)} : ∀ {c : Nat}, q ∈ addC t p D c ↔ q ∈ D ∨ ∃ d, d < c ∧ q = (nx t p.1 d, nx t p.2 d)
  | 0 => by rw [addC_zero]; exact ⟨.inl, fun h => h.elim id fun ⟨d, hd, _⟩ => absurd hd (by omega)⟩
  | c + 1 => by
    rw [addC_succ, addP_mem, addC_mem]
    constructor
    · rintro ((h | ⟨d, hd, e⟩) | e)
      · exact .inl h
      · exact .inr ⟨d, by omega, e⟩
      · exact .inr ⟨c, by omega, e⟩
    · rintro (h | ⟨d, hd, e⟩)
      · exact .inl (.inl h)
      · rcases (show d < c ∨ d = c by omega) with h | rfl
        · exact .inl (.inr ⟨d, h, e⟩)
        · exact .inr e
theorem addC_take {t : Tab} {p : Nat × Nat} {D : List (Nat × Nat)} {k : Nat} (h : k ≤ D.length) : ∀ {c : Nat}, (addC t p D c).take k = D.take k
  | 0 => rfl
  | c + 1 => by rw [addC_succ, addP_take (Nat.le_trans h addC_len), addC_take h]
theorem addC_head {t : Tab} {p q : Nat × Nat} {D : List (Nat × Nat)} (h : D.head? = some q) : ∀ {c : Nat}, (addC t p D c).head? = some q
  | 0 => h
  | c + 1 => by rw [addC_succ]; exact addP_head (addC_head h)
theorem addC_nodup {t : Tab} {p : Nat × Nat} {D : List (Nat × Nat)} (h : D.Nodup) : ∀ {c : Nat}, (addC t p D c).Nodup
  | 0 => h
  | c + 1 => by rw [addC_succ]; exact addP_nodup (addC_nodup h)
theorem Met.step {t : Tab} {a b n k : Nat} {D : List (Nat × Nat)} (h : Met t a b n D k) (hI : Inn t n) (hk : k < D.length) (hs : bk t D[k].1 = bk t D[k].2) : Met t a b n (addC t D[k] D t.classes.toNat) (k + 1) := by
  have hp := List.getElem_mem hk
  have ht : (addC t D[k] D t.classes.toNat).take (k + 1) = D.take k ++ [D[k]] := by rw [addC_take (by omega), take_succ' hk]
  refine ⟨addC_head h.head, addC_nodup h.nodup, ?_, ?_, ?_, ?_⟩
  · intro q hq
    rcases addC_mem.1 hq with hq | ⟨d, hd, rfl⟩
    · exact h.lt q hq
    · exact ⟨hI _ _ (h.lt _ hp).1 hd, hI _ _ (h.lt _ hp).2 hd⟩
  · intro q hq
    rcases addC_mem.1 hq with hq | ⟨d, hd, rfl⟩
    · exact h.way q hq
    · obtain ⟨w, hw, e⟩ := h.way _ hp
      refine ⟨w ++ [d], hw.app (Row.cons hd Row.nil), ?_⟩
      rw [runW_app, runW_app, e]; rfl
  · intro q hq
    rw [ht] at hq
    rcases List.mem_append.1 hq with hq | hq
    · exact h.same q hq
    · obtain rfl := List.mem_singleton.1 hq; exact hs
  · intro q hq c hc
    rw [ht] at hq
    rcases List.mem_append.1 hq with hq | hq
    · exact addC_mem.2 (.inl (h.shut q hq c hc))
    · obtain rfl := List.mem_singleton.1 hq; exact addC_mem.2 (.inr ⟨c, hc, rfl⟩)
theorem Met.init {t : Tab} {a b n : Nat} (ha : a < n) (hb : b < n) : Met t a b n [(a, b)] 0 :=
  ⟨rfl, by simp, fun p hp => by obtain rfl := List.mem_singleton.1 hp; exact ⟨ha, hb⟩, fun p hp => by obtain rfl := List.mem_singleton.1 hp; exact ⟨[], Row.nil, rfl⟩, by simp, by simp⟩
/-! ### By rounds -/
theorem rep_of_lt {N : Nat} {f : Nat → Nat} (h : ∀ i, i ≤ N → f i < N) : ∃ i j, i < j ∧ j ≤ N ∧ f i = f j := by
  apply Classical.byContradiction
  intro hn
  have h1 : ((List.range (N + 1)).map f).Nodup := by
    unfold List.Nodup
    rw [List.pairwise_map]
    refine List.Pairwise.imp_of_mem ?_ List.pairwise_lt_range
    intro i j hi hj hlt e
    exact hn ⟨i, j, hlt, by have := List.mem_range.1 hj; omega, e⟩
  have := pigeon h1 (N := N) (by
    intro x hx
    obtain ⟨i, hi, rfl⟩ := List.mem_map.1 hx
    exact h i (by have := List.mem_range.1 hi; omega))
  rw [List.length_map, List.length_range] at this
  omega
/-- what is told apart is told apart by a short row -/
theorem short_row {t : Tab} {n a b : Nat} (hI : Inn t n) (ha : a < n) (hb : b < n) : ∀ {w : List Nat}, Row t w → bk t (runW t a w) ≠ bk t (runW t b w) → ∃ v, Row t v ∧ v.length ≤ n * n ∧ bk t (runW t a v) ≠ bk t (runW t b v) := by
  intro w
  generalize hm : w.length = m
  induction m using Nat.strongRecOn generalizing w with
  | ind m ih =>
    intro hw hd
    by_cases hl : w.length ≤ n * n
    · exact ⟨w, hw, hl, hd⟩
    have lt : ∀ p q : Nat, p < n → q < n → p * n + q < n * n := fun p q h1 h2 => by
      have := Nat.mul_le_mul_right n (show p + 1 ≤ n by omega)
      rw [Nat.add_mul] at this; omega
    obtain ⟨i, j, hij, hj, e⟩ := rep_of_lt (N := n * n) (f := fun i => runW t a (w.take i) * n + runW t b (w.take i)) (fun i _ => lt _ _ (hI.run ha hw.take) (hI.run hb hw.take))
    have p1 := hI.run hb (w := w.take i) hw.take
    have p2 := hI.run hb (w := w.take j) hw.take
    have d1 : ∀ p q : Nat, q < n → (p * n + q) / n = p := fun p q hq => by rw [Nat.mul_comm, Nat.mul_add_div (by omega), Nat.div_eq_of_lt hq]; omega
    have ea : runW t a (w.take i) = runW t a (w.take j) := by
      have := congrArg (· / n) e
      simp only [d1 _ _ p1, d1 _ _ p2] at this; exact this
    have eb : runW t b (w.take i) = runW t b (w.take j) := by simp only [ea] at e; omega
    have hj2 : j ≤ w.length := by omega
    refine ih (w.take i ++ w.drop j).length ?_ rfl (hw.take.app hw.drop) ?_
    · rw [← hm, List.length_append, List.length_take, List.length_drop]; omega
    · rw [runW_app, runW_app, ea, eb, ← runW_app, ← runW_app, List.take_append_drop]; exact hd
/-- a square of answers -/
def Mx := Nat → Nat → Bool
structure Sq (t : Tab) (n : Nat) (k : Nat) (m : Nat → Nat → Bool) : Prop where
  snd : ∀ a b, a < n → b < n → m a b = true → ¬ Alk t a b
  cmp : ∀ a b w, a < n → b < n → Row t w → w.length ≤ k → bk t (runW t a w) ≠ bk t (runW t b w) → m a b = true
theorem Sq.done {t : Tab} {n : Nat} {m : Nat → Nat → Bool} (h : Sq t n (n * n) m) (hI : Inn t n) {a b : Nat} (ha : a < n) (hb : b < n) : m a b = !alk t a b := by
  cases hm : m a b with
  | true => have := h.snd a b ha hb hm; rw [alk_not.2 this]; rfl
  | false =>
    cases hA : alk t a b with
    | true => rfl
    | false =>
      exfalso
      have h1 := alk_not.1 hA
      apply h1
      intro w hw
      apply Classical.byContradiction
      intro hd
      obtain ⟨v, hv, hl, hd⟩ := short_row hI ha hb hw hd
      rw [h.cmp a b v ha hb hv hl hd] at hm; cases hm
end Go.V
