/- Two rows of bytes (up to 500) that differ in one byte have two sums, and the sum goes on byte by byte. No condition. -/
import Derived.Test.YtoilaibpmepecaaXKeep
import Derived.Test.YtoilaibpmepecaaXWakes05
import Derived.Test.YtoilaibpmepecaaXx9
namespace Go.Proofs.Ytoilaibpmepecaa.PurePackSums
open Go Go.RowKit Go.Proofs.Ytoilaibpmepecaa.X Go.Proofs.Ytoilaibpmepecaa.XPure Go.Proofs.Ytoilaibpmepecaa.XKeep Go.Proofs.Ytoilaibpmepecaa.XWakes05 Go.Proofs.Ytoilaibpmepecaa.XPack Go.Proofs.YtoilaibpmepecaaW.PrintWords Go.Proofs.YtoilaibpmepecaaW.PrintLast Go.Proofs.YtoilaibpmepecaaW.PrintMore
set_option linter.unusedVariables false
set_option linter.unusedSimpArgs false
set_option maxHeartbeats 1000000

theorem rot_inj (x y : Int) (hx : 0 ≤ x ∧ x < 4294967296) (hy : 0 ≤ y ∧ y < 4294967296) (h : rot x = rot y) : x = y := by
  have e1 : x * 32 % 4294967296 = (x % 134217728) * 32 := by omega
  have e2 : y * 32 % 4294967296 = (y % 134217728) * 32 := by omega
  unfold rot at h
  rw [e1, e2] at h
  omega
theorem xor_l {a b c : Nat} (h : a ^^^ c = b ^^^ c) : a = b := by
  have := congrArg (· ^^^ c) h
  simpa [Nat.xor_assoc] using this
theorem xor_r {a b c : Nat} (h : c ^^^ a = c ^^^ b) : a = b := by
  rw [Nat.xor_comm c a, Nat.xor_comm c b] at h
  exact xor_l h
theorem xr_inj (s s' c : Int) (hs : 0 ≤ s) (hs' : 0 ≤ s') (h : xr s c = xr s' c) : s = s' := by
  unfold xr at h
  have h1 : s.toNat ^^^ c.toNat = s'.toNat ^^^ c.toNat := by omega
  have h2 := xor_l h1
  omega
theorem xr_inj2 (s c c' : Int) (hc : 0 ≤ c) (hc' : 0 ≤ c') (h : xr s c = xr s c') : c = c' := by
  unfold xr at h
  have h1 : s.toNat ^^^ c.toNat = s.toNat ^^^ c'.toNat := by omega
  have h2 := xor_r h1
  omega
theorem step_inj (s s' c : Int) (hs : 0 ≤ s ∧ s < 4294967296) (hs' : 0 ≤ s' ∧ s' < 4294967296) (hc : 0 ≤ c ∧ c < 256) (h : sumStep s c = sumStep s' c) : s = s' := by
  have b1 := xr_bd s c hs (by omega)
  have b2 := xr_bd s' c hs' (by omega)
  have r1 := rot_bd _ b1
  have r2 := rot_bd _ b2
  unfold sumStep at h
  exact xr_inj s s' c hs.1 hs'.1 (rot_inj _ _ b1 b2 (by omega))
theorem step_inj2 (s c c' : Int) (hs : 0 ≤ s ∧ s < 4294967296) (hc : 0 ≤ c ∧ c < 256) (hc' : 0 ≤ c' ∧ c' < 256) (h : sumStep s c = sumStep s c') : c = c' := by
  have b1 := xr_bd s c hs (by omega)
  have b2 := xr_bd s c' hs (by omega)
  have r1 := rot_bd _ b1
  have r2 := rot_bd _ b2
  unfold sumStep at h
  exact xr_inj2 s c c' hc.1 hc'.1 (rot_inj _ _ b1 b2 (by omega))
theorem fold_inj (l : List Int) (hl : ∀ x ∈ l, 0 ≤ x ∧ x < 256) : ∀ s s' : Int, (0 ≤ s ∧ s < 4294967296) → (0 ≤ s' ∧ s' < 4294967296) → l.foldl sumStep s = l.foldl sumStep s' → s = s' := by
  induction l with
  | nil => intro s s' _ _ h; exact h
  | cons c l ih =>
    intro s s' hs hs' h
    exact step_inj s s' c hs hs' (hl c (by simp)) (ih (fun x hx => hl x (by simp [hx])) _ _ (step_bd _ _) (step_bd _ _) h)
theorem sum_set (l : List Int) (hl : ∀ x ∈ l, 0 ≤ x ∧ x < 256) (i : Nat) (hi : i < l.length) (c : Int) (hc : 0 ≤ c ∧ c < 256) : sumS l = sumS (l.set i c) ↔ c = l[i] := by
  have e1 : l = l.take i ++ l[i] :: l.drop (i + 1) := by rw [← drop_cons hi, List.take_append_drop]
  have e2 : l.set i c = l.take i ++ c :: l.drop (i + 1) := List.set_eq_take_append_cons_drop.trans (if_pos hi)
  have hx := hl _ (List.getElem_mem hi)
  constructor
  · intro h
    rw [e2] at h
    unfold sumS at h
    conv at h => lhs; rw [e1]
    rw [List.foldl_append, List.foldl_append, List.foldl_cons, List.foldl_cons] at h
    have b := sum_bd (l.take i) 2166136261 (by omega)
    exact (step_inj2 _ _ _ b hx hc (fold_inj _ (fun x hx => hl x (List.mem_of_mem_drop hx)) _ _ (step_bd _ _) (step_bd _ _) h)).symm
  · intro h
    rw [h, List.set_getElem_self]
theorem sum_last (l : List Int) (n : Nat) (hn : l.length = n + 1) : sumS l = sumStep (sumS (l.take n)) (l[n]'(by omega)) := by
  have e1 : l = l.take n ++ [l[n]'(by omega)] := by
    have := drop_cons (l := l) (i := n) (by omega)
    rw [List.drop_of_length_le (i := n + 1) (by omega)] at this
    rw [← this, List.take_append_drop]
  unfold sumS
  conv => lhs; rw [e1]
  rw [List.foldl_append]
  rfl
theorem xor_byte (x y : Int) (hx : 0 ≤ x ∧ x < 256) (hy : 0 ≤ y ∧ y < 256) : 0 ≤ Go.bits .xor .u8 x y ∧ Go.bits .xor .u8 x y < 256 ∧ (Go.bits .xor .u8 x y = x ↔ y = 0) := by
  have e := nu8_xor x.toNat y.toNat (by omega) (by omega)
  rw [Int.toNat_of_nonneg hx.1, Int.toNat_of_nonneg hy.1] at e
  have h2 : x.toNat ^^^ y.toNat < 2 ^ 8 := Nat.xor_lt_two_pow (by omega) (by omega)
  rw [e]
  refine ⟨by omega, by omega, fun h => ?_, fun h => ?_⟩
  · have h3 : x.toNat ^^^ y.toNat = x.toNat ^^^ 0 := by rw [Nat.xor_zero]; omega
    have h4 := xor_r h3
    omega
  · subst h
    simp
    omega
theorem PackSums : caesuralaw05_PackSums.Pure := by
  intro l at_ by_ hl _ ha hy
  have hb : ∀ x ∈ l, 0 ≤ x ∧ x < 256 := fun x hx => u8b (hl.2 x hx)
  have ha' := u16b ha
  have hy' := u8b hy
  refine Ev.rounds (g := fun k => caesuralaw05_PackSums.f k l at_ by_) ?_
  have hw : ∀ x : Bool, x = true → Ev (fun k => caesuralaw05_PackSums.j0 k l at_ by_ x) true := by
    intro x hx
    subst hx
    refine Ev.step (f := fun k => (caesuralaw05_wakes.f k).bind fun t => some t) (fun k => by simp only [caesuralaw05_PackSums.j0, if_true]) (Ev.bind wakes (Ev.now _))
  unfold caesuralaw05_PackSums.f
  by_cases c1 : (l.length : Int) = 0
  · exact Ev.pos c1 (hw _ rfl)
  · refine Ev.neg c1 ?_
    by_cases c2 : (l.length : Int) > 500
    · exact hw _ (decide_eq_true c2)
    · rw [decide_eq_false c2]
      obtain ⟨n, hn⟩ : ∃ n, l.length = n + 1 := ⟨l.length - 1, by omega⟩
      refine Ev.step (fun k => by simp only [caesuralaw05_PackSums.j0, Bool.false_eq_true, if_false]; rfl) ?_
      refine Ev.bindc rfl (Ev.pos (by simp; omega) (Ev.bindc rfl ?_))
      simp only [List.nil_append]
      refine Ev.neg c1 ?_
      obtain ⟨i, hi, hie⟩ : ∃ i : Nat, i < l.length ∧ Int.tmod (wrap64 at_) (l.length : Int) = (i : Int) := by
        rw [w64 (n := at_) (by omega) (by omega), tmod_nn ha'.1]
        have h1 := Int.emod_nonneg at_ (show (l.length : Int) ≠ 0 by omega)
        have h2 := Int.emod_lt_of_pos at_ (show 0 < (l.length : Int) by omega)
        exact ⟨(at_ % (l.length : Int)).toNat, by omega, by omega⟩
      rw [hie]
      refine Ev.pos (by omega) (Ev.pos (by omega) ?_)
      have hx := hb _ (List.getElem_mem hi)
      have e1 : rd l (i : Int) = l[i] := by rw [rd_nat, getD_lt hi]
      rw [e1, Int.toNat_natCast]
      obtain ⟨x0, x1, x2⟩ := xor_byte l[i] by_ hx hy'
      have hset : ∀ x ∈ l.set i (Go.bits .xor .u8 l[i] by_), 0 ≤ x ∧ x < 256 := by
        intro x hm
        rcases List.mem_or_eq_of_mem_set hm with hm | rfl
        · exact hb x hm
        · exact ⟨x0, x1⟩
      have hs := sum_set l hb i hi _ ⟨x0, x1⟩
      refine Ev.bind (sum_ev l hb (by omega)) (Ev.bind (sum_ev _ hset (by rw [List.length_set]; omega)) (Ev.neg ?_ ?_))
      · have h1 : (sumS l == sumS (l.set i (Go.bits .xor .u8 l[i] by_))) = (by_ == 0) := by
          rw [Bool.eq_iff_iff, beq_iff_eq, beq_iff_eq, hs, x2]
        rw [h1]
        simp
      · have e2 : wrap64 ((l.length : Int) - 1) = (n : Int) := by rw [w64 (by omega) (by omega)]; omega
        rw [e2]
        have htb : ∀ x ∈ l.take n, 0 ≤ x ∧ x < 256 := fun x hx => hb x (List.mem_of_mem_take hx)
        have e3 : rd l (n : Int) = l[n]'(by omega) := by rw [rd_nat, getD_lt]
        have hxn := hb _ (List.getElem_mem (show n < l.length by omega))
        refine Ev.pos (by omega) (Ev.pos (by omega) ?_)
        rw [Int.toNat_natCast]
        refine Ev.bind (sum_ev _ htb (by rw [List.length_take]; omega)) (Ev.pos (by omega) (Ev.bind (sum_ev l hb (by omega)) (Ev.pos ?_ (Ev.bind wakes (Ev.now _)))))
        have bt := sum_bd (l.take n) 2166136261 (by omega)
        have e4 : (l[n]'(by omega)) % 4294967296 = l[n]'(by omega) := by omega
        have hxe := xr_eq (sumS (l.take n)) (l[n]'(by omega)) bt (by omega)
        have hxb := xr_bd (sumS (l.take n)) (l[n]'(by omega)) bt (by omega)
        rw [e3, e4, hxe, rot_or _ hxb]
        exact sum_last l n hn
end Go.Proofs.Ytoilaibpmepecaa.PurePackSums
namespace Go.Proofs.Ytoilaibpmepecaa.Pure
theorem PackSums : X.caesuralaw05_PackSums.Pure := PurePackSums.PackSums
end Go.Proofs.Ytoilaibpmepecaa.Pure
