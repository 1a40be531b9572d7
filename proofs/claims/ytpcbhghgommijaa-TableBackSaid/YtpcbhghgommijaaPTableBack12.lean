/- Texts of this claim, put together: what no text names is left out (wip/x/prune.py). -/
import Derived.Test.YtpcbhghgommijaaPTableBack11
import Derived.Deep.Slices
import Derived.ProofKit
import Derived.OpenShut
import Derived.ShutString
import Derived.ChangeOld
section
namespace Go.Proofs.Ytpcbhghgommijaa.XOpens
open Go.RowKit Go.Proofs.YtpcbhghgommijaaW.PrintWords Go.ChangeShapes Go.WideShapes
set_option linter.unusedVariables false
def Opens {α : Type} (P : Program) (t : TypeId) (d : Kd α) (wf : α → Prop) : Prop :=
  ∀ (H : Type) (enc : TypeId × Value → H) (w : World) (fuel : Nat) (cs : List Value) (x : DataW H × List MemPlace),
    DataW.trod enc P w 0 (fun _ => true) true fuel t cs = some x → ∃ a, d.K w a cs ∧ wf a
theorem opens_int {P : Program} {t : TypeId} {k : IntKind} (ht : P.underlying t = some (.int k)) : Opens P t (Kd.int k) (fun n => (Lit.int k n).wf = true) := by
  intro H enc w fuel cs x h
  obtain ⟨n, rfl, _, hw⟩ := DataW.trod_int ht h
  exact ⟨n, rfl, hw⟩
theorem opens_bool {P : Program} {t : TypeId} (ht : P.underlying t = some .bool) : Opens P t Kd.bool (fun _ => True) := by
  intro H enc w fuel cs x h
  obtain ⟨b, rfl, _⟩ := DataW.trod_bool ht h
  exact ⟨b, rfl, trivial⟩
theorem opens_slice {α : Type} {P : Program} {t e : TypeId} {d : Kd α} {wf : α → Prop} (ht : P.underlying t = some (.slice e)) (he : P.cellsOf e = d.sz) (h : Opens P e d wf) :
    Opens P t (Kd.slice e d) (fun l => l.length ≤ maxLen ∧ ∀ x ∈ l, wf x) := by
  intro H enc w fuel cs x hx
  rcases Go.Deep.open_slice ht hx with ⟨rfl, _⟩ | ⟨a, len, cap, m, n, D, Pl, rfl, hb, hl, hm, hmm, _, hel⟩
  · exact ⟨[], ⟨none, 0, rfl, Nat.le_refl _, rfl, Nat.zero_le _, fun h0 => absurd h0 (Nat.lt_irrefl 0)⟩, Nat.zero_le _, fun x hx => absurd hx (by simp)⟩
  · have hlm : len ≤ m := by rw [hmm]; split <;> omega
    have build : ∀ k, k ≤ len → ∃ l : List α, l.length = k ∧ (∀ j p, l[j]? = some p → (∃ c, c.length = d.sz ∧ d.K w p c ∧ ∀ i u, c[i]? = some u → w.cell? (a.add (j * d.sz + i)) = some u) ∧ wf p) := by
      intro k
      induction k with
      | zero => intro _; exact ⟨[], rfl, fun j p hj => by simp at hj⟩
      | succ k ih =>
        intro hk
        obtain ⟨l, hll, hlp⟩ := ih (by omega)
        obtain ⟨cs', h1, h2⟩ := hel k (by omega)
        obtain ⟨y, hy, hw⟩ := h H enc w n cs' _ h2
        refine ⟨l ++ [y], by simp [hll], fun j p hj => ?_⟩
        rcases Nat.lt_or_ge j l.length with hlt | hge
        · rw [List.getElem?_append_left hlt] at hj
          exact hlp j p hj
        · rw [List.getElem?_append_right hge] at hj
          have hj0 : j - l.length = 0 := by
            have := (List.getElem?_eq_some_iff.1 hj).1
            simp at this
            omega
          rw [hj0] at hj
          obtain rfl : y = p := by simpa using hj
          obtain rfl : j = k := by omega
          refine ⟨⟨cs', d.K_len hy, hy, fun i u hu => ?_⟩, hw⟩
          rw [he] at h1
          obtain ⟨_, hlen, hget⟩ := World.cells?_some h1
          have hi : i < d.sz := by
            have := (List.getElem?_eq_some_iff.1 hu).1
            rw [d.K_len hy] at this
            exact this
          have := hget i (by omega)
          rw [Go.Deep.add_add] at this
          rw [this, hu]
    obtain ⟨l, hll, hlp⟩ := build len (Nat.le_refl _)
    subst hll
    refine ⟨l, ⟨some a, cap, rfl, hl, rfl, ?_, fun _ => ⟨a, rfl, fun j p hj => (hlp j p hj).1⟩⟩, by omega, fun x hx => ?_⟩
    · have : maxLen = 9223372036854775807 := by unfold maxLen; rfl
      omega
    · obtain ⟨j, hj⟩ := List.getElem?_of_mem hx
      exact (hlp j x hj).2
def Seg {α : Type} (P : Program) (fs : List (TypeId × Nat)) (o : Nat) (d : Kd α) (wf : α → Prop) : Prop :=
  ∀ (H : Type) (enc : TypeId × Value → H) (w : World) (n : Nat) (cs : List Value), cs.length = o + d.sz →
    (∀ p ∈ fs, ∃ y, DataW.trod enc P w 0 (fun _ => true) true n p.1 ((cs.drop p.2).take (P.cellsOf p.1)) = some y) → ∃ a, d.K w a (cs.drop o) ∧ wf a
theorem seg_one {α : Type} {P : Program} {t : TypeId} {o : Nat} {d : Kd α} {wf : α → Prop} (h : Opens P t d wf) (hc : P.cellsOf t = d.sz) : Seg P [(t, o)] o d wf := by
  intro H enc w n cs hl hp
  obtain ⟨y, hy⟩ := hp (t, o) (by simp)
  have : (cs.drop o).take (P.cellsOf t) = cs.drop o := List.take_of_length_le (by rw [List.length_drop, hc]; omega)
  rw [this] at hy
  exact h H enc w n _ _ hy
theorem seg_cons {α β : Type} {P : Program} {t : TypeId} {o : Nat} {fs : List (TypeId × Nat)} {d1 : Kd α} {d2 : Kd β} {wf1 : α → Prop} {wf2 : β → Prop} (h : Opens P t d1 wf1) (hc : P.cellsOf t = d1.sz) (h2 : Seg P fs (o + d1.sz) d2 wf2) :
    Seg P ((t, o) :: fs) o (Kd.pair d1 d2) (fun x => wf1 x.1 ∧ wf2 x.2) := by
  intro H enc w n cs hl hp
  obtain ⟨y, hy⟩ := hp (t, o) (by simp)
  obtain ⟨a, ha, wa⟩ := h H enc w n _ _ hy
  have hl' : cs.length = o + (d1.sz + d2.sz) := hl
  obtain ⟨b, hb, wb⟩ := h2 H enc w n cs (by omega) (fun p hp' => hp p (by simp [hp']))
  refine ⟨(a, b), ⟨(cs.drop o).take (P.cellsOf t), cs.drop (o + d1.sz), ?_, ha, hb⟩, wa, wb⟩
  rw [hc, ← List.drop_drop, List.take_append_drop]
theorem opens_struct {α β : Type} {P : Program} {t : TypeId} {fs : Array Field} {l : List (TypeId × Nat)} {d : Kd α} {wf : α → Prop} (f : β → α) (g : α → β) (hfg : ∀ a, f (g a) = a)
    (ht : P.underlying t = some (.struct fs)) (hl : fs.toList.map (fun x => (x.type, x.offset)) = l) (hc : P.cellsOf t = d.sz) (h : Seg P l 0 d wf) : Opens P t (Kd.iso d f) (fun x => wf (f x)) := by
  intro H enc w fuel cs x hx
  obtain ⟨xs, n, rfl, _, hlen, hxs, hi⟩ := DataW.trod_struct ht hx
  obtain ⟨a, ha, wa⟩ := h H enc w n cs (by omega) (by
    intro p hp
    rw [← hl] at hp
    obtain ⟨fd, hf, rfl⟩ := List.mem_map.1 hp
    obtain ⟨i, hif⟩ := List.getElem?_of_mem hf
    have hif' : fs[i]? = some fd := by simpa using hif
    have hlt : i < xs.length := by
      rw [hxs]
      have := (Array.getElem?_eq_some_iff.1 hif').1
      exact this
    exact ⟨xs[i], by rw [hi i fd hif', List.getElem?_eq_getElem hlt]⟩)
  refine ⟨g a, ?_, ?_⟩
  · show d.K w (f (g a)) cs
    rw [hfg]; exact ha
  · show wf (f (g a))
    rw [hfg]; exact wa
theorem opens_array {α β : Type} {P : Program} {t e : TypeId} {n : Nat} {l : List (TypeId × Nat)} {d : Kd α} {wf : α → Prop} (f : β → α) (g : α → β) (hfg : ∀ a, f (g a) = a)
    (ht : P.underlying t = some (.array n e)) (hl : (List.range n).map (fun i => (e, i * P.cellsOf e)) = l) (hc : P.cellsOf t = d.sz) (h : Seg P l 0 d wf) : Opens P t (Kd.iso d f) (fun x => wf (f x)) := by
  intro H enc w fuel cs x hx
  cases fuel with
  | zero => simp [DataW.trod] at hx
  | succ m =>
    unfold DataW.trod at hx
    rw [ht] at hx
    have hx' : (if cs.length = P.cellsOf t then ((List.range n).mapM fun i => DataW.trod enc P w 0 (fun _ => true) true m e ((cs.drop (i * P.cellsOf e)).take (P.cellsOf e))).map fun xs => (DataW.agg (xs.map (·.1)), xs.flatMap (·.2)) else none) = some x := by
      split at hx <;> simp_all
    clear hx
    by_cases hlen : cs.length = P.cellsOf t
    · rw [if_pos hlen] at hx'
      obtain ⟨xs, hp, _⟩ := Option.map_eq_some_iff.1 hx'
      have hxl := mapM_some_length hp
      obtain ⟨a, ha, wa⟩ := h H enc w m cs (by omega) (by
        intro p hp'
        rw [← hl] at hp'
        obtain ⟨i, hi, rfl⟩ := List.mem_map.1 hp'
        have hi' := List.mem_range.1 hi
        have hlt : i < xs.length := by rw [hxl]; simpa using hi'
        exact ⟨xs[i], by rw [mapM_some_get hp i i (by simp [hi']), List.getElem?_eq_getElem hlt]⟩)
      refine ⟨g a, ?_, ?_⟩
      · show d.K w (f (g a)) cs
        rw [hfg]; exact ha
      · show wf (f (g a))
        rw [hfg]; exact wa
    · rw [if_neg hlen] at hx'
      cases hx'
theorem okWide_array {P : Program} {w : World} {r : Reach} {base n : Nat} {t e : TypeId} {v : Value} (ht : P.underlying t = some (.array n e)) (h : Value.okWide P w r base t v) : ∃ cs, v = .agg cs ∧ cs.size = P.cellsOf t := by
  simp only [Value.okWide, ht] at h
  obtain ⟨cs, h1, h2, _⟩ := h
  exact ⟨cs, h1, h2⟩
end Go.Proofs.Ytpcbhghgommijaa.XOpens
end
