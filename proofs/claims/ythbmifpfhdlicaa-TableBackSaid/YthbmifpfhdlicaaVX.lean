/- What a law is handed, read as a value without memory. -/
import Derived.Test.YthbmifpfhdlicaaVW
import Derived.Deep.Slices
import Derived.ProofKit
import Derived.OpenShut
import Derived.ShutString
import Derived.ChangeOld
import Derived.SizedLaws
import Derived.Below
namespace Go.V
open Go.RowKit (Below)
set_option linter.unusedVariables false
set_option linter.unusedSimpArgs false

def nobody : Nat → Prop := fun _ => False
/-- Each reading of type t is one of a value of this form. -/
def OpensV {α : Type} (P : Program) (t : TypeId) (el : α → PV) (wf : α → Prop) : Prop :=
  ∀ (H : Type) (enc : TypeId × Value → H) (w : World) (fuel : Nat) (cs : List Value) (x : DataW H × List MemPlace),
    DataW.trod enc P w 0 (fun _ => true) true fuel t cs = some x → ∃ a, Rep w nobody (el a) [] cs ∧ wf a

theorem Rep_cells {w : World} {Z : Nat → Prop} {x : PV} {cs : List Value} (h : Rep w Z x [] cs) : RepL w Z x.cells [] cs ∧ ∀ c ∈ x.cells, c.cell1 = true := by
  cases x with
  | agg ys => simp only [Rep] at h; exact h
  | tup ys => simp only [Rep] at h
  | _ => exact ⟨RepL_cons.2 ⟨[], [], cs, [], rfl, by simp, h, RepL_nil.2 ⟨rfl, rfl⟩⟩, by simp [PV.cells, PV.cell1]⟩

theorem openV_int {P : Program} {t : TypeId} {k : IntKind} (ht : P.underlying t = some (.int k)) : OpensV P t (fun n => .prim (.int k n)) (fun n => (Lit.int k n).wf = true) := by
  intro H enc w fuel cs x h
  obtain ⟨n, rfl, _, hw⟩ := DataW.trod_int ht h
  exact ⟨n, by simp only [Rep]; exact ⟨trivial, trivial, rfl⟩, hw⟩
theorem openV_bool {P : Program} {t : TypeId} (ht : P.underlying t = some .bool) : OpensV P t (fun b => .prim (.bool b)) (fun _ => True) := by
  intro H enc w fuel cs x h
  obtain ⟨b, rfl, _⟩ := DataW.trod_bool ht h
  exact ⟨b, by simp only [Rep]; exact ⟨trivial, trivial, rfl⟩, trivial⟩
theorem openV_string {P : Program} {t : TypeId} (ht : P.underlying t = some .string) : OpensV P t (fun s => .prim (.string s)) (fun s => s.size ≤ maxLen) := by
  intro H enc w fuel cs x h
  obtain ⟨s, rfl, _, hs⟩ := DataW.trod_string ht h
  exact ⟨s, by simp only [Rep]; exact ⟨trivial, trivial, rfl⟩, hs⟩

theorem RepL_app {w : World} {Z : Nat → Prop} : ∀ {xs ys : List PV} {us vs : List Value}, RepL w Z xs [] us → RepL w Z ys [] vs → RepL w Z (xs ++ ys) [] (us ++ vs)
  | [], ys, us, vs, h1, h2 => by rw [(RepL_nil.1 h1).2]; exact h2
  | x :: xs, ys, us, vs, h1, h2 => by
    obtain ⟨φ₁, φ₂, v₁, v₂, e, rfl, h3, h4⟩ := RepL_cons.1 h1
    obtain ⟨rfl, rfl⟩ := List.append_eq_nil_iff.1 e.symm
    rw [List.append_assoc]
    exact RepL_cons.2 ⟨[], [], v₁, v₂ ++ vs, rfl, rfl, h3, RepL_app h4 h2⟩

theorem openV_slice {α : Type} {P : Program} {t e : TypeId} {el : α → PV} {wf : α → Prop} {sz : Nat} (ht : P.underlying t = some (.slice e)) (he : P.cellsOf e = sz) (hsz : 0 < sz) (h : OpensV P e el wf) :
    OpensV P t (fun l : List α => .sl false sz (l.map el)) (fun l => l.length ≤ maxLen ∧ ∀ x ∈ l, wf x) := by
  intro H enc w fuel cs x hx
  rcases Go.Deep.open_slice ht hx with ⟨rfl, _⟩ | ⟨a, len, cap, m, n, D, Pl, rfl, hb, hl, hm, hmm, _, hel⟩
  · exact ⟨[], by simp only [Rep, List.map_nil]; exact ⟨none, 0, [], [], rfl, ⟨hsz, Nat.le_refl _⟩, RepL_nil.2 ⟨rfl, rfl⟩, by simp, .inl ⟨trivial, trivial, by simp⟩⟩, Nat.zero_le _, by simp⟩
  · have hlm : len ≤ m := by rw [hmm]; split <;> omega
    have build : ∀ k, k ≤ len → ∃ (l : List α) (ch : List Value), l.length = k ∧ ch.length = k * sz ∧ RepL w nobody (l.map el) [] ch ∧ (∀ x ∈ l.map el, x.width = sz) ∧ (∀ i, i < ch.length → w.cell? (a.add i) = ch[i]?) ∧ ∀ x ∈ l, wf x := by
      intro k
      induction k with
      | zero => intro _; exact ⟨[], [], rfl, by simp, RepL_nil.2 ⟨rfl, rfl⟩, by simp, by simp, by simp⟩
      | succ k ih =>
        intro hk
        obtain ⟨l, ch, h1, h2, h3, h4, h5, h6⟩ := ih (by omega)
        obtain ⟨cs', k1, k2⟩ := hel k (by omega)
        obtain ⟨y, hy, hw⟩ := h H enc w n cs' _ k2
        rw [he] at k1
        obtain ⟨_, hlen, hget⟩ := World.cells?_some k1
        refine ⟨l ++ [y], ch ++ cs', by simp [h1], by rw [List.length_append, h2, hlen, Nat.succ_mul], ?_, ?_, ?_, ?_⟩
        · rw [List.map_append]
          exact RepL_app h3 (RepL_cons.2 ⟨[], [], cs', [], rfl, by simp, hy, RepL_nil.2 ⟨rfl, rfl⟩⟩)
        · intro x hx
          rw [List.map_append] at hx
          rcases List.mem_append.1 hx with hx | hx
          · exact h4 x hx
          · obtain rfl : x = el y := by simpa using hx
            rw [← hy.length, hlen]
        · intro i hi
          rcases Nat.lt_or_ge i ch.length with hlt | hge
          · rw [List.getElem?_append_left hlt]; exact h5 i hlt
          · rw [List.getElem?_append_right hge]
            rw [List.length_append] at hi
            have := hget (i - ch.length) (by omega)
            rw [Go.Deep.add_add] at this
            rw [← this, h2]; congr 2; omega
        · intro x hx
          rcases List.mem_append.1 hx with hx | hx
          · exact h6 x hx
          · obtain rfl : x = y := by simpa using hx
            exact hw
    obtain ⟨l, ch, h1, h2, h3, h4, h5, h6⟩ := build len (Nat.le_refl _)
    subst h1
    refine ⟨l, ?_, by omega, h6⟩
    simp only [Rep]
    refine ⟨some a, cap, [], ch, by simp, ⟨hsz, by simpa using hl⟩, h3, h4, ?_⟩
    cases l with
    | nil => exact .inl ⟨rfl, trivial, by simp⟩
    | cons y l =>
      right
      have hpos : 0 < ch.length := by rw [h2]; exact Nat.mul_pos (by simp) hsz
      obtain ⟨b, off, spot⟩ := a
      have h0 := h5 0 hpos
      have hsome : ∃ v, w.cell? ((⟨b, off, spot⟩ : Addr).add 0) = some v := ⟨ch[0], by rw [h0, List.getElem?_eq_getElem hpos]⟩
      obtain ⟨v, hv⟩ := hsome
      have hadd : (⟨b, off, spot⟩ : Addr).add 0 = ⟨b, off, spot⟩ := by simp [Addr.add]
      rw [hadd] at hv
      simp only [World.cell?] at hv
      split at hv
      case h_2 => cases hv
      rename_i c T fr hblk
      split at hv
      · cases hv
      rename_i hsp
      obtain rfl : spot = none := by cases spot <;> simp_all
      refine ⟨b, off, c, T, fr, rfl, hblk, fun i u hu => ?_, fun _ => ⟨fun h => h, trivial, rfl⟩, by simp⟩
      have hi := (List.getElem?_eq_some_iff.1 hu).1
      have := h5 i hi
      rw [hu, Addr.add_lit] at this
      simp only [World.cell?, hblk] at this
      simpa using this

/-- Parts that stand one behind the other, from cell o on. -/
def SegV {α : Type} (P : Program) (fs : List (TypeId × Nat)) (o n : Nat) (cl : α → List PV) (wf : α → Prop) : Prop :=
  ∀ (H : Type) (enc : TypeId × Value → H) (w : World) (m : Nat) (cs : List Value), cs.length = o + n →
    (∀ p ∈ fs, ∃ y, DataW.trod enc P w 0 (fun _ => true) true m p.1 ((cs.drop p.2).take (P.cellsOf p.1)) = some y) → ∃ a, RepL w nobody (cl a) [] (cs.drop o) ∧ (∀ c ∈ cl a, c.cell1 = true) ∧ wf a
theorem segV_one {α : Type} {P : Program} {t : TypeId} {o n : Nat} {el : α → PV} {wf : α → Prop} (h : OpensV P t el wf) (hc : P.cellsOf t = n) : SegV P [(t, o)] o n (fun a => (el a).cells) wf := by
  intro H enc w m cs hl hp
  obtain ⟨y, hy⟩ := hp (t, o) (by simp)
  have : (cs.drop o).take (P.cellsOf t) = cs.drop o := List.take_of_length_le (by rw [List.length_drop, hc]; omega)
  rw [this] at hy
  obtain ⟨a, ha, hw⟩ := h H enc w m _ _ hy
  exact ⟨a, (Rep_cells ha).1, (Rep_cells ha).2, hw⟩
theorem segV_cons {α β : Type} {P : Program} {t : TypeId} {o n1 n2 : Nat} {fs : List (TypeId × Nat)} {el : α → PV} {cl : β → List PV} {wf1 : α → Prop} {wf2 : β → Prop} (h : OpensV P t el wf1) (hc : P.cellsOf t = n1) (h2 : SegV P fs (o + n1) n2 cl wf2) :
    SegV P ((t, o) :: fs) o (n1 + n2) (fun x : α × β => (el x.1).cells ++ cl x.2) (fun x => wf1 x.1 ∧ wf2 x.2) := by
  intro H enc w m cs hl hp
  obtain ⟨y, hy⟩ := hp (t, o) (by simp)
  obtain ⟨a, ha, wa⟩ := h H enc w m _ _ hy
  obtain ⟨b, hb, cb, wb⟩ := h2 H enc w m cs (by omega) (fun p hp' => hp p (by simp [hp']))
  refine ⟨(a, b), ?_, ?_, wa, wb⟩
  · have := RepL_app (Rep_cells ha).1 hb
    rw [hc, ← List.drop_drop, List.take_append_drop] at this
    exact this
  · intro c hc
    rcases List.mem_append.1 hc with hc | hc
    · exact (Rep_cells ha).2 c hc
    · exact cb c hc
theorem openV_struct {α β : Type} {P : Program} {t : TypeId} {n : Nat} {fs : Array Field} {l : List (TypeId × Nat)} {cl : β → List PV} {wf : β → Prop} (g : β → α) (f : α → β) (hfg : ∀ b, f (g b) = b)
    (ht : P.underlying t = some (.struct fs)) (hl : fs.toList.map (fun x => (x.type, x.offset)) = l) (hc : P.cellsOf t = n) (h : SegV P l 0 n cl wf) : OpensV P t (fun x => .agg (cl (f x))) (fun x => wf (f x)) := by
  intro H enc w fuel cs x hx
  obtain ⟨xs, m, rfl, _, hlen, hxs, hi⟩ := DataW.trod_struct ht hx
  obtain ⟨a, ha, ca, wa⟩ := h H enc w m cs (by omega) (by
    intro p hp
    rw [← hl] at hp
    obtain ⟨fd, hf, rfl⟩ := List.mem_map.1 hp
    obtain ⟨i, hif⟩ := List.getElem?_of_mem hf
    have hif' : fs[i]? = some fd := by simpa using hif
    have hlt : i < xs.length := by
      rw [hxs]
      have := (Array.getElem?_eq_some_iff.1 hif').1
      exact this
    exact ⟨xs[i], by rw [hi i fd hif', List.getElem?_eq_getElem hlt]⟩)
  rw [List.drop_zero] at ha
  refine ⟨g a, ?_, by show wf (f (g a)); rw [hfg]; exact wa⟩
  show Rep w nobody (.agg (cl (f (g a)))) [] cs
  rw [hfg]; simp only [Rep]; exact ⟨ha, ca⟩
theorem openV_array {α β : Type} {P : Program} {t e : TypeId} {k n : Nat} {l : List (TypeId × Nat)} {cl : β → List PV} {wf : β → Prop} (g : β → α) (f : α → β) (hfg : ∀ b, f (g b) = b)
    (ht : P.underlying t = some (.array k e)) (hl : (List.range k).map (fun i => (e, i * P.cellsOf e)) = l) (hc : P.cellsOf t = n) (h : SegV P l 0 n cl wf) : OpensV P t (fun x => .agg (cl (f x))) (fun x => wf (f x)) := by
  intro H enc w fuel cs x hx
  cases fuel with
  | zero => simp [DataW.trod] at hx
  | succ m =>
    unfold DataW.trod at hx
    rw [ht] at hx
    have hx' : (if cs.length = P.cellsOf t then ((List.range k).mapM fun i => DataW.trod enc P w 0 (fun _ => true) true m e ((cs.drop (i * P.cellsOf e)).take (P.cellsOf e))).map fun xs => (DataW.agg (xs.map (·.1)), xs.flatMap (·.2)) else none) = some x := by
      split at hx <;> simp_all
    clear hx
    by_cases hlen : cs.length = P.cellsOf t
    · rw [if_pos hlen] at hx'
      obtain ⟨xs, hp, _⟩ := Option.map_eq_some_iff.1 hx'
      have hxl := mapM_some_length hp
      obtain ⟨a, ha, ca, wa⟩ := h H enc w m cs (by omega) (by
        intro p hp'
        rw [← hl] at hp'
        obtain ⟨i, hi, rfl⟩ := List.mem_map.1 hp'
        have hi' := List.mem_range.1 hi
        have hlt : i < xs.length := by rw [hxl]; simpa using hi'
        exact ⟨xs[i], by rw [mapM_some_get hp i i (by simp [hi']), List.getElem?_eq_getElem hlt]⟩)
      rw [List.drop_zero] at ha
      refine ⟨g a, ?_, by show wf (f (g a)); rw [hfg]; exact wa⟩
      show Rep w nobody (.agg (cl (f (g a)))) [] cs
      rw [hfg]; simp only [Rep]; exact ⟨ha, ca⟩
    · rw [if_neg hlen] at hx'
      cases hx'

/-- A whole argument: by its reading, and by its shape. -/
theorem okWide_agg {P : Program} {w : World} {r : Reach} {base : Nat} {t : TypeId} {v : Value} (hg : aggT P t = true) (h : Value.okWide P w r base t v) : ∃ cs, v = .agg cs := by
  unfold aggT at hg
  unfold Value.okWide at h
  split at hg
  · rename_i e; rw [e] at h; obtain ⟨cs, h1, _⟩ := h; exact ⟨cs, h1⟩
  · rename_i e; rw [e] at h; obtain ⟨cs, h1, _⟩ := h; exact ⟨cs, h1⟩
  · cases hg
theorem RepV1_agg {w : World} {Z : Nat → Prop} {ys : List PV} {cs : Array Value} (h : Rep w Z (.agg ys) [] (Value.agg cs).cells.toList) : RepV1 w Z (.agg ys) [] (.agg cs) :=
  ⟨cs.toList, by simp, h⟩
theorem RepV1_one {w : World} {Z : Nat → Prop} {x : PV} {v : Value} (h : Rep w Z x [] v.cells.toList) (hx : x.cell1 = true) (hv : v.cells = #[v]) : RepV1 w Z x [] v := by
  rw [hv] at h
  cases x <;> first | exact h | cases hx
theorem Stp.below {φ : List Nat} {w w' : World} (h : Stp (fun b => b ∈ φ ∨ w.heap.size ≤ b) w w') (hφ : φ = []) : Below w.heap.size w w' := by
  subst hφ
  exact ⟨h.os, h.tape, h.output, h.size, fun b hb => h.block b hb (by rintro (h | h); cases h; omega)⟩
end Go.V
