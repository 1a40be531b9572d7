/- Places within a value: the cell that a path leads to, read and replaced. -/
import Derived.Test.YthbmifpfhdlicaaVB
namespace Go.V
set_option linter.unusedVariables false
set_option linter.unusedSimpArgs false

abbrev Path := List (Nat × Nat)

def PV.at? : PV → Nat → Nat → Option PV
  | .sl _ _ xs, i, o => (xs[i]?).bind fun x => x.cells[o]?
  | .ptr _ cs, i, o => if i = 0 then cs[o]? else none
  | _, _, _ => none
def PV.owned : PV → Bool
  | .sl o _ _ => o
  | .ptr o _ => o
  | .map o _ => o
  | _ => false
def PV.upd : PV → Nat → Nat → PV → PV
  | .sl f sz xs, i, o, y => .sl f sz (setAt xs i o y)
  | .ptr f cs, _, o, y => .ptr f (cs.set o y)
  | x, _, _, _ => x
/-- the address of a cell -/
def place : PV → Value → Nat → Nat → Option Addr
  | .sl _ sz _, .slice (some a) _ _, i, o => some ⟨a.block, a.off + (i * sz + o), none⟩
  | .ptr _ _, .pointer (some a), _, o => some ⟨a.block, a.off + o, none⟩
  | _, _, _, _ => none
def PV.get? : PV → Path → Option PV
  | x, [] => some x
  | x, (i, o) :: p => (x.at? i o).bind fun y => y.get? p
def follow (w : World) : PV → Value → Path → Option (PV × Value)
  | x, v, [] => some (x, v)
  | x, v, (i, o) :: p => (x.at? i o).bind fun y => ((place x v i o).bind w.cell?).bind fun u => follow w y u p
def PV.putC : PV → Path → Nat → Nat → PV → Option PV
  | x, [], i, o, y => if x.owned && (x.at? i o).isSome then some (x.upd i o y) else none
  | x, (j, k) :: q, i, o, y => if x.owned then (x.at? j k).bind fun c => (c.putC q i o y).map fun c' => x.upd j k c' else none

theorem at_cell1 {x : PV} {i o : Nat} {y : PV} (h : x.at? i o = some y) : x.cell1 = true := by
  cases x <;> simp_all [PV.at?, PV.cell1]
theorem cell1_upd {x : PV} {i o : Nat} {y : PV} (h : x.cell1 = true) : (x.upd i o y).cell1 = true := by cases x <;> simp_all [PV.upd, PV.cell1]
theorem place_upd {x : PV} {j k : Nat} {y : PV} {v : Value} {i o : Nat} : place (x.upd j k y) v i o = place x v i o := by
  cases x <;> simp only [PV.upd] <;> cases v <;> first | rfl | (rename_i a _ _; cases a <;> rfl) | (rename_i a; cases a <;> rfl)
theorem owned_upd {x : PV} {j k : Nat} {y : PV} : (x.upd j k y).owned = x.owned := by cases x <;> simp [PV.upd, PV.owned]
theorem at_upd {x : PV} {j k : Nat} {c c' : PV} (h : x.at? j k = some c) (hc : c'.cell1 = true) : (x.upd j k c').at? j k = some c' := by
  cases x with
  | sl f sz xs =>
    simp only [PV.at?, Option.bind_eq_some_iff] at h
    obtain ⟨e, he, hc'⟩ := h
    simp only [PV.upd, PV.at?, setAt, List.getElem?_modify, he, if_true, Option.map_eq_map, Option.map_some, Option.bind_some]
    cases e with
    | agg cs =>
      simp only [PV.cells] at hc'
      simp only [PV.setC, PV.cells]
      rw [List.getElem?_set_self (List.getElem?_eq_some_iff.1 hc').1]
    | _ =>
      have hk : k = 0 := by have := (List.getElem?_eq_some_iff.1 hc').1; simp [PV.cells] at this; exact this
      subst hk
      simp [PV.setC, PV.cell1_cells hc]
  | ptr f cs =>
    simp only [PV.at?] at h
    split at h
    case isFalse => cases h
    case isTrue hj =>
    simp only [PV.upd, PV.at?, hj, if_true]
    rw [List.getElem?_set_self (List.getElem?_eq_some_iff.1 h).1]
  | _ => simp [PV.at?] at h

theorem putC_cell1 {q : Path} {x : PV} {i o : Nat} {y x' : PV} (h : x.putC q i o y = some x') : x.cell1 = true ∧ x'.cell1 = true := by
  cases q with
  | nil =>
    simp only [PV.putC] at h
    split at h
    · rename_i hc; obtain rfl := Option.some.inj h
      simp only [Bool.and_eq_true] at hc
      obtain ⟨z, hz⟩ := Option.isSome_iff_exists.1 hc.2
      exact ⟨at_cell1 hz, cell1_upd (at_cell1 hz)⟩
    · cases h
  | cons s q =>
    obtain ⟨s1, s2⟩ := s
    simp only [PV.putC] at h
    split at h
    · simp only [Option.bind_eq_some_iff, Option.map_eq_some_iff] at h; obtain ⟨_, hz, _, _, rfl⟩ := h; exact ⟨at_cell1 hz, cell1_upd (at_cell1 hz)⟩
    · cases h

/-- the world changes in one cell of a block, if it is one of cells -/
def Chg (w w' : World) (A : Addr) (u' : Value) : Prop :=
  ∀ cs T fr, w.heap[A.block]? = some (.cells cs T fr) → A.off < cs.size → ∃ cs', w'.heap[A.block]? = some (.cells cs' T fr) ∧ cs'.size = cs.size ∧
    (∀ i, i ≠ A.off → cs'[i]? = cs[i]?) ∧ cs'[A.off]? = some u'
def KeepsX (w w' : World) (Z Z' : Nat → Prop) (φ : List Nat) (A : Addr) : Prop :=
  ∀ b, b < w.heap.size → (b ∈ φ ∨ ¬ Z b) → (Z b ↔ Z' b) ∧ (b ≠ A.block → w'.heap[b]? = w.heap[b]?)

theorem Chg.same {w w' : World} {A : Addr} {u : Value} (h : w'.heap[A.block]? = w.heap[A.block]?) (hu : w.cell? A = some u) (hs : A.spot = none) : Chg w w' A u := by
  intro cs T fr hb hlt
  refine ⟨cs, by rw [h, hb], rfl, fun _ _ => rfl, ?_⟩
  simp only [World.cell?, hb, hs] at hu
  simpa using hu

theorem at_rep {w : World} {Z : Nat → Prop} {x : PV} {φ : List Nat} {v : Value} {i o : Nat} {y : PV} (h : Rep w Z x φ [v]) (hy : x.at? i o = some y) :
    y.cell1 = true ∧ ∃ A u φ₁ φy φ₂, place x v i o = some A ∧ w.cell? A = some u ∧ A.spot = none ∧ φ = φ₁ ++ φy ++ φ₂ ∧ Rep w Z y φy [u] ∧
      (x.owned = true → A.block ∈ φ₁ ∧ w.frozen? A = false ∧ (φ.Nodup → ∀ w' Z' y' φ' u', y'.cell1 = true → KeepsX w w' Z Z' (φ₁ ++ φ₂) A → Chg w w' A u' → Rep w' Z' y' φ' [u'] →
        Rep w' Z' (x.upd i o y') (φ₁ ++ φ' ++ φ₂) [v])) := by
  have hsome : ∀ {b : Nat} {o : Obj}, w.heap[b]? = some o → b < w.heap.size := fun h => (Array.getElem?_eq_some_iff.1 h).1
  cases x with
  | sl f sz xs =>
    simp only [Rep] at h; obtain ⟨a, cap, ψ, ch, hv, h0, hl, hw, hh⟩ := h
    obtain rfl : v = .slice a xs.length cap := by simpa using hv
    simp only [PV.at?, Option.bind_eq_some_iff] at hy
    obtain ⟨e, hi, ho⟩ := hy
    obtain ⟨hc1, hosz, ψ₁, φy, ψ₂, u, rfl, hu, hry, hrep⟩ := cell_split xs ψ ch i o e y hl hw hi ho
    rcases hh with ⟨rfl, _⟩ | ⟨b, off, cs, T, fr, rfl, hb, hch, hf, ht⟩
    · simp at hi
    · have hcs : cs[off + (i * sz + o)]? = some u := hch _ _ hu
      refine ⟨hc1, ⟨b, off + (i * sz + o), none⟩, u, ?_⟩
      have hcell : w.cell? ⟨b, off + (i * sz + o), none⟩ = some u := by simp only [World.cell?, hb]; simpa using hcs
      cases f with
      | false =>
        obtain ⟨hz, rfl, hnil⟩ := hf rfl
        have h3 : φy = [] := (List.append_eq_nil_iff.1 (List.append_eq_nil_iff.1 hnil).1).2
        subst h3
        exact ⟨[], [], [], rfl, hcell, rfl, rfl, hry, fun h => by cases h⟩
      | true =>
        obtain ⟨hz, rfl, rfl, hcap, hlen⟩ := ht rfl
        refine ⟨b :: ψ₁, φy, ψ₂, rfl, hcell, rfl, by simp, hry, fun _ => ⟨by simp, ?_, ?_⟩⟩
        · simp only [World.frozen?, hb]; simp
        · intro hnd w' Z' y' φ' u' hy' hk hchg hr'
          obtain ⟨cs', hb', hsz', hoth, hnew⟩ := hchg cs T (0, 0) hb (by rw [Array.getElem?_eq_some_iff] at hcs; exact hcs.1)
          have hnb : b ∉ ψ₁ ++ φy ++ ψ₂ := (List.nodup_cons.1 hnd).1
          have hk' : Keeps w w' Z Z' (ψ₁ ++ ψ₂) := by
            refine fun c hc hm => (hk c hc (hm.imp (by simp +contextual [or_imp]) id)).imp id (fun h => h ?_)
            rintro rfl
            rcases hm with hm | hm
            · exact hnb (by simp only [List.mem_append] at hm ⊢; rcases hm with hm | hm <;> simp [hm])
            · exact hm hz
          obtain ⟨k1, k2⟩ := hrep w' Z' y' φ' u' hy' hk' hr'
          have hlen2 : (setAt xs i o y').length = xs.length := by simp [setAt]
          simp only [PV.upd, Rep]
          refine ⟨some ⟨b, off, none⟩, cap, ψ₁ ++ φ' ++ ψ₂, ch.set (i * sz + o) u', by rw [hlen2], ⟨h0.1, by rw [hlen2]; exact h0.2⟩, k1, k2, .inr ⟨b, off, cs', T, (0, 0), rfl, hb', ?_, fun h => (by cases h), fun _ => ⟨(hk b (hsome hb) (.inl (by simp))).1.1 hz, rfl, by simp, by rw [hsz']; exact hcap, by rw [hlen2]; exact hlen⟩⟩⟩
          intro j z hz
          by_cases hj : j = i * sz + o
          · subst hj
            rw [hnew]
            rw [List.getElem?_set_self (by rw [List.getElem?_eq_some_iff] at hu; exact hu.1)] at hz
            exact hz
          · rw [hoth (off + j) (by simp only; omega)]
            rw [List.getElem?_set_ne (by omega)] at hz
            exact hch j z hz
  | ptr f cs =>
    simp only [Rep] at h; obtain ⟨b, arr, T, fr, ψ, hv, hb, hl, hw, hf, ht⟩ := h
    obtain rfl : v = .pointer (some ⟨b, 0, none⟩) := by simpa using hv
    simp only [PV.at?] at hy
    split at hy
    case isFalse => cases hy
    case isTrue hi =>
    subst hi
    obtain ⟨ψ₁, φy, ψ₂, u, rfl, hu, hry, hrep⟩ := cell_split1 cs ψ arr.toList o y hl hw hy
    have hcs : arr[o]? = some u := by simpa using hu
    refine ⟨hw y (List.mem_of_getElem? hy), ⟨b, 0 + o, none⟩, u, ?_⟩
    have hcell : w.cell? ⟨b, 0 + o, none⟩ = some u := by simp only [World.cell?, hb]; simpa using hcs
    cases f with
    | false =>
      obtain ⟨hz, rfl, hnil⟩ := hf rfl
      have h3 : φy = [] := (List.append_eq_nil_iff.1 (List.append_eq_nil_iff.1 hnil).1).2
      subst h3
      exact ⟨[], [], [], rfl, hcell, rfl, rfl, hry, fun h => by cases h⟩
    | true =>
      obtain ⟨hz, rfl, rfl⟩ := ht rfl
      refine ⟨b :: ψ₁, φy, ψ₂, rfl, hcell, rfl, by simp, hry, fun _ => ⟨by simp, ?_, ?_⟩⟩
      · simp only [World.frozen?, hb]; simp
      · intro hnd w' Z' y' φ' u' hy' hk hchg hr'
        obtain ⟨arr', hb', hsz', hoth, hnew⟩ := hchg arr T (0, 0) hb (by rw [Array.getElem?_eq_some_iff] at hcs; simp only [Nat.zero_add]; exact hcs.1)
        have hnb : b ∉ ψ₁ ++ φy ++ ψ₂ := (List.nodup_cons.1 hnd).1
        have hk' : Keeps w w' Z Z' (ψ₁ ++ ψ₂) := by
          refine fun c hc hm => (hk c hc (hm.imp (by simp +contextual [or_imp]) id)).imp id (fun h => h ?_)
          rintro rfl
          rcases hm with hm | hm
          · exact hnb (by simp only [List.mem_append] at hm ⊢; rcases hm with hm | hm <;> simp [hm])
          · exact hm hz
        have k1 := hrep w' Z' y' φ' u' hk' hr'
        have harr : arr'.toList = arr.toList.set o u' := by
          apply List.ext_getElem?
          intro j
          by_cases hj : j = o
          · subst hj
            rw [List.getElem?_set_self (by rw [Array.getElem?_eq_some_iff] at hcs; simpa using hcs.1)]
            simpa using hnew
          · rw [List.getElem?_set_ne (by omega)]
            simpa using hoth j (by simp only [Nat.zero_add]; omega)
        simp only [PV.upd, Rep]
        refine ⟨b, arr', T, (0, 0), ψ₁ ++ φ' ++ ψ₂, rfl, hb', by rw [harr]; exact k1, ?_, fun h => (by cases h), fun _ => ⟨(hk b (hsome hb) (.inl (by simp))).1.1 hz, rfl, by simp⟩⟩
        intro d hd
        rcases List.mem_or_eq_of_mem_set hd with hd | rfl
        · exact hw d hd
        · exact hy'
  | _ => simp [PV.at?] at hy

theorem follow_rep {w : World} {Z : Nat → Prop} : ∀ (p : Path) (x : PV) (φ : List Nat) (v : Value) (y : PV), Rep w Z x φ [v] → x.get? p = some y →
    ∃ u φ₁ φy φ₂, follow w x v p = some (y, u) ∧ φ = φ₁ ++ φy ++ φ₂ ∧ Rep w Z y φy [u] ∧ (x.cell1 = true → y.cell1 = true)
  | [], x, φ, v, y, h, hy => by
    obtain rfl : x = y := by simpa [PV.get?] using hy
    exact ⟨v, [], φ, [], rfl, by simp, h, id⟩
  | (i, o) :: p, x, φ, v, y, h, hy => by
    simp only [PV.get?, Option.bind_eq_some_iff] at hy
    obtain ⟨c, hc, hy⟩ := hy
    obtain ⟨hcell, A, u, φ₁, φc, φ₂, hA, hu, _, rfl, hr, _⟩ := at_rep h hc
    obtain ⟨u', ψ₁, φy, ψ₂, hf, rfl, hr', hcy⟩ := follow_rep p c φc u y hr hy
    refine ⟨u', φ₁ ++ ψ₁, φy, ψ₂ ++ φ₂, ?_, by simp, hr', fun _ => hcy hcell⟩
    simp only [follow, hc, hA, Option.bind_some, hu]
    exact hf

/-- The part of a path that is walked hangs on the value's own blocks, and on those that nobody owns. -/
theorem follow_keeps {w w' : World} {Z Z' : Nat → Prop} : ∀ (p : Path) (x : PV) (φ : List Nat) (v : Value) (y : PV) (u : Value), Rep w Z x φ [v] → Keeps w w' Z Z' φ →
    follow w x v p = some (y, u) → follow w' x v p = some (y, u)
  | [], x, φ, v, y, u, h, hk, hf => hf
  | (i, o) :: p, x, φ, v, y, u, h, hk, hf => by
    simp only [follow, Option.bind_eq_some_iff] at hf ⊢
    obtain ⟨c, hc, u1, ⟨A, hA, hu1⟩, hf⟩ := hf
    obtain ⟨hcell, A', u', φ₁, φc, φ₂, hA', hu', hsp, rfl, hr, ho⟩ := at_rep h hc
    obtain rfl : A' = A := by rw [hA] at hA'; exact (Option.some.inj hA').symm
    obtain rfl : u' = u1 := by rw [hu1] at hu'; exact (Option.some.inj hu').symm
    refine ⟨c, hc, u', ⟨A', hA, ?_⟩, follow_keeps p c φc u' y u hr (hk.mono (by simp +contextual)) hf⟩
    have hlt : A'.block < w.heap.size := by
      simp only [World.cell?] at hu'
      cases hb : w.heap[A'.block]? with
      | none => simp [hb] at hu'
      | some ob => exact (Array.getElem?_eq_some_iff.1 hb).1
    have hor : A'.block ∈ φ₁ ++ φc ++ φ₂ ∨ ¬ Z A'.block := by
      cases x with
      | sl f sz xs =>
        cases f with
        | true => exact .inl (by have := (ho rfl).1; simp [this])
        | false =>
          simp only [Rep] at h; obtain ⟨a, cap, ψ, ch, hv, h0, hl, hw, hh⟩ := h
          rcases hh with ⟨rfl, _⟩ | ⟨b, off, cs, T, fr, rfl, hb, hch, hf', _⟩
          · simp [PV.at?] at hc
          · obtain rfl : v = _ := by simpa using hv
            simp only [place, Option.some.injEq] at hA; subst hA
            exact .inr (hf' trivial).1
      | ptr f cs =>
        cases f with
        | true => exact .inl (by have := (ho rfl).1; simp [this])
        | false =>
          simp only [Rep] at h; obtain ⟨b, arr, T, fr, ψ, hv, hb, hl, hw, hf', _⟩ := h
          obtain rfl : v = _ := by simpa using hv
          simp only [place, Option.some.injEq] at hA; subst hA
          exact .inr (hf' trivial).1
      | _ => simp [PV.at?] at hc
    rw [World.cell?_of_block (w := w) (hk A'.block hlt hor).2]; exact hu'

/-- A cell replaced, at the end of a path of owned ones. -/
theorem putC_rep {w : World} {Z : Nat → Prop} {i o : Nat} {y' : PV} : ∀ (q : Path) (x : PV) (φ : List Nat) (v : Value) (x' : PV), φ.Nodup → Rep w Z x φ [v] →
    x.putC q i o y' = some x' → ∃ h hv A y u φ₁ φy φ₂, follow w x v q = some (h, hv) ∧ h.at? i o = some y ∧ y.cell1 = true ∧ place h hv i o = some A ∧ w.cell? A = some u ∧ A.spot = none ∧
      A.block ∈ φ₁ ++ φ₂ ∧ w.frozen? A = false ∧ φ = φ₁ ++ φy ++ φ₂ ∧ Rep w Z y φy [u] ∧
      ∀ w' Z' φ' u', y'.cell1 = true → KeepsX w w' Z Z' (φ₁ ++ φ₂) A → Chg w w' A u' → Rep w' Z' y' φ' [u'] → Rep w' Z' x' (φ₁ ++ φ' ++ φ₂) [v] ∧ follow w' x' v q = some (h.upd i o y', hv)
  | [], x, φ, v, x', hnd, h, hp => by
    simp only [PV.putC] at hp
    split at hp
    case isFalse => cases hp
    case isTrue hc =>
    obtain rfl : _ = x' := Option.some.inj hp
    simp only [Bool.and_eq_true] at hc
    obtain ⟨ho, hs⟩ := hc
    obtain ⟨y, hy⟩ := Option.isSome_iff_exists.1 hs
    obtain ⟨hcell, A, u, φ₁, φy, φ₂, hA, hu, hsp, rfl, hr, hown⟩ := at_rep h hy
    obtain ⟨hmem, hfz, hrep⟩ := hown ho
    exact ⟨x, v, A, y, u, φ₁, φy, φ₂, rfl, hy, hcell, hA, hu, hsp, by simp [hmem], hfz, rfl, hr, fun w' Z' φ' u' hy' hk hch hr' => ⟨hrep hnd w' Z' y' φ' u' hy' hk hch hr', rfl⟩⟩
  | (j, k) :: q, x, φ, v, x', hnd, h, hp => by
    simp only [PV.putC] at hp
    split at hp
    case isFalse => cases hp
    case isTrue ho =>
    simp only [Option.bind_eq_some_iff, Option.map_eq_some_iff] at hp
    obtain ⟨c, hc, c', hc', rfl⟩ := hp
    obtain ⟨hcell, A1, u1, φ₁, φc, φ₂, hA1, hu1, hsp1, rfl, hr1, hown⟩ := at_rep h hc
    obtain ⟨hmem1, hfz1, hrep1⟩ := hown ho
    have hndc : φc.Nodup := (List.nodup_append.1 (List.nodup_append.1 hnd).1).2.1
    obtain ⟨g, gv, A, y, u, ψ₁, φy, ψ₂, hf, hy, hyc, hA, hu, hsp, hmem, hfz, rfl, hr, hrep⟩ := putC_rep q c φc u1 c' hndc hr1 hc'
    have hap : ∀ b, b ∈ φ₁ ++ φ₂ → b ∉ ψ₁ ++ φy ++ ψ₂ := by
      intro b hb hb'
      have h1 := List.nodup_append.1 hnd
      have h2 := List.nodup_append.1 h1.1
      rcases List.mem_append.1 hb with hb | hb
      · exact h2.2.2 b hb b hb' rfl
      · exact h1.2.2 b (List.mem_append.2 (.inr hb')) b hb rfl
    have hmem' : A.block ∈ ψ₁ ++ φy ++ ψ₂ := by simp only [List.mem_append] at hmem ⊢; rcases hmem with hm | hm <;> simp [hm]
    have hzA : Z A.block ∧ A.block < w.heap.size := by
      have := Rep_lt.1 _ _ _ hr1 A.block hmem'; exact ⟨this.2, this.1⟩
    refine ⟨g, gv, A, y, u, φ₁ ++ ψ₁, φy, ψ₂ ++ φ₂, ?_, hy, hyc, hA, hu, hsp, ?_, hfz, by simp, hr, fun w' Z' φ' u' hy' hk hch hr' => ?_⟩
    · simp only [follow, hc, hA1, Option.bind_some, hu1]; exact hf
    · simp only [List.mem_append] at hmem ⊢; rcases hmem with hm | hm <;> simp [hm]
    · obtain ⟨hc1, hfol⟩ := hrep w' Z' φ' u' hy' (fun b hb hm => hk b hb (hm.imp (by simp +contextual [or_imp]) id)) hch hr'
      have hcc1 : c'.cell1 = true := (putC_cell1 hc').2
      have hne : A1.block ≠ A.block := by
        intro e; exact hap A1.block (by simp [hmem1]) (e ▸ hmem')
      have hlt1 : A1.block < w.heap.size := (Rep_lt.1 _ _ _ h A1.block (by simp [hmem1])).1
      have hkx : KeepsX w w' Z Z' (φ₁ ++ φ₂) A1 := by
        intro b hb hm
        refine (hk b hb (hm.imp (by simp +contextual [or_imp]) id)).imp id (fun h _ => h ?_)
        rintro rfl
        rcases hm with hm | hm
        · exact hap _ hm hmem'
        · exact hm hzA.1
      have := hrep1 hnd w' Z' c' (ψ₁ ++ φ' ++ ψ₂) u1 hcc1 hkx
        (Chg.same ((hk A1.block hlt1 (.inl (by simp [hmem1]))).2 hne) hu1 hsp1) hc1
      refine ⟨by simpa using this, ?_⟩
      have hu1' : w'.cell? A1 = some u1 := by
        rw [World.cell?_of_block (w := w) ((hk A1.block hlt1 (.inl (by simp [hmem1]))).2 hne)]; exact hu1
      simp only [follow, at_upd hc hcc1, place_upd, hA1, Option.bind_some, hu1']
      exact hfol
end Go.V
