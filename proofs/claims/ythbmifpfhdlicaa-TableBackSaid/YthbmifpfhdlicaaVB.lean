/- Frozen values; the cells of a value, read and replaced. -/
import Derived.Test.YthbmifpfhdlicaaVA
namespace Go.V
set_option linter.unusedVariables false
set_option linter.unusedSimpArgs false

mutual
def PV.frz : PV → PV
  | .sl _ sz xs => .sl false sz (frzL xs)
  | .ptr _ cs => .ptr false (frzL cs)
  | .map _ es => .map false es
  | .agg cs => .agg (frzL cs)
  | .tup xs => .tup (frzL xs)
  | .fn f caps => .fn f (frzL caps)
  | .dead => .dead
  | .prim v => .prim v
def frzL : List PV → List PV
  | [] => []
  | x :: xs => x.frz :: frzL xs
end
mutual
/-- nothing in it is owned -/
def PV.noOwn : PV → Bool
  | .sl o _ xs => !o && noOwnL xs
  | .ptr o cs => !o && noOwnL cs
  | .map o _ => !o
  | .agg cs => noOwnL cs
  | .tup xs => noOwnL xs
  | .fn _ caps => noOwnL caps
  | .dead => true
  | .prim _ => true
def noOwnL : List PV → Bool
  | [] => true
  | x :: xs => x.noOwn && noOwnL xs
end
mutual
/-- whatever it points to is owned -/
def PV.allOwn : PV → Bool
  | .sl o _ xs => o && allOwnL xs
  | .ptr o cs => o && allOwnL cs
  | .map o _ => o
  | .agg cs => allOwnL cs
  | .tup xs => allOwnL xs
  | .fn _ caps => allOwnL caps
  | .dead => true
  | .prim _ => true
def allOwnL : List PV → Bool
  | [] => true
  | x :: xs => x.allOwn && allOwnL xs
end
@[simp] theorem PV.frz_sl {o sz xs} : (PV.sl o sz xs).frz = .sl false sz (frzL xs) := by simp [PV.frz]
@[simp] theorem PV.frz_ptr {o cs} : (PV.ptr o cs).frz = .ptr false (frzL cs) := by simp [PV.frz]
@[simp] theorem PV.frz_map {o es} : (PV.map o es).frz = .map false es := by simp [PV.frz]
@[simp] theorem PV.frz_agg {cs} : (PV.agg cs).frz = .agg (frzL cs) := by simp [PV.frz]
@[simp] theorem PV.frz_tup {cs} : (PV.tup cs).frz = .tup (frzL cs) := by simp [PV.frz]
@[simp] theorem PV.frz_fn {f cs} : (PV.fn f cs).frz = .fn f (frzL cs) := by simp [PV.frz]
@[simp] theorem PV.frz_dead : (PV.dead).frz = .dead := by simp [PV.frz]
@[simp] theorem PV.frz_prim {v} : (PV.prim v).frz = .prim v := by simp [PV.frz]
@[simp] theorem frzL_nil : frzL [] = [] := by simp [frzL]
@[simp] theorem frzL_cons {x xs} : frzL (x :: xs) = x.frz :: frzL xs := by simp [frzL]
theorem frzL_eq_map (xs : List PV) : frzL xs = xs.map PV.frz := by induction xs with | nil => simp | cons x xs ih => simp [ih]
@[simp] theorem frzL_length (xs : List PV) : (frzL xs).length = xs.length := by rw [frzL_eq_map, List.length_map]
@[simp] theorem PV.frz_width (x : PV) : x.frz.width = x.width := by cases x <;> simp [PV.width]
@[simp] theorem PV.frz_cell1 (x : PV) : x.frz.cell1 = x.cell1 := by cases x <;> simp [PV.cell1]
theorem PV.frz_cells (x : PV) : x.frz.cells = frzL x.cells := by cases x <;> simp [PV.cells]

theorem noOwn_frz : (∀ x : PV, x.frz.noOwn = true) ∧ (∀ xs, noOwnL (frzL xs) = true) := by
  refine PV.ind ?_ ?_ ?_ ?_ ?_ ?_ ?_ ?_ ?_ ?_ <;> intros <;> simp_all [PV.noOwn, noOwnL]

theorem frz_noOwn : (∀ x : PV, x.noOwn = true → x.frz = x) ∧ (∀ xs, noOwnL xs = true → frzL xs = xs) := by
  refine PV.ind ?_ ?_ ?_ ?_ ?_ ?_ ?_ ?_ ?_ ?_ <;> intros <;> simp_all [PV.noOwn, noOwnL]

/-- What owns nothing owns no block. -/
theorem Rep_noOwn {w : World} {Z : Nat → Prop} : (∀ x φ vs, PV.noOwn x = true → Rep w Z x φ vs → φ = []) ∧
    (∀ xs φ vs, noOwnL xs = true → RepL w Z xs φ vs → φ = []) := by
  refine PV.ind (M := fun x => ∀ φ vs, PV.noOwn x = true → Rep w Z x φ vs → φ = []) (N := fun xs => ∀ φ vs, noOwnL xs = true → RepL w Z xs φ vs → φ = [])
    ?_ ?_ ?_ ?_ ?_ ?_ ?_ ?_ ?_ ?_
  · rintro φ vs _ h; simp only [Rep] at h; exact h.1
  · rintro u φ vs _ h; simp only [Rep] at h; exact h.1
  · rintro o sz xs ih φ vs ho h; simp only [Rep] at h; obtain ⟨a, cap, ψ, ch, rfl, _, hl, _, hh⟩ := h
    simp only [PV.noOwn, Bool.and_eq_true, Bool.not_eq_true'] at ho
    rcases hh with ⟨_, h, _⟩ | ⟨b, off, cs, T, fr, rfl, hb, _, hf, ht⟩
    · exact h
    · exact (hf ho.1).2.1
  · rintro o cs ih φ vs ho h; simp only [Rep] at h; obtain ⟨b, arr, T, fr, ψ, rfl, hb, hl, _, hf, ht⟩ := h
    simp only [PV.noOwn, Bool.and_eq_true, Bool.not_eq_true'] at ho
    exact (hf ho.1).2.1
  · rintro o es φ vs ho h; simp only [Rep] at h; obtain ⟨b, ents, clk, rfl, hb, _, _, hf, ht⟩ := h
    simp only [PV.noOwn, Bool.not_eq_true'] at ho
    exact (hf ho).2
  · rintro cs ih φ vs ho h; simp only [Rep] at h; simp only [PV.noOwn] at ho; exact ih _ _ ho h.1
  · rintro xs _ φ vs _ h; simp only [Rep] at h
  · rintro f cs _ φ vs _ h; simp only [Rep] at h; exact h.1
  · rintro φ vs _ h; rw [RepL_nil] at h; exact h.1
  · rintro x xs hx hxs φ vs ho h; rw [RepL_cons] at h; obtain ⟨φ₁, φ₂, v₁, v₂, rfl, rfl, h1, h2⟩ := h
    simp only [noOwnL, Bool.and_eq_true] at ho
    rw [hx _ _ ho.1 h1, hxs _ _ ho.2 h2]; rfl

/-- Frozen: what was owned is nobody's. -/
theorem Rep_frz {w : World} {Z Z' : Nat → Prop} (hZ : ∀ b, b < w.heap.size → Z' b → Z b) : (∀ x φ vs, (∀ b ∈ φ, ¬ Z' b) → Rep w Z x φ vs → Rep w Z' x.frz [] vs) ∧
    (∀ xs φ vs, (∀ b ∈ φ, ¬ Z' b) → RepL w Z xs φ vs → RepL w Z' (frzL xs) [] vs) := by
  have hsome : ∀ {b : Nat} {o : Obj}, w.heap[b]? = some o → b < w.heap.size := fun h => (Array.getElem?_eq_some_iff.1 h).1
  refine PV.ind (M := fun x => ∀ φ vs, (∀ b ∈ φ, ¬ Z' b) → Rep w Z x φ vs → Rep w Z' x.frz [] vs)
    (N := fun xs => ∀ φ vs, (∀ b ∈ φ, ¬ Z' b) → RepL w Z xs φ vs → RepL w Z' (frzL xs) [] vs) ?_ ?_ ?_ ?_ ?_ ?_ ?_ ?_ ?_ ?_
  · rintro φ vs _ h; simp only [PV.frz_dead, Rep] at h ⊢; exact ⟨trivial, h.2⟩
  · rintro u φ vs _ h; simp only [PV.frz_prim, Rep] at h ⊢; exact ⟨trivial, h.2⟩
  · rintro o sz xs ih φ vs hn h; simp only [PV.frz_sl, Rep] at h ⊢; obtain ⟨a, cap, ψ, ch, rfl, h0, hl, hw, hh⟩ := h
    have hsub : ∀ b, b ∈ ψ → b ∈ φ := by
      rcases hh with ⟨rfl, rfl, _⟩ | ⟨b, off, cs, T, fr, rfl, hb, _, hf, ht⟩
      · rw [RepL_nil] at hl; rw [hl.1]; simp
      · cases o with
        | false => rw [(hf rfl).2.2]; simp
        | true => intro c hc; rw [(ht rfl).2.2.1]; simp [hc]
    refine ⟨a, cap, [], ch, by simp, ⟨h0.1, by simpa using h0.2⟩, ih _ _ (fun b hb => hn b (hsub b hb)) hl, ?_, ?_⟩
    · intro x hx; rw [frzL_eq_map] at hx; obtain ⟨y, hy, rfl⟩ := List.mem_map.1 hx; rw [PV.frz_width]; exact hw y hy
    · rcases hh with ⟨rfl, rfl, _⟩ | ⟨b, off, cs, T, fr, rfl, hb, hch, hf, ht⟩
      · exact .inl ⟨by simp, trivial, fun h => by cases h⟩
      · refine .inr ⟨b, off, cs, T, fr, rfl, hb, hch, fun _ => ⟨?_, trivial, rfl⟩, fun h => by cases h⟩
        cases o with
        | false => exact fun hz => (hf rfl).1 (hZ b (hsome hb) hz)
        | true => exact hn b (by rw [(ht rfl).2.2.1]; simp)
  · rintro o cs ih φ vs hn h; simp only [PV.frz_ptr, Rep] at h ⊢; obtain ⟨b, arr, T, fr, ψ, rfl, hb, hl, hw, hf, ht⟩ := h
    have hsub : ∀ c, c ∈ ψ → c ∈ φ := by
      cases o with
      | false => rw [(hf rfl).2.2]; simp
      | true => intro c hc; rw [(ht rfl).2.2]; simp [hc]
    refine ⟨b, arr, T, fr, [], rfl, hb, ih _ _ (fun b hb => hn b (hsub b hb)) hl, ?_, fun _ => ⟨?_, trivial, rfl⟩, fun h => by cases h⟩
    · intro x hx; rw [frzL_eq_map] at hx; obtain ⟨y, hy, rfl⟩ := List.mem_map.1 hx; rw [PV.frz_cell1]; exact hw y hy
    · cases o with
      | false => exact fun hz => (hf rfl).1 (hZ b (hsome hb) hz)
      | true => exact hn b (by rw [(ht rfl).2.2]; simp)
  · rintro o es φ vs hn h; simp only [PV.frz_map, Rep] at h ⊢; obtain ⟨b, ents, clk, rfl, hb, he, hfl, hf, ht⟩ := h
    refine ⟨b, ents, clk, rfl, hb, he, hfl, fun _ => ⟨?_, trivial⟩, fun h => by cases h⟩
    cases o with
    | false => exact fun hz => (hf rfl).1 (hZ b (hsome hb) hz)
    | true => exact hn b (by rw [(ht rfl).2]; simp)
  · rintro cs ih φ vs hn h; simp only [PV.frz_agg, Rep] at h ⊢; refine ⟨ih _ _ hn h.1, ?_⟩
    intro x hx; rw [frzL_eq_map] at hx; obtain ⟨y, hy, rfl⟩ := List.mem_map.1 hx; rw [PV.frz_cell1]; exact h.2 y hy
  · rintro xs _ φ vs _ h; simp only [Rep] at h
  · rintro f cs ih φ vs hn h; simp only [PV.frz_fn, Rep] at h ⊢; obtain ⟨rfl, cv, rfl, hl, hw⟩ := h
    refine ⟨trivial, cv, rfl, ih _ _ (by simp) hl, ?_⟩
    intro x hx; rw [frzL_eq_map] at hx; obtain ⟨y, hy, rfl⟩ := List.mem_map.1 hx; rw [PV.frz_cell1]; exact hw y hy
  · rintro φ vs _ h; rw [frzL_nil, RepL_nil]; rw [RepL_nil] at h; exact ⟨rfl, h.2⟩
  · rintro x xs hx hxs φ vs hn h; rw [RepL_cons] at h; rw [frzL_cons, RepL_cons]; obtain ⟨φ₁, φ₂, v₁, v₂, rfl, rfl, h1, h2⟩ := h
    exact ⟨[], [], v₁, v₂, rfl, rfl, hx _ _ (fun b hb => hn b (List.mem_append.2 (.inl hb))) h1, hxs _ _ (fun b hb => hn b (List.mem_append.2 (.inr hb))) h2⟩

/-- Of what is owned throughout nothing hangs on what others own. -/
theorem Rep_allOwn {w : World} {Z Z' : Nat → Prop} : (∀ x φ vs, PV.allOwn x = true → (∀ b ∈ φ, Z' b) → Rep w Z x φ vs → Rep w Z' x φ vs) ∧
    (∀ xs φ vs, allOwnL xs = true → (∀ b ∈ φ, Z' b) → RepL w Z xs φ vs → RepL w Z' xs φ vs) := by
  refine PV.ind (M := fun x => ∀ φ vs, PV.allOwn x = true → (∀ b ∈ φ, Z' b) → Rep w Z x φ vs → Rep w Z' x φ vs)
    (N := fun xs => ∀ φ vs, allOwnL xs = true → (∀ b ∈ φ, Z' b) → RepL w Z xs φ vs → RepL w Z' xs φ vs) ?_ ?_ ?_ ?_ ?_ ?_ ?_ ?_ ?_ ?_
  · rintro φ vs _ _ h; simp only [Rep] at h ⊢; exact h
  · rintro u φ vs _ _ h; simp only [Rep] at h ⊢; exact h
  · rintro o sz xs ih φ vs ho hn h; simp only [Rep] at h ⊢; obtain ⟨a, cap, ψ, ch, rfl, h0, hl, hw, hh⟩ := h
    simp only [PV.allOwn, Bool.and_eq_true] at ho
    obtain ⟨rfl, hox⟩ := ho
    have hsub : ∀ b, b ∈ ψ → b ∈ φ := by
      rcases hh with ⟨rfl, rfl, _⟩ | ⟨b, off, cs, T, fr, rfl, hb, _, hf, ht⟩
      · rw [RepL_nil] at hl; rw [hl.1]; simp
      · intro c hc; rw [(ht rfl).2.2.1]; simp [hc]
    refine ⟨a, cap, ψ, ch, rfl, h0, ih _ _ hox (fun b hb => hn b (hsub b hb)) hl, hw, ?_⟩
    rcases hh with hh | ⟨b, off, cs, T, fr, rfl, hb, hch, hf, ht⟩
    · exact .inl hh
    · exact .inr ⟨b, off, cs, T, fr, rfl, hb, hch, fun h => (by cases h), fun h => ⟨hn b (by rw [(ht rfl).2.2.1]; simp), (ht rfl).2⟩⟩
  · rintro o cs ih φ vs ho hn h; simp only [Rep] at h ⊢; obtain ⟨b, arr, T, fr, ψ, rfl, hb, hl, hw, hf, ht⟩ := h
    simp only [PV.allOwn, Bool.and_eq_true] at ho
    obtain ⟨rfl, hox⟩ := ho
    refine ⟨b, arr, T, fr, ψ, rfl, hb, ih _ _ hox (fun b hb => hn b (by rw [(ht rfl).2.2]; simp [hb])) hl, hw, fun h => (by cases h), fun h => ⟨hn b (by rw [(ht rfl).2.2]; simp), (ht rfl).2⟩⟩
  · rintro o es φ vs ho hn h; simp only [Rep] at h ⊢; obtain ⟨b, ents, clk, rfl, hb, he, hfl, hf, ht⟩ := h
    simp only [PV.allOwn] at ho; subst ho
    exact ⟨b, ents, clk, rfl, hb, he, hfl, fun h => (by cases h), fun h => ⟨hn b (by rw [(ht rfl).2]; simp), (ht rfl).2⟩⟩
  · rintro cs ih φ vs ho hn h; simp only [Rep] at h ⊢; simp only [PV.allOwn] at ho; exact ⟨ih _ _ ho hn h.1, h.2⟩
  · rintro xs _ φ vs _ _ h; simp only [Rep] at h
  · rintro f cs ih φ vs ho hn h; simp only [Rep] at h ⊢; simp only [PV.allOwn] at ho; obtain ⟨rfl, cv, rfl, hl, hw⟩ := h
    exact ⟨rfl, cv, rfl, ih _ _ ho (by simp) hl, hw⟩
  · rintro φ vs _ _ h; rw [RepL_nil] at h ⊢; exact h
  · rintro x xs hx hxs φ vs ho hn h; rw [RepL_cons] at h ⊢; obtain ⟨φ₁, φ₂, v₁, v₂, rfl, rfl, h1, h2⟩ := h
    simp only [allOwnL, Bool.and_eq_true] at ho
    exact ⟨φ₁, φ₂, v₁, v₂, rfl, rfl, hx _ _ ho.1 (fun b hb => hn b (List.mem_append.2 (.inl hb))) h1, hxs _ _ ho.2 (fun b hb => hn b (List.mem_append.2 (.inr hb))) h2⟩

/-- Of what owns nothing: it reads so where fewer blocks are owned. -/
theorem Rep_weaken {w : World} {Z Z' : Nat → Prop} (hZ : ∀ b, b < w.heap.size → Z' b → Z b) : (∀ x vs, Rep w Z x [] vs → Rep w Z' x [] vs) ∧ (∀ xs vs, RepL w Z xs [] vs → RepL w Z' xs [] vs) := by
  have hsome : ∀ {b : Nat} {o : Obj}, w.heap[b]? = some o → b < w.heap.size := fun h => (Array.getElem?_eq_some_iff.1 h).1
  refine PV.ind (M := fun x => ∀ vs, Rep w Z x [] vs → Rep w Z' x [] vs) (N := fun xs => ∀ vs, RepL w Z xs [] vs → RepL w Z' xs [] vs) ?_ ?_ ?_ ?_ ?_ ?_ ?_ ?_ ?_ ?_
  · rintro vs h; simp only [Rep] at h ⊢; exact h
  · rintro u vs h; simp only [Rep] at h ⊢; exact h
  · rintro o sz xs ih vs h; simp only [Rep] at h ⊢; obtain ⟨a, cap, ψ, ch, rfl, h0, hl, hw, hh⟩ := h
    rcases hh with ⟨rfl, h1, hc⟩ | ⟨b, off, cs, T, fr, rfl, hb, hch, hf, ht⟩
    · rw [RepL_nil] at hl
      exact ⟨a, cap, [], [], rfl, h0, RepL_nil.2 ⟨rfl, rfl⟩, hw, .inl ⟨rfl, trivial, hc⟩⟩
    · cases o with
      | false =>
        obtain ⟨hz, _, rfl⟩ := hf rfl
        exact ⟨_, cap, [], ch, rfl, h0, ih _ hl, hw, .inr ⟨b, off, cs, T, fr, rfl, hb, hch, fun _ => ⟨fun hz' => hz (hZ b (hsome hb) hz'), trivial, rfl⟩, fun h => by cases h⟩⟩
      | true => exact absurd (ht rfl).2.2.1 (by simp)
  · rintro o cs ih vs h; simp only [Rep] at h ⊢; obtain ⟨b, arr, T, fr, ψ, rfl, hb, hl, hw, hf, ht⟩ := h
    cases o with
    | false =>
      obtain ⟨hz, _, rfl⟩ := hf rfl
      exact ⟨b, arr, T, fr, [], rfl, hb, ih _ hl, hw, fun _ => ⟨fun hz' => hz (hZ b (hsome hb) hz'), trivial, rfl⟩, fun h => by cases h⟩
    | true => exact absurd (ht rfl).2.2 (by simp)
  · rintro o es vs h; simp only [Rep] at h ⊢; obtain ⟨b, ents, clk, rfl, hb, he, hfl, hf, ht⟩ := h
    cases o with
    | false =>
      obtain ⟨hz, _⟩ := hf rfl
      exact ⟨b, ents, clk, rfl, hb, he, hfl, fun _ => ⟨fun hz' => hz (hZ b (hsome hb) hz'), trivial⟩, fun h => by cases h⟩
    | true => exact absurd (ht rfl).2 (by simp)
  · rintro cs ih vs h; simp only [Rep] at h ⊢; exact ⟨ih _ h.1, h.2⟩
  · rintro xs _ vs h; simp only [Rep] at h
  · rintro f cs ih vs h; simp only [Rep] at h ⊢; obtain ⟨_, cv, rfl, hl, hw⟩ := h; exact ⟨trivial, cv, rfl, ih _ hl, hw⟩
  · rintro vs h; exact h
  · rintro x xs hx hxs vs h; rw [RepL_cons] at h ⊢; obtain ⟨φ₁, φ₂, v₁, v₂, e, rfl, h1, h2⟩ := h
    obtain ⟨rfl, rfl⟩ := List.append_eq_nil_iff.1 e.symm
    exact ⟨[], [], v₁, v₂, rfl, rfl, hx _ h1, hxs _ h2⟩

/-! ### One cell among many -/

def PV.setC (x : PV) (o : Nat) (y : PV) : PV :=
  match x with
  | .agg cs => .agg (cs.set o y)
  | _ => y
def setAt (xs : List PV) (i o : Nat) (y : PV) : List PV := xs.modify i (·.setC o y)

/-- What is not in the part that changes reads as before. -/
def Keeps (w w' : World) (Z Z' : Nat → Prop) (φ : List Nat) : Prop :=
  ∀ b, b < w.heap.size → (b ∈ φ ∨ ¬ Z b) → (Z b ↔ Z' b) ∧ w'.heap[b]? = w.heap[b]?
theorem Keeps.mono {w w' Z Z' φ φ'} (h : Keeps w w' Z Z' φ) (hs : ∀ b ∈ φ', b ∈ φ) : Keeps w w' Z Z' φ' :=
  fun b hb hc => h b hb (hc.imp (hs b) id)
theorem Keeps.rep {w w' Z Z' φ φ' x vs} (h : Keeps w w' Z Z' φ) (hs : ∀ b ∈ φ', b ∈ φ) (hr : Rep w Z x φ' vs) : Rep w' Z' x φ' vs :=
  Rep_frame.1 x φ' vs (h.mono hs) hr
theorem Keeps.repL {w w' Z Z' φ φ' x vs} (h : Keeps w w' Z Z' φ) (hs : ∀ b ∈ φ', b ∈ φ) (hr : RepL w Z x φ' vs) : RepL w' Z' x φ' vs :=
  Rep_frame.2 x φ' vs (h.mono hs) hr

theorem cell_split1 {w : World} {Z : Nat → Prop} : ∀ (cs : List PV) (φ : List Nat) (vs : List Value) (o : Nat) (y : PV), RepL w Z cs φ vs → (∀ c ∈ cs, c.cell1 = true) →
    cs[o]? = some y → ∃ φ₁ φy φ₂ v, φ = φ₁ ++ φy ++ φ₂ ∧ vs[o]? = some v ∧ Rep w Z y φy [v] ∧
      ∀ w' Z' y' φ' v', Keeps w w' Z Z' (φ₁ ++ φ₂) → Rep w' Z' y' φ' [v'] → RepL w' Z' (cs.set o y') (φ₁ ++ φ' ++ φ₂) (vs.set o v')
  | [], _, _, o, _, _, _, ho => by simp at ho
  | c :: cs, φ, vs, 0, y, h, hc, ho => by
    rw [RepL_cons] at h; obtain ⟨φ₁, φ₂, v₁, v₂, rfl, rfl, h1, h2⟩ := h
    obtain rfl : c = y := by simpa using ho
    have hl : v₁.length = 1 := by rw [h1.length, PV.cell1_width (hc c (by simp))]
    obtain ⟨v, rfl⟩ := List.length_eq_one_iff.1 hl
    refine ⟨[], φ₁, φ₂, v, by simp, by simp, h1, fun w' Z' y' φ' v' hk hr => ?_⟩
    rw [List.set_cons_zero, RepL_cons]
    exact ⟨φ', φ₂, [v'], v₂, by simp, by simp, hr, hk.repL (by simp) h2⟩
  | c :: cs, φ, vs, o + 1, y, h, hc, ho => by
    rw [RepL_cons] at h; obtain ⟨φ₁, φ₂, v₁, v₂, rfl, rfl, h1, h2⟩ := h
    have hl : v₁.length = 1 := by rw [h1.length, PV.cell1_width (hc c (by simp))]
    obtain ⟨v, rfl⟩ := List.length_eq_one_iff.1 hl
    obtain ⟨ψ₁, φy, ψ₂, u, rfl, hu, hy, hr⟩ := cell_split1 cs φ₂ v₂ o y h2 (fun c hm => hc c (by simp [hm])) (by simpa using ho)
    refine ⟨φ₁ ++ ψ₁, φy, ψ₂, u, by simp, by simpa using hu, hy, fun w' Z' y' φ' v' hk hr' => ?_⟩
    rw [List.set_cons_succ, RepL_cons]
    exact ⟨φ₁, ψ₁ ++ φ' ++ ψ₂, [v], v₂.set o v', by simp, by simp, hk.rep (by simp +contextual) h1, hr _ _ _ _ _ (hk.mono (by simp +contextual )) hr'⟩

theorem PV.cells_cell1 {w Z x φ vs} (h : Rep w Z x φ vs) : ∀ c ∈ x.cells, c.cell1 = true := by
  cases x with
  | agg cs => simp only [Rep] at h; exact h.2
  | tup xs => simp only [Rep] at h
  | _ => simp [PV.cells, PV.cell1]

theorem Rep.cellsL {w Z x φ vs} (h : Rep w Z x φ vs) : RepL w Z x.cells φ vs := by
  cases x with
  | agg cs => simp only [Rep] at h; exact h.1
  | _ => simp only [PV.cells, RepL_cons, RepL_nil]; exact ⟨φ, [], vs, [], by simp, by simp, h, rfl, rfl⟩

theorem cell_split {w : World} {Z : Nat → Prop} {sz : Nat} : ∀ (xs : List PV) (φ : List Nat) (ch : List Value) (i o : Nat) (x y : PV), RepL w Z xs φ ch → (∀ x ∈ xs, x.width = sz) →
    xs[i]? = some x → x.cells[o]? = some y → y.cell1 = true ∧ o < sz ∧ ∃ φ₁ φy φ₂ v, φ = φ₁ ++ φy ++ φ₂ ∧ ch[i * sz + o]? = some v ∧ Rep w Z y φy [v] ∧
      ∀ w' Z' y' φ' v', y'.cell1 = true → Keeps w w' Z Z' (φ₁ ++ φ₂) → Rep w' Z' y' φ' [v'] → RepL w' Z' (setAt xs i o y') (φ₁ ++ φ' ++ φ₂) (ch.set (i * sz + o) v') ∧ (∀ x ∈ setAt xs i o y', x.width = sz)
  | [], _, _, i, _, _, _, _, _, hi, _ => by simp at hi
  | c :: cs, φ, ch, 0, o, x, y, h, hw, hi, ho => by
    rw [RepL_cons] at h; obtain ⟨φ₁, φ₂, v₁, v₂, rfl, rfl, h1, h2⟩ := h
    obtain rfl : c = x := by simpa using hi
    have hcell := PV.cells_cell1 h1
    obtain ⟨ψ₁, φy, ψ₂, v, rfl, hv, hy, hr⟩ := cell_split1 c.cells φ₁ v₁ o y h1.cellsL hcell ho
    have hlt : o < v₁.length := by rw [List.getElem?_eq_some_iff] at hv; exact hv.1
    have hlen : v₁.length = sz := by rw [h1.length, hw c (by simp)]
    refine ⟨hcell y (List.mem_of_getElem? ho), by omega, ψ₁, φy, ψ₂ ++ φ₂, v, by simp, by simp; rw [List.getElem?_append_left hlt]; exact hv, hy, fun w' Z' y' φ' v' hy' hk hr' => ?_⟩
    have hs : setAt (c :: cs) 0 o y' = c.setC o y' :: cs := by simp [setAt]
    have key := hr w' Z' y' φ' v' (hk.mono (by simp +contextual [or_imp])) hr'
    have hlen2 : v₁.length = c.width := h1.length
    have hcc : Rep w' Z' (c.setC o y') (ψ₁ ++ φ' ++ ψ₂) (v₁.set o v') ∧ (c.setC o y').width = c.width := by
      cases c with
      | agg ds =>
        simp only [PV.setC, PV.cells, Rep, PV.width, List.length_set] at key ⊢
        refine ⟨⟨key, fun d hd => ?_⟩, trivial⟩
        rcases List.mem_or_eq_of_mem_set hd with hd | rfl
        · exact hcell d hd
        · exact hy'
      | tup ds => simp only [Rep] at h1
      | _ =>
        have ho0 : o = 0 := by
          have : o < 1 := by rw [List.getElem?_eq_some_iff] at ho; simpa [PV.cells] using ho.1
          omega
        subst ho0
        simp only [PV.setC, PV.cells, List.set_cons_zero, RepL_cons, RepL_nil] at key ⊢
        obtain ⟨α, β, u₁, u₂, h1', h2', h3', rfl, rfl⟩ := key
        simp only [List.append_nil] at h1' h2'
        rw [h1', h2']
        exact ⟨h3', by rw [PV.cell1_width hy']; rfl⟩
    rw [hs]
    refine ⟨?_, ?_⟩
    · rw [RepL_cons]
      refine ⟨ψ₁ ++ φ' ++ ψ₂, φ₂, v₁.set o v', v₂, by simp, ?_, hcc.1, hk.repL (by simp +contextual) h2⟩
      simp only [Nat.zero_mul, Nat.zero_add]
      rw [List.set_append_left _ _ hlt]
    · intro z hz
      rcases List.mem_cons.1 hz with rfl | hz
      · rw [hcc.2]; exact hw c (by simp)
      · exact hw z (by simp [hz])
  | c :: cs, φ, ch, i + 1, o, x, y, h, hw, hi, ho => by
    rw [RepL_cons] at h; obtain ⟨φ₁, φ₂, v₁, v₂, rfl, rfl, h1, h2⟩ := h
    have hlen : v₁.length = sz := by rw [h1.length, hw c (by simp)]
    obtain ⟨hcell, hosz, ψ₁, φy, ψ₂, v, rfl, hv, hy, hr⟩ := cell_split cs φ₂ v₂ i o x y h2 (fun c hm => hw c (by simp [hm])) (by simpa using hi) ho
    have hidx : (i + 1) * sz + o = v₁.length + (i * sz + o) := by rw [hlen, Nat.add_mul]; omega
    refine ⟨hcell, hosz, φ₁ ++ ψ₁, φy, ψ₂, v, by simp, ?_, hy, fun w' Z' y' φ' v' hy' hk hr' => ?_⟩
    · rw [hidx, List.getElem?_append_right (by omega)]; simpa using hv
    · have hs : setAt (c :: cs) (i + 1) o y' = c :: setAt cs i o y' := by simp [setAt]
      obtain ⟨k1, k2⟩ := hr w' Z' y' φ' v' hy' (hk.mono (by simp +contextual [or_imp])) hr'
      rw [hs]
      refine ⟨?_, ?_⟩
      · rw [RepL_cons]
        refine ⟨φ₁, ψ₁ ++ φ' ++ ψ₂, v₁, v₂.set (i * sz + o) v', by simp, ?_, hk.rep (by simp +contextual) h1, k1⟩
        rw [hidx, List.set_append_right _ _ (by omega)]; simp
      · intro z hz
        rcases List.mem_cons.1 hz with rfl | hz
        · exact hw z (by simp)
        · exact k2 z hz
end Go.V
