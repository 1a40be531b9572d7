/- Values without memory (PV), and what it means that a value of the model reads so in a world. -/
import Derived.Orders
import Derived.Below
import Derived.Deep.Draws
import Derived.Laws.IdiomCopy
import Derived.Laws.Entries
namespace Go.V
set_option linter.unusedVariables false

inductive PV where
  | dead
  | prim (v : Value)
  | sl (o : Bool) (sz : Nat) (xs : List PV)
  | ptr (o : Bool) (cs : List PV)
  | map (o : Bool) (es : List (Value × Value))
  | agg (cs : List PV)
  | tup (xs : List PV)
  | fn (f : FuncId) (caps : List PV)
  deriving Inhabited

/-- one cell, no memory behind it -/
def flat : Value → Bool
  | .bool _ | .int _ _ | .float _ _ | .string _ | .pointer none | .map none | .nilFunc | .nilIface => true
  | .iface _ (.int _ _) => true
  | _ => false
/-- what one cell can hold -/
def one : Value → Bool
  | .agg _ | .tuple _ => false
  | _ => true
/-- no memory behind it: one cell, or some -/
def flatV : Value → Bool
  | .agg vs => vs.toList.all flat
  | v => flat v

def PV.width : PV → Nat
  | .agg cs => cs.length
  | _ => 1
def PV.cells : PV → List PV
  | .agg cs => cs
  | x => [x]
/-- what a cell holds -/
def PV.cell1 : PV → Bool
  | .agg _ | .tup _ => false
  | _ => true
theorem PV.cell1_cells {x : PV} (h : x.cell1 = true) : x.cells = [x] := by cases x <;> simp_all [PV.cell1, PV.cells]
theorem PV.cell1_width {x : PV} (h : x.cell1 = true) : x.width = 1 := by cases x <;> simp_all [PV.cell1, PV.width]

mutual
def Rep (w : World) (Z : Nat → Prop) : PV → List Nat → List Value → Prop
  | .dead, φ, vs => φ = [] ∧ ∃ v, vs = [v] ∧ one v = true
  | .prim v, φ, vs => φ = [] ∧ vs = [v] ∧ flat v = true
  | .sl o sz xs, φ, vs => ∃ a cap ψ ch, vs = [.slice a xs.length cap] ∧ (0 < sz ∧ xs.length ≤ cap) ∧ RepL w Z xs ψ ch ∧ (∀ x ∈ xs, x.width = sz) ∧
      ((xs = [] ∧ φ = [] ∧ (o = true → cap = 0)) ∨
       (∃ b off cs T fr, a = some ⟨b, off, none⟩ ∧ w.heap[b]? = some (.cells cs T fr) ∧ (∀ i v, ch[i]? = some v → cs[off + i]? = some v) ∧
         (o = false → ¬ Z b ∧ φ = [] ∧ ψ = []) ∧
         (o = true → Z b ∧ fr = (0, 0) ∧ φ = b :: ψ ∧ off + cap * sz ≤ cs.size ∧ xs.length ≤ cap)))
  | .ptr o cs, φ, vs => ∃ b arr T fr ψ, vs = [.pointer (some ⟨b, 0, none⟩)] ∧ w.heap[b]? = some (.cells arr T fr) ∧ RepL w Z cs ψ arr.toList ∧
      (∀ c ∈ cs, c.cell1 = true) ∧ (o = false → ¬ Z b ∧ φ = [] ∧ ψ = []) ∧ (o = true → Z b ∧ fr = (0, 0) ∧ φ = b :: ψ)
  | .map o es, φ, vs => ∃ b ents clk, vs = [.map (some b)] ∧ w.heap[b]? = some (.map ents clk) ∧
      ents.toList.map (fun e => (e.key, e.val)) = es ∧ (∀ e ∈ es, flatV e.1 = true ∧ flatV e.2 = true) ∧
      (o = false → ¬ Z b ∧ φ = []) ∧ (o = true → Z b ∧ φ = [b])
  | .agg cs, φ, vs => RepL w Z cs φ vs ∧ (∀ c ∈ cs, c.cell1 = true)
  | .tup _, _, _ => False
  | .fn f caps, φ, vs => φ = [] ∧ ∃ cv, vs = [.func (.func f) #[] cv.toArray] ∧ RepL w Z caps [] cv ∧ (∀ c ∈ caps, c.cell1 = true)
def RepL (w : World) (Z : Nat → Prop) : List PV → List Nat → List Value → Prop
  | [], φ, vs => φ = [] ∧ vs = []
  | x :: xs, φ, vs => ∃ φ₁ φ₂ v₁ v₂, φ = φ₁ ++ φ₂ ∧ vs = v₁ ++ v₂ ∧ Rep w Z x φ₁ v₁ ∧ RepL w Z xs φ₂ v₂
end

/-- a value in a slot: a struct or an array as one value, a tuple; all others by their cell -/
def RepV1 (w : World) (Z : Nat → Prop) : PV → List Nat → Value → Prop
  | .agg cs, φ, v => ∃ vs, v = .agg vs.toArray ∧ Rep w Z (.agg cs) φ vs
  | x, φ, v => Rep w Z x φ [v]
def RepTs (w : World) (Z : Nat → Prop) : List PV → List Nat → List Value → Prop
  | [], φ, vs => φ = [] ∧ vs = []
  | x :: xs, φ, vs => ∃ φ₁ φ₂ v vs', φ = φ₁ ++ φ₂ ∧ vs = v :: vs' ∧ RepV1 w Z x φ₁ v ∧ RepTs w Z xs φ₂ vs'
def RepV (w : World) (Z : Nat → Prop) : PV → List Nat → Value → Prop
  | .tup xs, φ, v => ∃ vs, v = .tuple vs.toArray ∧ RepTs w Z xs φ vs
  | x, φ, v => RepV1 w Z x φ v

theorem RepL_nil {w Z φ vs} : RepL w Z [] φ vs ↔ φ = [] ∧ vs = [] := by simp [RepL]
theorem RepL_cons {w Z x xs φ vs} : RepL w Z (x :: xs) φ vs ↔ ∃ φ₁ φ₂ v₁ v₂, φ = φ₁ ++ φ₂ ∧ vs = v₁ ++ v₂ ∧ Rep w Z x φ₁ v₁ ∧ RepL w Z xs φ₂ v₂ := by
  simp [RepL]

/-- Induction over a PV with its lists. -/
theorem PV.ind {M : PV → Prop} {N : List PV → Prop} (hd : M .dead) (hp : ∀ v, M (.prim v)) (hs : ∀ o sz xs, N xs → M (.sl o sz xs))
    (hq : ∀ o cs, N cs → M (.ptr o cs)) (hm : ∀ o es, M (.map o es)) (ha : ∀ cs, N cs → M (.agg cs)) (ht : ∀ xs, N xs → M (.tup xs))
    (hf : ∀ f cs, N cs → M (.fn f cs)) (hn : N []) (hc : ∀ x xs, M x → N xs → N (x :: xs)) : (∀ x, M x) ∧ (∀ xs, N xs) := by
  have key : ∀ x, M x := fun x => PV.rec (motive_1 := M) (motive_2 := N) hd hp (fun o sz xs h => hs o sz xs h) (fun o cs h => hq o cs h)
    (fun o es => hm o es) (fun cs h => ha cs h) (fun xs h => ht xs h) (fun f cs h => hf f cs h) hn (fun x xs h1 h2 => hc x xs h1 h2) x
  refine ⟨key, fun xs => ?_⟩
  induction xs with
  | nil => exact hn
  | cons x xs ih => exact hc x xs (key x) ih

theorem Rep_len {w : World} {Z : Nat → Prop} : (∀ x φ vs, Rep w Z x φ vs → vs.length = x.width) ∧
    (∀ xs φ vs, RepL w Z xs φ vs → vs.length = (xs.map PV.width).sum) := by
  refine PV.ind (M := fun x => ∀ φ vs, Rep w Z x φ vs → vs.length = x.width) (N := fun xs => ∀ φ vs, RepL w Z xs φ vs → vs.length = (xs.map PV.width).sum)
    ?_ ?_ ?_ ?_ ?_ ?_ ?_ ?_ ?_ ?_
  · rintro φ vs h; simp only [Rep] at h; obtain ⟨_, v, rfl, _⟩ := h; rfl
  · rintro u φ vs h; simp only [Rep] at h; obtain ⟨_, rfl, _⟩ := h; rfl
  · rintro o sz xs _ φ vs h; simp only [Rep] at h; obtain ⟨a, cap, ψ, ch, rfl, _⟩ := h; rfl
  · rintro o cs _ φ vs h; simp only [Rep] at h; obtain ⟨a, cap, ψ, ch, _, rfl, _⟩ := h; rfl
  · rintro o cs φ vs h; simp only [Rep] at h; obtain ⟨a, cap, ψ, rfl, _⟩ := h; rfl
  · rintro cs ih φ vs h; simp only [Rep] at h
    have := ih _ _ h.1
    rw [this]; simp only [PV.width]
    have h2 : ∀ l : List PV, (∀ c ∈ l, c.cell1 = true) → (l.map PV.width).sum = l.length := by
      intro l hl
      induction l with
      | nil => rfl
      | cons c l ih2 => simp only [List.map_cons, List.sum_cons, List.length_cons]; rw [PV.cell1_width (hl c (by simp)), ih2 (fun c hc => hl c (by simp [hc]))]; omega
    exact h2 _ h.2
  · rintro xs _ φ vs h; simp only [Rep] at h
  · rintro f cs _ φ vs h; simp only [Rep] at h; obtain ⟨_, cv, rfl, _⟩ := h; rfl
  · rintro φ vs h; rw [RepL_nil] at h; rw [h.2]; rfl
  · rintro x xs hx hxs φ vs h; rw [RepL_cons] at h; obtain ⟨φ₁, φ₂, v₁, v₂, rfl, rfl, h1, h2⟩ := h
    simp only [List.length_append, List.map_cons, List.sum_cons]; rw [hx _ _ h1, hxs _ _ h2]

theorem Rep.length {w Z x φ vs} (h : Rep w Z x φ vs) : vs.length = x.width := Rep_len.1 _ _ _ h

/-- The blocks that are owned lie in the heap, and are among Z. -/
theorem Rep_lt {w : World} {Z : Nat → Prop} : (∀ x φ vs, Rep w Z x φ vs → ∀ b ∈ φ, b < w.heap.size ∧ Z b) ∧
    (∀ xs φ vs, RepL w Z xs φ vs → ∀ b ∈ φ, b < w.heap.size ∧ Z b) := by
  have hsome : ∀ {b : Nat} {o : Obj}, w.heap[b]? = some o → b < w.heap.size := fun h => (Array.getElem?_eq_some_iff.1 h).1
  refine PV.ind (M := fun x => ∀ φ vs, Rep w Z x φ vs → ∀ b ∈ φ, b < w.heap.size ∧ Z b) (N := fun xs => ∀ φ vs, RepL w Z xs φ vs → ∀ b ∈ φ, b < w.heap.size ∧ Z b)
    ?_ ?_ ?_ ?_ ?_ ?_ ?_ ?_ ?_ ?_
  · rintro φ vs h; simp only [Rep] at h; obtain ⟨rfl, _⟩ := h; simp
  · rintro u φ vs h; simp only [Rep] at h; obtain ⟨rfl, _⟩ := h; simp
  · rintro o sz xs ih φ vs h; simp only [Rep] at h; obtain ⟨a, cap, ψ, ch, rfl, _, hl, _, hh⟩ := h
    rcases hh with ⟨_, rfl, _⟩ | ⟨b, off, cs, T, fr, rfl, hb, _, hf, ht⟩
    · simp
    · cases o with
      | false => obtain ⟨_, rfl, _⟩ := hf rfl; simp
      | true =>
        obtain ⟨hz, _, rfl, _⟩ := ht rfl
        intro c hc
        rcases List.mem_cons.1 hc with rfl | hc
        · exact ⟨hsome hb, hz⟩
        · exact ih _ _ hl c hc
  · rintro o cs ih φ vs h; simp only [Rep] at h; obtain ⟨b, arr, T, fr, ψ, rfl, hb, hl, _, hf, ht⟩ := h
    cases o with
    | false => obtain ⟨_, rfl, _⟩ := hf rfl; simp
    | true =>
      obtain ⟨hz, _, rfl⟩ := ht rfl
      intro c hc
      rcases List.mem_cons.1 hc with rfl | hc
      · exact ⟨hsome hb, hz⟩
      · exact ih _ _ hl c hc
  · rintro o es φ vs h; simp only [Rep] at h; obtain ⟨b, ents, clk, rfl, hb, _, _, hf, ht⟩ := h
    cases o with
    | false => obtain ⟨_, rfl⟩ := hf rfl; simp
    | true =>
      obtain ⟨hz, rfl⟩ := ht rfl
      intro c hc
      obtain rfl := List.mem_singleton.1 hc
      exact ⟨hsome hb, hz⟩
  · rintro cs ih φ vs h; simp only [Rep] at h; exact ih _ _ h.1
  · rintro xs _ φ vs h; simp only [Rep] at h
  · rintro f cs _ φ vs h; simp only [Rep] at h; obtain ⟨rfl, _⟩ := h; simp
  · rintro φ vs h; rw [RepL_nil] at h; rw [h.1]; simp
  · rintro x xs hx hxs φ vs h; rw [RepL_cons] at h; obtain ⟨φ₁, φ₂, v₁, v₂, rfl, rfl, h1, h2⟩ := h
    intro b hb
    rcases List.mem_append.1 hb with hb | hb
    · exact hx _ _ h1 b hb
    · exact hxs _ _ h2 b hb

/-- What a value reads as hangs on its own blocks and on those that nobody owns. -/
theorem Rep_frame {w w' : World} {Z Z' : Nat → Prop} :
    (∀ x φ vs, (∀ b, b < w.heap.size → (b ∈ φ ∨ ¬ Z b) → (Z b ↔ Z' b) ∧ w'.heap[b]? = w.heap[b]?) → Rep w Z x φ vs → Rep w' Z' x φ vs) ∧
    (∀ xs φ vs, (∀ b, b < w.heap.size → (b ∈ φ ∨ ¬ Z b) → (Z b ↔ Z' b) ∧ w'.heap[b]? = w.heap[b]?) → RepL w Z xs φ vs → RepL w' Z' xs φ vs) := by
  have hsome : ∀ {b : Nat} {o : Obj}, w.heap[b]? = some o → b < w.heap.size := fun h => (Array.getElem?_eq_some_iff.1 h).1
  refine PV.ind (M := fun x => ∀ φ vs, (∀ b, b < w.heap.size → (b ∈ φ ∨ ¬ Z b) → (Z b ↔ Z' b) ∧ w'.heap[b]? = w.heap[b]?) → Rep w Z x φ vs → Rep w' Z' x φ vs)
    (N := fun xs => ∀ φ vs, (∀ b, b < w.heap.size → (b ∈ φ ∨ ¬ Z b) → (Z b ↔ Z' b) ∧ w'.heap[b]? = w.heap[b]?) → RepL w Z xs φ vs → RepL w' Z' xs φ vs) ?_ ?_ ?_ ?_ ?_ ?_ ?_ ?_ ?_ ?_
  · rintro φ vs _ h; simp only [Rep] at h ⊢; exact h
  · rintro u φ vs _ h; simp only [Rep] at h ⊢; exact h
  · rintro o sz xs ih φ vs hm h; simp only [Rep] at h ⊢; obtain ⟨a, cap, ψ, ch, rfl, h0, hl, hw, hh⟩ := h
    have hsub : ∀ b, b ∈ ψ → b ∈ φ := by
      rcases hh with ⟨rfl, rfl, _⟩ | ⟨b, off, cs, T, fr, rfl, hb, _, hf, ht⟩
      · rw [RepL_nil] at hl; rw [hl.1]; simp
      · cases o with
        | false => rw [(hf rfl).2.2]; simp
        | true => intro c hc; rw [(ht rfl).2.2.1]; simp [hc]
    refine ⟨a, cap, ψ, ch, rfl, h0, ih _ _ (fun b hb hc => hm b hb (hc.imp (hsub b) id)) hl, hw, ?_⟩
    rcases hh with hh | ⟨b, off, cs, T, fr, rfl, hb, hch, hf, ht⟩
    · exact .inl hh
    · refine .inr ⟨b, off, cs, T, fr, rfl, ?_, hch, fun ho => ?_, fun ho => ?_⟩
      · rw [(hm b (hsome hb) (by cases o with | false => exact .inr (hf rfl).1 | true => rw [(ht rfl).2.2.1]; simp)).2]; exact hb
      · obtain ⟨h1, h2⟩ := hf ho; exact ⟨fun hz => h1 ((hm b (hsome hb) (.inr h1)).1.2 hz), h2⟩
      · obtain ⟨h1, h2⟩ := ht ho; exact ⟨(hm b (hsome hb) (.inl (by rw [h2.2.1]; simp))).1.1 h1, h2⟩
  · rintro o cs ih φ vs hm h; simp only [Rep] at h ⊢; obtain ⟨b, arr, T, fr, ψ, rfl, hb, hl, hw, hf, ht⟩ := h
    have hsub : ∀ c, c ∈ ψ → c ∈ φ := by
      cases o with
      | false => rw [(hf rfl).2.2]; simp
      | true => intro c hc; rw [(ht rfl).2.2]; simp [hc]
    refine ⟨b, arr, T, fr, ψ, rfl, ?_, ih _ _ (fun b hb hc => hm b hb (hc.imp (hsub b) id)) hl, hw, fun ho => ?_, fun ho => ?_⟩
    · rw [(hm b (hsome hb) (by cases o with | false => exact .inr (hf rfl).1 | true => rw [(ht rfl).2.2]; simp)).2]; exact hb
    · obtain ⟨h1, h2⟩ := hf ho; exact ⟨fun hz => h1 ((hm b (hsome hb) (.inr h1)).1.2 hz), h2⟩
    · obtain ⟨h1, h2⟩ := ht ho; exact ⟨(hm b (hsome hb) (.inl (by rw [h2.2]; simp))).1.1 h1, h2⟩
  · rintro o es φ vs hm h; simp only [Rep] at h ⊢; obtain ⟨b, ents, clk, rfl, hb, he, hfl, hf, ht⟩ := h
    refine ⟨b, ents, clk, rfl, ?_, he, hfl, fun ho => ?_, fun ho => ?_⟩
    · rw [(hm b (hsome hb) (by cases o with | false => exact .inr (hf rfl).1 | true => rw [(ht rfl).2]; simp)).2]; exact hb
    · obtain ⟨h1, h2⟩ := hf ho; exact ⟨fun hz => h1 ((hm b (hsome hb) (.inr h1)).1.2 hz), h2⟩
    · obtain ⟨h1, h2⟩ := ht ho; exact ⟨(hm b (hsome hb) (.inl (by rw [h2]; simp))).1.1 h1, h2⟩
  · rintro cs ih φ vs hm h; simp only [Rep] at h ⊢; exact ⟨ih _ _ hm h.1, h.2⟩
  · rintro xs _ φ vs _ h; simp only [Rep] at h
  · rintro f cs ih φ vs hm h; simp only [Rep] at h ⊢; obtain ⟨rfl, cv, rfl, hl, hw⟩ := h
    exact ⟨rfl, cv, rfl, ih _ _ hm hl, hw⟩
  · rintro φ vs _ h; rw [RepL_nil] at h ⊢; exact h
  · rintro x xs hx hxs φ vs hm h; rw [RepL_cons] at h ⊢; obtain ⟨φ₁, φ₂, v₁, v₂, rfl, rfl, h1, h2⟩ := h
    exact ⟨φ₁, φ₂, v₁, v₂, rfl, rfl, hx _ _ (fun b hb hc => hm b hb (hc.imp (fun h => List.mem_append.2 (.inl h)) id)) h1,
      hxs _ _ (fun b hb hc => hm b hb (hc.imp (fun h => List.mem_append.2 (.inr h)) id)) h2⟩

theorem Rep_oneCell {w Z x φ u} (h : Rep w Z x φ [u]) (hc : x.cell1 = true) : one u = true := by
  cases x with
  | dead => simp only [Rep] at h; obtain ⟨_, v, e, hv⟩ := h; obtain rfl : u = v := by simpa using e
            exact hv
  | prim v => simp only [Rep] at h; obtain ⟨_, e, hv⟩ := h; obtain rfl : u = v := by simpa using e
              cases u <;> first | rfl | simp [flat] at hv
  | sl o sz xs => simp only [Rep] at h; obtain ⟨a, cap, ψ, ch, e, _⟩ := h; obtain rfl : u = _ := by simpa using e
                  rfl
  | ptr o cs => simp only [Rep] at h; obtain ⟨b, arr, T, fr, ψ, e, _⟩ := h; obtain rfl : u = _ := by simpa using e
                rfl
  | map o es => simp only [Rep] at h; obtain ⟨b, ents, clk, e, _⟩ := h; obtain rfl : u = _ := by simpa using e
                rfl
  | fn f cs => simp only [Rep] at h; obtain ⟨_, cv, e, _⟩ := h; obtain rfl : u = _ := by simpa using e
               rfl
  | _ => simp [PV.cell1] at hc
end Go.V
/- Frozen values; the cells of a value, read and replaced. -/
namespace Go.V
set_option linter.unusedVariables false
set_option linter.unusedSimpArgs false

mutual
def PV.frz : PV → PV
  | .sl _ sz xs => .sl false sz (frzL xs)
  | .ptr _ cs => .ptr false (frzL cs)
  | .map _ es => .map false es
  | .agg cs => .agg (frzL cs)
  | .tup xs => .tup (frzL xs)
  | .fn f caps => .fn f (frzL caps)
  | .dead => .dead
  | .prim v => .prim v
def frzL : List PV → List PV
  | [] => []
  | x :: xs => x.frz :: frzL xs
end
mutual
/-- nothing in it is owned -/
def PV.noOwn : PV → Bool
  | .sl o _ xs => !o && noOwnL xs
  | .ptr o cs => !o && noOwnL cs
  | .map o _ => !o
  | .agg cs => noOwnL cs
  | .tup xs => noOwnL xs
  | .fn _ caps => noOwnL caps
  | .dead => true
  | .prim _ => true
def noOwnL : List PV → Bool
  | [] => true
  | x :: xs => x.noOwn && noOwnL xs
end
mutual
/-- whatever it points to is owned -/
def PV.allOwn : PV → Bool
  | .sl o _ xs => o && allOwnL xs
  | .ptr o cs => o && allOwnL cs
  | .map o _ => o
  | .agg cs => allOwnL cs
  | .tup xs => allOwnL xs
  | .fn _ caps => allOwnL caps
  | .dead => true
  | .prim _ => true
def allOwnL : List PV → Bool
  | [] => true
  | x :: xs => x.allOwn && allOwnL xs
end
@[simp] theorem PV.frz_sl {o sz xs} : (PV.sl o sz xs).frz = .sl false sz (frzL xs) := by simp [PV.frz]
@[simp] theorem PV.frz_ptr {o cs} : (PV.ptr o cs).frz = .ptr false (frzL cs) := by simp [PV.frz]
@[simp] theorem PV.frz_map {o es} : (PV.map o es).frz = .map false es := by simp [PV.frz]
@[simp] theorem PV.frz_agg {cs} : (PV.agg cs).frz = .agg (frzL cs) := by simp [PV.frz]
@[simp] theorem PV.frz_tup {cs} : (PV.tup cs).frz = .tup (frzL cs) := by simp [PV.frz]
@[simp] theorem PV.frz_fn {f cs} : (PV.fn f cs).frz = .fn f (frzL cs) := by simp [PV.frz]
@[simp] theorem PV.frz_dead : (PV.dead).frz = .dead := by simp [PV.frz]
@[simp] theorem PV.frz_prim {v} : (PV.prim v).frz = .prim v := by simp [PV.frz]
@[simp] theorem frzL_nil : frzL [] = [] := by simp [frzL]
@[simp] theorem frzL_cons {x xs} : frzL (x :: xs) = x.frz :: frzL xs := by simp [frzL]
theorem frzL_eq_map (xs : List PV) : frzL xs = xs.map PV.frz := by induction xs with | nil => simp | cons x xs ih => simp [ih]
@[simp] theorem frzL_length (xs : List PV) : (frzL xs).length = xs.length := by rw [frzL_eq_map, List.length_map]
@[simp] theorem PV.frz_width (x : PV) : x.frz.width = x.width := by cases x <;> simp [PV.width]
@[simp] theorem PV.frz_cell1 (x : PV) : x.frz.cell1 = x.cell1 := by cases x <;> simp [PV.cell1]
theorem PV.frz_cells (x : PV) : x.frz.cells = frzL x.cells := by cases x <;> simp [PV.cells]

theorem noOwn_frz : (∀ x : PV, x.frz.noOwn = true) ∧ (∀ xs, noOwnL (frzL xs) = true) := by
  refine PV.ind ?_ ?_ ?_ ?_ ?_ ?_ ?_ ?_ ?_ ?_ <;> intros <;> simp_all [PV.noOwn, noOwnL]

theorem frz_noOwn : (∀ x : PV, x.noOwn = true → x.frz = x) ∧ (∀ xs, noOwnL xs = true → frzL xs = xs) := by
  refine PV.ind ?_ ?_ ?_ ?_ ?_ ?_ ?_ ?_ ?_ ?_ <;> intros <;> simp_all [PV.noOwn, noOwnL]

/-- What owns nothing owns no block. -/
theorem Rep_noOwn {w : World} {Z : Nat → Prop} : (∀ x φ vs, PV.noOwn x = true → Rep w Z x φ vs → φ = []) ∧
    (∀ xs φ vs, noOwnL xs = true → RepL w Z xs φ vs → φ = []) := by
  refine PV.ind (M := fun x => ∀ φ vs, PV.noOwn x = true → Rep w Z x φ vs → φ = []) (N := fun xs => ∀ φ vs, noOwnL xs = true → RepL w Z xs φ vs → φ = [])
    ?_ ?_ ?_ ?_ ?_ ?_ ?_ ?_ ?_ ?_
  · rintro φ vs _ h; simp only [Rep] at h; exact h.1
  · rintro u φ vs _ h; simp only [Rep] at h; exact h.1
  · rintro o sz xs ih φ vs ho h; simp only [Rep] at h; obtain ⟨a, cap, ψ, ch, rfl, _, hl, _, hh⟩ := h
    simp only [PV.noOwn, Bool.and_eq_true, Bool.not_eq_true'] at ho
    rcases hh with ⟨_, h, _⟩ | ⟨b, off, cs, T, fr, rfl, hb, _, hf, ht⟩
    · exact h
    · exact (hf ho.1).2.1
  · rintro o cs ih φ vs ho h; simp only [Rep] at h; obtain ⟨b, arr, T, fr, ψ, rfl, hb, hl, _, hf, ht⟩ := h
    simp only [PV.noOwn, Bool.and_eq_true, Bool.not_eq_true'] at ho
    exact (hf ho.1).2.1
  · rintro o es φ vs ho h; simp only [Rep] at h; obtain ⟨b, ents, clk, rfl, hb, _, _, hf, ht⟩ := h
    simp only [PV.noOwn, Bool.not_eq_true'] at ho
    exact (hf ho).2
  · rintro cs ih φ vs ho h; simp only [Rep] at h; simp only [PV.noOwn] at ho; exact ih _ _ ho h.1
  · rintro xs _ φ vs _ h; simp only [Rep] at h
  · rintro f cs _ φ vs _ h; simp only [Rep] at h; exact h.1
  · rintro φ vs _ h; rw [RepL_nil] at h; exact h.1
  · rintro x xs hx hxs φ vs ho h; rw [RepL_cons] at h; obtain ⟨φ₁, φ₂, v₁, v₂, rfl, rfl, h1, h2⟩ := h
    simp only [noOwnL, Bool.and_eq_true] at ho
    rw [hx _ _ ho.1 h1, hxs _ _ ho.2 h2]; rfl

/-- Frozen: what was owned is nobody's. -/
theorem Rep_frz {w : World} {Z Z' : Nat → Prop} (hZ : ∀ b, b < w.heap.size → Z' b → Z b) : (∀ x φ vs, (∀ b ∈ φ, ¬ Z' b) → Rep w Z x φ vs → Rep w Z' x.frz [] vs) ∧
    (∀ xs φ vs, (∀ b ∈ φ, ¬ Z' b) → RepL w Z xs φ vs → RepL w Z' (frzL xs) [] vs) := by
  have hsome : ∀ {b : Nat} {o : Obj}, w.heap[b]? = some o → b < w.heap.size := fun h => (Array.getElem?_eq_some_iff.1 h).1
  refine PV.ind (M := fun x => ∀ φ vs, (∀ b ∈ φ, ¬ Z' b) → Rep w Z x φ vs → Rep w Z' x.frz [] vs)
    (N := fun xs => ∀ φ vs, (∀ b ∈ φ, ¬ Z' b) → RepL w Z xs φ vs → RepL w Z' (frzL xs) [] vs) ?_ ?_ ?_ ?_ ?_ ?_ ?_ ?_ ?_ ?_
  · rintro φ vs _ h; simp only [PV.frz_dead, Rep] at h ⊢; exact ⟨trivial, h.2⟩
  · rintro u φ vs _ h; simp only [PV.frz_prim, Rep] at h ⊢; exact ⟨trivial, h.2⟩
  · rintro o sz xs ih φ vs hn h; simp only [PV.frz_sl, Rep] at h ⊢; obtain ⟨a, cap, ψ, ch, rfl, h0, hl, hw, hh⟩ := h
    have hsub : ∀ b, b ∈ ψ → b ∈ φ := by
      rcases hh with ⟨rfl, rfl, _⟩ | ⟨b, off, cs, T, fr, rfl, hb, _, hf, ht⟩
      · rw [RepL_nil] at hl; rw [hl.1]; simp
      · cases o with
        | false => rw [(hf rfl).2.2]; simp
        | true => intro c hc; rw [(ht rfl).2.2.1]; simp [hc]
    refine ⟨a, cap, [], ch, by simp, ⟨h0.1, by simpa using h0.2⟩, ih _ _ (fun b hb => hn b (hsub b hb)) hl, ?_, ?_⟩
    · intro x hx; rw [frzL_eq_map] at hx; obtain ⟨y, hy, rfl⟩ := List.mem_map.1 hx; rw [PV.frz_width]; exact hw y hy
    · rcases hh with ⟨rfl, rfl, _⟩ | ⟨b, off, cs, T, fr, rfl, hb, hch, hf, ht⟩
      · exact .inl ⟨by simp, trivial, fun h => by cases h⟩
      · refine .inr ⟨b, off, cs, T, fr, rfl, hb, hch, fun _ => ⟨?_, trivial, rfl⟩, fun h => by cases h⟩
        cases o with
        | false => exact fun hz => (hf rfl).1 (hZ b (hsome hb) hz)
        | true => exact hn b (by rw [(ht rfl).2.2.1]; simp)
  · rintro o cs ih φ vs hn h; simp only [PV.frz_ptr, Rep] at h ⊢; obtain ⟨b, arr, T, fr, ψ, rfl, hb, hl, hw, hf, ht⟩ := h
    have hsub : ∀ c, c ∈ ψ → c ∈ φ := by
      cases o with
      | false => rw [(hf rfl).2.2]; simp
      | true => intro c hc; rw [(ht rfl).2.2]; simp [hc]
    refine ⟨b, arr, T, fr, [], rfl, hb, ih _ _ (fun b hb => hn b (hsub b hb)) hl, ?_, fun _ => ⟨?_, trivial, rfl⟩, fun h => by cases h⟩
    · intro x hx; rw [frzL_eq_map] at hx; obtain ⟨y, hy, rfl⟩ := List.mem_map.1 hx; rw [PV.frz_cell1]; exact hw y hy
    · cases o with
      | false => exact fun hz => (hf rfl).1 (hZ b (hsome hb) hz)
      | true => exact hn b (by rw [(ht rfl).2.2]; simp)
  · rintro o es φ vs hn h; simp only [PV.frz_map, Rep] at h ⊢; obtain ⟨b, ents, clk, rfl, hb, he, hfl, hf, ht⟩ := h
    refine ⟨b, ents, clk, rfl, hb, he, hfl, fun _ => ⟨?_, trivial⟩, fun h => by cases h⟩
    cases o with
    | false => exact fun hz => (hf rfl).1 (hZ b (hsome hb) hz)
    | true => exact hn b (by rw [(ht rfl).2]; simp)
  · rintro cs ih φ vs hn h; simp only [PV.frz_agg, Rep] at h ⊢; refine ⟨ih _ _ hn h.1, ?_⟩
    intro x hx; rw [frzL_eq_map] at hx; obtain ⟨y, hy, rfl⟩ := List.mem_map.1 hx; rw [PV.frz_cell1]; exact h.2 y hy
  · rintro xs _ φ vs _ h; simp only [Rep] at h
  · rintro f cs ih φ vs hn h; simp only [PV.frz_fn, Rep] at h ⊢; obtain ⟨rfl, cv, rfl, hl, hw⟩ := h
    refine ⟨trivial, cv, rfl, ih _ _ (by simp) hl, ?_⟩
    intro x hx; rw [frzL_eq_map] at hx; obtain ⟨y, hy, rfl⟩ := List.mem_map.1 hx; rw [PV.frz_cell1]; exact hw y hy
  · rintro φ vs _ h; rw [frzL_nil, RepL_nil]; rw [RepL_nil] at h; exact ⟨rfl, h.2⟩
  · rintro x xs hx hxs φ vs hn h; rw [RepL_cons] at h; rw [frzL_cons, RepL_cons]; obtain ⟨φ₁, φ₂, v₁, v₂, rfl, rfl, h1, h2⟩ := h
    exact ⟨[], [], v₁, v₂, rfl, rfl, hx _ _ (fun b hb => hn b (List.mem_append.2 (.inl hb))) h1, hxs _ _ (fun b hb => hn b (List.mem_append.2 (.inr hb))) h2⟩

/-- Of what is owned throughout nothing hangs on what others own. -/
theorem Rep_allOwn {w : World} {Z Z' : Nat → Prop} : (∀ x φ vs, PV.allOwn x = true → (∀ b ∈ φ, Z' b) → Rep w Z x φ vs → Rep w Z' x φ vs) ∧
    (∀ xs φ vs, allOwnL xs = true → (∀ b ∈ φ, Z' b) → RepL w Z xs φ vs → RepL w Z' xs φ vs) := by
  refine PV.ind (M := fun x => ∀ φ vs, PV.allOwn x = true → (∀ b ∈ φ, Z' b) → Rep w Z x φ vs → Rep w Z' x φ vs)
    (N := fun xs => ∀ φ vs, allOwnL xs = true → (∀ b ∈ φ, Z' b) → RepL w Z xs φ vs → RepL w Z' xs φ vs) ?_ ?_ ?_ ?_ ?_ ?_ ?_ ?_ ?_ ?_
  · rintro φ vs _ _ h; simp only [Rep] at h ⊢; exact h
  · rintro u φ vs _ _ h; simp only [Rep] at h ⊢; exact h
  · rintro o sz xs ih φ vs ho hn h; simp only [Rep] at h ⊢; obtain ⟨a, cap, ψ, ch, rfl, h0, hl, hw, hh⟩ := h
    simp only [PV.allOwn, Bool.and_eq_true] at ho
    obtain ⟨rfl, hox⟩ := ho
    have hsub : ∀ b, b ∈ ψ → b ∈ φ := by
      rcases hh with ⟨rfl, rfl, _⟩ | ⟨b, off, cs, T, fr, rfl, hb, _, hf, ht⟩
      · rw [RepL_nil] at hl; rw [hl.1]; simp
      · intro c hc; rw [(ht rfl).2.2.1]; simp [hc]
    refine ⟨a, cap, ψ, ch, rfl, h0, ih _ _ hox (fun b hb => hn b (hsub b hb)) hl, hw, ?_⟩
    rcases hh with hh | ⟨b, off, cs, T, fr, rfl, hb, hch, hf, ht⟩
    · exact .inl hh
    · exact .inr ⟨b, off, cs, T, fr, rfl, hb, hch, fun h => (by cases h), fun h => ⟨hn b (by rw [(ht rfl).2.2.1]; simp), (ht rfl).2⟩⟩
  · rintro o cs ih φ vs ho hn h; simp only [Rep] at h ⊢; obtain ⟨b, arr, T, fr, ψ, rfl, hb, hl, hw, hf, ht⟩ := h
    simp only [PV.allOwn, Bool.and_eq_true] at ho
    obtain ⟨rfl, hox⟩ := ho
    refine ⟨b, arr, T, fr, ψ, rfl, hb, ih _ _ hox (fun b hb => hn b (by rw [(ht rfl).2.2]; simp [hb])) hl, hw, fun h => (by cases h), fun h => ⟨hn b (by rw [(ht rfl).2.2]; simp), (ht rfl).2⟩⟩
  · rintro o es φ vs ho hn h; simp only [Rep] at h ⊢; obtain ⟨b, ents, clk, rfl, hb, he, hfl, hf, ht⟩ := h
    simp only [PV.allOwn] at ho; subst ho
    exact ⟨b, ents, clk, rfl, hb, he, hfl, fun h => (by cases h), fun h => ⟨hn b (by rw [(ht rfl).2]; simp), (ht rfl).2⟩⟩
  · rintro cs ih φ vs ho hn h; simp only [Rep] at h ⊢; simp only [PV.allOwn] at ho; exact ⟨ih _ _ ho hn h.1, h.2⟩
  · rintro xs _ φ vs _ _ h; simp only [Rep] at h
  · rintro f cs ih φ vs ho hn h; simp only [Rep] at h ⊢; simp only [PV.allOwn] at ho; obtain ⟨rfl, cv, rfl, hl, hw⟩ := h
    exact ⟨rfl, cv, rfl, ih _ _ ho (by simp) hl, hw⟩
  · rintro φ vs _ _ h; rw [RepL_nil] at h ⊢; exact h
  · rintro x xs hx hxs φ vs ho hn h; rw [RepL_cons] at h ⊢; obtain ⟨φ₁, φ₂, v₁, v₂, rfl, rfl, h1, h2⟩ := h
    simp only [allOwnL, Bool.and_eq_true] at ho
    exact ⟨φ₁, φ₂, v₁, v₂, rfl, rfl, hx _ _ ho.1 (fun b hb => hn b (List.mem_append.2 (.inl hb))) h1, hxs _ _ ho.2 (fun b hb => hn b (List.mem_append.2 (.inr hb))) h2⟩

/-- Of what owns nothing: it reads so where fewer blocks are owned. -/
theorem Rep_weaken {w : World} {Z Z' : Nat → Prop} (hZ : ∀ b, b < w.heap.size → Z' b → Z b) : (∀ x vs, Rep w Z x [] vs → Rep w Z' x [] vs) ∧ (∀ xs vs, RepL w Z xs [] vs → RepL w Z' xs [] vs) := by
  have hsome : ∀ {b : Nat} {o : Obj}, w.heap[b]? = some o → b < w.heap.size := fun h => (Array.getElem?_eq_some_iff.1 h).1
  refine PV.ind (M := fun x => ∀ vs, Rep w Z x [] vs → Rep w Z' x [] vs) (N := fun xs => ∀ vs, RepL w Z xs [] vs → RepL w Z' xs [] vs) ?_ ?_ ?_ ?_ ?_ ?_ ?_ ?_ ?_ ?_
  · rintro vs h; simp only [Rep] at h ⊢; exact h
  · rintro u vs h; simp only [Rep] at h ⊢; exact h
  · rintro o sz xs ih vs h; simp only [Rep] at h ⊢; obtain ⟨a, cap, ψ, ch, rfl, h0, hl, hw, hh⟩ := h
    rcases hh with ⟨rfl, h1, hc⟩ | ⟨b, off, cs, T, fr, rfl, hb, hch, hf, ht⟩
    · rw [RepL_nil] at hl
      exact ⟨a, cap, [], [], rfl, h0, RepL_nil.2 ⟨rfl, rfl⟩, hw, .inl ⟨rfl, trivial, hc⟩⟩
    · cases o with
      | false =>
        obtain ⟨hz, _, rfl⟩ := hf rfl
        exact ⟨_, cap, [], ch, rfl, h0, ih _ hl, hw, .inr ⟨b, off, cs, T, fr, rfl, hb, hch, fun _ => ⟨fun hz' => hz (hZ b (hsome hb) hz'), trivial, rfl⟩, fun h => by cases h⟩⟩
      | true => exact absurd (ht rfl).2.2.1 (by simp)
  · rintro o cs ih vs h; simp only [Rep] at h ⊢; obtain ⟨b, arr, T, fr, ψ, rfl, hb, hl, hw, hf, ht⟩ := h
    cases o with
    | false =>
      obtain ⟨hz, _, rfl⟩ := hf rfl
      exact ⟨b, arr, T, fr, [], rfl, hb, ih _ hl, hw, fun _ => ⟨fun hz' => hz (hZ b (hsome hb) hz'), trivial, rfl⟩, fun h => by cases h⟩
    | true => exact absurd (ht rfl).2.2 (by simp)
  · rintro o es vs h; simp only [Rep] at h ⊢; obtain ⟨b, ents, clk, rfl, hb, he, hfl, hf, ht⟩ := h
    cases o with
    | false =>
      obtain ⟨hz, _⟩ := hf rfl
      exact ⟨b, ents, clk, rfl, hb, he, hfl, fun _ => ⟨fun hz' => hz (hZ b (hsome hb) hz'), trivial⟩, fun h => by cases h⟩
    | true => exact absurd (ht rfl).2 (by simp)
  · rintro cs ih vs h; simp only [Rep] at h ⊢; exact ⟨ih _ h.1, h.2⟩
  · rintro xs _ vs h; simp only [Rep] at h
  · rintro f cs ih vs h; simp only [Rep] at h ⊢; obtain ⟨_, cv, rfl, hl, hw⟩ := h; exact ⟨trivial, cv, rfl, ih _ hl, hw⟩
  · rintro vs h; exact h
  · rintro x xs hx hxs vs h; rw [RepL_cons] at h ⊢; obtain ⟨φ₁, φ₂, v₁, v₂, e, rfl, h1, h2⟩ := h
    obtain ⟨rfl, rfl⟩ := List.append_eq_nil_iff.1 e.symm
    exact ⟨[], [], v₁, v₂, rfl, rfl, hx _ h1, hxs _ h2⟩

/-! ### One cell among many -/

def PV.setC (x : PV) (o : Nat) (y : PV) : PV :=
  match x with
  | .agg cs => .agg (cs.set o y)
  | _ => y
def setAt (xs : List PV) (i o : Nat) (y : PV) : List PV := xs.modify i (·.setC o y)

/-- What is not in the part that changes reads as before. -/
def Keeps (w w' : World) (Z Z' : Nat → Prop) (φ : List Nat) : Prop :=
  ∀ b, b < w.heap.size → (b ∈ φ ∨ ¬ Z b) → (Z b ↔ Z' b) ∧ w'.heap[b]? = w.heap[b]?
theorem Keeps.mono {w w' Z Z' φ φ'} (h : Keeps w w' Z Z' φ) (hs : ∀ b ∈ φ', b ∈ φ) : Keeps w w' Z Z' φ' :=
  fun b hb hc => h b hb (hc.imp (hs b) id)
theorem Keeps.rep {w w' Z Z' φ φ' x vs} (h : Keeps w w' Z Z' φ) (hs : ∀ b ∈ φ', b ∈ φ) (hr : Rep w Z x φ' vs) : Rep w' Z' x φ' vs :=
  Rep_frame.1 x φ' vs (h.mono hs) hr
theorem Keeps.repL {w w' Z Z' φ φ' x vs} (h : Keeps w w' Z Z' φ) (hs : ∀ b ∈ φ', b ∈ φ) (hr : RepL w Z x φ' vs) : RepL w' Z' x φ' vs :=
  Rep_frame.2 x φ' vs (h.mono hs) hr

theorem cell_split1 {w : World} {Z : Nat → Prop} : ∀ (cs : List PV) (φ : List Nat) (vs : List Value) (o : Nat) (y : PV), RepL w Z cs φ vs → (∀ c ∈ cs, c.cell1 = true) →
    cs[o]? = some y → ∃ φ₁ φy φ₂ v, φ = φ₁ ++ φy ++ φ₂ ∧ vs[o]? = some v ∧ Rep w Z y φy [v] ∧
      ∀ w' Z' y' φ' v', Keeps w w' Z Z' (φ₁ ++ φ₂) → Rep w' Z' y' φ' [v'] → RepL w' Z' (cs.set o y') (φ₁ ++ φ' ++ φ₂) (vs.set o v')
  | [], _, _, o, _, _, _, ho => by simp at ho
  | c :: cs, φ, vs, 0, y, h, hc, ho => by
    rw [RepL_cons] at h; obtain ⟨φ₁, φ₂, v₁, v₂, rfl, rfl, h1, h2⟩ := h
    obtain rfl : c = y := by simpa using ho
    have hl : v₁.length = 1 := by rw [h1.length, PV.cell1_width (hc c (by simp))]
    obtain ⟨v, rfl⟩ := List.length_eq_one_iff.1 hl
    refine ⟨[], φ₁, φ₂, v, by simp, by simp, h1, fun w' Z' y' φ' v' hk hr => ?_⟩
    rw [List.set_cons_zero, RepL_cons]
    exact ⟨φ', φ₂, [v'], v₂, by simp, by simp, hr, hk.repL (by simp) h2⟩
  | c :: cs, φ, vs, o + 1, y, h, hc, ho => by
    rw [RepL_cons] at h; obtain ⟨φ₁, φ₂, v₁, v₂, rfl, rfl, h1, h2⟩ := h
    have hl : v₁.length = 1 := by rw [h1.length, PV.cell1_width (hc c (by simp))]
    obtain ⟨v, rfl⟩ := List.length_eq_one_iff.1 hl
    obtain ⟨ψ₁, φy, ψ₂, u, rfl, hu, hy, hr⟩ := cell_split1 cs φ₂ v₂ o y h2 (fun c hm => hc c (by simp [hm])) (by simpa using ho)
    refine ⟨φ₁ ++ ψ₁, φy, ψ₂, u, by simp, by simpa using hu, hy, fun w' Z' y' φ' v' hk hr' => ?_⟩
    rw [List.set_cons_succ, RepL_cons]
    exact ⟨φ₁, ψ₁ ++ φ' ++ ψ₂, [v], v₂.set o v', by simp, by simp, hk.rep (by simp +contextual) h1, hr _ _ _ _ _ (hk.mono (by simp +contextual )) hr'⟩

theorem PV.cells_cell1 {w Z x φ vs} (h : Rep w Z x φ vs) : ∀ c ∈ x.cells, c.cell1 = true := by
  cases x with
  | agg cs => simp only [Rep] at h; exact h.2
  | tup xs => simp only [Rep] at h
  | _ => simp [PV.cells, PV.cell1]

theorem Rep.cellsL {w Z x φ vs} (h : Rep w Z x φ vs) : RepL w Z x.cells φ vs := by
  cases x with
  | agg cs => simp only [Rep] at h; exact h.1
  | _ => simp only [PV.cells, RepL_cons, RepL_nil]; exact ⟨φ, [], vs, [], by simp, by simp, h, rfl, rfl⟩

theorem cell_split {w : World} {Z : Nat → Prop} {sz : Nat} : ∀ (xs : List PV) (φ : List Nat) (ch : List Value) (i o : Nat) (x y : PV), RepL w Z xs φ ch → (∀ x ∈ xs, x.width = sz) →
    xs[i]? = some x → x.cells[o]? = some y → y.cell1 = true ∧ o < sz ∧ ∃ φ₁ φy φ₂ v, φ = φ₁ ++ φy ++ φ₂ ∧ ch[i * sz + o]? = some v ∧ Rep w Z y φy [v] ∧
      ∀ w' Z' y' φ' v', y'.cell1 = true → Keeps w w' Z Z' (φ₁ ++ φ₂) → Rep w' Z' y' φ' [v'] → RepL w' Z' (setAt xs i o y') (φ₁ ++ φ' ++ φ₂) (ch.set (i * sz + o) v') ∧ (∀ x ∈ setAt xs i o y', x.width = sz)
  | [], _, _, i, _, _, _, _, _, hi, _ => by simp at hi
  | c :: cs, φ, ch, 0, o, x, y, h, hw, hi, ho => by
    rw [RepL_cons] at h; obtain ⟨φ₁, φ₂, v₁, v₂, rfl, rfl, h1, h2⟩ := h
    obtain rfl : c = x := by simpa using hi
    have hcell := PV.cells_cell1 h1
    obtain ⟨ψ₁, φy, ψ₂, v, rfl, hv, hy, hr⟩ := cell_split1 c.cells φ₁ v₁ o y h1.cellsL hcell ho
    have hlt : o < v₁.length := by rw [List.getElem?_eq_some_iff] at hv; exact hv.1
    have hlen : v₁.length = sz := by rw [h1.length, hw c (by simp)]
    refine ⟨hcell y (List.mem_of_getElem? ho), by omega, ψ₁, φy, ψ₂ ++ φ₂, v, by simp, by simp; rw [List.getElem?_append_left hlt]; exact hv, hy, fun w' Z' y' φ' v' hy' hk hr' => ?_⟩
    have hs : setAt (c :: cs) 0 o y' = c.setC o y' :: cs := by simp [setAt]
    have key := hr w' Z' y' φ' v' (hk.mono (by simp +contextual [or_imp])) hr'
    have hlen2 : v₁.length = c.width := h1.length
    have hcc : Rep w' Z' (c.setC o y') (ψ₁ ++ φ' ++ ψ₂) (v₁.set o v') ∧ (c.setC o y').width = c.width := by
      cases c with
      | agg ds =>
        simp only [PV.setC, PV.cells, Rep, PV.width, List.length_set] at key ⊢
        refine ⟨⟨key, fun d hd => ?_⟩, trivial⟩
        rcases List.mem_or_eq_of_mem_set hd with hd | rfl
        · exact hcell d hd
        · exact hy'
      | tup ds => simp only [Rep] at h1
      | _ =>
        have ho0 : o = 0 := by
          have : o < 1 := by rw [List.getElem?_eq_some_iff] at ho; simpa [PV.cells] using ho.1
          omega
        subst ho0
        simp only [PV.setC, PV.cells, List.set_cons_zero, RepL_cons, RepL_nil] at key ⊢
        obtain ⟨α, β, u₁, u₂, h1', h2', h3', rfl, rfl⟩ := key
        simp only [List.append_nil] at h1' h2'
        rw [h1', h2']
        exact ⟨h3', by rw [PV.cell1_width hy']; rfl⟩
    rw [hs]
    refine ⟨?_, ?_⟩
    · rw [RepL_cons]
      refine ⟨ψ₁ ++ φ' ++ ψ₂, φ₂, v₁.set o v', v₂, by simp, ?_, hcc.1, hk.repL (by simp +contextual) h2⟩
      simp only [Nat.zero_mul, Nat.zero_add]
      rw [List.set_append_left _ _ hlt]
    · intro z hz
      rcases List.mem_cons.1 hz with rfl | hz
      · rw [hcc.2]; exact hw c (by simp)
      · exact hw z (by simp [hz])
  | c :: cs, φ, ch, i + 1, o, x, y, h, hw, hi, ho => by
    rw [RepL_cons] at h; obtain ⟨φ₁, φ₂, v₁, v₂, rfl, rfl, h1, h2⟩ := h
    have hlen : v₁.length = sz := by rw [h1.length, hw c (by simp)]
    obtain ⟨hcell, hosz, ψ₁, φy, ψ₂, v, rfl, hv, hy, hr⟩ := cell_split cs φ₂ v₂ i o x y h2 (fun c hm => hw c (by simp [hm])) (by simpa using hi) ho
    have hidx : (i + 1) * sz + o = v₁.length + (i * sz + o) := by rw [hlen, Nat.add_mul]; omega
    refine ⟨hcell, hosz, φ₁ ++ ψ₁, φy, ψ₂, v, by simp, ?_, hy, fun w' Z' y' φ' v' hy' hk hr' => ?_⟩
    · rw [hidx, List.getElem?_append_right (by omega)]; simpa using hv
    · have hs : setAt (c :: cs) (i + 1) o y' = c :: setAt cs i o y' := by simp [setAt]
      obtain ⟨k1, k2⟩ := hr w' Z' y' φ' v' hy' (hk.mono (by simp +contextual [or_imp])) hr'
      rw [hs]
      refine ⟨?_, ?_⟩
      · rw [RepL_cons]
        refine ⟨φ₁, ψ₁ ++ φ' ++ ψ₂, v₁, v₂.set (i * sz + o) v', by simp, ?_, hk.rep (by simp +contextual) h1, k1⟩
        rw [hidx, List.set_append_right _ _ (by omega)]; simp
      · intro z hz
        rcases List.mem_cons.1 hz with rfl | hz
        · exact hw z (by simp)
        · exact k2 z hz
end Go.V
/- Places within a value: the cell that a path leads to, read and replaced. -/
namespace Go.V
set_option linter.unusedVariables false
set_option linter.unusedSimpArgs false

abbrev Path := List (Nat × Nat)

def PV.at? : PV → Nat → Nat → Option PV
  | .sl _ _ xs, i, o => (xs[i]?).bind fun x => x.cells[o]?
  | .ptr _ cs, i, o => if i = 0 then cs[o]? else none
  | _, _, _ => none
def PV.owned : PV → Bool
  | .sl o _ _ => o
  | .ptr o _ => o
  | .map o _ => o
  | _ => false
def PV.upd : PV → Nat → Nat → PV → PV
  | .sl f sz xs, i, o, y => .sl f sz (setAt xs i o y)
  | .ptr f cs, _, o, y => .ptr f (cs.set o y)
  | x, _, _, _ => x
/-- the address of a cell -/
def place : PV → Value → Nat → Nat → Option Addr
  | .sl _ sz _, .slice (some a) _ _, i, o => some ⟨a.block, a.off + (i * sz + o), none⟩
  | .ptr _ _, .pointer (some a), _, o => some ⟨a.block, a.off + o, none⟩
  | _, _, _, _ => none
def PV.get? : PV → Path → Option PV
  | x, [] => some x
  | x, (i, o) :: p => (x.at? i o).bind fun y => y.get? p
def follow (w : World) : PV → Value → Path → Option (PV × Value)
  | x, v, [] => some (x, v)
  | x, v, (i, o) :: p => (x.at? i o).bind fun y => ((place x v i o).bind w.cell?).bind fun u => follow w y u p
def PV.putC : PV → Path → Nat → Nat → PV → Option PV
  | x, [], i, o, y => if x.owned && (x.at? i o).isSome then some (x.upd i o y) else none
  | x, (j, k) :: q, i, o, y => if x.owned then (x.at? j k).bind fun c => (c.putC q i o y).map fun c' => x.upd j k c' else none

theorem at_cell1 {x : PV} {i o : Nat} {y : PV} (h : x.at? i o = some y) : x.cell1 = true := by
  cases x <;> simp_all [PV.at?, PV.cell1]
theorem cell1_upd {x : PV} {i o : Nat} {y : PV} (h : x.cell1 = true) : (x.upd i o y).cell1 = true := by cases x <;> simp_all [PV.upd, PV.cell1]
theorem place_upd {x : PV} {j k : Nat} {y : PV} {v : Value} {i o : Nat} : place (x.upd j k y) v i o = place x v i o := by
  cases x <;> simp only [PV.upd] <;> cases v <;> first | rfl | (rename_i a _ _; cases a <;> rfl) | (rename_i a; cases a <;> rfl)
theorem owned_upd {x : PV} {j k : Nat} {y : PV} : (x.upd j k y).owned = x.owned := by cases x <;> simp [PV.upd, PV.owned]
theorem at_upd {x : PV} {j k : Nat} {c c' : PV} (h : x.at? j k = some c) (hc : c'.cell1 = true) : (x.upd j k c').at? j k = some c' := by
  cases x with
  | sl f sz xs =>
    simp only [PV.at?, Option.bind_eq_some_iff] at h
    obtain ⟨e, he, hc'⟩ := h
    simp only [PV.upd, PV.at?, setAt, List.getElem?_modify, he, if_true, Option.map_eq_map, Option.map_some, Option.bind_some]
    cases e with
    | agg cs =>
      simp only [PV.cells] at hc'
      simp only [PV.setC, PV.cells]
      rw [List.getElem?_set_self (List.getElem?_eq_some_iff.1 hc').1]
    | _ =>
      have hk : k = 0 := by have := (List.getElem?_eq_some_iff.1 hc').1; simp [PV.cells] at this; exact this
      subst hk
      simp [PV.setC, PV.cell1_cells hc]
  | ptr f cs =>
    simp only [PV.at?] at h
    split at h
    case isFalse => cases h
    case isTrue hj =>
    simp only [PV.upd, PV.at?, hj, if_true]
    rw [List.getElem?_set_self (List.getElem?_eq_some_iff.1 h).1]
  | _ => simp [PV.at?] at h

theorem putC_cell1 {q : Path} {x : PV} {i o : Nat} {y x' : PV} (h : x.putC q i o y = some x') : x.cell1 = true ∧ x'.cell1 = true := by
  cases q with
  | nil =>
    simp only [PV.putC] at h
    split at h
    · rename_i hc; obtain rfl := Option.some.inj h
      simp only [Bool.and_eq_true] at hc
      obtain ⟨z, hz⟩ := Option.isSome_iff_exists.1 hc.2
      exact ⟨at_cell1 hz, cell1_upd (at_cell1 hz)⟩
    · cases h
  | cons s q =>
    obtain ⟨s1, s2⟩ := s
    simp only [PV.putC] at h
    split at h
    · simp only [Option.bind_eq_some_iff, Option.map_eq_some_iff] at h; obtain ⟨_, hz, _, _, rfl⟩ := h; exact ⟨at_cell1 hz, cell1_upd (at_cell1 hz)⟩
    · cases h

/-- the world changes in one cell of a block, if it is one of cells -/
def Chg (w w' : World) (A : Addr) (u' : Value) : Prop :=
  ∀ cs T fr, w.heap[A.block]? = some (.cells cs T fr) → A.off < cs.size → ∃ cs', w'.heap[A.block]? = some (.cells cs' T fr) ∧ cs'.size = cs.size ∧
    (∀ i, i ≠ A.off → cs'[i]? = cs[i]?) ∧ cs'[A.off]? = some u'
def KeepsX (w w' : World) (Z Z' : Nat → Prop) (φ : List Nat) (A : Addr) : Prop :=
  ∀ b, b < w.heap.size → (b ∈ φ ∨ ¬ Z b) → (Z b ↔ Z' b) ∧ (b ≠ A.block → w'.heap[b]? = w.heap[b]?)

theorem Chg.same {w w' : World} {A : Addr} {u : Value} (h : w'.heap[A.block]? = w.heap[A.block]?) (hu : w.cell? A = some u) (hs : A.spot = none) : Chg w w' A u := by
  intro cs T fr hb hlt
  refine ⟨cs, by rw [h, hb], rfl, fun _ _ => rfl, ?_⟩
  simp only [World.cell?, hb, hs] at hu
  simpa using hu

theorem at_rep {w : World} {Z : Nat → Prop} {x : PV} {φ : List Nat} {v : Value} {i o : Nat} {y : PV} (h : Rep w Z x φ [v]) (hy : x.at? i o = some y) :
    y.cell1 = true ∧ ∃ A u φ₁ φy φ₂, place x v i o = some A ∧ w.cell? A = some u ∧ A.spot = none ∧ φ = φ₁ ++ φy ++ φ₂ ∧ Rep w Z y φy [u] ∧
      (x.owned = true → A.block ∈ φ₁ ∧ w.frozen? A = false ∧ (φ.Nodup → ∀ w' Z' y' φ' u', y'.cell1 = true → KeepsX w w' Z Z' (φ₁ ++ φ₂) A → Chg w w' A u' → Rep w' Z' y' φ' [u'] →
        Rep w' Z' (x.upd i o y') (φ₁ ++ φ' ++ φ₂) [v])) := by
  have hsome : ∀ {b : Nat} {o : Obj}, w.heap[b]? = some o → b < w.heap.size := fun h => (Array.getElem?_eq_some_iff.1 h).1
  cases x with
  | sl f sz xs =>
    simp only [Rep] at h; obtain ⟨a, cap, ψ, ch, hv, h0, hl, hw, hh⟩ := h
    obtain rfl : v = .slice a xs.length cap := by simpa using hv
    simp only [PV.at?, Option.bind_eq_some_iff] at hy
    obtain ⟨e, hi, ho⟩ := hy
    obtain ⟨hc1, hosz, ψ₁, φy, ψ₂, u, rfl, hu, hry, hrep⟩ := cell_split xs ψ ch i o e y hl hw hi ho
    rcases hh with ⟨rfl, _⟩ | ⟨b, off, cs, T, fr, rfl, hb, hch, hf, ht⟩
    · simp at hi
    · have hcs : cs[off + (i * sz + o)]? = some u := hch _ _ hu
      refine ⟨hc1, ⟨b, off + (i * sz + o), none⟩, u, ?_⟩
      have hcell : w.cell? ⟨b, off + (i * sz + o), none⟩ = some u := by simp only [World.cell?, hb]; simpa using hcs
      cases f with
      | false =>
        obtain ⟨hz, rfl, hnil⟩ := hf rfl
        have h3 : φy = [] := (List.append_eq_nil_iff.1 (List.append_eq_nil_iff.1 hnil).1).2
        subst h3
        exact ⟨[], [], [], rfl, hcell, rfl, rfl, hry, fun h => by cases h⟩
      | true =>
        obtain ⟨hz, rfl, rfl, hcap, hlen⟩ := ht rfl
        refine ⟨b :: ψ₁, φy, ψ₂, rfl, hcell, rfl, by simp, hry, fun _ => ⟨by simp, ?_, ?_⟩⟩
        · simp only [World.frozen?, hb]; simp
        · intro hnd w' Z' y' φ' u' hy' hk hchg hr'
          obtain ⟨cs', hb', hsz', hoth, hnew⟩ := hchg cs T (0, 0) hb (by rw [Array.getElem?_eq_some_iff] at hcs; exact hcs.1)
          have hnb : b ∉ ψ₁ ++ φy ++ ψ₂ := (List.nodup_cons.1 hnd).1
          have hk' : Keeps w w' Z Z' (ψ₁ ++ ψ₂) := by
            refine fun c hc hm => (hk c hc (hm.imp (by simp +contextual [or_imp]) id)).imp id (fun h => h ?_)
            rintro rfl
            rcases hm with hm | hm
            · exact hnb (by simp only [List.mem_append] at hm ⊢; rcases hm with hm | hm <;> simp [hm])
            · exact hm hz
          obtain ⟨k1, k2⟩ := hrep w' Z' y' φ' u' hy' hk' hr'
          have hlen2 : (setAt xs i o y').length = xs.length := by simp [setAt]
          simp only [PV.upd, Rep]
          refine ⟨some ⟨b, off, none⟩, cap, ψ₁ ++ φ' ++ ψ₂, ch.set (i * sz + o) u', by rw [hlen2], ⟨h0.1, by rw [hlen2]; exact h0.2⟩, k1, k2, .inr ⟨b, off, cs', T, (0, 0), rfl, hb', ?_, fun h => (by cases h), fun _ => ⟨(hk b (hsome hb) (.inl (by simp))).1.1 hz, rfl, by simp, by rw [hsz']; exact hcap, by rw [hlen2]; exact hlen⟩⟩⟩
          intro j z hz
          by_cases hj : j = i * sz + o
          · subst hj
            rw [hnew]
            rw [List.getElem?_set_self (by rw [List.getElem?_eq_some_iff] at hu; exact hu.1)] at hz
            exact hz
          · rw [hoth (off + j) (by simp only; omega)]
            rw [List.getElem?_set_ne (by omega)] at hz
            exact hch j z hz
  | ptr f cs =>
    simp only [Rep] at h; obtain ⟨b, arr, T, fr, ψ, hv, hb, hl, hw, hf, ht⟩ := h
    obtain rfl : v = .pointer (some ⟨b, 0, none⟩) := by simpa using hv
    simp only [PV.at?] at hy
    split at hy
    case isFalse => cases hy
    case isTrue hi =>
    subst hi
    obtain ⟨ψ₁, φy, ψ₂, u, rfl, hu, hry, hrep⟩ := cell_split1 cs ψ arr.toList o y hl hw hy
    have hcs : arr[o]? = some u := by simpa using hu
    refine ⟨hw y (List.mem_of_getElem? hy), ⟨b, 0 + o, none⟩, u, ?_⟩
    have hcell : w.cell? ⟨b, 0 + o, none⟩ = some u := by simp only [World.cell?, hb]; simpa using hcs
    cases f with
    | false =>
      obtain ⟨hz, rfl, hnil⟩ := hf rfl
      have h3 : φy = [] := (List.append_eq_nil_iff.1 (List.append_eq_nil_iff.1 hnil).1).2
      subst h3
      exact ⟨[], [], [], rfl, hcell, rfl, rfl, hry, fun h => by cases h⟩
    | true =>
      obtain ⟨hz, rfl, rfl⟩ := ht rfl
      refine ⟨b :: ψ₁, φy, ψ₂, rfl, hcell, rfl, by simp, hry, fun _ => ⟨by simp, ?_, ?_⟩⟩
      · simp only [World.frozen?, hb]; simp
      · intro hnd w' Z' y' φ' u' hy' hk hchg hr'
        obtain ⟨arr', hb', hsz', hoth, hnew⟩ := hchg arr T (0, 0) hb (by rw [Array.getElem?_eq_some_iff] at hcs; simp only [Nat.zero_add]; exact hcs.1)
        have hnb : b ∉ ψ₁ ++ φy ++ ψ₂ := (List.nodup_cons.1 hnd).1
        have hk' : Keeps w w' Z Z' (ψ₁ ++ ψ₂) := by
          refine fun c hc hm => (hk c hc (hm.imp (by simp +contextual [or_imp]) id)).imp id (fun h => h ?_)
          rintro rfl
          rcases hm with hm | hm
          · exact hnb (by simp only [List.mem_append] at hm ⊢; rcases hm with hm | hm <;> simp [hm])
          · exact hm hz
        have k1 := hrep w' Z' y' φ' u' hk' hr'
        have harr : arr'.toList = arr.toList.set o u' := by
          apply List.ext_getElem?
          intro j
          by_cases hj : j = o
          · subst hj
            rw [List.getElem?_set_self (by rw [Array.getElem?_eq_some_iff] at hcs; simpa using hcs.1)]
            simpa using hnew
          · rw [List.getElem?_set_ne (by omega)]
            simpa using hoth j (by simp only [Nat.zero_add]; omega)
        simp only [PV.upd, Rep]
        refine ⟨b, arr', T, (0, 0), ψ₁ ++ φ' ++ ψ₂, rfl, hb', by rw [harr]; exact k1, ?_, fun h => (by cases h), fun _ => ⟨(hk b (hsome hb) (.inl (by simp))).1.1 hz, rfl, by simp⟩⟩
        intro d hd
        rcases List.mem_or_eq_of_mem_set hd with hd | rfl
        · exact hw d hd
        · exact hy'
  | _ => simp [PV.at?] at hy

theorem follow_rep {w : World} {Z : Nat → Prop} : ∀ (p : Path) (x : PV) (φ : List Nat) (v : Value) (y : PV), Rep w Z x φ [v] → x.get? p = some y →
    ∃ u φ₁ φy φ₂, follow w x v p = some (y, u) ∧ φ = φ₁ ++ φy ++ φ₂ ∧ Rep w Z y φy [u] ∧ (x.cell1 = true → y.cell1 = true)
  | [], x, φ, v, y, h, hy => by
    obtain rfl : x = y := by simpa [PV.get?] using hy
    exact ⟨v, [], φ, [], rfl, by simp, h, id⟩
  | (i, o) :: p, x, φ, v, y, h, hy => by
    simp only [PV.get?, Option.bind_eq_some_iff] at hy
    obtain ⟨c, hc, hy⟩ := hy
    obtain ⟨hcell, A, u, φ₁, φc, φ₂, hA, hu, _, rfl, hr, _⟩ := at_rep h hc
    obtain ⟨u', ψ₁, φy, ψ₂, hf, rfl, hr', hcy⟩ := follow_rep p c φc u y hr hy
    refine ⟨u', φ₁ ++ ψ₁, φy, ψ₂ ++ φ₂, ?_, by simp, hr', fun _ => hcy hcell⟩
    simp only [follow, hc, hA, Option.bind_some, hu]
    exact hf

/-- The part of a path that is walked hangs on the value's own blocks, and on those that nobody owns. -/
theorem follow_keeps {w w' : World} {Z Z' : Nat → Prop} : ∀ (p : Path) (x : PV) (φ : List Nat) (v : Value) (y : PV) (u : Value), Rep w Z x φ [v] → Keeps w w' Z Z' φ →
    follow w x v p = some (y, u) → follow w' x v p = some (y, u)
  | [], x, φ, v, y, u, h, hk, hf => hf
  | (i, o) :: p, x, φ, v, y, u, h, hk, hf => by
    simp only [follow, Option.bind_eq_some_iff] at hf ⊢
    obtain ⟨c, hc, u1, ⟨A, hA, hu1⟩, hf⟩ := hf
    obtain ⟨hcell, A', u', φ₁, φc, φ₂, hA', hu', hsp, rfl, hr, ho⟩ := at_rep h hc
    obtain rfl : A' = A := by rw [hA] at hA'; exact (Option.some.inj hA').symm
    obtain rfl : u' = u1 := by rw [hu1] at hu'; exact (Option.some.inj hu').symm
    refine ⟨c, hc, u', ⟨A', hA, ?_⟩, follow_keeps p c φc u' y u hr (hk.mono (by simp +contextual)) hf⟩
    have hlt : A'.block < w.heap.size := by
      simp only [World.cell?] at hu'
      cases hb : w.heap[A'.block]? with
      | none => simp [hb] at hu'
      | some ob => exact (Array.getElem?_eq_some_iff.1 hb).1
    have hor : A'.block ∈ φ₁ ++ φc ++ φ₂ ∨ ¬ Z A'.block := by
      cases x with
      | sl f sz xs =>
        cases f with
        | true => exact .inl (by have := (ho rfl).1; simp [this])
        | false =>
          simp only [Rep] at h; obtain ⟨a, cap, ψ, ch, hv, h0, hl, hw, hh⟩ := h
          rcases hh with ⟨rfl, _⟩ | ⟨b, off, cs, T, fr, rfl, hb, hch, hf', _⟩
          · simp [PV.at?] at hc
          · obtain rfl : v = _ := by simpa using hv
            simp only [place, Option.some.injEq] at hA; subst hA
            exact .inr (hf' trivial).1
      | ptr f cs =>
        cases f with
        | true => exact .inl (by have := (ho rfl).1; simp [this])
        | false =>
          simp only [Rep] at h; obtain ⟨b, arr, T, fr, ψ, hv, hb, hl, hw, hf', _⟩ := h
          obtain rfl : v = _ := by simpa using hv
          simp only [place, Option.some.injEq] at hA; subst hA
          exact .inr (hf' trivial).1
      | _ => simp [PV.at?] at hc
    rw [World.cell?_of_block (w := w) (hk A'.block hlt hor).2]; exact hu'

/-- A cell replaced, at the end of a path of owned ones. -/
theorem putC_rep {w : World} {Z : Nat → Prop} {i o : Nat} {y' : PV} : ∀ (q : Path) (x : PV) (φ : List Nat) (v : Value) (x' : PV), φ.Nodup → Rep w Z x φ [v] →
    x.putC q i o y' = some x' → ∃ h hv A y u φ₁ φy φ₂, follow w x v q = some (h, hv) ∧ h.at? i o = some y ∧ y.cell1 = true ∧ place h hv i o = some A ∧ w.cell? A = some u ∧ A.spot = none ∧
      A.block ∈ φ₁ ++ φ₂ ∧ w.frozen? A = false ∧ φ = φ₁ ++ φy ++ φ₂ ∧ Rep w Z y φy [u] ∧
      ∀ w' Z' φ' u', y'.cell1 = true → KeepsX w w' Z Z' (φ₁ ++ φ₂) A → Chg w w' A u' → Rep w' Z' y' φ' [u'] → Rep w' Z' x' (φ₁ ++ φ' ++ φ₂) [v] ∧ follow w' x' v q = some (h.upd i o y', hv)
  | [], x, φ, v, x', hnd, h, hp => by
    simp only [PV.putC] at hp
    split at hp
    case isFalse => cases hp
    case isTrue hc =>
    obtain rfl : _ = x' := Option.some.inj hp
    simp only [Bool.and_eq_true] at hc
    obtain ⟨ho, hs⟩ := hc
    obtain ⟨y, hy⟩ := Option.isSome_iff_exists.1 hs
    obtain ⟨hcell, A, u, φ₁, φy, φ₂, hA, hu, hsp, rfl, hr, hown⟩ := at_rep h hy
    obtain ⟨hmem, hfz, hrep⟩ := hown ho
    exact ⟨x, v, A, y, u, φ₁, φy, φ₂, rfl, hy, hcell, hA, hu, hsp, by simp [hmem], hfz, rfl, hr, fun w' Z' φ' u' hy' hk hch hr' => ⟨hrep hnd w' Z' y' φ' u' hy' hk hch hr', rfl⟩⟩
  | (j, k) :: q, x, φ, v, x', hnd, h, hp => by
    simp only [PV.putC] at hp
    split at hp
    case isFalse => cases hp
    case isTrue ho =>
    simp only [Option.bind_eq_some_iff, Option.map_eq_some_iff] at hp
    obtain ⟨c, hc, c', hc', rfl⟩ := hp
    obtain ⟨hcell, A1, u1, φ₁, φc, φ₂, hA1, hu1, hsp1, rfl, hr1, hown⟩ := at_rep h hc
    obtain ⟨hmem1, hfz1, hrep1⟩ := hown ho
    have hndc : φc.Nodup := (List.nodup_append.1 (List.nodup_append.1 hnd).1).2.1
    obtain ⟨g, gv, A, y, u, ψ₁, φy, ψ₂, hf, hy, hyc, hA, hu, hsp, hmem, hfz, rfl, hr, hrep⟩ := putC_rep q c φc u1 c' hndc hr1 hc'
    have hap : ∀ b, b ∈ φ₁ ++ φ₂ → b ∉ ψ₁ ++ φy ++ ψ₂ := by
      intro b hb hb'
      have h1 := List.nodup_append.1 hnd
      have h2 := List.nodup_append.1 h1.1
      rcases List.mem_append.1 hb with hb | hb
      · exact h2.2.2 b hb b hb' rfl
      · exact h1.2.2 b (List.mem_append.2 (.inr hb')) b hb rfl
    have hmem' : A.block ∈ ψ₁ ++ φy ++ ψ₂ := by simp only [List.mem_append] at hmem ⊢; rcases hmem with hm | hm <;> simp [hm]
    have hzA : Z A.block ∧ A.block < w.heap.size := by
      have := Rep_lt.1 _ _ _ hr1 A.block hmem'; exact ⟨this.2, this.1⟩
    refine ⟨g, gv, A, y, u, φ₁ ++ ψ₁, φy, ψ₂ ++ φ₂, ?_, hy, hyc, hA, hu, hsp, ?_, hfz, by simp, hr, fun w' Z' φ' u' hy' hk hch hr' => ?_⟩
    · simp only [follow, hc, hA1, Option.bind_some, hu1]; exact hf
    · simp only [List.mem_append] at hmem ⊢; rcases hmem with hm | hm <;> simp [hm]
    · obtain ⟨hc1, hfol⟩ := hrep w' Z' φ' u' hy' (fun b hb hm => hk b hb (hm.imp (by simp +contextual [or_imp]) id)) hch hr'
      have hcc1 : c'.cell1 = true := (putC_cell1 hc').2
      have hne : A1.block ≠ A.block := by
        intro e; exact hap A1.block (by simp [hmem1]) (e ▸ hmem')
      have hlt1 : A1.block < w.heap.size := (Rep_lt.1 _ _ _ h A1.block (by simp [hmem1])).1
      have hkx : KeepsX w w' Z Z' (φ₁ ++ φ₂) A1 := by
        intro b hb hm
        refine (hk b hb (hm.imp (by simp +contextual [or_imp]) id)).imp id (fun h _ => h ?_)
        rintro rfl
        rcases hm with hm | hm
        · exact hap _ hm hmem'
        · exact hm hzA.1
      have := hrep1 hnd w' Z' c' (ψ₁ ++ φ' ++ ψ₂) u1 hcc1 hkx
        (Chg.same ((hk A1.block hlt1 (.inl (by simp [hmem1]))).2 hne) hu1 hsp1) hc1
      refine ⟨by simpa using this, ?_⟩
      have hu1' : w'.cell? A1 = some u1 := by
        rw [World.cell?_of_block (w := w) ((hk A1.block hlt1 (.inl (by simp [hmem1]))).2 hne)]; exact hu1
      simp only [follow, at_upd hc hcc1, place_upd, hA1, Option.bind_some, hu1']
      exact hfol
end Go.V
/- Frames: what the slots of a call hold, and how they stand to the model's. -/
namespace Go.V
set_option linter.unusedVariables false
set_option linter.unusedSimpArgs false

inductive View where
  | self
  | sub (lo hi : Nat)
  | addr (i o : Nat)
  | cells (i o n c : Nat)
  | arr (i o lo hi n : Nat)
  deriving Inhabited, DecidableEq

inductive Slot where
  | dead
  | val (x : PV)
  | pl (r : Tmp) (p : Path) (k : View) (n : Nat)
  deriving Inhabited

abbrev RF := List (Tmp × Slot × Nat × Nat)
def RF.find : RF → Tmp → Slot × Nat × Nat
  | [], _ => (.dead, 0, 0)
  | (u, s) :: F, t => if t = u then s else RF.find F t
def RF.slot (F : RF) (t : Tmp) : Slot := (F.find t).1
/-- how often ways through the slot were broken -/
def RF.ver (F : RF) (t : Tmp) : Nat := (F.find t).2.1
/-- how often its cells were written since -/
def RF.cnt (F : RF) (t : Tmp) : Nat := (F.find t).2.2
/-- a slot is written: what led through it leads there no more -/
def RF.set (F : RF) (t : Tmp) (s : Slot) : RF := (t, s, F.ver t + 1, F.cnt t) :: F
/-- a slot's cells change, and no way through it -/
def RF.mut (F : RF) (t : Tmp) (s : Slot) : RF := (t, s, F.ver t, F.cnt t + 1) :: F
def RF.ok (F : RF) (r : Tmp) (k : View) (n : Nat) : Bool := F.ver r == n && match k with | .cells _ _ _ c => F.cnt r == c | _ => true

theorem RF.slot_set (F : RF) (t u : Tmp) (s : Slot) : (F.set t s).slot u = if u = t then s else F.slot u := by
  simp only [RF.slot, RF.set, RF.find]; split <;> rfl
theorem RF.ver_set (F : RF) (t u : Tmp) (s : Slot) : (F.set t s).ver u = if u = t then F.ver t + 1 else F.ver u := by
  simp only [RF.ver, RF.set, RF.find]; split <;> rfl
theorem RF.cnt_set (F : RF) (t u : Tmp) (s : Slot) : (F.set t s).cnt u = F.cnt u := by
  simp only [RF.cnt, RF.set, RF.find]; split <;> simp_all
theorem RF.slot_mut (F : RF) (t u : Tmp) (s : Slot) : (F.mut t s).slot u = if u = t then s else F.slot u := by
  simp only [RF.slot, RF.mut, RF.find]; split <;> rfl
theorem RF.ver_mut (F : RF) (t u : Tmp) (s : Slot) : (F.mut t s).ver u = F.ver u := by
  simp only [RF.ver, RF.mut, RF.find]; split <;> simp_all
theorem RF.cnt_mut (F : RF) (t u : Tmp) (s : Slot) : (F.mut t s).cnt u = if u = t then F.cnt t + 1 else F.cnt u := by
  simp only [RF.cnt, RF.mut, RF.find]; split <;> rfl
theorem RF.ok_ver {F : RF} {r k n} (h : F.ok r k n = true) : F.ver r = n := by simp only [RF.ok, Bool.and_eq_true, beq_iff_eq] at h; exact h.1
theorem RF.ok_set_ne {F : RF} {t r k n s} (h : r ≠ t) : (F.set t s).ok r k n = F.ok r k n := by
  simp only [RF.ok, RF.ver_set, if_neg h, RF.cnt_set]

def PV.row : PV → Nat → Option (List PV)
  | .sl _ _ xs, i => (xs[i]?).map PV.cells
  | .ptr _ cs, i => if i = 0 then some cs else none
  | _, _ => none

def PV.leaf : PV → Bool
  | .prim _ | .dead => true
  | _ => false

def viewC (y : PV) : View → Option PV
  | .self => some y
  | .sub lo hi => match y with
    | .sl f sz xs => if lo ≤ hi ∧ hi ≤ xs.length then some (.sl f sz ((xs.drop lo).take (hi - lo))) else none
    | _ => none
  | .addr _ _ => none
  | .cells i o n _ => (y.row i).bind fun r => if o + n ≤ r.length then some (.agg ((r.drop o).take n)) else none
  | .arr i o lo hi n => (y.row i).bind fun r => if lo ≤ hi ∧ hi ≤ n ∧ o + n ≤ r.length then some (.sl y.owned 1 ((r.drop (o + lo)).take (hi - lo))) else none

def viewOk (w : World) (y : PV) (u : Value) : View → Value → Prop
  | .self, v => v = u ∧ y.leaf = false
  | .sub lo hi, v => ∃ f sz xs a cap a', y = .sl f sz xs ∧ u = .slice a xs.length cap ∧ v = .slice a' (hi - lo) (cap - lo) ∧ (cap ≠ lo → a' = a.map (·.add (lo * sz)))
  | .addr i o, v => ∃ A, place y u i o = some A ∧ v = .pointer (some A)
  | .cells i o n _, v => ∃ (r : List PV) (A : Addr) (vs : List Value), y.row i = some r ∧ o + n ≤ r.length ∧ place y u i o = some A ∧ vs.length = n ∧ (∀ j, j < n → w.cell? ⟨A.block, A.off + j, none⟩ = vs[j]?) ∧ v = .agg vs.toArray
  | .arr i o lo hi n, v => ∃ (r : List PV) (A A' : Addr), y.row i = some r ∧ o + n ≤ r.length ∧ place y u i o = some A ∧ v = .slice (some A') (hi - lo) (n - lo) ∧ (n ≠ lo → A' = A.add lo)

def RF.content (F : RF) (t : Tmp) : Option PV :=
  match F.slot t with
  | .dead => none
  | .val x => some x
  | .pl r p k n => if F.ok r k n = true then match F.slot r with
      | .val x => (x.get? p).bind fun y => viewC y k
      | _ => none
    else none

def PlOk (w : World) (F : RF) (tm : Tmp → Value) (r : Tmp) (p : Path) (k : View) (v : Value) : Prop :=
  ∃ x y u, F.slot r = .val x ∧ follow w x (tm r) p = some (y, u) ∧ viewOk w y u k v

/-- whose the call's blocks may be, and what the package's variables hold -/
structure Cx where
  mine : Nat → Prop
  G : Nat → Option (List PV)
  /-- views that others hold -/
  gh : Tmp → Path → View → Nat → Value → Prop

structure Rel (X : Cx) (Z : Nat → Prop) (w : World) (φ : Tmp → List Nat) (tm : Tmp → Value) (F : RF) : Prop where
  nodup : ∀ t, (φ t).Nodup
  disj : ∀ t u b, b ∈ φ t → b ∈ φ u → t = u
  mine : ∀ t b, b ∈ φ t → X.mine b
  vals : ∀ t x, F.slot t = .val x → RepV w Z x (φ t) (tm t)
  rest : ∀ t, (∀ x, F.slot t ≠ .val x) → φ t = []
  vle : ∀ t r p k n, F.slot t = .pl r p k n → n ≤ F.ver r
  pls : ∀ t r p k n, F.slot t = .pl r p k n → F.ok r k n = true → PlOk w F tm r p k (tm t)
  glob : ∀ g cs, X.G g = some cs → Rep w Z (.ptr false cs) [] [.pointer (some ⟨g, 0, none⟩)]
  gle : ∀ r p k n v, X.gh r p k n v → n ≤ F.ver r
  gpl : ∀ r p k n v, X.gh r p k n v → F.ok r k n = true → PlOk w F tm r p k v

/-! ### Values in slots -/
theorem RepV_cell {w Z x φ v} (h : x.cell1 = true) : RepV w Z x φ v ↔ Rep w Z x φ [v] := by
  cases x <;> simp_all [PV.cell1, RepV, RepV1]
theorem RepV_agg {w Z cs φ v} : RepV w Z (.agg cs) φ v ↔ ∃ vs, v = .agg vs.toArray ∧ Rep w Z (.agg cs) φ vs := by simp [RepV, RepV1]
theorem RepV_tup {w Z xs φ v} : RepV w Z (.tup xs) φ v ↔ ∃ vs, v = .tuple vs.toArray ∧ RepTs w Z xs φ vs := by simp [RepV]
theorem PV.tup_or (x : PV) : (∃ xs, x = .tup xs) ∨ ((∀ w Z φ v, RepV w Z x φ v = RepV1 w Z x φ v) ∧ ∀ w Z φ v, RepV w Z x.frz φ v = RepV1 w Z x.frz φ v) := by
  cases x with
  | tup xs => exact .inl ⟨xs, rfl⟩
  | _ => refine .inr ⟨fun _ _ _ _ => rfl, fun w Z φ v => ?_⟩; simp only [PV.frz_sl, PV.frz_ptr, PV.frz_map, PV.frz_fn, PV.frz_dead, PV.frz_prim, PV.frz_agg, RepV]
theorem RepTs_cons {w Z x xs φ vs} : RepTs w Z (x :: xs) φ vs ↔ ∃ φ₁ φ₂ v vs', φ = φ₁ ++ φ₂ ∧ vs = v :: vs' ∧ RepV1 w Z x φ₁ v ∧ RepTs w Z xs φ₂ vs' := by simp [RepTs]

theorem RepV1_frame {w w' : World} {Z Z' : Nat → Prop} {x φ v} (h : Keeps w w' Z Z' φ) (hr : RepV1 w Z x φ v) : RepV1 w' Z' x φ v := by
  cases x with
  | agg cs => simp only [RepV1] at hr ⊢; obtain ⟨vs, rfl, hr⟩ := hr; exact ⟨vs, rfl, h.rep (fun _ h => h) hr⟩
  | _ => exact h.rep (fun _ h => h) hr
theorem RepTs_frame {w w' : World} {Z Z' : Nat → Prop} : ∀ {xs φ vs}, Keeps w w' Z Z' φ → RepTs w Z xs φ vs → RepTs w' Z' xs φ vs
  | [], φ, vs, _, hr => by simp only [RepTs] at hr ⊢; exact hr
  | x :: xs, φ, vs, h, hr => by
    rw [RepTs_cons] at hr ⊢; obtain ⟨φ₁, φ₂, v, vs', rfl, rfl, h1, h2⟩ := hr
    exact ⟨φ₁, φ₂, v, vs', rfl, rfl, RepV1_frame (h.mono (by simp +contextual)) h1, RepTs_frame (h.mono (by simp +contextual)) h2⟩
theorem RepV_frame {w w' : World} {Z Z' : Nat → Prop} {x φ v} (h : Keeps w w' Z Z' φ) (hr : RepV w Z x φ v) : RepV w' Z' x φ v := by
  rcases PV.tup_or x with ⟨xs, rfl⟩ | ⟨e, _⟩
  · rw [RepV_tup] at hr ⊢; obtain ⟨vs, rfl, hr⟩ := hr; exact ⟨vs, rfl, RepTs_frame h hr⟩
  · rw [e] at hr ⊢; exact RepV1_frame h hr

theorem RepV1_lt {w : World} {Z : Nat → Prop} {x φ v} (hr : RepV1 w Z x φ v) : ∀ b ∈ φ, b < w.heap.size ∧ Z b := by
  cases x with
  | agg cs => simp only [RepV1] at hr; obtain ⟨vs, rfl, hr⟩ := hr; exact Rep_lt.1 _ _ _ hr
  | _ => exact (Rep_lt (w := w) (Z := Z)).1 _ _ _ hr
theorem RepTs_lt {w : World} {Z : Nat → Prop} : ∀ {xs φ vs}, RepTs w Z xs φ vs → ∀ b ∈ φ, b < w.heap.size ∧ Z b
  | [], φ, vs, hr => by simp only [RepTs] at hr; rw [hr.1]; simp
  | x :: xs, φ, vs, hr => by
    rw [RepTs_cons] at hr; obtain ⟨φ₁, φ₂, v, vs', rfl, rfl, h1, h2⟩ := hr
    intro b hb
    rcases List.mem_append.1 hb with hb | hb
    · exact RepV1_lt h1 b hb
    · exact RepTs_lt h2 b hb
theorem RepV_lt {w : World} {Z : Nat → Prop} {x φ v} (hr : RepV w Z x φ v) : ∀ b ∈ φ, b < w.heap.size ∧ Z b := by
  rcases PV.tup_or x with ⟨xs, rfl⟩ | ⟨e, _⟩
  · rw [RepV_tup] at hr; obtain ⟨vs, rfl, hr⟩ := hr; exact RepTs_lt hr
  · rw [e] at hr; exact RepV1_lt hr

theorem RepV1_noOwn {w : World} {Z : Nat → Prop} {x φ v} (hn : x.noOwn = true) (hr : RepV1 w Z x φ v) : φ = [] := by
  cases x with
  | tup xs => simp only [RepV1, Rep] at hr
  | agg cs => simp only [RepV1] at hr; obtain ⟨vs, rfl, hr⟩ := hr; exact Rep_noOwn.1 _ _ _ hn hr
  | _ => exact (Rep_noOwn (w := w) (Z := Z)).1 _ _ _ hn hr
theorem RepTs_noOwn {w : World} {Z : Nat → Prop} : ∀ {xs φ vs}, noOwnL xs = true → RepTs w Z xs φ vs → φ = []
  | [], φ, vs, _, hr => by simp only [RepTs] at hr; exact hr.1
  | x :: xs, φ, vs, hn, hr => by
    rw [RepTs_cons] at hr; obtain ⟨φ₁, φ₂, v, vs', rfl, rfl, h1, h2⟩ := hr
    simp only [noOwnL, Bool.and_eq_true] at hn
    rw [RepV1_noOwn hn.1 h1, RepTs_noOwn hn.2 h2]; rfl
theorem RepV_noOwn {w : World} {Z : Nat → Prop} {x φ v} (hn : x.noOwn = true) (hr : RepV w Z x φ v) : φ = [] := by
  rcases PV.tup_or x with ⟨xs, rfl⟩ | ⟨e, _⟩
  · rw [RepV_tup] at hr; obtain ⟨vs, rfl, hr⟩ := hr; simp only [PV.noOwn] at hn; exact RepTs_noOwn hn hr
  · rw [e] at hr; exact RepV1_noOwn hn hr

theorem RepV1_frz {w : World} {Z Z' : Nat → Prop} (hZ : ∀ b, b < w.heap.size → Z' b → Z b) {x φ v} (hn : ∀ b ∈ φ, ¬ Z' b) (hr : RepV1 w Z x φ v) : RepV1 w Z' x.frz [] v := by
  cases x with
  | agg cs =>
    simp only [RepV1] at hr; obtain ⟨vs, rfl, hr⟩ := hr
    have := (Rep_frz hZ).1 _ _ _ hn hr
    rw [PV.frz_agg] at this ⊢; exact ⟨vs, rfl, this⟩
  | tup xs => simp only [RepV1, Rep] at hr
  | _ => have := (Rep_frz hZ).1 _ _ _ hn hr; simpa only [RepV1, PV.frz_sl, PV.frz_ptr, PV.frz_map, PV.frz_fn, PV.frz_dead, PV.frz_prim] using this
theorem RepTs_frz {w : World} {Z Z' : Nat → Prop} (hZ : ∀ b, b < w.heap.size → Z' b → Z b) : ∀ {xs φ vs}, (∀ b ∈ φ, ¬ Z' b) → RepTs w Z xs φ vs → RepTs w Z' (frzL xs) [] vs
  | [], φ, vs, _, hr => by simp only [RepTs] at hr; rw [frzL_nil]; simp only [RepTs]; exact ⟨trivial, hr.2⟩
  | x :: xs, φ, vs, hn, hr => by
    rw [RepTs_cons] at hr; obtain ⟨φ₁, φ₂, v, vs', rfl, rfl, h1, h2⟩ := hr
    rw [frzL_cons, RepTs_cons]
    exact ⟨[], [], v, vs', rfl, rfl, RepV1_frz hZ (fun b hb => hn b (by simp [hb])) h1, RepTs_frz hZ (fun b hb => hn b (by simp [hb])) h2⟩
theorem RepV_frz {w : World} {Z Z' : Nat → Prop} (hZ : ∀ b, b < w.heap.size → Z' b → Z b) {x φ v} (hn : ∀ b ∈ φ, ¬ Z' b) (hr : RepV w Z x φ v) : RepV w Z' x.frz [] v := by
  rcases PV.tup_or x with ⟨xs, rfl⟩ | ⟨e, e'⟩
  · rw [RepV_tup] at hr; obtain ⟨vs, rfl, hr⟩ := hr; rw [PV.frz_tup, RepV_tup]; exact ⟨vs, rfl, RepTs_frz hZ hn hr⟩
  · rw [e] at hr; rw [e']; exact RepV1_frz hZ hn hr

theorem RepV1_allOwn {w : World} {Z Z' : Nat → Prop} {x φ v} (ho : x.allOwn = true) (hn : ∀ b ∈ φ, Z' b) (hr : RepV1 w Z x φ v) : RepV1 w Z' x φ v := by
  cases x with
  | tup xs => simp only [RepV1, Rep] at hr
  | agg cs => simp only [RepV1] at hr ⊢; obtain ⟨vs, rfl, hr⟩ := hr; exact ⟨vs, rfl, Rep_allOwn.1 _ _ _ ho hn hr⟩
  | _ => exact (Rep_allOwn (w := w) (Z := Z)).1 _ _ _ ho hn hr
theorem RepTs_allOwn {w : World} {Z Z' : Nat → Prop} : ∀ {xs φ vs}, allOwnL xs = true → (∀ b ∈ φ, Z' b) → RepTs w Z xs φ vs → RepTs w Z' xs φ vs
  | [], φ, vs, _, _, hr => by simp only [RepTs] at hr ⊢; exact hr
  | x :: xs, φ, vs, ho, hn, hr => by
    rw [RepTs_cons] at hr ⊢; obtain ⟨φ₁, φ₂, v, vs', rfl, rfl, h1, h2⟩ := hr
    simp only [allOwnL, Bool.and_eq_true] at ho
    exact ⟨φ₁, φ₂, v, vs', rfl, rfl, RepV1_allOwn ho.1 (fun b hb => hn b (by simp [hb])) h1, RepTs_allOwn ho.2 (fun b hb => hn b (by simp [hb])) h2⟩
theorem RepV_allOwn {w : World} {Z Z' : Nat → Prop} {x φ v} (ho : x.allOwn = true) (hn : ∀ b ∈ φ, Z' b) (hr : RepV w Z x φ v) : RepV w Z' x φ v := by
  rcases PV.tup_or x with ⟨xs, rfl⟩ | ⟨e, _⟩
  · rw [RepV_tup] at hr ⊢; obtain ⟨vs, rfl, hr⟩ := hr; simp only [PV.allOwn] at ho; exact ⟨vs, rfl, RepTs_allOwn ho hn hr⟩
  · rw [e] at hr ⊢; exact RepV1_allOwn ho hn hr

/-! ### Parts of a row -/
theorem RepL_append {w Z} : ∀ {xs ys φ vs}, RepL w Z (xs ++ ys) φ vs ↔ ∃ φ₁ φ₂ v₁ v₂, φ = φ₁ ++ φ₂ ∧ vs = v₁ ++ v₂ ∧ RepL w Z xs φ₁ v₁ ∧ RepL w Z ys φ₂ v₂
  | [], ys, φ, vs => by
    simp only [List.nil_append, RepL_nil]
    constructor
    · intro h; exact ⟨[], φ, [], vs, rfl, rfl, ⟨rfl, rfl⟩, h⟩
    · rintro ⟨_, _, _, _, rfl, rfl, ⟨rfl, rfl⟩, h⟩; simpa using h
  | x :: xs, ys, φ, vs => by
    rw [List.cons_append, RepL_cons]
    constructor
    · rintro ⟨φ₁, φ₂, v₁, v₂, rfl, rfl, h1, h2⟩
      obtain ⟨ψ₁, ψ₂, u₁, u₂, rfl, rfl, h3, h4⟩ := RepL_append.1 h2
      exact ⟨φ₁ ++ ψ₁, ψ₂, v₁ ++ u₁, u₂, by simp, by simp, RepL_cons.2 ⟨φ₁, ψ₁, v₁, u₁, rfl, rfl, h1, h3⟩, h4⟩
    · rintro ⟨φ', ψ₂, v', u₂, rfl, rfl, h, h4⟩
      obtain ⟨φ₁, ψ₁, v₁, u₁, rfl, rfl, h1, h3⟩ := RepL_cons.1 h
      exact ⟨φ₁, ψ₁ ++ ψ₂, v₁, u₁ ++ u₂, by simp, by simp, h1, RepL_append.2 ⟨ψ₁, ψ₂, u₁, u₂, rfl, rfl, h3, h4⟩⟩

theorem RepL_len {w Z xs φ vs sz} (h : RepL w Z xs φ vs) (hw : ∀ x ∈ xs, x.width = sz) : vs.length = xs.length * sz := by
  rw [Rep_len.2 _ _ _ h]
  clear h
  induction xs with
  | nil => simp
  | cons x xs ih =>
    simp only [List.map_cons, List.sum_cons, List.length_cons]
    rw [ih (fun y hy => hw y (by simp [hy])), hw x (by simp), Nat.add_mul]; omega

/-- A part of a row: its own blocks are among the row's. -/
theorem RepL_part {w Z xs φ vs sz} (h : RepL w Z xs φ vs) (hw : ∀ x ∈ xs, x.width = sz) (lo n : Nat) (hb : lo + n ≤ xs.length) :
    ∃ φ', φ'.Sublist φ ∧ RepL w Z ((xs.drop lo).take n) φ' ((vs.drop (lo * sz)).take (n * sz)) := by
  have e1 : xs = xs.take lo ++ ((xs.drop lo).take n ++ (xs.drop lo).drop n) := by rw [List.take_append_drop, List.take_append_drop]
  rw [e1] at h
  obtain ⟨φ₁, φ₂, v₁, v₂, rfl, rfl, h1, h2⟩ := RepL_append.1 h
  obtain ⟨ψ₁, ψ₂, u₁, u₂, rfl, rfl, h3, h4⟩ := RepL_append.1 h2
  have l1 : v₁.length = lo * sz := by rw [RepL_len h1 (fun x hx => hw x (List.mem_of_mem_take hx)), List.length_take, Nat.min_eq_left (by omega)]
  have l2 : u₁.length = n * sz := by
    rw [RepL_len h3 (fun x hx => hw x (List.mem_of_mem_drop (List.mem_of_mem_take hx))), List.length_take, List.length_drop, Nat.min_eq_left (by omega)]
  refine ⟨ψ₁, (List.sublist_append_left ψ₁ ψ₂).trans (List.sublist_append_right φ₁ (ψ₁ ++ ψ₂)), ?_⟩
  rw [← l1, List.drop_left, ← l2, List.take_left]; exact h3

theorem Rep_sub {w : World} {Z : Nat → Prop} {f sz xs φ a a2 cap} (h : Rep w Z (.sl f sz xs) φ [.slice a xs.length cap]) (lo hi : Nat) (h1 : lo ≤ hi) (h2 : hi ≤ xs.length)
    (ha2 : cap ≠ lo → a2 = a.map (·.add (lo * sz))) :
    ∃ φ', φ'.Sublist φ ∧ Rep w Z (.sl f sz ((xs.drop lo).take (hi - lo))) φ' [.slice a2 (hi - lo) (cap - lo)] := by
  simp only [Rep] at h; obtain ⟨a', cap', ψ, ch, hv, h0, hl, hw, hh⟩ := h
  obtain ⟨rfl, rfl⟩ : a = a' ∧ cap = cap' := by simpa using hv
  obtain ⟨ψ', hs, hl'⟩ := RepL_part hl hw lo (hi - lo) (by omega)
  have hlen : ((xs.drop lo).take (hi - lo)).length = hi - lo := by simp; omega
  have hw' : ∀ x ∈ (xs.drop lo).take (hi - lo), x.width = sz := fun x hx => hw x (List.mem_of_mem_drop (List.mem_of_mem_take hx))
  rcases hh with ⟨rfl, rfl, hc0⟩ | ⟨b, off, cs, T, fr, rfl, hb, hch, hf, ht⟩
  · refine ⟨[], List.nil_sublist _, ?_⟩
    simp only [List.length_nil, Nat.le_zero] at h2
    obtain rfl : hi = 0 := h2
    obtain rfl : lo = 0 := by omega
    simp only [List.drop_nil, List.take_nil, Rep]
    exact ⟨_, cap - 0, [], [], rfl, ⟨h0.1, by simp⟩, by simp [RepL], by simp, .inl ⟨trivial, trivial, fun h => by simpa using hc0 h⟩⟩
  · by_cases hcap : cap = lo
    · subst hcap
      obtain rfl : hi = cap := by omega
      refine ⟨[], List.nil_sublist _, ?_⟩
      simp only [Nat.sub_self, List.take_zero, Rep]
      exact ⟨_, 0, [], [], rfl, ⟨h0.1, by simp⟩, by simp [RepL], by simp, .inl ⟨trivial, trivial, fun _ => rfl⟩⟩
    · have ha : (Option.map (fun x : Addr => x.add (lo * sz)) (some ⟨b, off, none⟩)) = some ⟨b, off + lo * sz, none⟩ := by
        simp only [Option.map_some, Addr.add]; split <;> simp_all
      rw [ha2 hcap, ha]
      have hch' : ∀ i v, ((ch.drop (lo * sz)).take ((hi - lo) * sz))[i]? = some v → cs[off + lo * sz + i]? = some v := by
        intro i v hi'
        rw [List.getElem?_take] at hi'
        split at hi'
        · rw [List.getElem?_drop] at hi'; rw [Nat.add_assoc]; exact hch _ _ hi'
        · cases hi'
      cases f with
      | false =>
        obtain ⟨hz, rfl, rfl⟩ := hf rfl
        obtain rfl : ψ' = [] := List.eq_nil_of_sublist_nil hs
        refine ⟨[], List.nil_sublist _, ?_⟩
        simp only [Rep]
        exact ⟨_, cap - lo, [], _, by rw [hlen], ⟨h0.1, by rw [hlen]; omega⟩, hl', hw', .inr ⟨b, _, cs, T, fr, rfl, hb, hch', fun _ => ⟨hz, trivial, rfl⟩, fun h => (by cases h)⟩⟩
      | true =>
        obtain ⟨hz, rfl, rfl, hcap2, hlen2⟩ := ht rfl
        refine ⟨b :: ψ', List.Sublist.cons_cons b hs, ?_⟩
        simp only [Rep]
        refine ⟨_, cap - lo, ψ', _, by rw [hlen], ⟨h0.1, by rw [hlen]; omega⟩, hl', hw', .inr ⟨b, _, cs, T, (0, 0), rfl, hb, hch', fun h => (by cases h), fun _ => ⟨hz, rfl, rfl, ?_, by rw [hlen]; omega⟩⟩⟩
        have : (cap - lo) * sz = cap * sz - lo * sz := Nat.sub_mul _ _ _
        have : lo * sz ≤ cap * sz := Nat.mul_le_mul_right _ (by omega)
        omega

/-- Some neighboring cells of one element, read as one value. -/
theorem row_rep {w : World} {Z : Nat → Prop} {x : PV} {φ : List Nat} {v : Value} {i o n : Nat} {r : List PV} {A : Addr} (h : Rep w Z x φ [v]) (hr : x.row i = some r)
    (hn : o + n ≤ r.length) (hA : place x v i o = some A) :
    ∃ vs φ', φ'.Sublist φ ∧ vs.length = n ∧ (∀ j, j < n → w.cell? ⟨A.block, A.off + j, none⟩ = vs[j]?) ∧ Rep w Z (.agg ((r.drop o).take n)) φ' vs := by
  cases x with
  | sl f sz xs =>
    simp only [Rep] at h; obtain ⟨a, cap, ψ, ch, hv, h0, hl, hw, hh⟩ := h
    obtain rfl : v = .slice a xs.length cap := by simpa using hv
    simp only [PV.row, Option.map_eq_some_iff] at hr
    obtain ⟨e, he, rfl⟩ := hr
    rcases hh with ⟨rfl, _⟩ | ⟨b, off, cs, T, fr, rfl, hb, hch, hf, ht⟩
    · simp at he
    · simp only [place, Option.some.injEq] at hA; subst hA
      have hi : i < xs.length := (List.getElem?_eq_some_iff.1 he).1
      have e1 : xs = xs.take i ++ (e :: xs.drop (i + 1)) := by
        have h9 : xs[i] = e := (List.getElem?_eq_some_iff.1 he).2
        rw [← h9, List.getElem_cons_drop, List.take_append_drop]
      rw [e1] at hl
      obtain ⟨ψ₁, ψ₂, v₁, v₂, rfl, rfl, g1, g2⟩ := RepL_append.1 hl
      obtain ⟨ψ₃, ψ₄, v₃, v₄, rfl, rfl, g3, g4⟩ := RepL_cons.1 g2
      have l1 : v₁.length = i * sz := by rw [RepL_len g1 (fun x hx => hw x (List.mem_of_mem_take hx)), List.length_take, Nat.min_eq_left (by omega)]
      have hc := PV.cells_cell1 g3
      obtain ⟨φ', hs, hrep⟩ := RepL_part (sz := 1) g3.cellsL (fun c hcm => PV.cell1_width (hc c hcm)) o n hn
      simp only [Nat.mul_one] at hrep
      have l3 : v₃.length = e.cells.length := by have := RepL_len (sz := 1) g3.cellsL (fun c hcm => PV.cell1_width (hc c hcm)); simpa using this
      refine ⟨_, φ', ?_, ?_, ?_, by simp only [Rep]; exact ⟨hrep, fun c hcm => hc c (List.mem_of_mem_drop (List.mem_of_mem_take hcm))⟩⟩
      · have h5 : ψ₃.Sublist (ψ₁ ++ (ψ₃ ++ ψ₄)) := (List.sublist_append_left ψ₃ ψ₄).trans (List.sublist_append_right _ _)
        cases f with
        | false =>
          obtain ⟨_, rfl, hnil⟩ := hf rfl
          rw [hnil] at h5
          exact hs.trans h5
        | true => obtain ⟨_, _, rfl, _⟩ := ht rfl; exact (hs.trans h5).trans (List.sublist_cons_self _ _)
      · simp; omega
      · intro j hj
        have hj3 : o + j < v₃.length := by omega
        have hval : ((v₃.drop o).take n)[j]? = some v₃[o + j] := by
          rw [List.getElem?_take, if_pos hj, List.getElem?_drop, List.getElem?_eq_getElem hj3]
        have hcs : cs[off + (i * sz + (o + j))]? = some v₃[o + j] := by
          apply hch
          rw [← l1, List.getElem?_append_right (by omega), List.getElem?_append_left (by omega)]
          simp [List.getElem?_eq_getElem hj3]
        rw [hval]; simp only [World.cell?, hb]
        rw [show off + (i * sz + o) + j = off + (i * sz + (o + j)) from by omega]
        simpa using hcs
  | ptr f cs =>
    simp only [Rep] at h; obtain ⟨b, arr, T, fr, ψ, hv, hb, hl, hw, hf, ht⟩ := h
    obtain rfl : v = .pointer (some ⟨b, 0, none⟩) := by simpa using hv
    simp only [PV.row] at hr
    split at hr
    case isFalse => cases hr
    case isTrue hi =>
    obtain rfl := Option.some.inj hr
    simp only [place, Option.some.injEq] at hA; subst hA
    obtain ⟨φ', hs, hrep⟩ := RepL_part (sz := 1) hl (fun c hcm => PV.cell1_width (hw c hcm)) o n hn
    simp only [Nat.mul_one] at hrep
    have l3 : arr.toList.length = cs.length := by have := RepL_len (sz := 1) hl (fun c hcm => PV.cell1_width (hw c hcm)); simpa using this
    refine ⟨_, φ', ?_, ?_, ?_, by simp only [Rep]; exact ⟨hrep, fun c hcm => hw c (List.mem_of_mem_drop (List.mem_of_mem_take hcm))⟩⟩
    · cases f with
      | false => obtain ⟨_, rfl, rfl⟩ := hf rfl; exact hs
      | true => obtain ⟨_, _, rfl⟩ := ht rfl; exact hs.trans (List.sublist_cons_self _ _)
    · simp only [List.length_take, List.length_drop]; omega
    · intro j hj
      have hj3 : o + j < arr.size := by simp only [Array.length_toList] at l3; omega
      rw [List.getElem?_take, if_pos hj, List.getElem?_drop]
      simp only [World.cell?, hb, Nat.zero_add]
      simp
  | _ => simp [PV.row] at hr

/-- A part of an array, read as a slice. -/
theorem Rep_arr {w : World} {Z : Nat → Prop} {x : PV} {φ : List Nat} {v : Value} {i o n : Nat} {r : List PV} {A A' : Addr} (h : Rep w Z x φ [v]) (hr : x.row i = some r)
    (hn : o + n ≤ r.length) (hA : place x v i o = some A) (lo hi : Nat) (h1 : lo ≤ hi) (h2 : hi ≤ n) (hA' : n ≠ lo → A' = A.add lo) :
    ∃ φ', φ'.Sublist φ ∧ Rep w Z (.sl x.owned 1 ((r.drop (o + lo)).take (hi - lo))) φ' [.slice (some A') (hi - lo) (n - lo)] := by
  have hlen : ((r.drop (o + lo)).take (hi - lo)).length = hi - lo := by simp; omega
  by_cases hnl : n = lo
  · have : hi - lo = 0 := by omega
    refine ⟨[], List.nil_sublist _, ?_⟩
    rw [this]
    simp only [List.take_zero, Rep]
    exact ⟨_, n - lo, [], [], rfl, ⟨by omega, by simp⟩, by simp [RepL], by simp, .inl ⟨trivial, trivial, fun _ => by omega⟩⟩
  obtain rfl := hA' hnl
  have hadd : A.spot = none → A.add lo = ⟨A.block, A.off + lo, none⟩ := by
    intro hs
    obtain ⟨b, f, s⟩ := A
    simp only at hs; subst hs
    unfold Addr.add; split
    · rename_i e; subst e; rfl
    · rfl
  cases x with
  | sl f sz xs =>
    simp only [Rep] at h; obtain ⟨a, cap, ψ, ch, hv, h0, hl, hw, hh⟩ := h
    obtain rfl : v = .slice a xs.length cap := by simpa using hv
    simp only [PV.row, Option.map_eq_some_iff] at hr
    obtain ⟨e, he, rfl⟩ := hr
    rcases hh with ⟨rfl, _⟩ | ⟨b, off, cs, T, fr, rfl, hb, hch, hf, ht⟩
    · simp at he
    · simp only [place, Option.some.injEq] at hA; subst hA
      rw [hadd rfl]
      have hi' : i < xs.length := (List.getElem?_eq_some_iff.1 he).1
      have h9 : xs[i] = e := (List.getElem?_eq_some_iff.1 he).2
      have e1 : xs = xs.take i ++ (e :: xs.drop (i + 1)) := by
        rw [← h9, List.getElem_cons_drop, List.take_append_drop]
      rw [e1] at hl
      obtain ⟨ψ₁, ψ₂, v₁, v₂, rfl, rfl, g1, g2⟩ := RepL_append.1 hl
      obtain ⟨ψ₃, ψ₄, v₃, v₄, rfl, rfl, g3, g4⟩ := RepL_cons.1 g2
      have l1 : v₁.length = i * sz := by rw [RepL_len g1 (fun x hx => hw x (List.mem_of_mem_take hx)), List.length_take, Nat.min_eq_left (by omega)]
      have hc := PV.cells_cell1 g3
      obtain ⟨φ', hs, hrep⟩ := RepL_part (sz := 1) g3.cellsL (fun c hcm => PV.cell1_width (hc c hcm)) (o + lo) (hi - lo) (by omega)
      simp only [Nat.mul_one] at hrep
      have l3 : v₃.length = e.cells.length := by have := RepL_len (sz := 1) g3.cellsL (fun c hcm => PV.cell1_width (hc c hcm)); simpa using this
      have h5 : ψ₃.Sublist (ψ₁ ++ (ψ₃ ++ ψ₄)) := (List.sublist_append_left ψ₃ ψ₄).trans (List.sublist_append_right _ _)
      have hch' : ∀ (k : Nat) (z : Value), ((v₃.drop (o + lo)).take (hi - lo))[k]? = some z → cs[off + (i * sz + o) + lo + k]? = some z := by
        intro k z hk
        rw [List.getElem?_take] at hk
        split at hk
        · rw [List.getElem?_drop] at hk
          rw [show off + (i * sz + o) + lo + k = off + (i * sz + (o + lo + k)) by omega]
          apply hch
          rw [← l1, List.getElem?_append_right (by omega), List.getElem?_append_left (by have := (List.getElem?_eq_some_iff.1 hk).1; omega)]
          simpa using hk
        · cases hk
      have hw' : ∀ c ∈ (e.cells.drop (o + lo)).take (hi - lo), c.width = 1 := fun c hcm => PV.cell1_width (hc c (List.mem_of_mem_drop (List.mem_of_mem_take hcm)))
      cases f with
      | false =>
        obtain ⟨hz, rfl, hnil⟩ := hf rfl
        rw [hnil] at h5
        obtain rfl := List.eq_nil_of_sublist_nil (hs.trans h5)
        refine ⟨[], List.nil_sublist _, ?_⟩
        simp only [PV.owned, Rep]
        exact ⟨_, n - lo, [], _, by rw [hlen], ⟨by omega, by rw [hlen]; omega⟩, hrep, hw', .inr ⟨b, _, cs, T, fr, rfl, hb, hch', fun _ => ⟨hz, trivial, rfl⟩, fun h => (by cases h)⟩⟩
      | true =>
        obtain ⟨hz, rfl, rfl, hcap, hlen2⟩ := ht rfl
        refine ⟨b :: φ', List.Sublist.cons_cons b (hs.trans h5), ?_⟩
        have hsz : e.cells.length = sz := by have := hw e (List.mem_of_getElem? he); cases e <;> simpa [PV.width, PV.cells] using this
        have hmul : (i + 1) * sz ≤ cap * sz := Nat.mul_le_mul_right _ (by omega)
        rw [Nat.add_mul, Nat.one_mul] at hmul
        simp only [PV.owned, Rep]
        exact ⟨_, n - lo, φ', _, by rw [hlen], ⟨by omega, by rw [hlen]; omega⟩, hrep, hw', .inr ⟨b, _, cs, T, (0, 0), rfl, hb, hch', fun h => (by cases h), fun _ => ⟨hz, rfl, rfl, by omega, by rw [hlen]; omega⟩⟩⟩
  | ptr f cs =>
    simp only [Rep] at h; obtain ⟨b, arr, T, fr, ψ, hv, hb, hl, hw, hf, ht⟩ := h
    obtain rfl : v = .pointer (some ⟨b, 0, none⟩) := by simpa using hv
    simp only [PV.row] at hr
    split at hr
    case isFalse => cases hr
    case isTrue hi' =>
    obtain rfl := Option.some.inj hr
    simp only [place, Option.some.injEq] at hA; subst hA
    rw [hadd rfl]
    obtain ⟨φ', hs, hrep⟩ := RepL_part (sz := 1) hl (fun c hcm => PV.cell1_width (hw c hcm)) (o + lo) (hi - lo) (by omega)
    simp only [Nat.mul_one] at hrep
    have l3 : arr.toList.length = cs.length := by have := RepL_len (sz := 1) hl (fun c hcm => PV.cell1_width (hw c hcm)); simpa using this
    have hch' : ∀ (k : Nat) (z : Value), ((arr.toList.drop (o + lo)).take (hi - lo))[k]? = some z → arr[0 + o + lo + k]? = some z := by
      intro k z hk
      rw [List.getElem?_take] at hk
      split at hk
      · rw [List.getElem?_drop] at hk; simpa using hk
      · cases hk
    have hw' : ∀ c ∈ (cs.drop (o + lo)).take (hi - lo), c.width = 1 := fun c hcm => PV.cell1_width (hw c (List.mem_of_mem_drop (List.mem_of_mem_take hcm)))
    cases f with
    | false =>
      obtain ⟨hz, rfl, rfl⟩ := hf rfl
      obtain rfl := List.eq_nil_of_sublist_nil hs
      refine ⟨[], List.nil_sublist _, ?_⟩
      simp only [PV.owned, Rep]
      exact ⟨_, n - lo, [], _, by rw [hlen], ⟨by omega, by rw [hlen]; omega⟩, hrep, hw', .inr ⟨b, _, arr, T, fr, rfl, hb, hch', fun _ => ⟨hz, trivial, rfl⟩, fun h => (by cases h)⟩⟩
    | true =>
      obtain ⟨hz, rfl, rfl⟩ := ht rfl
      refine ⟨b :: φ', List.Sublist.cons_cons b hs, ?_⟩
      simp only [PV.owned, Rep]
      simp only [Array.length_toList] at l3
      exact ⟨_, n - lo, φ', _, by rw [hlen], ⟨by omega, by rw [hlen]; omega⟩, hrep, hw', .inr ⟨b, _, arr, T, (0, 0), rfl, hb, hch', fun h => (by cases h), fun _ => ⟨hz, rfl, rfl, by omega, by rw [hlen]; omega⟩⟩⟩
  | _ => simp [PV.row] at hr
end Go.V
/- Frames: what is read, taken out, written; worlds that change beside them. -/
namespace Go.V
set_option linter.unusedVariables false
set_option linter.unusedSimpArgs false

theorem row_cell1 {x : PV} {i : Nat} {y : List PV} (h : x.row i = some y) : x.cell1 = true := by
  cases x <;> simp_all [PV.row, PV.cell1]

theorem RepV_follow {w : World} {Z : Nat → Prop} {p : Path} {x : PV} {φ : List Nat} {v : Value} {y : PV} (h : RepV w Z x φ v) (hy : x.get? p = some y) :
    ∃ u φ₁ φy φ₂, follow w x v p = some (y, u) ∧ φ = φ₁ ++ φy ++ φ₂ ∧ RepV w Z y φy u := by
  cases p with
  | nil =>
    obtain rfl : x = y := by simpa [PV.get?] using hy
    exact ⟨v, [], φ, [], rfl, by simp, h⟩
  | cons c p =>
    obtain ⟨i, o⟩ := c
    have hc : x.cell1 = true := by
      simp only [PV.get?, Option.bind_eq_some_iff] at hy; obtain ⟨c, hc, _⟩ := hy; exact at_cell1 hc
    rw [RepV_cell hc] at h
    obtain ⟨u, φ₁, φy, φ₂, hf, rfl, hr, hcy⟩ := follow_rep _ _ _ _ _ h hy
    exact ⟨u, φ₁, φy, φ₂, hf, rfl, (RepV_cell (hcy hc)).2 hr⟩

theorem RepV_view {w : World} {Z : Nat → Prop} {y : PV} {φ : List Nat} {u v : Value} {k : View} {z : PV} (h : RepV w Z y φ u) (hz : viewC y k = some z) (hv : viewOk w y u k v) :
    ∃ φz, φz.Sublist φ ∧ RepV w Z z φz v := by
  cases k with
  | self =>
    simp only [viewC, Option.some.injEq] at hz; simp only [viewOk] at hv; subst hz; rw [hv.1]
    exact ⟨φ, List.Sublist.refl _, h⟩
  | sub lo hi =>
    simp only [viewOk] at hv
    obtain ⟨f, sz, xs, a, cap, a2, rfl, rfl, rfl, ha2⟩ := hv
    simp only [viewC] at hz
    split at hz
    case isFalse => cases hz
    case isTrue hb =>
    obtain rfl := Option.some.inj hz
    rw [RepV_cell rfl] at h
    obtain ⟨φ', hs, hr⟩ := Rep_sub h lo hi hb.1 hb.2 ha2
    exact ⟨φ', hs, (RepV_cell rfl).2 hr⟩
  | addr i o => simp [viewC] at hz
  | cells i o n _ =>
    simp only [viewOk] at hv
    obtain ⟨r, A, vs, hr, hn, hA, hlen, hcs, rfl⟩ := hv
    simp only [viewC, hr, Option.bind_some, if_pos hn, Option.some.injEq] at hz
    subst hz
    rw [RepV_cell (row_cell1 hr)] at h
    obtain ⟨vs', φ', hs, hlen', hcs', hrep⟩ := row_rep h hr hn hA
    obtain rfl : vs = vs' := by
      apply List.ext_getElem?
      intro j
      by_cases hj : j < n
      · rw [← hcs j hj, ← hcs' j hj]
      · rw [List.getElem?_eq_none (by omega), List.getElem?_eq_none (by omega)]
    exact ⟨φ', hs, RepV_agg.2 ⟨vs, rfl, hrep⟩⟩
  | arr i o lo hi n =>
    simp only [viewOk] at hv
    obtain ⟨r, A, A', hr, hn, hA, rfl, hA'⟩ := hv
    simp only [viewC, hr, Option.bind_some] at hz
    split at hz
    case isFalse => cases hz
    case isTrue hb =>
    obtain rfl := Option.some.inj hz
    rw [RepV_cell (row_cell1 hr)] at h
    obtain ⟨φ', hs, hrep⟩ := Rep_arr (A' := A') h hr hn hA lo hi hb.1 hb.2.1 hA'
    exact ⟨φ', hs, (RepV_cell rfl).2 hrep⟩

/-- Nothing lies where a place leads but what is owned, or nobody's. -/
theorem place_block {w : World} {Z : Nat → Prop} {y : PV} {φ : List Nat} {u : Value} {i o : Nat} {r : List PV} {A : Addr} (h : Rep w Z y φ [u]) (hr : y.row i = some r)
    (hA : place y u i o = some A) : A.block < w.heap.size ∧ (A.block ∈ φ ∨ ¬ Z A.block) := by
  have hsome : ∀ {b : Nat} {o : Obj}, w.heap[b]? = some o → b < w.heap.size := fun h => (Array.getElem?_eq_some_iff.1 h).1
  cases y with
  | sl f sz xs =>
    simp only [Rep] at h; obtain ⟨a, cap, ψ, ch, hv, h0, hl, hw, hh⟩ := h
    obtain rfl : u = _ := by simpa using hv
    rcases hh with ⟨rfl, _⟩ | ⟨b, off, cs, T, fr, rfl, hb, hch, hf, ht⟩
    · simp [PV.row] at hr
    · simp only [place, Option.some.injEq] at hA; subst hA
      refine ⟨hsome hb, ?_⟩
      cases f with
      | false => exact .inr (hf rfl).1
      | true => exact .inl (by rw [(ht rfl).2.2.1]; simp)
  | ptr f cs =>
    simp only [Rep] at h; obtain ⟨b, arr, T, fr, ψ, hv, hb, hl, hw, hf, ht⟩ := h
    obtain rfl : u = _ := by simpa using hv
    simp only [place, Option.some.injEq] at hA; subst hA
    refine ⟨hsome hb, ?_⟩
    cases f with
    | false => exact .inr (hf rfl).1
    | true => exact .inl (by rw [(ht rfl).2.2]; simp)
  | _ => simp [PV.row] at hr

theorem viewOk_keeps {w w' : World} {Z Z' : Nat → Prop} {y : PV} {φ : List Nat} {u v : Value} {k : View} (h : RepV w Z y φ u) (hk : Keeps w w' Z Z' φ) (hv : viewOk w y u k v) : viewOk w' y u k v := by
  cases k with
  | cells i o n _ =>
    simp only [viewOk] at hv ⊢
    obtain ⟨r, A, vs, hr, hn, hA, hlen, hcs, rfl⟩ := hv
    refine ⟨r, A, vs, hr, hn, hA, hlen, fun j hj => ?_, rfl⟩
    rw [RepV_cell (row_cell1 hr)] at h
    obtain ⟨hlt, hor⟩ := place_block h hr hA
    rw [← hcs j hj]
    exact World.cell?_of_block (hk _ hlt hor).2
  | _ => exact hv

variable {X : Cx} {Z : Nat → Prop} {w : World} {φ : Tmp → List Nat} {tm : Tmp → Value} {F : RF}

theorem Rel.plRep' (h : Rel X Z w φ tm F) {r p k v} (hp : PlOk w F tm r p k v) :
    ∃ x y u φy, F.slot r = .val x ∧ follow w x (tm r) p = some (y, u) ∧ viewOk w y u k v ∧ x.get? p = some y ∧ RepV w Z y φy u ∧ φy.Sublist (φ r) := by
  obtain ⟨x, y, u, hx, hf, hv⟩ := hp
  have hr := h.vals r x hx
  have hg : ∀ (p : Path) (x : PV) (v : Value), follow w x v p = some (y, u) → x.get? p = some y := by
    intro p
    induction p with
    | nil => intro x v hf; simp only [follow, Option.some.injEq, Prod.mk.injEq] at hf; simp [PV.get?, hf.1]
    | cons c p ih =>
      obtain ⟨i, o⟩ := c
      intro x v hf
      simp only [follow, Option.bind_eq_some_iff] at hf
      obtain ⟨c, hc, u1, ⟨A, hA, hu1⟩, hf⟩ := hf
      simp only [PV.get?, hc, Option.bind_some]; exact ih _ _ hf
  have hg' := hg p x _ hf
  obtain ⟨u', φ₁, φy, φ₂, hf', he, hy⟩ := RepV_follow hr hg'
  rw [hf] at hf'
  obtain rfl : u = u' := by simpa using hf'
  refine ⟨x, y, u, φy, hx, hf, hv, hg', hy, ?_⟩
  rw [he]; exact (List.sublist_append_right φ₁ φy).trans (List.sublist_append_left _ φ₂)

theorem Rel.plRep (h : Rel X Z w φ tm F) {t r p k n} (hs : F.slot t = .pl r p k n) (hn : F.ok r k n = true) :
    ∃ x y u φy, F.slot r = .val x ∧ follow w x (tm r) p = some (y, u) ∧ viewOk w y u k (tm t) ∧ x.get? p = some y ∧ RepV w Z y φy u ∧ φy.Sublist (φ r) := h.plRep' (h.pls t r p k n hs hn)
theorem Rel.plOk_keep (h : Rel X Z w φ tm F) {w' : World} {Z' : Nat → Prop} {r p k v} (hp : PlOk w F tm r p k v) (hk1 : Keeps w w' Z Z' (φ r)) : PlOk w' F tm r p k v := by
  obtain ⟨x, y, u, φy, hx, hf, hv, hg, hr, hsub⟩ := h.plRep' hp
  refine ⟨x, y, u, hx, ?_, viewOk_keeps hr (hk1.mono hsub.subset) hv⟩
  have hrx := h.vals r x hx
  cases p with
  | nil => exact hf
  | cons c p =>
    obtain ⟨i, o⟩ := c
    have hc : x.cell1 = true := by
      simp only [PV.get?, Option.bind_eq_some_iff] at hg; obtain ⟨c, hc, _⟩ := hg; exact at_cell1 hc
    exact follow_keeps _ _ _ _ _ _ ((RepV_cell hc).1 hrx) hk1 hf

theorem Rel.content (h : Rel X Z w φ tm F) {t : Tmp} {y : PV} (hc : F.content t = some y) :
    ∃ φy, RepV w Z y φy (tm t) ∧ (∀ b ∈ φy, ∃ r, b ∈ φ r) ∧ φy.Nodup := by
  unfold RF.content at hc
  split at hc
  · cases hc
  · rename_i x hs
    obtain rfl := Option.some.inj hc
    exact ⟨φ t, h.vals t _ hs, fun b hb => ⟨t, hb⟩, h.nodup t⟩
  · rename_i r p k n hs
    split at hc
    case isFalse => cases hc
    case isTrue hn =>
    obtain ⟨x, y0, u, φy, hx, hf, hv, hg, hr, hsub⟩ := h.plRep hs hn
    rw [hx] at hc
    simp only [hg, Option.bind_some] at hc
    obtain ⟨φz, hsz, hz⟩ := RepV_view hr hc hv
    exact ⟨φz, hz, fun b hb => ⟨r, hsub.subset (hsz.subset hb)⟩, (h.nodup r).sublist (hsz.trans hsub)⟩

def upd {α : Type} (f : Tmp → α) (t : Tmp) (a : α) : Tmp → α := fun u => if u = t then a else f u
@[simp] theorem upd_self {α : Type} (f : Tmp → α) (t : Tmp) (a : α) : upd f t a t = a := by simp [upd]
theorem upd_ne {α : Type} (f : Tmp → α) {t u : Tmp} (a : α) (h : u ≠ t) : upd f t a u = f u := by simp [upd, h]

theorem Rel.setVal (h : Rel X Z w φ tm F) {t : Tmp} {x : PV} {v : Value} {φx : List Nat} (hr : RepV w Z x φx v) (hnd : φx.Nodup) (hm : ∀ b ∈ φx, X.mine b)
    (hd : ∀ u, u ≠ t → ∀ b ∈ φx, b ∉ φ u) : Rel X Z w (upd φ t φx) (upd tm t v) (F.set t (.val x)) where
  nodup u := by by_cases e : u = t <;> simp [upd, e, hnd, h.nodup]
  disj u u' b := by
    by_cases e : u = t <;> by_cases e' : u' = t <;> simp only [upd, e, e', if_true, if_false]
    · intros; trivial
    · intro h1 h2; exact absurd h2 (hd u' e' b h1)
    · intro h1 h2; exact absurd h1 (hd u e b h2)
    · exact h.disj u u' b
  mine u b := by
    by_cases e : u = t
    · simp only [upd, e, if_true]; exact hm b
    · simp only [upd, e, if_false]; exact h.mine u b
  vals u y hs := by
    rw [RF.slot_set] at hs
    by_cases e : u = t
    · simp only [e, if_true, Slot.val.injEq] at hs; subst hs; simp only [upd, e, if_true]; exact hr
    · simp only [e, if_false] at hs; simp only [upd, e, if_false]; exact h.vals u y hs
  rest u hs := by
    by_cases e : u = t
    · exact absurd (by rw [RF.slot_set, if_pos e]) (hs x)
    · simp only [upd, e, if_false]; exact h.rest u (fun y hy => hs y (by rw [RF.slot_set, if_neg e]; exact hy))
  vle u r p k n hs := by
    rw [RF.slot_set] at hs
    by_cases e : u = t
    · simp [e] at hs
    · simp only [e, if_false] at hs
      have := h.vle u r p k n hs
      rw [RF.ver_set]; split
      · rename_i e2; rw [e2] at this; omega
      · exact this
  pls u r p k n hs hn := by
    rw [RF.slot_set] at hs
    by_cases e : u = t
    · simp [e] at hs
    · simp only [e, if_false] at hs
      have hle := h.vle u r p k n hs
      by_cases e2 : r = t
      · have hn := RF.ok_ver hn; subst e2; rw [RF.ver_set, if_pos rfl] at hn; omega
      · rw [RF.ok_set_ne e2] at hn
        obtain ⟨x', y, u', hx, hf, hv⟩ := h.pls u r p k n hs hn
        refine ⟨x', y, u', by rw [RF.slot_set, if_neg e2]; exact hx, ?_, ?_⟩
        · rw [upd_ne _ _ e2]; exact hf
        · rw [upd_ne _ _ e]; exact hv
  glob := h.glob
  gle r p k n v hs := by
    have := h.gle r p k n v hs
    rw [RF.ver_set]; split
    · rename_i e2; rw [e2] at this; omega
    · exact this
  gpl r p k n v hs hn := by
    have hle := h.gle r p k n v hs
    by_cases e2 : r = t
    · have hn := RF.ok_ver hn; subst e2; rw [RF.ver_set, if_pos rfl] at hn; omega
    · rw [RF.ok_set_ne e2] at hn
      obtain ⟨x', y, u', hx, hf, hv⟩ := h.gpl r p k n v hs hn
      exact ⟨x', y, u', by rw [RF.slot_set, if_neg e2]; exact hx, by rw [upd_ne _ _ e2]; exact hf, hv⟩

theorem Rel.setDead (h : Rel X Z w φ tm F) (t : Tmp) (v : Value) : Rel X Z w (upd φ t []) (upd tm t v) (F.set t .dead) where
  nodup u := by by_cases e : u = t <;> simp [upd, e, h.nodup]
  disj u u' b := by
    by_cases e : u = t <;> by_cases e' : u' = t <;> simp only [upd, e, e', if_true, if_false]
    · intros; trivial
    · intro h1; simp at h1
    · intro _ h1; simp at h1
    · exact h.disj u u' b
  mine u b := by
    by_cases e : u = t
    · simp [upd, e]
    · simp only [upd, e, if_false]; exact h.mine u b
  vals u y hs := by
    rw [RF.slot_set] at hs
    by_cases e : u = t
    · simp [e] at hs
    · simp only [e, if_false] at hs; simp only [upd, e, if_false]; exact h.vals u y hs
  rest u hs := by
    by_cases e : u = t
    · simp [upd, e]
    · simp only [upd, e, if_false]; exact h.rest u (fun y hy => hs y (by rw [RF.slot_set, if_neg e]; exact hy))
  vle u r p k n hs := by
    rw [RF.slot_set] at hs
    by_cases e : u = t
    · simp [e] at hs
    · simp only [e, if_false] at hs
      have := h.vle u r p k n hs
      rw [RF.ver_set]; split
      · rename_i e2; rw [e2] at this; omega
      · exact this
  pls u r p k n hs hn := by
    rw [RF.slot_set] at hs
    by_cases e : u = t
    · simp [e] at hs
    · simp only [e, if_false] at hs
      have hle := h.vle u r p k n hs
      by_cases e2 : r = t
      · have hn := RF.ok_ver hn; subst e2; rw [RF.ver_set, if_pos rfl] at hn; omega
      · rw [RF.ok_set_ne e2] at hn
        obtain ⟨x', y, u', hx, hf, hv⟩ := h.pls u r p k n hs hn
        refine ⟨x', y, u', by rw [RF.slot_set, if_neg e2]; exact hx, ?_, ?_⟩
        · rw [upd_ne _ _ e2]; exact hf
        · rw [upd_ne _ _ e]; exact hv
  glob := h.glob
  gle r p k n v hs := by
    have := h.gle r p k n v hs
    rw [RF.ver_set]; split
    · rename_i e2; rw [e2] at this; omega
    · exact this
  gpl r p k n v hs hn := by
    have hle := h.gle r p k n v hs
    by_cases e2 : r = t
    · have hn := RF.ok_ver hn; subst e2; rw [RF.ver_set, if_pos rfl] at hn; omega
    · rw [RF.ok_set_ne e2] at hn
      obtain ⟨x', y, u', hx, hf, hv⟩ := h.gpl r p k n v hs hn
      exact ⟨x', y, u', by rw [RF.slot_set, if_neg e2]; exact hx, by rw [upd_ne _ _ e2]; exact hf, hv⟩

theorem Rel.setPl (h : Rel X Z w φ tm F) {t r : Tmp} {p : Path} {k : View} {v : Value} (hrt : r ≠ t) (hp : PlOk w F tm r p k v) :
    Rel X Z w (upd φ t []) (upd tm t v) (F.set t (.pl r p k (F.ver r))) where
  nodup u := by by_cases e : u = t <;> simp [upd, e, h.nodup]
  disj u u' b := by
    by_cases e : u = t <;> by_cases e' : u' = t <;> simp only [upd, e, e', if_true, if_false]
    · intros; trivial
    · intro h1; simp at h1
    · intro _ h1; simp at h1
    · exact h.disj u u' b
  mine u b := by
    by_cases e : u = t
    · simp [upd, e]
    · simp only [upd, e, if_false]; exact h.mine u b
  vals u y hs := by
    rw [RF.slot_set] at hs
    by_cases e : u = t
    · simp [e] at hs
    · simp only [e, if_false] at hs; simp only [upd, e, if_false]; exact h.vals u y hs
  rest u hs := by
    by_cases e : u = t
    · simp [upd, e]
    · simp only [upd, e, if_false]; exact h.rest u (fun y hy => hs y (by rw [RF.slot_set, if_neg e]; exact hy))
  vle u r' p' k' n hs := by
    rw [RF.slot_set] at hs
    by_cases e : u = t
    · simp only [e, if_true, Slot.pl.injEq] at hs
      obtain ⟨rfl, _, _, rfl⟩ := hs
      rw [RF.ver_set, if_neg hrt]; exact Nat.le_refl _
    · simp only [e, if_false] at hs
      have := h.vle u r' p' k' n hs
      rw [RF.ver_set]; split
      · rename_i e2; rw [e2] at this; omega
      · exact this
  pls u r' p' k' n hs hn := by
    rw [RF.slot_set] at hs
    by_cases e : u = t
    · simp only [e, if_true, Slot.pl.injEq] at hs
      obtain ⟨rfl, rfl, rfl, rfl⟩ := hs
      obtain ⟨x', y, u', hx, hf, hv⟩ := hp
      refine ⟨x', y, u', by rw [RF.slot_set, if_neg hrt]; exact hx, ?_, ?_⟩
      · rw [upd_ne _ _ hrt]; exact hf
      · rw [e, upd_self]; exact hv
    · simp only [e, if_false] at hs
      have hle := h.vle u r' p' k' n hs
      by_cases e2 : r' = t
      · have hn := RF.ok_ver hn; subst e2; rw [RF.ver_set, if_pos rfl] at hn; omega
      · rw [RF.ok_set_ne e2] at hn
        obtain ⟨x', y, u', hx, hf, hv⟩ := h.pls u r' p' k' n hs hn
        refine ⟨x', y, u', by rw [RF.slot_set, if_neg e2]; exact hx, ?_, ?_⟩
        · rw [upd_ne _ _ e2]; exact hf
        · rw [upd_ne _ _ e]; exact hv
  glob := h.glob
  gle r p k n v hs := by
    have := h.gle r p k n v hs
    rw [RF.ver_set]; split
    · rename_i e2; rw [e2] at this; omega
    · exact this
  gpl r p k n v hs hn := by
    have hle := h.gle r p k n v hs
    by_cases e2 : r = t
    · have hn := RF.ok_ver hn; subst e2; rw [RF.ver_set, if_pos rfl] at hn; omega
    · rw [RF.ok_set_ne e2] at hn
      obtain ⟨x', y, u', hx, hf, hv⟩ := h.gpl r p k n v hs hn
      exact ⟨x', y, u', by rw [RF.slot_set, if_neg e2]; exact hx, by rw [upd_ne _ _ e2]; exact hf, hv⟩

/-- The world changes beside the frame. -/
theorem Rel.keep (h : Rel X Z w φ tm F) {w' : World} {Z' : Nat → Prop}
    (hk : ∀ b, b < w.heap.size → ((∃ t, b ∈ φ t) ∨ ¬ Z b) → (Z b ↔ Z' b) ∧ w'.heap[b]? = w.heap[b]?) : Rel X Z' w' φ tm F where
  nodup := h.nodup
  disj := h.disj
  mine := h.mine
  vals t x hs := RepV_frame (fun b hb hm => hk b hb (hm.imp (fun h => ⟨t, h⟩) id)) (h.vals t x hs)
  rest := h.rest
  vle := h.vle
  glob g cs hg := Rep_frame.1 _ _ _ (fun b hb hm => hk b hb (hm.imp (fun h => by simp at h) id)) (h.glob g cs hg)
  gle := h.gle
  pls t r p k n hs hn := h.plOk_keep (h.pls t r p k n hs hn) fun b hb hm => hk b hb (hm.imp (fun h => ⟨r, h⟩) id)
  gpl r p k n v hs hn := h.plOk_keep (h.gpl r p k n v hs hn) fun b hb hm => hk b hb (hm.imp (fun h => ⟨r, h⟩) id)
end Go.V
/- Frames: what is taken out of a slot, and out of the middle of one. -/
namespace Go.V
set_option linter.unusedVariables false
set_option linter.unusedSimpArgs false

/-- The way to the block in which a cell was replaced is the same. -/
theorem follow_putC {w : World} {i o : Nat} {y' : PV} : ∀ (q : Path) (x : PV) (v : Value) (x' h : PV) (hv : Value), x.putC q i o y' = some x' → follow w x v q = some (h, hv) →
    follow w x' v q = some (h.upd i o y', hv)
  | [], x, v, x', h, hv, hp, hf => by
    simp only [follow, Option.some.injEq, Prod.mk.injEq] at hf ⊢
    obtain ⟨rfl, rfl⟩ := hf
    simp only [PV.putC] at hp
    split at hp
    · exact ⟨(Option.some.inj hp).symm, rfl⟩
    · cases hp
  | (j, k) :: q, x, v, x', h, hv, hp, hf => by
    simp only [PV.putC] at hp
    split at hp
    case isFalse => cases hp
    simp only [Option.bind_eq_some_iff, Option.map_eq_some_iff] at hp
    obtain ⟨c, hc, c', hc', rfl⟩ := hp
    simp only [follow, Option.bind_eq_some_iff] at hf ⊢
    obtain ⟨c2, hc2, u, ⟨A, hA, hu⟩, hf⟩ := hf
    obtain rfl : c2 = c := by rw [hc] at hc2; exact (Option.some.inj hc2).symm
    exact ⟨c', at_upd hc (putC_cell1 hc').2, u, ⟨A, by rw [place_upd]; exact hA, hu⟩, follow_putC q c2 u c' h hv hc' hf⟩

theorem get_of_follow {w : World} {y : PV} {u : Value} : ∀ (p : Path) (x : PV) (v : Value), follow w x v p = some (y, u) → x.get? p = some y
  | [], x, v, hf => by simp only [follow, Option.some.injEq, Prod.mk.injEq] at hf; simp [PV.get?, hf.1]
  | (i, o) :: p, x, v, hf => by
    simp only [follow, Option.bind_eq_some_iff] at hf
    obtain ⟨c, hc, u1, ⟨A, hA, hu1⟩, hf⟩ := hf
    simp only [PV.get?, hc, Option.bind_some]; exact get_of_follow p _ _ hf

/-- neighboring cells taken out, one by one -/
def takeCells (p : Path) (i : Nat) : PV → Nat → Nat → Option (List PV × PV)
  | x, _, 0 => some ([], x)
  | x, o, n + 1 => ((x.get? p).bind fun y => y.at? i o).bind fun c => (x.putC p i o .dead).bind fun x' => (takeCells p i x' (o + 1) n).map fun r => (c :: r.1, r.2)

theorem Keeps.refl (w : World) (Z : Nat → Prop) (φ : List Nat) : Keeps w w Z Z φ := fun _ _ _ => ⟨Iff.rfl, rfl⟩

/-- One cell taken out. -/
theorem putC_dead {w : World} {Z : Nat → Prop} {i o : Nat} {q : Path} {x : PV} {φ : List Nat} {v : Value} {x' : PV} (hnd : φ.Nodup) (h : Rep w Z x φ [v]) (hp : x.putC q i o .dead = some x') :
    ∃ g hv A y u φ₁ φy φ₂, follow w x v q = some (g, hv) ∧ g.at? i o = some y ∧ y.cell1 = true ∧ place g hv i o = some A ∧ w.cell? A = some u ∧ A.spot = none ∧ φ = φ₁ ++ φy ++ φ₂ ∧ Rep w Z y φy [u] ∧ Rep w Z x' (φ₁ ++ φ₂) [v] := by
  obtain ⟨g, hv, A, y, u, φ₁, φy, φ₂, hf, hy, hyc, hA, hu, hsp, hmem, hfz, he, hr, hrep⟩ := putC_rep q x φ v x' hnd h hp
  refine ⟨g, hv, A, y, u, φ₁, φy, φ₂, hf, hy, hyc, hA, hu, hsp, he, hr, ?_⟩
  have := (hrep w Z [] u rfl (by intro b _ _; exact ⟨Iff.rfl, fun _ => rfl⟩) (Chg.same rfl hu hsp) (by simp [Rep, Rep_oneCell hr hyc])).1
  simpa using this

theorem takeCells_rep {w : World} {Z : Nat → Prop} {p : Path} {i : Nat} {v : Value} : ∀ (n o : Nat) (x : PV) (φ : List Nat) (cs : List PV) (x' : PV), φ.Nodup → Rep w Z x φ [v] →
    takeCells p i x o n = some (cs, x') → ∀ (g : PV) (gv : Value) (A : Addr), follow w x v p = some (g, gv) → place g gv i 0 = some A →
    ∃ φ' φc vs, Rep w Z x' φ' [v] ∧ RepL w Z cs φc vs ∧ (∀ c ∈ cs, c.cell1 = true) ∧ vs.length = n ∧ (∀ j, j < n → w.cell? ⟨A.block, A.off + (o + j), none⟩ = vs[j]?) ∧
      φ'.Nodup ∧ φc.Nodup ∧ (∀ b ∈ φ', b ∈ φ ∧ b ∉ φc) ∧ (∀ b ∈ φc, b ∈ φ)
  | 0, o, x, φ, cs, x', hnd, h, ht, g, gv, A, hf, hA => by
    simp only [takeCells, Option.some.injEq, Prod.mk.injEq] at ht
    obtain ⟨rfl, rfl⟩ := ht
    exact ⟨φ, [], [], h, RepL_nil.2 ⟨rfl, rfl⟩, by simp, rfl, fun j hj => by omega, hnd, List.nodup_nil, fun b hb => ⟨hb, by simp⟩, by simp⟩
  | n + 1, o, x, φ, cs, x', hnd, h, ht, g, gv, A, hf, hA => by
    simp only [takeCells, Option.bind_eq_some_iff, Option.map_eq_some_iff] at ht
    obtain ⟨c, ⟨g2, hg2, hc⟩, x1, hx1, ⟨cs', x''⟩, ht, he⟩ := ht
    simp only [Prod.mk.injEq] at he
    obtain ⟨rfl, rfl⟩ := he
    obtain rfl : g = g2 := by have := get_of_follow p x v hf; rw [hg2] at this; exact (Option.some.inj this).symm
    obtain ⟨g3, gv3, A1, y, u, φ₁, φy, φ₂, hf3, hy, hyc, hA1, hu, hsp, rfl, hr, hr1⟩ := putC_dead hnd h hx1
    obtain ⟨rfl, rfl⟩ : g = g3 ∧ gv = gv3 := by rw [hf] at hf3; simpa using hf3
    obtain rfl : c = y := by rw [hc] at hy; exact Option.some.inj hy
    have hndx := List.nodup_append.1 hnd
    have hndy := List.nodup_append.1 hndx.1
    have hnd1 : (φ₁ ++ φ₂).Nodup := List.nodup_append.2 ⟨hndy.1, hndx.2.1, fun a ha b hb => hndx.2.2 a (by simp [ha]) b hb⟩
    obtain ⟨φ', φc, vs, k1, k2, k3, k4, k5, k6, k7, k8, k9⟩ := takeCells_rep n (o + 1) x1 _ _ _ hnd1 hr1 ht (g.upd i o .dead) gv A (follow_putC p x v x1 g gv hx1 hf) (by rw [place_upd]; exact hA)
    have hyin : ∀ b ∈ φy, b ∉ φ₁ ++ φ₂ := by
      intro b hb hb2
      rcases List.mem_append.1 hb2 with hb2 | hb2
      · exact hndy.2.2 b hb2 b hb rfl
      · exact hndx.2.2 b (by simp [hb]) b hb2 rfl
    have hcell : c.cell1 = true := hyc
    have hA1' : A1 = ⟨A.block, A.off + o, none⟩ := by
      clear k1 k2 k3 k5
      cases g with
      | sl f sz xs =>
        cases gv with
        | slice a l c => cases a with
          | none => simp [place] at hA
          | some a => simp only [place, Option.some.injEq] at hA hA1; subst hA hA1; simp [Nat.add_assoc]
        | _ => simp [place] at hA
      | ptr f cs =>
        cases gv with
        | pointer a => cases a with
          | none => simp [place] at hA
          | some a => simp only [place, Option.some.injEq] at hA hA1; subst hA hA1; simp
        | _ => simp [place] at hA
      | _ => simp [place] at hA
    refine ⟨φ', φy ++ φc, u :: vs, k1, RepL_cons.2 ⟨φy, φc, [u], vs, rfl, rfl, hr, k2⟩, ?_, by simp [k4], ?_, k6, ?_, ?_, ?_⟩
    · intro z hz; rcases List.mem_cons.1 hz with rfl | hz
      · exact hcell
      · exact k3 z hz
    · intro j hj
      cases j with
      | zero => simp only [Nat.add_zero, List.getElem?_cons_zero]; rw [← hu, hA1']
      | succ j => simp only [List.getElem?_cons_succ]; rw [← k5 j (by omega)]; congr 2; omega
    · exact List.nodup_append.2 ⟨hndy.2.1, k7, fun a ha b hb e => hyin a ha (e ▸ k9 b hb)⟩
    · intro b hb
      have := k8 b hb
      refine ⟨by have := this.1; simp only [List.mem_append] at this ⊢; rcases this with h | h <;> simp [h], ?_⟩
      intro hb2
      rcases List.mem_append.1 hb2 with hb2 | hb2
      · exact hyin b hb2 this.1
      · exact this.2 hb2
    · intro b hb
      rcases List.mem_append.1 hb with hb | hb
      · simp [hb]
      · have := k9 b hb; simp only [List.mem_append] at this ⊢; rcases this with h | h <;> simp [h]

def splitLast : Path → Option (Path × Nat × Nat)
  | [] => none
  | c :: p => match splitLast p with
    | none => some ([], c.1, c.2)
    | some (q, d) => some (c :: q, d)
theorem splitLast_none {p : Path} (h : splitLast p = none) : p = [] := by
  cases p with
  | nil => rfl
  | cons c p => simp only [splitLast] at h; split at h <;> cases h
theorem splitLast_some : ∀ {p q : Path} {i o : Nat}, splitLast p = some (q, i, o) → p = q ++ [(i, o)]
  | [], q, i, o, h => by simp [splitLast] at h
  | c :: p, q, i, o, h => by
    simp only [splitLast] at h
    split at h
    · rename_i hn
      simp only [Option.some.injEq, Prod.mk.injEq] at h
      obtain ⟨rfl, rfl, rfl⟩ := h
      rw [splitLast_none hn]; rfl
    · rename_i q' d hs
      simp only [Option.some.injEq, Prod.mk.injEq] at h
      obtain ⟨rfl, rfl⟩ := h
      rw [splitLast_some hs]; rfl
theorem follow_append {w : World} : ∀ (q p : Path) (x : PV) (v : Value), follow w x v (q ++ p) = (follow w x v q).bind fun r => follow w r.1 r.2 p
  | [], p, x, v => by simp [follow]
  | (i, o) :: q, p, x, v => by
    simp only [List.cons_append, follow]
    cases x.at? i o with
    | none => rfl
    | some c =>
      simp only [Option.bind_some]
      cases (place x v i o).bind w.cell? with
      | none => rfl
      | some u => simp only [Option.bind_some]; exact follow_append q p c u

/-- what is taken out of a slot; the frame that is left -/
def RF.take (F : RF) (t : Tmp) : Option (PV × RF) :=
  (F.content t).bind fun y =>
    if y.noOwn then some (y, F) else
    match F.slot t with
    | .dead => none
    | .val _ => some (y, F.set t .dead)
    | .pl r p k n =>
      match k with
      | .addr _ _ => none
      | .arr _ _ _ _ _ => none
      | .cells i o n _ =>
        match F.slot r with
        | .val x => (takeCells p i x o n).map fun c => (.agg c.1, F.set r (.val c.2))
        | _ => none
      | _ =>
        match splitLast p with
        | none => some (y, F.set r .dead)
        | some (q, i, o) =>
          match F.slot r with
          | .val x => (x.putC q i o .dead).map fun x' => (y, F.set r (.val x'))
          | _ => none

structure Taken (X : Cx) (Z : Nat → Prop) (w : World) (φ : Tmp → List Nat) (tm : Tmp → Value) (F' : RF) (y : PV) (v : Value) (φ' : Tmp → List Nat) (φy : List Nat) : Prop where
  rel : Rel X Z w φ' tm F'
  rep : RepV w Z y φy v
  nodup : φy.Nodup
  was : ∀ b ∈ φy, ∃ r, b ∈ φ r
  less : ∀ r b, b ∈ φ' r → b ∈ φ r
  apart : ∀ r, ∀ b ∈ φy, b ∉ φ' r

variable {X : Cx} {Z : Nat → Prop} {w : World} {φ : Tmp → List Nat} {tm : Tmp → Value} {F : RF}

theorem upd_eta (tm : Tmp → Value) (t : Tmp) : upd tm t (tm t) = tm := by funext u; by_cases e : u = t <;> simp [upd, e]

theorem Rel.take (h : Rel X Z w φ tm F) {t : Tmp} {y : PV} {F' : RF} (ht : F.take t = some (y, F')) : ∃ φ' φy, Taken X Z w φ tm F' y (tm t) φ' φy := by
  unfold RF.take at ht
  simp only [Option.bind_eq_some_iff] at ht
  obtain ⟨z, hz, ht⟩ := ht
  split at ht
  · rename_i hn
    obtain ⟨rfl, rfl⟩ : z = y ∧ F = F' := by simpa using ht
    obtain ⟨φy, hr, hw, hnd⟩ := h.content hz
    obtain rfl := RepV_noOwn hn hr
    exact ⟨φ, [], h, hr, hnd, by simp, fun _ _ h => h, by simp⟩
  rename_i hn
  unfold RF.content at hz
  split at ht
  · cases ht
  · -- a value of the slot's own
    rename_i x hs
    rw [hs] at hz
    obtain ⟨rfl, rfl⟩ : z = y ∧ F.set t .dead = F' := by simpa using ht
    obtain rfl : x = z := by simpa using hz
    have hr := h.vals t x hs
    refine ⟨upd φ t [], φ t, ?_, hr, h.nodup t, fun b hb => ⟨t, hb⟩, ?_, ?_⟩
    · have := h.setDead t (tm t); rwa [upd_eta] at this
    · intro r b hb; by_cases e : r = t
      · simp [upd, e] at hb
      · simpa [upd, e] using hb
    · intro r b hb; by_cases e : r = t
      · simp [upd, e]
      · simp only [upd, e, if_false]; exact fun hb2 => e (h.disj r t b hb2 hb)
  · rename_i r p k n hs
    rw [hs] at hz
    simp only at hz
    split at hz
    case isFalse => cases hz
    case isTrue hver =>
    obtain ⟨x, y0, u, φy0, hx, hf, hv, hg, hr, hsub⟩ := h.plRep hs hver
    rw [hx] at hz
    simp only [hg, Option.bind_some] at hz
    have hrx := h.vals r x hx
    -- the frame with slot r changed
    have fin : ∀ (x' : PV) (φ' φc : List Nat) (z' : PV), RepV w Z x' φ' (tm r) → φ'.Nodup → (∀ b ∈ φ', b ∈ φ r ∧ b ∉ φc) → (∀ b ∈ φc, b ∈ φ r) → φc.Nodup → RepV w Z z' φc (tm t) →
        Taken X Z w φ tm (F.set r (.val x')) z' (tm t) (upd φ r φ') φc := by
      intro x' φ' φc z' h1 h2 h3 h4 h5 h6
      refine ⟨?_, h6, h5, fun b hb => ⟨r, h4 b hb⟩, ?_, ?_⟩
      · have := h.setVal (t := r) h1 h2 (fun b hb => h.mine r b (h3 b hb).1) (fun u hu b hb hb2 => hu (h.disj u r b hb2 (h3 b hb).1))
        rwa [upd_eta] at this
      · intro r' b hb; by_cases e : r' = r
        · subst e; rw [upd_self] at hb; exact (h3 b hb).1
        · rwa [upd_ne _ _ e] at hb
      · intro r' b hb; by_cases e : r' = r
        · subst e; rw [upd_self]; exact fun hb2 => (h3 b hb2).2 hb
        · rw [upd_ne _ _ e]; exact fun hb2 => e (h.disj r' r b hb2 (h4 b hb))
    have common : ∀ (hk : (∃ lo hi, k = .sub lo hi) ∨ k = .self), (match splitLast p with
        | none => some (z, F.set r .dead)
        | some (q, i, o) => match F.slot r with | .val x => (x.putC q i o .dead).map fun x' => (z, F.set r (.val x')) | _ => none) = some (y, F') → ∃ φ' φy, Taken X Z w φ tm F' y (tm t) φ' φy := by
      intro hk ht
      obtain ⟨φz, hzs, hzr⟩ := RepV_view hr hz hv
      split at ht
      · rename_i hsp
        obtain ⟨rfl, rfl⟩ : z = y ∧ F.set r .dead = F' := by simpa using ht
        obtain rfl := splitLast_none hsp
        have hsubr : φz.Sublist (φ r) := hzs.trans hsub
        refine ⟨upd φ r [], φz, ?_, hzr, (h.nodup r).sublist hsubr, fun b hb => ⟨r, hsubr.subset hb⟩, ?_, ?_⟩
        · have := h.setDead r (tm r); rwa [upd_eta] at this
        · intro r' b hb; by_cases e : r' = r
          · simp [upd, e] at hb
          · simpa [upd, e] using hb
        · intro r' b hb; by_cases e : r' = r
          · simp [upd, e]
          · simp only [upd, e, if_false]; exact fun hb2 => e (h.disj r' r b hb2 (hsubr.subset hb))
      · rename_i q i o hsp
        rw [hx] at ht
        simp only [Option.map_eq_some_iff, Prod.mk.injEq] at ht
        obtain ⟨x', hx', rfl, rfl⟩ := ht
        obtain rfl := splitLast_some hsp
        have hc1 := putC_cell1 hx'
        rw [RepV_cell hc1.1] at hrx
        obtain ⟨g, gv, A, y1, u1, φ₁, φy, φ₂, hf1, hy1, hyc, hA, hu1, hsp1, he, hr1, hr2⟩ := putC_dead (h.nodup r) hrx hx'
        have hndr := h.nodup r
        rw [he] at hndr
        have hndx := List.nodup_append.1 hndr
        have hndy := List.nodup_append.1 hndx.1
        -- the way's end is that cell
        have hend : y0 = y1 ∧ u = u1 := by
          rw [follow_append, hf1] at hf
          simp only [Option.bind_some, follow, hy1, hA, hu1, Option.some.injEq, Prod.mk.injEq] at hf
          exact ⟨hf.1.symm, hf.2.symm⟩
        obtain ⟨rfl, rfl⟩ := hend
        obtain ⟨φz, hzs, hzr⟩ := RepV_view ((RepV_cell hyc).2 hr1) hz hv
        refine ⟨_, φz, fin x' (φ₁ ++ φ₂) φz z ((RepV_cell hc1.2).2 hr2) (List.nodup_append.2 ⟨hndy.1, hndx.2.1, fun a ha b hb => hndx.2.2 a (by simp [ha]) b hb⟩) ?_ ?_ (hndy.2.1.sublist hzs) hzr⟩
        · intro b hb
          refine ⟨by rw [he]; simp only [List.mem_append] at hb ⊢; rcases hb with hb | hb <;> simp [hb], fun hb2 => ?_⟩
          have hb3 := hzs.subset hb2
          rcases List.mem_append.1 hb with hb | hb
          · exact hndy.2.2 b hb b hb3 rfl
          · exact hndx.2.2 b (by simp [hb3]) b hb rfl
        · intro b hb; rw [he]; have := hzs.subset hb; simp [this]
    cases k with
    | addr i o => simp at ht
    | arr i o lo hi n => simp at ht
    | self => exact common (.inr rfl) ht
    | sub lo hi => exact common (.inl ⟨lo, hi, rfl⟩) ht
    | cells i o m _ =>
      simp only [hx, Option.map_eq_some_iff, Prod.mk.injEq] at ht
      obtain ⟨⟨cs, x'⟩, hcs, rfl, rfl⟩ := ht
      simp only [viewOk] at hv
      obtain ⟨row, A, vs, hrow, hn', hA, hlen, hcells, htv⟩ := hv
      have hA0 : ∃ A0, place y0 u i 0 = some A0 ∧ A.block = A0.block ∧ A.off = A0.off + o := by
        cases y0 with
        | sl f sz xs =>
          cases u with
          | slice a l c => cases a with
            | none => simp [place] at hA
            | some a => simp only [place, Option.some.injEq] at hA ⊢; subst hA; exact ⟨_, rfl, rfl, by simp [Nat.add_assoc]⟩
          | _ => simp [place] at hA
        | ptr f cs =>
          cases u with
          | pointer a => cases a with
            | none => simp [place] at hA
            | some a => simp only [place, Option.some.injEq] at hA ⊢; subst hA; exact ⟨_, rfl, rfl, by simp⟩
          | _ => simp [place] at hA
        | _ => simp [place] at hA
      obtain ⟨A0, hA0, hblk, hoff⟩ := hA0
      have hxc : x.cell1 = true := by
        cases p with
        | nil => simp only [follow, Option.some.injEq, Prod.mk.injEq] at hf; rw [hf.1]; exact row_cell1 hrow
        | cons c p =>
          obtain ⟨c1, c2⟩ := c
          simp only [follow, Option.bind_eq_some_iff] at hf; obtain ⟨c, hc, _⟩ := hf; exact at_cell1 hc
      have hx'c : x'.cell1 = true := by
        have : ∀ (n o : Nat) (x x' : PV) (cs : List PV), x.cell1 = true → takeCells p i x o n = some (cs, x') → x'.cell1 = true := by
          intro n
          induction n with
          | zero => intro o x x' cs hc ht; simp only [takeCells, Option.some.injEq, Prod.mk.injEq] at ht; rw [← ht.2]; exact hc
          | succ n ih =>
            intro o x x' cs hc ht
            simp only [takeCells, Option.bind_eq_some_iff, Option.map_eq_some_iff, Prod.mk.injEq] at ht
            obtain ⟨_, _, x1, hx1, r, hr, _, rfl⟩ := ht
            exact ih _ x1 r.2 r.1 (putC_cell1 hx1).2 hr
        exact this _ _ _ _ _ hxc hcs
      rw [RepV_cell hxc] at hrx
      obtain ⟨φ', φc, vs', k1, k2, k3, k4, k5, k6, k7, k8, k9⟩ := takeCells_rep m o x _ cs x' (h.nodup r) hrx hcs y0 u A0 hf hA0
      obtain rfl : vs = vs' := by
        apply List.ext_getElem?
        intro j
        by_cases hj : j < m
        · rw [← hcells j hj, ← k5 j hj, hblk, hoff]; congr 2; omega
        · rw [List.getElem?_eq_none (by omega), List.getElem?_eq_none (by omega)]
      exact ⟨_, φc, fin x' φ' φc (.agg cs) ((RepV_cell hx'c).2 k1) k6 k8 k9 k7 (by rw [htv]; exact RepV_agg.2 ⟨vs, rfl, by simp only [Rep]; exact ⟨k2, k3⟩⟩)⟩
end Go.V
/- Frames: a store. -/
namespace Go.V
set_option linter.unusedVariables false
set_option linter.unusedSimpArgs false

/-- how the world goes on: beside what is mine nothing changes -/
structure Stp (mine : Nat → Prop) (w w' : World) : Prop where
  os : w'.os = w.os
  tape : w'.tape = w.tape
  output : w'.output = w.output
  size : w.heap.size ≤ w'.heap.size
  block : ∀ b, b < w.heap.size → ¬ mine b → w'.heap[b]? = w.heap[b]?
theorem Stp.refl (mine : Nat → Prop) (w : World) : Stp mine w w := ⟨rfl, rfl, rfl, Nat.le_refl _, fun _ _ _ => rfl⟩
theorem Stp.trans {mine : Nat → Prop} {a b c : World} (h : Stp mine a b) (k : Stp mine b c) : Stp mine a c :=
  ⟨k.os.trans h.os, k.tape.trans h.tape, k.output.trans h.output, Nat.le_trans h.size k.size,
    fun i hi hm => (k.block i (Nat.lt_of_lt_of_le hi h.size) hm).trans (h.block i hi hm)⟩
theorem Stp.drew {mine : Nat → Prop} (w : World) : Stp mine w w.drew := ⟨rfl, rfl, rfl, Nat.le_refl _, fun _ _ _ => rfl⟩
theorem Stp.alloc {mine : Nat → Prop} (w : World) (o : Obj) : Stp mine w (w.alloc o) :=
  ⟨rfl, rfl, rfl, by simp, fun b hb _ => RowKit.Below.heap_alloc _ _ _ hb⟩
theorem Stp.setCell {mine : Nat → Prop} (w : World) {A : Addr} (h : mine A.block) (u : Value) : Stp mine w (w.setCell A u) :=
  ⟨rfl, rfl, rfl, by simp, fun b hb hm => RowKit.Below.heap_setCell _ _ _ _ (by rintro rfl; exact hm h)⟩
theorem Stp.setCells {mine : Nat → Prop} {B : Nat} (h : mine B) : ∀ (us : List Value) (o : Nat) (w : World), Stp mine w (w.setCells B o us)
  | [], _, w => Stp.refl _ w
  | u :: us, o, w => (Stp.setCell w (A := ⟨B, o, none⟩) h u).trans (Stp.setCells h us (o + 1) _)
theorem setCells_heap {B : Nat} : ∀ (us : List Value) (o : Nat) (w : World) (b : Nat), b ≠ B → (w.setCells B o us).heap[b]? = w.heap[b]?
  | [], _, w, b, _ => rfl
  | u :: us, o, w, b, h => (setCells_heap us (o + 1) _ b h).trans (RowKit.Below.heap_setCell _ _ _ _ h)
theorem setCells_size {B : Nat} : ∀ (us : List Value) (o : Nat) (w : World), (w.setCells B o us).heap.size = w.heap.size
  | [], _, w => rfl
  | u :: us, o, w => (setCells_size us (o + 1) _).trans (by simp)

theorem Chg.setCell (w : World) (A : Addr) (u : Value) (hs : A.spot = none) : Chg w (w.setCell A u) A u := by
  intro cs T fr hb hlt
  refine ⟨cs.setIfInBounds A.off u, ?_, by simp, fun i hi => ?_, ?_⟩
  · simp only [World.setCell, Array.getElem?_modify, if_true, hb, Option.map_some, hs]; simp
  · rw [Array.getElem?_setIfInBounds_ne (by omega)]
  · rw [Array.getElem?_setIfInBounds_self]; simp [hlt]

def PV.putCs (p : Path) (i : Nat) : PV → Nat → List PV → Option PV
  | x, _, [] => some x
  | x, o, c :: cs => (x.putC p i o c).bind fun x' => PV.putCs p i x' (o + 1) cs

theorem place_at {g : PV} {gv : Value} {i o : Nat} {A A1 : Addr} (h0 : place g gv i 0 = some A) (h1 : place g gv i o = some A1) : A1 = ⟨A.block, A.off + o, none⟩ := by
  cases g with
  | sl f sz xs =>
    cases gv with
    | slice a l c => cases a with
      | none => simp [place] at h0
      | some a => simp only [place, Option.some.injEq] at h0 h1; subst h0 h1; simp [Nat.add_assoc]
    | _ => simp [place] at h0
  | ptr f cs =>
    cases gv with
    | pointer a => cases a with
      | none => simp [place] at h0
      | some a => simp only [place, Option.some.injEq] at h0 h1; subst h0 h1; simp
    | _ => simp [place] at h0
  | _ => simp [place] at h0

theorem one_oneCell' (v : Value) : v.oneCell' = one v := by cases v <;> rfl

/-- Cells replaced one by one, in the model and in the value. -/
theorem putCs_rep {Z : Nat → Prop} {p : Path} {i : Nat} {v : Value} {A : Addr} : ∀ (cs : List PV) (o : Nat) (x : PV) (w : World) (φ φc : List Nat) (us : List Value) (x' g : PV) (gv : Value),
    φ.Nodup → Rep w Z x φ [v] → PV.putCs p i x o cs = some x' → RepL w Z cs φc us → (∀ c ∈ cs, c.cell1 = true) → φc.Nodup → (∀ b ∈ φc, b ∉ φ) → follow w x v p = some (g, gv) → place g gv i 0 = some A →
    ∃ φ', Rep (w.setCells A.block (A.off + o) us) Z x' φ' [v] ∧ φ'.Nodup ∧ (∀ b ∈ φ', b ∈ φ ∨ b ∈ φc) ∧ (cs ≠ [] → A.block ∈ φ) ∧
      (∀ j, j < us.length → (w.cell? ⟨A.block, A.off + o + j, none⟩).isSome = true) ∧ (∀ j, j < us.length → w.frozen? ⟨A.block, A.off + o + j, none⟩ = false) ∧ (∀ u ∈ us, u.oneCell' = true)
  | [], o, x, w, φ, φc, us, x', g, gv, hnd, h, hp, hl, hc, hndc, hap, hf, hA => by
    rw [RepL_nil] at hl; obtain ⟨rfl, rfl⟩ := hl
    simp only [PV.putCs, Option.some.injEq] at hp; subst hp
    exact ⟨φ, h, hnd, fun b hb => .inl hb, fun h => absurd rfl h, fun j hj => by simp at hj, fun j hj => by simp at hj, by simp⟩
  | c :: cs, o, x, w, φ, φc, us, x', g, gv, hnd, h, hp, hl, hc, hndc, hap, hf, hA => by
    rw [RepL_cons] at hl; obtain ⟨φ₁, φ₂, v₁, us', rfl, rfl, h1, h2⟩ := hl
    have hl1 : v₁.length = 1 := by rw [h1.length, PV.cell1_width (hc c (by simp))]
    obtain ⟨u, rfl⟩ := List.length_eq_one_iff.1 hl1
    simp only [PV.putCs, Option.bind_eq_some_iff] at hp
    obtain ⟨x1, hx1, hp⟩ := hp
    obtain ⟨g1, gv1, A1, y, u0, ψ₁, ψy, ψ₂, hf1, hy, hyc, hA1, hu, hsp, hmem, hfz, rfl, hr, hrep⟩ := putC_rep p x φ v x1 hnd h hx1
    obtain ⟨rfl, rfl⟩ : g = g1 ∧ gv = gv1 := by rw [hf] at hf1; simpa using hf1
    obtain rfl := place_at hA hA1
    have hmemφ : A.block ∈ ψ₁ ++ ψy ++ ψ₂ := by simp only [List.mem_append] at hmem ⊢; rcases hmem with hm | hm <;> simp [hm]
    have hzA := (Rep_lt.1 _ _ _ h A.block hmemφ).2
    have hnd1 := List.nodup_append.1 hnd
    have hnd2 := List.nodup_append.1 hnd1.1
    have hndc' := List.nodup_append.1 hndc
    have hother : ∀ b, b ≠ A.block → (w.setCell ⟨A.block, A.off + o, none⟩ u).heap[b]? = w.heap[b]? := fun b hb => RowKit.Below.heap_setCell _ _ _ _ hb
    have hkeep : ∀ χ : List Nat, A.block ∉ χ → Keeps w (w.setCell ⟨A.block, A.off + o, none⟩ u) Z Z χ := by
      intro χ hχ
      refine fun b hb hm => ⟨Iff.rfl, hother b ?_⟩
      rintro rfl
      rcases hm with hm | hm
      · exact hχ hm
      · exact hm hzA
    have hA1' : A.block ∉ φ₁ := fun h => hap _ (by simp [h]) hmemφ
    have hA2' : A.block ∉ φ₂ := fun h => hap _ (by simp [h]) hmemφ
    obtain ⟨hrx, hfol⟩ := hrep (w.setCell ⟨A.block, A.off + o, none⟩ u) Z φ₁ u (hc c (by simp)) (by intro b hb hm; exact ⟨Iff.rfl, fun hne => hother b hne⟩)
      (Chg.setCell w _ u rfl) ((hkeep φ₁ hA1').rep (fun _ h => h) h1)
    have hndx : (ψ₁ ++ φ₁ ++ ψ₂).Nodup := by
      refine List.nodup_append.2 ⟨List.nodup_append.2 ⟨hnd2.1, hndc'.1, fun a ha b hb e => hap b (by simp [hb]) (by subst e; simp [ha])⟩, hnd1.2.1, fun a ha b hb e => ?_⟩
      subst e
      rcases List.mem_append.1 ha with ha | ha
      · exact hnd1.2.2 a (by simp [ha]) a hb rfl
      · exact hap a (by simp [ha]) (by simp [hb])
    obtain ⟨φ', k1, k2, k3, k4, k5, k6, k7⟩ := putCs_rep cs (o + 1) x1 _ _ φ₂ us' x' (g.upd i o c) gv hndx hrx hp ((hkeep φ₂ hA2').repL (fun _ h => h) h2) (fun c hm => hc c (by simp [hm])) hndc'.2.1
      (fun b hb hb2 => by
        simp only [List.mem_append] at hb2
        rcases hb2 with (hb2 | hb2) | hb2
        · exact hap b (by simp [hb]) (by simp [hb2])
        · exact hndc'.2.2 b hb2 b hb rfl
        · exact hap b (by simp [hb]) (by simp [hb2])) hfol (by rw [place_upd]; exact hA)
    refine ⟨φ', ?_, k2, ?_, fun _ => hmemφ, ?_, ?_, ?_⟩
    · simp only [List.cons_append, List.nil_append, World.setCells]; rw [Nat.add_assoc]; exact k1
    · intro b hb
      have := k3 b hb
      simp only [List.mem_append] at this ⊢
      rcases this with ((h | h) | h) | h <;> simp [h]
    · intro j hj
      cases j with
      | zero => rw [Nat.add_zero, hu]; rfl
      | succ j =>
        have := k5 j (by simp at hj; omega)
        rw [World.cell?_setCell_other _ _ _ _ (by simp; omega)] at this
        rwa [show A.off + o + (j + 1) = A.off + (o + 1) + j by omega]
    · intro j hj
      cases j with
      | zero => exact hfz
      | succ j =>
        have := k6 j (by simp at hj; omega)
        rw [World.frozen?_setCell] at this
        rwa [show A.off + o + (j + 1) = A.off + (o + 1) + j by omega]
    · intro z hz
      rcases List.mem_cons.1 hz with rfl | hz
      · rw [one_oneCell']; exact Rep_oneCell h1 (hc c (by simp))
      · exact k7 z hz

variable {X : Cx} {Z : Nat → Prop} {w : World} {φ : Tmp → List Nat} {tm : Tmp → Value} {F : RF}

/-- The cell that a pointer in a slot leads to. -/
def RF.target (F : RF) (t : Tmp) : Option (Tmp × Path × Nat × Nat) :=
  match F.slot t with
  | .val (.ptr _ _) => some (t, [], 0, 0)
  | .pl r p k n => if F.ok r k n = true then match k with
      | .addr i o => some (r, p, i, o)
      | .self => match F.slot r with
        | .val x => match x.get? p with
          | some (.ptr _ _) => some (r, p, 0, 0)
          | _ => none
        | _ => none
      | _ => none
    else none
  | _ => none

theorem Rel.target (h : Rel X Z w φ tm F) {t r : Tmp} {p : Path} {i o : Nat} (ht : F.target t = some (r, p, i, o)) :
    ∃ x y u A, F.slot r = .val x ∧ follow w x (tm r) p = some (y, u) ∧ x.get? p = some y ∧ place y u i o = some A ∧ tm t = .pointer (some A) ∧ A.spot = none ∧ (∃ φy, RepV w Z y φy u ∧ φy.Sublist (φ r)) := by
  have hspot : ∀ {y u i o A}, place y u i o = some A → A.spot = none := by
    intro y u i o A hA
    cases y with
    | sl f sz xs =>
      cases u with
      | slice a l c => cases a with
        | none => simp [place] at hA
        | some a => simp only [place, Option.some.injEq] at hA; subst hA; rfl
      | _ => simp [place] at hA
    | ptr f cs =>
      cases u with
      | pointer a => cases a with
        | none => simp [place] at hA
        | some a => simp only [place, Option.some.injEq] at hA; subst hA; rfl
      | _ => simp [place] at hA
    | _ => simp [place] at hA
  have hptr : ∀ {f cs φy u}, RepV w Z (.ptr f cs) φy u → ∃ A, place (.ptr f cs) u 0 0 = some A ∧ u = .pointer (some A) := by
    intro f cs φy u hr
    rw [RepV_cell rfl] at hr
    simp only [Rep] at hr
    obtain ⟨b, arr, T, fr, ψ, hv, _⟩ := hr
    obtain rfl : u = _ := by simpa using hv
    exact ⟨_, rfl, rfl⟩
  unfold RF.target at ht
  split at ht
  · rename_i f cs hs
    simp only [Option.some.injEq, Prod.mk.injEq] at ht
    obtain ⟨rfl, rfl, rfl, rfl⟩ := ht
    have hr := h.vals t _ hs
    obtain ⟨A, hA, hv⟩ := hptr hr
    exact ⟨_, _, _, A, hs, rfl, rfl, hA, hv, hspot hA, φ t, hr, List.Sublist.refl _⟩
  · rename_i r' p' k n hs
    split at ht
    case isFalse => cases ht
    case isTrue hok =>
    obtain ⟨x, y, u, φy, hx, hf, hv, hg, hr, hsub⟩ := h.plRep hs hok
    cases k with
    | addr i' o' =>
      simp only [Option.some.injEq, Prod.mk.injEq] at ht
      obtain ⟨rfl, rfl, rfl, rfl⟩ := ht
      simp only [viewOk] at hv
      obtain ⟨A, hA, hv⟩ := hv
      exact ⟨x, y, u, A, hx, hf, hg, hA, hv, hspot hA, φy, hr, hsub⟩
    | self =>
      simp only [hx, hg] at ht
      split at ht
      · rename_i f cs hy
        obtain rfl := Option.some.inj hy
        simp only [Option.some.injEq, Prod.mk.injEq] at ht
        obtain ⟨rfl, rfl, rfl, rfl⟩ := ht
        simp only [viewOk] at hv
        obtain ⟨A, hA, hu⟩ := hptr hr
        exact ⟨x, _, u, A, hx, hf, hg, hA, by rw [hv.1]; exact hu, hspot hA, φy, hr, hsub⟩
      · cases ht
    | _ => simp at ht
  · cases ht

/-- A slot's value is replaced by one that a store has left; what led through it is broken. -/
def RF.re (F : RF) (r : Tmp) (x : PV) : RF := (F.set r .dead).set r (.val x)

theorem Rel.store (h : Rel X Z w φ tm F) {r : Tmp} {x x' : PV} {p : Path} {i o : Nat} {cs : List PV} {φc : List Nat} {us : List Value} {y : PV} {u : Value} {A : Addr}
    (hx : F.slot r = .val x) (hp : PV.putCs p i x o cs = some x') (hl : RepL w Z cs φc us) (hc : ∀ c ∈ cs, c.cell1 = true) (hnd : φc.Nodup) (hap : ∀ t, ∀ b ∈ φc, b ∉ φ t)
    (hm : ∀ b ∈ φc, X.mine b) (hf : follow w x (tm r) p = some (y, u)) (hA : place y u i 0 = some A) :
    ∃ φ', Rel X Z (w.setCells A.block (A.off + o) us) φ' tm (F.re r x') ∧ Stp X.mine w (w.setCells A.block (A.off + o) us) ∧
      (∀ j, j < us.length → (w.cell? ⟨A.block, A.off + o + j, none⟩).isSome = true) ∧ (∀ j, j < us.length → w.frozen? ⟨A.block, A.off + o + j, none⟩ = false) ∧ (∀ u ∈ us, u.oneCell' = true) := by
  have hrx := h.vals r x hx
  cases cs with
  | nil =>
    simp only [PV.putCs, Option.some.injEq] at hp; subst hp
    rw [RepL_nil] at hl; obtain ⟨rfl, rfl⟩ := hl
    refine ⟨upd (upd φ r []) r (φ r), ?_, Stp.refl _ _, by simp, by simp, by simp⟩
    have h1 := h.setDead r (tm r)
    rw [upd_eta] at h1
    have h2 := h1.setVal (t := r) (x := x) (v := tm r) (φx := φ r) hrx (h.nodup r) (fun b hb => h.mine r b hb) (fun u hu b hb => by rw [upd_ne _ _ hu]; exact fun hb2 => hu (h.disj u r b hb2 hb))
    rw [upd_eta] at h2; exact h2
  | cons c cs =>
  have hxc : x.cell1 = true ∧ x'.cell1 = true := by
    simp only [PV.putCs, Option.bind_eq_some_iff] at hp
    obtain ⟨x1, hx1, hp⟩ := hp
    refine ⟨(putC_cell1 hx1).1, ?_⟩
    have : ∀ (cs : List PV) (o : Nat) (x x' : PV), x.cell1 = true → PV.putCs p i x o cs = some x' → x'.cell1 = true := by
      intro cs
      induction cs with
      | nil => intro o x x' hx hp; simp only [PV.putCs, Option.some.injEq] at hp; exact hp ▸ hx
      | cons c cs ih =>
        intro o x x' hx hp
        simp only [PV.putCs, Option.bind_eq_some_iff] at hp
        obtain ⟨x1, hx1, hp⟩ := hp
        exact ih _ _ _ (putC_cell1 hx1).2 hp
    exact this _ _ _ _ (putC_cell1 hx1).2 hp
  rw [RepV_cell hxc.1] at hrx
  obtain ⟨φ', k1, k2, k3, k4, k5, k6, k7⟩ := putCs_rep (c :: cs) o x w _ φc us x' y u (h.nodup r) hrx hp hl hc hnd (hap r) hf hA
  have hAr : A.block ∈ φ r := k4 (by simp)
  have hzA : Z A.block := (Rep_lt.1 _ _ _ hrx _ hAr).2
  refine ⟨upd (upd φ r []) r φ', ?_, Stp.setCells (h.mine r _ hAr) _ _ _, k5, k6, k7⟩
  have h1 := h.setDead r (tm r)
  rw [upd_eta] at h1
  have h2 := h1.keep (w' := w.setCells A.block (A.off + o) us) (Z' := Z) (fun b hb hm => ⟨Iff.rfl, setCells_heap _ _ _ _ (by
    rintro rfl
    rcases hm with ⟨t, ht⟩ | hm
    · by_cases e : t = r
      · simp [upd, e] at ht
      · rw [upd_ne _ _ e] at ht; exact e (h.disj t r _ ht hAr)
    · exact hm hzA)⟩)
  have h3 := h2.setVal (t := r) (x := x') (v := tm r) (φx := φ') ((RepV_cell hxc.2).2 k1) k2
    (fun b hb => (k3 b hb).elim (fun hb => h.mine r b hb) (fun hb => hm b hb))
    (fun t ht b hb => by
      rw [upd_ne _ _ ht]
      rcases k3 b hb with hb | hb
      · exact fun hb2 => ht (h.disj t r b hb2 hb)
      · exact hap t b hb)
  rw [upd_eta] at h3; exact h3
end Go.V
/- What an operation makes of a frame, and that the model's does so: reading, moving, whatever hangs on numbers, bools and strings alone. -/
namespace Go.V
set_option linter.unusedVariables false
set_option linter.unusedSimpArgs false

/-! ### Types -/
def esz (P : Program) (T : TypeId) : Nat := match P.info? T with | some i => i.size | none => 0
def ebytes (P : Program) (T : TypeId) : Nat := match P.info? T with | some i => i.bytes | none => 0
def aggT (P : Program) (T : TypeId) : Bool := match P.underlying T with | some (.struct _) | some (.array _ _) => true | _ => false
/-- of each cell of a type how many cells an element has, if it is a slice (1, if it is none) -/
def szs (P : Program) : Nat → TypeId → List Nat
  | 0, _ => []
  | d + 1, T => match P.underlying T with
    | some (.slice e) => [esz P e]
    | some (.struct fs) => fs.toList.flatMap fun f => szs P d f.type
    | some (.array n e) => (List.replicate n (szs P d e)).flatten
    | _ => [1]
def ofCell (v : Value) (sz : Nat) : Option PV :=
  match v with
  | .slice none 0 0 => if 0 < sz then some (.sl true sz []) else none
  | v => if flat v then some (.prim v) else none
def ofCells : List Value → List Nat → Option (List PV)
  | [], _ => some []
  | v :: vs, s :: ss => (ofCell v s).bind fun c => (ofCells vs ss).map (c :: ·)
  | _ :: _, [] => none
/-- a constant, or a zero, of a type -/
def ofConst (P : Program) (T : TypeId) (v : Value) : Option PV :=
  match v with
  | .agg vs => (ofCells vs.toList (szs P 8 T)).map .agg
  | v => (szs P 8 T).head?.bind fun s => ofCell v s
def zeroCs (P : Program) (T : TypeId) : Option (List PV) :=
  match P.info? T with
  | some i => match i.zero with
    | some z => ofCells z.cells.toList (szs P 8 T)
    | none => none
  | none => none

theorem ofCell_rep {w Z v sz c} (h : ofCell v sz = some c) : Rep w Z c [] [v] ∧ c.cell1 = true := by
  unfold ofCell at h
  split at h
  · split at h
    · rename_i hs; obtain rfl := Option.some.inj h
      exact ⟨by simp only [Rep]; exact ⟨none, 0, [], [], rfl, ⟨hs, by simp⟩, by simp [RepL], by simp, .inl ⟨trivial, trivial, fun _ => rfl⟩⟩, rfl⟩
    · cases h
  · split at h
    · rename_i hf; obtain rfl := Option.some.inj h
      exact ⟨by simp [Rep, hf], rfl⟩
    · cases h
theorem ofCells_rep {w Z} : ∀ {vs ss cs}, ofCells vs ss = some cs → RepL w Z cs [] vs ∧ ∀ c ∈ cs, c.cell1 = true
  | [], ss, cs, h => by simp only [ofCells, Option.some.injEq] at h; subst h; exact ⟨RepL_nil.2 ⟨rfl, rfl⟩, by simp⟩
  | v :: vs, [], cs, h => by simp [ofCells] at h
  | v :: vs, s :: ss, cs, h => by
    simp only [ofCells, Option.bind_eq_some_iff, Option.map_eq_some_iff] at h
    obtain ⟨c, hc, cs', hcs, rfl⟩ := h
    obtain ⟨h1, h2⟩ := ofCell_rep (w := w) (Z := Z) hc
    obtain ⟨h3, h4⟩ := ofCells_rep (w := w) (Z := Z) hcs
    exact ⟨RepL_cons.2 ⟨[], [], [v], vs, rfl, rfl, h1, h3⟩, fun d hd => (List.mem_cons.1 hd).elim (fun e => e ▸ h2) (fun hd => h4 d hd)⟩
theorem ofConst_rep {w Z P T v c} (h : ofConst P T v = some c) : RepV w Z c [] v := by
  unfold ofConst at h
  split at h
  · rename_i vs
    simp only [Option.map_eq_some_iff] at h
    obtain ⟨cs, hcs, rfl⟩ := h
    obtain ⟨h1, h2⟩ := ofCells_rep (w := w) (Z := Z) hcs
    exact RepV_agg.2 ⟨vs.toList, by simp, by simp only [Rep]; exact ⟨h1, h2⟩⟩
  · simp only [Option.bind_eq_some_iff] at h
    obtain ⟨s, _, h⟩ := h
    obtain ⟨h1, h2⟩ := ofCell_rep (w := w) (Z := Z) h
    exact (RepV_cell h2).2 h1

/-! ### The parts of a program that a call is told over -/
structure Env where
  P : Program
  tbl : FuncId → List PV → Option (PV × List PV)
  G : Nat → Option (List PV)
  nt : Nat
  gs : List Nat
  keep : Nat → List Tmp
  pin : List Tmp

/-- the slot that an operand is; the package's variables stand behind the others -/
def Env.at (E : Env) : Operand → Option Tmp
  | .tmp t => if t < E.nt then some t else none
  | .global g => some (E.nt + g)
  | _ => none
/-- what an operand that is no slot reads as -/
def Env.imm (E : Env) (T : TypeId) : Operand → Option PV
  | .const v => ofConst E.P T v
  | .func f => some (.fn f [])
  | _ => none
/-- what an operand reads as -/
def Env.rd (E : Env) (F : RF) (T : TypeId) (x : Operand) : Option PV :=
  match E.at x with
  | some t => F.content t
  | none => E.imm T x
/-- what an operand holds is taken out -/
def Env.tk (E : Env) (F : RF) (T : TypeId) (x : Operand) : Option (PV × RF) :=
  match E.at x with
  | some t => F.take t
  | none => (E.imm T x).map fun c => (c, F)
def setD (F : RF) (d : Option Tmp) (s : Slot) : RF := match d with | some t => F.set t s | none => F

def tmOf (nt : Nat) (a : Act) : Tmp → Value := fun t => if t < nt then a.tmps.getD t undef else .pointer (some ⟨t - nt, 0, none⟩)
def tput (tm : Tmp → Value) (d : Option Tmp) (v : Value) : Tmp → Value := match d with | some t => upd tm t v | none => tm
theorem tmOf_put {nt : Nat} {a : Act} {d : Option Tmp} {v : Value} (h : ∀ t, d = some t → t < nt) (hn : a.tmps.size = nt) : tmOf nt (a.put d v) = tput (tmOf nt a) d v := by
  cases d with
  | none => rfl
  | some t =>
    funext u
    have := h t rfl
    by_cases e : u = t
    · subst e; simp [tmOf, Act.put, tput, upd, this, hn]
    · by_cases hu : u < nt
      · simp [tmOf, Act.put, tput, upd, e, hu, Array.getElem?_setIfInBounds_ne (fun h => e h.symm)]
      · simp [tmOf, Act.put, tput, upd, e, hu]
theorem at_eval {E : Env} {a : Act} {x : Operand} {t : Tmp} (h : E.at x = some t) : a.eval x = tmOf E.nt a t := by
  cases x with
  | tmp u =>
    simp only [Env.at] at h
    split at h
    · rename_i hu; obtain rfl := Option.some.inj h; simp [Act.eval, tmOf, hu]
    · cases h
  | global g => simp only [Env.at, Option.some.injEq] at h; subst h; simp [Act.eval, tmOf, Nat.not_lt.2 (Nat.le_add_right E.nt g)]
  | _ => simp [Env.at] at h
theorem imm_rep {E : Env} {a : Act} {T : TypeId} {x : Operand} {y : PV} {w : World} {Z : Nat → Prop} (h : E.imm T x = some y) : RepV w Z y [] (a.eval x) := by
  cases x with
  | const v => exact ofConst_rep h
  | func f =>
    simp only [Env.imm, Option.some.injEq] at h; subst h
    exact (RepV_cell rfl).2 (by simp only [Rep]; exact ⟨trivial, [], rfl, by simp [RepL], by simp⟩)
  | _ => simp [Env.imm] at h

/-- What the model makes of an operation: a value for its slot, a world. -/
def Yld (P : Program) (o : Oper) (a : Act) (w : World) (R : Value → World → Prop) : Prop :=
  ∀ K Q, (∀ v w', R v w' → K (a.put o.dst v) w') → o.wp P a w K Q

def ZOk (mine : Nat → Prop) (w : World) (Z Z' : Nat → Prop) : Prop := ∀ b, b < w.heap.size → ¬ mine b → (Z b ↔ Z' b)

/-- What is true behind it. -/
def Out (X : Cx) (Z : Nat → Prop) (w : World) (tm : Tmp → Value) (d : Option Tmp) (F' : RF) (v : Value) (w' : World) : Prop :=
  ∃ Z' φ', Rel X Z' w' φ' (tput tm d v) F' ∧ Stp X.mine w w' ∧ ZOk X.mine w Z Z'

/-- What is true ahead of it. -/
structure Pre (E : Env) (X : Cx) (Z : Nat → Prop) (w : World) (φ : Tmp → List Nat) (a : Act) (F : RF) : Prop where
  rel : Rel X Z w φ (tmOf E.nt a) F
  new : ∀ b, w.heap.size ≤ b → X.mine b
  glob : X.G = E.G

theorem Yld.value {P : Program} {o : Oper} {a : Act} {w w' : World} {R : Value → World → Prop} {v : Value} (h : (execOp a.eval o).run P w = .ok (.value v) w') (hr : R v w') : Yld P o a w R := by
  intro K Q hK; unfold Oper.wp; rw [h]; exact hK v w' hr
theorem Yld.skip {P : Program} {o : Oper} {a : Act} {w w' : World} {R : Value → World → Prop} (h : (execOp a.eval o).run P w = .ok .skip w') (hr : R undef w') : Yld P o a w R := by
  intro K Q hK; unfold Oper.wp; rw [h]; exact hK _ w' hr

variable {X : Cx} {Z : Nat → Prop} {w : World} {φ : Tmp → List Nat} {tm : Tmp → Value} {F : RF}

theorem Rel.outVal (h : Rel X Z w φ tm F) {d : Option Tmp} {x : PV} {v : Value} {φx : List Nat} (hr : RepV w Z x φx v) (hnd : φx.Nodup) (hm : ∀ b ∈ φx, X.mine b)
    (hd : ∀ u, ∀ b ∈ φx, b ∉ φ u) : ∃ φ', Rel X Z w φ' (tput tm d v) (setD F d (.val x)) := by
  cases d with
  | none => exact ⟨φ, h⟩
  | some t => exact ⟨_, h.setVal hr hnd hm (fun u _ => hd u)⟩
theorem Rel.outPl (h : Rel X Z w φ tm F) {d : Option Tmp} {r : Tmp} {p : Path} {k : View} {v : Value} (hrt : d ≠ some r) (hp : PlOk w F tm r p k v) :
    ∃ φ', Rel X Z w φ' (tput tm d v) (setD F d (.pl r p k (F.ver r))) := by
  cases d with
  | none => exact ⟨φ, h⟩
  | some t => exact ⟨_, h.setPl (fun e => hrt (by rw [e])) hp⟩
theorem Out.same {mine} {tm' : Tmp → Value} (hX : X.mine = mine) {d : Option Tmp} {v : Value} {F' : RF} (h : ∃ φ', Rel X Z w φ' (tput tm d v) F') : Out X Z w tm d F' v w :=
  let ⟨φ', h⟩ := h; ⟨Z, φ', h, Stp.refl _ _, fun _ _ _ => Iff.rfl⟩

theorem rd_rep {E : Env} {a : Act} {T : TypeId} {x : Operand} {y : PV} (h : Pre E X Z w φ a F) (hy : E.rd F T x = some y) :
    ∃ φy, RepV w Z y φy (a.eval x) ∧ (∀ b ∈ φy, ∃ r, b ∈ φ r) ∧ φy.Nodup := by
  unfold Env.rd at hy
  split at hy
  · rename_i t ht; rw [at_eval ht]; exact h.rel.content hy
  · exact ⟨[], imm_rep hy, by simp, List.nodup_nil⟩

theorem tk_rep {E : Env} {a : Act} {T : TypeId} {x : Operand} {y : PV} {F' : RF} (h : Pre E X Z w φ a F) (hy : E.tk F T x = some (y, F')) :
    ∃ φ' φy, Taken X Z w φ (tmOf E.nt a) F' y (a.eval x) φ' φy := by
  unfold Env.tk at hy
  split at hy
  · rename_i t ht; rw [at_eval ht]; exact h.rel.take hy
  · simp only [Option.map_eq_some_iff, Prod.mk.injEq] at hy
    obtain ⟨c, hc, rfl, rfl⟩ := hy
    exact ⟨φ, [], h.rel, imm_rep hc, List.nodup_nil, by simp, fun _ _ h => h, by simp⟩

theorem Taken.mine {E : Env} {a : Act} (h : Pre E X Z w φ a F) {F' y v φ' φy} (ht : Taken X Z w φ (tmOf E.nt a) F' y v φ' φy) : ∀ b ∈ φy, X.mine b :=
  fun b hb => let ⟨r, hr⟩ := ht.was b hb; h.rel.mine r b hr

/-! ### move, assign -/
/-- a slot that is read as it is: what it owns stays there, the other one leads to it -/
def semMove (E : Env) (o : Oper) (x : Operand) (F : RF) : Option RF :=
  match E.at x with
  | some t =>
    match F.slot t with
    | .dead => none
    | .val y => if y.noOwn then some (setD F o.dst (.val y)) else
        match y with
        | .tup _ => some (setD (F.set t .dead) o.dst (.val y))
        | _ => if o.dst = some t then none else some (setD F o.dst (.pl t [] .self (F.ver t)))
    | .pl r p k n => if F.ok r k n = true ∧ o.dst ≠ some r then some (setD F o.dst (.pl r p k n)) else none
  | none => (E.imm o.type x).map fun y => setD F o.dst (.val y)

theorem noOwn_leaf {y : PV} (h : y.noOwn = false) : y.leaf = false := by cases y <;> simp_all [PV.noOwn, PV.leaf]

theorem semMove_out {E : Env} {o : Oper} {x : Operand} {a : Act} {F' : RF} (h : Pre E X Z w φ a F) (hs : semMove E o x F = some F') :
    Out X Z w (tmOf E.nt a) o.dst F' (a.eval x) w := by
  have fin : ∀ {F'}, (∃ φ', Rel X Z w φ' (tput (tmOf E.nt a) o.dst (a.eval x)) F') → Out X Z w (tmOf E.nt a) o.dst F' (a.eval x) w := fun ⟨φ', h⟩ => ⟨Z, φ', h, Stp.refl _ _, fun _ _ _ => Iff.rfl⟩
  unfold semMove at hs
  split at hs
  · rename_i t hat
    rw [at_eval hat] at fin ⊢
    split at hs
    · cases hs
    · rename_i y hsl
      have hr := h.rel.vals t y hsl
      split at hs
      · rename_i hn
        obtain rfl := Option.some.inj hs
        have he := RepV_noOwn hn hr
        rw [he] at hr
        exact fin (h.rel.outVal hr List.nodup_nil (by simp) (by simp))
      · rename_i hn
        split at hs
        · rename_i xs
          obtain rfl := Option.some.inj hs
          have h1 := h.rel.setDead t (tmOf E.nt a t)
          rw [upd_eta] at h1
          exact fin (h1.outVal hr (h.rel.nodup t) (h.rel.mine t) (fun u b hb => by
            by_cases e : u = t
            · simp [upd, e]
            · rw [upd_ne _ _ e]; exact fun hb2 => e (h.rel.disj u t b hb2 hb)))
        · split at hs
          · cases hs
          · rename_i hd
            obtain rfl := Option.some.inj hs
            exact fin (h.rel.outPl hd ⟨y, y, _, hsl, rfl, rfl, noOwn_leaf (by simpa using hn)⟩)
    · rename_i r p k n hsl
      split at hs
      case isFalse => cases hs
      case isTrue hc =>
      obtain rfl := Option.some.inj hs
      have := h.rel.pls t r p k n hsl hc.1
      rw [← RF.ok_ver hc.1]
      exact fin (h.rel.outPl hc.2 this)
  · simp only [Option.map_eq_some_iff] at hs
    obtain ⟨y, hy, rfl⟩ := hs
    exact fin (h.rel.outVal (imm_rep hy) List.nodup_nil (by simp) (by simp))

theorem semMove_ok {E : Env} {o : Oper} {x : Operand} {a : Act} {F' : RF} (h : Pre E X Z w φ a F) (ho : o.op = .move x) (hs : semMove E o x F = some F') :
    Yld E.P o a w (Out X Z w (tmOf E.nt a) o.dst F') :=
  Yld.value (by unfold execOp; rw [ho]; rfl) (semMove_out h hs)

/-- a slot that is written: what is written there is taken out of where it was -/
def semAssign (E : Env) (o : Oper) (x : Operand) (F : RF) : Option RF :=
  match (match E.at x with | some t => F.slot t | none => .dead) with
  | .pl r p (.addr i j) n => if F.ok r (.addr i j) n = true ∧ o.dst ≠ some r then some (setD F o.dst (.pl r p (.addr i j) n)) else none
  | _ => (E.tk F o.type x).map fun r => setD r.2 o.dst (.val r.1)

theorem semAssign_ok {E : Env} {o : Oper} {x : Operand} {a : Act} {F' : RF} (h : Pre E X Z w φ a F) (ho : o.op = .assign x) (hs : semAssign E o x F = some F') :
    Yld E.P o a w (Out X Z w (tmOf E.nt a) o.dst F') := by
  have hrun : (execOp a.eval o).run E.P w = .ok (.value (a.eval x)) w := by unfold execOp; rw [ho]; rfl
  refine Yld.value hrun ?_
  have fin : ∀ {F'}, (∃ φ', Rel X Z w φ' (tput (tmOf E.nt a) o.dst (a.eval x)) F') → Out X Z w (tmOf E.nt a) o.dst F' (a.eval x) w := fun ⟨φ', h⟩ => ⟨Z, φ', h, Stp.refl _ _, fun _ _ _ => Iff.rfl⟩
  unfold semAssign at hs
  split at hs
  · rename_i r p i j n hm
    split at hm
    case h_2 => cases hm
    rename_i t hat
    rw [at_eval hat] at fin ⊢
    split at hs
    case isFalse => cases hs
    case isTrue hc =>
    obtain rfl := Option.some.inj hs
    have := h.rel.pls t _ _ _ _ hm hc.1
    rw [← RF.ok_ver hc.1]
    exact fin (h.rel.outPl hc.2 this)
  · simp only [Option.map_eq_some_iff] at hs
    obtain ⟨⟨y, F1⟩, ht, rfl⟩ := hs
    obtain ⟨φ', φy, htk⟩ := tk_rep h ht
    exact fin (htk.rel.outVal htk.rep htk.nodup (htk.mine h) htk.apart)

/-! ### What hangs on numbers, bools and strings alone -/
/-- a run that asks nothing of the world -/
def pureRun (P : Program) {α : Type} : Sem α → Option α
  | .pure a => some a
  | .program k => pureRun P (k P)
  | _ => none
theorem pureRun_run {P : Program} {α : Type} {s : Sem α} {a : α} (h : pureRun P s = some a) (w : World) : s.run P w = .ok a w := by
  induction s with
  | pure b => simp only [pureRun, Option.some.injEq] at h; subst h; rfl
  | program k ih => simp only [pureRun] at h; exact ih P h
  | _ => simp [pureRun] at h

def cellVal : PV → Option Value
  | .prim v => some v
  | _ => none
def cellVals : List PV → Option (List Value)
  | [] => some []
  | c :: cs => (cellVal c).bind fun v => (cellVals cs).map (v :: ·)
def toVal1 : PV → Option Value
  | .prim v => some v
  | .agg cs => (cellVals cs).map fun vs => .agg vs.toArray
  | _ => none
def toVal1s : List PV → Option (List Value)
  | [] => some []
  | c :: cs => (toVal1 c).bind fun v => (toVal1s cs).map (v :: ·)
def PV.toVal : PV → Option Value
  | .tup xs => (toVal1s xs).map fun vs => .tuple vs.toArray
  | x => toVal1 x
theorem cellVals_rep {w Z} : ∀ {cs vs φ us}, cellVals cs = some vs → RepL w Z cs φ us → us = vs
  | [], vs, φ, us, h, hr => by simp only [cellVals, Option.some.injEq] at h; rw [RepL_nil] at hr; rw [hr.2, ← h]
  | c :: cs, vs, φ, us, h, hr => by
    simp only [cellVals, Option.bind_eq_some_iff, Option.map_eq_some_iff] at h
    obtain ⟨v, hv, vs', hvs, rfl⟩ := h
    rw [RepL_cons] at hr
    obtain ⟨φ₁, φ₂, v₁, v₂, rfl, rfl, h1, h2⟩ := hr
    cases c with
    | prim u =>
      simp only [cellVal, Option.some.injEq] at hv; subst hv
      simp only [Rep] at h1
      rw [h1.2.1, cellVals_rep hvs h2]; rfl
    | _ => simp [cellVal] at hv
theorem toVal1_rep {w Z x v φ u} (h : toVal1 x = some v) (hr : RepV1 w Z x φ u) : u = v := by
  cases x with
  | prim v' => simp only [toVal1, Option.some.injEq] at h; subst h; simp only [RepV1, Rep] at hr; simpa using hr.2.1
  | agg cs =>
    simp only [toVal1, Option.map_eq_some_iff] at h
    obtain ⟨vs, hvs, rfl⟩ := h
    simp only [RepV1, Rep] at hr
    obtain ⟨us, rfl, hr, _⟩ := hr
    rw [cellVals_rep hvs hr]
  | _ => simp [toVal1] at h
theorem toVal1s_rep {w Z} : ∀ {xs vs φ us}, toVal1s xs = some vs → RepTs w Z xs φ us → us = vs
  | [], vs, φ, us, h, hr => by simp only [toVal1s, Option.some.injEq] at h; simp only [RepTs] at hr; rw [hr.2, ← h]
  | c :: cs, vs, φ, us, h, hr => by
    simp only [toVal1s, Option.bind_eq_some_iff, Option.map_eq_some_iff] at h
    obtain ⟨v, hv, vs', hvs, rfl⟩ := h
    rw [RepTs_cons] at hr
    obtain ⟨φ₁, φ₂, v₁, v₂, rfl, rfl, h1, h2⟩ := hr
    rw [toVal1_rep hv h1, toVal1s_rep hvs h2]
theorem toVal_rep {w Z x v φ u} (h : x.toVal = some v) (hr : RepV w Z x φ u) : u = v := by
  rcases PV.tup_or x with ⟨xs, rfl⟩ | ⟨e, _⟩
  · simp only [PV.toVal, Option.map_eq_some_iff] at h
    obtain ⟨vs, hvs, rfl⟩ := h
    rw [RepV_tup] at hr
    obtain ⟨us, rfl, hr⟩ := hr
    rw [toVal1s_rep hvs hr]
  · rw [e] at hr
    cases x with
    | tup xs => simp only [RepV1, Rep] at hr
    | _ => simp only [PV.toVal] at h; exact toVal1_rep h hr

def ofVal1 : Value → Option PV
  | .agg vs => if vs.toList.all flat then some (.agg (vs.toList.map .prim)) else none
  | v => if flat v then some (.prim v) else none
def ofVal1s : List Value → Option (List PV)
  | [] => some []
  | v :: vs => (ofVal1 v).bind fun x => (ofVal1s vs).map (x :: ·)
def ofVal : Value → Option PV
  | .tuple vs => (ofVal1s vs.toList).map .tup
  | v => ofVal1 v
theorem RepL_prims {w Z} : ∀ {vs : List Value}, vs.all flat = true → RepL w Z (vs.map .prim) [] vs
  | [], _ => RepL_nil.2 ⟨rfl, rfl⟩
  | v :: vs, h => by
    simp only [List.all_cons, Bool.and_eq_true] at h
    exact RepL_cons.2 ⟨[], [], [v], vs, rfl, rfl, by simp [Rep, h.1], RepL_prims h.2⟩
theorem ofVal1_rep {w Z v x} (h : ofVal1 v = some x) : RepV1 w Z x [] v := by
  unfold ofVal1 at h
  split at h
  · rename_i vs
    split at h
    · rename_i hf
      obtain rfl := Option.some.inj h
      simp only [RepV1, Rep]
      exact ⟨vs.toList, by simp, RepL_prims hf, by intro c hc; obtain ⟨v, _, rfl⟩ := List.mem_map.1 hc; rfl⟩
    · cases h
  · split at h
    · rename_i hf
      obtain rfl := Option.some.inj h
      simp [RepV1, Rep, hf]
    · cases h
theorem ofVal1s_rep {w Z} : ∀ {vs xs}, ofVal1s vs = some xs → RepTs w Z xs [] vs
  | [], xs, h => by simp only [ofVal1s, Option.some.injEq] at h; subst h; simp [RepTs]
  | v :: vs, xs, h => by
    simp only [ofVal1s, Option.bind_eq_some_iff, Option.map_eq_some_iff] at h
    obtain ⟨x, hx, xs', hxs, rfl⟩ := h
    exact RepTs_cons.2 ⟨[], [], v, vs, rfl, rfl, ofVal1_rep hx, ofVal1s_rep hxs⟩
theorem ofVal_rep {w Z v x} (h : ofVal v = some x) : RepV w Z x [] v := by
  unfold ofVal at h
  split at h
  · rename_i vs
    simp only [Option.map_eq_some_iff] at h
    obtain ⟨xs, hxs, rfl⟩ := h
    exact RepV_tup.2 ⟨vs.toList, by simp, ofVal1s_rep hxs⟩
  · rename_i hn
    have h1 := ofVal1_rep (w := w) (Z := Z) h
    rcases PV.tup_or x with ⟨xs, rfl⟩ | ⟨e, _⟩
    · unfold ofVal1 at h; split at h <;> (split at h <;> cases h)
    · rw [e]; exact h1

/-- an operand's own value, where no memory is behind it -/
def Env.vl (E : Env) (F : RF) (x : Operand) : Option Value :=
  match E.at x with
  | some t => (F.content t).bind PV.toVal
  | none => match x with
    | .const v => some v
    | _ => none
def isSel : Op → Bool
  | .select _ _ => true
  | _ => false
def semPure (E : Env) (o : Oper) (F : RF) : Option RF :=
  if isSel o.op = true then none else
  if o.op.operands.toList.all (fun x => (E.vl F x).isSome) then
    match pureRun E.P (execOp (fun x => (E.vl F x).getD undef) o) with
    | some (.value v) => (ofVal v).map fun y => setD F o.dst (.val y)
    | _ => none
  else none

theorem vl_eq {E : Env} {a : Act} {x : Operand} {v : Value} (h : Pre E X Z w φ a F) (hv : E.vl F x = some v) : a.eval x = v := by
  unfold Env.vl at hv
  split at hv
  · rename_i t ht
    simp only [Option.bind_eq_some_iff] at hv
    obtain ⟨y, hy, hv⟩ := hv
    obtain ⟨φy, hr, _⟩ := h.rel.content hy
    rw [at_eval ht]; exact toVal_rep hv hr
  · cases x with
    | const u => simp only [Option.some.injEq] at hv; exact hv
    | _ => simp at hv

theorem semPure_ok {E : Env} {o : Oper} {a : Act} {F' : RF} (h : Pre E X Z w φ a F) (hs : semPure E o F = some F') :
    Yld E.P o a w (Out X Z w (tmOf E.nt a) o.dst F') := by
  unfold semPure at hs
  split at hs
  · cases hs
  rename_i hsel
  split at hs
  case isFalse => cases hs
  case isTrue hall =>
  have hcongr : execOp a.eval o = execOp (fun x => (E.vl F x).getD undef) o := by
    apply execOp_congr
    · intro cs b e; rw [e] at hsel; exact hsel rfl
    · intro x hx
      have := List.all_eq_true.1 hall x (Array.mem_toList_iff.2 hx)
      obtain ⟨v, hv⟩ := Option.isSome_iff_exists.1 this
      simp only [hv, Option.getD_some]
      exact vl_eq h hv
  split at hs
  · rename_i v hp
    simp only [Option.map_eq_some_iff] at hs
    obtain ⟨y, hy, rfl⟩ := hs
    refine Yld.value (w' := w) (v := v) (by rw [hcongr]; exact pureRun_run hp w) ?_
    obtain ⟨φ', hr⟩ := h.rel.outVal (d := o.dst) (ofVal_rep hy) List.nodup_nil (by simp) (by simp)
    exact ⟨Z, φ', hr, Stp.refl _ _, fun _ _ _ => Iff.rfl⟩
  · cases hs
end Go.V
