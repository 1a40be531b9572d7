/- Values without memory (PV), and what it means that a value of the model reads so in a world. -/
import Derived.Orders
import Derived.Below
import Derived.Deep.Draws
namespace Go.V
set_option linter.unusedVariables false

inductive PV where
  | dead
  | prim (v : Value)
  | sl (o : Bool) (sz : Nat) (xs : List PV)
  | ptr (o : Bool) (cs : List PV)
  | map (o : Bool) (es : List (Value × Value))
  | agg (cs : List PV)
  | tup (xs : List PV)
  | fn (f : FuncId) (caps : List PV)
  deriving Inhabited

/-- one cell, no memory behind it -/
def flat : Value → Bool
  | .bool _ | .int _ _ | .float _ _ | .string _ | .pointer none | .map none | .nilFunc | .nilIface => true
  | .iface _ (.int _ _) => true
  | _ => false
/-- what one cell can hold -/
def one : Value → Bool
  | .agg _ | .tuple _ => false
  | _ => true
/-- no memory behind it: one cell, or some -/
def flatV : Value → Bool
  | .agg vs => vs.toList.all flat
  | v => flat v

def PV.width : PV → Nat
  | .agg cs => cs.length
  | _ => 1
def PV.cells : PV → List PV
  | .agg cs => cs
  | x => [x]
/-- what a cell holds -/
def PV.cell1 : PV → Bool
  | .agg _ | .tup _ => false
  | _ => true
theorem PV.cell1_cells {x : PV} (h : x.cell1 = true) : x.cells = [x] := by cases x <;> simp_all [PV.cell1, PV.cells]
theorem PV.cell1_width {x : PV} (h : x.cell1 = true) : x.width = 1 := by cases x <;> simp_all [PV.cell1, PV.width]

mutual
def Rep (w : World) (Z : Nat → Prop) : PV → List Nat → List Value → Prop
  | .dead, φ, vs => φ = [] ∧ ∃ v, vs = [v] ∧ one v = true
  | .prim v, φ, vs => φ = [] ∧ vs = [v] ∧ flat v = true
  | .sl o sz xs, φ, vs => ∃ a cap ψ ch, vs = [.slice a xs.length cap] ∧ (0 < sz ∧ xs.length ≤ cap) ∧ RepL w Z xs ψ ch ∧ (∀ x ∈ xs, x.width = sz) ∧
      ((xs = [] ∧ φ = [] ∧ (o = true → cap = 0)) ∨
       (∃ b off cs T fr, a = some ⟨b, off, none⟩ ∧ w.heap[b]? = some (.cells cs T fr) ∧ (∀ i v, ch[i]? = some v → cs[off + i]? = some v) ∧
         (o = false → ¬ Z b ∧ φ = [] ∧ ψ = []) ∧
         (o = true → Z b ∧ fr = (0, 0) ∧ φ = b :: ψ ∧ off + cap * sz ≤ cs.size ∧ xs.length ≤ cap)))
  | .ptr o cs, φ, vs => ∃ b arr T fr ψ, vs = [.pointer (some ⟨b, 0, none⟩)] ∧ w.heap[b]? = some (.cells arr T fr) ∧ RepL w Z cs ψ arr.toList ∧
      (∀ c ∈ cs, c.cell1 = true) ∧ (o = false → ¬ Z b ∧ φ = [] ∧ ψ = []) ∧ (o = true → Z b ∧ fr = (0, 0) ∧ φ = b :: ψ)
  | .map o es, φ, vs => ∃ b ents clk, vs = [.map (some b)] ∧ w.heap[b]? = some (.map ents clk) ∧
      ents.toList.map (fun e => (e.key, e.val)) = es ∧ (∀ e ∈ es, flatV e.1 = true ∧ flatV e.2 = true) ∧
      (o = false → ¬ Z b ∧ φ = []) ∧ (o = true → Z b ∧ φ = [b])
  | .agg cs, φ, vs => RepL w Z cs φ vs ∧ (∀ c ∈ cs, c.cell1 = true)
  | .tup _, _, _ => False
  | .fn f caps, φ, vs => φ = [] ∧ ∃ cv, vs = [.func (.func f) #[] cv.toArray] ∧ RepL w Z caps [] cv ∧ (∀ c ∈ caps, c.cell1 = true)
def RepL (w : World) (Z : Nat → Prop) : List PV → List Nat → List Value → Prop
  | [], φ, vs => φ = [] ∧ vs = []
  | x :: xs, φ, vs => ∃ φ₁ φ₂ v₁ v₂, φ = φ₁ ++ φ₂ ∧ vs = v₁ ++ v₂ ∧ Rep w Z x φ₁ v₁ ∧ RepL w Z xs φ₂ v₂
end

/-- a value in a slot: a struct or an array as one value, a tuple; all others by their cell -/
def RepV1 (w : World) (Z : Nat → Prop) : PV → List Nat → Value → Prop
  | .agg cs, φ, v => ∃ vs, v = .agg vs.toArray ∧ Rep w Z (.agg cs) φ vs
  | x, φ, v => Rep w Z x φ [v]
def RepTs (w : World) (Z : Nat → Prop) : List PV → List Nat → List Value → Prop
  | [], φ, vs => φ = [] ∧ vs = []
  | x :: xs, φ, vs => ∃ φ₁ φ₂ v vs', φ = φ₁ ++ φ₂ ∧ vs = v :: vs' ∧ RepV1 w Z x φ₁ v ∧ RepTs w Z xs φ₂ vs'
def RepV (w : World) (Z : Nat → Prop) : PV → List Nat → Value → Prop
  | .tup xs, φ, v => ∃ vs, v = .tuple vs.toArray ∧ RepTs w Z xs φ vs
  | x, φ, v => RepV1 w Z x φ v

theorem RepL_nil {w Z φ vs} : RepL w Z [] φ vs ↔ φ = [] ∧ vs = [] := by simp [RepL]
theorem RepL_cons {w Z x xs φ vs} : RepL w Z (x :: xs) φ vs ↔ ∃ φ₁ φ₂ v₁ v₂, φ = φ₁ ++ φ₂ ∧ vs = v₁ ++ v₂ ∧ Rep w Z x φ₁ v₁ ∧ RepL w Z xs φ₂ v₂ := by
  simp [RepL]

/-- Induction over a PV with its lists. -/
theorem PV.ind {M : PV → Prop} {N : List PV → Prop} (hd : M .dead) (hp : ∀ v, M (.prim v)) (hs : ∀ o sz xs, N xs → M (.sl o sz xs))
    (hq : ∀ o cs, N cs → M (.ptr o cs)) (hm : ∀ o es, M (.map o es)) (ha : ∀ cs, N cs → M (.agg cs)) (ht : ∀ xs, N xs → M (.tup xs))
    (hf : ∀ f cs, N cs → M (.fn f cs)) (hn : N []) (hc : ∀ x xs, M x → N xs → N (x :: xs)) : (∀ x, M x) ∧ (∀ xs, N xs) := by
  have key : ∀ x, M x := fun x => PV.rec (motive_1 := M) (motive_2 := N) hd hp (fun o sz xs h => hs o sz xs h) (fun o cs h => hq o cs h)
    (fun o es => hm o es) (fun cs h => ha cs h) (fun xs h => ht xs h) (fun f cs h => hf f cs h) hn (fun x xs h1 h2 => hc x xs h1 h2) x
  refine ⟨key, fun xs => ?_⟩
  induction xs with
  | nil => exact hn
  | cons x xs ih => exact hc x xs (key x) ih

theorem Rep_len {w : World} {Z : Nat → Prop} : (∀ x φ vs, Rep w Z x φ vs → vs.length = x.width) ∧
    (∀ xs φ vs, RepL w Z xs φ vs → vs.length = (xs.map PV.width).sum) := by
  refine PV.ind (M := fun x => ∀ φ vs, Rep w Z x φ vs → vs.length = x.width) (N := fun xs => ∀ φ vs, RepL w Z xs φ vs → vs.length = (xs.map PV.width).sum)
    ?_ ?_ ?_ ?_ ?_ ?_ ?_ ?_ ?_ ?_
  · rintro φ vs h; simp only [Rep] at h; obtain ⟨_, v, rfl, _⟩ := h; rfl
  · rintro u φ vs h; simp only [Rep] at h; obtain ⟨_, rfl, _⟩ := h; rfl
  · rintro o sz xs _ φ vs h; simp only [Rep] at h; obtain ⟨a, cap, ψ, ch, rfl, _⟩ := h; rfl
  · rintro o cs _ φ vs h; simp only [Rep] at h; obtain ⟨a, cap, ψ, ch, _, rfl, _⟩ := h; rfl
  · rintro o cs φ vs h; simp only [Rep] at h; obtain ⟨a, cap, ψ, rfl, _⟩ := h; rfl
  · rintro cs ih φ vs h; simp only [Rep] at h
    have := ih _ _ h.1
    rw [this]; simp only [PV.width]
    have h2 : ∀ l : List PV, (∀ c ∈ l, c.cell1 = true) → (l.map PV.width).sum = l.length := by
      intro l hl
      induction l with
      | nil => rfl
      | cons c l ih2 => simp only [List.map_cons, List.sum_cons, List.length_cons]; rw [PV.cell1_width (hl c (by simp)), ih2 (fun c hc => hl c (by simp [hc]))]; omega
    exact h2 _ h.2
  · rintro xs _ φ vs h; simp only [Rep] at h
  · rintro f cs _ φ vs h; simp only [Rep] at h; obtain ⟨_, cv, rfl, _⟩ := h; rfl
  · rintro φ vs h; rw [RepL_nil] at h; rw [h.2]; rfl
  · rintro x xs hx hxs φ vs h; rw [RepL_cons] at h; obtain ⟨φ₁, φ₂, v₁, v₂, rfl, rfl, h1, h2⟩ := h
    simp only [List.length_append, List.map_cons, List.sum_cons]; rw [hx _ _ h1, hxs _ _ h2]

theorem Rep.length {w Z x φ vs} (h : Rep w Z x φ vs) : vs.length = x.width := Rep_len.1 _ _ _ h

/-- The blocks that are owned lie in the heap, and are among Z. -/
theorem Rep_lt {w : World} {Z : Nat → Prop} : (∀ x φ vs, Rep w Z x φ vs → ∀ b ∈ φ, b < w.heap.size ∧ Z b) ∧
    (∀ xs φ vs, RepL w Z xs φ vs → ∀ b ∈ φ, b < w.heap.size ∧ Z b) := by
  have hsome : ∀ {b : Nat} {o : Obj}, w.heap[b]? = some o → b < w.heap.size := fun h => (Array.getElem?_eq_some_iff.1 h).1
  refine PV.ind (M := fun x => ∀ φ vs, Rep w Z x φ vs → ∀ b ∈ φ, b < w.heap.size ∧ Z b) (N := fun xs => ∀ φ vs, RepL w Z xs φ vs → ∀ b ∈ φ, b < w.heap.size ∧ Z b)
    ?_ ?_ ?_ ?_ ?_ ?_ ?_ ?_ ?_ ?_
  · rintro φ vs h; simp only [Rep] at h; obtain ⟨rfl, _⟩ := h; simp
  · rintro u φ vs h; simp only [Rep] at h; obtain ⟨rfl, _⟩ := h; simp
  · rintro o sz xs ih φ vs h; simp only [Rep] at h; obtain ⟨a, cap, ψ, ch, rfl, _, hl, _, hh⟩ := h
    rcases hh with ⟨_, rfl, _⟩ | ⟨b, off, cs, T, fr, rfl, hb, _, hf, ht⟩
    · simp
    · cases o with
      | false => obtain ⟨_, rfl, _⟩ := hf rfl; simp
      | true =>
        obtain ⟨hz, _, rfl, _⟩ := ht rfl
        intro c hc
        rcases List.mem_cons.1 hc with rfl | hc
        · exact ⟨hsome hb, hz⟩
        · exact ih _ _ hl c hc
  · rintro o cs ih φ vs h; simp only [Rep] at h; obtain ⟨b, arr, T, fr, ψ, rfl, hb, hl, _, hf, ht⟩ := h
    cases o with
    | false => obtain ⟨_, rfl, _⟩ := hf rfl; simp
    | true =>
      obtain ⟨hz, _, rfl⟩ := ht rfl
      intro c hc
      rcases List.mem_cons.1 hc with rfl | hc
      · exact ⟨hsome hb, hz⟩
      · exact ih _ _ hl c hc
  · rintro o es φ vs h; simp only [Rep] at h; obtain ⟨b, ents, clk, rfl, hb, _, _, hf, ht⟩ := h
    cases o with
    | false => obtain ⟨_, rfl⟩ := hf rfl; simp
    | true =>
      obtain ⟨hz, rfl⟩ := ht rfl
      intro c hc
      obtain rfl := List.mem_singleton.1 hc
      exact ⟨hsome hb, hz⟩
  · rintro cs ih φ vs h; simp only [Rep] at h; exact ih _ _ h.1
  · rintro xs _ φ vs h; simp only [Rep] at h
  · rintro f cs _ φ vs h; simp only [Rep] at h; obtain ⟨rfl, _⟩ := h; simp
  · rintro φ vs h; rw [RepL_nil] at h; rw [h.1]; simp
  · rintro x xs hx hxs φ vs h; rw [RepL_cons] at h; obtain ⟨φ₁, φ₂, v₁, v₂, rfl, rfl, h1, h2⟩ := h
    intro b hb
    rcases List.mem_append.1 hb with hb | hb
    · exact hx _ _ h1 b hb
    · exact hxs _ _ h2 b hb

/-- What a value reads as hangs on its own blocks and on those that nobody owns. -/
theorem Rep_frame {w w' : World} {Z Z' : Nat → Prop} :
    (∀ x φ vs, (∀ b, b < w.heap.size → (b ∈ φ ∨ ¬ Z b) → (Z b ↔ Z' b) ∧ w'.heap[b]? = w.heap[b]?) → Rep w Z x φ vs → Rep w' Z' x φ vs) ∧
    (∀ xs φ vs, (∀ b, b < w.heap.size → (b ∈ φ ∨ ¬ Z b) → (Z b ↔ Z' b) ∧ w'.heap[b]? = w.heap[b]?) → RepL w Z xs φ vs → RepL w' Z' xs φ vs) := by
  have hsome : ∀ {b : Nat} {o : Obj}, w.heap[b]? = some o → b < w.heap.size := fun h => (Array.getElem?_eq_some_iff.1 h).1
  refine PV.ind (M := fun x => ∀ φ vs, (∀ b, b < w.heap.size → (b ∈ φ ∨ ¬ Z b) → (Z b ↔ Z' b) ∧ w'.heap[b]? = w.heap[b]?) → Rep w Z x φ vs → Rep w' Z' x φ vs)
    (N := fun xs => ∀ φ vs, (∀ b, b < w.heap.size → (b ∈ φ ∨ ¬ Z b) → (Z b ↔ Z' b) ∧ w'.heap[b]? = w.heap[b]?) → RepL w Z xs φ vs → RepL w' Z' xs φ vs) ?_ ?_ ?_ ?_ ?_ ?_ ?_ ?_ ?_ ?_
  · rintro φ vs _ h; simp only [Rep] at h ⊢; exact h
  · rintro u φ vs _ h; simp only [Rep] at h ⊢; exact h
  · rintro o sz xs ih φ vs hm h; simp only [Rep] at h ⊢; obtain ⟨a, cap, ψ, ch, rfl, h0, hl, hw, hh⟩ := h
    have hsub : ∀ b, b ∈ ψ → b ∈ φ := by
      rcases hh with ⟨rfl, rfl, _⟩ | ⟨b, off, cs, T, fr, rfl, hb, _, hf, ht⟩
      · rw [RepL_nil] at hl; rw [hl.1]; simp
      · cases o with
        | false => rw [(hf rfl).2.2]; simp
        | true => intro c hc; rw [(ht rfl).2.2.1]; simp [hc]
    refine ⟨a, cap, ψ, ch, rfl, h0, ih _ _ (fun b hb hc => hm b hb (hc.imp (hsub b) id)) hl, hw, ?_⟩
    rcases hh with hh | ⟨b, off, cs, T, fr, rfl, hb, hch, hf, ht⟩
    · exact .inl hh
    · refine .inr ⟨b, off, cs, T, fr, rfl, ?_, hch, fun ho => ?_, fun ho => ?_⟩
      · rw [(hm b (hsome hb) (by cases o with | false => exact .inr (hf rfl).1 | true => rw [(ht rfl).2.2.1]; simp)).2]; exact hb
      · obtain ⟨h1, h2⟩ := hf ho; exact ⟨fun hz => h1 ((hm b (hsome hb) (.inr h1)).1.2 hz), h2⟩
      · obtain ⟨h1, h2⟩ := ht ho; exact ⟨(hm b (hsome hb) (.inl (by rw [h2.2.1]; simp))).1.1 h1, h2⟩
  · rintro o cs ih φ vs hm h; simp only [Rep] at h ⊢; obtain ⟨b, arr, T, fr, ψ, rfl, hb, hl, hw, hf, ht⟩ := h
    have hsub : ∀ c, c ∈ ψ → c ∈ φ := by
      cases o with
      | false => rw [(hf rfl).2.2]; simp
      | true => intro c hc; rw [(ht rfl).2.2]; simp [hc]
    refine ⟨b, arr, T, fr, ψ, rfl, ?_, ih _ _ (fun b hb hc => hm b hb (hc.imp (hsub b) id)) hl, hw, fun ho => ?_, fun ho => ?_⟩
    · rw [(hm b (hsome hb) (by cases o with | false => exact .inr (hf rfl).1 | true => rw [(ht rfl).2.2]; simp)).2]; exact hb
    · obtain ⟨h1, h2⟩ := hf ho; exact ⟨fun hz => h1 ((hm b (hsome hb) (.inr h1)).1.2 hz), h2⟩
    · obtain ⟨h1, h2⟩ := ht ho; exact ⟨(hm b (hsome hb) (.inl (by rw [h2.2]; simp))).1.1 h1, h2⟩
  · rintro o es φ vs hm h; simp only [Rep] at h ⊢; obtain ⟨b, ents, clk, rfl, hb, he, hfl, hf, ht⟩ := h
    refine ⟨b, ents, clk, rfl, ?_, he, hfl, fun ho => ?_, fun ho => ?_⟩
    · rw [(hm b (hsome hb) (by cases o with | false => exact .inr (hf rfl).1 | true => rw [(ht rfl).2]; simp)).2]; exact hb
    · obtain ⟨h1, h2⟩ := hf ho; exact ⟨fun hz => h1 ((hm b (hsome hb) (.inr h1)).1.2 hz), h2⟩
    · obtain ⟨h1, h2⟩ := ht ho; exact ⟨(hm b (hsome hb) (.inl (by rw [h2]; simp))).1.1 h1, h2⟩
  · rintro cs ih φ vs hm h; simp only [Rep] at h ⊢; exact ⟨ih _ _ hm h.1, h.2⟩
  · rintro xs _ φ vs _ h; simp only [Rep] at h
  · rintro f cs ih φ vs hm h; simp only [Rep] at h ⊢; obtain ⟨rfl, cv, rfl, hl, hw⟩ := h
    exact ⟨rfl, cv, rfl, ih _ _ hm hl, hw⟩
  · rintro φ vs _ h; rw [RepL_nil] at h ⊢; exact h
  · rintro x xs hx hxs φ vs hm h; rw [RepL_cons] at h ⊢; obtain ⟨φ₁, φ₂, v₁, v₂, rfl, rfl, h1, h2⟩ := h
    exact ⟨φ₁, φ₂, v₁, v₂, rfl, rfl, hx _ _ (fun b hb hc => hm b hb (hc.imp (fun h => List.mem_append.2 (.inl h)) id)) h1,
      hxs _ _ (fun b hb hc => hm b hb (hc.imp (fun h => List.mem_append.2 (.inr h)) id)) h2⟩

theorem Rep_oneCell {w Z x φ u} (h : Rep w Z x φ [u]) (hc : x.cell1 = true) : one u = true := by
  cases x with
  | dead => simp only [Rep] at h; obtain ⟨_, v, e, hv⟩ := h; obtain rfl : u = v := by simpa using e
            exact hv
  | prim v => simp only [Rep] at h; obtain ⟨_, e, hv⟩ := h; obtain rfl : u = v := by simpa using e
              cases u <;> first | rfl | simp [flat] at hv
  | sl o sz xs => simp only [Rep] at h; obtain ⟨a, cap, ψ, ch, e, _⟩ := h; obtain rfl : u = _ := by simpa using e
                  rfl
  | ptr o cs => simp only [Rep] at h; obtain ⟨b, arr, T, fr, ψ, e, _⟩ := h; obtain rfl : u = _ := by simpa using e
                rfl
  | map o es => simp only [Rep] at h; obtain ⟨b, ents, clk, e, _⟩ := h; obtain rfl : u = _ := by simpa using e
                rfl
  | fn f cs => simp only [Rep] at h; obtain ⟨_, cv, e, _⟩ := h; obtain rfl : u = _ := by simpa using e
               rfl
  | _ => simp [PV.cell1] at hc
end Go.V
