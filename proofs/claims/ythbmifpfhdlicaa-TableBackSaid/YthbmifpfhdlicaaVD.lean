/- Frames: what the slots of a call hold, and how they stand to the model's. -/
import Derived.Test.YthbmifpfhdlicaaVC
namespace Go.V
set_option linter.unusedVariables false
set_option linter.unusedSimpArgs false

inductive View where
  | self
  | sub (lo hi : Nat)
  | addr (i o : Nat)
  | cells (i o n c : Nat)
  | arr (i o lo hi n : Nat)
  deriving Inhabited, DecidableEq

inductive Slot where
  | dead
  | val (x : PV)
  | pl (r : Tmp) (p : Path) (k : View) (n : Nat)
  deriving Inhabited

abbrev RF := List (Tmp × Slot × Nat × Nat)
def RF.find : RF → Tmp → Slot × Nat × Nat
  | [], _ => (.dead, 0, 0)
  | (u, s) :: F, t => if t = u then s else RF.find F t
def RF.slot (F : RF) (t : Tmp) : Slot := (F.find t).1
/-- how often ways through the slot were broken -/
def RF.ver (F : RF) (t : Tmp) : Nat := (F.find t).2.1
/-- how often its cells were written since -/
def RF.cnt (F : RF) (t : Tmp) : Nat := (F.find t).2.2
/-- a slot is written: what led through it leads there no more -/
def RF.set (F : RF) (t : Tmp) (s : Slot) : RF := (t, s, F.ver t + 1, F.cnt t) :: F
/-- a slot's cells change, and no way through it -/
def RF.mut (F : RF) (t : Tmp) (s : Slot) : RF := (t, s, F.ver t, F.cnt t + 1) :: F
def RF.ok (F : RF) (r : Tmp) (k : View) (n : Nat) : Bool := F.ver r == n && match k with | .cells _ _ _ c => F.cnt r == c | _ => true

theorem RF.slot_set (F : RF) (t u : Tmp) (s : Slot) : (F.set t s).slot u = if u = t then s else F.slot u := by
  simp only [RF.slot, RF.set, RF.find]; split <;> rfl
theorem RF.ver_set (F : RF) (t u : Tmp) (s : Slot) : (F.set t s).ver u = if u = t then F.ver t + 1 else F.ver u := by
  simp only [RF.ver, RF.set, RF.find]; split <;> rfl
theorem RF.cnt_set (F : RF) (t u : Tmp) (s : Slot) : (F.set t s).cnt u = F.cnt u := by
  simp only [RF.cnt, RF.set, RF.find]; split <;> simp_all
theorem RF.slot_mut (F : RF) (t u : Tmp) (s : Slot) : (F.mut t s).slot u = if u = t then s else F.slot u := by
  simp only [RF.slot, RF.mut, RF.find]; split <;> rfl
theorem RF.ver_mut (F : RF) (t u : Tmp) (s : Slot) : (F.mut t s).ver u = F.ver u := by
  simp only [RF.ver, RF.mut, RF.find]; split <;> simp_all
theorem RF.cnt_mut (F : RF) (t u : Tmp) (s : Slot) : (F.mut t s).cnt u = if u = t then F.cnt t + 1 else F.cnt u := by
  simp only [RF.cnt, RF.mut, RF.find]; split <;> rfl
theorem RF.ok_ver {F : RF} {r k n} (h : F.ok r k n = true) : F.ver r = n := by simp only [RF.ok, Bool.and_eq_true, beq_iff_eq] at h; exact h.1
theorem RF.ok_set_ne {F : RF} {t r k n s} (h : r ≠ t) : (F.set t s).ok r k n = F.ok r k n := by
  simp only [RF.ok, RF.ver_set, if_neg h, RF.cnt_set]

def PV.row : PV → Nat → Option (List PV)
  | .sl _ _ xs, i => (xs[i]?).map PV.cells
  | .ptr _ cs, i => if i = 0 then some cs else none
  | _, _ => none

def PV.leaf : PV → Bool
  | .prim _ | .dead => true
  | _ => false

def viewC (y : PV) : View → Option PV
  | .self => some y
  | .sub lo hi => match y with
    | .sl f sz xs => if lo ≤ hi ∧ hi ≤ xs.length then some (.sl f sz ((xs.drop lo).take (hi - lo))) else none
    | _ => none
  | .addr _ _ => none
  | .cells i o n _ => (y.row i).bind fun r => if o + n ≤ r.length then some (.agg ((r.drop o).take n)) else none
  | .arr i o lo hi n => (y.row i).bind fun r => if lo ≤ hi ∧ hi ≤ n ∧ o + n ≤ r.length then some (.sl y.owned 1 ((r.drop (o + lo)).take (hi - lo))) else none

def viewOk (w : World) (y : PV) (u : Value) : View → Value → Prop
  | .self, v => v = u ∧ y.leaf = false
  | .sub lo hi, v => ∃ f sz xs a cap a', y = .sl f sz xs ∧ u = .slice a xs.length cap ∧ v = .slice a' (hi - lo) (cap - lo) ∧ (cap ≠ lo → a' = a.map (·.add (lo * sz)))
  | .addr i o, v => ∃ A, place y u i o = some A ∧ v = .pointer (some A)
  | .cells i o n _, v => ∃ (r : List PV) (A : Addr) (vs : List Value), y.row i = some r ∧ o + n ≤ r.length ∧ place y u i o = some A ∧ vs.length = n ∧ (∀ j, j < n → w.cell? ⟨A.block, A.off + j, none⟩ = vs[j]?) ∧ v = .agg vs.toArray
  | .arr i o lo hi n, v => ∃ (r : List PV) (A A' : Addr), y.row i = some r ∧ o + n ≤ r.length ∧ place y u i o = some A ∧ v = .slice (some A') (hi - lo) (n - lo) ∧ (n ≠ lo → A' = A.add lo)

def RF.content (F : RF) (t : Tmp) : Option PV :=
  match F.slot t with
  | .dead => none
  | .val x => some x
  | .pl r p k n => if F.ok r k n = true then match F.slot r with
      | .val x => (x.get? p).bind fun y => viewC y k
      | _ => none
    else none

def PlOk (w : World) (F : RF) (tm : Tmp → Value) (r : Tmp) (p : Path) (k : View) (v : Value) : Prop :=
  ∃ x y u, F.slot r = .val x ∧ follow w x (tm r) p = some (y, u) ∧ viewOk w y u k v

/-- whose the call's blocks may be, and what the package's variables hold -/
structure Cx where
  mine : Nat → Prop
  G : Nat → Option (List PV)
  /-- views that others hold -/
  gh : Tmp → Path → View → Nat → Value → Prop

structure Rel (X : Cx) (Z : Nat → Prop) (w : World) (φ : Tmp → List Nat) (tm : Tmp → Value) (F : RF) : Prop where
  nodup : ∀ t, (φ t).Nodup
  disj : ∀ t u b, b ∈ φ t → b ∈ φ u → t = u
  mine : ∀ t b, b ∈ φ t → X.mine b
  vals : ∀ t x, F.slot t = .val x → RepV w Z x (φ t) (tm t)
  rest : ∀ t, (∀ x, F.slot t ≠ .val x) → φ t = []
  vle : ∀ t r p k n, F.slot t = .pl r p k n → n ≤ F.ver r
  pls : ∀ t r p k n, F.slot t = .pl r p k n → F.ok r k n = true → PlOk w F tm r p k (tm t)
  glob : ∀ g cs, X.G g = some cs → Rep w Z (.ptr false cs) [] [.pointer (some ⟨g, 0, none⟩)]
  gle : ∀ r p k n v, X.gh r p k n v → n ≤ F.ver r
  gpl : ∀ r p k n v, X.gh r p k n v → F.ok r k n = true → PlOk w F tm r p k v

/-! ### Values in slots -/
theorem RepV_cell {w Z x φ v} (h : x.cell1 = true) : RepV w Z x φ v ↔ Rep w Z x φ [v] := by
  cases x <;> simp_all [PV.cell1, RepV, RepV1]
theorem RepV_agg {w Z cs φ v} : RepV w Z (.agg cs) φ v ↔ ∃ vs, v = .agg vs.toArray ∧ Rep w Z (.agg cs) φ vs := by simp [RepV, RepV1]
theorem RepV_tup {w Z xs φ v} : RepV w Z (.tup xs) φ v ↔ ∃ vs, v = .tuple vs.toArray ∧ RepTs w Z xs φ vs := by simp [RepV]
theorem PV.tup_or (x : PV) : (∃ xs, x = .tup xs) ∨ ((∀ w Z φ v, RepV w Z x φ v = RepV1 w Z x φ v) ∧ ∀ w Z φ v, RepV w Z x.frz φ v = RepV1 w Z x.frz φ v) := by
  cases x with
  | tup xs => exact .inl ⟨xs, rfl⟩
  | _ => refine .inr ⟨fun _ _ _ _ => rfl, fun w Z φ v => ?_⟩; simp only [PV.frz_sl, PV.frz_ptr, PV.frz_map, PV.frz_fn, PV.frz_dead, PV.frz_prim, PV.frz_agg, RepV]
theorem RepTs_cons {w Z x xs φ vs} : RepTs w Z (x :: xs) φ vs ↔ ∃ φ₁ φ₂ v vs', φ = φ₁ ++ φ₂ ∧ vs = v :: vs' ∧ RepV1 w Z x φ₁ v ∧ RepTs w Z xs φ₂ vs' := by simp [RepTs]

theorem RepV1_frame {w w' : World} {Z Z' : Nat → Prop} {x φ v} (h : Keeps w w' Z Z' φ) (hr : RepV1 w Z x φ v) : RepV1 w' Z' x φ v := by
  cases x with
  | agg cs => simp only [RepV1] at hr ⊢; obtain ⟨vs, rfl, hr⟩ := hr; exact ⟨vs, rfl, h.rep (fun _ h => h) hr⟩
  | _ => exact h.rep (fun _ h => h) hr
theorem RepTs_frame {w w' : World} {Z Z' : Nat → Prop} : ∀ {xs φ vs}, Keeps w w' Z Z' φ → RepTs w Z xs φ vs → RepTs w' Z' xs φ vs
  | [], φ, vs, _, hr => by simp only [RepTs] at hr ⊢; exact hr
  | x :: xs, φ, vs, h, hr => by
    rw [RepTs_cons] at hr ⊢; obtain ⟨φ₁, φ₂, v, vs', rfl, rfl, h1, h2⟩ := hr
    exact ⟨φ₁, φ₂, v, vs', rfl, rfl, RepV1_frame (h.mono (by simp +contextual)) h1, RepTs_frame (h.mono (by simp +contextual)) h2⟩
theorem RepV_frame {w w' : World} {Z Z' : Nat → Prop} {x φ v} (h : Keeps w w' Z Z' φ) (hr : RepV w Z x φ v) : RepV w' Z' x φ v := by
  rcases PV.tup_or x with ⟨xs, rfl⟩ | ⟨e, _⟩
  · rw [RepV_tup] at hr ⊢; obtain ⟨vs, rfl, hr⟩ := hr; exact ⟨vs, rfl, RepTs_frame h hr⟩
  · rw [e] at hr ⊢; exact RepV1_frame h hr

theorem RepV1_lt {w : World} {Z : Nat → Prop} {x φ v} (hr : RepV1 w Z x φ v) : ∀ b ∈ φ, b < w.heap.size ∧ Z b := by
  cases x with
  | agg cs => simp only [RepV1] at hr; obtain ⟨vs, rfl, hr⟩ := hr; exact Rep_lt.1 _ _ _ hr
  | _ => exact (Rep_lt (w := w) (Z := Z)).1 _ _ _ hr
theorem RepTs_lt {w : World} {Z : Nat → Prop} : ∀ {xs φ vs}, RepTs w Z xs φ vs → ∀ b ∈ φ, b < w.heap.size ∧ Z b
  | [], φ, vs, hr => by simp only [RepTs] at hr; rw [hr.1]; simp
  | x :: xs, φ, vs, hr => by
    rw [RepTs_cons] at hr; obtain ⟨φ₁, φ₂, v, vs', rfl, rfl, h1, h2⟩ := hr
    intro b hb
    rcases List.mem_append.1 hb with hb | hb
    · exact RepV1_lt h1 b hb
    · exact RepTs_lt h2 b hb
theorem RepV_lt {w : World} {Z : Nat → Prop} {x φ v} (hr : RepV w Z x φ v) : ∀ b ∈ φ, b < w.heap.size ∧ Z b := by
  rcases PV.tup_or x with ⟨xs, rfl⟩ | ⟨e, _⟩
  · rw [RepV_tup] at hr; obtain ⟨vs, rfl, hr⟩ := hr; exact RepTs_lt hr
  · rw [e] at hr; exact RepV1_lt hr

theorem RepV1_noOwn {w : World} {Z : Nat → Prop} {x φ v} (hn : x.noOwn = true) (hr : RepV1 w Z x φ v) : φ = [] := by
  cases x with
  | tup xs => simp only [RepV1, Rep] at hr
  | agg cs => simp only [RepV1] at hr; obtain ⟨vs, rfl, hr⟩ := hr; exact Rep_noOwn.1 _ _ _ hn hr
  | _ => exact (Rep_noOwn (w := w) (Z := Z)).1 _ _ _ hn hr
theorem RepTs_noOwn {w : World} {Z : Nat → Prop} : ∀ {xs φ vs}, noOwnL xs = true → RepTs w Z xs φ vs → φ = []
  | [], φ, vs, _, hr => by simp only [RepTs] at hr; exact hr.1
  | x :: xs, φ, vs, hn, hr => by
    rw [RepTs_cons] at hr; obtain ⟨φ₁, φ₂, v, vs', rfl, rfl, h1, h2⟩ := hr
    simp only [noOwnL, Bool.and_eq_true] at hn
    rw [RepV1_noOwn hn.1 h1, RepTs_noOwn hn.2 h2]; rfl
theorem RepV_noOwn {w : World} {Z : Nat → Prop} {x φ v} (hn : x.noOwn = true) (hr : RepV w Z x φ v) : φ = [] := by
  rcases PV.tup_or x with ⟨xs, rfl⟩ | ⟨e, _⟩
  · rw [RepV_tup] at hr; obtain ⟨vs, rfl, hr⟩ := hr; simp only [PV.noOwn] at hn; exact RepTs_noOwn hn hr
  · rw [e] at hr; exact RepV1_noOwn hn hr

theorem RepV1_frz {w : World} {Z Z' : Nat → Prop} (hZ : ∀ b, b < w.heap.size → Z' b → Z b) {x φ v} (hn : ∀ b ∈ φ, ¬ Z' b) (hr : RepV1 w Z x φ v) : RepV1 w Z' x.frz [] v := by
  cases x with
  | agg cs =>
    simp only [RepV1] at hr; obtain ⟨vs, rfl, hr⟩ := hr
    have := (Rep_frz hZ).1 _ _ _ hn hr
    rw [PV.frz_agg] at this ⊢; exact ⟨vs, rfl, this⟩
  | tup xs => simp only [RepV1, Rep] at hr
  | _ => have := (Rep_frz hZ).1 _ _ _ hn hr; simpa only [RepV1, PV.frz_sl, PV.frz_ptr, PV.frz_map, PV.frz_fn, PV.frz_dead, PV.frz_prim] using this
theorem RepTs_frz {w : World} {Z Z' : Nat → Prop} (hZ : ∀ b, b < w.heap.size → Z' b → Z b) : ∀ {xs φ vs}, (∀ b ∈ φ, ¬ Z' b) → RepTs w Z xs φ vs → RepTs w Z' (frzL xs) [] vs
  | [], φ, vs, _, hr => by simp only [RepTs] at hr; rw [frzL_nil]; simp only [RepTs]; exact ⟨trivial, hr.2⟩
  | x :: xs, φ, vs, hn, hr => by
    rw [RepTs_cons] at hr; obtain ⟨φ₁, φ₂, v, vs', rfl, rfl, h1, h2⟩ := hr
    rw [frzL_cons, RepTs_cons]
    exact ⟨[], [], v, vs', rfl, rfl, RepV1_frz hZ (fun b hb => hn b (by simp [hb])) h1, RepTs_frz hZ (fun b hb => hn b (by simp [hb])) h2⟩
theorem RepV_frz {w : World} {Z Z' : Nat → Prop} (hZ : ∀ b, b < w.heap.size → Z' b → Z b) {x φ v} (hn : ∀ b ∈ φ, ¬ Z' b) (hr : RepV w Z x φ v) : RepV w Z' x.frz [] v := by
  rcases PV.tup_or x with ⟨xs, rfl⟩ | ⟨e, e'⟩
  · rw [RepV_tup] at hr; obtain ⟨vs, rfl, hr⟩ := hr; rw [PV.frz_tup, RepV_tup]; exact ⟨vs, rfl, RepTs_frz hZ hn hr⟩
  · rw [e] at hr; rw [e']; exact RepV1_frz hZ hn hr

theorem RepV1_allOwn {w : World} {Z Z' : Nat → Prop} {x φ v} (ho : x.allOwn = true) (hn : ∀ b ∈ φ, Z' b) (hr : RepV1 w Z x φ v) : RepV1 w Z' x φ v := by
  cases x with
  | tup xs => simp only [RepV1, Rep] at hr
  | agg cs => simp only [RepV1] at hr ⊢; obtain ⟨vs, rfl, hr⟩ := hr; exact ⟨vs, rfl, Rep_allOwn.1 _ _ _ ho hn hr⟩
  | _ => exact (Rep_allOwn (w := w) (Z := Z)).1 _ _ _ ho hn hr
theorem RepTs_allOwn {w : World} {Z Z' : Nat → Prop} : ∀ {xs φ vs}, allOwnL xs = true → (∀ b ∈ φ, Z' b) → RepTs w Z xs φ vs → RepTs w Z' xs φ vs
  | [], φ, vs, _, _, hr => by simp only [RepTs] at hr ⊢; exact hr
  | x :: xs, φ, vs, ho, hn, hr => by
    rw [RepTs_cons] at hr ⊢; obtain ⟨φ₁, φ₂, v, vs', rfl, rfl, h1, h2⟩ := hr
    simp only [allOwnL, Bool.and_eq_true] at ho
    exact ⟨φ₁, φ₂, v, vs', rfl, rfl, RepV1_allOwn ho.1 (fun b hb => hn b (by simp [hb])) h1, RepTs_allOwn ho.2 (fun b hb => hn b (by simp [hb])) h2⟩
theorem RepV_allOwn {w : World} {Z Z' : Nat → Prop} {x φ v} (ho : x.allOwn = true) (hn : ∀ b ∈ φ, Z' b) (hr : RepV w Z x φ v) : RepV w Z' x φ v := by
  rcases PV.tup_or x with ⟨xs, rfl⟩ | ⟨e, _⟩
  · rw [RepV_tup] at hr ⊢; obtain ⟨vs, rfl, hr⟩ := hr; simp only [PV.allOwn] at ho; exact ⟨vs, rfl, RepTs_allOwn ho hn hr⟩
  · rw [e] at hr ⊢; exact RepV1_allOwn ho hn hr

/-! ### Parts of a row -/
theorem RepL_append {w Z} : ∀ {xs ys φ vs}, RepL w Z (xs ++ ys) φ vs ↔ ∃ φ₁ φ₂ v₁ v₂, φ = φ₁ ++ φ₂ ∧ vs = v₁ ++ v₂ ∧ RepL w Z xs φ₁ v₁ ∧ RepL w Z ys φ₂ v₂
  | [], ys, φ, vs => by
    simp only [List.nil_append, RepL_nil]
    constructor
    · intro h; exact ⟨[], φ, [], vs, rfl, rfl, ⟨rfl, rfl⟩, h⟩
    · rintro ⟨_, _, _, _, rfl, rfl, ⟨rfl, rfl⟩, h⟩; simpa using h
  | x :: xs, ys, φ, vs => by
    rw [List.cons_append, RepL_cons]
    constructor
    · rintro ⟨φ₁, φ₂, v₁, v₂, rfl, rfl, h1, h2⟩
      obtain ⟨ψ₁, ψ₂, u₁, u₂, rfl, rfl, h3, h4⟩ := RepL_append.1 h2
      exact ⟨φ₁ ++ ψ₁, ψ₂, v₁ ++ u₁, u₂, by simp, by simp, RepL_cons.2 ⟨φ₁, ψ₁, v₁, u₁, rfl, rfl, h1, h3⟩, h4⟩
    · rintro ⟨φ', ψ₂, v', u₂, rfl, rfl, h, h4⟩
      obtain ⟨φ₁, ψ₁, v₁, u₁, rfl, rfl, h1, h3⟩ := RepL_cons.1 h
      exact ⟨φ₁, ψ₁ ++ ψ₂, v₁, u₁ ++ u₂, by simp, by simp, h1, RepL_append.2 ⟨ψ₁, ψ₂, u₁, u₂, rfl, rfl, h3, h4⟩⟩

theorem RepL_len {w Z xs φ vs sz} (h : RepL w Z xs φ vs) (hw : ∀ x ∈ xs, x.width = sz) : vs.length = xs.length * sz := by
  rw [Rep_len.2 _ _ _ h]
  clear h
  induction xs with
  | nil => simp
  | cons x xs ih =>
    simp only [List.map_cons, List.sum_cons, List.length_cons]
    rw [ih (fun y hy => hw y (by simp [hy])), hw x (by simp), Nat.add_mul]; omega

/-- A part of a row: its own blocks are among the row's. -/
theorem RepL_part {w Z xs φ vs sz} (h : RepL w Z xs φ vs) (hw : ∀ x ∈ xs, x.width = sz) (lo n : Nat) (hb : lo + n ≤ xs.length) :
    ∃ φ', φ'.Sublist φ ∧ RepL w Z ((xs.drop lo).take n) φ' ((vs.drop (lo * sz)).take (n * sz)) := by
  have e1 : xs = xs.take lo ++ ((xs.drop lo).take n ++ (xs.drop lo).drop n) := by rw [List.take_append_drop, List.take_append_drop]
  rw [e1] at h
  obtain ⟨φ₁, φ₂, v₁, v₂, rfl, rfl, h1, h2⟩ := RepL_append.1 h
  obtain ⟨ψ₁, ψ₂, u₁, u₂, rfl, rfl, h3, h4⟩ := RepL_append.1 h2
  have l1 : v₁.length = lo * sz := by rw [RepL_len h1 (fun x hx => hw x (List.mem_of_mem_take hx)), List.length_take, Nat.min_eq_left (by omega)]
  have l2 : u₁.length = n * sz := by
    rw [RepL_len h3 (fun x hx => hw x (List.mem_of_mem_drop (List.mem_of_mem_take hx))), List.length_take, List.length_drop, Nat.min_eq_left (by omega)]
  refine ⟨ψ₁, (List.sublist_append_left ψ₁ ψ₂).trans (List.sublist_append_right φ₁ (ψ₁ ++ ψ₂)), ?_⟩
  rw [← l1, List.drop_left, ← l2, List.take_left]; exact h3

theorem Rep_sub {w : World} {Z : Nat → Prop} {f sz xs φ a a2 cap} (h : Rep w Z (.sl f sz xs) φ [.slice a xs.length cap]) (lo hi : Nat) (h1 : lo ≤ hi) (h2 : hi ≤ xs.length)
    (ha2 : cap ≠ lo → a2 = a.map (·.add (lo * sz))) :
    ∃ φ', φ'.Sublist φ ∧ Rep w Z (.sl f sz ((xs.drop lo).take (hi - lo))) φ' [.slice a2 (hi - lo) (cap - lo)] := by
  simp only [Rep] at h; obtain ⟨a', cap', ψ, ch, hv, h0, hl, hw, hh⟩ := h
  obtain ⟨rfl, rfl⟩ : a = a' ∧ cap = cap' := by simpa using hv
  obtain ⟨ψ', hs, hl'⟩ := RepL_part hl hw lo (hi - lo) (by omega)
  have hlen : ((xs.drop lo).take (hi - lo)).length = hi - lo := by simp; omega
  have hw' : ∀ x ∈ (xs.drop lo).take (hi - lo), x.width = sz := fun x hx => hw x (List.mem_of_mem_drop (List.mem_of_mem_take hx))
  rcases hh with ⟨rfl, rfl, hc0⟩ | ⟨b, off, cs, T, fr, rfl, hb, hch, hf, ht⟩
  · refine ⟨[], List.nil_sublist _, ?_⟩
    simp only [List.length_nil, Nat.le_zero] at h2
    obtain rfl : hi = 0 := h2
    obtain rfl : lo = 0 := by omega
    simp only [List.drop_nil, List.take_nil, Rep]
    exact ⟨_, cap - 0, [], [], rfl, ⟨h0.1, by simp⟩, by simp [RepL], by simp, .inl ⟨trivial, trivial, fun h => by simpa using hc0 h⟩⟩
  · by_cases hcap : cap = lo
    · subst hcap
      obtain rfl : hi = cap := by omega
      refine ⟨[], List.nil_sublist _, ?_⟩
      simp only [Nat.sub_self, List.take_zero, Rep]
      exact ⟨_, 0, [], [], rfl, ⟨h0.1, by simp⟩, by simp [RepL], by simp, .inl ⟨trivial, trivial, fun _ => rfl⟩⟩
    · have ha : (Option.map (fun x : Addr => x.add (lo * sz)) (some ⟨b, off, none⟩)) = some ⟨b, off + lo * sz, none⟩ := by
        simp only [Option.map_some, Addr.add]; split <;> simp_all
      rw [ha2 hcap, ha]
      have hch' : ∀ i v, ((ch.drop (lo * sz)).take ((hi - lo) * sz))[i]? = some v → cs[off + lo * sz + i]? = some v := by
        intro i v hi'
        rw [List.getElem?_take] at hi'
        split at hi'
        · rw [List.getElem?_drop] at hi'; rw [Nat.add_assoc]; exact hch _ _ hi'
        · cases hi'
      cases f with
      | false =>
        obtain ⟨hz, rfl, rfl⟩ := hf rfl
        obtain rfl : ψ' = [] := List.eq_nil_of_sublist_nil hs
        refine ⟨[], List.nil_sublist _, ?_⟩
        simp only [Rep]
        exact ⟨_, cap - lo, [], _, by rw [hlen], ⟨h0.1, by rw [hlen]; omega⟩, hl', hw', .inr ⟨b, _, cs, T, fr, rfl, hb, hch', fun _ => ⟨hz, trivial, rfl⟩, fun h => (by cases h)⟩⟩
      | true =>
        obtain ⟨hz, rfl, rfl, hcap2, hlen2⟩ := ht rfl
        refine ⟨b :: ψ', List.Sublist.cons_cons b hs, ?_⟩
        simp only [Rep]
        refine ⟨_, cap - lo, ψ', _, by rw [hlen], ⟨h0.1, by rw [hlen]; omega⟩, hl', hw', .inr ⟨b, _, cs, T, (0, 0), rfl, hb, hch', fun h => (by cases h), fun _ => ⟨hz, rfl, rfl, ?_, by rw [hlen]; omega⟩⟩⟩
        have : (cap - lo) * sz = cap * sz - lo * sz := Nat.sub_mul _ _ _
        have : lo * sz ≤ cap * sz := Nat.mul_le_mul_right _ (by omega)
        omega

/-- Some neighboring cells of one element, read as one value. -/
theorem row_rep {w : World} {Z : Nat → Prop} {x : PV} {φ : List Nat} {v : Value} {i o n : Nat} {r : List PV} {A : Addr} (h : Rep w Z x φ [v]) (hr : x.row i = some r)
    (hn : o + n ≤ r.length) (hA : place x v i o = some A) :
    ∃ vs φ', φ'.Sublist φ ∧ vs.length = n ∧ (∀ j, j < n → w.cell? ⟨A.block, A.off + j, none⟩ = vs[j]?) ∧ Rep w Z (.agg ((r.drop o).take n)) φ' vs := by
  cases x with
  | sl f sz xs =>
    simp only [Rep] at h; obtain ⟨a, cap, ψ, ch, hv, h0, hl, hw, hh⟩ := h
    obtain rfl : v = .slice a xs.length cap := by simpa using hv
    simp only [PV.row, Option.map_eq_some_iff] at hr
    obtain ⟨e, he, rfl⟩ := hr
    rcases hh with ⟨rfl, _⟩ | ⟨b, off, cs, T, fr, rfl, hb, hch, hf, ht⟩
    · simp at he
    · simp only [place, Option.some.injEq] at hA; subst hA
      have hi : i < xs.length := (List.getElem?_eq_some_iff.1 he).1
      have e1 : xs = xs.take i ++ (e :: xs.drop (i + 1)) := by
        have h9 : xs[i] = e := (List.getElem?_eq_some_iff.1 he).2
        rw [← h9, List.getElem_cons_drop, List.take_append_drop]
      rw [e1] at hl
      obtain ⟨ψ₁, ψ₂, v₁, v₂, rfl, rfl, g1, g2⟩ := RepL_append.1 hl
      obtain ⟨ψ₃, ψ₄, v₃, v₄, rfl, rfl, g3, g4⟩ := RepL_cons.1 g2
      have l1 : v₁.length = i * sz := by rw [RepL_len g1 (fun x hx => hw x (List.mem_of_mem_take hx)), List.length_take, Nat.min_eq_left (by omega)]
      have hc := PV.cells_cell1 g3
      obtain ⟨φ', hs, hrep⟩ := RepL_part (sz := 1) g3.cellsL (fun c hcm => PV.cell1_width (hc c hcm)) o n hn
      simp only [Nat.mul_one] at hrep
      have l3 : v₃.length = e.cells.length := by have := RepL_len (sz := 1) g3.cellsL (fun c hcm => PV.cell1_width (hc c hcm)); simpa using this
      refine ⟨_, φ', ?_, ?_, ?_, by simp only [Rep]; exact ⟨hrep, fun c hcm => hc c (List.mem_of_mem_drop (List.mem_of_mem_take hcm))⟩⟩
      · have h5 : ψ₃.Sublist (ψ₁ ++ (ψ₃ ++ ψ₄)) := (List.sublist_append_left ψ₃ ψ₄).trans (List.sublist_append_right _ _)
        cases f with
        | false =>
          obtain ⟨_, rfl, hnil⟩ := hf rfl
          rw [hnil] at h5
          exact hs.trans h5
        | true => obtain ⟨_, _, rfl, _⟩ := ht rfl; exact (hs.trans h5).trans (List.sublist_cons_self _ _)
      · simp; omega
      · intro j hj
        have hj3 : o + j < v₃.length := by omega
        have hval : ((v₃.drop o).take n)[j]? = some v₃[o + j] := by
          rw [List.getElem?_take, if_pos hj, List.getElem?_drop, List.getElem?_eq_getElem hj3]
        have hcs : cs[off + (i * sz + (o + j))]? = some v₃[o + j] := by
          apply hch
          rw [← l1, List.getElem?_append_right (by omega), List.getElem?_append_left (by omega)]
          simp [List.getElem?_eq_getElem hj3]
        rw [hval]; simp only [World.cell?, hb]
        rw [show off + (i * sz + o) + j = off + (i * sz + (o + j)) from by omega]
        simpa using hcs
  | ptr f cs =>
    simp only [Rep] at h; obtain ⟨b, arr, T, fr, ψ, hv, hb, hl, hw, hf, ht⟩ := h
    obtain rfl : v = .pointer (some ⟨b, 0, none⟩) := by simpa using hv
    simp only [PV.row] at hr
    split at hr
    case isFalse => cases hr
    case isTrue hi =>
    obtain rfl := Option.some.inj hr
    simp only [place, Option.some.injEq] at hA; subst hA
    obtain ⟨φ', hs, hrep⟩ := RepL_part (sz := 1) hl (fun c hcm => PV.cell1_width (hw c hcm)) o n hn
    simp only [Nat.mul_one] at hrep
    have l3 : arr.toList.length = cs.length := by have := RepL_len (sz := 1) hl (fun c hcm => PV.cell1_width (hw c hcm)); simpa using this
    refine ⟨_, φ', ?_, ?_, ?_, by simp only [Rep]; exact ⟨hrep, fun c hcm => hw c (List.mem_of_mem_drop (List.mem_of_mem_take hcm))⟩⟩
    · cases f with
      | false => obtain ⟨_, rfl, rfl⟩ := hf rfl; exact hs
      | true => obtain ⟨_, _, rfl⟩ := ht rfl; exact hs.trans (List.sublist_cons_self _ _)
    · simp only [List.length_take, List.length_drop]; omega
    · intro j hj
      have hj3 : o + j < arr.size := by simp only [Array.length_toList] at l3; omega
      rw [List.getElem?_take, if_pos hj, List.getElem?_drop]
      simp only [World.cell?, hb, Nat.zero_add]
      simp
  | _ => simp [PV.row] at hr

/-- A part of an array, read as a slice. -/
theorem Rep_arr {w : World} {Z : Nat → Prop} {x : PV} {φ : List Nat} {v : Value} {i o n : Nat} {r : List PV} {A A' : Addr} (h : Rep w Z x φ [v]) (hr : x.row i = some r)
    (hn : o + n ≤ r.length) (hA : place x v i o = some A) (lo hi : Nat) (h1 : lo ≤ hi) (h2 : hi ≤ n) (hA' : n ≠ lo → A' = A.add lo) :
    ∃ φ', φ'.Sublist φ ∧ Rep w Z (.sl x.owned 1 ((r.drop (o + lo)).take (hi - lo))) φ' [.slice (some A') (hi - lo) (n - lo)] := by
  have hlen : ((r.drop (o + lo)).take (hi - lo)).length = hi - lo := by simp; omega
  by_cases hnl : n = lo
  · have : hi - lo = 0 := by omega
    refine ⟨[], List.nil_sublist _, ?_⟩
    rw [this]
    simp only [List.take_zero, Rep]
    exact ⟨_, n - lo, [], [], rfl, ⟨by omega, by simp⟩, by simp [RepL], by simp, .inl ⟨trivial, trivial, fun _ => by omega⟩⟩
  obtain rfl := hA' hnl
  have hadd : A.spot = none → A.add lo = ⟨A.block, A.off + lo, none⟩ := by
    intro hs
    obtain ⟨b, f, s⟩ := A
    simp only at hs; subst hs
    unfold Addr.add; split
    · rename_i e; subst e; rfl
    · rfl
  cases x with
  | sl f sz xs =>
    simp only [Rep] at h; obtain ⟨a, cap, ψ, ch, hv, h0, hl, hw, hh⟩ := h
    obtain rfl : v = .slice a xs.length cap := by simpa using hv
    simp only [PV.row, Option.map_eq_some_iff] at hr
    obtain ⟨e, he, rfl⟩ := hr
    rcases hh with ⟨rfl, _⟩ | ⟨b, off, cs, T, fr, rfl, hb, hch, hf, ht⟩
    · simp at he
    · simp only [place, Option.some.injEq] at hA; subst hA
      rw [hadd rfl]
      have hi' : i < xs.length := (List.getElem?_eq_some_iff.1 he).1
      have h9 : xs[i] = e := (List.getElem?_eq_some_iff.1 he).2
      have e1 : xs = xs.take i ++ (e :: xs.drop (i + 1)) := by
        rw [← h9, List.getElem_cons_drop, List.take_append_drop]
      rw [e1] at hl
      obtain ⟨ψ₁, ψ₂, v₁, v₂, rfl, rfl, g1, g2⟩ := RepL_append.1 hl
      obtain ⟨ψ₃, ψ₄, v₃, v₄, rfl, rfl, g3, g4⟩ := RepL_cons.1 g2
      have l1 : v₁.length = i * sz := by rw [RepL_len g1 (fun x hx => hw x (List.mem_of_mem_take hx)), List.length_take, Nat.min_eq_left (by omega)]
      have hc := PV.cells_cell1 g3
      obtain ⟨φ', hs, hrep⟩ := RepL_part (sz := 1) g3.cellsL (fun c hcm => PV.cell1_width (hc c hcm)) (o + lo) (hi - lo) (by omega)
      simp only [Nat.mul_one] at hrep
      have l3 : v₃.length = e.cells.length := by have := RepL_len (sz := 1) g3.cellsL (fun c hcm => PV.cell1_width (hc c hcm)); simpa using this
      have h5 : ψ₃.Sublist (ψ₁ ++ (ψ₃ ++ ψ₄)) := (List.sublist_append_left ψ₃ ψ₄).trans (List.sublist_append_right _ _)
      have hch' : ∀ (k : Nat) (z : Value), ((v₃.drop (o + lo)).take (hi - lo))[k]? = some z → cs[off + (i * sz + o) + lo + k]? = some z := by
        intro k z hk
        rw [List.getElem?_take] at hk
        split at hk
        · rw [List.getElem?_drop] at hk
          rw [show off + (i * sz + o) + lo + k = off + (i * sz + (o + lo + k)) by omega]
          apply hch
          rw [← l1, List.getElem?_append_right (by omega), List.getElem?_append_left (by have := (List.getElem?_eq_some_iff.1 hk).1; omega)]
          simpa using hk
        · cases hk
      have hw' : ∀ c ∈ (e.cells.drop (o + lo)).take (hi - lo), c.width = 1 := fun c hcm => PV.cell1_width (hc c (List.mem_of_mem_drop (List.mem_of_mem_take hcm)))
      cases f with
      | false =>
        obtain ⟨hz, rfl, hnil⟩ := hf rfl
        rw [hnil] at h5
        obtain rfl := List.eq_nil_of_sublist_nil (hs.trans h5)
        refine ⟨[], List.nil_sublist _, ?_⟩
        simp only [PV.owned, Rep]
        exact ⟨_, n - lo, [], _, by rw [hlen], ⟨by omega, by rw [hlen]; omega⟩, hrep, hw', .inr ⟨b, _, cs, T, fr, rfl, hb, hch', fun _ => ⟨hz, trivial, rfl⟩, fun h => (by cases h)⟩⟩
      | true =>
        obtain ⟨hz, rfl, rfl, hcap, hlen2⟩ := ht rfl
        refine ⟨b :: φ', List.Sublist.cons_cons b (hs.trans h5), ?_⟩
        have hsz : e.cells.length = sz := by have := hw e (List.mem_of_getElem? he); cases e <;> simpa [PV.width, PV.cells] using this
        have hmul : (i + 1) * sz ≤ cap * sz := Nat.mul_le_mul_right _ (by omega)
        rw [Nat.add_mul, Nat.one_mul] at hmul
        simp only [PV.owned, Rep]
        exact ⟨_, n - lo, φ', _, by rw [hlen], ⟨by omega, by rw [hlen]; omega⟩, hrep, hw', .inr ⟨b, _, cs, T, (0, 0), rfl, hb, hch', fun h => (by cases h), fun _ => ⟨hz, rfl, rfl, by omega, by rw [hlen]; omega⟩⟩⟩
  | ptr f cs =>
    simp only [Rep] at h; obtain ⟨b, arr, T, fr, ψ, hv, hb, hl, hw, hf, ht⟩ := h
    obtain rfl : v = .pointer (some ⟨b, 0, none⟩) := by simpa using hv
    simp only [PV.row] at hr
    split at hr
    case isFalse => cases hr
    case isTrue hi' =>
    obtain rfl := Option.some.inj hr
    simp only [place, Option.some.injEq] at hA; subst hA
    rw [hadd rfl]
    obtain ⟨φ', hs, hrep⟩ := RepL_part (sz := 1) hl (fun c hcm => PV.cell1_width (hw c hcm)) (o + lo) (hi - lo) (by omega)
    simp only [Nat.mul_one] at hrep
    have l3 : arr.toList.length = cs.length := by have := RepL_len (sz := 1) hl (fun c hcm => PV.cell1_width (hw c hcm)); simpa using this
    have hch' : ∀ (k : Nat) (z : Value), ((arr.toList.drop (o + lo)).take (hi - lo))[k]? = some z → arr[0 + o + lo + k]? = some z := by
      intro k z hk
      rw [List.getElem?_take] at hk
      split at hk
      · rw [List.getElem?_drop] at hk; simpa using hk
      · cases hk
    have hw' : ∀ c ∈ (cs.drop (o + lo)).take (hi - lo), c.width = 1 := fun c hcm => PV.cell1_width (hw c (List.mem_of_mem_drop (List.mem_of_mem_take hcm)))
    cases f with
    | false =>
      obtain ⟨hz, rfl, rfl⟩ := hf rfl
      obtain rfl := List.eq_nil_of_sublist_nil hs
      refine ⟨[], List.nil_sublist _, ?_⟩
      simp only [PV.owned, Rep]
      exact ⟨_, n - lo, [], _, by rw [hlen], ⟨by omega, by rw [hlen]; omega⟩, hrep, hw', .inr ⟨b, _, arr, T, fr, rfl, hb, hch', fun _ => ⟨hz, trivial, rfl⟩, fun h => (by cases h)⟩⟩
    | true =>
      obtain ⟨hz, rfl, rfl⟩ := ht rfl
      refine ⟨b :: φ', List.Sublist.cons_cons b hs, ?_⟩
      simp only [PV.owned, Rep]
      simp only [Array.length_toList] at l3
      exact ⟨_, n - lo, φ', _, by rw [hlen], ⟨by omega, by rw [hlen]; omega⟩, hrep, hw', .inr ⟨b, _, arr, T, (0, 0), rfl, hb, hch', fun h => (by cases h), fun _ => ⟨hz, rfl, rfl, by omega, by rw [hlen]; omega⟩⟩⟩
  | _ => simp [PV.row] at hr
end Go.V
