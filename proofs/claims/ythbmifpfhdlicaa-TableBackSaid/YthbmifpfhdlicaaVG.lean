/- Frames: a store. -/
import Derived.Test.YthbmifpfhdlicaaVF
import Derived.Laws.IdiomCopy
namespace Go.V
set_option linter.unusedVariables false
set_option linter.unusedSimpArgs false

/-- how the world goes on: beside what is mine nothing changes -/
structure Stp (mine : Nat → Prop) (w w' : World) : Prop where
  os : w'.os = w.os
  tape : w'.tape = w.tape
  output : w'.output = w.output
  size : w.heap.size ≤ w'.heap.size
  block : ∀ b, b < w.heap.size → ¬ mine b → w'.heap[b]? = w.heap[b]?
theorem Stp.refl (mine : Nat → Prop) (w : World) : Stp mine w w := ⟨rfl, rfl, rfl, Nat.le_refl _, fun _ _ _ => rfl⟩
theorem Stp.trans {mine : Nat → Prop} {a b c : World} (h : Stp mine a b) (k : Stp mine b c) : Stp mine a c :=
  ⟨k.os.trans h.os, k.tape.trans h.tape, k.output.trans h.output, Nat.le_trans h.size k.size,
    fun i hi hm => (k.block i (Nat.lt_of_lt_of_le hi h.size) hm).trans (h.block i hi hm)⟩
theorem Stp.drew {mine : Nat → Prop} (w : World) : Stp mine w w.drew := ⟨rfl, rfl, rfl, Nat.le_refl _, fun _ _ _ => rfl⟩
theorem Stp.alloc {mine : Nat → Prop} (w : World) (o : Obj) : Stp mine w (w.alloc o) :=
  ⟨rfl, rfl, rfl, by simp, fun b hb _ => RowKit.Below.heap_alloc _ _ _ hb⟩
theorem Stp.setCell {mine : Nat → Prop} (w : World) {A : Addr} (h : mine A.block) (u : Value) : Stp mine w (w.setCell A u) :=
  ⟨rfl, rfl, rfl, by simp, fun b hb hm => RowKit.Below.heap_setCell _ _ _ _ (by rintro rfl; exact hm h)⟩
theorem Stp.setCells {mine : Nat → Prop} {B : Nat} (h : mine B) : ∀ (us : List Value) (o : Nat) (w : World), Stp mine w (w.setCells B o us)
  | [], _, w => Stp.refl _ w
  | u :: us, o, w => (Stp.setCell w (A := ⟨B, o, none⟩) h u).trans (Stp.setCells h us (o + 1) _)
theorem setCells_heap {B : Nat} : ∀ (us : List Value) (o : Nat) (w : World) (b : Nat), b ≠ B → (w.setCells B o us).heap[b]? = w.heap[b]?
  | [], _, w, b, _ => rfl
  | u :: us, o, w, b, h => (setCells_heap us (o + 1) _ b h).trans (RowKit.Below.heap_setCell _ _ _ _ h)
theorem setCells_size {B : Nat} : ∀ (us : List Value) (o : Nat) (w : World), (w.setCells B o us).heap.size = w.heap.size
  | [], _, w => rfl
  | u :: us, o, w => (setCells_size us (o + 1) _).trans (by simp)

theorem Chg.setCell (w : World) (A : Addr) (u : Value) (hs : A.spot = none) : Chg w (w.setCell A u) A u := by
  intro cs T fr hb hlt
  refine ⟨cs.setIfInBounds A.off u, ?_, by simp, fun i hi => ?_, ?_⟩
  · simp only [World.setCell, Array.getElem?_modify, if_true, hb, Option.map_some, hs]; simp
  · rw [Array.getElem?_setIfInBounds_ne (by omega)]
  · rw [Array.getElem?_setIfInBounds_self]; simp [hlt]

def PV.putCs (p : Path) (i : Nat) : PV → Nat → List PV → Option PV
  | x, _, [] => some x
  | x, o, c :: cs => (x.putC p i o c).bind fun x' => PV.putCs p i x' (o + 1) cs

theorem place_at {g : PV} {gv : Value} {i o : Nat} {A A1 : Addr} (h0 : place g gv i 0 = some A) (h1 : place g gv i o = some A1) : A1 = ⟨A.block, A.off + o, none⟩ := by
  cases g with
  | sl f sz xs =>
    cases gv with
    | slice a l c => cases a with
      | none => simp [place] at h0
      | some a => simp only [place, Option.some.injEq] at h0 h1; subst h0 h1; simp [Nat.add_assoc]
    | _ => simp [place] at h0
  | ptr f cs =>
    cases gv with
    | pointer a => cases a with
      | none => simp [place] at h0
      | some a => simp only [place, Option.some.injEq] at h0 h1; subst h0 h1; simp
    | _ => simp [place] at h0
  | _ => simp [place] at h0

theorem one_oneCell' (v : Value) : v.oneCell' = one v := by cases v <;> rfl

/-- Cells replaced one by one, in the model and in the value. -/
theorem putCs_rep {Z : Nat → Prop} {p : Path} {i : Nat} {v : Value} {A : Addr} : ∀ (cs : List PV) (o : Nat) (x : PV) (w : World) (φ φc : List Nat) (us : List Value) (x' g : PV) (gv : Value),
    φ.Nodup → Rep w Z x φ [v] → PV.putCs p i x o cs = some x' → RepL w Z cs φc us → (∀ c ∈ cs, c.cell1 = true) → φc.Nodup → (∀ b ∈ φc, b ∉ φ) → follow w x v p = some (g, gv) → place g gv i 0 = some A →
    ∃ φ', Rep (w.setCells A.block (A.off + o) us) Z x' φ' [v] ∧ φ'.Nodup ∧ (∀ b ∈ φ', b ∈ φ ∨ b ∈ φc) ∧ (cs ≠ [] → A.block ∈ φ) ∧
      (∀ j, j < us.length → (w.cell? ⟨A.block, A.off + o + j, none⟩).isSome = true) ∧ (∀ j, j < us.length → w.frozen? ⟨A.block, A.off + o + j, none⟩ = false) ∧ (∀ u ∈ us, u.oneCell' = true)
  | [], o, x, w, φ, φc, us, x', g, gv, hnd, h, hp, hl, hc, hndc, hap, hf, hA => by
    rw [RepL_nil] at hl; obtain ⟨rfl, rfl⟩ := hl
    simp only [PV.putCs, Option.some.injEq] at hp; subst hp
    exact ⟨φ, h, hnd, fun b hb => .inl hb, fun h => absurd rfl h, fun j hj => by simp at hj, fun j hj => by simp at hj, by simp⟩
  | c :: cs, o, x, w, φ, φc, us, x', g, gv, hnd, h, hp, hl, hc, hndc, hap, hf, hA => by
    rw [RepL_cons] at hl; obtain ⟨φ₁, φ₂, v₁, us', rfl, rfl, h1, h2⟩ := hl
    have hl1 : v₁.length = 1 := by rw [h1.length, PV.cell1_width (hc c (by simp))]
    obtain ⟨u, rfl⟩ := List.length_eq_one_iff.1 hl1
    simp only [PV.putCs, Option.bind_eq_some_iff] at hp
    obtain ⟨x1, hx1, hp⟩ := hp
    obtain ⟨g1, gv1, A1, y, u0, ψ₁, ψy, ψ₂, hf1, hy, hyc, hA1, hu, hsp, hmem, hfz, rfl, hr, hrep⟩ := putC_rep p x φ v x1 hnd h hx1
    obtain ⟨rfl, rfl⟩ : g = g1 ∧ gv = gv1 := by rw [hf] at hf1; simpa using hf1
    obtain rfl := place_at hA hA1
    have hmemφ : A.block ∈ ψ₁ ++ ψy ++ ψ₂ := by simp only [List.mem_append] at hmem ⊢; rcases hmem with hm | hm <;> simp [hm]
    have hzA := (Rep_lt.1 _ _ _ h A.block hmemφ).2
    have hnd1 := List.nodup_append.1 hnd
    have hnd2 := List.nodup_append.1 hnd1.1
    have hndc' := List.nodup_append.1 hndc
    have hother : ∀ b, b ≠ A.block → (w.setCell ⟨A.block, A.off + o, none⟩ u).heap[b]? = w.heap[b]? := fun b hb => RowKit.Below.heap_setCell _ _ _ _ hb
    have hkeep : ∀ χ : List Nat, A.block ∉ χ → Keeps w (w.setCell ⟨A.block, A.off + o, none⟩ u) Z Z χ := by
      intro χ hχ
      refine fun b hb hm => ⟨Iff.rfl, hother b ?_⟩
      rintro rfl
      rcases hm with hm | hm
      · exact hχ hm
      · exact hm hzA
    have hA1' : A.block ∉ φ₁ := fun h => hap _ (by simp [h]) hmemφ
    have hA2' : A.block ∉ φ₂ := fun h => hap _ (by simp [h]) hmemφ
    obtain ⟨hrx, hfol⟩ := hrep (w.setCell ⟨A.block, A.off + o, none⟩ u) Z φ₁ u (hc c (by simp)) (by intro b hb hm; exact ⟨Iff.rfl, fun hne => hother b hne⟩)
      (Chg.setCell w _ u rfl) ((hkeep φ₁ hA1').rep (fun _ h => h) h1)
    have hndx : (ψ₁ ++ φ₁ ++ ψ₂).Nodup := by
      refine List.nodup_append.2 ⟨List.nodup_append.2 ⟨hnd2.1, hndc'.1, fun a ha b hb e => hap b (by simp [hb]) (by subst e; simp [ha])⟩, hnd1.2.1, fun a ha b hb e => ?_⟩
      subst e
      rcases List.mem_append.1 ha with ha | ha
      · exact hnd1.2.2 a (by simp [ha]) a hb rfl
      · exact hap a (by simp [ha]) (by simp [hb])
    obtain ⟨φ', k1, k2, k3, k4, k5, k6, k7⟩ := putCs_rep cs (o + 1) x1 _ _ φ₂ us' x' (g.upd i o c) gv hndx hrx hp ((hkeep φ₂ hA2').repL (fun _ h => h) h2) (fun c hm => hc c (by simp [hm])) hndc'.2.1
      (fun b hb hb2 => by
        simp only [List.mem_append] at hb2
        rcases hb2 with (hb2 | hb2) | hb2
        · exact hap b (by simp [hb]) (by simp [hb2])
        · exact hndc'.2.2 b hb2 b hb rfl
        · exact hap b (by simp [hb]) (by simp [hb2])) hfol (by rw [place_upd]; exact hA)
    refine ⟨φ', ?_, k2, ?_, fun _ => hmemφ, ?_, ?_, ?_⟩
    · simp only [List.cons_append, List.nil_append, World.setCells]; rw [Nat.add_assoc]; exact k1
    · intro b hb
      have := k3 b hb
      simp only [List.mem_append] at this ⊢
      rcases this with ((h | h) | h) | h <;> simp [h]
    · intro j hj
      cases j with
      | zero => rw [Nat.add_zero, hu]; rfl
      | succ j =>
        have := k5 j (by simp at hj; omega)
        rw [World.cell?_setCell_other _ _ _ _ (by simp; omega)] at this
        rwa [show A.off + o + (j + 1) = A.off + (o + 1) + j by omega]
    · intro j hj
      cases j with
      | zero => exact hfz
      | succ j =>
        have := k6 j (by simp at hj; omega)
        rw [World.frozen?_setCell] at this
        rwa [show A.off + o + (j + 1) = A.off + (o + 1) + j by omega]
    · intro z hz
      rcases List.mem_cons.1 hz with rfl | hz
      · rw [one_oneCell']; exact Rep_oneCell h1 (hc c (by simp))
      · exact k7 z hz

variable {X : Cx} {Z : Nat → Prop} {w : World} {φ : Tmp → List Nat} {tm : Tmp → Value} {F : RF}

/-- The cell that a pointer in a slot leads to. -/
def RF.target (F : RF) (t : Tmp) : Option (Tmp × Path × Nat × Nat) :=
  match F.slot t with
  | .val (.ptr _ _) => some (t, [], 0, 0)
  | .pl r p k n => if F.ok r k n = true then match k with
      | .addr i o => some (r, p, i, o)
      | .self => match F.slot r with
        | .val x => match x.get? p with
          | some (.ptr _ _) => some (r, p, 0, 0)
          | _ => none
        | _ => none
      | _ => none
    else none
  | _ => none

theorem Rel.target (h : Rel X Z w φ tm F) {t r : Tmp} {p : Path} {i o : Nat} (ht : F.target t = some (r, p, i, o)) :
    ∃ x y u A, F.slot r = .val x ∧ follow w x (tm r) p = some (y, u) ∧ x.get? p = some y ∧ place y u i o = some A ∧ tm t = .pointer (some A) ∧ A.spot = none ∧ (∃ φy, RepV w Z y φy u ∧ φy.Sublist (φ r)) := by
  have hspot : ∀ {y u i o A}, place y u i o = some A → A.spot = none := by
    intro y u i o A hA
    cases y with
    | sl f sz xs =>
      cases u with
      | slice a l c => cases a with
        | none => simp [place] at hA
        | some a => simp only [place, Option.some.injEq] at hA; subst hA; rfl
      | _ => simp [place] at hA
    | ptr f cs =>
      cases u with
      | pointer a => cases a with
        | none => simp [place] at hA
        | some a => simp only [place, Option.some.injEq] at hA; subst hA; rfl
      | _ => simp [place] at hA
    | _ => simp [place] at hA
  have hptr : ∀ {f cs φy u}, RepV w Z (.ptr f cs) φy u → ∃ A, place (.ptr f cs) u 0 0 = some A ∧ u = .pointer (some A) := by
    intro f cs φy u hr
    rw [RepV_cell rfl] at hr
    simp only [Rep] at hr
    obtain ⟨b, arr, T, fr, ψ, hv, _⟩ := hr
    obtain rfl : u = _ := by simpa using hv
    exact ⟨_, rfl, rfl⟩
  unfold RF.target at ht
  split at ht
  · rename_i f cs hs
    simp only [Option.some.injEq, Prod.mk.injEq] at ht
    obtain ⟨rfl, rfl, rfl, rfl⟩ := ht
    have hr := h.vals t _ hs
    obtain ⟨A, hA, hv⟩ := hptr hr
    exact ⟨_, _, _, A, hs, rfl, rfl, hA, hv, hspot hA, φ t, hr, List.Sublist.refl _⟩
  · rename_i r' p' k n hs
    split at ht
    case isFalse => cases ht
    case isTrue hok =>
    obtain ⟨x, y, u, φy, hx, hf, hv, hg, hr, hsub⟩ := h.plRep hs hok
    cases k with
    | addr i' o' =>
      simp only [Option.some.injEq, Prod.mk.injEq] at ht
      obtain ⟨rfl, rfl, rfl, rfl⟩ := ht
      simp only [viewOk] at hv
      obtain ⟨A, hA, hv⟩ := hv
      exact ⟨x, y, u, A, hx, hf, hg, hA, hv, hspot hA, φy, hr, hsub⟩
    | self =>
      simp only [hx, hg] at ht
      split at ht
      · rename_i f cs hy
        obtain rfl := Option.some.inj hy
        simp only [Option.some.injEq, Prod.mk.injEq] at ht
        obtain ⟨rfl, rfl, rfl, rfl⟩ := ht
        simp only [viewOk] at hv
        obtain ⟨A, hA, hu⟩ := hptr hr
        exact ⟨x, _, u, A, hx, hf, hg, hA, by rw [hv.1]; exact hu, hspot hA, φy, hr, hsub⟩
      · cases ht
    | _ => simp at ht
  · cases ht

/-- A slot's value is replaced by one that a store has left; what led through it is broken. -/
def RF.re (F : RF) (r : Tmp) (x : PV) : RF := (F.set r .dead).set r (.val x)

theorem Rel.store (h : Rel X Z w φ tm F) {r : Tmp} {x x' : PV} {p : Path} {i o : Nat} {cs : List PV} {φc : List Nat} {us : List Value} {y : PV} {u : Value} {A : Addr}
    (hx : F.slot r = .val x) (hp : PV.putCs p i x o cs = some x') (hl : RepL w Z cs φc us) (hc : ∀ c ∈ cs, c.cell1 = true) (hnd : φc.Nodup) (hap : ∀ t, ∀ b ∈ φc, b ∉ φ t)
    (hm : ∀ b ∈ φc, X.mine b) (hf : follow w x (tm r) p = some (y, u)) (hA : place y u i 0 = some A) :
    ∃ φ', Rel X Z (w.setCells A.block (A.off + o) us) φ' tm (F.re r x') ∧ Stp X.mine w (w.setCells A.block (A.off + o) us) ∧
      (∀ j, j < us.length → (w.cell? ⟨A.block, A.off + o + j, none⟩).isSome = true) ∧ (∀ j, j < us.length → w.frozen? ⟨A.block, A.off + o + j, none⟩ = false) ∧ (∀ u ∈ us, u.oneCell' = true) := by
  have hrx := h.vals r x hx
  cases cs with
  | nil =>
    simp only [PV.putCs, Option.some.injEq] at hp; subst hp
    rw [RepL_nil] at hl; obtain ⟨rfl, rfl⟩ := hl
    refine ⟨upd (upd φ r []) r (φ r), ?_, Stp.refl _ _, by simp, by simp, by simp⟩
    have h1 := h.setDead r (tm r)
    rw [upd_eta] at h1
    have h2 := h1.setVal (t := r) (x := x) (v := tm r) (φx := φ r) hrx (h.nodup r) (fun b hb => h.mine r b hb) (fun u hu b hb => by rw [upd_ne _ _ hu]; exact fun hb2 => hu (h.disj u r b hb2 hb))
    rw [upd_eta] at h2; exact h2
  | cons c cs =>
  have hxc : x.cell1 = true ∧ x'.cell1 = true := by
    simp only [PV.putCs, Option.bind_eq_some_iff] at hp
    obtain ⟨x1, hx1, hp⟩ := hp
    refine ⟨(putC_cell1 hx1).1, ?_⟩
    have : ∀ (cs : List PV) (o : Nat) (x x' : PV), x.cell1 = true → PV.putCs p i x o cs = some x' → x'.cell1 = true := by
      intro cs
      induction cs with
      | nil => intro o x x' hx hp; simp only [PV.putCs, Option.some.injEq] at hp; exact hp ▸ hx
      | cons c cs ih =>
        intro o x x' hx hp
        simp only [PV.putCs, Option.bind_eq_some_iff] at hp
        obtain ⟨x1, hx1, hp⟩ := hp
        exact ih _ _ _ (putC_cell1 hx1).2 hp
    exact this _ _ _ _ (putC_cell1 hx1).2 hp
  rw [RepV_cell hxc.1] at hrx
  obtain ⟨φ', k1, k2, k3, k4, k5, k6, k7⟩ := putCs_rep (c :: cs) o x w _ φc us x' y u (h.nodup r) hrx hp hl hc hnd (hap r) hf hA
  have hAr : A.block ∈ φ r := k4 (by simp)
  have hzA : Z A.block := (Rep_lt.1 _ _ _ hrx _ hAr).2
  refine ⟨upd (upd φ r []) r φ', ?_, Stp.setCells (h.mine r _ hAr) _ _ _, k5, k6, k7⟩
  have h1 := h.setDead r (tm r)
  rw [upd_eta] at h1
  have h2 := h1.keep (w' := w.setCells A.block (A.off + o) us) (Z' := Z) (fun b hb hm => ⟨Iff.rfl, setCells_heap _ _ _ _ (by
    rintro rfl
    rcases hm with ⟨t, ht⟩ | hm
    · by_cases e : t = r
      · simp [upd, e] at ht
      · rw [upd_ne _ _ e] at ht; exact e (h.disj t r _ ht hAr)
    · exact hm hzA)⟩)
  have h3 := h2.setVal (t := r) (x := x') (v := tm r) (φx := φ') ((RepV_cell hxc.2).2 k1) k2
    (fun b hb => (k3 b hb).elim (fun hb => h.mine r b hb) (fun hb => hm b hb))
    (fun t ht b hb => by
      rw [upd_ne _ _ ht]
      rcases k3 b hb with hb | hb
      · exact fun hb2 => ht (h.disj t r b hb2 hb)
      · exact hap t b hb)
  rw [upd_eta] at h3; exact h3
end Go.V
