/- Frames: what is taken out of a slot, and out of the middle of one. -/
import Derived.Test.YthbmifpfhdlicaaVE
namespace Go.V
set_option linter.unusedVariables false
set_option linter.unusedSimpArgs false

/-- The way to the block in which a cell was replaced is the same. -/
theorem follow_putC {w : World} {i o : Nat} {y' : PV} : ∀ (q : Path) (x : PV) (v : Value) (x' h : PV) (hv : Value), x.putC q i o y' = some x' → follow w x v q = some (h, hv) →
    follow w x' v q = some (h.upd i o y', hv)
  | [], x, v, x', h, hv, hp, hf => by
    simp only [follow, Option.some.injEq, Prod.mk.injEq] at hf ⊢
    obtain ⟨rfl, rfl⟩ := hf
    simp only [PV.putC] at hp
    split at hp
    · exact ⟨(Option.some.inj hp).symm, rfl⟩
    · cases hp
  | (j, k) :: q, x, v, x', h, hv, hp, hf => by
    simp only [PV.putC] at hp
    split at hp
    case isFalse => cases hp
    simp only [Option.bind_eq_some_iff, Option.map_eq_some_iff] at hp
    obtain ⟨c, hc, c', hc', rfl⟩ := hp
    simp only [follow, Option.bind_eq_some_iff] at hf ⊢
    obtain ⟨c2, hc2, u, ⟨A, hA, hu⟩, hf⟩ := hf
    obtain rfl : c2 = c := by rw [hc] at hc2; exact (Option.some.inj hc2).symm
    exact ⟨c', at_upd hc (putC_cell1 hc').2, u, ⟨A, by rw [place_upd]; exact hA, hu⟩, follow_putC q c2 u c' h hv hc' hf⟩

theorem get_of_follow {w : World} {y : PV} {u : Value} : ∀ (p : Path) (x : PV) (v : Value), follow w x v p = some (y, u) → x.get? p = some y
  | [], x, v, hf => by simp only [follow, Option.some.injEq, Prod.mk.injEq] at hf; simp [PV.get?, hf.1]
  | (i, o) :: p, x, v, hf => by
    simp only [follow, Option.bind_eq_some_iff] at hf
    obtain ⟨c, hc, u1, ⟨A, hA, hu1⟩, hf⟩ := hf
    simp only [PV.get?, hc, Option.bind_some]; exact get_of_follow p _ _ hf

/-- neighboring cells taken out, one by one -/
def takeCells (p : Path) (i : Nat) : PV → Nat → Nat → Option (List PV × PV)
  | x, _, 0 => some ([], x)
  | x, o, n + 1 => ((x.get? p).bind fun y => y.at? i o).bind fun c => (x.putC p i o .dead).bind fun x' => (takeCells p i x' (o + 1) n).map fun r => (c :: r.1, r.2)

theorem Keeps.refl (w : World) (Z : Nat → Prop) (φ : List Nat) : Keeps w w Z Z φ := fun _ _ _ => ⟨Iff.rfl, rfl⟩

/-- One cell taken out. -/
theorem putC_dead {w : World} {Z : Nat → Prop} {i o : Nat} {q : Path} {x : PV} {φ : List Nat} {v : Value} {x' : PV} (hnd : φ.Nodup) (h : Rep w Z x φ [v]) (hp : x.putC q i o .dead = some x') :
    ∃ g hv A y u φ₁ φy φ₂, follow w x v q = some (g, hv) ∧ g.at? i o = some y ∧ y.cell1 = true ∧ place g hv i o = some A ∧ w.cell? A = some u ∧ A.spot = none ∧ φ = φ₁ ++ φy ++ φ₂ ∧ Rep w Z y φy [u] ∧ Rep w Z x' (φ₁ ++ φ₂) [v] := by
  obtain ⟨g, hv, A, y, u, φ₁, φy, φ₂, hf, hy, hyc, hA, hu, hsp, hmem, hfz, he, hr, hrep⟩ := putC_rep q x φ v x' hnd h hp
  refine ⟨g, hv, A, y, u, φ₁, φy, φ₂, hf, hy, hyc, hA, hu, hsp, he, hr, ?_⟩
  have := (hrep w Z [] u rfl (by intro b _ _; exact ⟨Iff.rfl, fun _ => rfl⟩) (Chg.same rfl hu hsp) (by simp [Rep, Rep_oneCell hr hyc])).1
  simpa using this

theorem takeCells_rep {w : World} {Z : Nat → Prop} {p : Path} {i : Nat} {v : Value} : ∀ (n o : Nat) (x : PV) (φ : List Nat) (cs : List PV) (x' : PV), φ.Nodup → Rep w Z x φ [v] →
    takeCells p i x o n = some (cs, x') → ∀ (g : PV) (gv : Value) (A : Addr), follow w x v p = some (g, gv) → place g gv i 0 = some A →
    ∃ φ' φc vs, Rep w Z x' φ' [v] ∧ RepL w Z cs φc vs ∧ (∀ c ∈ cs, c.cell1 = true) ∧ vs.length = n ∧ (∀ j, j < n → w.cell? ⟨A.block, A.off + (o + j), none⟩ = vs[j]?) ∧
      φ'.Nodup ∧ φc.Nodup ∧ (∀ b ∈ φ', b ∈ φ ∧ b ∉ φc) ∧ (∀ b ∈ φc, b ∈ φ)
  | 0, o, x, φ, cs, x', hnd, h, ht, g, gv, A, hf, hA => by
    simp only [takeCells, Option.some.injEq, Prod.mk.injEq] at ht
    obtain ⟨rfl, rfl⟩ := ht
    exact ⟨φ, [], [], h, RepL_nil.2 ⟨rfl, rfl⟩, by simp, rfl, fun j hj => by omega, hnd, List.nodup_nil, fun b hb => ⟨hb, by simp⟩, by simp⟩
  | n + 1, o, x, φ, cs, x', hnd, h, ht, g, gv, A, hf, hA => by
    simp only [takeCells, Option.bind_eq_some_iff, Option.map_eq_some_iff] at ht
    obtain ⟨c, ⟨g2, hg2, hc⟩, x1, hx1, ⟨cs', x''⟩, ht, he⟩ := ht
    simp only [Prod.mk.injEq] at he
    obtain ⟨rfl, rfl⟩ := he
    obtain rfl : g = g2 := by have := get_of_follow p x v hf; rw [hg2] at this; exact (Option.some.inj this).symm
    obtain ⟨g3, gv3, A1, y, u, φ₁, φy, φ₂, hf3, hy, hyc, hA1, hu, hsp, rfl, hr, hr1⟩ := putC_dead hnd h hx1
    obtain ⟨rfl, rfl⟩ : g = g3 ∧ gv = gv3 := by rw [hf] at hf3; simpa using hf3
    obtain rfl : c = y := by rw [hc] at hy; exact Option.some.inj hy
    have hndx := List.nodup_append.1 hnd
    have hndy := List.nodup_append.1 hndx.1
    have hnd1 : (φ₁ ++ φ₂).Nodup := List.nodup_append.2 ⟨hndy.1, hndx.2.1, fun a ha b hb => hndx.2.2 a (by simp [ha]) b hb⟩
    obtain ⟨φ', φc, vs, k1, k2, k3, k4, k5, k6, k7, k8, k9⟩ := takeCells_rep n (o + 1) x1 _ _ _ hnd1 hr1 ht (g.upd i o .dead) gv A (follow_putC p x v x1 g gv hx1 hf) (by rw [place_upd]; exact hA)
    have hyin : ∀ b ∈ φy, b ∉ φ₁ ++ φ₂ := by
      intro b hb hb2
      rcases List.mem_append.1 hb2 with hb2 | hb2
      · exact hndy.2.2 b hb2 b hb rfl
      · exact hndx.2.2 b (by simp [hb]) b hb2 rfl
    have hcell : c.cell1 = true := hyc
    have hA1' : A1 = ⟨A.block, A.off + o, none⟩ := by
      clear k1 k2 k3 k5
      cases g with
      | sl f sz xs =>
        cases gv with
        | slice a l c => cases a with
          | none => simp [place] at hA
          | some a => simp only [place, Option.some.injEq] at hA hA1; subst hA hA1; simp [Nat.add_assoc]
        | _ => simp [place] at hA
      | ptr f cs =>
        cases gv with
        | pointer a => cases a with
          | none => simp [place] at hA
          | some a => simp only [place, Option.some.injEq] at hA hA1; subst hA hA1; simp
        | _ => simp [place] at hA
      | _ => simp [place] at hA
    refine ⟨φ', φy ++ φc, u :: vs, k1, RepL_cons.2 ⟨φy, φc, [u], vs, rfl, rfl, hr, k2⟩, ?_, by simp [k4], ?_, k6, ?_, ?_, ?_⟩
    · intro z hz; rcases List.mem_cons.1 hz with rfl | hz
      · exact hcell
      · exact k3 z hz
    · intro j hj
      cases j with
      | zero => simp only [Nat.add_zero, List.getElem?_cons_zero]; rw [← hu, hA1']
      | succ j => simp only [List.getElem?_cons_succ]; rw [← k5 j (by omega)]; congr 2; omega
    · exact List.nodup_append.2 ⟨hndy.2.1, k7, fun a ha b hb e => hyin a ha (e ▸ k9 b hb)⟩
    · intro b hb
      have := k8 b hb
      refine ⟨by have := this.1; simp only [List.mem_append] at this ⊢; rcases this with h | h <;> simp [h], ?_⟩
      intro hb2
      rcases List.mem_append.1 hb2 with hb2 | hb2
      · exact hyin b hb2 this.1
      · exact this.2 hb2
    · intro b hb
      rcases List.mem_append.1 hb with hb | hb
      · simp [hb]
      · have := k9 b hb; simp only [List.mem_append] at this ⊢; rcases this with h | h <;> simp [h]

def splitLast : Path → Option (Path × Nat × Nat)
  | [] => none
  | c :: p => match splitLast p with
    | none => some ([], c.1, c.2)
    | some (q, d) => some (c :: q, d)
theorem splitLast_none {p : Path} (h : splitLast p = none) : p = [] := by
  cases p with
  | nil => rfl
  | cons c p => simp only [splitLast] at h; split at h <;> cases h
theorem splitLast_some : ∀ {p q : Path} {i o : Nat}, splitLast p = some (q, i, o) → p = q ++ [(i, o)]
  | [], q, i, o, h => by simp [splitLast] at h
  | c :: p, q, i, o, h => by
    simp only [splitLast] at h
    split at h
    · rename_i hn
      simp only [Option.some.injEq, Prod.mk.injEq] at h
      obtain ⟨rfl, rfl, rfl⟩ := h
      rw [splitLast_none hn]; rfl
    · rename_i q' d hs
      simp only [Option.some.injEq, Prod.mk.injEq] at h
      obtain ⟨rfl, rfl⟩ := h
      rw [splitLast_some hs]; rfl
theorem follow_append {w : World} : ∀ (q p : Path) (x : PV) (v : Value), follow w x v (q ++ p) = (follow w x v q).bind fun r => follow w r.1 r.2 p
  | [], p, x, v => by simp [follow]
  | (i, o) :: q, p, x, v => by
    simp only [List.cons_append, follow]
    cases x.at? i o with
    | none => rfl
    | some c =>
      simp only [Option.bind_some]
      cases (place x v i o).bind w.cell? with
      | none => rfl
      | some u => simp only [Option.bind_some]; exact follow_append q p c u

/-- what is taken out of a slot; the frame that is left -/
def RF.take (F : RF) (t : Tmp) : Option (PV × RF) :=
  (F.content t).bind fun y =>
    if y.noOwn then some (y, F) else
    match F.slot t with
    | .dead => none
    | .val _ => some (y, F.set t .dead)
    | .pl r p k n =>
      match k with
      | .addr _ _ => none
      | .arr _ _ _ _ _ => none
      | .cells i o n _ =>
        match F.slot r with
        | .val x => (takeCells p i x o n).map fun c => (.agg c.1, F.set r (.val c.2))
        | _ => none
      | _ =>
        match splitLast p with
        | none => some (y, F.set r .dead)
        | some (q, i, o) =>
          match F.slot r with
          | .val x => (x.putC q i o .dead).map fun x' => (y, F.set r (.val x'))
          | _ => none

structure Taken (X : Cx) (Z : Nat → Prop) (w : World) (φ : Tmp → List Nat) (tm : Tmp → Value) (F' : RF) (y : PV) (v : Value) (φ' : Tmp → List Nat) (φy : List Nat) : Prop where
  rel : Rel X Z w φ' tm F'
  rep : RepV w Z y φy v
  nodup : φy.Nodup
  was : ∀ b ∈ φy, ∃ r, b ∈ φ r
  less : ∀ r b, b ∈ φ' r → b ∈ φ r
  apart : ∀ r, ∀ b ∈ φy, b ∉ φ' r

variable {X : Cx} {Z : Nat → Prop} {w : World} {φ : Tmp → List Nat} {tm : Tmp → Value} {F : RF}

theorem upd_eta (tm : Tmp → Value) (t : Tmp) : upd tm t (tm t) = tm := by funext u; by_cases e : u = t <;> simp [upd, e]

theorem Rel.take (h : Rel X Z w φ tm F) {t : Tmp} {y : PV} {F' : RF} (ht : F.take t = some (y, F')) : ∃ φ' φy, Taken X Z w φ tm F' y (tm t) φ' φy := by
  unfold RF.take at ht
  simp only [Option.bind_eq_some_iff] at ht
  obtain ⟨z, hz, ht⟩ := ht
  split at ht
  · rename_i hn
    obtain ⟨rfl, rfl⟩ : z = y ∧ F = F' := by simpa using ht
    obtain ⟨φy, hr, hw, hnd⟩ := h.content hz
    obtain rfl := RepV_noOwn hn hr
    exact ⟨φ, [], h, hr, hnd, by simp, fun _ _ h => h, by simp⟩
  rename_i hn
  unfold RF.content at hz
  split at ht
  · cases ht
  · -- a value of the slot's own
    rename_i x hs
    rw [hs] at hz
    obtain ⟨rfl, rfl⟩ : z = y ∧ F.set t .dead = F' := by simpa using ht
    obtain rfl : x = z := by simpa using hz
    have hr := h.vals t x hs
    refine ⟨upd φ t [], φ t, ?_, hr, h.nodup t, fun b hb => ⟨t, hb⟩, ?_, ?_⟩
    · have := h.setDead t (tm t); rwa [upd_eta] at this
    · intro r b hb; by_cases e : r = t
      · simp [upd, e] at hb
      · simpa [upd, e] using hb
    · intro r b hb; by_cases e : r = t
      · simp [upd, e]
      · simp only [upd, e, if_false]; exact fun hb2 => e (h.disj r t b hb2 hb)
  · rename_i r p k n hs
    rw [hs] at hz
    simp only at hz
    split at hz
    case isFalse => cases hz
    case isTrue hver =>
    obtain ⟨x, y0, u, φy0, hx, hf, hv, hg, hr, hsub⟩ := h.plRep hs hver
    rw [hx] at hz
    simp only [hg, Option.bind_some] at hz
    have hrx := h.vals r x hx
    -- the frame with slot r changed
    have fin : ∀ (x' : PV) (φ' φc : List Nat) (z' : PV), RepV w Z x' φ' (tm r) → φ'.Nodup → (∀ b ∈ φ', b ∈ φ r ∧ b ∉ φc) → (∀ b ∈ φc, b ∈ φ r) → φc.Nodup → RepV w Z z' φc (tm t) →
        Taken X Z w φ tm (F.set r (.val x')) z' (tm t) (upd φ r φ') φc := by
      intro x' φ' φc z' h1 h2 h3 h4 h5 h6
      refine ⟨?_, h6, h5, fun b hb => ⟨r, h4 b hb⟩, ?_, ?_⟩
      · have := h.setVal (t := r) h1 h2 (fun b hb => h.mine r b (h3 b hb).1) (fun u hu b hb hb2 => hu (h.disj u r b hb2 (h3 b hb).1))
        rwa [upd_eta] at this
      · intro r' b hb; by_cases e : r' = r
        · subst e; rw [upd_self] at hb; exact (h3 b hb).1
        · rwa [upd_ne _ _ e] at hb
      · intro r' b hb; by_cases e : r' = r
        · subst e; rw [upd_self]; exact fun hb2 => (h3 b hb2).2 hb
        · rw [upd_ne _ _ e]; exact fun hb2 => e (h.disj r' r b hb2 (h4 b hb))
    have common : ∀ (hk : (∃ lo hi, k = .sub lo hi) ∨ k = .self), (match splitLast p with
        | none => some (z, F.set r .dead)
        | some (q, i, o) => match F.slot r with | .val x => (x.putC q i o .dead).map fun x' => (z, F.set r (.val x')) | _ => none) = some (y, F') → ∃ φ' φy, Taken X Z w φ tm F' y (tm t) φ' φy := by
      intro hk ht
      obtain ⟨φz, hzs, hzr⟩ := RepV_view hr hz hv
      split at ht
      · rename_i hsp
        obtain ⟨rfl, rfl⟩ : z = y ∧ F.set r .dead = F' := by simpa using ht
        obtain rfl := splitLast_none hsp
        have hsubr : φz.Sublist (φ r) := hzs.trans hsub
        refine ⟨upd φ r [], φz, ?_, hzr, (h.nodup r).sublist hsubr, fun b hb => ⟨r, hsubr.subset hb⟩, ?_, ?_⟩
        · have := h.setDead r (tm r); rwa [upd_eta] at this
        · intro r' b hb; by_cases e : r' = r
          · simp [upd, e] at hb
          · simpa [upd, e] using hb
        · intro r' b hb; by_cases e : r' = r
          · simp [upd, e]
          · simp only [upd, e, if_false]; exact fun hb2 => e (h.disj r' r b hb2 (hsubr.subset hb))
      · rename_i q i o hsp
        rw [hx] at ht
        simp only [Option.map_eq_some_iff, Prod.mk.injEq] at ht
        obtain ⟨x', hx', rfl, rfl⟩ := ht
        obtain rfl := splitLast_some hsp
        have hc1 := putC_cell1 hx'
        rw [RepV_cell hc1.1] at hrx
        obtain ⟨g, gv, A, y1, u1, φ₁, φy, φ₂, hf1, hy1, hyc, hA, hu1, hsp1, he, hr1, hr2⟩ := putC_dead (h.nodup r) hrx hx'
        have hndr := h.nodup r
        rw [he] at hndr
        have hndx := List.nodup_append.1 hndr
        have hndy := List.nodup_append.1 hndx.1
        -- the way's end is that cell
        have hend : y0 = y1 ∧ u = u1 := by
          rw [follow_append, hf1] at hf
          simp only [Option.bind_some, follow, hy1, hA, hu1, Option.some.injEq, Prod.mk.injEq] at hf
          exact ⟨hf.1.symm, hf.2.symm⟩
        obtain ⟨rfl, rfl⟩ := hend
        obtain ⟨φz, hzs, hzr⟩ := RepV_view ((RepV_cell hyc).2 hr1) hz hv
        refine ⟨_, φz, fin x' (φ₁ ++ φ₂) φz z ((RepV_cell hc1.2).2 hr2) (List.nodup_append.2 ⟨hndy.1, hndx.2.1, fun a ha b hb => hndx.2.2 a (by simp [ha]) b hb⟩) ?_ ?_ (hndy.2.1.sublist hzs) hzr⟩
        · intro b hb
          refine ⟨by rw [he]; simp only [List.mem_append] at hb ⊢; rcases hb with hb | hb <;> simp [hb], fun hb2 => ?_⟩
          have hb3 := hzs.subset hb2
          rcases List.mem_append.1 hb with hb | hb
          · exact hndy.2.2 b hb b hb3 rfl
          · exact hndx.2.2 b (by simp [hb3]) b hb rfl
        · intro b hb; rw [he]; have := hzs.subset hb; simp [this]
    cases k with
    | addr i o => simp at ht
    | arr i o lo hi n => simp at ht
    | self => exact common (.inr rfl) ht
    | sub lo hi => exact common (.inl ⟨lo, hi, rfl⟩) ht
    | cells i o m _ =>
      simp only [hx, Option.map_eq_some_iff, Prod.mk.injEq] at ht
      obtain ⟨⟨cs, x'⟩, hcs, rfl, rfl⟩ := ht
      simp only [viewOk] at hv
      obtain ⟨row, A, vs, hrow, hn', hA, hlen, hcells, htv⟩ := hv
      have hA0 : ∃ A0, place y0 u i 0 = some A0 ∧ A.block = A0.block ∧ A.off = A0.off + o := by
        cases y0 with
        | sl f sz xs =>
          cases u with
          | slice a l c => cases a with
            | none => simp [place] at hA
            | some a => simp only [place, Option.some.injEq] at hA ⊢; subst hA; exact ⟨_, rfl, rfl, by simp [Nat.add_assoc]⟩
          | _ => simp [place] at hA
        | ptr f cs =>
          cases u with
          | pointer a => cases a with
            | none => simp [place] at hA
            | some a => simp only [place, Option.some.injEq] at hA ⊢; subst hA; exact ⟨_, rfl, rfl, by simp⟩
          | _ => simp [place] at hA
        | _ => simp [place] at hA
      obtain ⟨A0, hA0, hblk, hoff⟩ := hA0
      have hxc : x.cell1 = true := by
        cases p with
        | nil => simp only [follow, Option.some.injEq, Prod.mk.injEq] at hf; rw [hf.1]; exact row_cell1 hrow
        | cons c p =>
          obtain ⟨c1, c2⟩ := c
          simp only [follow, Option.bind_eq_some_iff] at hf; obtain ⟨c, hc, _⟩ := hf; exact at_cell1 hc
      have hx'c : x'.cell1 = true := by
        have : ∀ (n o : Nat) (x x' : PV) (cs : List PV), x.cell1 = true → takeCells p i x o n = some (cs, x') → x'.cell1 = true := by
          intro n
          induction n with
          | zero => intro o x x' cs hc ht; simp only [takeCells, Option.some.injEq, Prod.mk.injEq] at ht; rw [← ht.2]; exact hc
          | succ n ih =>
            intro o x x' cs hc ht
            simp only [takeCells, Option.bind_eq_some_iff, Option.map_eq_some_iff, Prod.mk.injEq] at ht
            obtain ⟨_, _, x1, hx1, r, hr, _, rfl⟩ := ht
            exact ih _ x1 r.2 r.1 (putC_cell1 hx1).2 hr
        exact this _ _ _ _ _ hxc hcs
      rw [RepV_cell hxc] at hrx
      obtain ⟨φ', φc, vs', k1, k2, k3, k4, k5, k6, k7, k8, k9⟩ := takeCells_rep m o x _ cs x' (h.nodup r) hrx hcs y0 u A0 hf hA0
      obtain rfl : vs = vs' := by
        apply List.ext_getElem?
        intro j
        by_cases hj : j < m
        · rw [← hcells j hj, ← k5 j hj, hblk, hoff]; congr 2; omega
        · rw [List.getElem?_eq_none (by omega), List.getElem?_eq_none (by omega)]
      exact ⟨_, φc, fin x' φ' φc (.agg cs) ((RepV_cell hx'c).2 k1) k6 k8 k9 k7 (by rw [htv]; exact RepV_agg.2 ⟨vs, rfl, by simp only [Rep]; exact ⟨k2, k3⟩⟩)⟩
end Go.V
