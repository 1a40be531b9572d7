/- Frames: what is read, taken out, written; worlds that change beside them. -/
import Derived.Test.YthbmifpfhdlicaaVD
namespace Go.V
set_option linter.unusedVariables false
set_option linter.unusedSimpArgs false

theorem row_cell1 {x : PV} {i : Nat} {y : List PV} (h : x.row i = some y) : x.cell1 = true := by
  cases x <;> simp_all [PV.row, PV.cell1]

theorem RepV_follow {w : World} {Z : Nat → Prop} {p : Path} {x : PV} {φ : List Nat} {v : Value} {y : PV} (h : RepV w Z x φ v) (hy : x.get? p = some y) :
    ∃ u φ₁ φy φ₂, follow w x v p = some (y, u) ∧ φ = φ₁ ++ φy ++ φ₂ ∧ RepV w Z y φy u := by
  cases p with
  | nil =>
    obtain rfl : x = y := by simpa [PV.get?] using hy
    exact ⟨v, [], φ, [], rfl, by simp, h⟩
  | cons c p =>
    obtain ⟨i, o⟩ := c
    have hc : x.cell1 = true := by
      simp only [PV.get?, Option.bind_eq_some_iff] at hy; obtain ⟨c, hc, _⟩ := hy; exact at_cell1 hc
    rw [RepV_cell hc] at h
    obtain ⟨u, φ₁, φy, φ₂, hf, rfl, hr, hcy⟩ := follow_rep _ _ _ _ _ h hy
    exact ⟨u, φ₁, φy, φ₂, hf, rfl, (RepV_cell (hcy hc)).2 hr⟩

theorem RepV_view {w : World} {Z : Nat → Prop} {y : PV} {φ : List Nat} {u v : Value} {k : View} {z : PV} (h : RepV w Z y φ u) (hz : viewC y k = some z) (hv : viewOk w y u k v) :
    ∃ φz, φz.Sublist φ ∧ RepV w Z z φz v := by
  cases k with
  | self =>
    simp only [viewC, Option.some.injEq] at hz; simp only [viewOk] at hv; subst hz; rw [hv.1]
    exact ⟨φ, List.Sublist.refl _, h⟩
  | sub lo hi =>
    simp only [viewOk] at hv
    obtain ⟨f, sz, xs, a, cap, a2, rfl, rfl, rfl, ha2⟩ := hv
    simp only [viewC] at hz
    split at hz
    case isFalse => cases hz
    case isTrue hb =>
    obtain rfl := Option.some.inj hz
    rw [RepV_cell rfl] at h
    obtain ⟨φ', hs, hr⟩ := Rep_sub h lo hi hb.1 hb.2 ha2
    exact ⟨φ', hs, (RepV_cell rfl).2 hr⟩
  | addr i o => simp [viewC] at hz
  | cells i o n _ =>
    simp only [viewOk] at hv
    obtain ⟨r, A, vs, hr, hn, hA, hlen, hcs, rfl⟩ := hv
    simp only [viewC, hr, Option.bind_some, if_pos hn, Option.some.injEq] at hz
    subst hz
    rw [RepV_cell (row_cell1 hr)] at h
    obtain ⟨vs', φ', hs, hlen', hcs', hrep⟩ := row_rep h hr hn hA
    obtain rfl : vs = vs' := by
      apply List.ext_getElem?
      intro j
      by_cases hj : j < n
      · rw [← hcs j hj, ← hcs' j hj]
      · rw [List.getElem?_eq_none (by omega), List.getElem?_eq_none (by omega)]
    exact ⟨φ', hs, RepV_agg.2 ⟨vs, rfl, hrep⟩⟩
  | arr i o lo hi n =>
    simp only [viewOk] at hv
    obtain ⟨r, A, A', hr, hn, hA, rfl, hA'⟩ := hv
    simp only [viewC, hr, Option.bind_some] at hz
    split at hz
    case isFalse => cases hz
    case isTrue hb =>
    obtain rfl := Option.some.inj hz
    rw [RepV_cell (row_cell1 hr)] at h
    obtain ⟨φ', hs, hrep⟩ := Rep_arr (A' := A') h hr hn hA lo hi hb.1 hb.2.1 hA'
    exact ⟨φ', hs, (RepV_cell rfl).2 hrep⟩

/-- Nothing lies where a place leads but what is owned, or nobody's. -/
theorem place_block {w : World} {Z : Nat → Prop} {y : PV} {φ : List Nat} {u : Value} {i o : Nat} {r : List PV} {A : Addr} (h : Rep w Z y φ [u]) (hr : y.row i = some r)
    (hA : place y u i o = some A) : A.block < w.heap.size ∧ (A.block ∈ φ ∨ ¬ Z A.block) := by
  have hsome : ∀ {b : Nat} {o : Obj}, w.heap[b]? = some o → b < w.heap.size := fun h => (Array.getElem?_eq_some_iff.1 h).1
  cases y with
  | sl f sz xs =>
    simp only [Rep] at h; obtain ⟨a, cap, ψ, ch, hv, h0, hl, hw, hh⟩ := h
    obtain rfl : u = _ := by simpa using hv
    rcases hh with ⟨rfl, _⟩ | ⟨b, off, cs, T, fr, rfl, hb, hch, hf, ht⟩
    · simp [PV.row] at hr
    · simp only [place, Option.some.injEq] at hA; subst hA
      refine ⟨hsome hb, ?_⟩
      cases f with
      | false => exact .inr (hf rfl).1
      | true => exact .inl (by rw [(ht rfl).2.2.1]; simp)
  | ptr f cs =>
    simp only [Rep] at h; obtain ⟨b, arr, T, fr, ψ, hv, hb, hl, hw, hf, ht⟩ := h
    obtain rfl : u = _ := by simpa using hv
    simp only [place, Option.some.injEq] at hA; subst hA
    refine ⟨hsome hb, ?_⟩
    cases f with
    | false => exact .inr (hf rfl).1
    | true => exact .inl (by rw [(ht rfl).2.2]; simp)
  | _ => simp [PV.row] at hr

theorem viewOk_keeps {w w' : World} {Z Z' : Nat → Prop} {y : PV} {φ : List Nat} {u v : Value} {k : View} (h : RepV w Z y φ u) (hk : Keeps w w' Z Z' φ) (hv : viewOk w y u k v) : viewOk w' y u k v := by
  cases k with
  | cells i o n _ =>
    simp only [viewOk] at hv ⊢
    obtain ⟨r, A, vs, hr, hn, hA, hlen, hcs, rfl⟩ := hv
    refine ⟨r, A, vs, hr, hn, hA, hlen, fun j hj => ?_, rfl⟩
    rw [RepV_cell (row_cell1 hr)] at h
    obtain ⟨hlt, hor⟩ := place_block h hr hA
    rw [← hcs j hj]
    exact World.cell?_of_block (hk _ hlt hor).2
  | _ => exact hv

variable {X : Cx} {Z : Nat → Prop} {w : World} {φ : Tmp → List Nat} {tm : Tmp → Value} {F : RF}

theorem Rel.plRep' (h : Rel X Z w φ tm F) {r p k v} (hp : PlOk w F tm r p k v) :
    ∃ x y u φy, F.slot r = .val x ∧ follow w x (tm r) p = some (y, u) ∧ viewOk w y u k v ∧ x.get? p = some y ∧ RepV w Z y φy u ∧ φy.Sublist (φ r) := by
  obtain ⟨x, y, u, hx, hf, hv⟩ := hp
  have hr := h.vals r x hx
  have hg : ∀ (p : Path) (x : PV) (v : Value), follow w x v p = some (y, u) → x.get? p = some y := by
    intro p
    induction p with
    | nil => intro x v hf; simp only [follow, Option.some.injEq, Prod.mk.injEq] at hf; simp [PV.get?, hf.1]
    | cons c p ih =>
      obtain ⟨i, o⟩ := c
      intro x v hf
      simp only [follow, Option.bind_eq_some_iff] at hf
      obtain ⟨c, hc, u1, ⟨A, hA, hu1⟩, hf⟩ := hf
      simp only [PV.get?, hc, Option.bind_some]; exact ih _ _ hf
  have hg' := hg p x _ hf
  obtain ⟨u', φ₁, φy, φ₂, hf', he, hy⟩ := RepV_follow hr hg'
  rw [hf] at hf'
  obtain rfl : u = u' := by simpa using hf'
  refine ⟨x, y, u, φy, hx, hf, hv, hg', hy, ?_⟩
  rw [he]; exact (List.sublist_append_right φ₁ φy).trans (List.sublist_append_left _ φ₂)

theorem Rel.plRep (h : Rel X Z w φ tm F) {t r p k n} (hs : F.slot t = .pl r p k n) (hn : F.ok r k n = true) :
    ∃ x y u φy, F.slot r = .val x ∧ follow w x (tm r) p = some (y, u) ∧ viewOk w y u k (tm t) ∧ x.get? p = some y ∧ RepV w Z y φy u ∧ φy.Sublist (φ r) := h.plRep' (h.pls t r p k n hs hn)
theorem Rel.plOk_keep (h : Rel X Z w φ tm F) {w' : World} {Z' : Nat → Prop} {r p k v} (hp : PlOk w F tm r p k v) (hk1 : Keeps w w' Z Z' (φ r)) : PlOk w' F tm r p k v := by
  obtain ⟨x, y, u, φy, hx, hf, hv, hg, hr, hsub⟩ := h.plRep' hp
  refine ⟨x, y, u, hx, ?_, viewOk_keeps hr (hk1.mono hsub.subset) hv⟩
  have hrx := h.vals r x hx
  cases p with
  | nil => exact hf
  | cons c p =>
    obtain ⟨i, o⟩ := c
    have hc : x.cell1 = true := by
      simp only [PV.get?, Option.bind_eq_some_iff] at hg; obtain ⟨c, hc, _⟩ := hg; exact at_cell1 hc
    exact follow_keeps _ _ _ _ _ _ ((RepV_cell hc).1 hrx) hk1 hf

theorem Rel.content (h : Rel X Z w φ tm F) {t : Tmp} {y : PV} (hc : F.content t = some y) :
    ∃ φy, RepV w Z y φy (tm t) ∧ (∀ b ∈ φy, ∃ r, b ∈ φ r) ∧ φy.Nodup := by
  unfold RF.content at hc
  split at hc
  · cases hc
  · rename_i x hs
    obtain rfl := Option.some.inj hc
    exact ⟨φ t, h.vals t _ hs, fun b hb => ⟨t, hb⟩, h.nodup t⟩
  · rename_i r p k n hs
    split at hc
    case isFalse => cases hc
    case isTrue hn =>
    obtain ⟨x, y0, u, φy, hx, hf, hv, hg, hr, hsub⟩ := h.plRep hs hn
    rw [hx] at hc
    simp only [hg, Option.bind_some] at hc
    obtain ⟨φz, hsz, hz⟩ := RepV_view hr hc hv
    exact ⟨φz, hz, fun b hb => ⟨r, hsub.subset (hsz.subset hb)⟩, (h.nodup r).sublist (hsz.trans hsub)⟩

def upd {α : Type} (f : Tmp → α) (t : Tmp) (a : α) : Tmp → α := fun u => if u = t then a else f u
@[simp] theorem upd_self {α : Type} (f : Tmp → α) (t : Tmp) (a : α) : upd f t a t = a := by simp [upd]
theorem upd_ne {α : Type} (f : Tmp → α) {t u : Tmp} (a : α) (h : u ≠ t) : upd f t a u = f u := by simp [upd, h]

theorem Rel.setVal (h : Rel X Z w φ tm F) {t : Tmp} {x : PV} {v : Value} {φx : List Nat} (hr : RepV w Z x φx v) (hnd : φx.Nodup) (hm : ∀ b ∈ φx, X.mine b)
    (hd : ∀ u, u ≠ t → ∀ b ∈ φx, b ∉ φ u) : Rel X Z w (upd φ t φx) (upd tm t v) (F.set t (.val x)) where
  nodup u := by by_cases e : u = t <;> simp [upd, e, hnd, h.nodup]
  disj u u' b := by
    by_cases e : u = t <;> by_cases e' : u' = t <;> simp only [upd, e, e', if_true, if_false]
    · intros; trivial
    · intro h1 h2; exact absurd h2 (hd u' e' b h1)
    · intro h1 h2; exact absurd h1 (hd u e b h2)
    · exact h.disj u u' b
  mine u b := by
    by_cases e : u = t
    · simp only [upd, e, if_true]; exact hm b
    · simp only [upd, e, if_false]; exact h.mine u b
  vals u y hs := by
    rw [RF.slot_set] at hs
    by_cases e : u = t
    · simp only [e, if_true, Slot.val.injEq] at hs; subst hs; simp only [upd, e, if_true]; exact hr
    · simp only [e, if_false] at hs; simp only [upd, e, if_false]; exact h.vals u y hs
  rest u hs := by
    by_cases e : u = t
    · exact absurd (by rw [RF.slot_set, if_pos e]) (hs x)
    · simp only [upd, e, if_false]; exact h.rest u (fun y hy => hs y (by rw [RF.slot_set, if_neg e]; exact hy))
  vle u r p k n hs := by
    rw [RF.slot_set] at hs
    by_cases e : u = t
    · simp [e] at hs
    · simp only [e, if_false] at hs
      have := h.vle u r p k n hs
      rw [RF.ver_set]; split
      · rename_i e2; rw [e2] at this; omega
      · exact this
  pls u r p k n hs hn := by
    rw [RF.slot_set] at hs
    by_cases e : u = t
    · simp [e] at hs
    · simp only [e, if_false] at hs
      have hle := h.vle u r p k n hs
      by_cases e2 : r = t
      · have hn := RF.ok_ver hn; subst e2; rw [RF.ver_set, if_pos rfl] at hn; omega
      · rw [RF.ok_set_ne e2] at hn
        obtain ⟨x', y, u', hx, hf, hv⟩ := h.pls u r p k n hs hn
        refine ⟨x', y, u', by rw [RF.slot_set, if_neg e2]; exact hx, ?_, ?_⟩
        · rw [upd_ne _ _ e2]; exact hf
        · rw [upd_ne _ _ e]; exact hv
  glob := h.glob
  gle r p k n v hs := by
    have := h.gle r p k n v hs
    rw [RF.ver_set]; split
    · rename_i e2; rw [e2] at this; omega
    · exact this
  gpl r p k n v hs hn := by
    have hle := h.gle r p k n v hs
    by_cases e2 : r = t
    · have hn := RF.ok_ver hn; subst e2; rw [RF.ver_set, if_pos rfl] at hn; omega
    · rw [RF.ok_set_ne e2] at hn
      obtain ⟨x', y, u', hx, hf, hv⟩ := h.gpl r p k n v hs hn
      exact ⟨x', y, u', by rw [RF.slot_set, if_neg e2]; exact hx, by rw [upd_ne _ _ e2]; exact hf, hv⟩

theorem Rel.setDead (h : Rel X Z w φ tm F) (t : Tmp) (v : Value) : Rel X Z w (upd φ t []) (upd tm t v) (F.set t .dead) where
  nodup u := by by_cases e : u = t <;> simp [upd, e, h.nodup]
  disj u u' b := by
    by_cases e : u = t <;> by_cases e' : u' = t <;> simp only [upd, e, e', if_true, if_false]
    · intros; trivial
    · intro h1; simp at h1
    · intro _ h1; simp at h1
    · exact h.disj u u' b
  mine u b := by
    by_cases e : u = t
    · simp [upd, e]
    · simp only [upd, e, if_false]; exact h.mine u b
  vals u y hs := by
    rw [RF.slot_set] at hs
    by_cases e : u = t
    · simp [e] at hs
    · simp only [e, if_false] at hs; simp only [upd, e, if_false]; exact h.vals u y hs
  rest u hs := by
    by_cases e : u = t
    · simp [upd, e]
    · simp only [upd, e, if_false]; exact h.rest u (fun y hy => hs y (by rw [RF.slot_set, if_neg e]; exact hy))
  vle u r p k n hs := by
    rw [RF.slot_set] at hs
    by_cases e : u = t
    · simp [e] at hs
    · simp only [e, if_false] at hs
      have := h.vle u r p k n hs
      rw [RF.ver_set]; split
      · rename_i e2; rw [e2] at this; omega
      · exact this
  pls u r p k n hs hn := by
    rw [RF.slot_set] at hs
    by_cases e : u = t
    · simp [e] at hs
    · simp only [e, if_false] at hs
      have hle := h.vle u r p k n hs
      by_cases e2 : r = t
      · have hn := RF.ok_ver hn; subst e2; rw [RF.ver_set, if_pos rfl] at hn; omega
      · rw [RF.ok_set_ne e2] at hn
        obtain ⟨x', y, u', hx, hf, hv⟩ := h.pls u r p k n hs hn
        refine ⟨x', y, u', by rw [RF.slot_set, if_neg e2]; exact hx, ?_, ?_⟩
        · rw [upd_ne _ _ e2]; exact hf
        · rw [upd_ne _ _ e]; exact hv
  glob := h.glob
  gle r p k n v hs := by
    have := h.gle r p k n v hs
    rw [RF.ver_set]; split
    · rename_i e2; rw [e2] at this; omega
    · exact this
  gpl r p k n v hs hn := by
    have hle := h.gle r p k n v hs
    by_cases e2 : r = t
    · have hn := RF.ok_ver hn; subst e2; rw [RF.ver_set, if_pos rfl] at hn; omega
    · rw [RF.ok_set_ne e2] at hn
      obtain ⟨x', y, u', hx, hf, hv⟩ := h.gpl r p k n v hs hn
      exact ⟨x', y, u', by rw [RF.slot_set, if_neg e2]; exact hx, by rw [upd_ne _ _ e2]; exact hf, hv⟩

theorem Rel.setPl (h : Rel X Z w φ tm F) {t r : Tmp} {p : Path} {k : View} {v : Value} (hrt : r ≠ t) (hp : PlOk w F tm r p k v) :
    Rel X Z w (upd φ t []) (upd tm t v) (F.set t (.pl r p k (F.ver r))) where
  nodup u := by by_cases e : u = t <;> simp [upd, e, h.nodup]
  disj u u' b := by
    by_cases e : u = t <;> by_cases e' : u' = t <;> simp only [upd, e, e', if_true, if_false]
    · intros; trivial
    · intro h1; simp at h1
    · intro _ h1; simp at h1
    · exact h.disj u u' b
  mine u b := by
    by_cases e : u = t
    · simp [upd, e]
    · simp only [upd, e, if_false]; exact h.mine u b
  vals u y hs := by
    rw [RF.slot_set] at hs
    by_cases e : u = t
    · simp [e] at hs
    · simp only [e, if_false] at hs; simp only [upd, e, if_false]; exact h.vals u y hs
  rest u hs := by
    by_cases e : u = t
    · simp [upd, e]
    · simp only [upd, e, if_false]; exact h.rest u (fun y hy => hs y (by rw [RF.slot_set, if_neg e]; exact hy))
  vle u r' p' k' n hs := by
    rw [RF.slot_set] at hs
    by_cases e : u = t
    · simp only [e, if_true, Slot.pl.injEq] at hs
      obtain ⟨rfl, _, _, rfl⟩ := hs
      rw [RF.ver_set, if_neg hrt]; exact Nat.le_refl _
    · simp only [e, if_false] at hs
      have := h.vle u r' p' k' n hs
      rw [RF.ver_set]; split
      · rename_i e2; rw [e2] at this; omega
      · exact this
  pls u r' p' k' n hs hn := by
    rw [RF.slot_set] at hs
    by_cases e : u = t
    · simp only [e, if_true, Slot.pl.injEq] at hs
      obtain ⟨rfl, rfl, rfl, rfl⟩ := hs
      obtain ⟨x', y, u', hx, hf, hv⟩ := hp
      refine ⟨x', y, u', by rw [RF.slot_set, if_neg hrt]; exact hx, ?_, ?_⟩
      · rw [upd_ne _ _ hrt]; exact hf
      · rw [e, upd_self]; exact hv
    · simp only [e, if_false] at hs
      have hle := h.vle u r' p' k' n hs
      by_cases e2 : r' = t
      · have hn := RF.ok_ver hn; subst e2; rw [RF.ver_set, if_pos rfl] at hn; omega
      · rw [RF.ok_set_ne e2] at hn
        obtain ⟨x', y, u', hx, hf, hv⟩ := h.pls u r' p' k' n hs hn
        refine ⟨x', y, u', by rw [RF.slot_set, if_neg e2]; exact hx, ?_, ?_⟩
        · rw [upd_ne _ _ e2]; exact hf
        · rw [upd_ne _ _ e]; exact hv
  glob := h.glob
  gle r p k n v hs := by
    have := h.gle r p k n v hs
    rw [RF.ver_set]; split
    · rename_i e2; rw [e2] at this; omega
    · exact this
  gpl r p k n v hs hn := by
    have hle := h.gle r p k n v hs
    by_cases e2 : r = t
    · have hn := RF.ok_ver hn; subst e2; rw [RF.ver_set, if_pos rfl] at hn; omega
    · rw [RF.ok_set_ne e2] at hn
      obtain ⟨x', y, u', hx, hf, hv⟩ := h.gpl r p k n v hs hn
      exact ⟨x', y, u', by rw [RF.slot_set, if_neg e2]; exact hx, by rw [upd_ne _ _ e2]; exact hf, hv⟩

/-- The world changes beside the frame. -/
theorem Rel.keep (h : Rel X Z w φ tm F) {w' : World} {Z' : Nat → Prop}
    (hk : ∀ b, b < w.heap.size → ((∃ t, b ∈ φ t) ∨ ¬ Z b) → (Z b ↔ Z' b) ∧ w'.heap[b]? = w.heap[b]?) : Rel X Z' w' φ tm F where
  nodup := h.nodup
  disj := h.disj
  mine := h.mine
  vals t x hs := RepV_frame (fun b hb hm => hk b hb (hm.imp (fun h => ⟨t, h⟩) id)) (h.vals t x hs)
  rest := h.rest
  vle := h.vle
  glob g cs hg := Rep_frame.1 _ _ _ (fun b hb hm => hk b hb (hm.imp (fun h => by simp at h) id)) (h.glob g cs hg)
  gle := h.gle
  pls t r p k n hs hn := h.plOk_keep (h.pls t r p k n hs hn) fun b hb hm => hk b hb (hm.imp (fun h => ⟨r, h⟩) id)
  gpl r p k n v hs hn := h.plOk_keep (h.gpl r p k n v hs hn) fun b hb hm => hk b hb (hm.imp (fun h => ⟨r, h⟩) id)
end Go.V
