/- One operation over the part of a frame that it reads. -/
import Derived.Test.YthbmifpfhdlicaaVR
namespace Go.V
set_option linter.unusedVariables false
set_option linter.unusedSimpArgs false
variable {X : Cx} {Z : Nat → Prop} {w : World} {φ : Tmp → List Nat} {tm : Tmp → Value} {F : RF}

theorem find_mapF {f : Tmp → Slot × Nat × Nat} : ∀ {R : List Tmp} {t : Tmp}, RF.find (R.map fun t => (t, f t)) t = if t ∈ R then f t else (.dead, 0, 0)
  | [], t => by simp [RF.find]
  | u :: R, t => by
    simp only [List.map_cons, RF.find, List.mem_cons]
    by_cases h : t = u
    · subst h; simp
    · rw [if_neg h, find_mapF]; simp [h]
def RF.masked (F : RF) (R : List Tmp) (t : Tmp) : Slot :=
  match F.slot t with
  | .pl r p k n => if R.contains r = true then .pl r p k n else .dead
  | s => s
def RF.mask (F : RF) (R : List Tmp) : RF := R.map fun t => (t, F.masked R t, F.ver t, F.cnt t)
theorem find_mask {R : List Tmp} {t : Tmp} : (F.mask R).find t = if t ∈ R then (F.masked R t, F.ver t, F.cnt t) else (.dead, 0, 0) := find_mapF
theorem slot_mask {R : List Tmp} {t : Tmp} : (F.mask R).slot t = if t ∈ R then F.masked R t else .dead := by
  show ((F.mask R).find t).1 = _; rw [find_mask]; split <;> rfl
theorem ver_mask {R : List Tmp} {t : Tmp} : (F.mask R).ver t = if t ∈ R then F.ver t else 0 := by
  show ((F.mask R).find t).2.1 = _; rw [find_mask]; split <;> rfl
theorem cnt_mask {R : List Tmp} {t : Tmp} : (F.mask R).cnt t = if t ∈ R then F.cnt t else 0 := by
  show ((F.mask R).find t).2.2 = _; rw [find_mask]; split <;> rfl
theorem mask_congr {G : RF} {R : List Tmp} (h : ∀ t ∈ R, F.find t = G.find t) : F.mask R = G.mask R := by
  unfold RF.mask
  refine List.map_congr_left fun t ht => ?_
  have := h t ht
  simp only [RF.masked, RF.slot, RF.ver, RF.cnt, this]
theorem masked_val {R : List Tmp} {t : Tmp} {x : PV} : F.masked R t = .val x ↔ F.slot t = .val x := by
  unfold RF.masked; split
  · rename_i e; rw [e]; split <;> simp
  · rfl
theorem masked_pl {R : List Tmp} {t r : Tmp} {p : Path} {k : View} {n : Nat} (h : F.masked R t = .pl r p k n) : F.slot t = .pl r p k n ∧ r ∈ R := by
  unfold RF.masked at h; split at h
  · rename_i e; split at h
    · rename_i hc; rw [List.contains_eq_mem] at hc
      obtain ⟨rfl, rfl, rfl, rfl⟩ := Slot.pl.inj h
      exact ⟨e, by simpa using hc⟩
    · cases h
  · rename_i hn; exact absurd h (hn r p k n)
theorem masked_pl' {R : List Tmp} {t r : Tmp} {p : Path} {k : View} {n : Nat} (h : F.slot t = .pl r p k n) (hr : r ∈ R) : F.masked R t = .pl r p k n := by
  unfold RF.masked; rw [h]; simp [hr]

def look : List (Tmp × Slot) → Tmp → Option Slot
  | [], _ => none
  | (u, s) :: us, t => if t = u then some s else look us t
def times : List (Tmp × Slot) → Tmp → Nat
  | [], _ => 0
  | (u, s) :: us, t => if t = u then times us t + 1 else times us t
theorem slot_sets {t : Tmp} : ∀ {U : List (Tmp × Slot)}, (F.sets U).slot t = (look U t).getD (F.slot t)
  | [] => rfl
  | (u, s) :: U => by simp only [RF.sets, RF.slot_set, look]; split <;> simp [slot_sets (U := U)]
theorem ver_sets {t : Tmp} : ∀ {U : List (Tmp × Slot)}, (F.sets U).ver t = F.ver t + times U t
  | [] => rfl
  | (u, s) :: U => by
    simp only [RF.sets, RF.ver_set, times]; split
    · rename_i e; subst e; rw [ver_sets (U := U)]; omega
    · exact ver_sets
theorem cnt_sets {t : Tmp} : ∀ {U : List (Tmp × Slot)}, (F.sets U).cnt t = F.cnt t
  | [] => rfl
  | (u, s) :: U => by simp only [RF.sets, RF.cnt_set]; exact cnt_sets
theorem times_none {t : Tmp} : ∀ {U : List (Tmp × Slot)}, look U t = none ↔ times U t = 0
  | [] => by simp [look, times]
  | (u, s) :: U => by
    simp only [look, times]; split
    · simp
    · exact times_none
theorem look_mem {t : Tmp} {s : Slot} : ∀ {U : List (Tmp × Slot)}, look U t = some s → (t, s) ∈ U
  | [], h => by simp [look] at h
  | (u, s') :: U, h => by
    simp only [look] at h; split at h
    · rename_i e; subst e; obtain rfl := Option.some.inj h; simp
    · exact List.mem_cons_of_mem _ (look_mem h)

/-- what a slot holds, behind a row of writes -/
def app (U : List (Tmp × Slot)) (t : Tmp) (x : Slot × Nat × Nat) : Slot × Nat × Nat := ((look U t).getD x.1, x.2.1 + times U t, x.2.2)
theorem find_sets {t : Tmp} {U : List (Tmp × Slot)} : (F.sets U).find t = app U t (F.find t) := by
  have h1 := slot_sets (F := F) (t := t) (U := U)
  have h2 := ver_sets (F := F) (t := t) (U := U)
  have h3 := cnt_sets (F := F) (t := t) (U := U)
  simp only [RF.slot, RF.ver, RF.cnt] at h1 h2 h3
  simp only [app, ← h1, ← h2, ← h3]
theorem app_id {t : Tmp} {U : List (Tmp × Slot)} {x : Slot × Nat × Nat} (h : look U t = none) : app U t x = x := by simp [app, h, times_none.1 h]

/-- the part of a context that slots R make -/
def cut (X : Cx) (w : World) (φ : Tmp → List Nat) (tm : Tmp → Value) (F : RF) (R : List Tmp) : Cx :=
  ⟨fun b => (∃ t, t ∈ R ∧ b ∈ φ t) ∨ w.heap.size ≤ b, X.G, fun r p k n v => r ∈ R ∧ ∃ t, F.slot t = .pl r p k n ∧ v = tm t⟩

theorem Rel.mask (h : Rel X Z w φ tm F) (R : List Tmp) : Rel (cut X w φ tm F R) Z w (fun t => if t ∈ R then φ t else []) tm (F.mask R) where
  nodup t := by by_cases e : t ∈ R <;> simp [e, h.nodup]
  disj t u b := by
    by_cases e : t ∈ R <;> by_cases e' : u ∈ R <;> simp only [e, e', if_true, if_false]
    · exact h.disj t u b
    · intro _ h; simp at h
    · intro h; simp at h
    · intro h; simp at h
  mine t b := by
    by_cases e : t ∈ R <;> simp only [e, if_true, if_false]
    · exact fun hb => .inl ⟨t, e, hb⟩
    · intro h; simp at h
  vals t x hs := by
    rw [slot_mask] at hs
    split at hs
    · rename_i e; simp only [e, if_true]; exact h.vals t x (masked_val.1 hs)
    · cases hs
  rest t hs := by
    by_cases e : t ∈ R
    · simp only [e, if_true]
      exact h.rest t (fun x hx => hs x (by rw [slot_mask, if_pos e]; exact masked_val.2 hx))
    · simp [e]
  vle t r p k n hs := by
    rw [slot_mask] at hs
    split at hs
    · obtain ⟨h1, h2⟩ := masked_pl hs; rw [ver_mask, if_pos h2]; exact h.vle t r p k n h1
    · cases hs
  pls t r p k n hs hok := by
    rw [slot_mask] at hs
    split at hs
    · obtain ⟨h1, h2⟩ := masked_pl hs
      have hok' : F.ok r k n = true := by simpa only [RF.ok, ver_mask, cnt_mask, if_pos h2] using hok
      obtain ⟨x, y, u, hx, hf, hv⟩ := h.pls t r p k n h1 hok'
      exact ⟨x, y, u, by rw [slot_mask, if_pos h2]; exact masked_val.2 hx, hf, hv⟩
    · cases hs
  glob := h.glob
  gle := by
    rintro r p k n v ⟨hr, t, ht, rfl⟩
    rw [ver_mask, if_pos hr]; exact h.vle t r p k n ht
  gpl := by
    rintro r p k n v ⟨hr, t, ht, rfl⟩ hok
    have hok' : F.ok r k n = true := by simpa only [RF.ok, ver_mask, cnt_mask, if_pos hr] using hok
    obtain ⟨x, y, u, hx, hf, hv⟩ := h.pls t r p k n ht hok'
    exact ⟨x, y, u, by rw [slot_mask, if_pos hr]; exact masked_val.2 hx, hf, hv⟩

theorem Rel.own (h : Rel X Z w φ tm F) {t : Tmp} {b : Nat} (hb : b ∈ φ t) : b < w.heap.size ∧ Z b := by
  cases hs : F.slot t with
  | val x => exact RepV_lt (h.vals t x hs) b hb
  | _ => rw [h.rest t (fun x hx => by rw [hs] at hx; cases hx)] at hb; simp at hb

def keysOk (R : List Tmp) (U : List (Tmp × Slot)) : Bool :=
  U.all fun e => R.contains e.1 && match e.2 with | .pl r _ _ _ => R.contains r | _ => true
theorem keysOk_mem {R : List Tmp} {U : List (Tmp × Slot)} (h : keysOk R U = true) {t : Tmp} {s : Slot} (hl : look U t = some s) : t ∈ R ∧ ∀ r p k n, s = .pl r p k n → r ∈ R := by
  have := List.all_eq_true.1 h _ (look_mem hl)
  simp only [Bool.and_eq_true, List.contains_eq_mem, decide_eq_true_eq] at this
  refine ⟨this.1, fun r p k n e => ?_⟩
  subst e; simpa using this.2

theorem tput_ne {d : Option Tmp} {v : Value} {t : Tmp} (h : d ≠ some t) : tput tm d v t = tm t := by
  cases d with
  | none => rfl
  | some u => exact upd_ne _ _ (fun e => h (by rw [e]))

theorem Rel.unmask (hl : ∀ r p k n v, ¬ X.gh r p k n v) (h : Rel X Z w φ tm F) (hnew : ∀ b, w.heap.size ≤ b → X.mine b) {R : List Tmp} {U : List (Tmp × Slot)} {d : Option Tmp} {v : Value} {w' : World} {Z' : Nat → Prop}
    {φ1 : Tmp → List Nat} (hU : keysOk R U = true) (hd : ∀ t, d = some t → look U t ≠ none) (h1 : Rel (cut X w φ tm F R) Z' w' φ1 (tput tm d v) ((F.mask R).sets U))
    (hs : Stp (cut X w φ tm F R).mine w w') (hz : ZOk (cut X w φ tm F R).mine w Z Z') : Rel X Z' w' (fun t => if t ∈ R then φ1 t else φ t) (tput tm d v) (F.sets U) := by
  have hin : ∀ {t s}, look U t = some s → t ∈ R := fun hl => (keysOk_mem hU hl).1
  have hout : ∀ {t}, t ∉ R → look U t = none := by
    intro t ht
    cases hl : look U t with
    | none => rfl
    | some s => exact absurd (hin hl) ht
  have hdR : ∀ {t}, look U t = none → d ≠ some t := fun hn e => hd _ e hn
  have hvalR : ∀ {t x}, t ∈ R → ((F.sets U).slot t = .val x ↔ ((F.mask R).sets U).slot t = .val x) := by
    intro t x ht
    rw [slot_sets, slot_sets, slot_mask, if_pos ht]
    cases look U t with
    | some s => rfl
    | none => exact masked_val.symm
  have hmineX : ∀ {b}, (cut X w φ tm F R).mine b → X.mine b := by
    rintro b (⟨t, _, hb⟩ | hb)
    · exact h.mine t b hb
    · exact hnew b hb
  have hkeep : ∀ {u}, u ∉ R → Keeps w w' Z Z' (φ u) := by
    intro u hu b hb hor
    have hn : ¬ (cut X w φ tm F R).mine b := by
      rintro (⟨t, ht, hbt⟩ | hb2)
      · rcases hor with hbu | hnz
        · exact hu (h.disj t u b hbt hbu ▸ ht)
        · exact hnz (h.own hbt).2
      · omega
    exact ⟨hz b hb hn, hs.block b hb hn⟩
  have hokR : ∀ {r k n}, r ∈ R → ((F.sets U).ok r k n = ((F.mask R).sets U).ok r k n) := by
    intro r k n hr
    simp only [RF.ok, ver_sets, cnt_sets, ver_mask, cnt_mask, if_pos hr]
  refine ⟨?_, ?_, ?_, ?_, ?_, ?_, ?_, h1.glob, fun r p k n v hg => absurd hg (hl r p k n v), fun r p k n v hg => absurd hg (hl r p k n v)⟩
  · intro t; by_cases e : t ∈ R <;> simp only [e, if_true, if_false]
    · exact h1.nodup t
    · exact h.nodup t
  · have hx : ∀ {t u b}, t ∈ R → u ∉ R → b ∈ φ1 t → b ∉ φ u := by
      intro t u b ht hu hb hbu
      rcases h1.mine t b hb with ⟨r, hr, hbr⟩ | hb2
      · exact hu (h.disj r u b hbr hbu ▸ hr)
      · have := (h.own hbu).1; omega
    intro t u b
    by_cases e : t ∈ R <;> by_cases e' : u ∈ R <;> simp only [e, e', if_true, if_false]
    · exact h1.disj t u b
    · exact fun h2 h3 => absurd h3 (hx e e' h2)
    · exact fun h2 h3 => absurd h2 (hx e' e h3)
    · exact h.disj t u b
  · intro t b
    by_cases e : t ∈ R <;> simp only [e, if_true, if_false]
    · exact fun hb => hmineX (h1.mine t b hb)
    · exact h.mine t b
  · intro t x hs'
    by_cases e : t ∈ R <;> simp only [e, if_true, if_false]
    · exact h1.vals t x ((hvalR e).1 hs')
    · rw [slot_sets, hout e] at hs'
      rw [tput_ne (hdR (hout e))]
      exact RepV_frame (hkeep e) (h.vals t x hs')
  · intro t hs'
    by_cases e : t ∈ R <;> simp only [e, if_true, if_false]
    · exact h1.rest t fun x hx => hs' x ((hvalR e).2 hx)
    · exact h.rest t fun x hx => hs' x (by rw [slot_sets, hout e]; exact hx)
  · intro t r p k n hs'
    rw [slot_sets] at hs'
    cases hlk : look U t with
    | some s =>
      rw [hlk] at hs'
      obtain rfl : s = .pl r p k n := hs'
      obtain ⟨ht, hr⟩ := keysOk_mem hU hlk
      have := h1.vle t r p k n (by rw [slot_sets, hlk]; rfl)
      rw [ver_sets, ver_mask, if_pos (hr r p k n rfl)] at this
      rw [ver_sets]; exact this
    | none =>
      rw [hlk] at hs'
      have := h.vle t r p k n hs'
      rw [ver_sets]; omega
  · intro t r p k n hs' hok
    have toF : ∀ {vt : Value}, r ∈ R → PlOk w' ((F.mask R).sets U) (tput tm d v) r p k vt → PlOk w' (F.sets U) (tput tm d v) r p k vt := by
      rintro vt hr ⟨x, y, u, hx, hf, hv⟩
      exact ⟨x, y, u, (hvalR hr).2 hx, hf, hv⟩
    rw [slot_sets] at hs'
    cases hlk : look U t with
    | some s =>
      rw [hlk] at hs'
      obtain rfl : s = .pl r p k n := hs'
      obtain ⟨ht, hr⟩ := keysOk_mem hU hlk
      have hr := hr r p k n rfl
      exact toF hr (h1.pls t r p k n (by rw [slot_sets, hlk]; rfl) (by rw [← hokR hr]; exact hok))
    | none =>
      rw [hlk] at hs'
      have hs' : F.slot t = .pl r p k n := hs'
      have hle := h.vle t r p k n hs'
      have hver := RF.ok_ver hok
      rw [ver_sets] at hver
      have ht0 : times U r = 0 := by omega
      have hrn := times_none.2 ht0
      have hokF : F.ok r k n = true := by simpa only [RF.ok, ver_sets, cnt_sets, ht0, Nat.add_zero] using hok
      rw [tput_ne (hdR hlk)]
      by_cases hr : r ∈ R
      · exact toF hr (h1.gpl r p k n (tm t) ⟨hr, t, hs', rfl⟩ (by rw [← hokR hr]; exact hok))
      · obtain ⟨x, y, u, hx, hf, hv⟩ := h.plOk_keep (h.pls t r p k n hs' hokF) (hkeep hr)
        exact ⟨x, y, u, by rw [slot_sets, hrn]; exact hx, by rw [tput_ne (hdR hrn)]; exact hf, hv⟩
end Go.V
