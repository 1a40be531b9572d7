/- A function of the program, by its text. -/
import Derived.Test.YthbmifpfhdlicaaVP
namespace Go.V
set_option linter.unusedVariables false
set_option linter.unusedSimpArgs false
variable {X : Cx} {Z : Nat → Prop} {w : World} {φ : Tmp → List Nat} {tm : Tmp → Value} {F : RF}

theorem RepTs_parts : ∀ {xs : List PV} {φ : List Nat} {vs : List Value}, RepTs w Z xs φ vs →
    ∃ ps : List (List Nat), ps.length = xs.length ∧ ps.flatten = φ ∧ ∀ (i : Nat) (x : PV) (v : Value) (p : List Nat), xs[i]? = some x → vs[i]? = some v → ps[i]? = some p → RepV1 w Z x p v
  | [], φ, vs, h => by simp only [RepTs] at h; exact ⟨[], rfl, h.1.symm, by simp⟩
  | x :: xs, φ, vs, h => by
    obtain ⟨φ₁, φ₂, v, vs', rfl, rfl, h1, h2⟩ := RepTs_cons.1 h
    obtain ⟨ps, k1, k2, k3⟩ := RepTs_parts h2
    refine ⟨φ₁ :: ps, by simp [k1], by simp [k2], fun i y u p hy hu hp => ?_⟩
    cases i with
    | zero =>
      simp only [List.getElem?_cons_zero, Option.some.injEq] at hy hu hp
      subst hy hu hp; exact h1
    | succ i => exact k3 i y u p (by simpa using hy) (by simpa using hu) (by simpa using hp)

theorem find_ents0 {G : RF} : ∀ {xs : List PV} {k t : Nat}, RF.find (ents0 k xs ++ G) t = if h : k ≤ t ∧ t < k + xs.length then (.val (xs[t - k]'(by omega)), 0, 0) else RF.find G t
  | [], k, t => by
    have h : ¬ (k ≤ t ∧ t < k + ([] : List PV).length) := by simp only [List.length_nil]; omega
    rw [dif_neg h]; rfl
  | x :: xs, k, t => by
    simp only [ents0, List.cons_append, RF.find]
    by_cases h : t = k
    · subst h; simp
    · rw [if_neg h, find_ents0]
      by_cases h2 : k + 1 ≤ t ∧ t < k + 1 + xs.length
      · rw [dif_pos h2, dif_pos (by simp; omega)]
        congr 2
        have : t - k = (t - (k + 1)) + 1 := by omega
        simp [this]
      · rw [dif_neg h2, dif_neg (by simp; omega)]
theorem slot_globs0 {E : Env} {t : Tmp} {x : PV} (h : (globs0 E).slot t = .val x) : ∃ g cs, t = E.nt + g ∧ E.G g = some cs ∧ x = .ptr false cs := by
  unfold globs0 at h
  generalize E.gs = gs at h
  induction gs with
  | nil => simp [RF.slot, RF.find] at h
  | cons g gs ih =>
    simp only [List.filterMap_cons] at h
    cases hg : E.G g with
    | none => simp [hg] at h; exact ih h
    | some cs =>
      simp only [hg, Option.map_some] at h
      simp only [RF.slot, RF.find] at h
      by_cases e : t = E.nt + g
      · rw [if_pos e] at h
        exact ⟨g, cs, e, hg, by simpa using h.symm⟩
      · rw [if_neg e] at h; exact ih h
theorem slot_globs0' {E : Env} {t : Tmp} : (∃ x, (globs0 E).slot t = .val x) ∨ (globs0 E).slot t = .dead := by
  unfold globs0
  generalize E.gs = gs
  induction gs with
  | nil => right; rfl
  | cons g gs ih =>
    simp only [List.filterMap_cons]
    cases hg : E.G g with
    | none => simpa [hg] using ih
    | some cs =>
      simp only [Option.map_some, RF.slot, RF.find]
      by_cases e : t = E.nt + g
      · rw [if_pos e]; exact .inl ⟨_, rfl⟩
      · rw [if_neg e]; exact ih

theorem outs_ok (h : Rel X Z w φ tm F) : ∀ {xs : List PV} {vs : List Value} {k : Nat} {outs : List PV}, outsOf F k xs = some outs → xs.length = vs.length →
    (∀ (i : Nat) (x : PV) (v : Value), xs[i]? = some x → x.isMut = true → vs[i]? = some v → tm (k + i) = v) → RepTs w Z outs ((pinned k xs).flatMap φ) (mutVals xs vs)
  | [], [], k, outs, ho, _, _ => by simp only [outsOf, Option.some.injEq] at ho; subst ho; simp [pinned, mutVals, RepTs]
  | [], _ :: _, _, _, _, hl, _ => by simp at hl
  | _ :: _, [], _, _, _, hl, _ => by simp at hl
  | x :: xs, v :: vs, k, outs, ho, hl, hv => by
    have hv' : ∀ (i : Nat) (y : PV) (u : Value), xs[i]? = some y → y.isMut = true → vs[i]? = some u → tm (k + 1 + i) = u := fun i y u hy hm hu => by
      rw [show k + 1 + i = k + (i + 1) by omega]; exact hv (i + 1) y u (by simpa using hy) hm (by simpa using hu)
    simp only [outsOf] at ho
    split at ho
    · rename_i hm
      split at ho
      case h_2 => cases ho
      rename_i cs hsl
      simp only [Option.map_eq_some_iff] at ho
      obtain ⟨r, hr, rfl⟩ := ho
      simp only [pinned, hm, if_true, mutVals, List.flatMap_cons]
      have h0 := h.vals k _ hsl
      rw [show tm k = v from hv 0 x v (by simp) hm (by simp)] at h0
      exact RepTs_cons.2 ⟨φ k, _, v, _, rfl, rfl, h0, outs_ok h hr (by simpa using hl) hv'⟩
    · rename_i hm
      have hm' : x.isMut = false := by simpa using hm
      simp only [pinned, hm', mutVals, Bool.false_eq_true, if_false]
      exact outs_ok h ho (by simpa using hl) hv'

theorem pinned_ge : ∀ {xs : List PV} {k i : Nat}, i ∈ pinned k xs → k ≤ i
  | [], k, i, h => by simp [pinned] at h
  | x :: xs, k, i, h => by
    simp only [pinned] at h
    split at h
    · rcases List.mem_cons.1 h with rfl | h
      · exact Nat.le_refl _
      · have := pinned_ge h; omega
    · have := pinned_ge h; omega
theorem pinned_nodup : ∀ {xs : List PV} {k : Nat}, (pinned k xs).Nodup
  | [], k => by simp [pinned]
  | x :: xs, k => by
    simp only [pinned]
    split
    · exact List.nodup_cons.2 ⟨fun h => by have := pinned_ge h; omega, pinned_nodup⟩
    · exact pinned_nodup
theorem mem_pinned : ∀ {xs : List PV} {k i : Nat} {x : PV}, xs[i]? = some x → x.isMut = true → k + i ∈ pinned k xs
  | [], k, i, x, h, _ => by simp at h
  | y :: xs, k, 0, x, h, hm => by
    obtain rfl : y = x := by simpa using h
    simp [pinned, hm]
  | y :: xs, k, i + 1, x, h, hm => by
    have := mem_pinned (k := k + 1) (show xs[i]? = some x by simpa using h) hm
    rw [show k + 1 + i = k + (i + 1) by omega] at this
    simp only [pinned]; split
    · exact List.mem_cons_of_mem _ this
    · exact this
theorem flatMap_nodup (h : Rel X Z w φ tm F) : ∀ {ts : List Tmp}, ts.Nodup → (ts.flatMap φ).Nodup
  | [], _ => by simp
  | t :: ts, hn => by
    rw [List.flatMap_cons]
    refine List.nodup_append.2 ⟨h.nodup t, flatMap_nodup h (List.nodup_cons.1 hn).2, fun b hb c hc e => ?_⟩
    subst e
    obtain ⟨u, hu, hb2⟩ := List.mem_flatMap.1 hc
    obtain rfl := h.disj t u b hb hb2
    exact (List.nodup_cons.1 hn).1 hu

def resOfL : List Value → Value
  | [v] => v
  | vs => .tuple vs.toArray
theorem run_results {P : Program} {w : World} {fn : Func} {tmps : Array Value} {vs : List Value} (h : (fn.results.toList.mapM (resOf tmps)).run P w = .ok vs w) :
    (results fn tmps).run P w = .ok (resOfL vs) w := by
  have hf : results fn tmps = (do let vs ← fn.results.mapM (resOf tmps); pure (if h : vs.size = 1 then vs[0] else .tuple vs)) := by
    unfold results; congr 1
  rw [hf]
  simp only [Array.mapM_eq_mapM_toList, Sem.run_bind, Sem.run_map, h, Result.andThen_ok, Sem.run_pure]
  congr 1
  match vs with
  | [] => rfl
  | [v] => rfl
  | _ :: _ :: _ => simp [resOfL]

theorem RepV_results {w : World} {Z : Nat → Prop} : ∀ {ys : List PV} {vs : List Value} {φ : List Nat}, RepTs w Z ys φ vs → RepV w Z (match ys with | [y] => y | ys => .tup ys) φ (resOfL vs)
  | [], vs, φ, h => by
    simp only [RepTs] at h
    obtain ⟨rfl, rfl⟩ := h
    exact RepV_tup.2 ⟨[], rfl, by simp [RepTs]⟩
  | [y], vs, φ, h => by
    obtain ⟨φ₁, φ₂, v, vs', rfl, rfl, h1, h2⟩ := RepTs_cons.1 h
    simp only [RepTs] at h2
    obtain ⟨rfl, rfl⟩ := h2
    show RepV w Z y (φ₁ ++ []) v
    rw [List.append_nil]
    rcases PV.tup_or y with ⟨zs, rfl⟩ | ⟨e, _⟩
    · simp only [RepV1, Rep] at h1
    · rw [e]; exact h1
  | y :: y2 :: ys, vs, φ, h => by
    have hl := RepTs_length h
    match vs, hl, h with
    | v :: v2 :: vs, _, h => exact RepV_tup.2 ⟨_, rfl, h⟩

theorem impl_of {E : Env} (hT : TblOk E) (D : Env → Array Oper → RF → Option RF) (hD : ∀ E' : Env, E'.P = E.P → TblOk E' → DrawOk E' (D E')) {f : FuncId} {fn : Func} {c : Code} (hf : E.P.funcs[f]? = some fn)
    (hb : fn.body = some c) (hn : fn.ntmps = E.nt) {g : List PV → Option (PV × List PV)}
    (h : ∀ xs r outs, g xs = some (r, outs) → xs.length ≤ E.nt ∧ wpx { E with pin := pinned 0 xs } (D { E with pin := pinned 0 xs }) c
      (fun e F' => (e = .normal ∨ e = .ret) ∧ fin { E with pin := pinned 0 xs } fn xs F' = some (r, outs)) (init { E with pin := pinned 0 xs } xs)) : Impl E.P E.G f g := by
  intro w Z xs vs φ r outs hrep hnd hargs hglob hg
  obtain ⟨hlen, hwp⟩ := h xs r outs hg
  generalize hE : ({ E with pin := pinned 0 xs } : Env) = E' at hwp
  have hP : E'.P = E.P := by subst hE; rfl
  have hG : E'.G = E.G := by subst hE; rfl
  have hnt : E'.nt = E.nt := by subst hE; rfl
  have hpin : E'.pin = pinned 0 xs := by subst hE; rfl
  have hT' : TblOk E' := by subst hE; exact hT
  obtain ⟨ps, p1, p2, p3⟩ := RepTs_parts hrep
  have hvl := RepTs_length hrep
  rw [← hP] at hf ⊢
  refine calls_of_wp hf hb ?_
  generalize ha : ({ tmps := vs.toArray ++ Array.replicate (fn.ntmps - vs.toArray.size) undef, defers := [] } : Act) = a0
  have hsize : a0.tmps.size = E'.nt := by subst ha; simp [hn, hnt]; omega
  have htm : ∀ (i : Nat) (v : Value), vs[i]? = some v → tmOf E'.nt a0 i = v := by
    intro i v hv
    have hi := (List.getElem?_eq_some_iff.1 hv).1
    have : i < E'.nt := by omega
    subst ha
    simp only [tmOf, this, if_true, Array.getD_eq_getD_getElem?]
    rw [Array.getElem?_append_left (by simpa using hi)]
    simp [hv]
  let X : Cx := ⟨fun b => b ∈ φ ∨ w.heap.size ≤ b, E.G, fun _ _ _ _ _ => False⟩
  have hmem : ∀ t b, b ∈ ps.getD t [] → b ∈ φ := by
    intro t b hb
    rw [← p2]
    rw [List.getD_eq_getElem?_getD] at hb
    cases ht : ps[t]? with
    | none => rw [ht] at hb; simp at hb
    | some p => rw [ht] at hb; exact List.mem_flatten.2 ⟨p, List.mem_of_getElem? ht, by simpa using hb⟩
  have hslot : ∀ t : Nat, (init E' xs).slot t = if h : t < xs.length then .val xs[t] else (globs0 E').slot t := by
    intro t
    simp only [RF.slot, init, find_ents0]
    by_cases ht : t < xs.length
    · have h0 : 0 ≤ t ∧ t < 0 + xs.length := ⟨Nat.zero_le _, by omega⟩
      rw [dif_pos ht, dif_pos h0]; simp
    · have h0 : ¬ (0 ≤ t ∧ t < 0 + xs.length) := fun hh => ht (by omega)
      rw [dif_neg ht, dif_neg h0]
  have hnopl : ∀ t r p k n, (init E' xs).slot t ≠ .pl r p k n := by
    intro t r p k n hs
    rw [hslot] at hs
    split at hs
    · cases hs
    · rcases slot_globs0' (E := E') (t := t) with ⟨x, hx⟩ | hx <;> (rw [hx] at hs; cases hs)
  have hrel : Rel X Z w (fun t => ps.getD t []) (tmOf E'.nt a0) (init E' xs) := by
    have hpn : ∀ {ps : List (List Nat)}, ps.flatten.Nodup → (∀ t, (ps.getD t []).Nodup) ∧ ∀ t u b, b ∈ ps.getD t [] → b ∈ ps.getD u [] → t = u := by
      intro ps
      induction ps with
      | nil => intro _; exact ⟨by simp, by simp⟩
      | cons p ps ih =>
        intro hn
        rw [List.flatten_cons] at hn
        have h1 := List.nodup_append.1 hn
        obtain ⟨k1, k2⟩ := ih h1.2.1
        have hin : ∀ t b, b ∈ ps.getD t [] → b ∈ ps.flatten := by
          intro t b hb
          rw [List.getD_eq_getElem?_getD] at hb
          cases ht : ps[t]? with
          | none => rw [ht] at hb; simp at hb
          | some p => rw [ht] at hb; exact List.mem_flatten.2 ⟨p, List.mem_of_getElem? ht, by simpa using hb⟩
        refine ⟨fun t => ?_, fun t u b ht hu => ?_⟩
        · cases t with
          | zero => simpa using h1.1
          | succ t => simpa using k1 t
        · cases t with
          | zero =>
            cases u with
            | zero => rfl
            | succ u => exact absurd rfl (h1.2.2 b (by simpa using ht) b (hin u b (by simpa using hu)))
          | succ t =>
            cases u with
            | zero => exact absurd rfl (h1.2.2 b (by simpa using hu) b (hin t b (by simpa using ht)))
            | succ u => rw [k2 t u b (by simpa using ht) (by simpa using hu)]
    obtain ⟨q1, q2⟩ := hpn (p2 ▸ hnd)
    refine ⟨q1, q2, fun t b hb => .inl (hmem t b hb), ?_, ?_, fun t r p k n hs => absurd hs (hnopl t r p k n), fun t r p k n hs => absurd hs (hnopl t r p k n), hglob, fun _ _ _ _ _ h => h.elim, fun _ _ _ _ _ h => h.elim⟩
    · intro t x hs
      rw [hslot] at hs
      split at hs
      · rename_i ht
        obtain rfl : xs[t] = x := by simpa using hs
        have hv : vs[t]? = some (vs[t]'(by omega)) := List.getElem?_eq_getElem _
        have hp : ps[t]? = some (ps[t]'(by omega)) := List.getElem?_eq_getElem _
        rw [htm t _ hv]
        have := p3 t _ _ _ (List.getElem?_eq_getElem ht) hv hp
        rw [List.getD_eq_getElem?_getD, hp, Option.getD_some]
        rcases PV.tup_or xs[t] with ⟨ys, hy⟩ | ⟨e, _⟩
        · rw [hy] at this; simp only [RepV1, Rep] at this
        · rw [e]; exact this
      · rename_i ht
        obtain ⟨g, cs, rfl, hgc, rfl⟩ := slot_globs0 hs
        have : ps.getD (E'.nt + g) [] = [] := by
          rw [List.getD_eq_getElem?_getD, List.getElem?_eq_none (by omega)]; rfl
        simp only [this]
        refine (RepV_cell rfl).2 ?_
        have : tmOf E'.nt a0 (E'.nt + g) = .pointer (some ⟨g, 0, none⟩) := by simp [tmOf, Nat.not_lt.2 (Nat.le_add_right E'.nt g)]
        rw [this]
        exact hglob g cs (by rw [← hG]; exact hgc)
    · intro t hs
      by_cases ht : t < xs.length
      · exact absurd (by rw [hslot, dif_pos ht]) (hs xs[t])
      · simp [List.getD_eq_getElem?_getD, List.getElem?_eq_none (show ps.length ≤ t from p1 ▸ Nat.le_of_not_lt ht)]
  have hinv : Inv E' X (tmOf E'.nt a0) w Z (init E' xs) a0 w :=
    ⟨⟨Z, _, ⟨hrel, fun b hb => .inr hb, hG.symm⟩, fun _ _ _ => Iff.rfl⟩, hsize, by subst ha; rfl, Stp.refl _ _, fun b hb => .inr hb, fun _ _ => rfl, fun _ _ _ _ _ h => h⟩
  refine wpx_ok hT' (hD E' hP hT') c _ _ a0 w _ hinv hwp ?_
  rintro e F' a' w' ⟨he, hfin⟩ hi
  obtain ⟨Z', φ', hp, hz⟩ := hi.ex
  simp only [fin, Option.bind_eq_some_iff, Option.map_eq_some_iff, Prod.mk.injEq] at hfin
  obtain ⟨⟨ys, F1⟩, hfr, outs', ho, hres, rfl⟩ := hfin
  obtain ⟨φ1, φy, vs', ht, hrun, hnt'⟩ := finR_ok fn.results.toList F' φ' ys F1 hp hfr
  have hmv := outs_ok ht.rel ho hvl.symm (fun i x v hx hm hv => by
    have := hi.pin (0 + i) (by rw [hpin]; exact mem_pinned hx hm)
    rw [this, Nat.zero_add]; exact htm i v hv)
  have hresult := run_results (fn := fn) hrun
  have hvR : RepV w' Z' r φy (resOfL vs') := by rw [← hres]; exact RepV_results ht.rep
  have hpost : ∃ v, (results fn a'.tmps).run E'.P w' = .ok v w' ∧ ∃ v' Z'' φr φo, (Ending.returned v = .returned v') ∧ RepV w' Z'' r φr v' ∧ RepTs w' Z'' outs' φo (mutVals xs vs) ∧ (φr ++ φo).Nodup ∧
      (∀ b ∈ φr ++ φo, b ∈ φ ∨ w.heap.size ≤ b) ∧ Stp (fun b => b ∈ φ ∨ w.heap.size ≤ b) w w' ∧ (∀ b, b < w.heap.size → b ∉ φ → (Z b ↔ Z'' b)) := by
    refine ⟨_, hresult, _, Z', φy, _, rfl, hvR, hmv, ?_, ?_, hi.stp, fun b hb hbn => hz b hb (fun hm => hm.elim hbn (by omega))⟩
    · refine List.nodup_append.2 ⟨ht.nodup, flatMap_nodup ht.rel pinned_nodup, fun b hb c hc e => ?_⟩
      subst e
      obtain ⟨t, _, hb2⟩ := List.mem_flatMap.1 hc
      exact ht.apart t b hb hb2
    · intro b hb
      rcases List.mem_append.1 hb with hb | hb
      · obtain ⟨t, hbt⟩ := ht.was b hb; exact hp.rel.mine t b hbt
      · obtain ⟨t, _, hb2⟩ := List.mem_flatMap.1 hb; exact ht.rel.mine t b hb2
  obtain ⟨v, hv1, hv2⟩ := hpost
  rcases he with rfl | rfl
  · exact ⟨hi.defers, v, hv1, hv2⟩
  · exact ⟨hi.defers, v, hv1, hv2⟩
end Go.V
