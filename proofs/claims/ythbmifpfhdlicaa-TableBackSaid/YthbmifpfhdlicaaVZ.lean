/- Calls in which nothing is left open, by reckoning alone. -/
import Derived.Test.YthbmifpfhdlicaaVY
namespace Go.V
set_option linter.unusedVariables false
set_option linter.unusedSimpArgs false

def evl (body : RF → Option (Exit × RF)) : Nat → RF → Option (Exit × RF)
  | 0, _ => none
  | n + 1, F => match body F with
    | some (.normal, F') => evl body n F'
    | r => r
def evc (E : Env) (n : Nat) : Code → RF → Option (Exit × RF)
  | .skip, F => some (.normal, F)
  | .region id ops dr, F => match runR E (draw E) ops dr F with
    | some F' => some (.normal, F'.prune (E.keep id))
    | none => none
  | .seq a b, F => match evc E n a F with
    | some (.normal, F') => evc E n b F'
    | r => r
  | .cond c a b, F => match E.vl F c with
    | some (.bool t) => if t = true then evc E n a F else evc E n b F
    | _ => none
  | .block id c, F => match evc E n c F with
    | some (.exit i, F') => if i = id then some (.normal, F') else some (.exit i, F')
    | r => r
  | .loop c, F => evl (evc E n c) n F
  | .exit id, F => some (.exit id, F)
  | .ret, F => some (.ret, F)
  | _, _ => none

theorem evl_ok {E : Env} {c : Code} {D : Array Oper → RF → Option RF} {body : RF → Option (Exit × RF)} (h : ∀ F e F', body F = some (e, F') → wpx E D c (fun e1 F1 => e1 = e ∧ F1 = F') F) :
    ∀ {n : Nat} {F F' : RF} {e : Exit}, evl body n F = some (e, F') → itr (wpx E D c) (fun e1 F1 => e1 = e ∧ F1 = F') n F
  | 0, F, F', e, hs => by simp [evl] at hs
  | n + 1, F, F', e, hs => by
    simp only [evl] at hs
    simp only [itr]
    split at hs
    · rename_i F1 hb
      refine wpx_mono ?_ (h _ _ _ hb)
      rintro e1 F2 ⟨rfl, rfl⟩
      exact evl_ok h hs
    · rename_i r hr
      refine wpx_mono ?_ (h _ _ _ hs)
      rintro e1 F2 ⟨rfl, rfl⟩
      cases e1 with
      | normal => exact absurd hs (hr _)
      | _ => exact ⟨rfl, rfl⟩
theorem evc_ok {E : Env} {n : Nat} : ∀ {c : Code} {F F' : RF} {e : Exit}, evc E n c F = some (e, F') → wpx E (draw E) c (fun e1 F1 => e1 = e ∧ F1 = F') F := by
  intro c
  induction c with
  | skip => intro F F' e h; simp only [evc, Option.some.injEq, Prod.mk.injEq] at h; exact ⟨h.1, h.2⟩
  | region id ops dr =>
    intro F F' e h
    simp only [evc] at h
    split at h
    · rename_i F1 hr
      simp only [Option.some.injEq, Prod.mk.injEq] at h
      simp only [wpx, hr]
      exact ⟨h.1, h.2⟩
    · cases h
  | seq x y ihx ihy =>
    intro F F' e h
    simp only [evc] at h
    simp only [wpx]
    split at h
    · rename_i F1 hx
      refine wpx_mono ?_ (ihx hx)
      rintro e1 F2 ⟨rfl, rfl⟩
      exact ihy h
    · rename_i r hr
      refine wpx_mono ?_ (ihx h)
      rintro e1 F2 ⟨rfl, rfl⟩
      cases e1 with
      | normal => exact absurd h (hr _)
      | _ => exact ⟨rfl, rfl⟩
  | cond v x y ihx ihy =>
    intro F F' e h
    simp only [evc] at h
    simp only [wpx]
    split at h
    · rename_i t hv
      rw [hv]
      simp only
      split at h
      · rename_i ht; rw [if_pos ht]; exact ihx h
      · rename_i ht; rw [if_neg ht]; exact ihy h
    · cases h
  | block id c ih =>
    intro F F' e h
    simp only [evc] at h
    simp only [wpx]
    split at h
    · rename_i i F1 hc
      refine wpx_mono ?_ (ih hc)
      rintro e1 F2 ⟨rfl, rfl⟩
      simp only
      split at h
      · rename_i hi; rw [if_pos hi]; simp only [Option.some.injEq, Prod.mk.injEq] at h; exact ⟨h.1, h.2⟩
      · rename_i hi; rw [if_neg hi]; simp only [Option.some.injEq, Prod.mk.injEq] at h; exact ⟨h.1, h.2⟩
    · rename_i r hr
      refine wpx_mono ?_ (ih h)
      rintro e1 F2 ⟨rfl, rfl⟩
      cases e1 with
      | exit i => exact absurd h (hr _ _)
      | _ => exact ⟨rfl, rfl⟩
  | loop c ih =>
    intro F F' e h
    simp only [evc] at h
    simp only [wpx]
    exact ⟨n, evl_ok (fun F e F' h => ih h) h⟩
  | exit id => intro F F' e h; simp only [evc, Option.some.injEq, Prod.mk.injEq] at h; exact ⟨h.1, h.2⟩
  | ret => intro F F' e h; simp only [evc, Option.some.injEq, Prod.mk.injEq] at h; exact ⟨h.1, h.2⟩
  | _ => intro F F' e h; simp [evc] at h

def isEnd : Exit → Bool
  | .normal | .ret => true
  | _ => false
def evf (P : Program) (G : Nat → Option (List PV)) (gs : List Nat) (keep : FuncId → Nat → List Tmp) (tbl : FuncId → List PV → Option (PV × List PV)) (n : Nat) (f : FuncId) (xs : List PV) : Option (PV × List PV) :=
  match P.funcs[f]? with
  | some fn => match fn.body with
    | some c =>
      if xs.length ≤ fn.ntmps then
        match evc { P := P, tbl := tbl, G := G, nt := fn.ntmps, gs := gs, keep := keep f, pin := pinned 0 xs } n c (init { P := P, tbl := tbl, G := G, nt := fn.ntmps, gs := gs, keep := keep f, pin := pinned 0 xs } xs) with
        | some (e, F') => if isEnd e = true then fin { P := P, tbl := tbl, G := G, nt := fn.ntmps, gs := gs, keep := keep f, pin := pinned 0 xs } fn xs F' else none
        | none => none
      else none
    | none => none
  | none => none
theorem evf_ok {P : Program} {G : Nat → Option (List PV)} {gs : List Nat} {keep : FuncId → Nat → List Tmp} {tbl : FuncId → List PV → Option (PV × List PV)} {n : Nat} (hm : P.follows .mixedOrders = true) (hT : ∀ f, Impl P G f (tbl f)) (f : FuncId) :
    Impl P G f (evf P G gs keep tbl n f) := by
  cases hf : P.funcs[f]? with
  | none => intro w Z xs vs φ r outs _ _ _ _ hg; simp [evf, hf] at hg
  | some fn =>
    cases hb : fn.body with
    | none => intro w Z xs vs φ r outs _ _ _ _ hg; simp [evf, hf, hb] at hg
    | some c =>
      refine impl_of (E := { P := P, tbl := tbl, G := G, nt := fn.ntmps, gs := gs, keep := keep f, pin := [] }) hT draw (fun E' hP hT' => draw_ok hT' (by rw [hP]; exact hm)) hf hb rfl ?_
      intro xs r outs h
      simp only [evf, hf, hb] at h
      split at h
      case isFalse => cases h
      rename_i hl
      split at h
      case h_2 => cases h
      rename_i e F' he
      split at h
      case isFalse => cases h
      rename_i hend
      refine ⟨hl, wpx_mono ?_ (evc_ok he)⟩
      rintro e1 F1 ⟨rfl, rfl⟩
      exact ⟨by cases e1 <;> simp_all [isEnd], h⟩
/-- a call by reckoning, so many calls deep; some functions by what is told of them -/
def evt (base : FuncId → Option (List PV → Option (PV × List PV))) (P : Program) (G : Nat → Option (List PV)) (gs : List Nat) (keep : FuncId → Nat → List Tmp) : Nat → FuncId → List PV → Option (PV × List PV)
  | 0, _, _ => none
  | d + 1, f, xs => match base f with
    | some g => g xs
    | none => evf P G gs keep (evt base P G gs keep d) 100000 f xs
theorem evt_ok {base : FuncId → Option (List PV → Option (PV × List PV))} {P : Program} {G : Nat → Option (List PV)} {gs : List Nat} {keep : FuncId → Nat → List Tmp} (hm : P.follows .mixedOrders = true) (hb : ∀ f g, base f = some g → Impl P G f g) :
    ∀ (d : Nat) (f : FuncId), Impl P G f (evt base P G gs keep d f)
  | 0, f => by intro w Z xs vs φ r outs _ _ _ _ hg; simp [evt] at hg
  | d + 1, f => by
    cases h : base f with
    | none =>
      have e : evt base P G gs keep (d + 1) f = evf P G gs keep (evt base P G gs keep d) 100000 f := by funext xs; simp only [evt, h]
      rw [e]; exact evf_ok hm (fun f => evt_ok hm hb d f) f
    | some g =>
      have e : evt base P G gs keep (d + 1) f = g := by funext xs; simp only [evt, h]
      rw [e]; exact hb f g h
def saysTrue : Option (PV × List PV) → Bool
  | some (.prim (.bool b), []) => b
  | _ => false
theorem saysTrue_eq {r : Option (PV × List PV)} (h : saysTrue r = true) : r = some (.prim (.bool true), []) := by
  unfold saysTrue at h
  split at h
  · rw [h]
  · cases h
/-- a function without arguments that tells true -/
def gTrue : List PV → Option (PV × List PV)
  | [] => some (.prim (.bool true), [])
  | _ => none
theorem impl_true {P : Program} {G : Nat → Option (List PV)} {f : FuncId} {g : List PV → Option (PV × List PV)} (h : Impl P G f g) (ht : saysTrue (g []) = true) : Impl P G f gTrue := by
  intro w Z xs vs φ r outs h1 h2 h3 h4 hg
  unfold gTrue at hg
  split at hg
  · rw [← saysTrue_eq ht] at hg; exact h w Z [] vs φ r outs h1 h2 h3 h4 hg
  · cases hg
/-! ### Tables of contracts -/
abbrev Tbl := FuncId → List PV → Option (PV × List PV)
def Tbl.add (t : Tbl) (f : FuncId) (g : List PV → Option (PV × List PV)) : Tbl := fun k => if k = f then g else t k
theorem Tbl.add_ok {P : Program} {G : Nat → Option (List PV)} {t : Tbl} {f : FuncId} {g : List PV → Option (PV × List PV)} (h : ∀ k, Impl P G k (t k)) (hg : Impl P G f g) : ∀ k, Impl P G k (t.add f g k) := by
  intro k
  unfold Tbl.add
  split
  · rename_i e; rw [e]; exact hg
  · exact h k
def Tbl.none : Tbl := fun _ _ => Option.none
theorem Tbl.none_ok {P : Program} {G : Nat → Option (List PV)} : ∀ k, Impl P G k (Tbl.none k) := by
  intro k w Z xs vs φ r outs _ _ _ _ hg; simp [Tbl.none] at hg
end Go.V
