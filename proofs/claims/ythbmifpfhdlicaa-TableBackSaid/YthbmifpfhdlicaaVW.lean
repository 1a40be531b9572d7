/- Loops of a text; a contract by its data. -/
import Derived.Test.YthbmifpfhdlicaaVU
namespace Go.V
set_option linter.unusedVariables false
set_option linter.unusedSimpArgs false
variable {E : Env} {D : Array Oper → RF → Option RF}

theorem itr_mono {body : (Exit → RF → Prop) → RF → Prop} (hb : ∀ (K K' : Exit → RF → Prop) (F : RF), (∀ e F', K e F' → K' e F') → body K F → body K' F) {K K' : Exit → RF → Prop} (hK : ∀ e F', K e F' → K' e F') :
    ∀ {n : Nat} {F : RF}, itr body K n F → itr body K' n F
  | 0, F, h => h
  | n + 1, F, h => by
    simp only [itr] at h ⊢
    refine hb _ _ _ ?_ h
    intro e F' he
    cases e with
    | normal => exact itr_mono hb hK he
    | _ => exact hK _ _ he

theorem wpx_mono : ∀ {c : Code} {K K' : Exit → RF → Prop} {F : RF}, (∀ e F', K e F' → K' e F') → wpx E D c K F → wpx E D c K' F := by
  intro c
  induction c with
  | skip => intro K K' F hK h; exact hK _ _ h
  | region id ops dr =>
    intro K K' F hK h
    simp only [wpx] at h ⊢
    split at h
    · exact hK _ _ h
    · obtain ⟨h0, os, o, d, T, x, S, f, sz, xs, e, F1, h1, h2, h3, h4, h5, h6, h7, h8, h9⟩ := h
      exact ⟨h0, os, o, d, T, x, S, f, sz, xs, e, F1, h1, h2, h3, h4, h5, h6, h7, h8, fun b hb => hK _ _ (h9 b hb)⟩
  | seq x y ihx ihy =>
    intro K K' F hK h
    simp only [wpx] at h ⊢
    refine ihx ?_ h
    intro e F' he
    cases e with
    | normal => exact ihy hK he
    | _ => exact hK _ _ he
  | cond v x y ihx ihy =>
    intro K K' F hK h
    simp only [wpx] at h ⊢
    split at h
    · split at h
      · rename_i ht; rw [if_pos ht]; exact ihx hK h
      · rename_i ht; rw [if_neg ht]; exact ihy hK h
    · exact h.elim
  | block id c ih =>
    intro K K' F hK h
    simp only [wpx] at h ⊢
    refine ih ?_ h
    intro e F' he
    cases e with
    | exit i =>
      simp only at he ⊢
      split
      · rename_i e; rw [if_pos e] at he; exact hK _ _ he
      · rename_i e; rw [if_neg e] at he; exact hK _ _ he
    | _ => exact hK _ _ he
  | loop c ih =>
    intro K K' F hK h
    simp only [wpx] at h ⊢
    obtain ⟨n, hn⟩ := h
    exact ⟨n, itr_mono (body := wpx E D c) (fun _ _ _ hK h => ih hK h) hK hn⟩
  | exit id => intro K K' F hK h; exact hK _ _ h
  | ret => intro K K' F hK h; exact hK _ _ h
  | _ => intro K K' F hK h; exact h.elim

theorem loop_rule {c : Code} {K : Exit → RF → Prop} {σ : Type} (J : σ → Prop) (I : σ → RF) (m : σ → Nat)
    (h : ∀ s, J s → wpx E D c (fun e F' => match e with | .normal => ∃ s', J s' ∧ m s' < m s ∧ F' = I s' | e => K e F') (I s)) {s : σ} {F : RF} (hF : F = I s) (hs : J s) : wpx E D (.loop c) K F := by
  subst hF
  have key : ∀ n s, J s → m s < n → itr (wpx E D c) K n (I s) := by
    intro n
    induction n with
    | zero => intro s _ hm; omega
    | succ n ih =>
      intro s hs hm
      refine wpx_mono ?_ (h s hs)
      intro e F' he
      cases e with
      | normal => obtain ⟨s', h1, h2, rfl⟩ := he; exact ih s' h1 (by omega)
      | _ => exact he
  exact ⟨m s + 1, key _ s hs (Nat.lt_succ_self _)⟩

/-- a contract by its data: how it is laid, when it holds, what is told -/
noncomputable def spec {α : Type} (enc : α → List PV) (ok : α → Prop) (res : α → PV × List PV) : List PV → Option (PV × List PV) :=
  fun xs => @dite _ (∃ a, enc a = xs ∧ ok a) (Classical.propDecidable _) (fun h => some (res (Classical.choose h))) (fun _ => none)
theorem spec_eq {α : Type} {enc : α → List PV} {ok : α → Prop} {res : α → PV × List PV} {xs : List PV} (hi : ∀ a b, enc a = enc b → res a = res b) (a : α) (ha : ok a) (hx : enc a = xs) : spec enc ok res xs = some (res a) := by
  have h : ∃ a, enc a = xs ∧ ok a := ⟨a, hx, ha⟩
  unfold spec
  rw [dif_pos h]
  have := Classical.choose_spec h
  rw [hi _ a (by rw [this.1, hx])]
theorem spec_some {α : Type} {enc : α → List PV} {ok : α → Prop} {res : α → PV × List PV} {xs : List PV} {r : PV × List PV} (h : spec enc ok res xs = some r) : ∃ a, enc a = xs ∧ ok a ∧ res a = r := by
  unfold spec at h
  split at h
  · rename_i hx
    have := Classical.choose_spec hx
    exact ⟨_, this.1, this.2, by simpa using h⟩
  · cases h

theorem impl_spec {α : Type} {enc : α → List PV} {ok : α → Prop} {res : α → PV × List PV} (hT : TblOk E) (hm : E.P.follows .mixedOrders = true) {f : FuncId} {fn : Func} {c : Code} (hf : E.P.funcs[f]? = some fn)
    (hb : fn.body = some c) (hn : fn.ntmps = E.nt)
    (h : ∀ a, ok a → (enc a).length ≤ E.nt ∧ wpx { E with pin := pinned 0 (enc a) } (draw { E with pin := pinned 0 (enc a) }) c
      (fun e F' => (e = .normal ∨ e = .ret) ∧ fin { E with pin := pinned 0 (enc a) } fn (enc a) F' = some (res a)) (init { E with pin := pinned 0 (enc a) } (enc a))) : Impl E.P E.G f (spec enc ok res) := by
  refine impl_of hT draw (fun E' hP hT' => draw_ok hT' (by rw [hP]; exact hm)) hf hb hn ?_
  intro xs r outs hx
  obtain ⟨a, rfl, ha, hr⟩ := spec_some hx
  obtain ⟨h1, h2⟩ := h a ha
  refine ⟨h1, ?_⟩
  rw [hr] at h2
  exact h2

/-- a row of numbers -/
def ints (k : IntKind) (l : List Int) : List PV := l.map fun n => .prim (.int k n)
@[simp] theorem ints_length {k : IntKind} {l : List Int} : (ints k l).length = l.length := by simp [ints]
@[simp] theorem ints_get {k : IntKind} {l : List Int} {i : Nat} : (ints k l)[i]? = (l[i]?).map fun n => .prim (.int k n) := by simp [ints]
@[simp] theorem ints_getElem {k : IntKind} {l : List Int} {i : Nat} {h : i < (ints k l).length} : (ints k l)[i] = .prim (.int k (l[i]'(by simpa using h))) := by simp [ints]
@[simp] theorem noOwn_ints {k : IntKind} : ∀ {l : List Int}, noOwnL (ints k l) = true
  | [] => rfl
  | a :: l => by simp [ints, noOwnL, PV.noOwn]; exact noOwn_ints (k := k) (l := l)
@[simp] theorem frz_ints {k : IntKind} : ∀ {l : List Int}, frzL (ints k l) = ints k l
  | [] => rfl
  | a :: l => by simp [ints, frzL, PV.frz]; exact frz_ints (k := k) (l := l)
theorem ints_inj {k : IntKind} : ∀ {l m : List Int}, ints k l = ints k m → l = m
  | [], [], _ => rfl
  | a :: l, b :: m, h => by
    simp only [ints, List.map_cons, List.cons.injEq, PV.prim.injEq, Value.int.injEq, true_and] at h
    rw [h.1, ints_inj (l := l) (m := m) h.2]
  | [], _ :: _, h => by simp [ints] at h
  | _ :: _, [], h => by simp [ints] at h
end Go.V
