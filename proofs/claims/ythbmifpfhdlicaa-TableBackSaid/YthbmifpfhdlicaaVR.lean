/- What an operation may write of a frame: a row of slots set anew. -/
import Derived.Test.YthbmifpfhdlicaaVQ
namespace Go.V
set_option linter.unusedVariables false
set_option linter.unusedSimpArgs false

def RF.sets (F : RF) : List (Tmp × Slot) → RF
  | [] => F
  | (t, s) :: ts => (RF.sets F ts).set t s
def Ext (F F' : RF) : Prop := ∃ ts, F' = F.sets ts
def ExtO (F : RF) (m : Option RF) : Prop := ∀ F', m = some F' → Ext F F'
def ExtP {α : Type} (F : RF) (m : Option (α × RF)) : Prop := ∀ r, m = some r → Ext F r.2
theorem RF.sets_append {F : RF} : ∀ {ts us : List (Tmp × Slot)}, F.sets (us ++ ts) = (F.sets ts).sets us
  | ts, [] => rfl
  | ts, (t, s) :: us => by simp only [List.cons_append, RF.sets, RF.sets_append (us := us)]
theorem Ext.refl (F : RF) : Ext F F := ⟨[], rfl⟩
theorem Ext.trans {F G H : RF} (h : Ext F G) (k : Ext G H) : Ext F H := by
  obtain ⟨ts, rfl⟩ := h
  obtain ⟨us, rfl⟩ := k
  exact ⟨us ++ ts, RF.sets_append.symm⟩
theorem Ext.set {F G : RF} {t : Tmp} {s : Slot} (h : Ext F G) : Ext F (G.set t s) := by
  obtain ⟨ts, rfl⟩ := h; exact ⟨(t, s) :: ts, rfl⟩
theorem Ext.setD {F G : RF} {d : Option Tmp} {s : Slot} (h : Ext F G) : Ext F (setD G d s) := by
  cases d with
  | none => exact h
  | some t => exact h.set
theorem Ext.re {F G : RF} {t : Tmp} {x : PV} (h : Ext F G) : Ext F (G.re t x) := h.set.set
theorem ExtO.none {F : RF} : ExtO F none := fun _ h => by cases h
theorem ExtO.some {F G : RF} (h : Ext F G) : ExtO F (some G) := fun _ e => by cases e; exact h
theorem ExtO.map {α : Type} {F : RF} {m : Option α} {f : α → RF} (h : ∀ x, m = .some x → Ext F (f x)) : ExtO F (m.map f) := fun F' e => by
  simp only [Option.map_eq_some_iff] at e; obtain ⟨x, hx, rfl⟩ := e; exact h x hx
theorem ExtO.bind {α : Type} {F : RF} {m : Option α} {f : α → Option RF} (h : ∀ x, m = .some x → ExtO F (f x)) : ExtO F (m.bind f) := fun F' e => by
  simp only [Option.bind_eq_some_iff] at e; obtain ⟨x, hx, he⟩ := e; exact h x hx F' he
theorem ExtP.none {α : Type} {F : RF} : ExtP F (none : Option (α × RF)) := fun _ h => by cases h
theorem ExtP.some {α : Type} {F G : RF} {x : α} (h : Ext F G) : ExtP F (some (x, G)) := fun _ e => by cases e; exact h
theorem ExtP.map {α β : Type} {F : RF} {m : Option β} {f : β → α × RF} (h : ∀ x, m = .some x → Ext F (f x).2) : ExtP F (m.map f) := fun F' e => by
  simp only [Option.map_eq_some_iff] at e; obtain ⟨x, hx, rfl⟩ := e; exact h x hx
theorem ExtP.bind {α β : Type} {F : RF} {m : Option β} {f : β → Option (α × RF)} (h : ∀ x, m = .some x → ExtP F (f x)) : ExtP F (m.bind f) := fun F' e => by
  simp only [Option.bind_eq_some_iff] at e; obtain ⟨x, hx, he⟩ := e; exact h x hx F' he

theorem take_ext {F : RF} {t : Tmp} : ExtP F (F.take t) := by
  unfold RF.take
  refine ExtP.bind fun y hy => ?_
  split
  · exact .some (.refl F)
  · split
    · exact .none
    · exact .some (Ext.refl F).set
    · split
      · exact .none
      · exact .none
      · split
        · exact .map fun c _ => (Ext.refl F).set
        · exact .none
      · split
        · exact .some (Ext.refl F).set
        · split
          · exact .map fun c _ => (Ext.refl F).set
          · exact .none
theorem tk_ext {E : Env} {F : RF} {T : TypeId} {x : Operand} : ExtP F (E.tk F T x) := by
  unfold Env.tk
  split
  · exact take_ext
  · exact .map fun _ _ => .refl F
theorem tks_ext {E : Env} {T : Nat → TypeId} : ∀ {ps : List (Nat × Operand)} {F : RF}, ExtP F (E.tks T F ps)
  | [], F => .some (.refl F)
  | (i, x) :: ps, F => .bind fun r hr => .map fun q hq => (tk_ext r hr).trans (tks_ext q hq)
theorem fst_ext {E : Env} {F : RF} {T : TypeId} {x : Operand} {sz : Nat} : ∀ r, E.fst F T x sz = some r → Ext F r.2.1 := by
  intro r h
  unfold Env.fst at h
  split at h
  · split at h
    · split at h
      · cases h; exact .refl F
      · cases h
    · cases h
  · split at h
    · rename_i e; split at h
      · cases h; exact tk_ext _ e
      · cases h
    · cases h
theorem snd_ext {E : Env} {F : RF} {T : TypeId} {x : Operand} {sz : Nat} : ExtP F (E.snd F T x sz) := by
  unfold Env.snd
  split
  · split
    · split
      · exact .some (.refl F)
      · exact .none
    · exact .none
  · split
    · split
      · split
        · exact .some (.refl F)
        · split
          · rename_i e; split
            · exact .some (tk_ext _ e)
            · exact .none
          · exact .none
      · exact .none
    · exact .none
  · exact .none
theorem putMap_ext {F : RF} {r : Tmp} {p : Path} {es : List (Value × Value)} : ExtO F (F.putMap r p es) := by
  unfold RF.putMap
  split
  · exact .some (Ext.refl F).re
  · split
    · exact .map fun _ _ => (Ext.refl F).re
    · exact .none
theorem caps_ext {E : Env} : ∀ {xs : List Operand} {F : RF}, ExtP F (E.caps F xs)
  | [], F => .some (.refl F)
  | x :: xs, F => by
    unfold Env.caps
    refine .bind fun t _ => ?_
    split
    · split
      · split
        · exact .map fun r hr => caps_ext r hr
        · exact .map fun r hr => (Ext.refl F).set.set.trans (caps_ext r hr)
      · exact .none
    · exact .none

theorem semPure_ext {E : Env} {o : Oper} {F : RF} : ExtO F (semPure E o F) := by
  unfold semPure
  repeat' (first
    | exact ExtO.none
    | exact putMap_ext
    | (refine ExtO.some ?_)
    | (refine ExtO.map fun _ _ => ?_)
    | (refine ExtO.bind fun _ _ => ?_)
    | exact Ext.refl _
    | (exact tk_ext _ ‹_›)
    | (exact tks_ext _ ‹_›)
    | (exact caps_ext _ ‹_›)
    | (refine Ext.setD ?_)
    | (refine Ext.set ?_)
    | (refine Ext.re ?_)
    | split
    | dsimp only)
theorem semMove_ext {E : Env} {o : Oper} {x : Operand} {F : RF} : ExtO F (semMove E o x F) := by
  unfold semMove
  repeat' (first
    | exact ExtO.none
    | exact semPure_ext
    | exact putMap_ext
    | (refine ExtO.some ?_)
    | (refine ExtO.map fun _ _ => ?_)
    | (refine ExtO.bind fun _ _ => ?_)
    | exact Ext.refl _
    | (exact tk_ext _ ‹_›)
    | (exact tks_ext _ ‹_›)
    | (exact caps_ext _ ‹_›)
    | (refine Ext.setD ?_)
    | (refine Ext.set ?_)
    | (refine Ext.re ?_)
    | split
    | dsimp only)
theorem semAssign_ext {E : Env} {o : Oper} {x : Operand} {F : RF} : ExtO F (semAssign E o x F) := by
  unfold semAssign
  repeat' (first
    | exact ExtO.none
    | exact semPure_ext
    | exact semMove_ext
    | exact putMap_ext
    | (refine ExtO.some ?_)
    | (refine ExtO.map fun _ _ => ?_)
    | (refine ExtO.bind fun _ _ => ?_)
    | exact Ext.refl _
    | (exact tk_ext _ ‹_›)
    | (exact tks_ext _ ‹_›)
    | (exact caps_ext _ ‹_›)
    | (refine Ext.setD ?_)
    | (refine Ext.set ?_)
    | (refine Ext.re ?_)
    | split
    | dsimp only)
theorem semAlloc_ext {E : Env} {o : Oper} {T : TypeId} {F : RF} : ExtO F (semAlloc E o T F) := by
  unfold semAlloc
  repeat' (first
    | exact ExtO.none
    | exact semPure_ext
    | exact semMove_ext
    | exact putMap_ext
    | (refine ExtO.some ?_)
    | (refine ExtO.map fun _ _ => ?_)
    | (refine ExtO.bind fun _ _ => ?_)
    | exact Ext.refl _
    | (exact tk_ext _ ‹_›)
    | (exact tks_ext _ ‹_›)
    | (exact caps_ext _ ‹_›)
    | (refine Ext.setD ?_)
    | (refine Ext.set ?_)
    | (refine Ext.re ?_)
    | split
    | dsimp only)
theorem semBox_ext {E : Env} {o : Oper} {T : TypeId} {x : Operand} {F : RF} : ExtO F (semBox E o T x F) := by
  unfold semBox
  repeat' (first
    | exact ExtO.none
    | exact semPure_ext
    | exact semMove_ext
    | exact putMap_ext
    | (refine ExtO.some ?_)
    | (refine ExtO.map fun _ _ => ?_)
    | (refine ExtO.bind fun _ _ => ?_)
    | exact Ext.refl _
    | (exact tk_ext _ ‹_›)
    | (exact tks_ext _ ‹_›)
    | (exact caps_ext _ ‹_›)
    | (refine Ext.setD ?_)
    | (refine Ext.set ?_)
    | (refine Ext.re ?_)
    | split
    | dsimp only)
theorem semBuild_ext {E : Env} {o : Oper} {T : TypeId} {ps : List (Nat × Operand)} {F : RF} : ExtO F (semBuild E o T ps F) := by
  unfold semBuild
  repeat' (first
    | exact ExtO.none
    | exact semPure_ext
    | exact semMove_ext
    | exact putMap_ext
    | (refine ExtO.some ?_)
    | (refine ExtO.map fun _ _ => ?_)
    | (refine ExtO.bind fun _ _ => ?_)
    | exact Ext.refl _
    | (exact tk_ext _ ‹_›)
    | (exact tks_ext _ ‹_›)
    | (exact caps_ext _ ‹_›)
    | (refine Ext.setD ?_)
    | (refine Ext.set ?_)
    | (refine Ext.re ?_)
    | split
    | dsimp only)
theorem semLit_ext {E : Env} {o : Oper} {T : TypeId} {n : Nat} {ps : List (Nat × Operand)} {F : RF} : ExtO F (semLit E o T n ps F) := by
  unfold semLit
  repeat' (first
    | exact ExtO.none
    | exact semPure_ext
    | exact semMove_ext
    | exact putMap_ext
    | (refine ExtO.some ?_)
    | (refine ExtO.map fun _ _ => ?_)
    | (refine ExtO.bind fun _ _ => ?_)
    | exact Ext.refl _
    | (exact tk_ext _ ‹_›)
    | (exact tks_ext _ ‹_›)
    | (exact caps_ext _ ‹_›)
    | (refine Ext.setD ?_)
    | (refine Ext.set ?_)
    | (refine Ext.re ?_)
    | split
    | dsimp only)
theorem semLoad_ext {E : Env} {o : Oper} {T : TypeId} {x : Operand} {F : RF} : ExtO F (semLoad E o T x F) := by
  unfold semLoad
  repeat' (first
    | exact ExtO.none
    | exact semPure_ext
    | exact semMove_ext
    | exact putMap_ext
    | (refine ExtO.some ?_)
    | (refine ExtO.map fun _ _ => ?_)
    | (refine ExtO.bind fun _ _ => ?_)
    | exact Ext.refl _
    | (exact tk_ext _ ‹_›)
    | (exact tks_ext _ ‹_›)
    | (exact caps_ext _ ‹_›)
    | (refine Ext.setD ?_)
    | (refine Ext.set ?_)
    | (refine Ext.re ?_)
    | split
    | dsimp only)
theorem semStore_ext {E : Env} {o : Oper} {T : TypeId} {x v : Operand} {F : RF} : ExtO F (semStore E o T x v F) := by
  unfold semStore
  repeat' (first
    | exact ExtO.none
    | exact semPure_ext
    | exact semMove_ext
    | exact putMap_ext
    | (refine ExtO.some ?_)
    | (refine ExtO.map fun _ _ => ?_)
    | (refine ExtO.bind fun _ _ => ?_)
    | exact Ext.refl _
    | (exact tk_ext _ ‹_›)
    | (exact tks_ext _ ‹_›)
    | (exact caps_ext _ ‹_›)
    | (refine Ext.setD ?_)
    | (refine Ext.set ?_)
    | (refine Ext.re ?_)
    | split
    | dsimp only)
theorem semNil_ext {E : Env} {o : Oper} {x : Operand} {F : RF} : ExtO F (semNil E o x F) := by
  unfold semNil
  repeat' (first
    | exact ExtO.none
    | exact semPure_ext
    | exact semMove_ext
    | exact putMap_ext
    | (refine ExtO.some ?_)
    | (refine ExtO.map fun _ _ => ?_)
    | (refine ExtO.bind fun _ _ => ?_)
    | exact Ext.refl _
    | (exact tk_ext _ ‹_›)
    | (exact tks_ext _ ‹_›)
    | (exact caps_ext _ ‹_›)
    | (refine Ext.setD ?_)
    | (refine Ext.set ?_)
    | (refine Ext.re ?_)
    | split
    | dsimp only)
theorem semConv_ext {E : Env} {o : Oper} {S D : TypeId} {x : Operand} {F : RF} : ExtO F (semConv E o S D x F) := by
  unfold semConv
  repeat' (first
    | exact ExtO.none
    | exact semPure_ext
    | exact semMove_ext
    | exact putMap_ext
    | (refine ExtO.some ?_)
    | (refine ExtO.map fun _ _ => ?_)
    | (refine ExtO.bind fun _ _ => ?_)
    | exact Ext.refl _
    | (exact tk_ext _ ‹_›)
    | (exact tks_ext _ ‹_›)
    | (exact caps_ext _ ‹_›)
    | (refine Ext.setD ?_)
    | (refine Ext.set ?_)
    | (refine Ext.re ?_)
    | split
    | dsimp only)
theorem semFunc_ext {E : Env} {o : Oper} {fn : Fn} {first captured : Array Operand} {F : RF} : ExtO F (semFunc E o fn first captured F) := by
  unfold semFunc
  repeat' (first
    | exact ExtO.none
    | exact semPure_ext
    | exact semMove_ext
    | exact putMap_ext
    | (refine ExtO.some ?_)
    | (refine ExtO.map fun _ _ => ?_)
    | (refine ExtO.bind fun _ _ => ?_)
    | exact Ext.refl _
    | (exact tk_ext _ ‹_›)
    | (exact tks_ext _ ‹_›)
    | (exact caps_ext _ ‹_›)
    | (refine Ext.setD ?_)
    | (refine Ext.set ?_)
    | (refine Ext.re ?_)
    | split
    | dsimp only)
theorem semMakeMap_ext {E : Env} {o : Oper} {r : Option Operand} {F : RF} : ExtO F (semMakeMap E o r F) := by
  unfold semMakeMap
  repeat' (first
    | exact ExtO.none
    | exact semPure_ext
    | exact semMove_ext
    | exact putMap_ext
    | (refine ExtO.some ?_)
    | (refine ExtO.map fun _ _ => ?_)
    | (refine ExtO.bind fun _ _ => ?_)
    | exact Ext.refl _
    | (exact tk_ext _ ‹_›)
    | (exact tks_ext _ ‹_›)
    | (exact caps_ext _ ‹_›)
    | (refine Ext.setD ?_)
    | (refine Ext.set ?_)
    | (refine Ext.re ?_)
    | split
    | dsimp only)
theorem semMake_ext {E : Env} {o : Oper} {T : TypeId} {l c : Operand} {F : RF} : ExtO F (semMake E o T l c F) := by
  unfold semMake
  repeat' (first
    | exact ExtO.none
    | exact semPure_ext
    | exact semMove_ext
    | exact putMap_ext
    | (refine ExtO.some ?_)
    | (refine ExtO.map fun _ _ => ?_)
    | (refine ExtO.bind fun _ _ => ?_)
    | exact Ext.refl _
    | (exact tk_ext _ ‹_›)
    | (exact tks_ext _ ‹_›)
    | (exact caps_ext _ ‹_›)
    | (refine Ext.setD ?_)
    | (refine Ext.set ?_)
    | (refine Ext.re ?_)
    | split
    | dsimp only)
theorem semSlice_ext {E : Env} {o : Oper} {T : TypeId} {x : Operand} {l h m : Option Operand} {F : RF} : ExtO F (semSlice E o T x l h m F) := by
  unfold semSlice
  repeat' (first
    | exact ExtO.none
    | exact semPure_ext
    | exact semMove_ext
    | exact putMap_ext
    | (refine ExtO.some ?_)
    | (refine ExtO.map fun _ _ => ?_)
    | (refine ExtO.bind fun _ _ => ?_)
    | exact Ext.refl _
    | (exact tk_ext _ ‹_›)
    | (exact tks_ext _ ‹_›)
    | (exact caps_ext _ ‹_›)
    | (refine Ext.setD ?_)
    | (refine Ext.set ?_)
    | (refine Ext.re ?_)
    | split
    | dsimp only)
theorem semField_ext {E : Env} {o : Oper} {S : TypeId} {x : Operand} {f : Nat} {F : RF} : ExtO F (semField E o S x f F) := by
  unfold semField
  repeat' (first
    | exact ExtO.none
    | exact semPure_ext
    | exact semMove_ext
    | exact putMap_ext
    | (refine ExtO.some ?_)
    | (refine ExtO.map fun _ _ => ?_)
    | (refine ExtO.bind fun _ _ => ?_)
    | exact Ext.refl _
    | (exact tk_ext _ ‹_›)
    | (exact tks_ext _ ‹_›)
    | (exact caps_ext _ ‹_›)
    | (refine Ext.setD ?_)
    | (refine Ext.set ?_)
    | (refine Ext.re ?_)
    | split
    | dsimp only)
theorem semArr_ext {E : Env} {o : Oper} {T : TypeId} {x : Operand} {F : RF} : ExtO F (semArr E o T x F) := by
  unfold semArr
  repeat' (first
    | exact ExtO.none
    | exact semPure_ext
    | exact semMove_ext
    | exact putMap_ext
    | (refine ExtO.some ?_)
    | (refine ExtO.map fun _ _ => ?_)
    | (refine ExtO.bind fun _ _ => ?_)
    | exact Ext.refl _
    | (exact tk_ext _ ‹_›)
    | (exact tks_ext _ ‹_›)
    | (exact caps_ext _ ‹_›)
    | (refine Ext.setD ?_)
    | (refine Ext.set ?_)
    | (refine Ext.re ?_)
    | split
    | dsimp only)
theorem semLoadA_ext {E : Env} {o : Oper} {T : TypeId} {x : Operand} {F : RF} : ExtO F (semLoadA E o T x F) := by
  unfold semLoadA
  repeat' (first
    | exact ExtO.none
    | exact semPure_ext
    | exact semMove_ext
    | exact putMap_ext
    | (refine ExtO.some ?_)
    | (refine ExtO.map fun _ _ => ?_)
    | (refine ExtO.bind fun _ _ => ?_)
    | exact Ext.refl _
    | (exact tk_ext _ ‹_›)
    | (exact tks_ext _ ‹_›)
    | (exact caps_ext _ ‹_›)
    | (refine Ext.setD ?_)
    | (refine Ext.set ?_)
    | (refine Ext.re ?_)
    | split
    | dsimp only)
theorem semIndex_ext {E : Env} {o : Oper} {T : TypeId} {x i : Operand} {F : RF} : ExtO F (semIndex E o T x i F) := by
  unfold semIndex
  repeat' (first
    | exact ExtO.none
    | exact semPure_ext
    | exact semMove_ext
    | exact putMap_ext
    | (refine ExtO.some ?_)
    | (refine ExtO.map fun _ _ => ?_)
    | (refine ExtO.bind fun _ _ => ?_)
    | exact Ext.refl _
    | (exact tk_ext _ ‹_›)
    | (exact tks_ext _ ‹_›)
    | (exact caps_ext _ ‹_›)
    | (refine Ext.setD ?_)
    | (refine Ext.set ?_)
    | (refine Ext.re ?_)
    | split
    | dsimp only)
theorem semLookup_ext {E : Env} {o : Oper} {T : TypeId} {x k : Operand} {ok : Bool} {F : RF} : ExtO F (semLookup E o T x k ok F) := by
  unfold semLookup
  repeat' (first
    | exact ExtO.none
    | exact semPure_ext
    | exact semMove_ext
    | exact putMap_ext
    | (refine ExtO.some ?_)
    | (refine ExtO.map fun _ _ => ?_)
    | (refine ExtO.bind fun _ _ => ?_)
    | exact Ext.refl _
    | (exact tk_ext _ ‹_›)
    | (exact tks_ext _ ‹_›)
    | (exact caps_ext _ ‹_›)
    | (refine Ext.setD ?_)
    | (refine Ext.set ?_)
    | (refine Ext.re ?_)
    | split
    | dsimp only)
theorem semMapSet_ext {E : Env} {o : Oper} {T : TypeId} {x k v : Operand} {F : RF} : ExtO F (semMapSet E o T x k v F) := by
  unfold semMapSet
  repeat' (first
    | exact ExtO.none
    | exact semPure_ext
    | exact semMove_ext
    | exact putMap_ext
    | (refine ExtO.some ?_)
    | (refine ExtO.map fun _ _ => ?_)
    | (refine ExtO.bind fun _ _ => ?_)
    | exact Ext.refl _
    | (exact tk_ext _ ‹_›)
    | (exact tks_ext _ ‹_›)
    | (exact caps_ext _ ‹_›)
    | (refine Ext.setD ?_)
    | (refine Ext.set ?_)
    | (refine Ext.re ?_)
    | split
    | dsimp only)
theorem semExtract_ext {E : Env} {o : Oper} {x : Operand} {i : Nat} {F : RF} : ExtO F (semExtract E o x i F) := by
  unfold semExtract
  repeat' (first
    | exact ExtO.none
    | exact semPure_ext
    | exact semMove_ext
    | exact putMap_ext
    | (refine ExtO.some ?_)
    | (refine ExtO.map fun _ _ => ?_)
    | (refine ExtO.bind fun _ _ => ?_)
    | exact Ext.refl _
    | (exact tk_ext _ ‹_›)
    | (exact tks_ext _ ‹_›)
    | (exact caps_ext _ ‹_›)
    | (refine Ext.setD ?_)
    | (refine Ext.set ?_)
    | (refine Ext.re ?_)
    | split
    | dsimp only)
theorem semPick_ext {E : Env} {o : Oper} {c x y : Operand} {F : RF} : ExtO F (semPick E o c x y F) := by
  unfold semPick
  repeat' (first
    | exact ExtO.none
    | exact semPure_ext
    | exact semMove_ext
    | exact putMap_ext
    | (refine ExtO.some ?_)
    | (refine ExtO.map fun _ _ => ?_)
    | (refine ExtO.bind fun _ _ => ?_)
    | exact Ext.refl _
    | (exact tk_ext _ ‹_›)
    | (exact tks_ext _ ‹_›)
    | (exact caps_ext _ ‹_›)
    | (refine Ext.setD ?_)
    | (refine Ext.set ?_)
    | (refine Ext.re ?_)
    | split
    | dsimp only)
theorem semLen_ext {E : Env} {o : Oper} {T : TypeId} {x : Operand} {F : RF} : ExtO F (semLen E o T x F) := by
  unfold semLen
  repeat' (first
    | exact ExtO.none
    | exact semPure_ext
    | exact semMove_ext
    | exact putMap_ext
    | (refine ExtO.some ?_)
    | (refine ExtO.map fun _ _ => ?_)
    | (refine ExtO.bind fun _ _ => ?_)
    | exact Ext.refl _
    | (exact tk_ext _ ‹_›)
    | (exact tks_ext _ ‹_›)
    | (exact caps_ext _ ‹_›)
    | (refine Ext.setD ?_)
    | (refine Ext.set ?_)
    | (refine Ext.re ?_)
    | split
    | dsimp only)
theorem semAppend_ext {E : Env} {o : Oper} {T T2 : TypeId} {x y : Operand} {F : RF} : ExtO F (semAppend E o T T2 x y F) := by
  unfold semAppend
  split
  · split
    · refine .bind fun r hr => .bind fun q hq => ?_
      dsimp only
      split
      · split
        · exact .none
        · exact .some (((fst_ext r hr).trans (snd_ext q hq)).setD)
      · exact .none
    · exact .none
  · exact .none
theorem semCall_ext {E : Env} {o : Oper} {c : Call} {F : RF} : ExtO F (semCall E o c F) := by
  unfold semCall
  repeat' (first
    | exact ExtO.none
    | exact semPure_ext
    | exact semMove_ext
    | exact putMap_ext
    | (refine ExtO.some ?_)
    | (refine ExtO.map fun _ _ => ?_)
    | (refine ExtO.bind fun _ _ => ?_)
    | exact Ext.refl _
    | (exact tk_ext _ ‹_›)
    | (exact tks_ext _ ‹_›)
    | (exact caps_ext _ ‹_›)
    | (refine Ext.setD ?_)
    | (refine Ext.set ?_)
    | (refine Ext.re ?_)
    | split
    | dsimp only)

theorem sem_ext {E : Env} {o : Oper} {F : RF} : ExtO F (sem E o F) := by
  unfold sem
  split
  · exact semMove_ext
  · exact semAssign_ext
  · exact semAlloc_ext
  · exact semBox_ext
  · exact semBuild_ext
  · exact semLit_ext
  · split
    · exact semLoadA_ext
    · exact semLoad_ext
  · exact semArr_ext
  · exact semStore_ext
  · exact semNil_ext
  · exact semConv_ext
  · exact semFunc_ext
  · exact semMakeMap_ext
  · exact semMake_ext
  · exact semSlice_ext
  · exact semField_ext
  · exact semIndex_ext
  · exact semLookup_ext
  · exact semMapSet_ext
  · exact semMapSet_ext
  · exact semExtract_ext
  · exact semPick_ext
  · exact semLen_ext
  · exact semAppend_ext
  · exact semCall_ext
  · exact semPure_ext

theorem step_ext {E : Env} {ops : Array Oper} {o : Oper} {F : RF} : ExtO F (step E ops o F) := by
  unfold step
  split
  · split
    · exact sem_ext
    · split
      · split
        · split
          · split
            · exact sem_ext
            · exact .some (Ext.refl F).setD
          · exact .none
        · exact .none
      · exact .none
  · exact .none
end Go.V
