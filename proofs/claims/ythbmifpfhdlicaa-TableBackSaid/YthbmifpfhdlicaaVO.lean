/- All operations together; a row of them; a function's text. -/
import Derived.Test.YthbmifpfhdlicaaVNa
namespace Go.V
set_option linter.unusedVariables false
set_option linter.unusedSimpArgs false
variable {X : Cx} {Z : Nat → Prop} {w : World} {φ : Tmp → List Nat} {tm : Tmp → Value} {F : RF}

/-- one of two values, by a third -/
def semPick (E : Env) (o : Oper) (c x y : Operand) (F : RF) : Option RF :=
  match E.vl F c with
  | some (.bool b) => (E.vl F (if b = true then x else y)).bind fun v => (ofVal v).map fun z => setD F o.dst (.val z)
  | _ => none
theorem semPick_ok {E : Env} {o : Oper} {a : Act} {F' : RF} {c x y : Operand} (h : Pre E X Z w φ a F) (ho : o.op = .pick c x y) (hs : semPick E o c x y F = some F') :
    Yld E.P o a w (Out X Z w (tmOf E.nt a) o.dst F') := by
  unfold semPick at hs
  split at hs
  case h_2 => cases hs
  rename_i b hc
  simp only [Option.bind_eq_some_iff, Option.map_eq_some_iff] at hs
  obtain ⟨v, hv, z, hz, rfl⟩ := hs
  have hcv := vl_eq h hc
  have hvv := vl_eq h hv
  refine Yld.value (w' := w) (v := v) ?_ ?_
  · unfold execOp; rw [ho]
    cases b with
    | true => simp only [if_true] at hvv; simp [hcv, asBool, hvv]
    | false => simp only [Bool.false_eq_true, if_false] at hvv; simp [hcv, asBool, hvv]
  · obtain ⟨φ', hr⟩ := h.rel.outVal (d := o.dst) (ofVal_rep hz) List.nodup_nil (by simp) (by simp)
    exact ⟨Z, φ', hr, Stp.refl _ _, fun _ _ _ => Iff.rfl⟩

/-- what an operation makes of a frame -/
def sem (E : Env) (o : Oper) (F : RF) : Option RF :=
  match o.op with
  | .move x => semMove E o x F
  | .assign x => semAssign E o x F
  | .alloc T => semAlloc E o T F
  | .box T x => semBox E o T x F
  | .build T ps => semBuild E o T ps.toList F
  | .buildSlice T n ps => semLit E o T n ps.toList F
  | .load T x => if arrLoad E T x F = true then semLoadA E o T x F else semLoad E o T x F
  | .sliceToArrayPointer T x => semArr E o T x F
  | .store T x v => semStore E o T x v F
  | .nilCheck x => semNil E o x F
  | .convert S D x => semConv E o S D x F
  | .makeFunc fn first cap => semFunc E o fn first cap F
  | .makeMap _ r => semMakeMap E o r F
  | .makeSlice T l c => semMake E o T l c F
  | .slice T x l h m => semSlice E o T x l h m F
  | .fieldAddr S x f => semField E o S x f F
  | .indexAddr T x i => semIndex E o T x i F
  | .lookup T x k ok => semLookup E o T x k ok F
  | .mapUpdate T m k v => semMapSet E o T m k v F
  | .insert T m k v => semMapSet E o T m k v F
  | .extract x i => semExtract E o x i F
  | .pick c x y => semPick E o c x y F
  | .call { callee := .builtin .len, args := ⟨[x]⟩, argTypes := ⟨[T]⟩ } => semLen E o T x F
  | .call { callee := .builtin .append, args := ⟨[x, y]⟩, argTypes := ⟨[T, T2]⟩ } => semAppend E o T T2 x y F
  | .call { callee := .value f, args := as, argTypes := ts } => semCall E o { callee := .value f, args := as, argTypes := ts } F
  | _ => semPure E o F

theorem sem_ok {E : Env} (hT : TblOk E) {o : Oper} {a : Act} {F' : RF} (h : Pre E X Z w φ a F) (hs : sem E o F = some F') : Yld E.P o a w (Out X Z w (tmOf E.nt a) o.dst F') := by
  unfold sem at hs
  split at hs
  · exact semMove_ok h ‹_› hs
  · exact semAssign_ok h ‹_› hs
  · exact semAlloc_ok h ‹_› hs
  · exact semBox_ok h ‹_› hs
  · exact semBuild_ok h ‹_› hs
  · exact semLit_ok h ‹_› hs
  · split at hs
    · exact semLoadA_ok h ‹_› hs
    · exact semLoad_ok h ‹_› hs
  · exact semArr_ok h ‹_› hs
  · exact semStore_ok h ‹_› hs
  · exact semNil_ok h ‹_› hs
  · exact semConv_ok h ‹_› hs
  · exact semFunc_ok h ‹_› hs
  · exact semMakeMap_ok h ‹_› hs
  · exact semMake_ok h ‹_› hs
  · exact semSlice_ok h ‹_› hs
  · exact semField_ok h ‹_› hs
  · exact semIndex_ok h ‹_› hs
  · exact semLookup_ok h ‹_› hs
  · exact semMapSet_ok h (.inl ‹_›) hs
  · exact semMapSet_ok h (.inr ‹_›) hs
  · exact semExtract_ok h ‹_› hs
  · exact semPick_ok h ‹_› hs
  · exact semLen_ok h ‹_› hs
  · exact semAppend_ok h ‹_› hs
  · exact semCall_ok hT h ‹_› hs
  · exact semPure_ok h hs

/-- how things stand in the midst of a call -/
structure Inv (E : Env) (X : Cx) (tm0 : Tmp → Value) (w0 : World) (Z0 : Nat → Prop) (F : RF) (a : Act) (w : World) : Prop where
  ex : ∃ Z φ, Pre E X Z w φ a F ∧ ZOk X.mine w0 Z0 Z
  size : a.tmps.size = E.nt
  defers : a.defers = []
  stp : Stp X.mine w0 w
  new : ∀ b, w0.heap.size ≤ b → X.mine b
  pin : ∀ t ∈ E.pin, tmOf E.nt a t = tm0 t
  lone : ∀ r p k n v, ¬ X.gh r p k n v

theorem ZOk.trans {mine : Nat → Prop} {w0 w : World} {Z0 Z Z' : Nat → Prop} (h : ZOk mine w0 Z0 Z) (k : ZOk mine w Z Z') (hs : w0.heap.size ≤ w.heap.size) : ZOk mine w0 Z0 Z' :=
  fun b hb hm => (h b hb hm).trans (k b (by omega) hm)

def dstOk (E : Env) (o : Oper) : Bool := match o.dst with | some t => decide (t < E.nt) && !E.pin.contains t | none => true
/-- one operation of a row, if it is wanted -/
def step (E : Env) (ops : Array Oper) (o : Oper) (F : RF) : Option RF :=
  if dstOk E o = true then
    match o.guard with
    | none => sem E o F
    | some (j, want) => match (ops[j]?).bind (·.dst) with
      | some t => match F.content t with
        | some (.prim (.bool b)) => if t < E.nt then (if b = want then sem E o F else some (setD F o.dst .dead)) else none
        | _ => none
      | none => none
  else none

theorem Inv.out {E : Env} {tm0 : Tmp → Value} {w0 : World} {Z0 : Nat → Prop} {F F' : RF} {a : Act} {o : Oper} {v : Value} {w' : World} (h : Inv E X tm0 w0 Z0 F a w) {Z : Nat → Prop} (hz : ZOk X.mine w0 Z0 Z) (hg : X.G = E.G)
    (hd : dstOk E o = true) (ho : Out X Z w (tmOf E.nt a) o.dst F' v w') : Inv E X tm0 w0 Z0 F' (a.put o.dst v) w' := by
  obtain ⟨Z', φ', hr, hs, hz'⟩ := ho
  have hput := tmOf_put (nt := E.nt) (a := a) (d := o.dst) (v := v) (fun t ht => by simp only [dstOk, ht, Bool.and_eq_true, decide_eq_true_eq] at hd; exact hd.1) h.size
  refine ⟨⟨Z', φ', ⟨by rw [hput]; exact hr, fun b hb => h.new b (Nat.le_trans (Nat.le_trans h.stp.size hs.size) hb), hg⟩, hz.trans hz' h.stp.size⟩, ?_, ?_, h.stp.trans hs, h.new, ?_, h.lone⟩
  · have := h.size; cases hdd : o.dst <;> simp [Act.put, this]
  · have := h.defers; cases hdd : o.dst <;> simp [Act.put, this]
  · intro t ht
    rw [hput, ← h.pin t ht]
    cases hdd : o.dst with
    | none => rfl
    | some d =>
      simp only [dstOk, hdd, Bool.and_eq_true, Bool.not_eq_true'] at hd
      have hne : t ≠ d := by rintro rfl; have := hd.2; rw [List.contains_eq_mem] at this; simp [ht] at this
      simp only [tput]; exact upd_ne _ _ hne

theorem step_ok {E : Env} (hT : TblOk E) {tm0 : Tmp → Value} {w0 : World} {Z0 : Nat → Prop} {ops : Array Oper} {o : Oper} {a : Act} {F' : RF} {K : Act → World → Prop} {Q : Exit → Act → World → Prop} (h : Inv E X tm0 w0 Z0 F a w) (hs : step E ops o F = some F')
    (hK : ∀ a' w', Inv E X tm0 w0 Z0 F' a' w' → K a' w') : if Region.wanted o (yielded ops a.tmps) then o.wp E.P a w K Q else K (a.put o.dst undef) w := by
  obtain ⟨Z, φ, hp, hz⟩ := h.ex
  unfold step at hs
  split at hs
  case isFalse => cases hs
  case isTrue hd =>
  have run : sem E o F = some F' → o.wp E.P a w K Q := fun hs => sem_ok hT hp hs K Q fun v w' ho => hK _ _ (h.out hz hp.glob hd ho)
  split at hs
  · rename_i hg
    rw [if_pos (by simp [Region.wanted, hg])]
    exact run hs
  · rename_i j want hg
    split at hs
    case h_2 => cases hs
    rename_i t ht
    split at hs
    case h_2 => cases hs
    rename_i b hc
    split at hs
    case isFalse => cases hs
    case isTrue htn =>
    obtain ⟨φy, hr, _⟩ := hp.rel.content hc
    rw [RepV_cell rfl] at hr
    simp only [Rep] at hr
    have hv : tmOf E.nt a t = .bool b := by simpa using hr.2.1
    have hy : yielded ops a.tmps j = some b := by
      have h1 : a.tmps[t]? = some (.bool b) := by
        simp only [tmOf, htn, if_true, Array.getD_eq_getD_getElem?] at hv
        have : t < a.tmps.size := by rw [h.size]; exact htn
        rw [Array.getElem?_eq_getElem this] at hv ⊢
        simpa using hv
      simp [yielded, ht, h1]
    by_cases hw : b = want
    · rw [if_pos hw] at hs
      rw [if_pos (by simp [Region.wanted, hg, hy, hw])]
      exact run hs
    · rw [if_neg hw] at hs
      obtain rfl := Option.some.inj hs
      rw [if_neg (by simp [Region.wanted, hg, hy, hw])]
      refine hK _ _ (h.out hz hp.glob hd ?_)
      cases hdd : o.dst with
      | none => exact ⟨Z, φ, by simpa [tput, setD] using hp.rel, Stp.refl _ _, fun _ _ _ => Iff.rfl⟩
      | some d => exact ⟨Z, _, hp.rel.setDead d undef, Stp.refl _ _, fun _ _ _ => Iff.rfl⟩

/-- a row of operations, one behind the other -/
def runS (E : Env) (ops : Array Oper) : List Oper → RF → Option RF
  | [], F => some F
  | o :: os, F => (step E ops o F).bind fun F' => runS E ops os F'

theorem runS_ok {E : Env} (hT : TblOk E) {tm0 : Tmp → Value} {w0 : World} {Z0 : Nat → Prop} {ops : Array Oper} {Q : Exit → Act → World → Prop} : ∀ (os : List Oper) (F F' : RF) (a : Act) (w : World), Inv E X tm0 w0 Z0 F a w → runS E ops os F = some F' →
    (∀ a' w', Inv E X tm0 w0 Z0 F' a' w' → Q .normal a' w') → wpList E.P ops Q os a w
  | [], F, F', a, w, h, hs, hQ => by
    simp only [runS, Option.some.injEq] at hs; subst hs; exact hQ a w h
  | o :: os, F, F', a, w, h, hs, hQ => by
    simp only [runS, Option.bind_eq_some_iff] at hs
    obtain ⟨F1, h1, h2⟩ := hs
    exact wpList_step fun K hK => step_ok hT h h1 fun a' w' hi => hK a' w' (runS_ok hT os F1 F' a' w' hi h2 hQ)
end Go.V
