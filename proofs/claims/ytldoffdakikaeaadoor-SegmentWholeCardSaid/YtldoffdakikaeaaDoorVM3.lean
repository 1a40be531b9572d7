/- All operations together; a row of them; a function's text. -/
import Derived.Test.YtldoffdakikaeaaDoorVM2
import Derived.Laws.Cover3
import Derived.Laws.BitsLemmas
namespace Go.V
set_option linter.unusedVariables false
set_option linter.unusedSimpArgs false
variable {X : Cx} {Z : Nat → Prop} {w : World} {φ : Tmp → List Nat} {tm : Tmp → Value} {F : RF}

/-- one of two values, by a third -/
def semPick (E : Env) (o : Oper) (c x y : Operand) (F : RF) : Option RF :=
  match E.vl F c with
  | some (.bool b) => (E.vl F (if b = true then x else y)).bind fun v => (ofVal v).map fun z => setD F o.dst (.val z)
  | _ => none
theorem semPick_ok {E : Env} {o : Oper} {a : Act} {F' : RF} {c x y : Operand} (h : Pre E X Z w φ a F) (ho : o.op = .pick c x y) (hs : semPick E o c x y F = some F') :
    Yld E.P o a w (Out X Z w (tmOf E.nt a) o.dst F') := by
  unfold semPick at hs
  split at hs
  case h_2 => cases hs
  rename_i b hc
  simp only [Option.bind_eq_some_iff, Option.map_eq_some_iff] at hs
  obtain ⟨v, hv, z, hz, rfl⟩ := hs
  have hcv := vl_eq h hc
  have hvv := vl_eq h hv
  refine Yld.value (w' := w) (v := v) ?_ ?_
  · unfold execOp; rw [ho]
    cases b with
    | true => simp only [if_true] at hvv; simp [hcv, asBool, hvv]
    | false => simp only [Bool.false_eq_true, if_false] at hvv; simp [hcv, asBool, hvv]
  · obtain ⟨φ', hr⟩ := h.rel.outVal (d := o.dst) (ofVal_rep hz) List.nodup_nil (by simp) (by simp)
    exact ⟨Z, φ', hr, Stp.refl _ _, fun _ _ _ => Iff.rfl⟩

/-- what an operation makes of a frame -/
def sem (E : Env) (o : Oper) (F : RF) : Option RF :=
  match o.op with
  | .move x => semMove E o x F
  | .assign x => semAssign E o x F
  | .alloc T => semAlloc E o T F
  | .box T x => semBox E o T x F
  | .build T ps => semBuild E o T ps.toList F
  | .buildSlice T n ps => semLit E o T n ps.toList F
  | .load T x => if arrLoad E T x F = true then semLoadA E o T x F else semLoad E o T x F
  | .sliceToArrayPointer T x => semArr E o T x F
  | .store T x v => semStore E o T x v F
  | .nilCheck x => semNil E o x F
  | .convert S D x => semConv E o S D x F
  | .makeFunc fn first cap => semFunc E o fn first cap F
  | .makeMap _ r => semMakeMap E o r F
  | .makeSlice T l c => semMake E o T l c F
  | .slice T x l h m => semSlice E o T x l h m F
  | .fieldAddr S x f => semField E o S x f F
  | .indexAddr T x i => semIndex E o T x i F
  | .lookup T x k ok => semLookup E o T x k ok F
  | .mapUpdate T m k v => semMapSet E o T m k v F
  | .insert T m k v => semMapSet E o T m k v F
  | .extract x i => semExtract E o x i F
  | .pick c x y => semPick E o c x y F
  | .call { callee := .builtin .len, args := ⟨[x]⟩, argTypes := ⟨[T]⟩ } => semLen E o T x F
  | .call { callee := .builtin .append, args := ⟨[x, y]⟩, argTypes := ⟨[T, T2]⟩ } => semAppend E o T T2 x y F
  | .call { callee := .value f, args := as, argTypes := ts } => semCall E o { callee := .value f, args := as, argTypes := ts } F
  | _ => semPure E o F

theorem sem_ok {E : Env} (hT : TblOk E) {o : Oper} {a : Act} {F' : RF} (h : Pre E X Z w φ a F) (hs : sem E o F = some F') : Yld E.P o a w (Out X Z w (tmOf E.nt a) o.dst F') := by
  unfold sem at hs
  split at hs
  · exact semMove_ok h ‹_› hs
  · exact semAssign_ok h ‹_› hs
  · exact semAlloc_ok h ‹_› hs
  · exact semBox_ok h ‹_› hs
  · exact semBuild_ok h ‹_› hs
  · exact semLit_ok h ‹_› hs
  · split at hs
    · exact semLoadA_ok h ‹_› hs
    · exact semLoad_ok h ‹_› hs
  · exact semArr_ok h ‹_› hs
  · exact semStore_ok h ‹_› hs
  · exact semNil_ok h ‹_› hs
  · exact semConv_ok h ‹_› hs
  · exact semFunc_ok h ‹_› hs
  · exact semMakeMap_ok h ‹_› hs
  · exact semMake_ok h ‹_› hs
  · exact semSlice_ok h ‹_› hs
  · exact semField_ok h ‹_› hs
  · exact semIndex_ok h ‹_› hs
  · exact semLookup_ok h ‹_› hs
  · exact semMapSet_ok h (.inl ‹_›) hs
  · exact semMapSet_ok h (.inr ‹_›) hs
  · exact semExtract_ok h ‹_› hs
  · exact semPick_ok h ‹_› hs
  · exact semLen_ok h ‹_› hs
  · exact semAppend_ok h ‹_› hs
  · exact semCall_ok hT h ‹_› hs
  · exact semPure_ok h hs

/-- how things stand in the midst of a call -/
structure Inv (E : Env) (X : Cx) (tm0 : Tmp → Value) (w0 : World) (Z0 : Nat → Prop) (F : RF) (a : Act) (w : World) : Prop where
  ex : ∃ Z φ, Pre E X Z w φ a F ∧ ZOk X.mine w0 Z0 Z
  size : a.tmps.size = E.nt
  defers : a.defers = []
  stp : Stp X.mine w0 w
  new : ∀ b, w0.heap.size ≤ b → X.mine b
  pin : ∀ t ∈ E.pin, tmOf E.nt a t = tm0 t
  lone : ∀ r p k n v, ¬ X.gh r p k n v

theorem ZOk.trans {mine : Nat → Prop} {w0 w : World} {Z0 Z Z' : Nat → Prop} (h : ZOk mine w0 Z0 Z) (k : ZOk mine w Z Z') (hs : w0.heap.size ≤ w.heap.size) : ZOk mine w0 Z0 Z' :=
  fun b hb hm => (h b hb hm).trans (k b (by omega) hm)

def dstOk (E : Env) (o : Oper) : Bool := match o.dst with | some t => decide (t < E.nt) && !E.pin.contains t | none => true
/-- one operation of a row, if it is wanted -/
def step (E : Env) (ops : Array Oper) (o : Oper) (F : RF) : Option RF :=
  if dstOk E o = true then
    match o.guard with
    | none => sem E o F
    | some (j, want) => match (ops[j]?).bind (·.dst) with
      | some t => match F.content t with
        | some (.prim (.bool b)) => if t < E.nt then (if b = want then sem E o F else some (setD F o.dst (.val (.tup [])))) else none
        | some (.tup []) => if t < E.nt then some (setD F o.dst (.val (.tup []))) else none
        | _ => none
      | none => none
  else none

theorem Inv.out {E : Env} {tm0 : Tmp → Value} {w0 : World} {Z0 : Nat → Prop} {F F' : RF} {a : Act} {o : Oper} {v : Value} {w' : World} (h : Inv E X tm0 w0 Z0 F a w) {Z : Nat → Prop} (hz : ZOk X.mine w0 Z0 Z) (hg : X.G = E.G)
    (hd : dstOk E o = true) (ho : Out X Z w (tmOf E.nt a) o.dst F' v w') : Inv E X tm0 w0 Z0 F' (a.put o.dst v) w' := by
  obtain ⟨Z', φ', hr, hs, hz'⟩ := ho
  have hput := tmOf_put (nt := E.nt) (a := a) (d := o.dst) (v := v) (fun t ht => by simp only [dstOk, ht, Bool.and_eq_true, decide_eq_true_eq] at hd; exact hd.1) h.size
  refine ⟨⟨Z', φ', ⟨by rw [hput]; exact hr, fun b hb => h.new b (Nat.le_trans (Nat.le_trans h.stp.size hs.size) hb), hg⟩, hz.trans hz' h.stp.size⟩, ?_, ?_, h.stp.trans hs, h.new, ?_, h.lone⟩
  · have := h.size; cases hdd : o.dst <;> simp [Act.put, this]
  · have := h.defers; cases hdd : o.dst <;> simp [Act.put, this]
  · intro t ht
    rw [hput, ← h.pin t ht]
    cases hdd : o.dst with
    | none => rfl
    | some d =>
      simp only [dstOk, hdd, Bool.and_eq_true, Bool.not_eq_true'] at hd
      have hne : t ≠ d := by rintro rfl; have := hd.2; rw [List.contains_eq_mem] at this; simp [ht] at this
      simp only [tput]; exact upd_ne _ _ hne

theorem step_ok {E : Env} (hT : TblOk E) {tm0 : Tmp → Value} {w0 : World} {Z0 : Nat → Prop} {ops : Array Oper} {o : Oper} {a : Act} {F' : RF} {K : Act → World → Prop} {Q : Exit → Act → World → Prop} (h : Inv E X tm0 w0 Z0 F a w) (hs : step E ops o F = some F')
    (hK : ∀ a' w', Inv E X tm0 w0 Z0 F' a' w' → K a' w') : if Region.wanted o (yielded ops a.tmps) then o.wp E.P a w K Q else K (a.put o.dst undef) w := by
  obtain ⟨Z, φ, hp, hz⟩ := h.ex
  unfold step at hs
  split at hs
  case isFalse => cases hs
  case isTrue hd =>
  have run : sem E o F = some F' → o.wp E.P a w K Q := fun hs => sem_ok hT hp hs K Q fun v w' ho => hK _ _ (h.out hz hp.glob hd ho)
  split at hs
  · rename_i hg
    rw [if_pos (by simp [Region.wanted, hg])]
    exact run hs
  · rename_i j want hg
    split at hs
    case h_2 => cases hs
    rename_i t ht
    have skip : Out X Z w (tmOf E.nt a) o.dst (setD F o.dst (.val (.tup []))) undef w := by
      obtain ⟨φ', hr⟩ := hp.rel.outVal (d := o.dst) (x := .tup []) (v := undef) (φx := []) (RepV_tup.2 ⟨[], rfl, by simp [RepTs]⟩) List.nodup_nil (by simp) (by simp)
      exact ⟨Z, φ', hr, Stp.refl _ _, fun _ _ _ => Iff.rfl⟩
    split at hs
    case h_3 => cases hs
    · rename_i b hc
      split at hs
      case isFalse => cases hs
      case isTrue htn =>
      obtain ⟨φy, hr, _⟩ := hp.rel.content hc
      rw [RepV_cell rfl] at hr
      simp only [Rep] at hr
      have hv : tmOf E.nt a t = .bool b := by simpa using hr.2.1
      have hy : yielded ops a.tmps j = some b := by
        have h1 : a.tmps[t]? = some (.bool b) := by
          simp only [tmOf, htn, if_true, Array.getD_eq_getD_getElem?] at hv
          have : t < a.tmps.size := by rw [h.size]; exact htn
          rw [Array.getElem?_eq_getElem this] at hv ⊢
          simpa using hv
        simp [yielded, ht, h1]
      by_cases hw : b = want
      · rw [if_pos hw] at hs
        rw [if_pos (by simp [Region.wanted, hg, hy, hw])]
        exact run hs
      · rw [if_neg hw] at hs
        obtain rfl := Option.some.inj hs
        rw [if_neg (by simp [Region.wanted, hg, hy, hw])]
        refine hK _ _ (h.out hz hp.glob hd ?_)
        exact skip
    · rename_i hc
      split at hs
      case isFalse => cases hs
      case isTrue htn =>
      obtain ⟨φy, hr, _⟩ := hp.rel.content hc
      rw [RepV_tup] at hr
      obtain ⟨vs, hv, hr⟩ := hr
      simp only [RepTs] at hr
      obtain rfl := hr.2
      have hy : yielded ops a.tmps j = none := by
        have h1 : a.tmps[t]? = some (.tuple #[]) := by
          simp only [tmOf, htn, if_true, Array.getD_eq_getD_getElem?] at hv
          have : t < a.tmps.size := by rw [h.size]; exact htn
          rw [Array.getElem?_eq_getElem this] at hv ⊢
          simpa using hv
        simp [yielded, ht, h1]
      obtain rfl := Option.some.inj hs
      rw [if_neg (by simp [Region.wanted, hg, hy])]
      refine hK _ _ (h.out hz hp.glob hd ?_)
      exact skip

/-- a row of operations, one behind the other -/
def runS (E : Env) (ops : Array Oper) : List Oper → RF → Option RF
  | [], F => some F
  | o :: os, F => (step E ops o F).bind fun F' => runS E ops os F'

theorem runS_ok {E : Env} (hT : TblOk E) {tm0 : Tmp → Value} {w0 : World} {Z0 : Nat → Prop} {ops : Array Oper} {Q : Exit → Act → World → Prop} : ∀ (os : List Oper) (F F' : RF) (a : Act) (w : World), Inv E X tm0 w0 Z0 F a w → runS E ops os F = some F' →
    (∀ a' w', Inv E X tm0 w0 Z0 F' a' w' → Q .normal a' w') → wpList E.P ops Q os a w
  | [], F, F', a, w, h, hs, hQ => by
    simp only [runS, Option.some.injEq] at hs; subst hs; exact hQ a w h
  | o :: os, F, F', a, w, h, hs, hQ => by
    simp only [runS, Option.bind_eq_some_iff] at hs
    obtain ⟨F1, h1, h2⟩ := hs
    exact wpList_step fun K hK => step_ok hT h h1 fun a' w' hi => hK a' w' (runS_ok hT os F1 F' a' w' hi h2 hQ)
end Go.V
/- A function's text: what it makes of frames; that the program does so. -/
namespace Go.V
set_option linter.unusedVariables false
set_option linter.unusedSimpArgs false
variable {X : Cx} {Z : Nat → Prop} {w : World} {φ : Tmp → List Nat} {tm : Tmp → Value} {F : RF}

/-! ### What is kept between rows -/
def View.zero : View → View
  | .cells i o n _ => .cells i o n 0
  | k => k
def RF.kept (F : RF) (keep : List Tmp) (t : Tmp) : Slot :=
  match F.slot t with
  | .pl r p k n => if F.ok r k n = true ∧ keep.contains r = true then .pl r p k.zero 0 else .dead
  | s => s
def RF.prune (F : RF) (keep : List Tmp) : RF := keep.map fun t => (t, F.kept keep t, 0, 0)
theorem find_map {f : Tmp → Slot} : ∀ {keep : List Tmp} {t : Tmp}, RF.find (keep.map fun t => (t, f t, 0, 0)) t = if t ∈ keep then (f t, 0, 0) else (.dead, 0, 0)
  | [], t => by simp [RF.find]
  | u :: keep, t => by
    simp only [List.map_cons, RF.find, List.mem_cons]
    by_cases h : t = u
    · subst h; simp
    · rw [if_neg h, find_map]; simp [h]
theorem slot_prune {keep : List Tmp} {t : Tmp} : (F.prune keep).slot t = if t ∈ keep then F.kept keep t else .dead := by
  simp only [RF.slot, RF.prune, find_map]; split <;> rfl
theorem ver_prune {keep : List Tmp} {t : Tmp} : (F.prune keep).ver t = 0 := by
  simp only [RF.ver, RF.prune, find_map]; split <;> rfl
theorem cnt_prune {keep : List Tmp} {t : Tmp} : (F.prune keep).cnt t = 0 := by
  simp only [RF.cnt, RF.prune, find_map]; split <;> rfl
theorem viewOk_zero {y : PV} {u v : Value} {k : View} : viewOk w y u k.zero v ↔ viewOk w y u k v := by cases k <;> exact Iff.rfl

theorem Rel.prune (h : Rel X Z w φ tm F) (keep : List Tmp) (hl : ∀ r p k n v, ¬ X.gh r p k n v) : Rel X Z w (fun t => if t ∈ keep then φ t else []) tm (F.prune keep) where
  nodup t := by by_cases e : t ∈ keep <;> simp [e, h.nodup]
  disj t u b := by
    by_cases e : t ∈ keep <;> by_cases e' : u ∈ keep <;> simp only [e, e', if_true, if_false]
    · exact h.disj t u b
    · intro _ h; simp at h
    · intro h; simp at h
    · intro h; simp at h
  mine t b := by
    by_cases e : t ∈ keep <;> simp only [e, if_true, if_false]
    · exact h.mine t b
    · intro h; simp at h
  vals t x hs := by
    rw [slot_prune] at hs
    split at hs
    · rename_i e
      simp only [e, if_true]
      unfold RF.kept at hs
      split at hs
      · split at hs <;> cases hs
      · exact h.vals t x hs
    · cases hs
  rest t hs := by
    by_cases e : t ∈ keep
    · simp only [e, if_true]
      refine h.rest t (fun x hx => hs x ?_)
      rw [slot_prune, if_pos e]; unfold RF.kept; rw [hx]
    · simp [e]
  vle t r p k n hs := by
    rw [slot_prune] at hs
    split at hs
    · unfold RF.kept at hs
      split at hs
      · split at hs
        · simp only [Slot.pl.injEq] at hs; omega
        · cases hs
      · rename_i hne; exact absurd hs (hne r p k n)
    · cases hs
  pls t r p k n hs hok := by
    rw [slot_prune] at hs
    split at hs
    · unfold RF.kept at hs
      split at hs
      · rename_i r' p' k' n' hsl
        split at hs
        · rename_i hc
          simp only [Slot.pl.injEq] at hs
          obtain ⟨rfl, rfl, rfl, rfl⟩ := hs
          obtain ⟨x, y, u, hx, hf, hv⟩ := h.pls t r' p' k' n' hsl hc.1
          have hr : r' ∈ keep := by have := hc.2; rw [List.contains_eq_mem] at this; simpa using this
          exact ⟨x, y, u, by rw [slot_prune, if_pos hr]; unfold RF.kept; rw [hx], hf, viewOk_zero.2 hv⟩
        · cases hs
      · rename_i hne; exact absurd hs (hne r p k n)
    · cases hs
  glob := h.glob
  gle r p k n v hs := absurd hs (hl r p k n v)
  gpl r p k n v hs := absurd hs (hl r p k n v)

theorem Inv.prune {E : Env} {tm0 : Tmp → Value} {w0 : World} {Z0 : Nat → Prop} {a : Act} (h : Inv E X tm0 w0 Z0 F a w) (keep : List Tmp) : Inv E X tm0 w0 Z0 (F.prune keep) a w := by
  obtain ⟨Z, φ, hp, hz⟩ := h.ex
  exact ⟨⟨Z, _, ⟨hp.rel.prune keep h.lone, hp.new, hp.glob⟩, hz⟩, h.size, h.defers, h.stp, h.new, h.pin, h.lone⟩

/-! ### A function's text -/
/-- rows whose order is drawn: told elsewhere -/
def runR (E : Env) (D : Array Oper → RF → Option RF) (ops : Array Oper) (draw : Bool) (F : RF) : Option RF := if draw = true then D ops F else runS E ops ops.toList F

def itr (body : (Exit → RF → Prop) → RF → Prop) (K : Exit → RF → Prop) : Nat → RF → Prop
  | 0, _ => False
  | n + 1, F => body (fun e F' => match e with | .normal => itr body K n F' | e => K e F') F

/-- whether a row's last operation asks if a slice is nil: of an empty one both answers may be -/
def nilLast (E : Env) (ops : List Oper) (F : RF) (k : RF → Prop) : Prop :=
  ∃ os o d T x S f sz xs e F1, ops = os ++ [o] ∧ o.op = .binOp .eql T x (.const (.slice none 0 0)) S ∧ o.guard = none ∧ o.dst = some d ∧ dstOk E o = true ∧ E.P.underlying T = some (.slice e) ∧
    runS E ops.toArray os F = some F1 ∧ E.rd F1 T x = some (.sl f sz xs) ∧ ∀ b : Bool, (b = true → xs = []) → k (F1.set d (.val (.prim (.bool b))))

def wpx (E : Env) (D : Array Oper → RF → Option RF) : Code → (Exit → RF → Prop) → RF → Prop
  | .skip, K, F => K .normal F
  | .region id ops dr, K, F => match runR E D ops dr F with
    | some F' => K .normal (F'.prune (E.keep id))
    | none => dr = false ∧ nilLast E ops.toList F (fun F' => K .normal (F'.prune (E.keep id)))
  | .seq a b, K, F => wpx E D a (fun e F' => match e with | .normal => wpx E D b K F' | e => K e F') F
  | .cond c a b, K, F => match E.vl F c with
    | some (.bool t) => if t = true then wpx E D a K F else wpx E D b K F
    | _ => False
  | .block id c, K, F => wpx E D c (fun e F' => match e with | .exit i => if i = id then K .normal F' else K (.exit i) F' | e => K e F') F
  | .loop c, K, F => ∃ n, itr (wpx E D c) K n F
  | .exit id, K, F => K (.exit id) F
  | .ret, K, F => K .ret F
  | _, _, _ => False

theorem least {p : Nat → Prop} : ∀ n, p n → ∃ m, p m ∧ ∀ k, k < m → ¬ p k := by
  intro n
  induction n using Nat.strongRecOn with
  | _ n ih =>
    intro hn
    by_cases h : ∃ k, k < n ∧ p k
    · obtain ⟨k, hk, hp⟩ := h; exact ih k hk hp
    · exact ⟨n, hn, fun k hk hp => h ⟨k, hk, hp⟩⟩

theorem wp_loop_n {P : Program} {c : Code} {Q : Exit → Act → World → Prop} (S : Nat → Act → World → Prop)
    (round : ∀ n a w, S n a w → c.wp P (Exit.then (fun a' w' => ∃ m, m < n ∧ S m a' w') Q) a w) {n : Nat} {a : Act} {w : World} (h : S n a w) : (Code.loop c).wp P Q a w := by
  have hex : ∀ a w, (∃ n, S n a w) → ∃ m, S m a w ∧ ∀ k, k < m → ¬ S k a w := fun a w ⟨n, hn⟩ => least n hn
  refine wp_loop (fun a w => ∃ n, S n a w) (fun a w => @dite _ (∃ n, S n a w) (Classical.propDecidable _) (fun h => Classical.choose (hex a w h)) (fun _ => 0)) ⟨n, h⟩ ?_
  intro a w ha
  obtain ⟨h1, h2⟩ := Classical.choose_spec (hex a w ha)
  refine wp_mono (round _ a w h1) ?_
  intro e a' w' hq
  cases e with
  | normal =>
    obtain ⟨m, hm, hS⟩ := hq
    refine ⟨⟨m, hS⟩, ?_⟩
    simp only [dif_pos ha, dif_pos (⟨m, hS⟩ : ∃ n, S n a' w')]
    obtain ⟨k1, k2⟩ := Classical.choose_spec (hex a' w' ⟨m, hS⟩)
    exact Nat.lt_of_le_of_lt (Nat.le_of_not_lt fun hlt => k2 m hlt hS) hm
  | _ => exact hq

/-- rows whose order is drawn are told soundly -/
def DrawOk (E : Env) (D : Array Oper → RF → Option RF) : Prop :=
  ∀ (X : Cx) (tm0 : Tmp → Value) (w0 : World) (Z0 : Nat → Prop) (ops : Array Oper) (id : Nat) (F F' : RF) (a : Act) (w : World) (Q : Exit → Act → World → Prop), Inv E X tm0 w0 Z0 F a w → D ops F = some F' →
    (∀ a' w', Inv E X tm0 w0 Z0 F' a' w' → Q .normal a' w') → (Code.region id ops true).wp E.P Q a w

theorem runS_app {E : Env} (hT : TblOk E) {tm0 : Tmp → Value} {w0 : World} {Z0 : Nat → Prop} {ops : Array Oper} {Q : Exit → Act → World → Prop} {rest : List Oper} : ∀ (os : List Oper) (F F' : RF) (a : Act) (w : World), Inv E X tm0 w0 Z0 F a w → runS E ops os F = some F' →
    (∀ a' w', Inv E X tm0 w0 Z0 F' a' w' → wpList E.P ops Q rest a' w') → wpList E.P ops Q (os ++ rest) a w
  | [], F, F', a, w, h, hs, hQ => by
    simp only [runS, Option.some.injEq] at hs; subst hs; exact hQ a w h
  | o :: os, F, F', a, w, h, hs, hQ => by
    simp only [runS, Option.bind_eq_some_iff] at hs
    obtain ⟨F1, h1, h2⟩ := hs
    exact wpList_step fun K hK => step_ok hT h h1 fun a' w' hi => hK a' w' (runS_app hT os F1 F' a' w' hi h2 hQ)

theorem wpx_ok {E : Env} (hT : TblOk E) {D : Array Oper → RF → Option RF} (hD : DrawOk E D) {tm0 : Tmp → Value} {w0 : World} {Z0 : Nat → Prop} : ∀ (c : Code) (K : Exit → RF → Prop) (F : RF) (a : Act) (w : World)
    (Q : Exit → Act → World → Prop), Inv E X tm0 w0 Z0 F a w → wpx E D c K F → (∀ e F' a' w', K e F' → Inv E X tm0 w0 Z0 F' a' w' → Q e a' w') → c.wp E.P Q a w := by
  intro c
  induction c with
  | skip => intro K F a w Q h hw hQ; exact wp_skip (hQ _ _ _ _ hw h)
  | region id ops dr =>
    intro K F a w Q h hw hQ
    simp only [wpx] at hw
    split at hw
    case h_2 =>
      obtain ⟨rfl, os, o, d, T, x, S, f, sz, xs, e, F1, ho, hop, hg, hd, hdo, hu, hr, hrd, hb⟩ := hw
      refine wp_region_list ?_
      rw [ho]
      have hr' : runS E ops os F = some F1 := by simpa using hr
      refine runS_app hT os F F1 a w h hr' fun a' w' hi => wpList_step fun K hK => ?_
      rw [if_pos (by simp [Region.wanted, hg])]
      obtain ⟨Z, φ, hp, hz⟩ := hi.ex
      obtain ⟨φy, hrep, _⟩ := rd_rep hp hrd
      rw [RepV_cell rfl] at hrep
      simp only [Rep] at hrep
      obtain ⟨ad, cap, ψ, ch, hv, _, _, _, hor⟩ := hrep
      have hv : a'.eval x = .slice ad xs.length cap := by simpa using hv
      have hex : ∃ b : Bool, (b = true → xs = []) ∧ (execOp a'.eval o).run E.P w' = .ok (.value (.bool b)) w' := by
        refine ⟨ad.isNone, ?_, ?_⟩
        · intro hn
          rcases hor with ⟨h1, _⟩ | ⟨b, off, cs, T', fr, rfl, _⟩
          · exact h1
          · cases hn
        · unfold execOp; rw [hop]
          have hq := run_equal_slice_nil (P := E.P) w' T e ad xs.length cap hu
          have hg : eqGuard .eql T x (.const (.slice none 0 0)) (.slice ad xs.length cap) (.slice none 0 0) = pure () := rfl
          have hbin : binOp .eql T (.slice ad xs.length cap) (.slice none 0 0) = (do pure (.bool (← Op.equal T (.slice ad xs.length cap) (.slice none 0 0)))) := rfl
          have hc : a'.eval (.const (.slice none 0 0)) = .slice none 0 0 := rfl
          simp only [hv, hc, hg, hbin, Sem.run_bind, Sem.run_pure, Result.andThen_ok, hq]
      obtain ⟨b, hbx, hrun⟩ := hex
      have hy : Yld E.P o a' w' (Out X Z w' (tmOf E.nt a') o.dst (F1.set d (.val (.prim (.bool b))))) := by
        refine Yld.value hrun ?_
        obtain ⟨φ', hr2⟩ := hp.rel.outVal (d := o.dst) (x := .prim (.bool b)) (v := .bool b) (φx := []) ((RepV_cell rfl).2 (by simp [Rep, flat])) List.nodup_nil (by simp) (by simp)
        rw [hd] at hr2 ⊢
        exact ⟨Z, φ', hr2, Stp.refl _ _, fun _ _ _ => Iff.rfl⟩
      exact hy K Q fun v w'' hout => hK _ _ (wpList_nil (hQ _ _ _ _ (hb b hbx) ((hi.out hz hp.glob hdo hout).prune _)))
    rename_i F' hr
    unfold runR at hr
    cases dr with
    | false =>
      simp only [Bool.false_eq_true, if_false] at hr
      exact wp_region_list (runS_ok hT _ F F' a w h hr fun a' w' hi => hQ _ _ _ _ hw (hi.prune _))
    | true =>
      simp only [if_true] at hr
      exact hD X tm0 w0 Z0 ops id F F' a w Q h hr fun a' w' hi => hQ _ _ _ _ hw (hi.prune _)
  | seq x y ihx ihy =>
    intro K F a w Q h hw hQ
    refine wp_seq (ihx _ F a w _ h hw ?_)
    intro e F' a' w' hk hi
    cases e with
    | normal => exact ihy K F' a' w' Q hi hk hQ
    | _ => exact hQ _ _ _ _ hk hi
  | cond c x y ihx ihy =>
    intro K F a w Q h hw hQ
    simp only [wpx] at hw
    split at hw
    case h_2 => exact hw.elim
    rename_i t hc
    obtain ⟨Z, φ, hp, hz⟩ := h.ex
    refine wp_cond (vl_eq hp hc) ?_
    cases t with
    | true => exact ihx K F a w Q h (by simpa using hw) hQ
    | false => exact ihy K F a w Q h (by simpa using hw) hQ
  | block id c ih =>
    intro K F a w Q h hw hQ
    refine wp_block (ih _ F a w _ h hw ?_)
    intro e F' a' w' hk hi
    cases e with
    | exit i =>
      simp only [Exit.inBlock] at hk ⊢
      split
      · rename_i e; rw [if_pos e] at hk; exact hQ _ _ _ _ hk hi
      · rename_i e; rw [if_neg e] at hk; exact hQ _ _ _ _ hk hi
    | _ => exact hQ _ _ _ _ hk hi
  | loop c ih =>
    intro K F a w Q h hw hQ
    simp only [wpx] at hw
    obtain ⟨n, hn⟩ := hw
    refine wp_loop_n (fun n a w => ∃ F, Inv E X tm0 w0 Z0 F a w ∧ itr (wpx E D c) K n F) ?_ (n := n) ⟨F, h, hn⟩
    rintro n a w ⟨F, hi, hn⟩
    cases n with
    | zero => exact hn.elim
    | succ n =>
      refine ih _ F a w _ hi hn ?_
      intro e F' a' w' hk hi'
      cases e with
      | normal => exact ⟨n, Nat.lt_succ_self n, F', hi', hk⟩
      | _ => exact hQ _ _ _ _ hk hi'
  | exit id => intro K F a w Q h hw hQ; exact wp_exit (hQ _ _ _ _ hw h)
  | ret => intro K F a w Q h hw hQ; exact wp_ret (hQ _ _ _ _ hw h)
  | _ => intro K F a w Q h hw hQ; exact hw.elim

/-! ### Results -/
def finR (E : Env) : RF → List ResultVar → Option (List PV × RF)
  | F, [] => some ([], F)
  | F, .tmp t :: rs => (E.tk F 0 (.tmp t)).bind fun r => if r.1.notTup = true then (finR E r.2 rs).map fun q => (r.1 :: q.1, q.2) else none
  | F, .cell t T :: rs =>
    if t < E.nt ∧ tyOk E.P T = true then
      match F.slot t with
      | .val (.ptr f cs) =>
        if aggT E.P T = true then (if cs.length = esz E.P T then (finR E (F.set t .dead) rs).map fun q => (.agg cs :: q.1, q.2) else none)
        else match cs with
          | [c] => (finR E (F.set t .dead) rs).map fun q => (c :: q.1, q.2)
          | _ => none
      | _ => none
    else none

def resOf (tmps : Array Value) : ResultVar → Sem Value
  | .tmp t => pure (tmps.getD t undef)
  | .cell a t => do loadVar t (← asAddr (tmps.getD a undef))

theorem finR_ok {E : Env} {a : Act} : ∀ (rs : List ResultVar) (F : RF) (φ : Tmp → List Nat) (ys : List PV) (F' : RF), Pre E X Z w φ a F → finR E F rs = some (ys, F') →
    ∃ φ' φy vs, TakenL X Z w φ (tmOf E.nt a) F' ys vs φ' φy ∧ (rs.mapM (resOf a.tmps)).run E.P w = .ok vs w ∧ ∀ y ∈ ys, y.notTup = true
  | [], F, φ, ys, F', h, hs => by
    simp only [finR, Option.some.injEq, Prod.mk.injEq] at hs
    obtain ⟨rfl, rfl⟩ := hs
    exact ⟨φ, [], [], ⟨h.rel, by simp [RepTs], List.nodup_nil, by simp, fun _ _ h => h, by simp⟩, by simp, by simp⟩
  | r :: rs, F, φ, ys, F', h, hs => by
    -- what is told first, and the rest
    have join : ∀ {y : PV} {v : Value} {F1 : RF} {φ1 : Tmp → List Nat} {φy : List Nat} {q : List PV × RF}, Taken X Z w φ (tmOf E.nt a) F1 y v φ1 φy → y.notTup = true → (resOf a.tmps r).run E.P w = .ok v w → finR E F1 rs = some q → (y :: q.1, q.2) = (ys, F') →
        ∃ φ' φy vs, TakenL X Z w φ (tmOf E.nt a) F' ys vs φ' φy ∧ ((r :: rs).mapM (resOf a.tmps)).run E.P w = .ok vs w ∧ ∀ y ∈ ys, y.notTup = true := by
      intro y v F1 φ1 φy q ht hn hrun hq he
      simp only [Prod.mk.injEq] at he
      obtain ⟨rfl, rfl⟩ := he
      obtain ⟨φ2, φys, vs, k1, k2, k3⟩ := finR_ok rs F1 φ1 q.1 q.2 ⟨ht.rel, h.new, h.glob⟩ hq
      refine ⟨φ2, φy ++ φys, v :: vs, ⟨k1.rel, RepTs_cons.2 ⟨φy, φys, v, vs, rfl, rfl, RepV_RepV1 hn ht.rep, k1.rep⟩, ?_, ?_, fun r b hb => ht.less r b (k1.less r b hb), ?_⟩, ?_, ?_⟩
      · refine List.nodup_append.2 ⟨ht.nodup, k1.nodup, fun b hb c hc e => ?_⟩
        subst e; obtain ⟨r, hr⟩ := k1.was b hc; exact ht.apart r b hb hr
      · intro b hb
        rcases List.mem_append.1 hb with hb | hb
        · exact ht.was b hb
        · obtain ⟨r, hr⟩ := k1.was b hb; exact ⟨r, ht.less r b hr⟩
      · intro r b hb
        rcases List.mem_append.1 hb with hb | hb
        · exact fun hb2 => ht.apart r b hb (k1.less r b hb2)
        · exact k1.apart r b hb
      · simp [List.mapM_cons, hrun, k2]
      · intro z hz; rcases List.mem_cons.1 hz with rfl | hz
        · exact hn
        · exact k3 z hz
    cases r with
    | tmp t =>
      simp only [finR, Option.bind_eq_some_iff] at hs
      obtain ⟨⟨y, F1⟩, ht, hs⟩ := hs
      split at hs
      case isFalse => cases hs
      case isTrue hn =>
      simp only [Option.map_eq_some_iff] at hs
      obtain ⟨q, hq, he⟩ := hs
      obtain ⟨φ1, φy, htk⟩ := tk_rep h ht
      exact join htk hn (by simp [resOf, Act.eval]) hq he
    | cell t T =>
      simp only [finR] at hs
      split at hs
      case isFalse => cases hs
      case isTrue hc =>
      obtain ⟨htn, hty⟩ := hc
      split at hs
      case h_2 => cases hs
      rename_i f cs hsl
      have hr := h.rel.vals t _ hsl
      rw [RepV_cell rfl] at hr
      have hr0 := hr
      simp only [Rep] at hr
      obtain ⟨b, arr, T', fr, ψ, hv, hb, hl, hc1, hf, ht⟩ := hr
      have hv' : tmOf E.nt a t = .pointer (some ⟨b, 0, none⟩) := by simpa using hv
      have hev : a.tmps.getD t undef = .pointer (some ⟨b, 0, none⟩) := by rw [← hv']; simp [tmOf, htn]
      have hsub : ψ.Sublist (φ t) := by
        cases f with
        | false => rw [(hf rfl).2.2]; exact List.nil_sublist _
        | true => rw [(ht rfl).2.2]; exact List.sublist_cons_self _ _
      have hlen := RepL_len (sz := 1) hl (fun c hcm => PV.cell1_width (hc1 c hcm))
      simp only [Array.length_toList, Nat.mul_one] at hlen
      have hrel := h.rel.setDead t (tmOf E.nt a t)
      rw [upd_eta] at hrel
      have mk : ∀ {y : PV} {v : Value}, RepV w Z y ψ v → Taken X Z w φ (tmOf E.nt a) (F.set t .dead) y v (upd φ t []) ψ := by
        intro y v hyr
        refine ⟨hrel, hyr, (h.rel.nodup t).sublist hsub, fun b hb => ⟨t, hsub.subset hb⟩, ?_, ?_⟩
        · intro r b hb; by_cases e : r = t
          · simp [upd, e] at hb
          · rwa [upd_ne _ _ e] at hb
        · intro r b hb; by_cases e : r = t
          · simp [upd, e]
          · rw [upd_ne _ _ e]; exact fun hb2 => e (h.rel.disj r t b hb2 (hsub.subset hb))
      split at hs
      · rename_i hagg
        split at hs
        case isFalse => cases hs
        case isTrue hsz =>
        simp only [Option.map_eq_some_iff] at hs
        obtain ⟨q, hq, he⟩ := hs
        have hrun : (resOf a.tmps (.cell t T)).run E.P w = .ok (.agg arr) w := by
          have hlv := run_loadCells_list (P := E.P) w ⟨b, 0, none⟩ arr.toList (fun j v hj => by
            rw [add_lit rfl]; simp only [World.cell?, hb, Nat.zero_add]; simpa using hj)
          simp only [Array.length_toList, hlen, hsz] at hlv
          simp [resOf, hev, asAddr, loadVar, run_isAgg (tyOk_u hty), hagg, run_size (tyOk_i hty), hlv]
        exact join (mk (RepV_agg.2 ⟨arr.toList, by simp, by simp only [Rep]; exact ⟨hl, hc1⟩⟩)) rfl hrun hq he
      · rename_i hagg
        split at hs
        case h_2 => cases hs
        rename_i c
        simp only [Option.map_eq_some_iff] at hs
        obtain ⟨q, hq, he⟩ := hs
        simp only [RepL_cons, RepL_nil] at hl
        obtain ⟨φ₁, φ₂, v₁, v₂, rfl, e2, h1, rfl, rfl⟩ := hl
        have hl1 : v₁.length = 1 := by rw [h1.length, PV.cell1_width (hc1 c (by simp))]
        obtain ⟨u, rfl⟩ := List.length_eq_one_iff.1 hl1
        have hcell : w.cell? ⟨b, 0, none⟩ = some u := by
          simp only [World.cell?, hb]
          have : arr[0]? = some u := by rw [← Array.getElem?_toList, e2]; rfl
          simpa using this
        have hrun : (resOf a.tmps (.cell t T)).run E.P w = .ok u w := by
          simp [resOf, hev, asAddr, loadVar, run_isAgg (tyOk_u hty), hagg, hcell]
        simp only [List.append_nil] at mk
        have hcn : c.notTup = true := by have := hc1 c (by simp); cases c <;> simp_all [PV.cell1, PV.notTup]
        exact join (mk ((RepV_cell (hc1 c (by simp))).2 h1)) hcn hrun hq he

def outsOf (F : RF) : Nat → List PV → Option (List PV)
  | _, [] => some []
  | i, x :: xs => if x.isMut = true then
      match F.slot i with
      | .val (.ptr true cs) => (outsOf F (i + 1) xs).map fun r => .ptr true cs :: r
      | _ => none
    else outsOf F (i + 1) xs
/-- what a call tells at its end: its result, what has become of what it wrote through -/
def fin (E : Env) (fn : Func) (xs : List PV) (F : RF) : Option (PV × List PV) :=
  (finR E F fn.results.toList).bind fun (ys, F') => (outsOf F' 0 xs).map fun outs => (match ys with | [y] => y | ys => .tup ys, outs)

def ents0 : Nat → List PV → RF
  | _, [] => []
  | i, x :: xs => (i, .val x, 0, 0) :: ents0 (i + 1) xs
def globs0 (E : Env) : RF := E.gs.filterMap fun g => (E.G g).map fun cs => (E.nt + g, .val (.ptr false cs), 0, 0)
def init (E : Env) (xs : List PV) : RF := ents0 0 xs ++ globs0 E
def pinned : Nat → List PV → List Tmp
  | _, [] => []
  | i, x :: xs => if x.isMut = true then i :: pinned (i + 1) xs else pinned (i + 1) xs
end Go.V
/- A function of the program, by its text. -/
namespace Go.V
set_option linter.unusedVariables false
set_option linter.unusedSimpArgs false
variable {X : Cx} {Z : Nat → Prop} {w : World} {φ : Tmp → List Nat} {tm : Tmp → Value} {F : RF}

theorem RepTs_parts : ∀ {xs : List PV} {φ : List Nat} {vs : List Value}, RepTs w Z xs φ vs →
    ∃ ps : List (List Nat), ps.length = xs.length ∧ ps.flatten = φ ∧ ∀ (i : Nat) (x : PV) (v : Value) (p : List Nat), xs[i]? = some x → vs[i]? = some v → ps[i]? = some p → RepV1 w Z x p v
  | [], φ, vs, h => by simp only [RepTs] at h; exact ⟨[], rfl, h.1.symm, by simp⟩
  | x :: xs, φ, vs, h => by
    obtain ⟨φ₁, φ₂, v, vs', rfl, rfl, h1, h2⟩ := RepTs_cons.1 h
    obtain ⟨ps, k1, k2, k3⟩ := RepTs_parts h2
    refine ⟨φ₁ :: ps, by simp [k1], by simp [k2], fun i y u p hy hu hp => ?_⟩
    cases i with
    | zero =>
      simp only [List.getElem?_cons_zero, Option.some.injEq] at hy hu hp
      subst hy hu hp; exact h1
    | succ i => exact k3 i y u p (by simpa using hy) (by simpa using hu) (by simpa using hp)

theorem find_ents0 {G : RF} : ∀ {xs : List PV} {k t : Nat}, RF.find (ents0 k xs ++ G) t = if h : k ≤ t ∧ t < k + xs.length then (.val (xs[t - k]'(by omega)), 0, 0) else RF.find G t
  | [], k, t => by
    have h : ¬ (k ≤ t ∧ t < k + ([] : List PV).length) := by simp only [List.length_nil]; omega
    rw [dif_neg h]; rfl
  | x :: xs, k, t => by
    simp only [ents0, List.cons_append, RF.find]
    by_cases h : t = k
    · subst h; simp
    · rw [if_neg h, find_ents0]
      by_cases h2 : k + 1 ≤ t ∧ t < k + 1 + xs.length
      · rw [dif_pos h2, dif_pos (by simp; omega)]
        congr 2
        have : t - k = (t - (k + 1)) + 1 := by omega
        simp [this]
      · rw [dif_neg h2, dif_neg (by simp; omega)]
theorem slot_globs0 {E : Env} {t : Tmp} {x : PV} (h : (globs0 E).slot t = .val x) : ∃ g cs, t = E.nt + g ∧ E.G g = some cs ∧ x = .ptr false cs := by
  unfold globs0 at h
  generalize E.gs = gs at h
  induction gs with
  | nil => simp [RF.slot, RF.find] at h
  | cons g gs ih =>
    simp only [List.filterMap_cons] at h
    cases hg : E.G g with
    | none => simp [hg] at h; exact ih h
    | some cs =>
      simp only [hg, Option.map_some] at h
      simp only [RF.slot, RF.find] at h
      by_cases e : t = E.nt + g
      · rw [if_pos e] at h
        exact ⟨g, cs, e, hg, by simpa using h.symm⟩
      · rw [if_neg e] at h; exact ih h
theorem slot_globs0' {E : Env} {t : Tmp} : (∃ x, (globs0 E).slot t = .val x) ∨ (globs0 E).slot t = .dead := by
  unfold globs0
  generalize E.gs = gs
  induction gs with
  | nil => right; rfl
  | cons g gs ih =>
    simp only [List.filterMap_cons]
    cases hg : E.G g with
    | none => simpa [hg] using ih
    | some cs =>
      simp only [Option.map_some, RF.slot, RF.find]
      by_cases e : t = E.nt + g
      · rw [if_pos e]; exact .inl ⟨_, rfl⟩
      · rw [if_neg e]; exact ih

theorem outs_ok (h : Rel X Z w φ tm F) : ∀ {xs : List PV} {vs : List Value} {k : Nat} {outs : List PV}, outsOf F k xs = some outs → xs.length = vs.length →
    (∀ (i : Nat) (x : PV) (v : Value), xs[i]? = some x → x.isMut = true → vs[i]? = some v → tm (k + i) = v) → RepTs w Z outs ((pinned k xs).flatMap φ) (mutVals xs vs)
  | [], [], k, outs, ho, _, _ => by simp only [outsOf, Option.some.injEq] at ho; subst ho; simp [pinned, mutVals, RepTs]
  | [], _ :: _, _, _, _, hl, _ => by simp at hl
  | _ :: _, [], _, _, _, hl, _ => by simp at hl
  | x :: xs, v :: vs, k, outs, ho, hl, hv => by
    have hv' : ∀ (i : Nat) (y : PV) (u : Value), xs[i]? = some y → y.isMut = true → vs[i]? = some u → tm (k + 1 + i) = u := fun i y u hy hm hu => by
      rw [show k + 1 + i = k + (i + 1) by omega]; exact hv (i + 1) y u (by simpa using hy) hm (by simpa using hu)
    simp only [outsOf] at ho
    split at ho
    · rename_i hm
      split at ho
      case h_2 => cases ho
      rename_i cs hsl
      simp only [Option.map_eq_some_iff] at ho
      obtain ⟨r, hr, rfl⟩ := ho
      simp only [pinned, hm, if_true, mutVals, List.flatMap_cons]
      have h0 := h.vals k _ hsl
      rw [show tm k = v from hv 0 x v (by simp) hm (by simp)] at h0
      exact RepTs_cons.2 ⟨φ k, _, v, _, rfl, rfl, h0, outs_ok h hr (by simpa using hl) hv'⟩
    · rename_i hm
      have hm' : x.isMut = false := by simpa using hm
      simp only [pinned, hm', mutVals, Bool.false_eq_true, if_false]
      exact outs_ok h ho (by simpa using hl) hv'

theorem pinned_ge : ∀ {xs : List PV} {k i : Nat}, i ∈ pinned k xs → k ≤ i
  | [], k, i, h => by simp [pinned] at h
  | x :: xs, k, i, h => by
    simp only [pinned] at h
    split at h
    · rcases List.mem_cons.1 h with rfl | h
      · exact Nat.le_refl _
      · have := pinned_ge h; omega
    · have := pinned_ge h; omega
theorem pinned_nodup : ∀ {xs : List PV} {k : Nat}, (pinned k xs).Nodup
  | [], k => by simp [pinned]
  | x :: xs, k => by
    simp only [pinned]
    split
    · exact List.nodup_cons.2 ⟨fun h => by have := pinned_ge h; omega, pinned_nodup⟩
    · exact pinned_nodup
theorem mem_pinned : ∀ {xs : List PV} {k i : Nat} {x : PV}, xs[i]? = some x → x.isMut = true → k + i ∈ pinned k xs
  | [], k, i, x, h, _ => by simp at h
  | y :: xs, k, 0, x, h, hm => by
    obtain rfl : y = x := by simpa using h
    simp [pinned, hm]
  | y :: xs, k, i + 1, x, h, hm => by
    have := mem_pinned (k := k + 1) (show xs[i]? = some x by simpa using h) hm
    rw [show k + 1 + i = k + (i + 1) by omega] at this
    simp only [pinned]; split
    · exact List.mem_cons_of_mem _ this
    · exact this
theorem flatMap_nodup (h : Rel X Z w φ tm F) : ∀ {ts : List Tmp}, ts.Nodup → (ts.flatMap φ).Nodup
  | [], _ => by simp
  | t :: ts, hn => by
    rw [List.flatMap_cons]
    refine List.nodup_append.2 ⟨h.nodup t, flatMap_nodup h (List.nodup_cons.1 hn).2, fun b hb c hc e => ?_⟩
    subst e
    obtain ⟨u, hu, hb2⟩ := List.mem_flatMap.1 hc
    obtain rfl := h.disj t u b hb hb2
    exact (List.nodup_cons.1 hn).1 hu

def resOfL : List Value → Value
  | [v] => v
  | vs => .tuple vs.toArray
theorem run_results {P : Program} {w : World} {fn : Func} {tmps : Array Value} {vs : List Value} (h : (fn.results.toList.mapM (resOf tmps)).run P w = .ok vs w) :
    (results fn tmps).run P w = .ok (resOfL vs) w := by
  have hf : results fn tmps = (do let vs ← fn.results.mapM (resOf tmps); pure (if h : vs.size = 1 then vs[0] else .tuple vs)) := by
    unfold results; congr 1
  rw [hf]
  simp only [Array.mapM_eq_mapM_toList, Sem.run_bind, Sem.run_map, h, Result.andThen_ok, Sem.run_pure]
  congr 1
  match vs with
  | [] => rfl
  | [v] => rfl
  | _ :: _ :: _ => simp [resOfL]

theorem RepV_results {w : World} {Z : Nat → Prop} : ∀ {ys : List PV} {vs : List Value} {φ : List Nat}, RepTs w Z ys φ vs → RepV w Z (match ys with | [y] => y | ys => .tup ys) φ (resOfL vs)
  | [], vs, φ, h => by
    simp only [RepTs] at h
    obtain ⟨rfl, rfl⟩ := h
    exact RepV_tup.2 ⟨[], rfl, by simp [RepTs]⟩
  | [y], vs, φ, h => by
    obtain ⟨φ₁, φ₂, v, vs', rfl, rfl, h1, h2⟩ := RepTs_cons.1 h
    simp only [RepTs] at h2
    obtain ⟨rfl, rfl⟩ := h2
    show RepV w Z y (φ₁ ++ []) v
    rw [List.append_nil]
    rcases PV.tup_or y with ⟨zs, rfl⟩ | ⟨e, _⟩
    · simp only [RepV1, Rep] at h1
    · rw [e]; exact h1
  | y :: y2 :: ys, vs, φ, h => by
    have hl := RepTs_length h
    match vs, hl, h with
    | v :: v2 :: vs, _, h => exact RepV_tup.2 ⟨_, rfl, h⟩

theorem impl_of {E : Env} (hT : TblOk E) (D : Env → Array Oper → RF → Option RF) (hD : ∀ E' : Env, E'.P = E.P → TblOk E' → DrawOk E' (D E')) {f : FuncId} {fn : Func} {c : Code} (hf : E.P.funcs[f]? = some fn)
    (hb : fn.body = some c) (hn : fn.ntmps = E.nt) {g : List PV → Option (PV × List PV)}
    (h : ∀ xs r outs, g xs = some (r, outs) → xs.length ≤ E.nt ∧ wpx { E with pin := pinned 0 xs } (D { E with pin := pinned 0 xs }) c
      (fun e F' => (e = .normal ∨ e = .ret) ∧ fin { E with pin := pinned 0 xs } fn xs F' = some (r, outs)) (init { E with pin := pinned 0 xs } xs)) : Impl E.P E.G f g := by
  intro w Z xs vs φ r outs hrep hnd hargs hglob hg
  obtain ⟨hlen, hwp⟩ := h xs r outs hg
  generalize hE : ({ E with pin := pinned 0 xs } : Env) = E' at hwp
  have hP : E'.P = E.P := by subst hE; rfl
  have hG : E'.G = E.G := by subst hE; rfl
  have hnt : E'.nt = E.nt := by subst hE; rfl
  have hpin : E'.pin = pinned 0 xs := by subst hE; rfl
  have hT' : TblOk E' := by subst hE; exact hT
  obtain ⟨ps, p1, p2, p3⟩ := RepTs_parts hrep
  have hvl := RepTs_length hrep
  rw [← hP] at hf ⊢
  refine calls_of_wp hf hb ?_
  generalize ha : ({ tmps := vs.toArray ++ Array.replicate (fn.ntmps - vs.toArray.size) undef, defers := [] } : Act) = a0
  have hsize : a0.tmps.size = E'.nt := by subst ha; simp [hn, hnt]; omega
  have htm : ∀ (i : Nat) (v : Value), vs[i]? = some v → tmOf E'.nt a0 i = v := by
    intro i v hv
    have hi := (List.getElem?_eq_some_iff.1 hv).1
    have : i < E'.nt := by omega
    subst ha
    simp only [tmOf, this, if_true, Array.getD_eq_getD_getElem?]
    rw [Array.getElem?_append_left (by simpa using hi)]
    simp [hv]
  let X : Cx := ⟨fun b => b ∈ φ ∨ w.heap.size ≤ b, E.G, fun _ _ _ _ _ => False⟩
  have hmem : ∀ t b, b ∈ ps.getD t [] → b ∈ φ := by
    intro t b hb
    rw [← p2]
    rw [List.getD_eq_getElem?_getD] at hb
    cases ht : ps[t]? with
    | none => rw [ht] at hb; simp at hb
    | some p => rw [ht] at hb; exact List.mem_flatten.2 ⟨p, List.mem_of_getElem? ht, by simpa using hb⟩
  have hslot : ∀ t : Nat, (init E' xs).slot t = if h : t < xs.length then .val xs[t] else (globs0 E').slot t := by
    intro t
    simp only [RF.slot, init, find_ents0]
    by_cases ht : t < xs.length
    · have h0 : 0 ≤ t ∧ t < 0 + xs.length := ⟨Nat.zero_le _, by omega⟩
      rw [dif_pos ht, dif_pos h0]; simp
    · have h0 : ¬ (0 ≤ t ∧ t < 0 + xs.length) := fun hh => ht (by omega)
      rw [dif_neg ht, dif_neg h0]
  have hnopl : ∀ t r p k n, (init E' xs).slot t ≠ .pl r p k n := by
    intro t r p k n hs
    rw [hslot] at hs
    split at hs
    · cases hs
    · rcases slot_globs0' (E := E') (t := t) with ⟨x, hx⟩ | hx <;> (rw [hx] at hs; cases hs)
  have hrel : Rel X Z w (fun t => ps.getD t []) (tmOf E'.nt a0) (init E' xs) := by
    have hpn : ∀ {ps : List (List Nat)}, ps.flatten.Nodup → (∀ t, (ps.getD t []).Nodup) ∧ ∀ t u b, b ∈ ps.getD t [] → b ∈ ps.getD u [] → t = u := by
      intro ps
      induction ps with
      | nil => intro _; exact ⟨by simp, by simp⟩
      | cons p ps ih =>
        intro hn
        rw [List.flatten_cons] at hn
        have h1 := List.nodup_append.1 hn
        obtain ⟨k1, k2⟩ := ih h1.2.1
        have hin : ∀ t b, b ∈ ps.getD t [] → b ∈ ps.flatten := by
          intro t b hb
          rw [List.getD_eq_getElem?_getD] at hb
          cases ht : ps[t]? with
          | none => rw [ht] at hb; simp at hb
          | some p => rw [ht] at hb; exact List.mem_flatten.2 ⟨p, List.mem_of_getElem? ht, by simpa using hb⟩
        refine ⟨fun t => ?_, fun t u b ht hu => ?_⟩
        · cases t with
          | zero => simpa using h1.1
          | succ t => simpa using k1 t
        · cases t with
          | zero =>
            cases u with
            | zero => rfl
            | succ u => exact absurd rfl (h1.2.2 b (by simpa using ht) b (hin u b (by simpa using hu)))
          | succ t =>
            cases u with
            | zero => exact absurd rfl (h1.2.2 b (by simpa using hu) b (hin t b (by simpa using ht)))
            | succ u => rw [k2 t u b (by simpa using ht) (by simpa using hu)]
    obtain ⟨q1, q2⟩ := hpn (p2 ▸ hnd)
    refine ⟨q1, q2, fun t b hb => .inl (hmem t b hb), ?_, ?_, fun t r p k n hs => absurd hs (hnopl t r p k n), fun t r p k n hs => absurd hs (hnopl t r p k n), hglob, fun _ _ _ _ _ h => h.elim, fun _ _ _ _ _ h => h.elim⟩
    · intro t x hs
      rw [hslot] at hs
      split at hs
      · rename_i ht
        obtain rfl : xs[t] = x := by simpa using hs
        have hv : vs[t]? = some (vs[t]'(by omega)) := List.getElem?_eq_getElem _
        have hp : ps[t]? = some (ps[t]'(by omega)) := List.getElem?_eq_getElem _
        rw [htm t _ hv]
        have := p3 t _ _ _ (List.getElem?_eq_getElem ht) hv hp
        rw [List.getD_eq_getElem?_getD, hp, Option.getD_some]
        rcases PV.tup_or xs[t] with ⟨ys, hy⟩ | ⟨e, _⟩
        · rw [hy] at this; simp only [RepV1, Rep] at this
        · rw [e]; exact this
      · rename_i ht
        obtain ⟨g, cs, rfl, hgc, rfl⟩ := slot_globs0 hs
        have : ps.getD (E'.nt + g) [] = [] := by
          rw [List.getD_eq_getElem?_getD, List.getElem?_eq_none (by omega)]; rfl
        simp only [this]
        refine (RepV_cell rfl).2 ?_
        have : tmOf E'.nt a0 (E'.nt + g) = .pointer (some ⟨g, 0, none⟩) := by simp [tmOf, Nat.not_lt.2 (Nat.le_add_right E'.nt g)]
        rw [this]
        exact hglob g cs (by rw [← hG]; exact hgc)
    · intro t hs
      by_cases ht : t < xs.length
      · exact absurd (by rw [hslot, dif_pos ht]) (hs xs[t])
      · simp [List.getD_eq_getElem?_getD, List.getElem?_eq_none (show ps.length ≤ t from p1 ▸ Nat.le_of_not_lt ht)]
  have hinv : Inv E' X (tmOf E'.nt a0) w Z (init E' xs) a0 w :=
    ⟨⟨Z, _, ⟨hrel, fun b hb => .inr hb, hG.symm⟩, fun _ _ _ => Iff.rfl⟩, hsize, by subst ha; rfl, Stp.refl _ _, fun b hb => .inr hb, fun _ _ => rfl, fun _ _ _ _ _ h => h⟩
  refine wpx_ok hT' (hD E' hP hT') c _ _ a0 w _ hinv hwp ?_
  rintro e F' a' w' ⟨he, hfin⟩ hi
  obtain ⟨Z', φ', hp, hz⟩ := hi.ex
  simp only [fin, Option.bind_eq_some_iff, Option.map_eq_some_iff, Prod.mk.injEq] at hfin
  obtain ⟨⟨ys, F1⟩, hfr, outs', ho, hres, rfl⟩ := hfin
  obtain ⟨φ1, φy, vs', ht, hrun, hnt'⟩ := finR_ok fn.results.toList F' φ' ys F1 hp hfr
  have hmv := outs_ok ht.rel ho hvl.symm (fun i x v hx hm hv => by
    have := hi.pin (0 + i) (by rw [hpin]; exact mem_pinned hx hm)
    rw [this, Nat.zero_add]; exact htm i v hv)
  have hresult := run_results (fn := fn) hrun
  have hvR : RepV w' Z' r φy (resOfL vs') := by rw [← hres]; exact RepV_results ht.rep
  have hpost : ∃ v, (results fn a'.tmps).run E'.P w' = .ok v w' ∧ ∃ v' Z'' φr φo, (Ending.returned v = .returned v') ∧ RepV w' Z'' r φr v' ∧ RepTs w' Z'' outs' φo (mutVals xs vs) ∧ (φr ++ φo).Nodup ∧
      (∀ b ∈ φr ++ φo, b ∈ φ ∨ w.heap.size ≤ b) ∧ Stp (fun b => b ∈ φ ∨ w.heap.size ≤ b) w w' ∧ (∀ b, b < w.heap.size → b ∉ φ → (Z b ↔ Z'' b)) := by
    refine ⟨_, hresult, _, Z', φy, _, rfl, hvR, hmv, ?_, ?_, hi.stp, fun b hb hbn => hz b hb (fun hm => hm.elim hbn (by omega))⟩
    · refine List.nodup_append.2 ⟨ht.nodup, flatMap_nodup ht.rel pinned_nodup, fun b hb c hc e => ?_⟩
      subst e
      obtain ⟨t, _, hb2⟩ := List.mem_flatMap.1 hc
      exact ht.apart t b hb hb2
    · intro b hb
      rcases List.mem_append.1 hb with hb | hb
      · obtain ⟨t, hbt⟩ := ht.was b hb; exact hp.rel.mine t b hbt
      · obtain ⟨t, _, hb2⟩ := List.mem_flatMap.1 hb; exact ht.rel.mine t b hb2
  obtain ⟨v, hv1, hv2⟩ := hpost
  rcases he with rfl | rfl
  · exact ⟨hi.defers, v, hv1, hv2⟩
  · exact ⟨hi.defers, v, hv1, hv2⟩
end Go.V
/- What an operation may write of a frame: a row of slots set anew. -/
namespace Go.V
set_option linter.unusedVariables false
set_option linter.unusedSimpArgs false

def RF.sets (F : RF) : List (Tmp × Slot) → RF
  | [] => F
  | (t, s) :: ts => (RF.sets F ts).set t s
def Ext (F F' : RF) : Prop := ∃ ts, F' = F.sets ts
def ExtO (F : RF) (m : Option RF) : Prop := ∀ F', m = some F' → Ext F F'
def ExtP {α : Type} (F : RF) (m : Option (α × RF)) : Prop := ∀ r, m = some r → Ext F r.2
theorem RF.sets_append {F : RF} : ∀ {ts us : List (Tmp × Slot)}, F.sets (us ++ ts) = (F.sets ts).sets us
  | ts, [] => rfl
  | ts, (t, s) :: us => by simp only [List.cons_append, RF.sets, RF.sets_append (us := us)]
theorem Ext.refl (F : RF) : Ext F F := ⟨[], rfl⟩
theorem Ext.trans {F G H : RF} (h : Ext F G) (k : Ext G H) : Ext F H := by
  obtain ⟨ts, rfl⟩ := h
  obtain ⟨us, rfl⟩ := k
  exact ⟨us ++ ts, RF.sets_append.symm⟩
theorem Ext.set {F G : RF} {t : Tmp} {s : Slot} (h : Ext F G) : Ext F (G.set t s) := by
  obtain ⟨ts, rfl⟩ := h; exact ⟨(t, s) :: ts, rfl⟩
theorem Ext.setD {F G : RF} {d : Option Tmp} {s : Slot} (h : Ext F G) : Ext F (setD G d s) := by
  cases d with
  | none => exact h
  | some t => exact h.set
theorem Ext.re {F G : RF} {t : Tmp} {x : PV} (h : Ext F G) : Ext F (G.re t x) := h.set.set
theorem ExtO.none {F : RF} : ExtO F none := fun _ h => by cases h
theorem ExtO.some {F G : RF} (h : Ext F G) : ExtO F (some G) := fun _ e => by cases e; exact h
theorem ExtO.map {α : Type} {F : RF} {m : Option α} {f : α → RF} (h : ∀ x, m = .some x → Ext F (f x)) : ExtO F (m.map f) := fun F' e => by
  simp only [Option.map_eq_some_iff] at e; obtain ⟨x, hx, rfl⟩ := e; exact h x hx
theorem ExtO.bind {α : Type} {F : RF} {m : Option α} {f : α → Option RF} (h : ∀ x, m = .some x → ExtO F (f x)) : ExtO F (m.bind f) := fun F' e => by
  simp only [Option.bind_eq_some_iff] at e; obtain ⟨x, hx, he⟩ := e; exact h x hx F' he
theorem ExtP.none {α : Type} {F : RF} : ExtP F (none : Option (α × RF)) := fun _ h => by cases h
theorem ExtP.some {α : Type} {F G : RF} {x : α} (h : Ext F G) : ExtP F (some (x, G)) := fun _ e => by cases e; exact h
theorem ExtP.map {α β : Type} {F : RF} {m : Option β} {f : β → α × RF} (h : ∀ x, m = .some x → Ext F (f x).2) : ExtP F (m.map f) := fun F' e => by
  simp only [Option.map_eq_some_iff] at e; obtain ⟨x, hx, rfl⟩ := e; exact h x hx
theorem ExtP.bind {α β : Type} {F : RF} {m : Option β} {f : β → Option (α × RF)} (h : ∀ x, m = .some x → ExtP F (f x)) : ExtP F (m.bind f) := fun F' e => by
  simp only [Option.bind_eq_some_iff] at e; obtain ⟨x, hx, he⟩ := e; exact h x hx F' he

theorem take_ext {F : RF} {t : Tmp} : ExtP F (F.take t) := by
  unfold RF.take
  refine ExtP.bind fun y hy => ?_
  split
  · exact .some (.refl F)
  · split
    · exact .none
    · exact .some (Ext.refl F).set
    · split
      · exact .none
      · exact .none
      · split
        · exact .map fun c _ => (Ext.refl F).set
        · exact .none
      · split
        · exact .some (Ext.refl F).set
        · split
          · exact .map fun c _ => (Ext.refl F).set
          · exact .none
theorem tk_ext {E : Env} {F : RF} {T : TypeId} {x : Operand} : ExtP F (E.tk F T x) := by
  unfold Env.tk
  split
  · exact take_ext
  · exact .map fun _ _ => .refl F
theorem tks_ext {E : Env} {T : Nat → TypeId} : ∀ {ps : List (Nat × Operand)} {F : RF}, ExtP F (E.tks T F ps)
  | [], F => .some (.refl F)
  | (i, x) :: ps, F => .bind fun r hr => .map fun q hq => (tk_ext r hr).trans (tks_ext q hq)
theorem fst_ext {E : Env} {F : RF} {T : TypeId} {x : Operand} {sz : Nat} : ∀ r, E.fst F T x sz = some r → Ext F r.2.1 := by
  intro r h
  unfold Env.fst at h
  split at h
  · split at h
    · split at h
      · cases h; exact .refl F
      · cases h
    · cases h
  · split at h
    · rename_i e; split at h
      · cases h; exact tk_ext _ e
      · cases h
    · cases h
theorem snd_ext {E : Env} {F : RF} {T : TypeId} {x : Operand} {sz : Nat} : ExtP F (E.snd F T x sz) := by
  unfold Env.snd
  split
  · split
    · split
      · exact .some (.refl F)
      · exact .none
    · exact .none
  · split
    · split
      · split
        · exact .some (.refl F)
        · split
          · rename_i e; split
            · exact .some (tk_ext _ e)
            · exact .none
          · exact .none
      · exact .none
    · exact .none
  · exact .none
theorem putMap_ext {F : RF} {r : Tmp} {p : Path} {es : List (Value × Value)} : ExtO F (F.putMap r p es) := by
  unfold RF.putMap
  split
  · exact .some (Ext.refl F).re
  · split
    · exact .map fun _ _ => (Ext.refl F).re
    · exact .none
theorem caps_ext {E : Env} : ∀ {xs : List Operand} {F : RF}, ExtP F (E.caps F xs)
  | [], F => .some (.refl F)
  | x :: xs, F => by
    unfold Env.caps
    refine .bind fun t _ => ?_
    split
    · split
      · split
        · exact .map fun r hr => caps_ext r hr
        · exact .map fun r hr => (Ext.refl F).set.set.trans (caps_ext r hr)
      · exact .none
    · exact .none

theorem semPure_ext {E : Env} {o : Oper} {F : RF} : ExtO F (semPure E o F) := by
  unfold semPure
  repeat' (first
    | exact ExtO.none
    | exact putMap_ext
    | (refine ExtO.some ?_)
    | (refine ExtO.map fun _ _ => ?_)
    | (refine ExtO.bind fun _ _ => ?_)
    | exact Ext.refl _
    | (exact tk_ext _ ‹_›)
    | (exact tks_ext _ ‹_›)
    | (exact caps_ext _ ‹_›)
    | (refine Ext.setD ?_)
    | (refine Ext.set ?_)
    | (refine Ext.re ?_)
    | split
    | dsimp only)
theorem semMove_ext {E : Env} {o : Oper} {x : Operand} {F : RF} : ExtO F (semMove E o x F) := by
  unfold semMove
  repeat' (first
    | exact ExtO.none
    | exact semPure_ext
    | exact putMap_ext
    | (refine ExtO.some ?_)
    | (refine ExtO.map fun _ _ => ?_)
    | (refine ExtO.bind fun _ _ => ?_)
    | exact Ext.refl _
    | (exact tk_ext _ ‹_›)
    | (exact tks_ext _ ‹_›)
    | (exact caps_ext _ ‹_›)
    | (refine Ext.setD ?_)
    | (refine Ext.set ?_)
    | (refine Ext.re ?_)
    | split
    | dsimp only)
theorem semAssign_ext {E : Env} {o : Oper} {x : Operand} {F : RF} : ExtO F (semAssign E o x F) := by
  unfold semAssign
  repeat' (first
    | exact ExtO.none
    | exact semPure_ext
    | exact semMove_ext
    | exact putMap_ext
    | (refine ExtO.some ?_)
    | (refine ExtO.map fun _ _ => ?_)
    | (refine ExtO.bind fun _ _ => ?_)
    | exact Ext.refl _
    | (exact tk_ext _ ‹_›)
    | (exact tks_ext _ ‹_›)
    | (exact caps_ext _ ‹_›)
    | (refine Ext.setD ?_)
    | (refine Ext.set ?_)
    | (refine Ext.re ?_)
    | split
    | dsimp only)
theorem semAlloc_ext {E : Env} {o : Oper} {T : TypeId} {F : RF} : ExtO F (semAlloc E o T F) := by
  unfold semAlloc
  repeat' (first
    | exact ExtO.none
    | exact semPure_ext
    | exact semMove_ext
    | exact putMap_ext
    | (refine ExtO.some ?_)
    | (refine ExtO.map fun _ _ => ?_)
    | (refine ExtO.bind fun _ _ => ?_)
    | exact Ext.refl _
    | (exact tk_ext _ ‹_›)
    | (exact tks_ext _ ‹_›)
    | (exact caps_ext _ ‹_›)
    | (refine Ext.setD ?_)
    | (refine Ext.set ?_)
    | (refine Ext.re ?_)
    | split
    | dsimp only)
theorem semBox_ext {E : Env} {o : Oper} {T : TypeId} {x : Operand} {F : RF} : ExtO F (semBox E o T x F) := by
  unfold semBox
  repeat' (first
    | exact ExtO.none
    | exact semPure_ext
    | exact semMove_ext
    | exact putMap_ext
    | (refine ExtO.some ?_)
    | (refine ExtO.map fun _ _ => ?_)
    | (refine ExtO.bind fun _ _ => ?_)
    | exact Ext.refl _
    | (exact tk_ext _ ‹_›)
    | (exact tks_ext _ ‹_›)
    | (exact caps_ext _ ‹_›)
    | (refine Ext.setD ?_)
    | (refine Ext.set ?_)
    | (refine Ext.re ?_)
    | split
    | dsimp only)
theorem semBuild_ext {E : Env} {o : Oper} {T : TypeId} {ps : List (Nat × Operand)} {F : RF} : ExtO F (semBuild E o T ps F) := by
  unfold semBuild
  repeat' (first
    | exact ExtO.none
    | exact semPure_ext
    | exact semMove_ext
    | exact putMap_ext
    | (refine ExtO.some ?_)
    | (refine ExtO.map fun _ _ => ?_)
    | (refine ExtO.bind fun _ _ => ?_)
    | exact Ext.refl _
    | (exact tk_ext _ ‹_›)
    | (exact tks_ext _ ‹_›)
    | (exact caps_ext _ ‹_›)
    | (refine Ext.setD ?_)
    | (refine Ext.set ?_)
    | (refine Ext.re ?_)
    | split
    | dsimp only)
theorem semLit_ext {E : Env} {o : Oper} {T : TypeId} {n : Nat} {ps : List (Nat × Operand)} {F : RF} : ExtO F (semLit E o T n ps F) := by
  unfold semLit
  repeat' (first
    | exact ExtO.none
    | exact semPure_ext
    | exact semMove_ext
    | exact putMap_ext
    | (refine ExtO.some ?_)
    | (refine ExtO.map fun _ _ => ?_)
    | (refine ExtO.bind fun _ _ => ?_)
    | exact Ext.refl _
    | (exact tk_ext _ ‹_›)
    | (exact tks_ext _ ‹_›)
    | (exact caps_ext _ ‹_›)
    | (refine Ext.setD ?_)
    | (refine Ext.set ?_)
    | (refine Ext.re ?_)
    | split
    | dsimp only)
theorem semLoad_ext {E : Env} {o : Oper} {T : TypeId} {x : Operand} {F : RF} : ExtO F (semLoad E o T x F) := by
  unfold semLoad
  repeat' (first
    | exact ExtO.none
    | exact semPure_ext
    | exact semMove_ext
    | exact putMap_ext
    | (refine ExtO.some ?_)
    | (refine ExtO.map fun _ _ => ?_)
    | (refine ExtO.bind fun _ _ => ?_)
    | exact Ext.refl _
    | (exact tk_ext _ ‹_›)
    | (exact tks_ext _ ‹_›)
    | (exact caps_ext _ ‹_›)
    | (refine Ext.setD ?_)
    | (refine Ext.set ?_)
    | (refine Ext.re ?_)
    | split
    | dsimp only)
theorem semStore_ext {E : Env} {o : Oper} {T : TypeId} {x v : Operand} {F : RF} : ExtO F (semStore E o T x v F) := by
  unfold semStore
  repeat' (first
    | exact ExtO.none
    | exact semPure_ext
    | exact semMove_ext
    | exact putMap_ext
    | (refine ExtO.some ?_)
    | (refine ExtO.map fun _ _ => ?_)
    | (refine ExtO.bind fun _ _ => ?_)
    | exact Ext.refl _
    | (exact tk_ext _ ‹_›)
    | (exact tks_ext _ ‹_›)
    | (exact caps_ext _ ‹_›)
    | (refine Ext.setD ?_)
    | (refine Ext.set ?_)
    | (refine Ext.re ?_)
    | split
    | dsimp only)
theorem semNil_ext {E : Env} {o : Oper} {x : Operand} {F : RF} : ExtO F (semNil E o x F) := by
  unfold semNil
  repeat' (first
    | exact ExtO.none
    | exact semPure_ext
    | exact semMove_ext
    | exact putMap_ext
    | (refine ExtO.some ?_)
    | (refine ExtO.map fun _ _ => ?_)
    | (refine ExtO.bind fun _ _ => ?_)
    | exact Ext.refl _
    | (exact tk_ext _ ‹_›)
    | (exact tks_ext _ ‹_›)
    | (exact caps_ext _ ‹_›)
    | (refine Ext.setD ?_)
    | (refine Ext.set ?_)
    | (refine Ext.re ?_)
    | split
    | dsimp only)
theorem semConv_ext {E : Env} {o : Oper} {S D : TypeId} {x : Operand} {F : RF} : ExtO F (semConv E o S D x F) := by
  unfold semConv
  repeat' (first
    | exact ExtO.none
    | exact semPure_ext
    | exact semMove_ext
    | exact putMap_ext
    | (refine ExtO.some ?_)
    | (refine ExtO.map fun _ _ => ?_)
    | (refine ExtO.bind fun _ _ => ?_)
    | exact Ext.refl _
    | (exact tk_ext _ ‹_›)
    | (exact tks_ext _ ‹_›)
    | (exact caps_ext _ ‹_›)
    | (refine Ext.setD ?_)
    | (refine Ext.set ?_)
    | (refine Ext.re ?_)
    | split
    | dsimp only)
theorem semFunc_ext {E : Env} {o : Oper} {fn : Fn} {first captured : Array Operand} {F : RF} : ExtO F (semFunc E o fn first captured F) := by
  unfold semFunc
  repeat' (first
    | exact ExtO.none
    | exact semPure_ext
    | exact semMove_ext
    | exact putMap_ext
    | (refine ExtO.some ?_)
    | (refine ExtO.map fun _ _ => ?_)
    | (refine ExtO.bind fun _ _ => ?_)
    | exact Ext.refl _
    | (exact tk_ext _ ‹_›)
    | (exact tks_ext _ ‹_›)
    | (exact caps_ext _ ‹_›)
    | (refine Ext.setD ?_)
    | (refine Ext.set ?_)
    | (refine Ext.re ?_)
    | split
    | dsimp only)
theorem semMakeMap_ext {E : Env} {o : Oper} {r : Option Operand} {F : RF} : ExtO F (semMakeMap E o r F) := by
  unfold semMakeMap
  repeat' (first
    | exact ExtO.none
    | exact semPure_ext
    | exact semMove_ext
    | exact putMap_ext
    | (refine ExtO.some ?_)
    | (refine ExtO.map fun _ _ => ?_)
    | (refine ExtO.bind fun _ _ => ?_)
    | exact Ext.refl _
    | (exact tk_ext _ ‹_›)
    | (exact tks_ext _ ‹_›)
    | (exact caps_ext _ ‹_›)
    | (refine Ext.setD ?_)
    | (refine Ext.set ?_)
    | (refine Ext.re ?_)
    | split
    | dsimp only)
theorem semMake_ext {E : Env} {o : Oper} {T : TypeId} {l c : Operand} {F : RF} : ExtO F (semMake E o T l c F) := by
  unfold semMake
  repeat' (first
    | exact ExtO.none
    | exact semPure_ext
    | exact semMove_ext
    | exact putMap_ext
    | (refine ExtO.some ?_)
    | (refine ExtO.map fun _ _ => ?_)
    | (refine ExtO.bind fun _ _ => ?_)
    | exact Ext.refl _
    | (exact tk_ext _ ‹_›)
    | (exact tks_ext _ ‹_›)
    | (exact caps_ext _ ‹_›)
    | (refine Ext.setD ?_)
    | (refine Ext.set ?_)
    | (refine Ext.re ?_)
    | split
    | dsimp only)
theorem semSlice_ext {E : Env} {o : Oper} {T : TypeId} {x : Operand} {l h m : Option Operand} {F : RF} : ExtO F (semSlice E o T x l h m F) := by
  unfold semSlice
  repeat' (first
    | exact ExtO.none
    | exact semPure_ext
    | exact semMove_ext
    | exact putMap_ext
    | (refine ExtO.some ?_)
    | (refine ExtO.map fun _ _ => ?_)
    | (refine ExtO.bind fun _ _ => ?_)
    | exact Ext.refl _
    | (exact tk_ext _ ‹_›)
    | (exact tks_ext _ ‹_›)
    | (exact caps_ext _ ‹_›)
    | (refine Ext.setD ?_)
    | (refine Ext.set ?_)
    | (refine Ext.re ?_)
    | split
    | dsimp only)
theorem semField_ext {E : Env} {o : Oper} {S : TypeId} {x : Operand} {f : Nat} {F : RF} : ExtO F (semField E o S x f F) := by
  unfold semField
  repeat' (first
    | exact ExtO.none
    | exact semPure_ext
    | exact semMove_ext
    | exact putMap_ext
    | (refine ExtO.some ?_)
    | (refine ExtO.map fun _ _ => ?_)
    | (refine ExtO.bind fun _ _ => ?_)
    | exact Ext.refl _
    | (exact tk_ext _ ‹_›)
    | (exact tks_ext _ ‹_›)
    | (exact caps_ext _ ‹_›)
    | (refine Ext.setD ?_)
    | (refine Ext.set ?_)
    | (refine Ext.re ?_)
    | split
    | dsimp only)
theorem semArr_ext {E : Env} {o : Oper} {T : TypeId} {x : Operand} {F : RF} : ExtO F (semArr E o T x F) := by
  unfold semArr
  repeat' (first
    | exact ExtO.none
    | exact semPure_ext
    | exact semMove_ext
    | exact putMap_ext
    | (refine ExtO.some ?_)
    | (refine ExtO.map fun _ _ => ?_)
    | (refine ExtO.bind fun _ _ => ?_)
    | exact Ext.refl _
    | (exact tk_ext _ ‹_›)
    | (exact tks_ext _ ‹_›)
    | (exact caps_ext _ ‹_›)
    | (refine Ext.setD ?_)
    | (refine Ext.set ?_)
    | (refine Ext.re ?_)
    | split
    | dsimp only)
theorem semLoadA_ext {E : Env} {o : Oper} {T : TypeId} {x : Operand} {F : RF} : ExtO F (semLoadA E o T x F) := by
  unfold semLoadA
  repeat' (first
    | exact ExtO.none
    | exact semPure_ext
    | exact semMove_ext
    | exact putMap_ext
    | (refine ExtO.some ?_)
    | (refine ExtO.map fun _ _ => ?_)
    | (refine ExtO.bind fun _ _ => ?_)
    | exact Ext.refl _
    | (exact tk_ext _ ‹_›)
    | (exact tks_ext _ ‹_›)
    | (exact caps_ext _ ‹_›)
    | (refine Ext.setD ?_)
    | (refine Ext.set ?_)
    | (refine Ext.re ?_)
    | split
    | dsimp only)
theorem semIndex_ext {E : Env} {o : Oper} {T : TypeId} {x i : Operand} {F : RF} : ExtO F (semIndex E o T x i F) := by
  unfold semIndex
  repeat' (first
    | exact ExtO.none
    | exact semPure_ext
    | exact semMove_ext
    | exact putMap_ext
    | (refine ExtO.some ?_)
    | (refine ExtO.map fun _ _ => ?_)
    | (refine ExtO.bind fun _ _ => ?_)
    | exact Ext.refl _
    | (exact tk_ext _ ‹_›)
    | (exact tks_ext _ ‹_›)
    | (exact caps_ext _ ‹_›)
    | (refine Ext.setD ?_)
    | (refine Ext.set ?_)
    | (refine Ext.re ?_)
    | split
    | dsimp only)
theorem semLookup_ext {E : Env} {o : Oper} {T : TypeId} {x k : Operand} {ok : Bool} {F : RF} : ExtO F (semLookup E o T x k ok F) := by
  unfold semLookup
  repeat' (first
    | exact ExtO.none
    | exact semPure_ext
    | exact semMove_ext
    | exact putMap_ext
    | (refine ExtO.some ?_)
    | (refine ExtO.map fun _ _ => ?_)
    | (refine ExtO.bind fun _ _ => ?_)
    | exact Ext.refl _
    | (exact tk_ext _ ‹_›)
    | (exact tks_ext _ ‹_›)
    | (exact caps_ext _ ‹_›)
    | (refine Ext.setD ?_)
    | (refine Ext.set ?_)
    | (refine Ext.re ?_)
    | split
    | dsimp only)
theorem semMapSet_ext {E : Env} {o : Oper} {T : TypeId} {x k v : Operand} {F : RF} : ExtO F (semMapSet E o T x k v F) := by
  unfold semMapSet
  repeat' (first
    | exact ExtO.none
    | exact semPure_ext
    | exact semMove_ext
    | exact putMap_ext
    | (refine ExtO.some ?_)
    | (refine ExtO.map fun _ _ => ?_)
    | (refine ExtO.bind fun _ _ => ?_)
    | exact Ext.refl _
    | (exact tk_ext _ ‹_›)
    | (exact tks_ext _ ‹_›)
    | (exact caps_ext _ ‹_›)
    | (refine Ext.setD ?_)
    | (refine Ext.set ?_)
    | (refine Ext.re ?_)
    | split
    | dsimp only)
theorem semExtract_ext {E : Env} {o : Oper} {x : Operand} {i : Nat} {F : RF} : ExtO F (semExtract E o x i F) := by
  unfold semExtract
  repeat' (first
    | exact ExtO.none
    | exact semPure_ext
    | exact semMove_ext
    | exact putMap_ext
    | (refine ExtO.some ?_)
    | (refine ExtO.map fun _ _ => ?_)
    | (refine ExtO.bind fun _ _ => ?_)
    | exact Ext.refl _
    | (exact tk_ext _ ‹_›)
    | (exact tks_ext _ ‹_›)
    | (exact caps_ext _ ‹_›)
    | (refine Ext.setD ?_)
    | (refine Ext.set ?_)
    | (refine Ext.re ?_)
    | split
    | dsimp only)
theorem semPick_ext {E : Env} {o : Oper} {c x y : Operand} {F : RF} : ExtO F (semPick E o c x y F) := by
  unfold semPick
  repeat' (first
    | exact ExtO.none
    | exact semPure_ext
    | exact semMove_ext
    | exact putMap_ext
    | (refine ExtO.some ?_)
    | (refine ExtO.map fun _ _ => ?_)
    | (refine ExtO.bind fun _ _ => ?_)
    | exact Ext.refl _
    | (exact tk_ext _ ‹_›)
    | (exact tks_ext _ ‹_›)
    | (exact caps_ext _ ‹_›)
    | (refine Ext.setD ?_)
    | (refine Ext.set ?_)
    | (refine Ext.re ?_)
    | split
    | dsimp only)
theorem semLen_ext {E : Env} {o : Oper} {T : TypeId} {x : Operand} {F : RF} : ExtO F (semLen E o T x F) := by
  unfold semLen
  repeat' (first
    | exact ExtO.none
    | exact semPure_ext
    | exact semMove_ext
    | exact putMap_ext
    | (refine ExtO.some ?_)
    | (refine ExtO.map fun _ _ => ?_)
    | (refine ExtO.bind fun _ _ => ?_)
    | exact Ext.refl _
    | (exact tk_ext _ ‹_›)
    | (exact tks_ext _ ‹_›)
    | (exact caps_ext _ ‹_›)
    | (refine Ext.setD ?_)
    | (refine Ext.set ?_)
    | (refine Ext.re ?_)
    | split
    | dsimp only)
theorem semAppend_ext {E : Env} {o : Oper} {T T2 : TypeId} {x y : Operand} {F : RF} : ExtO F (semAppend E o T T2 x y F) := by
  unfold semAppend
  split
  · split
    · refine .bind fun r hr => .bind fun q hq => ?_
      dsimp only
      split
      · split
        · exact .none
        · exact .some (((fst_ext r hr).trans (snd_ext q hq)).setD)
      · exact .none
    · exact .none
  · exact .none
theorem giveF_ext {r : PV} {d : Option Tmp} {F : RF} {ls : List Tmp} : ExtO F (giveF r d F ls) := by
  unfold giveF
  split
  · exact ExtO.map fun x _ => Ext.setD (Ext.set (Ext.set (Ext.refl _)))
  · exact ExtO.none
theorem semCall_ext {E : Env} {o : Oper} {c : Call} {F : RF} : ExtO F (semCall E o c F) := by
  unfold semCall
  repeat' (first
    | exact ExtO.none
    | exact giveF_ext
    | exact semPure_ext
    | exact semMove_ext
    | exact putMap_ext
    | (refine ExtO.some ?_)
    | (refine ExtO.map fun _ _ => ?_)
    | (refine ExtO.bind fun _ _ => ?_)
    | exact Ext.refl _
    | (exact tk_ext _ ‹_›)
    | (exact tks_ext _ ‹_›)
    | (exact caps_ext _ ‹_›)
    | (refine Ext.setD ?_)
    | (refine Ext.set ?_)
    | (refine Ext.re ?_)
    | split
    | dsimp only)

theorem sem_ext {E : Env} {o : Oper} {F : RF} : ExtO F (sem E o F) := by
  unfold sem
  split
  · exact semMove_ext
  · exact semAssign_ext
  · exact semAlloc_ext
  · exact semBox_ext
  · exact semBuild_ext
  · exact semLit_ext
  · split
    · exact semLoadA_ext
    · exact semLoad_ext
  · exact semArr_ext
  · exact semStore_ext
  · exact semNil_ext
  · exact semConv_ext
  · exact semFunc_ext
  · exact semMakeMap_ext
  · exact semMake_ext
  · exact semSlice_ext
  · exact semField_ext
  · exact semIndex_ext
  · exact semLookup_ext
  · exact semMapSet_ext
  · exact semMapSet_ext
  · exact semExtract_ext
  · exact semPick_ext
  · exact semLen_ext
  · exact semAppend_ext
  · exact semCall_ext
  · exact semPure_ext

theorem step_ext {E : Env} {ops : Array Oper} {o : Oper} {F : RF} : ExtO F (step E ops o F) := by
  unfold step
  split
  · split
    · exact sem_ext
    · split
      · split
        · split
          · split
            · exact sem_ext
            · exact .some (Ext.refl F).setD
          · exact .none
        · split
          · exact .some (Ext.refl F).setD
          · exact .none
        · exact .none
      · exact .none
  · exact .none
end Go.V
/- One operation over the part of a frame that it reads. -/
namespace Go.V
set_option linter.unusedVariables false
set_option linter.unusedSimpArgs false
variable {X : Cx} {Z : Nat → Prop} {w : World} {φ : Tmp → List Nat} {tm : Tmp → Value} {F : RF}

theorem find_mapF {f : Tmp → Slot × Nat × Nat} : ∀ {R : List Tmp} {t : Tmp}, RF.find (R.map fun t => (t, f t)) t = if t ∈ R then f t else (.dead, 0, 0)
  | [], t => by simp [RF.find]
  | u :: R, t => by
    simp only [List.map_cons, RF.find, List.mem_cons]
    by_cases h : t = u
    · subst h; simp
    · rw [if_neg h, find_mapF]; simp [h]
def RF.masked (F : RF) (R : List Tmp) (t : Tmp) : Slot :=
  match F.slot t with
  | .pl r p k n => if R.contains r = true then .pl r p k n else .dead
  | s => s
def RF.mask (F : RF) (R : List Tmp) : RF := R.map fun t => (t, F.masked R t, F.ver t, F.cnt t)
theorem find_mask {R : List Tmp} {t : Tmp} : (F.mask R).find t = if t ∈ R then (F.masked R t, F.ver t, F.cnt t) else (.dead, 0, 0) := find_mapF
theorem slot_mask {R : List Tmp} {t : Tmp} : (F.mask R).slot t = if t ∈ R then F.masked R t else .dead := by
  show ((F.mask R).find t).1 = _; rw [find_mask]; split <;> rfl
theorem ver_mask {R : List Tmp} {t : Tmp} : (F.mask R).ver t = if t ∈ R then F.ver t else 0 := by
  show ((F.mask R).find t).2.1 = _; rw [find_mask]; split <;> rfl
theorem cnt_mask {R : List Tmp} {t : Tmp} : (F.mask R).cnt t = if t ∈ R then F.cnt t else 0 := by
  show ((F.mask R).find t).2.2 = _; rw [find_mask]; split <;> rfl
theorem mask_congr {G : RF} {R : List Tmp} (h : ∀ t ∈ R, F.find t = G.find t) : F.mask R = G.mask R := by
  unfold RF.mask
  refine List.map_congr_left fun t ht => ?_
  have := h t ht
  simp only [RF.masked, RF.slot, RF.ver, RF.cnt, this]
theorem masked_val {R : List Tmp} {t : Tmp} {x : PV} : F.masked R t = .val x ↔ F.slot t = .val x := by
  unfold RF.masked; split
  · rename_i e; rw [e]; split <;> simp
  · rfl
theorem masked_pl {R : List Tmp} {t r : Tmp} {p : Path} {k : View} {n : Nat} (h : F.masked R t = .pl r p k n) : F.slot t = .pl r p k n ∧ r ∈ R := by
  unfold RF.masked at h; split at h
  · rename_i e; split at h
    · rename_i hc; rw [List.contains_eq_mem] at hc
      obtain ⟨rfl, rfl, rfl, rfl⟩ := Slot.pl.inj h
      exact ⟨e, by simpa using hc⟩
    · cases h
  · rename_i hn; exact absurd h (hn r p k n)
theorem masked_pl' {R : List Tmp} {t r : Tmp} {p : Path} {k : View} {n : Nat} (h : F.slot t = .pl r p k n) (hr : r ∈ R) : F.masked R t = .pl r p k n := by
  unfold RF.masked; rw [h]; simp [hr]

def look : List (Tmp × Slot) → Tmp → Option Slot
  | [], _ => none
  | (u, s) :: us, t => if t = u then some s else look us t
def times : List (Tmp × Slot) → Tmp → Nat
  | [], _ => 0
  | (u, s) :: us, t => if t = u then times us t + 1 else times us t
theorem slot_sets {t : Tmp} : ∀ {U : List (Tmp × Slot)}, (F.sets U).slot t = (look U t).getD (F.slot t)
  | [] => rfl
  | (u, s) :: U => by simp only [RF.sets, RF.slot_set, look]; split <;> simp [slot_sets (U := U)]
theorem ver_sets {t : Tmp} : ∀ {U : List (Tmp × Slot)}, (F.sets U).ver t = F.ver t + times U t
  | [] => rfl
  | (u, s) :: U => by
    simp only [RF.sets, RF.ver_set, times]; split
    · rename_i e; subst e; rw [ver_sets (U := U)]; omega
    · exact ver_sets
theorem cnt_sets {t : Tmp} : ∀ {U : List (Tmp × Slot)}, (F.sets U).cnt t = F.cnt t
  | [] => rfl
  | (u, s) :: U => by simp only [RF.sets, RF.cnt_set]; exact cnt_sets
theorem times_none {t : Tmp} : ∀ {U : List (Tmp × Slot)}, look U t = none ↔ times U t = 0
  | [] => by simp [look, times]
  | (u, s) :: U => by
    simp only [look, times]; split
    · simp
    · exact times_none
theorem look_mem {t : Tmp} {s : Slot} : ∀ {U : List (Tmp × Slot)}, look U t = some s → (t, s) ∈ U
  | [], h => by simp [look] at h
  | (u, s') :: U, h => by
    simp only [look] at h; split at h
    · rename_i e; subst e; obtain rfl := Option.some.inj h; simp
    · exact List.mem_cons_of_mem _ (look_mem h)

/-- what a slot holds, behind a row of writes -/
def app (U : List (Tmp × Slot)) (t : Tmp) (x : Slot × Nat × Nat) : Slot × Nat × Nat := ((look U t).getD x.1, x.2.1 + times U t, x.2.2)
theorem find_sets {t : Tmp} {U : List (Tmp × Slot)} : (F.sets U).find t = app U t (F.find t) := by
  have h1 := slot_sets (F := F) (t := t) (U := U)
  have h2 := ver_sets (F := F) (t := t) (U := U)
  have h3 := cnt_sets (F := F) (t := t) (U := U)
  simp only [RF.slot, RF.ver, RF.cnt] at h1 h2 h3
  simp only [app, ← h1, ← h2, ← h3]
theorem app_id {t : Tmp} {U : List (Tmp × Slot)} {x : Slot × Nat × Nat} (h : look U t = none) : app U t x = x := by simp [app, h, times_none.1 h]

/-- the part of a context that slots R make -/
def cut (X : Cx) (w : World) (φ : Tmp → List Nat) (tm : Tmp → Value) (F : RF) (R : List Tmp) : Cx :=
  ⟨fun b => (∃ t, t ∈ R ∧ b ∈ φ t) ∨ w.heap.size ≤ b, X.G, fun r p k n v => r ∈ R ∧ ∃ t, F.slot t = .pl r p k n ∧ v = tm t⟩

theorem Rel.mask (h : Rel X Z w φ tm F) (R : List Tmp) : Rel (cut X w φ tm F R) Z w (fun t => if t ∈ R then φ t else []) tm (F.mask R) where
  nodup t := by by_cases e : t ∈ R <;> simp [e, h.nodup]
  disj t u b := by
    by_cases e : t ∈ R <;> by_cases e' : u ∈ R <;> simp only [e, e', if_true, if_false]
    · exact h.disj t u b
    · intro _ h; simp at h
    · intro h; simp at h
    · intro h; simp at h
  mine t b := by
    by_cases e : t ∈ R <;> simp only [e, if_true, if_false]
    · exact fun hb => .inl ⟨t, e, hb⟩
    · intro h; simp at h
  vals t x hs := by
    rw [slot_mask] at hs
    split at hs
    · rename_i e; simp only [e, if_true]; exact h.vals t x (masked_val.1 hs)
    · cases hs
  rest t hs := by
    by_cases e : t ∈ R
    · simp only [e, if_true]
      exact h.rest t (fun x hx => hs x (by rw [slot_mask, if_pos e]; exact masked_val.2 hx))
    · simp [e]
  vle t r p k n hs := by
    rw [slot_mask] at hs
    split at hs
    · obtain ⟨h1, h2⟩ := masked_pl hs; rw [ver_mask, if_pos h2]; exact h.vle t r p k n h1
    · cases hs
  pls t r p k n hs hok := by
    rw [slot_mask] at hs
    split at hs
    · obtain ⟨h1, h2⟩ := masked_pl hs
      have hok' : F.ok r k n = true := by simpa only [RF.ok, ver_mask, cnt_mask, if_pos h2] using hok
      obtain ⟨x, y, u, hx, hf, hv⟩ := h.pls t r p k n h1 hok'
      exact ⟨x, y, u, by rw [slot_mask, if_pos h2]; exact masked_val.2 hx, hf, hv⟩
    · cases hs
  glob := h.glob
  gle := by
    rintro r p k n v ⟨hr, t, ht, rfl⟩
    rw [ver_mask, if_pos hr]; exact h.vle t r p k n ht
  gpl := by
    rintro r p k n v ⟨hr, t, ht, rfl⟩ hok
    have hok' : F.ok r k n = true := by simpa only [RF.ok, ver_mask, cnt_mask, if_pos hr] using hok
    obtain ⟨x, y, u, hx, hf, hv⟩ := h.pls t r p k n ht hok'
    exact ⟨x, y, u, by rw [slot_mask, if_pos hr]; exact masked_val.2 hx, hf, hv⟩

theorem Rel.own (h : Rel X Z w φ tm F) {t : Tmp} {b : Nat} (hb : b ∈ φ t) : b < w.heap.size ∧ Z b := by
  cases hs : F.slot t with
  | val x => exact RepV_lt (h.vals t x hs) b hb
  | _ => rw [h.rest t (fun x hx => by rw [hs] at hx; cases hx)] at hb; simp at hb

def keysOk (R : List Tmp) (U : List (Tmp × Slot)) : Bool :=
  U.all fun e => R.contains e.1 && match e.2 with | .pl r _ _ _ => R.contains r | _ => true
theorem keysOk_mem {R : List Tmp} {U : List (Tmp × Slot)} (h : keysOk R U = true) {t : Tmp} {s : Slot} (hl : look U t = some s) : t ∈ R ∧ ∀ r p k n, s = .pl r p k n → r ∈ R := by
  have := List.all_eq_true.1 h _ (look_mem hl)
  simp only [Bool.and_eq_true, List.contains_eq_mem, decide_eq_true_eq] at this
  refine ⟨this.1, fun r p k n e => ?_⟩
  subst e; simpa using this.2

theorem tput_ne {d : Option Tmp} {v : Value} {t : Tmp} (h : d ≠ some t) : tput tm d v t = tm t := by
  cases d with
  | none => rfl
  | some u => exact upd_ne _ _ (fun e => h (by rw [e]))

theorem Rel.unmask (hl : ∀ r p k n v, ¬ X.gh r p k n v) (h : Rel X Z w φ tm F) (hnew : ∀ b, w.heap.size ≤ b → X.mine b) {R : List Tmp} {U : List (Tmp × Slot)} {d : Option Tmp} {v : Value} {w' : World} {Z' : Nat → Prop}
    {φ1 : Tmp → List Nat} (hU : keysOk R U = true) (hd : ∀ t, d = some t → look U t ≠ none) (h1 : Rel (cut X w φ tm F R) Z' w' φ1 (tput tm d v) ((F.mask R).sets U))
    (hs : Stp (cut X w φ tm F R).mine w w') (hz : ZOk (cut X w φ tm F R).mine w Z Z') : Rel X Z' w' (fun t => if t ∈ R then φ1 t else φ t) (tput tm d v) (F.sets U) := by
  have hin : ∀ {t s}, look U t = some s → t ∈ R := fun hl => (keysOk_mem hU hl).1
  have hout : ∀ {t}, t ∉ R → look U t = none := by
    intro t ht
    cases hl : look U t with
    | none => rfl
    | some s => exact absurd (hin hl) ht
  have hdR : ∀ {t}, look U t = none → d ≠ some t := fun hn e => hd _ e hn
  have hvalR : ∀ {t x}, t ∈ R → ((F.sets U).slot t = .val x ↔ ((F.mask R).sets U).slot t = .val x) := by
    intro t x ht
    rw [slot_sets, slot_sets, slot_mask, if_pos ht]
    cases look U t with
    | some s => rfl
    | none => exact masked_val.symm
  have hmineX : ∀ {b}, (cut X w φ tm F R).mine b → X.mine b := by
    rintro b (⟨t, _, hb⟩ | hb)
    · exact h.mine t b hb
    · exact hnew b hb
  have hkeep : ∀ {u}, u ∉ R → Keeps w w' Z Z' (φ u) := by
    intro u hu b hb hor
    have hn : ¬ (cut X w φ tm F R).mine b := by
      rintro (⟨t, ht, hbt⟩ | hb2)
      · rcases hor with hbu | hnz
        · exact hu (h.disj t u b hbt hbu ▸ ht)
        · exact hnz (h.own hbt).2
      · omega
    exact ⟨hz b hb hn, hs.block b hb hn⟩
  have hokR : ∀ {r k n}, r ∈ R → ((F.sets U).ok r k n = ((F.mask R).sets U).ok r k n) := by
    intro r k n hr
    simp only [RF.ok, ver_sets, cnt_sets, ver_mask, cnt_mask, if_pos hr]
  refine ⟨?_, ?_, ?_, ?_, ?_, ?_, ?_, h1.glob, fun r p k n v hg => absurd hg (hl r p k n v), fun r p k n v hg => absurd hg (hl r p k n v)⟩
  · intro t; by_cases e : t ∈ R <;> simp only [e, if_true, if_false]
    · exact h1.nodup t
    · exact h.nodup t
  · have hx : ∀ {t u b}, t ∈ R → u ∉ R → b ∈ φ1 t → b ∉ φ u := by
      intro t u b ht hu hb hbu
      rcases h1.mine t b hb with ⟨r, hr, hbr⟩ | hb2
      · exact hu (h.disj r u b hbr hbu ▸ hr)
      · have := (h.own hbu).1; omega
    intro t u b
    by_cases e : t ∈ R <;> by_cases e' : u ∈ R <;> simp only [e, e', if_true, if_false]
    · exact h1.disj t u b
    · exact fun h2 h3 => absurd h3 (hx e e' h2)
    · exact fun h2 h3 => absurd h2 (hx e' e h3)
    · exact h.disj t u b
  · intro t b
    by_cases e : t ∈ R <;> simp only [e, if_true, if_false]
    · exact fun hb => hmineX (h1.mine t b hb)
    · exact h.mine t b
  · intro t x hs'
    by_cases e : t ∈ R <;> simp only [e, if_true, if_false]
    · exact h1.vals t x ((hvalR e).1 hs')
    · rw [slot_sets, hout e] at hs'
      rw [tput_ne (hdR (hout e))]
      exact RepV_frame (hkeep e) (h.vals t x hs')
  · intro t hs'
    by_cases e : t ∈ R <;> simp only [e, if_true, if_false]
    · exact h1.rest t fun x hx => hs' x ((hvalR e).2 hx)
    · exact h.rest t fun x hx => hs' x (by rw [slot_sets, hout e]; exact hx)
  · intro t r p k n hs'
    rw [slot_sets] at hs'
    cases hlk : look U t with
    | some s =>
      rw [hlk] at hs'
      obtain rfl : s = .pl r p k n := hs'
      obtain ⟨ht, hr⟩ := keysOk_mem hU hlk
      have := h1.vle t r p k n (by rw [slot_sets, hlk]; rfl)
      rw [ver_sets, ver_mask, if_pos (hr r p k n rfl)] at this
      rw [ver_sets]; exact this
    | none =>
      rw [hlk] at hs'
      have := h.vle t r p k n hs'
      rw [ver_sets]; omega
  · intro t r p k n hs' hok
    have toF : ∀ {vt : Value}, r ∈ R → PlOk w' ((F.mask R).sets U) (tput tm d v) r p k vt → PlOk w' (F.sets U) (tput tm d v) r p k vt := by
      rintro vt hr ⟨x, y, u, hx, hf, hv⟩
      exact ⟨x, y, u, (hvalR hr).2 hx, hf, hv⟩
    rw [slot_sets] at hs'
    cases hlk : look U t with
    | some s =>
      rw [hlk] at hs'
      obtain rfl : s = .pl r p k n := hs'
      obtain ⟨ht, hr⟩ := keysOk_mem hU hlk
      have hr := hr r p k n rfl
      exact toF hr (h1.pls t r p k n (by rw [slot_sets, hlk]; rfl) (by rw [← hokR hr]; exact hok))
    | none =>
      rw [hlk] at hs'
      have hs' : F.slot t = .pl r p k n := hs'
      have hle := h.vle t r p k n hs'
      have hver := RF.ok_ver hok
      rw [ver_sets] at hver
      have ht0 : times U r = 0 := by omega
      have hrn := times_none.2 ht0
      have hokF : F.ok r k n = true := by simpa only [RF.ok, ver_sets, cnt_sets, ht0, Nat.add_zero] using hok
      rw [tput_ne (hdR hlk)]
      by_cases hr : r ∈ R
      · exact toF hr (h1.gpl r p k n (tm t) ⟨hr, t, hs', rfl⟩ (by rw [← hokR hr]; exact hok))
      · obtain ⟨x, y, u, hx, hf, hv⟩ := h.plOk_keep (h.pls t r p k n hs' hokF) (hkeep hr)
        exact ⟨x, y, u, by rw [slot_sets, hrn]; exact hx, by rw [tput_ne (hdR hrn)]; exact hf, hv⟩
end Go.V
/- Rows whose order is drawn: told in the text's order, if no operation looks at what another writes, unless one waits for the other. -/
namespace Go.V
set_option linter.unusedVariables false
set_option linter.unusedSimpArgs false
variable {X : Cx} {Z : Nat → Prop} {w : World} {φ : Tmp → List Nat} {tm : Tmp → Value} {F : RF}

theorem Stp.mono {m m' : Nat → Prop} {w w' : World} (h : Stp m w w') (hm : ∀ b, m b → m' b) : Stp m' w w' :=
  ⟨h.os, h.tape, h.output, h.size, fun b hb hn => h.block b hb fun k => hn (hm b k)⟩

theorem step_dst {E : Env} {ops : Array Oper} {o : Oper} {F F' : RF} (h : step E ops o F = some F') : dstOk E o = true := by
  unfold step at h; split at h
  · assumption
  · cases h

theorem step_out {E : Env} (hT : TblOk E) {ops : Array Oper} {o : Oper} {a : Act} {F' : RF} {K : Act → World → Prop} {Q : Exit → Act → World → Prop} (hp : Pre E X Z w φ a F) (hsz : a.tmps.size = E.nt) (hs : step E ops o F = some F')
    (hK : ∀ v w', Out X Z w (tmOf E.nt a) o.dst F' v w' → K (a.put o.dst v) w') : if Region.wanted o (yielded ops a.tmps) then o.wp E.P a w K Q else K (a.put o.dst undef) w := by
  unfold step at hs
  split at hs
  case isFalse => cases hs
  case isTrue hd =>
  have run : sem E o F = some F' → o.wp E.P a w K Q := fun hs => sem_ok hT hp hs K Q hK
  split at hs
  · rename_i hg
    rw [if_pos (by simp [Region.wanted, hg])]
    exact run hs
  · rename_i j want hg
    split at hs
    case h_2 => cases hs
    rename_i t ht
    have skip : Out X Z w (tmOf E.nt a) o.dst (setD F o.dst (.val (.tup []))) undef w := by
      obtain ⟨φ', hr⟩ := hp.rel.outVal (d := o.dst) (x := .tup []) (v := undef) (φx := []) (RepV_tup.2 ⟨[], rfl, by simp [RepTs]⟩) List.nodup_nil (by simp) (by simp)
      exact ⟨Z, φ', hr, Stp.refl _ _, fun _ _ _ => Iff.rfl⟩
    split at hs
    case h_3 => cases hs
    · rename_i b hc
      split at hs
      case isFalse => cases hs
      case isTrue htn =>
      obtain ⟨φy, hr, _⟩ := hp.rel.content hc
      rw [RepV_cell rfl] at hr
      simp only [Rep] at hr
      have hv : tmOf E.nt a t = .bool b := by simpa using hr.2.1
      have hy : yielded ops a.tmps j = some b := by
        have h1 : a.tmps[t]? = some (.bool b) := by
          simp only [tmOf, htn, if_true, Array.getD_eq_getD_getElem?] at hv
          have : t < a.tmps.size := by rw [hsz]; exact htn
          rw [Array.getElem?_eq_getElem this] at hv ⊢
          simpa using hv
        simp [yielded, ht, h1]
      by_cases hw : b = want
      · rw [if_pos hw] at hs
        rw [if_pos (by simp [Region.wanted, hg, hy, hw])]
        exact run hs
      · rw [if_neg hw] at hs
        obtain rfl := Option.some.inj hs
        rw [if_neg (by simp [Region.wanted, hg, hy, hw])]
        refine hK _ _ ?_
        exact skip
    · rename_i hc
      split at hs
      case isFalse => cases hs
      case isTrue htn =>
      obtain ⟨φy, hr, _⟩ := hp.rel.content hc
      rw [RepV_tup] at hr
      obtain ⟨vs, hv, hr⟩ := hr
      simp only [RepTs] at hr
      obtain rfl := hr.2
      have hy : yielded ops a.tmps j = none := by
        have h1 : a.tmps[t]? = some (.tuple #[]) := by
          simp only [tmOf, htn, if_true, Array.getD_eq_getD_getElem?] at hv
          have : t < a.tmps.size := by rw [hsz]; exact htn
          rw [Array.getElem?_eq_getElem this] at hv ⊢
          simpa using hv
        simp [yielded, ht, h1]
      obtain rfl := Option.some.inj hs
      rw [if_neg (by simp [Region.wanted, hg, hy])]
      refine hK _ _ ?_
      exact skip

/-- what one operation looks at and writes -/
structure Rec where
  o : Oper
  R : List Tmp
  U : List (Tmp × Slot)
def dstIn (o : Oper) (U : List (Tmp × Slot)) : Bool := match o.dst with | some t => (look U t).isSome | none => true
structure Rec.Good (E : Env) (ops : Array Oper) (F : RF) (r : Rec) : Prop where
  step : step E ops r.o (F.mask r.R) = some ((F.mask r.R).sets r.U)
  keys : keysOk r.R r.U = true
  dst : dstIn r.o r.U = true

theorem Rec.Good.congr {E : Env} {ops : Array Oper} {F G : RF} {r : Rec} (h : r.Good E ops F) (hf : ∀ t ∈ r.R, F.find t = G.find t) : r.Good E ops G :=
  ⟨by rw [← mask_congr hf]; exact h.step, h.keys, h.dst⟩

theorem Rec.Good.run {E : Env} (hT : TblOk E) {tm0 : Tmp → Value} {w0 : World} {Z0 : Nat → Prop} {ops : Array Oper} {r : Rec} {a : Act} {K : Act → World → Prop} {Q : Exit → Act → World → Prop} (hg : r.Good E ops F)
    (h : Inv E X tm0 w0 Z0 F a w) (hK : ∀ a' w', Inv E X tm0 w0 Z0 (F.sets r.U) a' w' → K a' w') : if Region.wanted r.o (yielded ops a.tmps) then r.o.wp E.P a w K Q else K (a.put r.o.dst undef) w := by
  obtain ⟨Z, φ, hp, hz⟩ := h.ex
  have hpre : Pre E (cut X w φ (tmOf E.nt a) F r.R) Z w (fun t => if t ∈ r.R then φ t else []) a (F.mask r.R) := ⟨hp.rel.mask r.R, fun b hb => .inr hb, hp.glob⟩
  refine step_out hT hpre h.size hg.step fun v w' ho => hK _ _ ?_
  obtain ⟨Z', φ1, h1, hs, hz1⟩ := ho
  have hm : ∀ b, (cut X w φ (tmOf E.nt a) F r.R).mine b → X.mine b := by
    rintro b (⟨t, _, hb⟩ | hb)
    · exact hp.rel.mine t b hb
    · exact hp.new b hb
  refine h.out hz hp.glob (step_dst hg.step) ⟨Z', _, Rel.unmask h.lone hp.rel hp.new hg.keys ?_ h1 hs hz1, hs.mono hm, fun b hb hn => hz1 b hb fun k => hn (hm b k)⟩
  intro t ht hn
  have := hg.dst
  simp [dstIn, ht, hn] at this

/-- what a slot holds, when the operations of S are done -/
def pf (S : Nat → Bool) (t : Tmp) : Nat → List Rec → Slot × Nat × Nat → Slot × Nat × Nat
  | _, [], x => x
  | i, r :: rs, x => pf S t (i + 1) rs (if S i = true then app r.U t x else x)
theorem pf_congr {S S' : Nat → Bool} {t : Tmp} : ∀ {rs : List Rec} {i : Nat} {x : Slot × Nat × Nat}, (∀ k r, rs[k]? = some r → look r.U t ≠ none → S (i + k) = S' (i + k)) → pf S t i rs x = pf S' t i rs x
  | [], i, x, h => rfl
  | r :: rs, i, x, h => by
    have h0 : (if S i = true then app r.U t x else x) = (if S' i = true then app r.U t x else x) := by
      by_cases hl : look r.U t = none
      · simp [app_id hl]
      · have := h 0 r (by simp) hl; simp only [Nat.add_zero] at this; rw [this]
    simp only [pf, h0]
    exact pf_congr fun k r' hk hl => by rw [show i + 1 + k = i + (k + 1) by omega]; exact h (k + 1) r' (by simpa using hk) hl
theorem pf_none {S : Nat → Bool} {t : Tmp} : ∀ {rs : List Rec} {i : Nat} {x : Slot × Nat × Nat}, (∀ k r, rs[k]? = some r → S (i + k) = true → look r.U t = none) → pf S t i rs x = x
  | [], i, x, h => rfl
  | r :: rs, i, x, h => by
    have h0 : (if S i = true then app r.U t x else x) = x := by
      split
      · rename_i hs; exact app_id (h 0 r (by simp) (by simpa using hs))
      · rfl
    simp only [pf, h0]
    exact pf_none fun k r' hk hs => h (k + 1) r' (by simpa using hk) (by rw [show i + (k + 1) = i + 1 + k by omega]; exact hs)
theorem pf_add {S S' : Nat → Bool} {t : Tmp} {j : Nat} : ∀ {rs : List Rec} {i m : Nat} {rj : Rec} {x : Slot × Nat × Nat}, i + m = j → rs[m]? = some rj → S j = false → S' j = true → (∀ k, k ≠ j → S' k = S k) →
    (∀ k r, rs[k]? = some r → j < i + k → S (i + k) = true → look rj.U t ≠ none → look r.U t = none) → pf S' t i rs x = app rj.U t (pf S t i rs x)
  | [], i, m, rj, x, _, hr, _, _, _, _ => by simp at hr
  | r :: rs, i, 0, rj, x, hi, hr, hs, hs', hne, hd => by
    obtain rfl : r = rj := by simpa using hr
    obtain rfl : i = j := by simpa using hi
    simp only [pf, hs, hs', if_true, Bool.false_eq_true, if_false]
    have hcong : ∀ y, pf S' t (i + 1) rs y = pf S t (i + 1) rs y := fun y => pf_congr fun k r' _ _ => hne _ (by omega)
    rw [hcong]
    by_cases hl : look r.U t = none
    · rw [app_id hl, app_id hl]
    · have h0 : ∀ y, pf S t (i + 1) rs y = y := fun y => pf_none fun k r' hk hsk =>
        hd (k + 1) r' (by simpa using hk) (by omega) (by rw [show i + (k + 1) = i + 1 + k by omega]; exact hsk) hl
      rw [h0, h0]
  | r :: rs, i, m + 1, rj, x, hi, hr, hs, hs', hne, hd => by
    simp only [pf]
    rw [hne i (by omega)]
    exact pf_add (m := m) (by omega) (by simpa using hr) hs hs' hne fun k r' hk hlt hsk hl => hd (k + 1) r' (by simpa using hk) (by omega) (by rw [show i + (k + 1) = i + 1 + k by omega]; exact hsk) hl

/-! ### In the text's order -/
def opTmps (E : Env) (ops : Array Oper) (o : Oper) : List Tmp :=
  o.op.operands.toList.filterMap E.at ++ match o.guard with
    | some (j, _) => ((ops[j]?).bind (·.dst)).toList
    | none => []
def reads (E : Env) (ops : Array Oper) (o : Oper) (F : RF) : List Tmp :=
  o.dst.toList ++ (opTmps E ops o).flatMap fun t => match F.slot t with | .pl r _ _ _ => [t, r] | _ => [t]
def delta (n : Nat) (F : RF) : List (Tmp × Slot) := (List.take (F.length - n) F).map fun e => (e.1, e.2.1)
theorem sets_length : ∀ {U : List (Tmp × Slot)}, (F.sets U).length = U.length + F.length
  | [] => by simp [RF.sets]
  | (t, s) :: U => by simp only [RF.sets, RF.set, List.length_cons, sets_length (U := U)]; omega
theorem delta_sets {F : RF} : ∀ {U : List (Tmp × Slot)}, delta F.length (F.sets U) = U
  | [] => by simp [delta, RF.sets]
  | (t, s) :: U => by
    have : delta F.length (F.sets U) = U := delta_sets
    simp only [delta, sets_length, Nat.add_sub_cancel] at this ⊢
    have hl : ((t, s) :: U).length = U.length + 1 := rfl
    rw [hl]
    simp only [RF.sets, RF.set, List.take_succ_cons, List.map_cons, this]
def stepM (E : Env) (ops : Array Oper) (o : Oper) (F : RF) : Option Rec :=
  let R := reads E ops o F
  (step E ops o (F.mask R)).bind fun F1 => let U := delta R.length F1; if keysOk R U = true ∧ dstIn o U = true then some ⟨o, R, U⟩ else none
theorem stepM_good {E : Env} {ops : Array Oper} {o : Oper} {r : Rec} (h : stepM E ops o F = some r) : r.o = o ∧ r.Good E ops F := by
  simp only [stepM, Option.bind_eq_some_iff] at h
  obtain ⟨F1, h1, h2⟩ := h
  split at h2
  case isFalse => cases h2
  case isTrue hc =>
  obtain rfl := Option.some.inj h2
  obtain ⟨U, rfl⟩ := step_ext _ h1
  have hl : (F.mask (reads E ops o F)).length = (reads E ops o F).length := by simp [RF.mask]
  rw [← hl, delta_sets] at hc ⊢
  exact ⟨rfl, h1, hc.1, hc.2⟩

def record (E : Env) (ops : Array Oper) : List Oper → RF → Option (List Rec × RF)
  | [], F => some ([], F)
  | o :: os, F => (stepM E ops o F).bind fun r => (record E ops os (F.sets r.U)).map fun q => (r :: q.1, q.2)
theorem record_spec {E : Env} {ops : Array Oper} : ∀ {os : List Oper} {F F' : RF} {rs : List Rec} {i : Nat}, record E ops os F = some (rs, F') → rs.length = os.length ∧
    (∀ t, F'.find t = pf (fun _ => true) t i rs (F.find t)) ∧ ∀ k r, rs[k]? = some r → os[k]? = some r.o ∧ ∃ G : RF, r.Good E ops G ∧ ∀ t, G.find t = pf (fun m => decide (m < i + k)) t i rs (F.find t)
  | [], F, F', rs, i, h => by
    simp only [record, Option.some.injEq, Prod.mk.injEq] at h
    obtain ⟨rfl, rfl⟩ := h
    exact ⟨rfl, fun t => rfl, by simp⟩
  | o :: os, F, F', rs, i, h => by
    simp only [record, Option.bind_eq_some_iff, Option.map_eq_some_iff, Prod.mk.injEq] at h
    obtain ⟨r, hr, ⟨rs', F1⟩, hq, rfl, rfl⟩ := h
    obtain ⟨rfl, hg⟩ := stepM_good hr
    obtain ⟨h1, h2, h3⟩ := record_spec (i := i + 1) hq
    refine ⟨by simp [h1], fun t => ?_, fun k r' hk => ?_⟩
    · rw [h2, find_sets]; simp only [pf, if_true]
    · cases k with
      | zero =>
        obtain rfl : r = r' := by simpa using hk
        refine ⟨rfl, F, hg, fun t => ?_⟩
        rw [pf_none]
        intro k r' _ hs; simp only [decide_eq_true_eq] at hs; omega
      | succ k =>
        obtain ⟨k1, G, k2, k3⟩ := h3 k r' (by simpa using hk)
        refine ⟨by simpa using k1, G, k2, fun t => ?_⟩
        rw [k3, find_sets]
        simp only [pf]
        rw [if_pos (by simp)]
        refine pf_congr fun m _ _ _ => ?_
        rw [show i + (k + 1) = i + 1 + k by omega]

/-! ### Who waits for whom -/
def direct (o : Oper) : List Nat := (o.after.toList.filter (Region.binds .any)).map (·.on)
def addL : List Nat → List Nat → List Nat
  | [], s => s
  | k :: ks, s => addL ks (if s.contains k = true then s else k :: s)
theorem mem_addL {x : Nat} : ∀ {l s : List Nat}, x ∈ addL l s ↔ x ∈ l ∨ x ∈ s
  | [], s => by simp [addL]
  | k :: l, s => by
    simp only [addL, mem_addL (l := l), List.mem_cons]
    split
    · rename_i h
      have h : k ∈ s := by simpa using h
      constructor
      · rintro (h1 | h1)
        · exact .inl (.inr h1)
        · exact .inr h1
      · rintro ((rfl | h1) | h1)
        · exact .inr h
        · exact .inl h1
        · exact .inr h1
    · simp only [List.mem_cons]
      constructor
      · rintro (h1 | h1 | h1)
        · exact .inl (.inr h1)
        · exact .inl (.inl h1)
        · exact .inr h1
      · rintro ((h1 | h1) | h1)
        · exact .inr (.inl h1)
        · exact .inl h1
        · exact .inr (.inr h1)
def addA (acc : List (List Nat)) : List Nat → List Nat
  | [] => []
  | k :: ks => addL (k :: acc.getD k []) (addA acc ks)
theorem mem_addA {acc : List (List Nat)} {x : Nat} : ∀ {ks : List Nat}, x ∈ addA acc ks ↔ ∃ k ∈ ks, x ∈ k :: acc.getD k []
  | [] => by simp [addA]
  | k :: ks => by
    simp only [addA, mem_addL, mem_addA (ks := ks)]
    constructor
    · rintro (h | ⟨m, hm, h⟩)
      · exact ⟨k, by simp, h⟩
      · exact ⟨m, by simp [hm], h⟩
    · rintro ⟨m, hm, h⟩
      rcases List.mem_cons.1 hm with rfl | hm
      · exact .inl h
      · exact .inr ⟨m, hm, h⟩
def ancT : List (List Nat) → List Oper → List (List Nat)
  | acc, [] => acc
  | acc, o :: os => ancT (acc ++ [addA acc (direct o)]) os
def sep (r s : Rec) : Bool := r.U.all fun e => !s.R.contains e.1
def indepAt (T : List (List Nat)) (rs : List Rec) (j : Nat) (s : Rec) : Nat → List Rec → Bool
  | _, [] => true
  | i, r :: rs' => (!decide (i < j) || (T.getD j []).contains i || (sep r s && sep s r)) && indepAt T rs j s (i + 1) rs'
def indepL (T : List (List Nat)) (rs : List Rec) : Nat → List Rec → Bool
  | _, [] => true
  | j, s :: ss => indepAt T rs j s 0 rs && indepL T rs (j + 1) ss
def backs : Nat → List Oper → Bool
  | _, [] => true
  | i, o :: os => (direct o).all (fun k => decide (k < i)) && backs (i + 1) os
def drawOk (ops : List Oper) (rs : List Rec) : Bool := backs 0 ops && indepL (ancT [] ops) rs 0 rs

/-- closed under waiting -/
def Shut (ops : List Oper) (S : Nat → Bool) : Prop := ∀ i o, ops[i]? = some o → S i = true → ∀ k ∈ direct o, S k = true
theorem anc_spec {all : List Oper} {S : Nat → Bool} (hS : Shut all S) : ∀ {os : List Oper} {acc : List (List Nat)} {pre : List Oper}, all = pre ++ os → acc.length = pre.length →
    (∀ j o, all[j]? = some o → j < acc.length → (∀ k ∈ direct o, S k = true) → ∀ k ∈ acc.getD j [], S k = true) →
    ∀ j o, all[j]? = some o → (∀ k ∈ direct o, S k = true) → ∀ k ∈ (ancT acc os).getD j [], S k = true
  | [], acc, pre, ha, hl, hacc, j, o, ho, hd => by
    have hj : j < all.length := (List.getElem?_eq_some_iff.1 ho).1
    exact hacc j o ho (by rw [hl]; simpa [ha] using hj) hd
  | o' :: os, acc, pre, ha, hl, hacc, j, o, ho, hd => by
    simp only [ancT]
    refine anc_spec hS (pre := pre ++ [o']) (by simp [ha]) (by simp [hl]) ?_ j o ho hd
    intro i p hp hi hdp k hk
    by_cases hlt : i < acc.length
    · rw [List.getD_eq_getElem?_getD, List.getElem?_append_left hlt, ← List.getD_eq_getElem?_getD] at hk
      exact hacc i p hp hlt hdp k hk
    · have hi' : i = acc.length := by simp at hi; omega
      rw [List.getD_eq_getElem?_getD, List.getElem?_append_right (by omega)] at hk
      simp only [hi', Nat.sub_self, List.getElem?_cons_zero, Option.getD_some, mem_addA] at hk
      obtain ⟨m, hm, hkm⟩ := hk
      have hpo : p = o' := by
        have : all[i]? = some o' := by rw [ha, hi', hl]; simp
        rw [this] at hp; exact (Option.some.inj hp).symm
      subst hpo
      rcases List.mem_cons.1 hkm with rfl | hkm
      · exact hdp k hm
      · have hmS := hdp m hm
        by_cases hma : m < acc.length
        · have hm2 : m < all.length := by rw [ha]; simp; omega
          exact hacc m all[m] (List.getElem?_eq_getElem hm2) hma (hS m _ (List.getElem?_eq_getElem hm2) hmS) k hkm
        · rw [List.getD_eq_getElem?_getD, List.getElem?_eq_none (by omega)] at hkm; simp at hkm

theorem indepAt_spec {T : List (List Nat)} {rs0 : List Rec} {j : Nat} {s : Rec} : ∀ {rs : List Rec} {i : Nat}, indepAt T rs0 j s i rs = true → ∀ k r, rs[k]? = some r → i + k < j → (i + k) ∉ T.getD j [] → sep r s = true ∧ sep s r = true
  | [], i, h, k, r, hk, _, _ => by simp at hk
  | r :: rs, i, h, 0, r', hk, hlt, hn => by
    obtain rfl : r = r' := by simpa using hk
    simp only [indepAt, Bool.and_eq_true, Bool.or_eq_true, Bool.not_eq_true', decide_eq_false_iff_not, List.contains_eq_mem, decide_eq_true_eq] at h
    rcases h.1 with (h1 | h1) | h1
    · omega
    · exact absurd h1 hn
    · exact h1
  | r :: rs, i, h, k + 1, r', hk, hlt, hn => by
    simp only [indepAt, Bool.and_eq_true] at h
    exact indepAt_spec h.2 k r' (by simpa using hk) (by omega) (by rw [show i + 1 + k = i + (k + 1) by omega]; exact hn)
theorem indepL_spec {T : List (List Nat)} {rs0 : List Rec} : ∀ {ss : List Rec} {i : Nat}, indepL T rs0 i ss = true → ∀ k s, ss[k]? = some s → indepAt T rs0 (i + k) s 0 rs0 = true
  | [], i, h, k, s, hk => by simp at hk
  | s :: ss, i, h, 0, s', hk => by
    obtain rfl : s = s' := by simpa using hk
    simp only [indepL, Bool.and_eq_true] at h; exact h.1
  | s :: ss, i, h, k + 1, s', hk => by
    simp only [indepL, Bool.and_eq_true] at h
    rw [show i + (k + 1) = i + 1 + k by omega]
    exact indepL_spec h.2 k s' (by simpa using hk)
theorem backs_spec : ∀ {os : List Oper} {i : Nat}, backs i os = true → ∀ k o, os[k]? = some o → ∀ m ∈ direct o, m < i + k
  | [], i, h, k, o, hk => by simp at hk
  | o :: os, i, h, 0, o', hk => by
    obtain rfl : o = o' := by simpa using hk
    simp only [backs, Bool.and_eq_true, List.all_eq_true, decide_eq_true_eq] at h
    exact h.1
  | o :: os, i, h, k + 1, o', hk => by
    simp only [backs, Bool.and_eq_true] at h
    intro m hm
    have := backs_spec h.2 k o' (by simpa using hk) m hm
    omega
theorem sep_look {r s : Rec} (h : sep r s = true) {t : Tmp} (ht : t ∈ s.R) : look r.U t = none := by
  cases hl : look r.U t with
  | none => rfl
  | some x =>
    have := List.all_eq_true.1 h _ (look_mem hl)
    simp [ht] at this

def draw (E : Env) (ops : Array Oper) (F : RF) : Option RF :=
  (record E ops ops.toList F).bind fun q => if drawOk ops.toList q.1 = true then some q.2 else none

theorem mem_direct {o : Oper} {k : Nat} : k ∈ direct o ↔ ∃ e ∈ o.after, Region.binds .any e = true ∧ e.on = k := by
  simp only [direct, List.mem_map, List.mem_filter, Array.mem_toList_iff]
  constructor
  · rintro ⟨e, ⟨h1, h2⟩, h3⟩; exact ⟨e, h1, h2, h3⟩
  · rintro ⟨e, h1, h2, h3⟩; exact ⟨e, ⟨h1, h2⟩, h3⟩

theorem Inv.congr {E : Env} {tm0 : Tmp → Value} {w0 : World} {Z0 : Nat → Prop} {a : Act} {G : RF} (h : Inv E X tm0 w0 Z0 F a w) (hf : ∀ t, F.find t = G.find t) : Inv E X tm0 w0 Z0 G a w := by
  have h1 : ∀ t, G.slot t = F.slot t := fun t => by simp [RF.slot, hf t]
  have h2 : ∀ t, G.ver t = F.ver t := fun t => by simp [RF.ver, hf t]
  have h3 : ∀ t, G.cnt t = F.cnt t := fun t => by simp [RF.cnt, hf t]
  obtain ⟨Z, φ, hp, hz⟩ := h.ex
  have hpl : ∀ {r p k v}, PlOk w F (tmOf E.nt a) r p k v → PlOk w G (tmOf E.nt a) r p k v := fun ⟨x, y, u, hx, hf, hv⟩ => ⟨x, y, u, by rw [h1]; exact hx, hf, hv⟩
  have hok : ∀ {r k n}, G.ok r k n = F.ok r k n := by intro r k n; simp only [RF.ok, h2, h3]
  refine ⟨⟨Z, φ, ⟨⟨hp.rel.nodup, hp.rel.disj, hp.rel.mine, fun t x hs => hp.rel.vals t x (by rw [← h1]; exact hs), fun t hs => hp.rel.rest t fun x hx => hs x (by rw [h1]; exact hx), fun t r p k n hs => by rw [h2]; exact hp.rel.vle t r p k n (by rw [← h1]; exact hs),
    fun t r p k n hs hk => hpl (hp.rel.pls t r p k n (by rw [← h1]; exact hs) (by rw [← hok]; exact hk)), hp.rel.glob, fun r p k n v hg => by rw [h2]; exact hp.rel.gle r p k n v hg, fun r p k n v hg hk => hpl (hp.rel.gpl r p k n v hg (by rw [← hok]; exact hk))⟩, hp.new, hp.glob⟩, hz⟩,
    h.size, h.defers, h.stp, h.new, h.pin, h.lone⟩

theorem Inv.drawn {E : Env} {tm0 : Tmp → Value} {w0 : World} {Z0 : Nat → Prop} {a : Act} (h : Inv E X tm0 w0 Z0 F a w) : Inv E X tm0 w0 Z0 F a { w with drawn := w.drawn + 1 } := by
  obtain ⟨Z, φ, hp, hz⟩ := h.ex
  exact ⟨⟨Z, φ, ⟨hp.rel.keep fun b hb _ => ⟨Iff.rfl, rfl⟩, hp.new, hp.glob⟩, hz⟩, h.size, h.defers, ⟨h.stp.os, h.stp.tape, h.stp.output, h.stp.size, h.stp.block⟩, h.new, h.pin, h.lone⟩

theorem draw_any {E : Env} (hT : TblOk E) {tm0 : Tmp → Value} {w0 : World} {Z0 : Nat → Prop} {ops : Array Oper} {Q : Exit → Act → World → Prop} {F0 F' : RF} {rs : List Rec} (hrec : record E ops ops.toList F0 = some (rs, F')) (hok : drawOk ops.toList rs = true)
    (hQ : ∀ a' w', Inv E X tm0 w0 Z0 F' a' w' → Q .normal a' w') : ∀ (fuel : Nat) (listed : Array Bool) (todo : List Nat) (a : Act) (w : World) (F : RF), listed.size = ops.size → todo.Nodup → todo.length = fuel →
      (∀ i, i ∈ todo ↔ i < ops.size ∧ listed.getD i true = false) → Shut ops.toList (fun i => listed.getD i false) → (∀ t, F.find t = pf (fun i => listed.getD i false) t 0 rs (F0.find t)) →
      Inv E X tm0 w0 Z0 F a w → wpAny E.P .any ops Q fuel listed a w := by
  obtain ⟨hlen, hfin, hrs⟩ := record_spec (i := 0) hrec
  simp only [drawOk, Bool.and_eq_true] at hok
  have hgd : ∀ {listed : Array Bool} {i : Nat}, listed.size = ops.size → i < ops.size → listed.getD i false = listed.getD i true := by
    intro listed i hs hi
    simp [Array.getD_eq_getD_getElem?, Array.getElem?_eq_getElem (show i < listed.size by omega)]
  have hdone : ∀ (listed : Array Bool) (a : Act) (w : World) (F : RF), listed.size = ops.size → Region.ready .any ops listed = [] → (∀ t, F.find t = pf (fun i => listed.getD i false) t 0 rs (F0.find t)) → Inv E X tm0 w0 Z0 F a w → Q .normal a w := by
    intro listed a w F hsz hr hF hi
    have hall : ∀ i, i < ops.size → listed.getD i false = true := by
      intro i
      induction i using Nat.strongRecOn with
      | _ i ih =>
        intro hlt
        cases hl : listed.getD i false with
        | true => rfl
        | false =>
          have : i ∈ Region.ready .any ops listed := by
            rw [mem_ready]
            refine ⟨by rw [← hgd hsz hlt]; exact hl, ops[i], Array.getElem?_eq_getElem hlt, fun e he hb => ?_⟩
            have hb := backs_spec hok.1 i ops[i] (by simp [hlt]) e.on (mem_direct.2 ⟨e, he, hb, rfl⟩)
            exact ih e.on (by omega) (by omega)
          rw [hr] at this; cases this
    refine hQ a w (hi.congr fun t => ?_)
    rw [hF, hfin]
    refine pf_congr fun k r hk _ => ?_
    have := (List.getElem?_eq_some_iff.1 hk).1
    simp only [Nat.zero_add]
    exact hall k (by rw [hlen] at this; simpa using this)
  intro fuel
  induction fuel with
  | zero =>
    intro listed todo a w F hsz hnd htl htd hsh hF hi
    have htn : todo = [] := List.length_eq_zero_iff.1 htl
    have hr : Region.ready .any ops listed = [] := by
      refine List.eq_nil_iff_forall_not_mem.2 fun i hi => ?_
      obtain ⟨h0, o, ho, _⟩ := mem_ready.1 hi
      have := (htd i).2 ⟨(Array.getElem?_eq_some_iff.1 ho).1, h0⟩
      rw [htn] at this; cases this
    exact ⟨hr, hdone listed a w F hsz hr hF hi⟩
  | succ fuel ih =>
    intro listed todo a w F hsz hnd htl htd hsh hF hi
    refine ⟨fun hr => hdone listed a w F hsz hr hF hi, fun j hj => ?_⟩
    obtain ⟨hj0, o, ho, hafter⟩ := mem_ready.1 hj
    have hjlt : j < ops.size := (Array.getElem?_eq_some_iff.1 ho).1
    have hjS : listed.getD j false = false := by rw [hgd hsz hjlt]; exact hj0
    have hol : ops.toList[j]? = some o := by simpa using ho
    have hdir : ∀ k ∈ direct o, listed.getD k false = true := fun k hk => by
      obtain ⟨e, he, hb, rfl⟩ := mem_direct.1 hk
      exact hafter e he hb
    have hjr : j < rs.length := by rw [hlen]; simpa using hjlt
    obtain ⟨hro, G, hg, hGf⟩ := hrs j rs[j] (List.getElem?_eq_getElem hjr)
    obtain rfl : rs[j].o = o := by rw [hol] at hro; exact (Option.some.inj hro).symm
    -- who is done and does not stand ahead, who stands ahead and is not done: neither is looked at
    have hanc : ∀ {i : Nat} {p : Oper}, ops.toList[i]? = some p → (∀ k ∈ direct p, listed.getD k false = true) → ∀ k ∈ (ancT [] ops.toList).getD i [], listed.getD k false = true := by
      intro i p hp hd
      exact anc_spec hsh (acc := []) (pre := []) rfl rfl (fun j o _ hlt => by simp at hlt) i p hp hd
    have hsep : ∀ k r, rs[k]? = some r → (k < j ∧ listed.getD k false = false) ∨ (j < k ∧ listed.getD k false = true) → sep r rs[j] = true ∧ sep rs[j] r = true := by
      intro k r hk hc
      rcases hc with ⟨hlt, hS⟩ | ⟨hlt, hS⟩
      · have h1 := indepL_spec hok.2 j rs[j] (List.getElem?_eq_getElem hjr)
        rw [Nat.zero_add] at h1
        refine indepAt_spec h1 k r hk (by omega) ?_
        rw [Nat.zero_add]
        intro hm
        have := hanc hol hdir k hm
        rw [hS] at this; cases this
      · have h1 := indepL_spec hok.2 k r hk
        rw [Nat.zero_add] at h1
        have h2 := indepAt_spec h1 j rs[j] (List.getElem?_eq_getElem hjr) (by omega) (by
          rw [Nat.zero_add]
          intro hm
          obtain ⟨hro', _⟩ := hrs k r hk
          have := hanc hro' (hsh k r.o hro' hS) j hm
          rw [hjS] at this; cases this)
        exact ⟨h2.2, h2.1⟩
    have hgF : rs[j].Good E ops F := hg.congr fun t ht => by
      rw [hGf, hF]
      refine pf_congr fun k r hk hl => ?_
      simp only [Nat.zero_add]
      by_cases hlt : k < j
      · rw [decide_eq_true hlt]
        cases hS : listed.getD k false with
        | true => rfl
        | false => exact absurd (sep_look (hsep k r hk (.inl ⟨hlt, hS⟩)).1 ht) hl
      · rw [decide_eq_false hlt]
        cases hS : listed.getD k false with
        | false => rfl
        | true =>
          have hne : k ≠ j := fun e => by rw [e, hjS] at hS; cases hS
          exact absurd (sep_look (hsep k r hk (.inr ⟨by omega, hS⟩)).1 ht) hl
    have hset : ∀ k, (listed.setIfInBounds j true).getD k false = if k = j then true else listed.getD k false := by
      intro k
      by_cases e : k = j
      · subst e; simp [hsz, hjlt]
      · rw [if_neg e, getD_set_ne false (fun h => e h.symm)]
    have hrest : ∀ a' w', Inv E X tm0 w0 Z0 (F.sets rs[j].U) a' w' → wpAny E.P .any ops Q fuel (listed.setIfInBounds j true) a' w' := by
      intro a' w' hi'
      have hjt : j ∈ todo := (htd j).2 ⟨hjlt, hj0⟩
      refine ih (listed.setIfInBounds j true) (todo.erase j) a' w' _ (by simpa using hsz) (hnd.erase j) (by rw [List.length_erase_of_mem hjt, htl]; rfl) ?_ ?_ ?_ hi'
      · intro i
        rw [hnd.mem_erase_iff, htd i]
        constructor
        · rintro ⟨hne, h1, h2⟩; exact ⟨h1, by rw [getD_set_ne true (Ne.symm hne)]; exact h2⟩
        · rintro ⟨h1, h2⟩
          have hne : i ≠ j := by
            rintro rfl; simp [hsz, h1] at h2
          exact ⟨hne, h1, by rw [getD_set_ne true (Ne.symm hne)] at h2; exact h2⟩
      · intro i p hp hS k hk
        simp only [hset] at hS ⊢
        split at hS
        · rename_i e; subst e
          rw [hol] at hp; obtain rfl := Option.some.inj hp
          split
          · rfl
          · exact hdir k hk
        · split
          · rfl
          · exact hsh i p hp hS k hk
      · intro t
        rw [find_sets, hF]
        refine (pf_add (j := j) (m := j) (rj := rs[j]) (by omega) (List.getElem?_eq_getElem hjr) hjS (by rw [hset, if_pos rfl]) (fun k hk => by rw [hset, if_neg hk]) ?_).symm
        intro k r hk hlt hS hl
        rw [Nat.zero_add] at hlt hS
        have h2 := hsep k r hk (.inr ⟨hlt, hS⟩)
        cases hl2 : look rs[j].U t with
        | none => exact absurd hl2 hl
        | some s => exact sep_look h2.1 (keysOk_mem hg.keys hl2).1
    unfold wpOp
    rw [ho]
    have h3 := hgF.run hT (Q := Q) hi hrest
    simp only
    split
    · rename_i hw; rw [if_pos hw] at h3; exact .inl h3
    · rename_i hw; rw [if_neg hw] at h3; exact h3

theorem draw_ok {E : Env} (hT : TblOk E) (hm : E.P.follows .mixedOrders = true) : DrawOk E (draw E) := by
  intro X tm0 w0 Z0 ops id F F' a w Q hi hd hQ
  simp only [draw, Option.bind_eq_some_iff] at hd
  obtain ⟨⟨rs, F1⟩, hrec, hd⟩ := hd
  split at hd
  case isFalse => cases hd
  case isTrue hok =>
  obtain rfl := Option.some.inj hd
  refine wp_region_any hm (draw_any hT hrec hok hQ ops.size _ (List.range ops.size) a _ F (by simp) List.nodup_range (by simp) ?_ ?_ ?_ hi.drawn)
  · intro i
    rw [List.mem_range]
    constructor
    · intro h; exact ⟨h, by simp [h]⟩
    · exact fun h => h.1
  · intro i o _ hS
    exfalso
    by_cases h : i < ops.size
    · simp [h] at hS
    · simp [h] at hS
  · intro t
    rw [pf_none]
    intro k r _ hS
    exfalso
    rw [Nat.zero_add] at hS
    by_cases h : k < ops.size
    · simp [h] at hS
    · simp [h] at hS
end Go.V
/- The reckoning of a text, by rewriting. -/
namespace Go.V
set_option linter.unusedVariables false
set_option linter.unusedSimpArgs false

theorem pureRun_pure {P : Program} {α : Type} (a : α) : pureRun P (pure a : Sem α) = some a := rfl
theorem pureRun_bind {P : Program} {α β : Type} (s : Sem α) (k : α → Sem β) : pureRun P (s >>= k) = (pureRun P s).bind fun a => pureRun P (k a) := by
  show pureRun P (s.bind k) = _
  induction s with
  | pure a => rfl
  | program h ih => simp only [Sem.bind, pureRun]; exact ih P
  | _ => rfl

def binP (P : Program) (op : BinOp) (T : TypeId) (x y : Operand) (u v : Value) : Option PV :=
  (pureRun P (do eqGuard op T x y u v; binOp op T u v)).bind ofVal
theorem sem_bin {E : Env} {F : RF} {d : Option Tmp} {op : BinOp} {X Y R : TypeId} {x y : Operand} {pos : String} {af : Array Edge} {g : Option (Nat × Bool)} :
    sem E { dst := d, op := .binOp op X x y Y, type := R, pos := pos, after := af, guard := g } F =
      (E.vl F x).bind fun u => (E.vl F y).bind fun v => (binP E.P op X x y u v).map fun r => setD F d (.val r) := by
  show semPure E _ F = _
  unfold semPure
  rw [if_neg (by simp [isSel])]
  cases hx : E.vl F x with
  | none => simp [Op.operands, hx]
  | some u =>
    cases hy : E.vl F y with
    | none => simp [Op.operands, hy]
    | some v =>
      simp only [Op.operands, List.all_cons, List.all_nil, hx, hy, Option.isSome_some, Bool.and_self, if_true, Option.bind_some, execOp, Option.getD_some, pureRun_bind]
      simp only [binP, pureRun_bind]
      cases h1 : pureRun E.P (eqGuard op X x y u v) with
      | none => simp
      | some _ =>
        cases h2 : pureRun E.P (binOp op X u v) with
        | none => simp [h2]
        | some r => simp [h2, pureRun_pure]
def unP (P : Program) (op : UnOp) (u : Value) : Option PV := (pureRun P (Op.unary op u)).bind ofVal
theorem sem_un {E : Env} {F : RF} {d : Option Tmp} {op : UnOp} {X R : TypeId} {x : Operand} {pos : String} {af : Array Edge} {g : Option (Nat × Bool)} :
    sem E { dst := d, op := .unOp op X x, type := R, pos := pos, after := af, guard := g } F = (E.vl F x).bind fun u => (unP E.P op u).map fun r => setD F d (.val r) := by
  show semPure E _ F = _
  unfold semPure
  rw [if_neg (by simp [isSel])]
  cases hx : E.vl F x with
  | none => simp [Op.operands, hx]
  | some u =>
    simp only [Op.operands, List.all_cons, List.all_nil, hx, Option.isSome_some, Bool.and_self, if_true, Option.bind_some, execOp, Option.getD_some, pureRun_bind, unP]
    cases h2 : pureRun E.P (Op.unary op u) with
    | none => simp
    | some r => simp [pureRun_pure]

section
variable {P : Program} {T : TypeId} {x y : Operand} {k k' : IntKind} {a b : Int} {p q : Bool}
theorem bin_add : binP P .add T x y (.int k a) (.int k b) = some (.prim (.int k (k.wrap (a + b)))) := by simp [binP, eqGuard, binOp, Op.intArith, pureRun_bind, pureRun_pure, ofVal, ofVal1, flat]
theorem bin_sub : binP P .sub T x y (.int k a) (.int k b) = some (.prim (.int k (k.wrap (a - b)))) := by simp [binP, eqGuard, binOp, Op.intArith, pureRun_bind, pureRun_pure, ofVal, ofVal1, flat]
theorem bin_mul : binP P .mul T x y (.int k a) (.int k b) = some (.prim (.int k (k.wrap (a * b)))) := by simp [binP, eqGuard, binOp, Op.intArith, pureRun_bind, pureRun_pure, ofVal, ofVal1, flat]
theorem bin_quo (h : b ≠ 0) : binP P .quo T x y (.int k a) (.int k b) = some (.prim (.int k (k.wrap (a.tdiv b)))) := by simp [binP, eqGuard, binOp, Op.intDiv, h, pureRun_bind, pureRun_pure, ofVal, ofVal1, flat]
theorem bin_rem (h : b ≠ 0) : binP P .rem T x y (.int k a) (.int k b) = some (.prim (.int k (a.tmod b))) := by simp [binP, eqGuard, binOp, Op.intDiv, h, pureRun_bind, pureRun_pure, ofVal, ofVal1, flat]
theorem bin_lss : binP P .lss T x y (.int k a) (.int k b) = some (.prim (.bool (decide (a < b)))) := by simp [binP, eqGuard, binOp, Op.intCmp, pureRun_bind, pureRun_pure, ofVal, ofVal1, flat]
theorem bin_leq : binP P .leq T x y (.int k a) (.int k b) = some (.prim (.bool (decide (a ≤ b)))) := by simp [binP, eqGuard, binOp, Op.intCmp, pureRun_bind, pureRun_pure, ofVal, ofVal1, flat]
theorem bin_gtr : binP P .gtr T x y (.int k a) (.int k b) = some (.prim (.bool (decide (b < a)))) := by simp [binP, eqGuard, binOp, Op.intCmp, pureRun_bind, pureRun_pure, ofVal, ofVal1, flat]
theorem bin_geq : binP P .geq T x y (.int k a) (.int k b) = some (.prim (.bool (decide (b ≤ a)))) := by simp [binP, eqGuard, binOp, Op.intCmp, pureRun_bind, pureRun_pure, ofVal, ofVal1, flat]
theorem bin_eql : binP P .eql T x y (.int k a) (.int k b) = some (.prim (.bool (decide (a = b)))) := by
  simp [binP, eqGuard, binOp, Op.intCmp, pureRun_bind, pureRun_pure, ofVal, ofVal1, flat]; rfl
theorem bin_neq : binP P .neq T x y (.int k a) (.int k b) = some (.prim (.bool (decide (a ≠ b)))) := by
  simp [binP, eqGuard, binOp, Op.intCmp, pureRun_bind, pureRun_pure, ofVal, ofVal1, flat]; rfl
theorem bin_and : binP P .and T x y (.int k a) (.int k b) = some (.prim (.int k (k.wrap (BitVec.ofInt k.bits a &&& BitVec.ofInt k.bits b).toNat))) := by simp [binP, eqGuard, binOp, Op.intBits, pureRun_bind, pureRun_pure, ofVal, ofVal1, flat]
theorem bin_or : binP P .or T x y (.int k a) (.int k b) = some (.prim (.int k (k.wrap (BitVec.ofInt k.bits a ||| BitVec.ofInt k.bits b).toNat))) := by simp [binP, eqGuard, binOp, Op.intBits, pureRun_bind, pureRun_pure, ofVal, ofVal1, flat]
theorem bin_xor : binP P .xor T x y (.int k a) (.int k b) = some (.prim (.int k (k.wrap (BitVec.ofInt k.bits a ^^^ BitVec.ofInt k.bits b).toNat))) := by simp [binP, eqGuard, binOp, Op.intBits, pureRun_bind, pureRun_pure, ofVal, ofVal1, flat]
theorem bin_shl (h : 0 ≤ b) : binP P .shl T x y (.int k a) (.int k' b) = some (.prim (.int k (k.wrap (a * 2 ^ (min b.toNat k.bits))))) := by
  simp [binP, eqGuard, binOp, Op.shift, Int.not_lt.2 h, pureRun_bind, pureRun_pure, ofVal, ofVal1, flat]
theorem bin_shr (h : 0 ≤ b) : binP P .shr T x y (.int k a) (.int k' b) = some (.prim (.int k (a.fdiv (2 ^ (min b.toNat k.bits))))) := by
  simp [binP, eqGuard, binOp, Op.shift, Int.not_lt.2 h, pureRun_bind, pureRun_pure, ofVal, ofVal1, flat]
theorem un_not : unP P .not (.bool p) = some (.prim (.bool (!p))) := by simp [unP, Op.unary, pureRun_pure, ofVal, ofVal1, flat]
end
theorem pureRun_program {P : Program} : pureRun P program = some P := rfl
theorem pureRun_underlying {P : Program} {T : TypeId} {d : TypeDesc} (h : P.underlying T = some d) : pureRun P (underlying T) = some d := by
  simp [underlying, pureRun_bind, pureRun_program, h, pureRun_pure]
theorem conv_int {E : Env} {F : RF} {o : Oper} {S D : TypeId} {x : Operand} {k0 k : IntKind} {n : Int} (ho : o.op = .convert S D x) (hS : E.P.underlying S = some (.int k0)) (hD : E.P.underlying D = some (.int k)) (hv : E.vl F x = some (.int k0 n)) :
    semConv E o S D x F = some (setD F o.dst (.val (.prim (.int k (k.wrap n))))) := by
  unfold semConv
  rw [hS, hD]
  show semPure E o F = _
  unfold semPure
  rw [ho]
  rw [if_neg (by simp [isSel])]
  simp only [Op.operands, List.all_cons, List.all_nil, hv, Option.isSome_some, Bool.and_self, if_true, execOp, ho, Option.getD_some]
  have hu : pureRun E.P (convert S D (.int k0 n)) = some (.int k (k.wrap n)) := by
    unfold convert
    have h1 : pureRun E.P (underlying S) = some (.int k0) := pureRun_underlying hS
    have h2 : pureRun E.P (underlying D) = some (.int k) := pureRun_underlying hD
    rw [pureRun_bind, h1, Option.bind_some, pureRun_bind, h2, Option.bind_some]
    simp [Conv.intToInt, pureRun_pure]
  rw [pureRun_bind, hu]
  simp [pureRun_pure, ofVal, ofVal1, flat]
theorem sem_conv_int {E : Env} {F : RF} {d : Option Tmp} {R S D : TypeId} {x : Operand} {pos : String} {af : Array Edge} {g : Option (Nat × Bool)} {k0 k : IntKind} {n : Int} (hS : E.P.underlying S = some (.int k0)) (hD : E.P.underlying D = some (.int k)) (hv : E.vl F x = some (.int k0 n)) :
    sem E { dst := d, op := .convert S D x, type := R, pos := pos, after := af, guard := g } F = some (setD F d (.val (.prim (.int k (k.wrap n))))) := conv_int rfl hS hD hv
theorem sem_conv_str {E : Env} {F : RF} {d : Option Tmp} {R S D e : TypeId} {x : Operand} {pos : String} {af : Array Edge} {g : Option (Nat × Bool)} {f : Bool} {sz : Nat} {xs : List PV} {ns : List Int} (hS : E.P.underlying S = some (.slice e)) (hD : E.P.underlying D = some .string)
    (he : E.P.underlying e = some (.int .u8)) (hz : esz E.P e = 1) (hv : E.rd F S x = some (.sl f sz xs)) (hn : bytesOf xs = some ns) :
    sem E { dst := d, op := .convert S D x, type := R, pos := pos, after := af, guard := g } F = some (setD F d (.val (.prim (.string (strOf ns))))) := by
  show semConv E _ S D x F = _
  unfold semConv
  rw [hS, hD]
  simp only [he, hv, hz, if_true, hn, Option.map_some]
theorem pureRun_map {P : Program} {α β : Type} (s : Sem α) (f : α → β) : pureRun P (f <$> s) = (pureRun P s).map f := by
  have : (f <$> s : Sem β) = s >>= fun a => pure (f a) := rfl
  rw [this, pureRun_bind]
  cases pureRun P s <;> rfl
def minP (P : Program) (u v : Value) : Option PV := (pureRun P (Builtin.min2 u v)).bind ofVal
theorem sem_min {E : Env} {F : RF} {d : Option Tmp} {T S D : TypeId} {x y : Operand} {pos : String} {af : Array Edge} {g : Option (Nat × Bool)} :
    sem E { dst := d, op := .call { callee := .builtin .min, args := ⟨[x, y]⟩, argTypes := ⟨[S, D]⟩ }, type := T, pos := pos, after := af, guard := g } F = (E.vl F x).bind fun u => (E.vl F y).bind fun v => (minP E.P u v).map fun r => setD F d (.val r) := by
  show semPure E _ F = _
  unfold semPure
  rw [if_neg (by simp [isSel])]
  cases hx : E.vl F x with
  | none => simp [Op.operands, Call.operands, hx]
  | some u =>
    cases hy : E.vl F y with
    | none => simp [Op.operands, Call.operands, hx, hy]
    | some v =>
      simp only [Op.operands, Call.operands, List.all_cons, List.all_nil, Array.toList_append, List.nil_append, hx, hy, Option.isSome_some, Bool.and_self, if_true, Option.bind_some]
      cases h2 : pureRun E.P (Builtin.min2 u v) with
      | none => simp [minP, h2, execOp, resolve, invoke, builtin, Builtin.min_, hx, hy, pureRun_map, pureRun_bind, pureRun_pure]
      | some r => simp [minP, h2, execOp, resolve, invoke, builtin, Builtin.min_, hx, hy, pureRun_map, pureRun_bind, pureRun_pure]
theorem minP_int {P : Program} {k k' : IntKind} {a b : Int} : minP P (.int k a) (.int k' b) = some (.prim (.int k (if b < a then b else a))) := by simp [minP, Builtin.min2, pureRun_pure, ofVal, ofVal1, flat]
def maxP (P : Program) (u v : Value) : Option PV := (pureRun P (Builtin.max2 u v)).bind ofVal
theorem sem_max {E : Env} {F : RF} {d : Option Tmp} {T S D : TypeId} {x y : Operand} {pos : String} {af : Array Edge} {g : Option (Nat × Bool)} :
    sem E { dst := d, op := .call { callee := .builtin .max, args := ⟨[x, y]⟩, argTypes := ⟨[S, D]⟩ }, type := T, pos := pos, after := af, guard := g } F = (E.vl F x).bind fun u => (E.vl F y).bind fun v => (maxP E.P u v).map fun r => setD F d (.val r) := by
  show semPure E _ F = _
  unfold semPure
  rw [if_neg (by simp [isSel])]
  cases hx : E.vl F x with
  | none => simp [Op.operands, Call.operands, hx]
  | some u =>
    cases hy : E.vl F y with
    | none => simp [Op.operands, Call.operands, hx, hy]
    | some v =>
      simp only [Op.operands, Call.operands, List.all_cons, List.all_nil, Array.toList_append, List.nil_append, hx, hy, Option.isSome_some, Bool.and_self, if_true, Option.bind_some]
      cases h2 : pureRun E.P (Builtin.max2 u v) with
      | none => simp [maxP, h2, execOp, resolve, invoke, builtin, Builtin.max_, hx, hy, pureRun_map, pureRun_bind, pureRun_pure]
      | some r => simp [maxP, h2, execOp, resolve, invoke, builtin, Builtin.max_, hx, hy, pureRun_map, pureRun_bind, pureRun_pure]
theorem maxP_int {P : Program} {k k' : IntKind} {a b : Int} : maxP P (.int k a) (.int k' b) = some (.prim (.int k (if a < b then b else a))) := by simp [maxP, Builtin.max2, pureRun_pure, ofVal, ofVal1, flat]
theorem wrap64 {n : Int} (h : -9223372036854775808 ≤ n ∧ n ≤ 9223372036854775807) : IntKind.i64.wrap n = n := by rw [IntKind.wrap_i64]; omega
theorem wrapU8 {n : Int} (h : 0 ≤ n ∧ n ≤ 255) : IntKind.u8.wrap n = n := by rw [IntKind.wrap_u8]; omega
theorem wrapU32 {n : Int} (h : 0 ≤ n ∧ n ≤ 4294967295) : IntKind.u32.wrap n = n := by rw [IntKind.wrap_u32]; omega

section
variable {E : Env} {F : RF} {d : Option Tmp} {T S D : TypeId} {x y c z : Operand} {pos : String} {af : Array Edge} {g : Option (Nat × Bool)} {i : Nat}
theorem sem_move : sem E { dst := d, op := .move x, type := T, pos := pos, after := af, guard := g } F = semMove E { dst := d, op := .move x, type := T, pos := pos, after := af, guard := g } x F := rfl
theorem sem_assign : sem E { dst := d, op := .assign x, type := T, pos := pos, after := af, guard := g } F = semAssign E { dst := d, op := .assign x, type := T, pos := pos, after := af, guard := g } x F := rfl
theorem sem_pick : sem E { dst := d, op := .pick c x y, type := T, pos := pos, after := af, guard := g } F = semPick E { dst := d, op := .pick c x y, type := T, pos := pos, after := af, guard := g } c x y F := rfl
end

theorem ofVal_int {k : IntKind} {n : Int} : ofVal (.int k n) = some (.prim (.int k n)) := rfl
theorem ofVal_bool {b : Bool} : ofVal (.bool b) = some (.prim (.bool b)) := rfl
theorem toVal_int {k : IntKind} {n : Int} : PV.toVal (.prim (.int k n)) = some (.int k n) := rfl
theorem toVal_bool {b : Bool} : PV.toVal (.prim (.bool b)) = some (.bool b) := rfl
section
variable {E : Env} {F : RF} {d : Option Tmp} {T : TypeId} {pos : String} {af : Array Edge} {g : Option (Nat × Bool)}
theorem sem_alloc {T' : TypeId} : sem E { dst := d, op := .alloc T', type := T, pos := pos, after := af, guard := g } F = semAlloc E { dst := d, op := .alloc T', type := T, pos := pos, after := af, guard := g } T' F := rfl
theorem sem_box {T' : TypeId} {x : Operand} : sem E { dst := d, op := .box T' x, type := T, pos := pos, after := af, guard := g } F = semBox E { dst := d, op := .box T' x, type := T, pos := pos, after := af, guard := g } T' x F := rfl
theorem sem_build {T' : TypeId} {ps : Array (Nat × Operand)} : sem E { dst := d, op := .build T' ps, type := T, pos := pos, after := af, guard := g } F = semBuild E { dst := d, op := .build T' ps, type := T, pos := pos, after := af, guard := g } T' ps.toList F := rfl
theorem sem_buildSlice {T' : TypeId} {n : Nat} {ps : Array (Nat × Operand)} : sem E { dst := d, op := .buildSlice T' n ps, type := T, pos := pos, after := af, guard := g } F = semLit E { dst := d, op := .buildSlice T' n ps, type := T, pos := pos, after := af, guard := g } T' n ps.toList F := rfl
theorem sem_load {T' : TypeId} {x : Operand} : sem E { dst := d, op := .load T' x, type := T, pos := pos, after := af, guard := g } F = if arrLoad E T' x F = true then semLoadA E { dst := d, op := .load T' x, type := T, pos := pos, after := af, guard := g } T' x F else semLoad E { dst := d, op := .load T' x, type := T, pos := pos, after := af, guard := g } T' x F := rfl
theorem sem_arr {T' : TypeId} {x : Operand} : sem E { dst := d, op := .sliceToArrayPointer T' x, type := T, pos := pos, after := af, guard := g } F = semArr E { dst := d, op := .sliceToArrayPointer T' x, type := T, pos := pos, after := af, guard := g } T' x F := rfl
theorem sem_store {T' : TypeId} {x : Operand} {y : Operand} : sem E { dst := d, op := .store T' x y, type := T, pos := pos, after := af, guard := g } F = semStore E { dst := d, op := .store T' x y, type := T, pos := pos, after := af, guard := g } T' x y F := rfl
theorem sem_nilCheck {x : Operand} : sem E { dst := d, op := .nilCheck x, type := T, pos := pos, after := af, guard := g } F = semNil E { dst := d, op := .nilCheck x, type := T, pos := pos, after := af, guard := g } x F := rfl
theorem sem_makeFunc {fn : Fn} {fs : Array Operand} {cs : Array Operand} : sem E { dst := d, op := .makeFunc fn fs cs, type := T, pos := pos, after := af, guard := g } F = semFunc E { dst := d, op := .makeFunc fn fs cs, type := T, pos := pos, after := af, guard := g } fn fs cs F := rfl
theorem sem_makeMap {T' : TypeId} {r : Option Operand} : sem E { dst := d, op := .makeMap T' r, type := T, pos := pos, after := af, guard := g } F = semMakeMap E { dst := d, op := .makeMap T' r, type := T, pos := pos, after := af, guard := g } r F := rfl
theorem sem_makeSlice {T' : TypeId} {x : Operand} {y : Operand} : sem E { dst := d, op := .makeSlice T' x y, type := T, pos := pos, after := af, guard := g } F = semMake E { dst := d, op := .makeSlice T' x y, type := T, pos := pos, after := af, guard := g } T' x y F := rfl
theorem sem_slice {T' : TypeId} {x : Operand} {l : Option Operand} {h : Option Operand} {m : Option Operand} : sem E { dst := d, op := .slice T' x l h m, type := T, pos := pos, after := af, guard := g } F = semSlice E { dst := d, op := .slice T' x l h m, type := T, pos := pos, after := af, guard := g } T' x l h m F := rfl
theorem sem_fieldAddr {S : TypeId} {x : Operand} {i : Nat} : sem E { dst := d, op := .fieldAddr S x i, type := T, pos := pos, after := af, guard := g } F = semField E { dst := d, op := .fieldAddr S x i, type := T, pos := pos, after := af, guard := g } S x i F := rfl
theorem sem_indexAddr {S : TypeId} {x : Operand} {y : Operand} : sem E { dst := d, op := .indexAddr S x y, type := T, pos := pos, after := af, guard := g } F = semIndex E { dst := d, op := .indexAddr S x y, type := T, pos := pos, after := af, guard := g } S x y F := rfl
theorem sem_lookup {S : TypeId} {x : Operand} {y : Operand} {b : Bool} : sem E { dst := d, op := .lookup S x y b, type := T, pos := pos, after := af, guard := g } F = semLookup E { dst := d, op := .lookup S x y b, type := T, pos := pos, after := af, guard := g } S x y b F := rfl
theorem sem_mapUpdate {S : TypeId} {x : Operand} {y : Operand} {z : Operand} : sem E { dst := d, op := .mapUpdate S x y z, type := T, pos := pos, after := af, guard := g } F = semMapSet E { dst := d, op := .mapUpdate S x y z, type := T, pos := pos, after := af, guard := g } S x y z F := rfl
theorem sem_insert {S : TypeId} {x : Operand} {y : Operand} {z : Operand} : sem E { dst := d, op := .insert S x y z, type := T, pos := pos, after := af, guard := g } F = semMapSet E { dst := d, op := .insert S x y z, type := T, pos := pos, after := af, guard := g } S x y z F := rfl
theorem sem_extract {x : Operand} {i : Nat} : sem E { dst := d, op := .extract x i, type := T, pos := pos, after := af, guard := g } F = semExtract E { dst := d, op := .extract x i, type := T, pos := pos, after := af, guard := g } x i F := rfl
theorem sem_len {S : TypeId} {x : Operand} : sem E { dst := d, op := .call { callee := .builtin .len, args := ⟨[x]⟩, argTypes := ⟨[S]⟩ }, type := T, pos := pos, after := af, guard := g } F = semLen E { dst := d, op := .call { callee := .builtin .len, args := ⟨[x]⟩, argTypes := ⟨[S]⟩ }, type := T, pos := pos, after := af, guard := g } S x F := rfl
theorem sem_append {S D : TypeId} {x y : Operand} : sem E { dst := d, op := .call { callee := .builtin .append, args := ⟨[x, y]⟩, argTypes := ⟨[S, D]⟩ }, type := T, pos := pos, after := af, guard := g } F = semAppend E { dst := d, op := .call { callee := .builtin .append, args := ⟨[x, y]⟩, argTypes := ⟨[S, D]⟩ }, type := T, pos := pos, after := af, guard := g } S D x y F := rfl
end
@[simp] theorem toVal_sl {o : Bool} {sz : Nat} {xs : List PV} : PV.toVal (.sl o sz xs) = none := rfl
@[simp] theorem toVal_ptr {o : Bool} {xs : List PV} : PV.toVal (.ptr o xs) = none := rfl
@[congr] theorem bind_cong {α β : Type} {a b : Option α} {f : α → Option β} (h : a = b) : a.bind f = b.bind f := by rw [h]
@[congr] theorem map_cong {α β : Type} {a b : Option α} {f : α → β} (h : a = b) : a.map f = b.map f := by rw [h]

section
variable {E : Env} {D : Array Oper → RF → Option RF} {K : Exit → RF → Prop} {p : Tmp × Slot × Nat × Nat} {F : RF}
theorem wpx_skip : wpx E D .skip K F = K .normal F := rfl
theorem wpx_exit {i : Nat} : wpx E D (.exit i) K F = K (.exit i) F := rfl
theorem wpx_ret : wpx E D .ret K F = K .ret F := rfl
theorem wpx_region {i : Nat} {ops : Array Oper} {b : Bool} : wpx E D (.region i ops b) K (p :: F) = match runR E D ops b (p :: F) with | some F' => K .normal (F'.prune (E.keep i)) | none => b = false ∧ nilLast E ops.toList (p :: F) (fun F' => K .normal (F'.prune (E.keep i))) := rfl
theorem wpx_region0 {i : Nat} {ops : Array Oper} {b : Bool} : wpx E D (.region i ops b) K [] = match runR E D ops b [] with | some F' => K .normal (F'.prune (E.keep i)) | none => b = false ∧ nilLast E ops.toList [] (fun F' => K .normal (F'.prune (E.keep i))) := rfl
theorem wpx_seq {a b : Code} : wpx E D (.seq a b) K (p :: F) = wpx E D a (fun e F' => match e with | .normal => wpx E D b K F' | e => K e F') (p :: F) := rfl
theorem wpx_seq0 {a b : Code} : wpx E D (.seq a b) K [] = wpx E D a (fun e F' => match e with | .normal => wpx E D b K F' | e => K e F') [] := rfl
theorem wpx_cond {c : Operand} {a b : Code} : wpx E D (.cond c a b) K (p :: F) = match E.vl (p :: F) c with | some (.bool t) => if t = true then wpx E D a K (p :: F) else wpx E D b K (p :: F) | _ => False := rfl
theorem wpx_block {i : Nat} {c : Code} : wpx E D (.block i c) K (p :: F) = wpx E D c (fun e F' => match e with | .exit j => if j = i then K .normal F' else K (.exit j) F' | e => K e F') (p :: F) := rfl
theorem fin_cons {fn : Func} {xs : List PV} : fin E fn xs (p :: F) = (finR E (p :: F) fn.results.toList).bind fun (ys, F') => (outsOf F' 0 xs).map fun outs => (match ys with | [y] => y | ys => .tup ys, outs) := rfl
end
attribute [simp ↓] fin_cons wpx_skip wpx_exit wpx_ret wpx_region wpx_region0 wpx_seq wpx_seq0 wpx_cond wpx_block
def maskA (F : RF) (R : List Tmp) : List Tmp → RF
  | [] => []
  | t :: ts => (t, F.masked R t, F.ver t, F.cnt t) :: maskA F R ts
theorem maskA_eq {F : RF} {R : List Tmp} : ∀ {ts : List Tmp}, (ts.map fun t => (t, F.masked R t, F.ver t, F.cnt t)) = maskA F R ts
  | [] => rfl
  | t :: ts => by simp only [List.map_cons, maskA, maskA_eq (ts := ts)]
theorem mask_eq {F : RF} {R : List Tmp} : F.mask R = maskA F R R := maskA_eq
def pruneA (F : RF) (keep : List Tmp) : List Tmp → RF
  | [] => []
  | t :: ts => (t, F.kept keep t, 0, 0) :: pruneA F keep ts
theorem pruneA_eq {F : RF} {keep : List Tmp} : ∀ {ts : List Tmp}, (ts.map fun t => (t, F.kept keep t, 0, 0)) = pruneA F keep ts
  | [] => rfl
  | t :: ts => by simp only [List.map_cons, pruneA, pruneA_eq (ts := ts)]
theorem prune_eq {F : RF} {keep : List Tmp} : F.prune keep = pruneA F keep keep := pruneA_eq
def rootsA (F : RF) : List Tmp → List Tmp
  | [] => []
  | t :: ts => match F.slot t with
    | .pl r _ _ _ => t :: r :: rootsA F ts
    | _ => t :: rootsA F ts
theorem rootsA_eq {F : RF} : ∀ {ts : List Tmp}, (ts.flatMap fun t => match F.slot t with | .pl r _ _ _ => [t, r] | _ => [t]) = rootsA F ts
  | [] => rfl
  | t :: ts => by
    simp only [List.flatMap_cons, rootsA, rootsA_eq (ts := ts)]
    cases F.slot t <;> rfl
def atA (E : Env) : List Operand → List Tmp
  | [] => []
  | x :: xs => match E.at x with
    | some t => t :: atA E xs
    | none => atA E xs
theorem atA_eq {E : Env} : ∀ {xs : List Operand}, xs.filterMap E.at = atA E xs
  | [] => rfl
  | x :: xs => by
    simp only [List.filterMap_cons, atA, atA_eq (xs := xs)]
    cases E.at x <;> rfl
def guardTmps (ops : Array Oper) : Option (Nat × Bool) → List Tmp
  | some (j, _) => ((ops[j]?).bind (·.dst)).toList
  | none => []
theorem reads_eq {E : Env} {ops : Array Oper} {o : Oper} {F : RF} : reads E ops o F = o.dst.toList ++ rootsA F (atA E o.op.operands.toList ++ guardTmps ops o.guard) := by
  unfold reads opTmps; rw [atA_eq]
  cases o.guard with
  | none => exact congrArg (o.dst.toList ++ ·) rootsA_eq
  | some g => exact congrArg (o.dst.toList ++ ·) rootsA_eq
def recC (E : Env) (ops : Array Oper) (o : Oper) (os : List Oper) (F : RF) (R : List Tmp) (U : List (Tmp × Slot)) : Option (List Rec × RF) :=
  if keysOk R U = true ∧ dstIn o U = true then (record E ops os (F.sets U)).map fun q => (⟨o, R, U⟩ :: q.1, q.2) else none
def recB (E : Env) (ops : Array Oper) (o : Oper) (os : List Oper) (F : RF) (R : List Tmp) : Option RF → Option (List Rec × RF)
  | none => none
  | some F1 => recC E ops o os F R (delta R.length F1)
def recA (E : Env) (ops : Array Oper) (o : Oper) (os : List Oper) (F : RF) (R : List Tmp) : Option (List Rec × RF) := recB E ops o os F R (step E ops o (maskA F R R))
theorem record_cons {E : Env} {ops : Array Oper} {o : Oper} {os : List Oper} {F : RF} : record E ops (o :: os) F = recA E ops o os F (o.dst.toList ++ rootsA F (atA E o.op.operands.toList ++ guardTmps ops o.guard)) := by
  rw [← reads_eq]
  simp only [record, stepM, recA, mask_eq]
  cases step E ops o (maskA F (reads E ops o F) (reads E ops o F)) with
  | none => rfl
  | some F1 =>
    simp only [Option.bind_some, recB, recC]
    split
    · rfl
    · rfl
theorem record_nil {E : Env} {ops : Array Oper} {F : RF} : record E ops [] F = some ([], F) := rfl
def drawB (ops : Array Oper) : Option (List Rec × RF) → Option RF
  | some (rs, F) => if drawOk ops.toList rs = true then some F else none
  | none => none
theorem draw_eq {E : Env} {ops : Array Oper} {F : RF} : draw E ops F = drawB ops (record E ops ops.toList F) := by
  unfold draw
  cases record E ops ops.toList F <;> rfl
def directA : List Edge → List Nat
  | [] => []
  | e :: es => if Region.binds .any e = true then e.on :: directA es else directA es
theorem directA_eq : ∀ {es : List Edge}, (es.filter (Region.binds .any)).map (·.on) = directA es
  | [] => rfl
  | e :: es => by
    simp only [List.filter_cons, directA]
    split
    · simp only [List.map_cons, directA_eq (es := es)]
    · exact directA_eq
theorem direct_eq {o : Oper} : direct o = directA o.after.toList := directA_eq

theorem sem_callv {E : Env} {F : RF} {d : Option Tmp} {T : TypeId} {f : Operand} {as : Array Operand} {ts : Array TypeId} {pos : String} {af : Array Edge} {g : Option (Nat × Bool)} :
    sem E { dst := d, op := .call { callee := .value f, args := as, argTypes := ts }, type := T, pos := pos, after := af, guard := g } F =
      semCall E { dst := d, op := .call { callee := .value f, args := as, argTypes := ts }, type := T, pos := pos, after := af, guard := g } { callee := .value f, args := as, argTypes := ts } F := by
  unfold sem; rfl
end Go.V
/- Loops of a text; a contract by its data. -/
namespace Go.V
set_option linter.unusedVariables false
set_option linter.unusedSimpArgs false
variable {E : Env} {D : Array Oper → RF → Option RF}

theorem itr_mono {body : (Exit → RF → Prop) → RF → Prop} (hb : ∀ (K K' : Exit → RF → Prop) (F : RF), (∀ e F', K e F' → K' e F') → body K F → body K' F) {K K' : Exit → RF → Prop} (hK : ∀ e F', K e F' → K' e F') :
    ∀ {n : Nat} {F : RF}, itr body K n F → itr body K' n F
  | 0, F, h => h
  | n + 1, F, h => by
    simp only [itr] at h ⊢
    refine hb _ _ _ ?_ h
    intro e F' he
    cases e with
    | normal => exact itr_mono hb hK he
    | _ => exact hK _ _ he

theorem wpx_mono : ∀ {c : Code} {K K' : Exit → RF → Prop} {F : RF}, (∀ e F', K e F' → K' e F') → wpx E D c K F → wpx E D c K' F := by
  intro c
  induction c with
  | skip => intro K K' F hK h; exact hK _ _ h
  | region id ops dr =>
    intro K K' F hK h
    simp only [wpx] at h ⊢
    split at h
    · exact hK _ _ h
    · obtain ⟨h0, os, o, d, T, x, S, f, sz, xs, e, F1, h1, h2, h3, h4, h5, h6, h7, h8, h9⟩ := h
      exact ⟨h0, os, o, d, T, x, S, f, sz, xs, e, F1, h1, h2, h3, h4, h5, h6, h7, h8, fun b hb => hK _ _ (h9 b hb)⟩
  | seq x y ihx ihy =>
    intro K K' F hK h
    simp only [wpx] at h ⊢
    refine ihx ?_ h
    intro e F' he
    cases e with
    | normal => exact ihy hK he
    | _ => exact hK _ _ he
  | cond v x y ihx ihy =>
    intro K K' F hK h
    simp only [wpx] at h ⊢
    split at h
    · split at h
      · rename_i ht; rw [if_pos ht]; exact ihx hK h
      · rename_i ht; rw [if_neg ht]; exact ihy hK h
    · exact h.elim
  | block id c ih =>
    intro K K' F hK h
    simp only [wpx] at h ⊢
    refine ih ?_ h
    intro e F' he
    cases e with
    | exit i =>
      simp only at he ⊢
      split
      · rename_i e; rw [if_pos e] at he; exact hK _ _ he
      · rename_i e; rw [if_neg e] at he; exact hK _ _ he
    | _ => exact hK _ _ he
  | loop c ih =>
    intro K K' F hK h
    simp only [wpx] at h ⊢
    obtain ⟨n, hn⟩ := h
    exact ⟨n, itr_mono (body := wpx E D c) (fun _ _ _ hK h => ih hK h) hK hn⟩
  | exit id => intro K K' F hK h; exact hK _ _ h
  | ret => intro K K' F hK h; exact hK _ _ h
  | _ => intro K K' F hK h; exact h.elim

theorem loop_rule {c : Code} {K : Exit → RF → Prop} {σ : Type} (J : σ → Prop) (I : σ → RF) (m : σ → Nat)
    (h : ∀ s, J s → wpx E D c (fun e F' => match e with | .normal => ∃ s', J s' ∧ m s' < m s ∧ F' = I s' | e => K e F') (I s)) {s : σ} {F : RF} (hF : F = I s) (hs : J s) : wpx E D (.loop c) K F := by
  subst hF
  have key : ∀ n s, J s → m s < n → itr (wpx E D c) K n (I s) := by
    intro n
    induction n with
    | zero => intro s _ hm; omega
    | succ n ih =>
      intro s hs hm
      refine wpx_mono ?_ (h s hs)
      intro e F' he
      cases e with
      | normal => obtain ⟨s', h1, h2, rfl⟩ := he; exact ih s' h1 (by omega)
      | _ => exact he
  exact ⟨m s + 1, key _ s hs (Nat.lt_succ_self _)⟩

/-- a contract by its data: how it is laid, when it holds, what is told -/
noncomputable def spec {α : Type} (enc : α → List PV) (ok : α → Prop) (res : α → PV × List PV) : List PV → Option (PV × List PV) :=
  fun xs => @dite _ (∃ a, enc a = xs ∧ ok a) (Classical.propDecidable _) (fun h => some (res (Classical.choose h))) (fun _ => none)
theorem spec_eq {α : Type} {enc : α → List PV} {ok : α → Prop} {res : α → PV × List PV} {xs : List PV} (hi : ∀ a b, enc a = enc b → res a = res b) (a : α) (ha : ok a) (hx : enc a = xs) : spec enc ok res xs = some (res a) := by
  have h : ∃ a, enc a = xs ∧ ok a := ⟨a, hx, ha⟩
  unfold spec
  rw [dif_pos h]
  have := Classical.choose_spec h
  rw [hi _ a (by rw [this.1, hx])]
theorem spec_some {α : Type} {enc : α → List PV} {ok : α → Prop} {res : α → PV × List PV} {xs : List PV} {r : PV × List PV} (h : spec enc ok res xs = some r) : ∃ a, enc a = xs ∧ ok a ∧ res a = r := by
  unfold spec at h
  split at h
  · rename_i hx
    have := Classical.choose_spec hx
    exact ⟨_, this.1, this.2, by simpa using h⟩
  · cases h

theorem impl_spec {α : Type} {enc : α → List PV} {ok : α → Prop} {res : α → PV × List PV} (hT : TblOk E) (hm : E.P.follows .mixedOrders = true) {f : FuncId} {fn : Func} {c : Code} (hf : E.P.funcs[f]? = some fn)
    (hb : fn.body = some c) (hn : fn.ntmps = E.nt)
    (h : ∀ a, ok a → (enc a).length ≤ E.nt ∧ wpx { E with pin := pinned 0 (enc a) } (draw { E with pin := pinned 0 (enc a) }) c
      (fun e F' => (e = .normal ∨ e = .ret) ∧ fin { E with pin := pinned 0 (enc a) } fn (enc a) F' = some (res a)) (init { E with pin := pinned 0 (enc a) } (enc a))) : Impl E.P E.G f (spec enc ok res) := by
  refine impl_of hT draw (fun E' hP hT' => draw_ok hT' (by rw [hP]; exact hm)) hf hb hn ?_
  intro xs r outs hx
  obtain ⟨a, rfl, ha, hr⟩ := spec_some hx
  obtain ⟨h1, h2⟩ := h a ha
  refine ⟨h1, ?_⟩
  rw [hr] at h2
  exact h2

/-- a row of numbers -/
def ints (k : IntKind) (l : List Int) : List PV := l.map fun n => .prim (.int k n)
@[simp] theorem ints_length {k : IntKind} {l : List Int} : (ints k l).length = l.length := by simp [ints]
@[simp] theorem ints_get {k : IntKind} {l : List Int} {i : Nat} : (ints k l)[i]? = (l[i]?).map fun n => .prim (.int k n) := by simp [ints]
@[simp] theorem ints_getElem {k : IntKind} {l : List Int} {i : Nat} {h : i < (ints k l).length} : (ints k l)[i] = .prim (.int k (l[i]'(by simpa using h))) := by simp [ints]
@[simp] theorem noOwn_ints {k : IntKind} : ∀ {l : List Int}, noOwnL (ints k l) = true
  | [] => rfl
  | a :: l => by simp [ints, noOwnL, PV.noOwn]; exact noOwn_ints (k := k) (l := l)
@[simp] theorem frz_ints {k : IntKind} : ∀ {l : List Int}, frzL (ints k l) = ints k l
  | [] => rfl
  | a :: l => by simp [ints, frzL, PV.frz]; exact frz_ints (k := k) (l := l)
theorem ints_inj {k : IntKind} : ∀ {l m : List Int}, ints k l = ints k m → l = m
  | [], [], _ => rfl
  | a :: l, b :: m, h => by
    simp only [ints, List.map_cons, List.cons.injEq, PV.prim.injEq, Value.int.injEq, true_and] at h
    rw [h.1, ints_inj (l := l) (m := m) h.2]
  | [], _ :: _, h => by simp [ints] at h
  | _ :: _, [], h => by simp [ints] at h
end Go.V
