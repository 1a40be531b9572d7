/- What an operation makes of a frame, and that the model's does so: reading, moving, whatever hangs on numbers, bools and strings alone. -/
import Derived.Test.YthbmifpfhdlicaaVG
import Derived.Laws.Entries
namespace Go.V
set_option linter.unusedVariables false
set_option linter.unusedSimpArgs false

/-! ### Types -/
def esz (P : Program) (T : TypeId) : Nat := match P.info? T with | some i => i.size | none => 0
def ebytes (P : Program) (T : TypeId) : Nat := match P.info? T with | some i => i.bytes | none => 0
def aggT (P : Program) (T : TypeId) : Bool := match P.underlying T with | some (.struct _) | some (.array _ _) => true | _ => false
/-- of each cell of a type how many cells an element has, if it is a slice (1, if it is none) -/
def szs (P : Program) : Nat → TypeId → List Nat
  | 0, _ => []
  | d + 1, T => match P.underlying T with
    | some (.slice e) => [esz P e]
    | some (.struct fs) => fs.toList.flatMap fun f => szs P d f.type
    | some (.array n e) => (List.replicate n (szs P d e)).flatten
    | _ => [1]
def ofCell (v : Value) (sz : Nat) : Option PV :=
  match v with
  | .slice none 0 0 => if 0 < sz then some (.sl true sz []) else none
  | v => if flat v then some (.prim v) else none
def ofCells : List Value → List Nat → Option (List PV)
  | [], _ => some []
  | v :: vs, s :: ss => (ofCell v s).bind fun c => (ofCells vs ss).map (c :: ·)
  | _ :: _, [] => none
/-- a constant, or a zero, of a type -/
def ofConst (P : Program) (T : TypeId) (v : Value) : Option PV :=
  match v with
  | .agg vs => (ofCells vs.toList (szs P 8 T)).map .agg
  | v => (szs P 8 T).head?.bind fun s => ofCell v s
def zeroCs (P : Program) (T : TypeId) : Option (List PV) :=
  match P.info? T with
  | some i => match i.zero with
    | some z => ofCells z.cells.toList (szs P 8 T)
    | none => none
  | none => none

theorem ofCell_rep {w Z v sz c} (h : ofCell v sz = some c) : Rep w Z c [] [v] ∧ c.cell1 = true := by
  unfold ofCell at h
  split at h
  · split at h
    · rename_i hs; obtain rfl := Option.some.inj h
      exact ⟨by simp only [Rep]; exact ⟨none, 0, [], [], rfl, ⟨hs, by simp⟩, by simp [RepL], by simp, .inl ⟨trivial, trivial, fun _ => rfl⟩⟩, rfl⟩
    · cases h
  · split at h
    · rename_i hf; obtain rfl := Option.some.inj h
      exact ⟨by simp [Rep, hf], rfl⟩
    · cases h
theorem ofCells_rep {w Z} : ∀ {vs ss cs}, ofCells vs ss = some cs → RepL w Z cs [] vs ∧ ∀ c ∈ cs, c.cell1 = true
  | [], ss, cs, h => by simp only [ofCells, Option.some.injEq] at h; subst h; exact ⟨RepL_nil.2 ⟨rfl, rfl⟩, by simp⟩
  | v :: vs, [], cs, h => by simp [ofCells] at h
  | v :: vs, s :: ss, cs, h => by
    simp only [ofCells, Option.bind_eq_some_iff, Option.map_eq_some_iff] at h
    obtain ⟨c, hc, cs', hcs, rfl⟩ := h
    obtain ⟨h1, h2⟩ := ofCell_rep (w := w) (Z := Z) hc
    obtain ⟨h3, h4⟩ := ofCells_rep (w := w) (Z := Z) hcs
    exact ⟨RepL_cons.2 ⟨[], [], [v], vs, rfl, rfl, h1, h3⟩, fun d hd => (List.mem_cons.1 hd).elim (fun e => e ▸ h2) (fun hd => h4 d hd)⟩
theorem ofConst_rep {w Z P T v c} (h : ofConst P T v = some c) : RepV w Z c [] v := by
  unfold ofConst at h
  split at h
  · rename_i vs
    simp only [Option.map_eq_some_iff] at h
    obtain ⟨cs, hcs, rfl⟩ := h
    obtain ⟨h1, h2⟩ := ofCells_rep (w := w) (Z := Z) hcs
    exact RepV_agg.2 ⟨vs.toList, by simp, by simp only [Rep]; exact ⟨h1, h2⟩⟩
  · simp only [Option.bind_eq_some_iff] at h
    obtain ⟨s, _, h⟩ := h
    obtain ⟨h1, h2⟩ := ofCell_rep (w := w) (Z := Z) h
    exact (RepV_cell h2).2 h1

/-! ### The parts of a program that a call is told over -/
structure Env where
  P : Program
  tbl : FuncId → List PV → Option (PV × List PV)
  G : Nat → Option (List PV)
  nt : Nat
  gs : List Nat
  keep : Nat → List Tmp
  pin : List Tmp

/-- the slot that an operand is; the package's variables stand behind the others -/
def Env.at (E : Env) : Operand → Option Tmp
  | .tmp t => if t < E.nt then some t else none
  | .global g => some (E.nt + g)
  | _ => none
/-- what an operand that is no slot reads as -/
def Env.imm (E : Env) (T : TypeId) : Operand → Option PV
  | .const v => ofConst E.P T v
  | .func f => some (.fn f [])
  | _ => none
/-- what an operand reads as -/
def Env.rd (E : Env) (F : RF) (T : TypeId) (x : Operand) : Option PV :=
  match E.at x with
  | some t => F.content t
  | none => E.imm T x
/-- what an operand holds is taken out -/
def Env.tk (E : Env) (F : RF) (T : TypeId) (x : Operand) : Option (PV × RF) :=
  match E.at x with
  | some t => F.take t
  | none => (E.imm T x).map fun c => (c, F)
def setD (F : RF) (d : Option Tmp) (s : Slot) : RF := match d with | some t => F.set t s | none => F

def tmOf (nt : Nat) (a : Act) : Tmp → Value := fun t => if t < nt then a.tmps.getD t undef else .pointer (some ⟨t - nt, 0, none⟩)
def tput (tm : Tmp → Value) (d : Option Tmp) (v : Value) : Tmp → Value := match d with | some t => upd tm t v | none => tm
theorem tmOf_put {nt : Nat} {a : Act} {d : Option Tmp} {v : Value} (h : ∀ t, d = some t → t < nt) (hn : a.tmps.size = nt) : tmOf nt (a.put d v) = tput (tmOf nt a) d v := by
  cases d with
  | none => rfl
  | some t =>
    funext u
    have := h t rfl
    by_cases e : u = t
    · subst e; simp [tmOf, Act.put, tput, upd, this, hn]
    · by_cases hu : u < nt
      · simp [tmOf, Act.put, tput, upd, e, hu, Array.getElem?_setIfInBounds_ne (fun h => e h.symm)]
      · simp [tmOf, Act.put, tput, upd, e, hu]
theorem at_eval {E : Env} {a : Act} {x : Operand} {t : Tmp} (h : E.at x = some t) : a.eval x = tmOf E.nt a t := by
  cases x with
  | tmp u =>
    simp only [Env.at] at h
    split at h
    · rename_i hu; obtain rfl := Option.some.inj h; simp [Act.eval, tmOf, hu]
    · cases h
  | global g => simp only [Env.at, Option.some.injEq] at h; subst h; simp [Act.eval, tmOf, Nat.not_lt.2 (Nat.le_add_right E.nt g)]
  | _ => simp [Env.at] at h
theorem imm_rep {E : Env} {a : Act} {T : TypeId} {x : Operand} {y : PV} {w : World} {Z : Nat → Prop} (h : E.imm T x = some y) : RepV w Z y [] (a.eval x) := by
  cases x with
  | const v => exact ofConst_rep h
  | func f =>
    simp only [Env.imm, Option.some.injEq] at h; subst h
    exact (RepV_cell rfl).2 (by simp only [Rep]; exact ⟨trivial, [], rfl, by simp [RepL], by simp⟩)
  | _ => simp [Env.imm] at h

/-- What the model makes of an operation: a value for its slot, a world. -/
def Yld (P : Program) (o : Oper) (a : Act) (w : World) (R : Value → World → Prop) : Prop :=
  ∀ K Q, (∀ v w', R v w' → K (a.put o.dst v) w') → o.wp P a w K Q

def ZOk (mine : Nat → Prop) (w : World) (Z Z' : Nat → Prop) : Prop := ∀ b, b < w.heap.size → ¬ mine b → (Z b ↔ Z' b)

/-- What is true behind it. -/
def Out (X : Cx) (Z : Nat → Prop) (w : World) (tm : Tmp → Value) (d : Option Tmp) (F' : RF) (v : Value) (w' : World) : Prop :=
  ∃ Z' φ', Rel X Z' w' φ' (tput tm d v) F' ∧ Stp X.mine w w' ∧ ZOk X.mine w Z Z'

/-- What is true ahead of it. -/
structure Pre (E : Env) (X : Cx) (Z : Nat → Prop) (w : World) (φ : Tmp → List Nat) (a : Act) (F : RF) : Prop where
  rel : Rel X Z w φ (tmOf E.nt a) F
  new : ∀ b, w.heap.size ≤ b → X.mine b
  glob : X.G = E.G

theorem Yld.value {P : Program} {o : Oper} {a : Act} {w w' : World} {R : Value → World → Prop} {v : Value} (h : (execOp a.eval o).run P w = .ok (.value v) w') (hr : R v w') : Yld P o a w R := by
  intro K Q hK; unfold Oper.wp; rw [h]; exact hK v w' hr
theorem Yld.skip {P : Program} {o : Oper} {a : Act} {w w' : World} {R : Value → World → Prop} (h : (execOp a.eval o).run P w = .ok .skip w') (hr : R undef w') : Yld P o a w R := by
  intro K Q hK; unfold Oper.wp; rw [h]; exact hK _ w' hr

variable {X : Cx} {Z : Nat → Prop} {w : World} {φ : Tmp → List Nat} {tm : Tmp → Value} {F : RF}

theorem Rel.outVal (h : Rel X Z w φ tm F) {d : Option Tmp} {x : PV} {v : Value} {φx : List Nat} (hr : RepV w Z x φx v) (hnd : φx.Nodup) (hm : ∀ b ∈ φx, X.mine b)
    (hd : ∀ u, ∀ b ∈ φx, b ∉ φ u) : ∃ φ', Rel X Z w φ' (tput tm d v) (setD F d (.val x)) := by
  cases d with
  | none => exact ⟨φ, h⟩
  | some t => exact ⟨_, h.setVal hr hnd hm (fun u _ => hd u)⟩
theorem Rel.outPl (h : Rel X Z w φ tm F) {d : Option Tmp} {r : Tmp} {p : Path} {k : View} {v : Value} (hrt : d ≠ some r) (hp : PlOk w F tm r p k v) :
    ∃ φ', Rel X Z w φ' (tput tm d v) (setD F d (.pl r p k (F.ver r))) := by
  cases d with
  | none => exact ⟨φ, h⟩
  | some t => exact ⟨_, h.setPl (fun e => hrt (by rw [e])) hp⟩
theorem Out.same {mine} {tm' : Tmp → Value} (hX : X.mine = mine) {d : Option Tmp} {v : Value} {F' : RF} (h : ∃ φ', Rel X Z w φ' (tput tm d v) F') : Out X Z w tm d F' v w :=
  let ⟨φ', h⟩ := h; ⟨Z, φ', h, Stp.refl _ _, fun _ _ _ => Iff.rfl⟩

theorem rd_rep {E : Env} {a : Act} {T : TypeId} {x : Operand} {y : PV} (h : Pre E X Z w φ a F) (hy : E.rd F T x = some y) :
    ∃ φy, RepV w Z y φy (a.eval x) ∧ (∀ b ∈ φy, ∃ r, b ∈ φ r) ∧ φy.Nodup := by
  unfold Env.rd at hy
  split at hy
  · rename_i t ht; rw [at_eval ht]; exact h.rel.content hy
  · exact ⟨[], imm_rep hy, by simp, List.nodup_nil⟩

theorem tk_rep {E : Env} {a : Act} {T : TypeId} {x : Operand} {y : PV} {F' : RF} (h : Pre E X Z w φ a F) (hy : E.tk F T x = some (y, F')) :
    ∃ φ' φy, Taken X Z w φ (tmOf E.nt a) F' y (a.eval x) φ' φy := by
  unfold Env.tk at hy
  split at hy
  · rename_i t ht; rw [at_eval ht]; exact h.rel.take hy
  · simp only [Option.map_eq_some_iff, Prod.mk.injEq] at hy
    obtain ⟨c, hc, rfl, rfl⟩ := hy
    exact ⟨φ, [], h.rel, imm_rep hc, List.nodup_nil, by simp, fun _ _ h => h, by simp⟩

theorem Taken.mine {E : Env} {a : Act} (h : Pre E X Z w φ a F) {F' y v φ' φy} (ht : Taken X Z w φ (tmOf E.nt a) F' y v φ' φy) : ∀ b ∈ φy, X.mine b :=
  fun b hb => let ⟨r, hr⟩ := ht.was b hb; h.rel.mine r b hr

/-! ### move, assign -/
/-- a slot that is read as it is: what it owns stays there, the other one leads to it -/
def semMove (E : Env) (o : Oper) (x : Operand) (F : RF) : Option RF :=
  match E.at x with
  | some t =>
    match F.slot t with
    | .dead => none
    | .val y => if y.noOwn then some (setD F o.dst (.val y)) else
        match y with
        | .tup _ => some (setD (F.set t .dead) o.dst (.val y))
        | _ => if o.dst = some t then none else some (setD F o.dst (.pl t [] .self (F.ver t)))
    | .pl r p k n => if F.ok r k n = true ∧ o.dst ≠ some r then some (setD F o.dst (.pl r p k n)) else none
  | none => (E.imm o.type x).map fun y => setD F o.dst (.val y)

theorem noOwn_leaf {y : PV} (h : y.noOwn = false) : y.leaf = false := by cases y <;> simp_all [PV.noOwn, PV.leaf]

theorem semMove_out {E : Env} {o : Oper} {x : Operand} {a : Act} {F' : RF} (h : Pre E X Z w φ a F) (hs : semMove E o x F = some F') :
    Out X Z w (tmOf E.nt a) o.dst F' (a.eval x) w := by
  have fin : ∀ {F'}, (∃ φ', Rel X Z w φ' (tput (tmOf E.nt a) o.dst (a.eval x)) F') → Out X Z w (tmOf E.nt a) o.dst F' (a.eval x) w := fun ⟨φ', h⟩ => ⟨Z, φ', h, Stp.refl _ _, fun _ _ _ => Iff.rfl⟩
  unfold semMove at hs
  split at hs
  · rename_i t hat
    rw [at_eval hat] at fin ⊢
    split at hs
    · cases hs
    · rename_i y hsl
      have hr := h.rel.vals t y hsl
      split at hs
      · rename_i hn
        obtain rfl := Option.some.inj hs
        have he := RepV_noOwn hn hr
        rw [he] at hr
        exact fin (h.rel.outVal hr List.nodup_nil (by simp) (by simp))
      · rename_i hn
        split at hs
        · rename_i xs
          obtain rfl := Option.some.inj hs
          have h1 := h.rel.setDead t (tmOf E.nt a t)
          rw [upd_eta] at h1
          exact fin (h1.outVal hr (h.rel.nodup t) (h.rel.mine t) (fun u b hb => by
            by_cases e : u = t
            · simp [upd, e]
            · rw [upd_ne _ _ e]; exact fun hb2 => e (h.rel.disj u t b hb2 hb)))
        · split at hs
          · cases hs
          · rename_i hd
            obtain rfl := Option.some.inj hs
            exact fin (h.rel.outPl hd ⟨y, y, _, hsl, rfl, rfl, noOwn_leaf (by simpa using hn)⟩)
    · rename_i r p k n hsl
      split at hs
      case isFalse => cases hs
      case isTrue hc =>
      obtain rfl := Option.some.inj hs
      have := h.rel.pls t r p k n hsl hc.1
      rw [← RF.ok_ver hc.1]
      exact fin (h.rel.outPl hc.2 this)
  · simp only [Option.map_eq_some_iff] at hs
    obtain ⟨y, hy, rfl⟩ := hs
    exact fin (h.rel.outVal (imm_rep hy) List.nodup_nil (by simp) (by simp))

theorem semMove_ok {E : Env} {o : Oper} {x : Operand} {a : Act} {F' : RF} (h : Pre E X Z w φ a F) (ho : o.op = .move x) (hs : semMove E o x F = some F') :
    Yld E.P o a w (Out X Z w (tmOf E.nt a) o.dst F') :=
  Yld.value (by unfold execOp; rw [ho]; rfl) (semMove_out h hs)

/-- a slot that is written: what is written there is taken out of where it was -/
def semAssign (E : Env) (o : Oper) (x : Operand) (F : RF) : Option RF :=
  match (match E.at x with | some t => F.slot t | none => .dead) with
  | .pl r p (.addr i j) n => if F.ok r (.addr i j) n = true ∧ o.dst ≠ some r then some (setD F o.dst (.pl r p (.addr i j) n)) else none
  | _ => (E.tk F o.type x).map fun r => setD r.2 o.dst (.val r.1)

theorem semAssign_ok {E : Env} {o : Oper} {x : Operand} {a : Act} {F' : RF} (h : Pre E X Z w φ a F) (ho : o.op = .assign x) (hs : semAssign E o x F = some F') :
    Yld E.P o a w (Out X Z w (tmOf E.nt a) o.dst F') := by
  have hrun : (execOp a.eval o).run E.P w = .ok (.value (a.eval x)) w := by unfold execOp; rw [ho]; rfl
  refine Yld.value hrun ?_
  have fin : ∀ {F'}, (∃ φ', Rel X Z w φ' (tput (tmOf E.nt a) o.dst (a.eval x)) F') → Out X Z w (tmOf E.nt a) o.dst F' (a.eval x) w := fun ⟨φ', h⟩ => ⟨Z, φ', h, Stp.refl _ _, fun _ _ _ => Iff.rfl⟩
  unfold semAssign at hs
  split at hs
  · rename_i r p i j n hm
    split at hm
    case h_2 => cases hm
    rename_i t hat
    rw [at_eval hat] at fin ⊢
    split at hs
    case isFalse => cases hs
    case isTrue hc =>
    obtain rfl := Option.some.inj hs
    have := h.rel.pls t _ _ _ _ hm hc.1
    rw [← RF.ok_ver hc.1]
    exact fin (h.rel.outPl hc.2 this)
  · simp only [Option.map_eq_some_iff] at hs
    obtain ⟨⟨y, F1⟩, ht, rfl⟩ := hs
    obtain ⟨φ', φy, htk⟩ := tk_rep h ht
    exact fin (htk.rel.outVal htk.rep htk.nodup (htk.mine h) htk.apart)

/-! ### What hangs on numbers, bools and strings alone -/
/-- a run that asks nothing of the world -/
def pureRun (P : Program) {α : Type} : Sem α → Option α
  | .pure a => some a
  | .program k => pureRun P (k P)
  | _ => none
theorem pureRun_run {P : Program} {α : Type} {s : Sem α} {a : α} (h : pureRun P s = some a) (w : World) : s.run P w = .ok a w := by
  induction s with
  | pure b => simp only [pureRun, Option.some.injEq] at h; subst h; rfl
  | program k ih => simp only [pureRun] at h; exact ih P h
  | _ => simp [pureRun] at h

def cellVal : PV → Option Value
  | .prim v => some v
  | _ => none
def cellVals : List PV → Option (List Value)
  | [] => some []
  | c :: cs => (cellVal c).bind fun v => (cellVals cs).map (v :: ·)
def toVal1 : PV → Option Value
  | .prim v => some v
  | .agg cs => (cellVals cs).map fun vs => .agg vs.toArray
  | _ => none
def toVal1s : List PV → Option (List Value)
  | [] => some []
  | c :: cs => (toVal1 c).bind fun v => (toVal1s cs).map (v :: ·)
def PV.toVal : PV → Option Value
  | .tup xs => (toVal1s xs).map fun vs => .tuple vs.toArray
  | x => toVal1 x
theorem cellVals_rep {w Z} : ∀ {cs vs φ us}, cellVals cs = some vs → RepL w Z cs φ us → us = vs
  | [], vs, φ, us, h, hr => by simp only [cellVals, Option.some.injEq] at h; rw [RepL_nil] at hr; rw [hr.2, ← h]
  | c :: cs, vs, φ, us, h, hr => by
    simp only [cellVals, Option.bind_eq_some_iff, Option.map_eq_some_iff] at h
    obtain ⟨v, hv, vs', hvs, rfl⟩ := h
    rw [RepL_cons] at hr
    obtain ⟨φ₁, φ₂, v₁, v₂, rfl, rfl, h1, h2⟩ := hr
    cases c with
    | prim u =>
      simp only [cellVal, Option.some.injEq] at hv; subst hv
      simp only [Rep] at h1
      rw [h1.2.1, cellVals_rep hvs h2]; rfl
    | _ => simp [cellVal] at hv
theorem toVal1_rep {w Z x v φ u} (h : toVal1 x = some v) (hr : RepV1 w Z x φ u) : u = v := by
  cases x with
  | prim v' => simp only [toVal1, Option.some.injEq] at h; subst h; simp only [RepV1, Rep] at hr; simpa using hr.2.1
  | agg cs =>
    simp only [toVal1, Option.map_eq_some_iff] at h
    obtain ⟨vs, hvs, rfl⟩ := h
    simp only [RepV1, Rep] at hr
    obtain ⟨us, rfl, hr, _⟩ := hr
    rw [cellVals_rep hvs hr]
  | _ => simp [toVal1] at h
theorem toVal1s_rep {w Z} : ∀ {xs vs φ us}, toVal1s xs = some vs → RepTs w Z xs φ us → us = vs
  | [], vs, φ, us, h, hr => by simp only [toVal1s, Option.some.injEq] at h; simp only [RepTs] at hr; rw [hr.2, ← h]
  | c :: cs, vs, φ, us, h, hr => by
    simp only [toVal1s, Option.bind_eq_some_iff, Option.map_eq_some_iff] at h
    obtain ⟨v, hv, vs', hvs, rfl⟩ := h
    rw [RepTs_cons] at hr
    obtain ⟨φ₁, φ₂, v₁, v₂, rfl, rfl, h1, h2⟩ := hr
    rw [toVal1_rep hv h1, toVal1s_rep hvs h2]
theorem toVal_rep {w Z x v φ u} (h : x.toVal = some v) (hr : RepV w Z x φ u) : u = v := by
  rcases PV.tup_or x with ⟨xs, rfl⟩ | ⟨e, _⟩
  · simp only [PV.toVal, Option.map_eq_some_iff] at h
    obtain ⟨vs, hvs, rfl⟩ := h
    rw [RepV_tup] at hr
    obtain ⟨us, rfl, hr⟩ := hr
    rw [toVal1s_rep hvs hr]
  · rw [e] at hr
    cases x with
    | tup xs => simp only [RepV1, Rep] at hr
    | _ => simp only [PV.toVal] at h; exact toVal1_rep h hr

def ofVal1 : Value → Option PV
  | .agg vs => if vs.toList.all flat then some (.agg (vs.toList.map .prim)) else none
  | v => if flat v then some (.prim v) else none
def ofVal1s : List Value → Option (List PV)
  | [] => some []
  | v :: vs => (ofVal1 v).bind fun x => (ofVal1s vs).map (x :: ·)
def ofVal : Value → Option PV
  | .tuple vs => (ofVal1s vs.toList).map .tup
  | v => ofVal1 v
theorem RepL_prims {w Z} : ∀ {vs : List Value}, vs.all flat = true → RepL w Z (vs.map .prim) [] vs
  | [], _ => RepL_nil.2 ⟨rfl, rfl⟩
  | v :: vs, h => by
    simp only [List.all_cons, Bool.and_eq_true] at h
    exact RepL_cons.2 ⟨[], [], [v], vs, rfl, rfl, by simp [Rep, h.1], RepL_prims h.2⟩
theorem ofVal1_rep {w Z v x} (h : ofVal1 v = some x) : RepV1 w Z x [] v := by
  unfold ofVal1 at h
  split at h
  · rename_i vs
    split at h
    · rename_i hf
      obtain rfl := Option.some.inj h
      simp only [RepV1, Rep]
      exact ⟨vs.toList, by simp, RepL_prims hf, by intro c hc; obtain ⟨v, _, rfl⟩ := List.mem_map.1 hc; rfl⟩
    · cases h
  · split at h
    · rename_i hf
      obtain rfl := Option.some.inj h
      simp [RepV1, Rep, hf]
    · cases h
theorem ofVal1s_rep {w Z} : ∀ {vs xs}, ofVal1s vs = some xs → RepTs w Z xs [] vs
  | [], xs, h => by simp only [ofVal1s, Option.some.injEq] at h; subst h; simp [RepTs]
  | v :: vs, xs, h => by
    simp only [ofVal1s, Option.bind_eq_some_iff, Option.map_eq_some_iff] at h
    obtain ⟨x, hx, xs', hxs, rfl⟩ := h
    exact RepTs_cons.2 ⟨[], [], v, vs, rfl, rfl, ofVal1_rep hx, ofVal1s_rep hxs⟩
theorem ofVal_rep {w Z v x} (h : ofVal v = some x) : RepV w Z x [] v := by
  unfold ofVal at h
  split at h
  · rename_i vs
    simp only [Option.map_eq_some_iff] at h
    obtain ⟨xs, hxs, rfl⟩ := h
    exact RepV_tup.2 ⟨vs.toList, by simp, ofVal1s_rep hxs⟩
  · rename_i hn
    have h1 := ofVal1_rep (w := w) (Z := Z) h
    rcases PV.tup_or x with ⟨xs, rfl⟩ | ⟨e, _⟩
    · unfold ofVal1 at h; split at h <;> (split at h <;> cases h)
    · rw [e]; exact h1

/-- an operand's own value, where no memory is behind it -/
def Env.vl (E : Env) (F : RF) (x : Operand) : Option Value :=
  match E.at x with
  | some t => (F.content t).bind PV.toVal
  | none => match x with
    | .const v => some v
    | _ => none
def isSel : Op → Bool
  | .select _ _ => true
  | _ => false
def semPure (E : Env) (o : Oper) (F : RF) : Option RF :=
  if isSel o.op = true then none else
  if o.op.operands.toList.all (fun x => (E.vl F x).isSome) then
    match pureRun E.P (execOp (fun x => (E.vl F x).getD undef) o) with
    | some (.value v) => (ofVal v).map fun y => setD F o.dst (.val y)
    | _ => none
  else none

theorem vl_eq {E : Env} {a : Act} {x : Operand} {v : Value} (h : Pre E X Z w φ a F) (hv : E.vl F x = some v) : a.eval x = v := by
  unfold Env.vl at hv
  split at hv
  · rename_i t ht
    simp only [Option.bind_eq_some_iff] at hv
    obtain ⟨y, hy, hv⟩ := hv
    obtain ⟨φy, hr, _⟩ := h.rel.content hy
    rw [at_eval ht]; exact toVal_rep hv hr
  · cases x with
    | const u => simp only [Option.some.injEq] at hv; exact hv
    | _ => simp at hv

theorem semPure_ok {E : Env} {o : Oper} {a : Act} {F' : RF} (h : Pre E X Z w φ a F) (hs : semPure E o F = some F') :
    Yld E.P o a w (Out X Z w (tmOf E.nt a) o.dst F') := by
  unfold semPure at hs
  split at hs
  · cases hs
  rename_i hsel
  split at hs
  case isFalse => cases hs
  case isTrue hall =>
  have hcongr : execOp a.eval o = execOp (fun x => (E.vl F x).getD undef) o := by
    apply execOp_congr
    · intro cs b e; rw [e] at hsel; exact hsel rfl
    · intro x hx
      have := List.all_eq_true.1 hall x (Array.mem_toList_iff.2 hx)
      obtain ⟨v, hv⟩ := Option.isSome_iff_exists.1 this
      simp only [hv, Option.getD_some]
      exact vl_eq h hv
  split at hs
  · rename_i v hp
    simp only [Option.map_eq_some_iff] at hs
    obtain ⟨y, hy, rfl⟩ := hs
    refine Yld.value (w' := w) (v := v) (by rw [hcongr]; exact pureRun_run hp w) ?_
    obtain ⟨φ', hr⟩ := h.rel.outVal (d := o.dst) (ofVal_rep hy) List.nodup_nil (by simp) (by simp)
    exact ⟨Z, φ', hr, Stp.refl _ _, fun _ _ _ => Iff.rfl⟩
  · cases hs
end Go.V
