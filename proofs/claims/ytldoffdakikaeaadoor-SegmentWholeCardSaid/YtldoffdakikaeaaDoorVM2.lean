/- Operations on memory: new variables, loads, stores, addresses. -/
import Derived.Test.YtldoffdakikaeaaDoorVM1
import Derived.Laws.Cells
import Derived.Laws.Slices
import Derived.Laws.MakeOwn
import Derived.Laws.Append
import Derived.Laws.CopyRow
import Derived.Laws.Tables
import Derived.Laws.BytesString
namespace Go.V
set_option linter.unusedVariables false
set_option linter.unusedSimpArgs false
variable {X : Cx} {Z : Nat → Prop} {w : World} {φ : Tmp → List Nat} {tm : Tmp → Value} {F : RF}

def Zn (Z : Nat → Prop) (w : World) : Nat → Prop := fun b => Z b ∨ b = w.heap.size
theorem keeps_alloc (w : World) (Z : Nat → Prop) (o : Obj) (φ : List Nat) : Keeps w (w.alloc o) Z (Zn Z w) φ := fun b hb _ =>
  ⟨⟨.inl, fun h => h.resolve_right (by omega)⟩, RowKit.Below.heap_alloc _ _ _ hb⟩
theorem Rel.alloc (h : Rel X Z w φ tm F) (o : Obj) : Rel X (Zn Z w) (w.alloc o) φ tm F :=
  h.keep fun b hb _ => ⟨⟨.inl, fun h => h.resolve_right (by omega)⟩, RowKit.Below.heap_alloc _ _ _ hb⟩
theorem zok_alloc {mine : Nat → Prop} : ZOk mine w Z (Zn Z w) := fun b hb _ => ⟨.inl, fun h => h.resolve_right (by omega)⟩
theorem heap_new (w : World) (o : Obj) : (w.alloc o).heap[w.heap.size]? = some o := by
  show (w.heap.push o)[w.heap.size]? = _
  simp

theorem Rel.lt (h : Rel X Z w φ tm F) {t : Tmp} {b : Nat} (hb : b ∈ φ t) : b < w.heap.size ∧ Z b := by
  cases hs : F.slot t with
  | val x => exact RepV_lt (h.vals t x hs) b hb
  | dead => rw [h.rest t (by simp [hs])] at hb; simp at hb
  | pl r p k n => rw [h.rest t (by simp [hs])] at hb; simp at hb

theorem Rel.newVal (h : Rel X Z w φ tm F) {d : Option Tmp} {o : Obj} {x : PV} {v : Value} {φx : List Nat} (hr : RepV (w.alloc o) (Zn Z w) x (w.heap.size :: φx) v) (hnd : φx.Nodup)
    (hm : ∀ b ∈ φx, X.mine b) (hap : ∀ u, ∀ b ∈ φx, b ∉ φ u) (hlt : ∀ b ∈ φx, b < w.heap.size) (hnew : X.mine w.heap.size) : Out X Z w tm d (setD F d (.val x)) v (w.alloc o) := by
  obtain ⟨φ', hr'⟩ := (h.alloc o).outVal (d := d) hr (List.nodup_cons.2 ⟨fun hb => absurd (hlt _ hb) (by omega), hnd⟩) (by
      intro b hb; rcases List.mem_cons.1 hb with rfl | hb
      · exact hnew
      · exact hm b hb) (by
      intro u b hb; rcases List.mem_cons.1 hb with rfl | hb
      · exact fun hb2 => absurd (h.lt hb2).1 (by omega)
      · exact hap u b hb)
  exact ⟨_, φ', hr', Stp.alloc _ _, zok_alloc⟩

theorem RepL_lt' {w : World} {Z : Nat → Prop} {xs φ vs} (h : RepL w Z xs φ vs) : ∀ b ∈ φ, b < w.heap.size := fun b hb => (Rep_lt.2 _ _ _ h b hb).1

/-- A new variable. -/
theorem Rel.newPtr (h : Rel X Z w φ tm F) {d : Option Tmp} {cs : List PV} {φc : List Nat} {arr : Array Value} {T : TypeId} (hl : RepL w Z cs φc arr.toList) (hc : ∀ c ∈ cs, c.cell1 = true)
    (hnd : φc.Nodup) (hm : ∀ b ∈ φc, X.mine b) (hap : ∀ u, ∀ b ∈ φc, b ∉ φ u) (hnew : X.mine w.heap.size) :
    Out X Z w tm d (setD F d (.val (.ptr true cs))) (.pointer (some ⟨w.heap.size, 0, none⟩)) (w.alloc (.cells arr T)) := by
  refine h.newVal (φx := φc) ((RepV_cell rfl).2 ?_) hnd hm hap (RepL_lt' hl) hnew
  simp only [Rep]
  exact ⟨_, arr, T, (0, 0), φc, rfl, heap_new _ _, (keeps_alloc w Z _ φc).repL (fun _ h => h) hl, hc, fun h => (by cases h), fun _ => ⟨.inr rfl, rfl, rfl⟩⟩

/-- A new row. -/
theorem Rel.newSl (h : Rel X Z w φ tm F) {d : Option Tmp} {xs : List PV} {φc : List Nat} {ch : List Value} {arr : Array Value} {T : TypeId} {sz cap : Nat} (hl : RepL w Z xs φc ch)
    (hw : ∀ x ∈ xs, x.width = sz) (h0 : 0 < sz) (hch : ∀ (i : Nat) (v : Value), ch[i]? = some v → arr[i]? = some v) (hcap : cap * sz ≤ arr.size) (hlen : xs.length ≤ cap)
    (hnd : φc.Nodup) (hm : ∀ b ∈ φc, X.mine b) (hap : ∀ u, ∀ b ∈ φc, b ∉ φ u) (hnew : X.mine w.heap.size) :
    Out X Z w tm d (setD F d (.val (.sl true sz xs))) (.slice (some ⟨w.heap.size, 0, none⟩) xs.length cap) (w.alloc (.cells arr T)) := by
  refine h.newVal (φx := φc) ((RepV_cell rfl).2 ?_) hnd hm hap (RepL_lt' hl) hnew
  simp only [Rep]
  exact ⟨_, cap, φc, ch, rfl, ⟨h0, hlen⟩, (keeps_alloc w Z _ φc).repL (fun _ h => h) hl, hw,
    .inr ⟨_, 0, arr, T, (0, 0), rfl, heap_new _ _, by simpa using hch, fun h => (by cases h), fun _ => ⟨.inr rfl, rfl, rfl, by simpa using hcap, hlen⟩⟩⟩

/-! ### Types, as the model asks for them -/
theorem run_size {P : Program} {T : TypeId} (h : (P.info? T).isSome = true) (w : World) : (sizeOf T).run P w = .ok (esz P T) w := by
  obtain ⟨i, hi⟩ := Option.isSome_iff_exists.1 h
  simp [sizeOf, typeInfo, esz, hi]
theorem run_isAgg {P : Program} {T : TypeId} (h : (P.underlying T).isSome = true) (w : World) : (isAgg T).run P w = .ok (aggT P T) w := by
  obtain ⟨d, hd⟩ := Option.isSome_iff_exists.1 h
  simp only [isAgg, Sem.run_bind, run_underlying hd w, Result.andThen_ok, aggT, hd]
  cases d <;> rfl
def tyOk (P : Program) (T : TypeId) : Bool := (P.underlying T).isSome && (P.info? T).isSome
theorem tyOk_u {P : Program} {T : TypeId} (h : tyOk P T = true) : (P.underlying T).isSome = true := by simp only [tyOk, Bool.and_eq_true] at h; exact h.1
theorem tyOk_i {P : Program} {T : TypeId} (h : tyOk P T = true) : (P.info? T).isSome = true := by simp only [tyOk, Bool.and_eq_true] at h; exact h.2

theorem cellsV {w Z y φ v} (h : RepV w Z y φ v) (ht : ∀ xs, y ≠ .tup xs) : RepL w Z y.cells φ v.cells.toList ∧ ∀ c ∈ y.cells, c.cell1 = true := by
  cases y with
  | tup xs => exact absurd rfl (ht xs)
  | agg cs =>
    rw [RepV_agg] at h
    obtain ⟨vs, rfl, hr⟩ := h
    exact ⟨by simpa [Value.cells] using hr.cellsL, PV.cells_cell1 hr⟩
  | _ =>
    rw [RepV_cell rfl] at h
    have ho := Rep_oneCell h rfl
    have : v.cells.toList = [v] := by cases v <;> first | rfl | simp [one] at ho
    rw [this]
    exact ⟨h.cellsL, PV.cells_cell1 h⟩

/-! ### alloc, box -/
def semAlloc (E : Env) (o : Oper) (T : TypeId) (F : RF) : Option RF := (zeroCs E.P T).map fun cs => setD F o.dst (.val (.ptr true cs))
theorem zeroCs_rep {P : Program} {T : TypeId} {cs : List PV} {w : World} {Z : Nat → Prop} (h : zeroCs P T = some cs) :
    ∃ z, (zeroValue T).run P w = .ok z w ∧ RepL w Z cs [] z.cells.toList ∧ ∀ c ∈ cs, c.cell1 = true := by
  unfold zeroCs at h
  split at h
  · rename_i i hi
    split at h
    · rename_i z hz
      obtain ⟨h1, h2⟩ := ofCells_rep (w := w) (Z := Z) h
      exact ⟨z, by simp [zeroValue, typeInfo, hi, hz], h1, h2⟩
    · cases h
  · cases h
theorem semAlloc_ok {E : Env} {o : Oper} {T : TypeId} {a : Act} {F' : RF} (h : Pre E X Z w φ a F) (ho : o.op = .alloc T) (hs : semAlloc E o T F = some F') :
    Yld E.P o a w (Out X Z w (tmOf E.nt a) o.dst F') := by
  simp only [semAlloc, Option.map_eq_some_iff] at hs
  obtain ⟨cs, hcs, rfl⟩ := hs
  obtain ⟨z, hz, hl, hc⟩ := zeroCs_rep (w := w) (Z := Z) hcs
  refine Yld.value (w' := w.alloc (.cells z.cells T)) (v := .pointer (some ⟨w.heap.size, 0, none⟩)) ?_ (h.rel.newPtr hl hc List.nodup_nil (by simp) (by simp) (h.new _ (Nat.le_refl _)))
  unfold execOp; rw [ho]; simp [Instr.alloc, hz, newVar, newRow]

def PV.notTup : PV → Bool
  | .tup _ => false
  | _ => true
theorem PV.notTup_ne {y : PV} (h : y.notTup = true) : ∀ xs, y ≠ .tup xs := by rintro xs rfl; cases h
def semBox (E : Env) (o : Oper) (T : TypeId) (x : Operand) (F : RF) : Option RF :=
  (E.tk F T x).bind fun r => if r.1.notTup = true then some (setD r.2 o.dst (.val (.ptr true r.1.cells))) else none
theorem semBox_ok {E : Env} {o : Oper} {T : TypeId} {x : Operand} {a : Act} {F' : RF} (h : Pre E X Z w φ a F) (ho : o.op = .box T x) (hs : semBox E o T x F = some F') :
    Yld E.P o a w (Out X Z w (tmOf E.nt a) o.dst F') := by
  simp only [semBox, Option.bind_eq_some_iff] at hs
  obtain ⟨⟨y, F1⟩, ht, hs⟩ := hs
  split at hs
  case isFalse => cases hs
  case isTrue hnt =>
  obtain rfl := Option.some.inj hs
  obtain ⟨φ', φy, htk⟩ := tk_rep h ht
  obtain ⟨hl, hc⟩ := cellsV htk.rep (PV.notTup_ne hnt)
  refine Yld.value (w' := w.alloc (.cells (a.eval x).cells T)) (v := .pointer (some ⟨w.heap.size, 0, none⟩)) ?_ (htk.rel.newPtr hl hc htk.nodup (htk.mine h) htk.apart (h.new _ (Nat.le_refl _)))
  unfold execOp; rw [ho]; simp [Instr.box, newVar, newRow]

/-! ### load -/
def Env.target (E : Env) (F : RF) (x : Operand) : Option (Tmp × Path × Nat × Nat) := (E.at x).bind F.target
def semLoad (E : Env) (o : Oper) (T : TypeId) (x : Operand) (F : RF) : Option RF :=
  if tyOk E.P T = true then
    match E.target F x with
    | some (r, p, i, j) =>
      match F.slot r with
      | .val g => (g.get? p).bind fun y =>
        if aggT E.P T = true then (y.row i).bind fun row =>
          if j + esz E.P T ≤ row.length then
            let c := PV.agg ((row.drop j).take (esz E.P T))
            if c.noOwn = true then some (setD F o.dst (.val c)) else if o.dst = some r then none else some (setD F o.dst (.pl r p (.cells i j (esz E.P T) (F.cnt r)) (F.ver r)))
          else none
        else (y.at? i j).bind fun c =>
          if c.noOwn = true then some (setD F o.dst (.val c)) else if o.dst = some r then none else some (setD F o.dst (.pl r (p ++ [(i, j)]) .self (F.ver r)))
      | _ => none
    | none => none
  else none

theorem add_lit {A : Addr} (h : A.spot = none) (n : Nat) : A.add n = ⟨A.block, A.off + n, none⟩ := by
  obtain ⟨b, o, s⟩ := A
  simp only at h; subst h
  unfold Addr.add; split
  · rename_i e; subst e; rfl
  · rfl

theorem semLoad_ok {E : Env} {o : Oper} {T : TypeId} {x : Operand} {a : Act} {F' : RF} (h : Pre E X Z w φ a F) (ho : o.op = .load T x) (hs : semLoad E o T x F = some F') :
    Yld E.P o a w (Out X Z w (tmOf E.nt a) o.dst F') := by
  unfold semLoad at hs
  split at hs
  case isFalse => cases hs
  case isTrue hty =>
  split at hs
  case h_2 => cases hs
  rename_i r p i j htg
  simp only [Env.target, Option.bind_eq_some_iff] at htg
  obtain ⟨t, hat, htg⟩ := htg
  obtain ⟨g, y, u, A, hg, hf, hget, hA, hv, hsp, φy, hry, hsub⟩ := h.rel.target htg
  rw [hg] at hs
  simp only [hget, Option.bind_some] at hs
  have hexec : ∀ v, (loadVar T A).run E.P w = .ok v w → (execOp a.eval o).run E.P w = .ok (.value v) w := by
    intro v hl; unfold execOp; rw [ho]; simp [Instr.loadAt, at_eval hat, hv, Instr.sureAddr, hl]
  split at hs
  · rename_i hagg
    simp only [Option.bind_eq_some_iff] at hs
    obtain ⟨row, hrow, hs⟩ := hs
    split at hs
    case isFalse => cases hs
    case isTrue hlen =>
    rw [RepV_cell (row_cell1 hrow)] at hry
    obtain ⟨vs, φ', hs', hvl, hcells, hrep⟩ := row_rep hry hrow hlen hA
    have hrun : (loadVar T A).run E.P w = .ok (.agg vs.toArray) w := by
      simp only [loadVar, Sem.run_bind, run_isAgg (tyOk_u hty), Result.andThen_ok, hagg, if_true, run_size (tyOk_i hty)]
      have hlv := run_loadCells_list (P := E.P) w A vs (fun k v hk => by
        have hlt : k < esz E.P T := by rw [← hvl]; exact (List.getElem?_eq_some_iff.1 hk).1
        rw [add_lit hsp, hcells k hlt]; exact hk)
      rw [hvl] at hlv
      simp [hlv]
    refine Yld.value (hexec _ hrun) ?_
    split at hs
    · rename_i hno
      obtain rfl := Option.some.inj hs
      obtain rfl := Rep_noOwn.1 _ _ _ hno hrep
      obtain ⟨φ'', hr⟩ := h.rel.outVal (d := o.dst) (RepV_agg.2 ⟨vs, rfl, hrep⟩) List.nodup_nil (by simp) (by simp)
      exact ⟨Z, φ'', hr, Stp.refl _ _, fun _ _ _ => Iff.rfl⟩
    · split at hs
      · cases hs
      · rename_i hd
        obtain rfl := Option.some.inj hs
        obtain ⟨φ'', hr⟩ := h.rel.outPl (d := o.dst) (r := r) (p := p) (k := .cells i j (esz E.P T) (F.cnt r)) (v := .agg vs.toArray) hd
          ⟨g, y, u, hg, hf, by simp only [viewOk]; exact ⟨row, A, vs, hrow, hlen, hA, hvl, hcells, rfl⟩⟩
        exact ⟨Z, φ'', hr, Stp.refl _ _, fun _ _ _ => Iff.rfl⟩
  · rename_i hagg
    simp only [Option.bind_eq_some_iff] at hs
    obtain ⟨c, hc, hs⟩ := hs
    rw [RepV_cell (at_cell1 hc)] at hry
    obtain ⟨hc1, A', cv, φ₁, φc, φ₂, hA', hcv, _, rfl, hrc, _⟩ := at_rep hry hc
    obtain rfl : A' = A := by rw [hA] at hA'; exact (Option.some.inj hA').symm
    have hrun : (loadVar T A').run E.P w = .ok cv w := by
      simp only [loadVar, Sem.run_bind, run_isAgg (tyOk_u hty), Result.andThen_ok, hagg, run_load, hcv]
      simp [hcv]
    refine Yld.value (hexec _ hrun) ?_
    split at hs
    · rename_i hno
      obtain rfl := Option.some.inj hs
      obtain rfl := Rep_noOwn.1 _ _ _ hno hrc
      obtain ⟨φ'', hr⟩ := h.rel.outVal (d := o.dst) ((RepV_cell hc1).2 hrc) List.nodup_nil (by simp) (by simp)
      exact ⟨Z, φ'', hr, Stp.refl _ _, fun _ _ _ => Iff.rfl⟩
    · rename_i hno
      split at hs
      · cases hs
      · rename_i hd
        obtain rfl := Option.some.inj hs
        obtain ⟨φ'', hr⟩ := h.rel.outPl (d := o.dst) (r := r) (p := p ++ [(i, j)]) (k := .self) (v := cv) hd
          ⟨g, c, cv, hg, by rw [follow_append, hf]; simp [follow, hc, hA, hcv], rfl, noOwn_leaf (by simpa using hno)⟩
        exact ⟨Z, φ'', hr, Stp.refl _ _, fun _ _ _ => Iff.rfl⟩

/-! ### store -/
def semStore (E : Env) (o : Oper) (T : TypeId) (x v : Operand) (F : RF) : Option RF :=
  if tyOk E.P T = true ∧ o.dst = none then
    (E.tk F T v).bind fun tk =>
      if tk.1.notTup = true ∧ tk.1.cells.length = esz E.P T then
        match E.target tk.2 x with
        | some (r, p, i, j) =>
          match tk.2.slot r with
          | .val g => (PV.putCs p i g j tk.1.cells).map fun g' => tk.2.re r g'
          | _ => none
        | none => none
      else none
  else none

theorem place0 {g : PV} {gv : Value} {i o : Nat} {A : Addr} (h : place g gv i o = some A) : ∃ A0, place g gv i 0 = some A0 ∧ A = ⟨A0.block, A0.off + o, none⟩ := by
  cases g with
  | sl f sz xs =>
    cases gv with
    | slice a l c => cases a with
      | none => simp [place] at h
      | some a => exact ⟨_, rfl, place_at (g := .sl f sz xs) (gv := .slice (some a) l c) (i := i) rfl h⟩
    | _ => simp [place] at h
  | ptr f cs =>
    cases gv with
    | pointer a => cases a with
      | none => simp [place] at h
      | some a => exact ⟨_, rfl, place_at (g := .ptr f cs) (gv := .pointer (some a)) (i := i) rfl h⟩
    | _ => simp [place] at h
  | _ => simp [place] at h

theorem semStore_ok {E : Env} {o : Oper} {T : TypeId} {x v : Operand} {a : Act} {F' : RF} (h : Pre E X Z w φ a F) (ho : o.op = .store T x v) (hs : semStore E o T x v F = some F') :
    Yld E.P o a w (Out X Z w (tmOf E.nt a) o.dst F') := by
  unfold semStore at hs
  split at hs
  case isFalse => cases hs
  case isTrue hty =>
  obtain ⟨hty, hdn⟩ := hty
  simp only [Option.bind_eq_some_iff] at hs
  obtain ⟨⟨y, F1⟩, ht, hs⟩ := hs
  split at hs
  case isFalse => cases hs
  case isTrue hc =>
  obtain ⟨hnt, hlen⟩ := hc
  simp only at hs hnt hlen
  split at hs
  case h_2 => cases hs
  rename_i r p i j htg
  simp only [Env.target, Option.bind_eq_some_iff] at htg
  obtain ⟨t, hat, htg⟩ := htg
  obtain ⟨φ', φy, htk⟩ := tk_rep h ht
  obtain ⟨g, yy, u, A, hg, hf, hget, hA, hv, hsp, _⟩ := htk.rel.target htg
  rw [hg] at hs
  simp only [Option.map_eq_some_iff] at hs
  obtain ⟨g', hput, rfl⟩ := hs
  obtain ⟨hl, hc1⟩ := cellsV htk.rep (PV.notTup_ne hnt)
  obtain ⟨A0, hA0, rfl⟩ := place0 hA
  obtain ⟨φ'', hrel, hstp, k5, k6, k7⟩ := htk.rel.store hg hput hl hc1 htk.nodup htk.apart (htk.mine h) hf hA0
  have hcl : (a.eval v).cells.size = esz E.P T := by
    have := RepL_len (sz := 1) hl (fun c hcm => PV.cell1_width (hc1 c hcm))
    simp only [Array.length_toList, Nat.mul_one] at this; omega
  have hrun : (storeVar T ⟨A0.block, A0.off + j, none⟩ (a.eval v)).run E.P w = .ok () (w.setCells A0.block (A0.off + j) (a.eval v).cells.toList) := by
    simp only [storeVar, Sem.run_bind, run_size (tyOk_i hty), Result.andThen_ok, hcl, ne_eq, not_true_eq_false, if_false]
    have := run_storeCells_cells (P := E.P) A0.block (A0.off + j) (a.eval v).cells.toList 0 w (by simpa using k5) (by simpa using k6) k7
    simp only [Nat.add_zero] at this
    simp [this]
  refine Yld.skip (w' := w.setCells A0.block (A0.off + j) (a.eval v).cells.toList) ?_ ?_
  · unfold execOp; rw [ho]; simp [Instr.storeAt, at_eval hat, hv, Instr.sureAddr, hrun]
  · rw [hdn]; exact ⟨Z, φ'', hrel, hstp, fun _ _ _ => Iff.rfl⟩
end Go.V
/- Operations on memory: addresses of fields and elements, parts of slices, lengths. -/
namespace Go.V
set_option linter.unusedVariables false
set_option linter.unusedSimpArgs false
variable {X : Cx} {Z : Nat → Prop} {w : World} {φ : Tmp → List Nat} {tm : Tmp → Value} {F : RF}

/-! ### nilCheck, fieldAddr -/
def semNil (E : Env) (o : Oper) (x : Operand) (F : RF) : Option RF :=
  if (E.target F x).isSome = true then semMove E o x F else none
theorem semNil_ok {E : Env} {o : Oper} {x : Operand} {a : Act} {F' : RF} (h : Pre E X Z w φ a F) (ho : o.op = .nilCheck x) (hs : semNil E o x F = some F') :
    Yld E.P o a w (Out X Z w (tmOf E.nt a) o.dst F') := by
  unfold semNil at hs
  split at hs
  case isFalse => cases hs
  case isTrue htg =>
  obtain ⟨⟨r, p, i, j⟩, htg⟩ := Option.isSome_iff_exists.1 htg
  simp only [Env.target, Option.bind_eq_some_iff] at htg
  obtain ⟨t, hat, htg⟩ := htg
  obtain ⟨g, y, u, A, hg, hf, hget, hA, hv, hsp, _⟩ := h.rel.target htg
  refine Yld.value (w' := w) (v := a.eval x) ?_ (semMove_out h hs)
  unfold execOp; rw [ho]; simp [at_eval hat, hv]

def semField (E : Env) (o : Oper) (S : TypeId) (x : Operand) (f : Nat) (F : RF) : Option RF :=
  match E.P.underlying S with
  | some (.struct fs) => (fs[f]?).bind fun fd =>
    if (E.P.info? fd.type).isSome = true ∧ esz E.P fd.type ≠ 0 then
      (E.target F x).bind fun (r, p, i, j) => if o.dst = some r then none else some (setD F o.dst (.pl r p (.addr i (j + fd.offset)) (F.ver r)))
    else none
  | _ => none
theorem semField_ok {E : Env} {o : Oper} {S : TypeId} {x : Operand} {f : Nat} {a : Act} {F' : RF} (h : Pre E X Z w φ a F) (ho : o.op = .fieldAddr S x f) (hs : semField E o S x f F = some F') :
    Yld E.P o a w (Out X Z w (tmOf E.nt a) o.dst F') := by
  unfold semField at hs
  split at hs
  case h_2 => cases hs
  rename_i fs hu
  simp only [Option.bind_eq_some_iff] at hs
  obtain ⟨fd, hfd, hs⟩ := hs
  split at hs
  case isFalse => cases hs
  case isTrue hc =>
  obtain ⟨hi, hne⟩ := hc
  simp only [Option.bind_eq_some_iff] at hs
  obtain ⟨⟨r, p, i, j⟩, htg, hs⟩ := hs
  simp only at hs
  split at hs
  · cases hs
  rename_i hd
  obtain rfl := Option.some.inj hs
  simp only [Env.target, Option.bind_eq_some_iff] at htg
  obtain ⟨t, hat, htg⟩ := htg
  obtain ⟨g, y, u, A, hg, hf, hget, hA, hv, hsp, _⟩ := h.rel.target htg
  have hA2 : place y u i (j + fd.offset) = some (A.add fd.offset) := by
    obtain ⟨A0, hA0, rfl⟩ := place0 hA
    rw [add_lit rfl]
    cases y with
    | sl f sz xs => cases u with
      | slice a l c => cases a with
        | none => simp [place] at hA
        | some a => simp only [place, Option.some.injEq] at hA0 ⊢; subst hA0; simp [Nat.add_assoc]
      | _ => simp [place] at hA
    | ptr f cs => cases u with
      | pointer a => cases a with
        | none => simp [place] at hA
        | some a => simp only [place, Option.some.injEq] at hA0 ⊢; subst hA0; simp [Nat.add_assoc]
      | _ => simp [place] at hA
    | _ => simp [place] at hA
  refine Yld.value (w' := w) (v := .pointer (some (A.add fd.offset))) ?_ ?_
  · unfold execOp; rw [ho]
    simp [Instr.fieldAt, run_underlying hu, hfd, at_eval hat, hv, Instr.sureAddr, fieldPlace, run_size hi, hne]
  · obtain ⟨φ', hr⟩ := h.rel.outPl (d := o.dst) (r := r) (p := p) (k := .addr i (j + fd.offset)) (v := .pointer (some (A.add fd.offset))) hd ⟨g, y, u, hg, hf, A.add fd.offset, hA2, rfl⟩
    exact ⟨Z, φ', hr, Stp.refl _ _, fun _ _ _ => Iff.rfl⟩

/-! ### Where a slice lies -/
/-- root, way, from where to where; the elements' cells, the elements there -/
def Env.sloc (E : Env) (F : RF) (x : Operand) : Option (Tmp × Path × Nat × Nat × Nat × List PV) :=
  (E.at x).bind fun t =>
    match F.slot t with
    | .val (.sl _ sz xs) => some (t, [], 0, xs.length, sz, xs)
    | .pl r p k n =>
      if F.ok r k n = true then
        match F.slot r with
        | .val g =>
          match g.get? p with
          | some (.sl _ sz xs) =>
            match k with
            | .self => some (r, p, 0, xs.length, sz, xs)
            | .sub lo hi => if lo ≤ hi ∧ hi ≤ xs.length then some (r, p, lo, hi, sz, xs) else none
            | _ => none
          | _ => none
        | _ => none
      else none
    | _ => none

theorem sloc_ok {E : Env} {a : Act} (h : Pre E X Z w φ a F) {x : Operand} {r : Tmp} {p : Path} {lo hi sz : Nat} {xs : List PV} (hl : E.sloc F x = some (r, p, lo, hi, sz, xs)) :
    lo ≤ hi ∧ hi ≤ xs.length ∧ ∃ g f ad cap ad' φy, F.slot r = .val g ∧ g.get? p = some (.sl f sz xs) ∧ follow w g (tmOf E.nt a r) p = some (.sl f sz xs, .slice ad xs.length cap) ∧
      Rep w Z (.sl f sz xs) φy [.slice ad xs.length cap] ∧ φy.Sublist (φ r) ∧ a.eval x = .slice ad' (hi - lo) (cap - lo) ∧ (cap ≠ lo → ad' = ad.map (·.add (lo * sz))) := by
  simp only [Env.sloc, Option.bind_eq_some_iff] at hl
  obtain ⟨t, hat, hl⟩ := hl
  rw [at_eval hat]
  have hrep : ∀ {f sz xs φy u}, RepV w Z (.sl f sz xs) φy u → ∃ ad cap, u = .slice ad xs.length cap := by
    intro f sz xs φy u hr
    rw [RepV_cell rfl] at hr
    simp only [Rep] at hr
    obtain ⟨ad, cap, ψ, ch, hv, _⟩ := hr
    exact ⟨ad, cap, by simpa using hv⟩
  have h0 : ∀ (ad : Option Addr) (sz : Nat), ad = ad.map (fun x : Addr => x.add (0 * sz)) := by
    intro ad sz; cases ad <;> simp [Addr.add]
  split at hl
  · rename_i f sz' xs' hs
    simp only [Option.some.injEq, Prod.mk.injEq] at hl
    obtain ⟨rfl, rfl, rfl, rfl, rfl, rfl⟩ := hl
    have hr := h.rel.vals t _ hs
    obtain ⟨ad, cap, hv⟩ := hrep hr
    refine ⟨Nat.zero_le _, Nat.le_refl _, _, f, ad, cap, ad, φ t, hs, rfl, by simp [follow, hv], ?_, List.Sublist.refl _, by rw [hv]; rfl, fun _ => h0 _ _⟩
    rw [RepV_cell rfl, hv] at hr; exact hr
  · rename_i r' p' k n hs
    split at hl
    case isFalse => cases hl
    case isTrue hok =>
    obtain ⟨g, y, u, φy, hg, hf, hv, hget, hr, hsub⟩ := h.rel.plRep hs hok
    simp only [hg, hget] at hl
    split at hl
    case h_2 => cases hl
    rename_i f sz' xs' he
    obtain rfl := Option.some.inj he
    obtain ⟨ad, cap, rfl⟩ := hrep hr
    rw [RepV_cell rfl] at hr
    cases k with
    | self =>
      simp only [Option.some.injEq, Prod.mk.injEq] at hl
      obtain ⟨rfl, rfl, rfl, rfl, rfl, rfl⟩ := hl
      simp only [viewOk] at hv
      exact ⟨Nat.zero_le _, Nat.le_refl _, g, f, ad, cap, ad, φy, hg, hget, hf, hr, hsub, by rw [hv.1]; rfl, fun _ => h0 _ _⟩
    | sub lo' hi' =>
      simp only at hl
      split at hl
      case isFalse => cases hl
      case isTrue hb =>
      simp only [Option.some.injEq, Prod.mk.injEq] at hl
      obtain ⟨rfl, rfl, rfl, rfl, rfl, rfl⟩ := hl
      simp only [viewOk] at hv
      obtain ⟨f2, sz2, xs2, ad2, cap2, ad3, e1, e2, hv, had⟩ := hv
      obtain ⟨rfl, rfl, rfl⟩ : f = f2 ∧ sz' = sz2 ∧ xs' = xs2 := by simpa using e1
      obtain ⟨rfl, rfl⟩ : ad = ad2 ∧ cap = cap2 := by simpa using e2
      exact ⟨hb.1, hb.2, g, f, ad, cap, ad3, φy, hg, hget, hf, hr, hsub, hv, had⟩
    | _ => simp at hl
  · cases hl

/-! ### indexAddr -/
def semIndex (E : Env) (o : Oper) (T : TypeId) (x ix : Operand) (F : RF) : Option RF :=
  match E.vl F ix with
  | some (.int _ n) =>
    match E.P.underlying T with
    | some (.slice e) => (E.sloc F x).bind fun (r, p, lo, hi, sz, _) =>
      if 0 ≤ n ∧ n < ((hi - lo : Nat) : Int) then
        if (E.P.info? e).isSome = true ∧ sz = esz E.P e ∧ o.dst ≠ some r then some (setD F o.dst (.pl r p (.addr (lo + n.toNat) 0) (F.ver r))) else none
      else none
    | some (.array len e) => (E.target F x).bind fun (r, p, i, j) =>
      if 0 ≤ n ∧ n < (len : Int) then
        if (E.P.info? e).isSome = true ∧ o.dst ≠ some r then some (setD F o.dst (.pl r p (.addr i (j + n.toNat * esz E.P e)) (F.ver r))) else none
      else none
    | _ => none
  | _ => none

theorem place_shift {y : PV} {u : Value} {i j n : Nat} {A : Addr} (hA : place y u i j = some A) : place y u i (j + n) = some (A.add n) := by
  obtain ⟨A0, hA0, rfl⟩ := place0 hA
  rw [add_lit rfl]
  cases y with
  | sl f sz xs => cases u with
    | slice a l c => cases a with
      | none => simp [place] at hA
      | some a => simp only [place, Option.some.injEq] at hA0 ⊢; subst hA0; simp [Nat.add_assoc]
    | _ => simp [place] at hA
  | ptr f cs => cases u with
    | pointer a => cases a with
      | none => simp [place] at hA
      | some a => simp only [place, Option.some.injEq] at hA0 ⊢; subst hA0; simp [Nat.add_assoc]
    | _ => simp [place] at hA
  | _ => simp [place] at hA

theorem semIndex_ok {E : Env} {o : Oper} {T : TypeId} {x ix : Operand} {a : Act} {F' : RF} (h : Pre E X Z w φ a F) (ho : o.op = .indexAddr T x ix) (hs : semIndex E o T x ix F = some F') :
    Yld E.P o a w (Out X Z w (tmOf E.nt a) o.dst F') := by
  unfold semIndex at hs
  split at hs
  case h_2 => cases hs
  rename_i k n hix
  have hvi := vl_eq h hix
  split at hs
  · rename_i e hu
    simp only [Option.bind_eq_some_iff] at hs
    obtain ⟨⟨r, p, lo, hi, sz, xs⟩, hloc, hs⟩ := hs
    simp only at hs
    split at hs
    case isFalse => cases hs
    case isTrue hb =>
    split at hs
    case isFalse => cases hs
    case isTrue hc =>
    obtain ⟨hinf, hsz, hd⟩ := hc
    obtain rfl := Option.some.inj hs
    obtain ⟨h1, h2, g, f, ad, cap, ad', φy, hg, hget, hf, hr, hsub, hv, had⟩ := sloc_ok h hloc
    have hr' := hr
    simp only [Rep] at hr'
    obtain ⟨ad2, cap2, ψ, ch, e2, hlc, _, _, hh⟩ := hr'
    obtain ⟨rfl, rfl⟩ : ad = ad2 ∧ cap = cap2 := by simpa using e2
    rcases hh with ⟨rfl, _⟩ | ⟨b, off, cs, T', fr, rfl, _⟩
    · simp at h2; omega
    · have hcl : cap ≠ lo := by omega
      have ha' : ad' = some ⟨b, off + lo * sz, none⟩ := by rw [had hcl]; simp [add_lit]
      refine Yld.value (w' := w) (v := .pointer (some ⟨b, off + lo * sz + n.toNat * sz, none⟩)) ?_ ?_
      · unfold execOp; rw [ho]
        simp [Instr.indexAt, hvi, asIntOf, run_underlying hu, hv, ha', hb.1, hb.2, run_size hinf, ← hsz, add_lit]
      · obtain ⟨φ', hr2⟩ := h.rel.outPl (d := o.dst) (r := r) (p := p) (k := .addr (lo + n.toNat) 0) (v := .pointer (some ⟨b, off + lo * sz + n.toNat * sz, none⟩)) hd
          ⟨g, _, _, hg, hf, _, rfl, by simp [Nat.add_mul, Nat.add_assoc]⟩
        exact ⟨Z, φ', hr2, Stp.refl _ _, fun _ _ _ => Iff.rfl⟩
  · rename_i len e hu
    simp only [Option.bind_eq_some_iff] at hs
    obtain ⟨⟨r, p, i, j⟩, htg, hs⟩ := hs
    simp only at hs
    split at hs
    case isFalse => cases hs
    case isTrue hb =>
    split at hs
    case isFalse => cases hs
    case isTrue hc =>
    obtain ⟨hinf, hd⟩ := hc
    obtain rfl := Option.some.inj hs
    simp only [Env.target, Option.bind_eq_some_iff] at htg
    obtain ⟨t, hat, htg⟩ := htg
    obtain ⟨g, y, u, A, hg, hf, hget, hA, hv, hsp, _⟩ := h.rel.target htg
    refine Yld.value (w' := w) (v := .pointer (some (A.add (n.toNat * esz E.P e)))) ?_ ?_
    · unfold execOp; rw [ho]
      simp [Instr.indexAt, hvi, asIntOf, run_underlying hu, at_eval hat, hv, Instr.sureAddr, hb.1, hb.2, run_size hinf]
    · obtain ⟨φ', hr2⟩ := h.rel.outPl (d := o.dst) (r := r) (p := p) (k := .addr i (j + n.toNat * esz E.P e)) hd ⟨g, y, u, hg, hf, _, place_shift hA, rfl⟩
      exact ⟨Z, φ', hr2, Stp.refl _ _, fun _ _ _ => Iff.rfl⟩
  · cases hs

/-! ### Parts of slices -/
def Env.bound (E : Env) (F : RF) (dflt : Nat) : Option Operand → Option Int
  | none => some dflt
  | some x => match E.vl F x with
    | some (.int _ n) => some n
    | _ => none
def semSlice (E : Env) (o : Oper) (T : TypeId) (x : Operand) (l h m : Option Operand) (F : RF) : Option RF :=
  if m.isSome = true then none else
  match E.P.underlying T with
  | some (.slice e) => (E.sloc F x).bind fun (r, p, lo, hi, sz, xs) =>
    (E.bound F 0 l).bind fun i => (E.bound F (hi - lo) h).bind fun j =>
      if 0 ≤ i ∧ i ≤ j ∧ j ≤ ((hi - lo : Nat) : Int) then
        if (E.P.info? e).isSome = true ∧ sz = esz E.P e then
          let c := PV.sl false sz ((xs.drop (lo + i.toNat)).take (j.toNat - i.toNat))
          match F.slot r with
          | .val g => if (g.get? p).any PV.noOwn = true then some (setD F o.dst (.val c))
            else if o.dst = some r then none else some (setD F o.dst (.pl r p (.sub (lo + i.toNat) (lo + j.toNat)) (F.ver r)))
          | _ => none
        else none
      else none
  | some (.array n e) => (E.target F x).bind fun (r, p, i, j) =>
    (E.bound F 0 l).bind fun lo => (E.bound F n h).bind fun hi =>
      if 0 ≤ lo ∧ lo ≤ hi ∧ hi ≤ (n : Int) then
        match F.slot r with
        | .val g => ((g.get? p).bind fun y => y.row i).bind fun row =>
          if (E.P.info? e).isSome = true ∧ esz E.P e = 1 ∧ j + n ≤ row.length ∧ o.dst ≠ some r then some (setD F o.dst (.pl r p (.arr i j lo.toNat hi.toNat n) (F.ver r))) else none
        | _ => none
      else none
  | _ => semPure E o F

theorem bound_ok {E : Env} {a : Act} (h : Pre E X Z w φ a F) {d len cap : Nat} {x : Option Operand} {i : Int} (hb : E.bound F d x = some i) :
    (x = none ∧ i = d) ∨ ∃ y k, x = some y ∧ a.eval y = .int k i := by
  cases x with
  | none => simp only [Env.bound, Option.some.injEq] at hb; exact .inl ⟨rfl, hb.symm⟩
  | some y =>
    simp only [Env.bound] at hb
    split at hb
    · rename_i k n hv
      obtain rfl := Option.some.inj hb
      exact .inr ⟨y, k, rfl, vl_eq h hv⟩
    · cases hb

theorem run_bounds {E : Env} {a : Act} (h : Pre E X Z w φ a F) {b : Bool} {len cap d : Nat} {l hh : Option Operand} {i j : Int} (hl : E.bound F 0 l = some i) (hj : E.bound F len hh = some j)
    (h0 : 0 ≤ i) (h1 : i ≤ j) (h2 : j ≤ (len : Int)) (hlc : len ≤ cap) :
    (Instr.sliceBounds b len cap (l.map a.eval) (hh.map a.eval) none).run E.P w = .ok (i.toNat, j.toNat, cap) w := by
  have hjn : (j.toNat : Int) = j := by omega
  rcases bound_ok (len := 0) (cap := 0) h hl with ⟨rfl, rfl⟩ | ⟨y, k, rfl, hy⟩ <;> rcases bound_ok (len := 0) (cap := 0) h hj with ⟨rfl, rfl⟩ | ⟨y', k', rfl, hy'⟩
  · simp [Instr.sliceBounds]
  · simp [Instr.sliceBounds, hy', Instr.sliceBound, asIntOf, show 0 ≤ j by omega, show j ≤ (cap : Int) by omega]
  · simp [Instr.sliceBounds, hy, Instr.sliceBound, asIntOf, h0, show i ≤ (len : Int) by omega]
  · simp [Instr.sliceBounds, hy, hy', Instr.sliceBound, asIntOf, h0, hjn, h1, show 0 ≤ j by omega, show j ≤ (cap : Int) by omega]

theorem semSlice_ok {E : Env} {o : Oper} {T : TypeId} {x : Operand} {l hh m : Option Operand} {a : Act} {F' : RF} (h : Pre E X Z w φ a F) (ho : o.op = .slice T x l hh m)
    (hs : semSlice E o T x l hh m F = some F') : Yld E.P o a w (Out X Z w (tmOf E.nt a) o.dst F') := by
  unfold semSlice at hs
  split at hs
  · cases hs
  rename_i hm
  obtain rfl : m = none := by cases m <;> simp_all
  split at hs
  · rename_i e hu
    simp only [Option.bind_eq_some_iff] at hs
    obtain ⟨⟨r, p, lo, hi, sz, xs⟩, hloc, i, hi1, j, hj1, hs⟩ := hs
    simp only at hs hi1 hj1
    split at hs
    case isFalse => cases hs
    case isTrue hb =>
    split at hs
    case isFalse => cases hs
    case isTrue hc =>
    obtain ⟨hinf, hsz⟩ := hc
    obtain ⟨h1, h2, g, f, ad, cap, ad', φy, hg, hget, hf, hr, hsub, hv, had⟩ := sloc_ok h hloc
    have hr' := hr
    simp only [Rep] at hr'
    obtain ⟨ad2, cap2, ψ, ch, e2, hlc, _, _, hh'⟩ := hr'
    obtain ⟨rfl, rfl⟩ : ad = ad2 ∧ cap = cap2 := by simpa using e2
    have hbnd := run_bounds (b := true) (cap := cap - lo) (d := 0) h hi1 hj1 hb.1 hb.2.1 hb.2.2 (by omega)
    have hrun : (execOp a.eval o).run E.P w = .ok (.value (.slice (if cap - lo = i.toNat then ad' else ad'.map (fun x => x.add (i.toNat * sz))) (j.toNat - i.toNat) (cap - lo - i.toNat))) w := by
      unfold execOp; rw [ho]
      simp [Instr.sliceAt, Instr.slice, run_underlying hu, hv, hbnd, run_size hinf, ← hsz]
    have hnew : cap ≠ lo + i.toNat → (if cap - lo = i.toNat then ad' else ad'.map (fun x => x.add (i.toNat * sz))) = ad.map (fun x : Addr => x.add ((lo + i.toNat) * sz)) := by
      intro hne
      rw [if_neg (by omega), had (by omega)]
      rcases hh' with ⟨rfl, _⟩ | ⟨b, off, cs, T', fr, rfl, _⟩
      · have h2' : hi = 0 := by simpa using h2
        have : lo = 0 := by omega
        have : i.toNat = 0 := by omega
        cases ad <;> simp [*, Addr.add]
      · simp [add_lit, Nat.add_mul, Nat.add_assoc]
    refine Yld.value hrun ?_
    rw [hg] at hs
    simp only [hget, Option.any_some] at hs
    obtain ⟨φ', hs', hrep⟩ := Rep_sub (a2 := (if cap - lo = i.toNat then ad' else ad'.map (fun x => x.add (i.toNat * sz)))) hr (lo + i.toNat) (lo + j.toNat) (by omega) (by omega) hnew
    have e1 : lo + j.toNat - (lo + i.toNat) = j.toNat - i.toNat := by omega
    have e3 : cap - (lo + i.toNat) = cap - lo - i.toNat := by omega
    rw [e1, e3] at hrep
    split at hs
    · rename_i hno
      obtain rfl := Option.some.inj hs
      have hff : f = false := by simp only [PV.noOwn, Bool.and_eq_true, Bool.not_eq_true'] at hno; exact hno.1
      subst hff
      obtain rfl := Rep_noOwn.1 _ _ _ hno hr
      obtain rfl := List.eq_nil_of_sublist_nil hs'
      obtain ⟨φ'', hr2⟩ := h.rel.outVal (d := o.dst) ((RepV_cell rfl).2 hrep) List.nodup_nil (by simp) (by simp)
      exact ⟨Z, φ'', hr2, Stp.refl _ _, fun _ _ _ => Iff.rfl⟩
    · split at hs
      · cases hs
      rename_i hd
      obtain rfl := Option.some.inj hs
      obtain ⟨φ'', hr2⟩ := h.rel.outPl (d := o.dst) (r := r) (p := p) (k := .sub (lo + i.toNat) (lo + j.toNat)) (v := .slice (if cap - lo = i.toNat then ad' else ad'.map (fun x => x.add (i.toNat * sz))) (j.toNat - i.toNat) (cap - lo - i.toNat)) hd
        ⟨g, _, _, hg, hf, by simp only [viewOk]; exact ⟨f, sz, xs, ad, cap, _, rfl, rfl, by rw [e1, e3], hnew⟩⟩
      exact ⟨Z, φ'', hr2, Stp.refl _ _, fun _ _ _ => Iff.rfl⟩
  · rename_i n e hu
    simp only [Option.bind_eq_some_iff] at hs
    obtain ⟨⟨r, p, i, j⟩, htg, lo, hlo, hi, hhi, hs⟩ := hs
    simp only at hs hlo hhi
    split at hs
    case isFalse => cases hs
    case isTrue hb =>
    simp only [Env.target, Option.bind_eq_some_iff] at htg
    obtain ⟨t, hat, htg⟩ := htg
    obtain ⟨g, y, u, A, hg, hf, hget, hA, hv, hsp, _⟩ := h.rel.target htg
    rw [hg] at hs
    simp only [hget, Option.bind_some, Option.bind_eq_some_iff] at hs
    obtain ⟨row, hrow, hs⟩ := hs
    split at hs
    case isFalse => cases hs
    case isTrue hc =>
    obtain ⟨hinf, hsz, hlen, hd⟩ := hc
    obtain rfl := Option.some.inj hs
    have hbnd := run_bounds (b := false) (cap := n) (d := 0) h hlo hhi hb.1 hb.2.1 hb.2.2 (Nat.le_refl _)
    refine Yld.value (w' := w) (v := .slice (some (if n = lo.toNat then A else A.add lo.toNat)) (hi.toNat - lo.toNat) (n - lo.toNat)) ?_ ?_
    · unfold execOp; rw [ho]
      simp [Instr.sliceAt, run_underlying hu, at_eval hat, hv, Instr.sureAddr, hbnd, run_size hinf, hsz]
    · obtain ⟨φ'', hr2⟩ := h.rel.outPl (d := o.dst) (r := r) (p := p) (k := .arr i j lo.toNat hi.toNat n)
        (v := .slice (some (if n = lo.toNat then A else A.add lo.toNat)) (hi.toNat - lo.toNat) (n - lo.toNat)) hd
        ⟨g, _, _, hg, hf, by simp only [viewOk]; exact ⟨row, A, (if n = lo.toNat then A else A.add lo.toNat), hrow, hlen, hA, rfl, fun hne => if_neg hne⟩⟩
      exact ⟨Z, φ'', hr2, Stp.refl _ _, fun _ _ _ => Iff.rfl⟩
  · exact semPure_ok h hs

/-! ### len -/
def semLen (E : Env) (o : Oper) (T : TypeId) (x : Operand) (F : RF) : Option RF :=
  match E.rd F T x, E.P.underlying T with
  | some (.sl _ _ xs), some (.slice _) => some (setD F o.dst (.val (.prim (.int .i64 xs.length))))
  | some (.map _ es), some (.map _ _) => some (setD F o.dst (.val (.prim (.int .i64 es.length))))
  | _, _ => semPure E o F
theorem run_getObj {P : Program} {w : World} {b : Nat} {es : Array MapEntry} {c : Nat} (h : w.heap[b]? = some (.map es c)) : (getObj b).run P w = .ok (.map es c) w := by
  simp [getObj, Sem.run, h]
theorem semLen_ok {E : Env} {o : Oper} {T : TypeId} {x : Operand} {a : Act} {F' : RF} (h : Pre E X Z w φ a F) (ho : o.op = .call { callee := .builtin .len, args := #[x], argTypes := #[T] })
    (hs : semLen E o T x F = some F') : Yld E.P o a w (Out X Z w (tmOf E.nt a) o.dst F') := by
  have fin : ∀ n : Nat, (execOp a.eval o).run E.P w = .ok (.value (.int .i64 n)) w → Yld E.P o a w (Out X Z w (tmOf E.nt a) o.dst (setD F o.dst (.val (.prim (.int .i64 n))))) := by
    intro n hrun
    refine Yld.value hrun ?_
    obtain ⟨φ', hr⟩ := h.rel.outVal (d := o.dst) (x := .prim (.int .i64 n)) (v := .int .i64 n) (φx := []) ((RepV_cell rfl).2 (by simp [Rep, flat])) List.nodup_nil (by simp) (by simp)
    exact ⟨Z, φ', hr, Stp.refl _ _, fun _ _ _ => Iff.rfl⟩
  unfold semLen at hs
  split at hs
  · rename_i f sz xs e hrd hu
    obtain rfl := Option.some.inj hs
    obtain ⟨φy, hr, _⟩ := rd_rep h hrd
    rw [RepV_cell rfl] at hr
    simp only [Rep] at hr
    obtain ⟨ad, cap, ψ, ch, hv, _⟩ := hr
    apply fin
    unfold execOp; rw [ho]
    simp only [List.cons.injEq, and_true] at hv
    simp [resolve, invoke, builtin, Builtin.len_, run_underlying hu, hv, goInt]
  · rename_i f es k e hrd hu
    obtain rfl := Option.some.inj hs
    obtain ⟨φy, hr, _⟩ := rd_rep h hrd
    rw [RepV_cell rfl] at hr
    simp only [Rep] at hr
    obtain ⟨b, ents, clk, hv, hb, he, _⟩ := hr
    apply fin
    unfold execOp; rw [ho]
    simp only [List.cons.injEq, and_true] at hv
    have : (ents.size : Int) = (es.length : Int) := by rw [← he]; simp
    simp [resolve, invoke, builtin, Builtin.len_, run_underlying hu, hv, goInt, run_getObj hb, this]
  · exact semPure_ok h hs
end Go.V
/- Operations on memory: make, literals, append. -/
namespace Go.V
set_option linter.unusedVariables false
set_option linter.unusedSimpArgs false
variable {X : Cx} {Z : Nat → Prop} {w : World} {φ : Tmp → List Nat} {tm : Tmp → Value} {F : RF}

/-! ### make -/
/-- one zero element of a type -/
def zeroE (P : Program) (T : TypeId) : Option PV :=
  (zeroCs P T).bind fun cs => if cs.length = esz P T ∧ 0 < cs.length then (if aggT P T = true then some (.agg cs) else match cs with | [c] => some c | _ => none) else none

theorem madeCells_get {z : List Value} {n : Nat} (h0 : 0 < z.length) : ∀ i, i < n * z.length → (madeCells z.toArray (n * z.length))[i]? = z[i % z.length]? := by
  intro i hi
  have hm : i % z.length < z.length := Nat.mod_lt _ h0
  simp [madeCells, hi, List.getElem?_eq_getElem hm]
theorem flat_get {z : List Value} (h0 : 0 < z.length) : ∀ n i, i < n * z.length → (List.replicate n z).flatten[i]? = z[i % z.length]? := by
  intro n
  induction n with
  | zero => intro i hi; simp at hi
  | succ n ih =>
    intro i hi
    rw [List.replicate_succ, List.flatten_cons]
    by_cases h : i < z.length
    · rw [List.getElem?_append_left h, Nat.mod_eq_of_lt h]
    · rw [List.getElem?_append_right (by omega), ih (i - z.length) (by rw [Nat.add_mul] at hi; omega)]
      congr 1
      rw [← Nat.mod_eq_sub_mod (by omega)]
theorem RepL_replicate {w Z x us} (h : Rep w Z x [] us) : ∀ n, RepL w Z (List.replicate n x) [] (List.replicate n us).flatten
  | 0 => RepL_nil.2 ⟨rfl, rfl⟩
  | n + 1 => by
    rw [List.replicate_succ, List.replicate_succ, List.flatten_cons]
    exact RepL_cons.2 ⟨[], [], us, _, rfl, rfl, h, RepL_replicate h n⟩

theorem zeroE_rep {P : Program} {T : TypeId} {x : PV} {w : World} {Z : Nat → Prop} (h : zeroE P T = some x) :
    ∃ i z, P.info? T = some i ∧ i.zero = some z ∧ Rep w Z x [] z.cells.toList ∧ x.width = esz P T ∧ z.cells.size = esz P T ∧ 0 < esz P T := by
  simp only [zeroE, Option.bind_eq_some_iff] at h
  obtain ⟨cs, hcs, h⟩ := h
  split at h
  case isFalse => cases h
  case isTrue hc =>
  unfold zeroCs at hcs
  split at hcs
  case h_2 => cases hcs
  rename_i i hi
  split at hcs
  case h_2 => cases hcs
  rename_i z hz
  obtain ⟨h1, h2⟩ := ofCells_rep (w := w) (Z := Z) hcs
  have hl := RepL_len (sz := 1) h1 (fun c hcm => PV.cell1_width (h2 c hcm))
  simp only [Array.length_toList, Nat.mul_one] at hl
  refine ⟨i, z, hi, hz, ?_⟩
  split at h
  · obtain rfl := Option.some.inj h
    exact ⟨by simp only [Rep]; exact ⟨h1, h2⟩, hc.1, by omega, by omega⟩
  · split at h
    · rename_i c
      obtain rfl := Option.some.inj h
      simp only [RepL_cons, RepL_nil] at h1
      obtain ⟨φ₁, φ₂, v₁, v₂, e1, e2, h1, rfl, rfl⟩ := h1
      simp only [List.append_nil] at e1 e2
      rw [e2]; subst e1
      exact ⟨h1, by rw [PV.cell1_width (h2 c (by simp))]; simpa using hc.1, by omega, by omega⟩
    · cases h

def semMake (E : Env) (o : Oper) (T : TypeId) (l c : Operand) (F : RF) : Option RF :=
  match E.P.underlying T with
  | some (.slice e) =>
    match E.vl F l, E.vl F c with
    | some (.int _ n), some (.int _ m) =>
      if 0 ≤ n ∧ n ≤ m ∧ (ebytes E.P e : Int) * m ≤ 281474976710656 ∧ m ≤ 9223372036854775807 then
        (zeroE E.P e).map fun x => setD F o.dst (.val (.sl true (esz E.P e) (List.replicate n.toNat x)))
      else none
    | _, _ => none
  | _ => none
theorem semMake_ok {E : Env} {o : Oper} {T : TypeId} {l c : Operand} {a : Act} {F' : RF} (h : Pre E X Z w φ a F) (ho : o.op = .makeSlice T l c) (hs : semMake E o T l c F = some F') :
    Yld E.P o a w (Out X Z w (tmOf E.nt a) o.dst F') := by
  unfold semMake at hs
  split at hs
  case h_2 => cases hs
  rename_i e hu
  split at hs
  case h_2 => cases hs
  rename_i kl n kc m hl hc
  split at hs
  case isFalse => cases hs
  case isTrue hb =>
  simp only [Option.map_eq_some_iff] at hs
  obtain ⟨x, hx, rfl⟩ := hs
  obtain ⟨i, z, hi, hz, hrep, hwd, hzs, hpos⟩ := zeroE_rep (w := w) (Z := Z) hx
  have hesz : i.size = esz E.P e := by simp [esz, hi]
  have heb : i.bytes = ebytes E.P e := by simp [ebytes, hi]
  have hrun := run_make (P := E.P) w T e i z hu hi hz kl kc n m hb.1 hb.2.1 (by rw [heb]; exact hb.2.2.1) hb.2.2.2
  refine Yld.value (w' := w.alloc (.cells (madeCells z.cells (m.toNat * i.size)) e)) (v := .slice (some ⟨w.heap.size, 0, none⟩) n.toNat m.toNat) ?_ ?_
  · unfold execOp; rw [ho]; simp [vl_eq h hl, vl_eq h hc, hrun]
  · have hzl : z.cells.toList.length = esz E.P e := by simpa using hzs
    have hmul : n.toNat * esz E.P e ≤ m.toNat * esz E.P e := Nat.mul_le_mul_right _ (by omega)
    have := h.rel.newSl (d := o.dst) (xs := List.replicate n.toNat x) (φc := []) (ch := (List.replicate n.toNat z.cells.toList).flatten) (arr := madeCells z.cells (m.toNat * i.size)) (T := e) (sz := esz E.P e) (cap := m.toNat)
      (RepL_replicate hrep _) (by intro y hy; rw [(List.mem_replicate.1 hy).2]; exact hwd) hpos ?_ (by rw [size_madeCells, hesz]; exact Nat.le_refl _) (by simp; omega) List.nodup_nil (by simp) (by simp) (h.new _ (Nat.le_refl _))
    · simpa using this
    · intro k v hk
      have hk1 := (List.getElem?_eq_some_iff.1 hk).1
      have hfl : (List.replicate n.toNat z.cells.toList).flatten.length = n.toNat * esz E.P e := by simp [List.length_flatten, hzs]
      rw [flat_get (by omega) _ _ (by rw [hzl]; omega)] at hk
      have := madeCells_get (z := z.cells.toList) (n := m.toNat) (by omega) k (by rw [hzl]; omega)
      simp only [Array.toArray_toList, hzl] at this
      rw [hesz, this]; rw [hzl] at hk; exact hk

/-! ### Literals -/
/-- parts taken out one by one -/
def Env.tks (E : Env) (T : Nat → TypeId) : RF → List (Nat × Operand) → Option (List PV × RF)
  | F, [] => some ([], F)
  | F, (i, x) :: ps => (E.tk F (T i) x).bind fun r => (E.tks T r.2 ps).map fun q => (r.1 :: q.1, q.2)

structure TakenL (X : Cx) (Z : Nat → Prop) (w : World) (φ : Tmp → List Nat) (tm : Tmp → Value) (F' : RF) (ys : List PV) (vs : List Value) (φ' : Tmp → List Nat) (φy : List Nat) : Prop where
  rel : Rel X Z w φ' tm F'
  rep : RepTs w Z ys φy vs
  nodup : φy.Nodup
  was : ∀ b ∈ φy, ∃ r, b ∈ φ r
  less : ∀ r b, b ∈ φ' r → b ∈ φ r
  apart : ∀ r, ∀ b ∈ φy, b ∉ φ' r

theorem tks_ok {E : Env} {a : Act} {T : Nat → TypeId} : ∀ (ps : List (Nat × Operand)) (F : RF) (φ : Tmp → List Nat) (ys : List PV) (F' : RF), Pre E X Z w φ a F →
    E.tks T F ps = some (ys, F') → (∀ y ∈ ys, y.notTup = true) → ∃ φ' φy, TakenL X Z w φ (tmOf E.nt a) F' ys (ps.map fun p => a.eval p.2) φ' φy
  | [], F, φ, ys, F', h, ht, hnt => by
    simp only [Env.tks, Option.some.injEq, Prod.mk.injEq] at ht
    obtain ⟨rfl, rfl⟩ := ht
    exact ⟨φ, [], h.rel, by simp [RepTs], List.nodup_nil, by simp, fun _ _ h => h, by simp⟩
  | (i, x) :: ps, F, φ, ys, F', h, ht, hnt => by
    simp only [Env.tks, Option.bind_eq_some_iff, Option.map_eq_some_iff] at ht
    obtain ⟨⟨y, F1⟩, h1, ⟨ys', F2⟩, h2, he⟩ := ht
    simp only [Prod.mk.injEq] at he
    obtain ⟨rfl, rfl⟩ := he
    obtain ⟨φ1, φy, ht1⟩ := tk_rep h h1
    have hp1 : Pre E X Z w φ1 a F1 := ⟨ht1.rel, h.new, h.glob⟩
    obtain ⟨φ2, φys, ht2⟩ := tks_ok ps F1 φ1 ys' F2 hp1 h2 (fun y hy => hnt y (by simp [hy]))
    refine ⟨φ2, φy ++ φys, ht2.rel, ?_, ?_, ?_, fun r b hb => ht1.less r b (ht2.less r b hb), ?_⟩
    · refine RepTs_cons.2 ⟨φy, φys, a.eval x, _, rfl, rfl, ?_, ht2.rep⟩
      have := ht1.rep
      rcases PV.tup_or y with ⟨xs, rfl⟩ | ⟨e, _⟩
      · exact absurd (hnt (.tup xs) (by simp)) (by simp [PV.notTup])
      · rwa [e] at this
    · refine List.nodup_append.2 ⟨ht1.nodup, ht2.nodup, fun b hb c hc e => ?_⟩
      subst e
      obtain ⟨r, hr⟩ := ht2.was b hc
      exact ht1.apart r b hb hr
    · intro b hb
      rcases List.mem_append.1 hb with hb | hb
      · exact ht1.was b hb
      · obtain ⟨r, hr⟩ := ht2.was b hb; exact ⟨r, ht1.less r b hr⟩
    · intro r b hb
      rcases List.mem_append.1 hb with hb | hb
      · exact fun hb2 => ht1.apart r b hb (ht2.less r b hb2)
      · exact ht2.apart r b hb

/-- The cells of values, one behind the other. -/
def cellsOf (vs : List Value) : List Value := vs.flatMap fun v => v.cells.toList
theorem RepTs_cells {w Z} : ∀ {ys φ vs}, (∀ y ∈ ys, y.notTup = true) → RepTs w Z ys φ vs → RepL w Z ys φ (cellsOf vs)
  | [], φ, vs, _, h => by simp only [RepTs] at h; rw [h.1, h.2]; simp [cellsOf, RepL]
  | y :: ys, φ, vs, hn, h => by
    rw [RepTs_cons] at h
    obtain ⟨φ₁, φ₂, v, vs', rfl, rfl, h1, h2⟩ := h
    refine RepL_cons.2 ⟨φ₁, φ₂, v.cells.toList, cellsOf vs', rfl, rfl, ?_, RepTs_cells (fun y hy => hn y (by simp [hy])) h2⟩
    cases y with
    | tup xs => exact absurd (hn (.tup xs) (by simp)) (by simp [PV.notTup])
    | agg cs => simp only [RepV1] at h1; obtain ⟨us, rfl, h1⟩ := h1; simpa [Value.cells] using h1
    | _ =>
      have ho := Rep_oneCell (show Rep w Z _ φ₁ [v] from h1) rfl
      have : v.cells.toList = [v] := by cases v <;> first | rfl | simp [one] at ho
      rw [this]; exact h1
theorem RepTs_width {w Z sz} : ∀ {ys φ vs}, (∀ y ∈ ys, y.notTup = true) → (∀ y ∈ ys, y.width = sz) → RepTs w Z ys φ vs → ∀ v ∈ vs, v.cells.size = sz
  | [], φ, vs, _, _, h => by simp only [RepTs] at h; rw [h.2]; simp
  | y :: ys, φ, vs, hn, hw, h => by
    rw [RepTs_cons] at h
    obtain ⟨φ₁, φ₂, v, vs', rfl, rfl, h1, h2⟩ := h
    intro u hu
    rcases List.mem_cons.1 hu with rfl | hu
    · have hc := RepTs_cells (w := w) (Z := Z) (ys := [y]) (φ := φ₁) (vs := [u]) (fun z hz => hn z (by simp at hz; simp [hz])) (RepTs_cons.2 ⟨φ₁, [], u, [], by simp, rfl, h1, by simp [RepTs]⟩)
      have hl := RepL_len (sz := sz) hc (fun z hz => hw z (by simp at hz; simp [hz]))
      simpa [cellsOf] using hl
    · exact RepTs_width (fun y hy => hn y (by simp [hy])) (fun y hy => hw y (by simp [hy])) h2 u hu

theorem foldl_setIf {off : Nat} : ∀ (cs : List Value) (k : Nat) (cells : Array Value), off + k + cs.length ≤ cells.size →
    ((cs.zipIdx k).foldl (fun (acc : Array Value) (p : Value × Nat) => acc.setIfInBounds (off + p.2) p.1) cells).toList = cells.toList.take (off + k) ++ cs ++ cells.toList.drop (off + k + cs.length)
  | [], k, cells, _ => by simp
  | c :: cs, k, cells, h => by
    simp only [List.zipIdx_cons, List.foldl_cons, List.length_cons] at h ⊢
    rw [foldl_setIf cs (k + 1) _ (by simp; omega)]
    rw [Array.toList_setIfInBounds]
    have e := list_seg_step cells.toList (off + k) c cs (by simp; omega)
    simpa [Nat.add_assoc] using e

/-- parts laid over cells, each at its place, the places rising -/
def goV (place : Nat → Option (Nat × Nat)) : Nat → List Value → List (Nat × Value) → Option (List Value)
  | _, zs, [] => some zs
  | pos, zs, (i, v) :: ps => match place i with
    | some (off, size) => if pos ≤ off ∧ off - pos + size ≤ zs.length ∧ v.cells.size = size then (goV place (off + size) (zs.drop (off - pos + size)) ps).map fun r => zs.take (off - pos) ++ v.cells.toList ++ r else none
    | none => none

theorem fill_go {place : Nat → Option (Nat × Nat)} : ∀ (ps : List (Nat × Value)) (pos : Nat) (cells : Array Value) (out : List Value), goV place pos (cells.toList.drop pos) ps = some out → pos ≤ cells.size →
    ∃ arr, Instr.fill place cells ps = some arr ∧ arr.toList = cells.toList.take pos ++ out
  | [], pos, cells, out, h, hp => by
    simp only [goV, Option.some.injEq] at h
    exact ⟨cells, rfl, by rw [← h, List.take_append_drop]⟩
  | (i, v) :: ps, pos, cells, out, h, hp => by
    simp only [goV] at h
    split at h
    case h_2 => cases h
    rename_i off size hpl
    split at h
    case isFalse => cases h
    case isTrue hc =>
    obtain ⟨h1, h2, h3⟩ := hc
    simp only [Option.map_eq_some_iff] at h
    obtain ⟨r, hr, rfl⟩ := h
    simp only [List.length_drop, Array.length_toList] at h2
    have hfold : ∀ (cells : Array Value), off + v.cells.size ≤ cells.size → (v.cells.zipIdx.foldl (fun cs (x : Value × Nat) => cs.setIfInBounds (off + x.2) x.1) cells).toList =
        cells.toList.take off ++ v.cells.toList ++ cells.toList.drop (off + v.cells.size) := by
      intro cells hle
      have := foldl_setIf (off := off) v.cells.toList 0 cells (by simpa using hle)
      rw [← Array.foldl_toList]
      simpa using this
    have hle : off + v.cells.size ≤ cells.size := by omega
    have hf := hfold cells hle
    generalize hc' : v.cells.zipIdx.foldl (fun cs (x : Value × Nat) => cs.setIfInBounds (off + x.2) x.1) cells = cells' at hf
    have hlen : (cells.toList.take off ++ v.cells.toList).length = off + size := by simp; omega
    have hsz : cells'.size = cells.size := by
      have := congrArg List.length hf
      simp only [Array.length_toList, List.length_append, List.length_take, List.length_drop] at this
      omega
    obtain ⟨arr, ha, hal⟩ := fill_go ps (off + size) cells' r (by
      rw [hf, h3, List.drop_append_of_le_length (by omega), ← hlen, List.drop_length, List.nil_append, hlen]
      rw [List.drop_drop] at hr
      rw [show pos + (off - pos + size) = off + size by omega] at hr
      exact hr) (by omega)
    refine ⟨arr, ?_, ?_⟩
    · simp only [Instr.fill, hpl]
      rw [if_neg (by simp; omega)]
      rw [← ha, ← hc']
    · rw [hal, hf, h3, List.take_append_of_le_length (by omega), ← hlen, List.take_length]
      have : cells.toList.take off = cells.toList.take pos ++ (cells.toList.drop pos).take (off - pos) := by
        rw [← List.take_add]; congr 1; omega
      rw [this]; simp

theorem goV_full {sz : Nat} : ∀ (vs : List Value) (k : Nat) (zs : List Value), (∀ v ∈ vs, v.cells.size = sz) → vs.length * sz ≤ zs.length →
    goV (fun i => some (i * sz, sz)) (k * sz) zs ((List.range' k vs.length).zip vs) = some (cellsOf vs ++ zs.drop (vs.length * sz))
  | [], k, zs, _, _ => by simp [goV, cellsOf]
  | v :: vs, k, zs, hv, hl => by
    have h1 := hv v (by simp)
    simp only [List.length_cons, Nat.add_mul, Nat.one_mul] at hl
    simp only [List.length_cons, List.range'_succ, List.zip_cons_cons, goV, Nat.sub_self, Nat.zero_add, Nat.le_refl, true_and, h1, and_true]
    rw [if_pos (by omega), show k * sz + sz = (k + 1) * sz by rw [Nat.add_mul]; omega, goV_full vs (k + 1) _ (fun v hm => hv v (by simp [hm])) (by simp; omega)]
    simp only [Option.map_some, List.take_zero, List.nil_append, Option.some.injEq, cellsOf, List.flatMap_cons, List.append_assoc, List.drop_drop]
    congr 3
    rw [Nat.add_mul]; omega

def semLit (E : Env) (o : Oper) (T : TypeId) (n : Nat) (ps : List (Nat × Operand)) (F : RF) : Option RF :=
  match E.P.underlying T with
  | some (.slice e) =>
    if (ps.length = n ∧ ps.map (·.1) = List.range' 0 ps.length) ∧ n * esz E.P e ≤ 16777216 ∧ (n = 0 ∨ (zeroE E.P e).isSome = true) ∧ (E.P.info? e).isSome = true ∧ 0 < esz E.P e then
      (E.tks (fun _ => e) F ps).bind fun r => if r.1.all (fun y => y.notTup && y.width == esz E.P e) = true then some (setD r.2 o.dst (.val (.sl true (esz E.P e) r.1))) else none
    else none
  | _ => none

theorem zip_parts {α β : Type} : ∀ (ps : List (Nat × α)) (f : α → β), (ps.map fun p => (p.1, f p.2)) = (ps.map (·.1)).zip (ps.map fun p => f p.2)
  | [], f => rfl
  | p :: ps, f => by simp [zip_parts ps f]

theorem RepTs_length {w Z} : ∀ {ys φ vs}, RepTs w Z ys φ vs → vs.length = ys.length
  | [], φ, vs, h => by simp only [RepTs] at h; rw [h.2]; rfl
  | y :: ys, φ, vs, h => by rw [RepTs_cons] at h; obtain ⟨φ₁, φ₂, v, vs', rfl, rfl, h1, h2⟩ := h; simp [RepTs_length h2]

theorem semLit_ok {E : Env} {o : Oper} {T : TypeId} {n : Nat} {ps : Array (Nat × Operand)} {a : Act} {F' : RF} (h : Pre E X Z w φ a F) (ho : o.op = .buildSlice T n ps)
    (hs : semLit E o T n ps.toList F = some F') : Yld E.P o a w (Out X Z w (tmOf E.nt a) o.dst F') := by
  unfold semLit at hs
  split at hs
  case h_2 => cases hs
  rename_i e hu
  split at hs
  case isFalse => cases hs
  case isTrue hc =>
  obtain ⟨⟨hlen, hidx⟩, hmax, hzero, hinf, hpos⟩ := hc
  simp only [Option.bind_eq_some_iff] at hs
  obtain ⟨⟨ys, F1⟩, ht, hs⟩ := hs
  split at hs
  case isFalse => cases hs
  case isTrue hall =>
  obtain rfl := Option.some.inj hs
  simp only [List.all_eq_true, Bool.and_eq_true, beq_iff_eq] at hall
  obtain ⟨φ1, φy, htk⟩ := tks_ok ps.toList F φ ys F1 h ht (fun y hy => (hall y hy).1)
  have hsz := RepTs_width (fun y hy => (hall y hy).1) (fun y hy => (hall y hy).2) htk.rep
  have hcl := RepTs_cells (fun y hy => (hall y hy).1) htk.rep
  have hvl := RepTs_length htk.rep
  simp only [List.length_map] at hvl
  have hcll := RepL_len hcl (fun y hy => (hall y hy).2)
  rw [← hvl] at hcll
  -- the zero cells
  have hrun : (execOp a.eval o).run E.P w = .ok (.value (.slice (some ⟨w.heap.size, 0, none⟩) n n)) (w.alloc (.cells (cellsOf (ps.toList.map fun p => a.eval p.2)).toArray e)) := by
    unfold execOp; rw [ho]
    have hparts : (ps.map fun (i, x) => (i, a.eval x)).toList = (List.range' 0 (ps.toList.map fun p => a.eval p.2).length).zip (ps.toList.map fun p => a.eval p.2) := by
      rw [Array.toList_map]
      have := zip_parts ps.toList a.eval
      rw [hidx] at this
      simpa using this
    have hn : (ps.toList.map fun p => a.eval p.2).length = n := by simpa using hlen
    have hfill : ∀ zs : Array Value, zs.size = n * esz E.P e → Instr.fill (fun i => some (i * esz E.P e, esz E.P e)) zs (ps.map fun (i, x) => (i, a.eval x)).toList = some (cellsOf (ps.toList.map fun p => a.eval p.2)).toArray := by
      intro zs hzs
      rw [hparts]
      have hg := goV_full (sz := esz E.P e) (ps.toList.map fun p => a.eval p.2) 0 (zs.toList.drop 0) hsz (by rw [hn, List.drop_zero, Array.length_toList, hzs]; exact Nat.le_refl _)
      rw [Nat.zero_mul] at hg
      obtain ⟨arr, ha, hal⟩ := fill_go _ 0 zs _ hg (Nat.zero_le _)
      rw [ha]
      congr 1
      apply Array.ext'
      rw [hal]
      simp only [List.take_zero, List.nil_append, List.drop_zero]
      rw [hn, List.drop_of_length_le (by simp; omega)]
      simp
    obtain ⟨ie, hie⟩ := Option.isSome_iff_exists.1 hinf
    by_cases hz : n * esz E.P e = 0
    · have h0 : n = 0 := by rcases Nat.mul_eq_zero.1 hz with h | h <;> omega
      subst h0
      have := hfill #[] (by simp)
      simp at this
      simp [Instr.buildSlice, run_underlying hu, run_size hinf, newRow, this, Array.range_zero']
    · have h0 : n ≠ 0 := by rintro rfl; simp at hz
      obtain ⟨x, hx⟩ := Option.isSome_iff_exists.1 (hzero.resolve_left h0)
      obtain ⟨i, z, hi, hzz, hrep, hwd, hzs, hpos2⟩ := zeroE_rep (w := w) (Z := Z) hx
      have := hfill (madeCells z.cells (n * esz E.P e)) (size_madeCells _ _)
      simp [madeCells] at this
      simp [Instr.buildSlice, run_underlying hu, run_size hinf, newRow, hz, show ¬ (16777216 < n * esz E.P e) by omega, zeroValue, typeInfo, hi, hzz, this]
  refine Yld.value hrun ?_
  have hfin := htk.rel.newSl (d := o.dst) (xs := ys) (φc := φy) (ch := cellsOf (ps.toList.map fun p => a.eval p.2)) (arr := (cellsOf (ps.toList.map fun p => a.eval p.2)).toArray) (T := e) (sz := esz E.P e) (cap := n)
    hcl (fun y hy => (hall y hy).2) hpos (by simp) (by simp [hcll]; simp at hlen; rw [hlen]; exact Nat.le_refl _) (by omega) htk.nodup (fun b hb => let ⟨r, hr⟩ := htk.was b hb; h.rel.mine r b hr) htk.apart (h.new _ (Nat.le_refl _))
  have : ys.length = n := by omega
  rw [this] at hfin
  exact hfin

/-! ### Structs and arrays, as values -/
def goP (place : Nat → Option (Nat × Nat)) : Nat → List PV → List (Nat × PV) → Option (List PV)
  | _, zs, [] => some zs
  | pos, zs, (i, y) :: ps => match place i with
    | some (off, size) => if pos ≤ off ∧ off - pos + size ≤ zs.length ∧ y.cells.length = size then (goP place (off + size) (zs.drop (off - pos + size)) ps).map fun r => zs.take (off - pos) ++ y.cells ++ r else none
    | none => none

theorem RepL_cells1_part {w Z xs vs} (h : RepL w Z xs [] vs) (hc : ∀ x ∈ xs, x.cell1 = true) (lo n : Nat) (hb : lo + n ≤ xs.length) : RepL w Z ((xs.drop lo).take n) [] ((vs.drop lo).take n) := by
  obtain ⟨φ', hs, hr⟩ := RepL_part (sz := 1) h (fun x hx => PV.cell1_width (hc x hx)) lo n hb
  obtain rfl := List.eq_nil_of_sublist_nil hs
  simpa using hr

theorem goP_rep {w Z} {place : Nat → Option (Nat × Nat)} : ∀ (ids : List Nat) (ys : List PV) (φ : List Nat) (vs : List Value) (pos : Nat) (zs : List PV) (zv : List Value) (cs : List PV), RepTs w Z ys φ vs →
    (∀ y ∈ ys, y.notTup = true) → RepL w Z zs [] zv → (∀ c ∈ zs, c.cell1 = true) → ids.length = ys.length → goP place pos zs (ids.zip ys) = some cs →
    ∃ out, goV place pos zv (ids.zip vs) = some out ∧ RepL w Z cs φ out ∧ ∀ c ∈ cs, c.cell1 = true
  | [], [], φ, vs, pos, zs, zv, cs, h, hn, hz, hz1, hl, hg => by
    simp only [RepTs] at h
    obtain ⟨rfl, rfl⟩ := h
    simp only [List.zip_nil_left, goP, Option.some.injEq] at hg
    subst hg
    exact ⟨zv, by simp [goV], hz, hz1⟩
  | [], y :: ys, _, _, _, _, _, _, _, _, _, _, hl, _ => by simp at hl
  | i :: ids, [], _, _, _, _, _, _, _, _, _, _, hl, _ => by simp at hl
  | i :: ids, y :: ys, φ, vs, pos, zs, zv, cs, h, hn, hz, hz1, hl, hg => by
    rw [RepTs_cons] at h
    obtain ⟨φ₁, φ₂, v, vs', rfl, rfl, h1, h2⟩ := h
    simp only [List.zip_cons_cons, goP] at hg
    split at hg
    case h_2 => cases hg
    rename_i off size hpl
    split at hg
    case isFalse => cases hg
    case isTrue hc =>
    obtain ⟨hc1, hc2, hc3⟩ := hc
    simp only [Option.map_eq_some_iff] at hg
    obtain ⟨r, hr, rfl⟩ := hg
    have hyv : RepV w Z y φ₁ v := by
      rcases PV.tup_or y with ⟨xs, rfl⟩ | ⟨e, _⟩
      · exact absurd (hn (.tup xs) (by simp)) (by simp [PV.notTup])
      · rw [e]; exact h1
    obtain ⟨hcl, hc1'⟩ := cellsV hyv (PV.notTup_ne (hn y (by simp)))
    have hzl : zv.length = zs.length := by have := RepL_len (sz := 1) hz (fun c hcm => PV.cell1_width (hz1 c hcm)); simpa using this
    have hvl : v.cells.size = size := by
      have := RepL_len (sz := 1) hcl (fun c hcm => PV.cell1_width (hc1' c hcm))
      simp only [Array.length_toList, Nat.mul_one] at this; omega
    have hd : RepL w Z (zs.drop (off - pos + size)) [] (zv.drop (off - pos + size)) := by
      have := RepL_cells1_part hz hz1 (off - pos + size) (zs.length - (off - pos + size)) (by omega)
      rwa [List.take_of_length_le (by simp), List.take_of_length_le (by simp; omega)] at this
    obtain ⟨out, ho, hrep, hc1''⟩ := goP_rep ids ys φ₂ vs' (off + size) _ _ r h2 (fun y hy => hn y (by simp [hy])) hd (fun c hcm => hz1 c (List.mem_of_mem_drop hcm)) (by simpa using hl) hr
    refine ⟨zv.take (off - pos) ++ v.cells.toList ++ out, ?_, ?_, ?_⟩
    · simp only [List.zip_cons_cons, goV, hpl]
      rw [if_pos ⟨hc1, by omega, hvl⟩, ho]; rfl
    · have ht := RepL_cells1_part hz hz1 0 (off - pos) (by omega)
      simp only [List.drop_zero] at ht
      exact RepL_append.2 ⟨φ₁, φ₂, _, _, rfl, rfl, RepL_append.2 ⟨[], φ₁, _, _, rfl, rfl, ht, hcl⟩, hrep⟩
    · intro c hcm
      simp only [List.mem_append] at hcm
      rcases hcm with (hcm | hcm) | hcm
      · exact hz1 c (List.mem_of_mem_take hcm)
      · exact hc1' c hcm
      · exact hc1'' c hcm

def placesOf (P : Program) (T : TypeId) : Option (List (TypeId × Nat × Nat)) :=
  match P.underlying T with
  | some (.struct fs) => fs.toList.mapM fun f => (P.info? f.type).map fun i => (f.type, f.offset, i.size)
  | _ => none
def semBuild (E : Env) (o : Oper) (T : TypeId) (ps : List (Nat × Operand)) (F : RF) : Option RF :=
  match E.P.underlying T with
  | some (.struct _) => (placesOf E.P T).bind fun pl => (zeroCs E.P T).bind fun zs =>
    (E.tks (fun i => match pl[i]? with | some f => f.1 | none => T) F ps).bind fun r =>
      if r.1.all PV.notTup = true then (goP (fun i => (pl[i]?).map (·.2)) 0 zs ((ps.map (·.1)).zip r.1)).map fun cs => setD r.2 o.dst (.val (.agg cs)) else none
  | some (.array _ e) => (zeroCs E.P T).bind fun zs =>
    (E.tks (fun _ => e) F ps).bind fun r =>
      if r.1.all PV.notTup = true ∧ (E.P.info? e).isSome = true then (goP (fun i => some (i * esz E.P e, esz E.P e)) 0 zs ((ps.map (·.1)).zip r.1)).map fun cs => setD r.2 o.dst (.val (.agg cs)) else none
  | _ => none

theorem places_mapM {P : Program} : ∀ (fs : List Field) (pl : List (TypeId × Nat × Nat)), fs.mapM (fun f => (P.info? f.type).map fun i => (f.type, f.offset, i.size)) = some pl →
    fs.mapM (fun f => (P.info? f.type).map fun i => (f.offset, i.size)) = some (pl.map (·.2))
  | [], pl, h => by simp at h; subst h; simp
  | f :: fs, pl, h => by
    simp only [List.mapM_cons, Option.bind_eq_bind, Option.pure_def] at h ⊢
    cases hi : P.info? f.type with
    | none => simp [hi] at h
    | some i =>
      cases hr : fs.mapM (fun f => (P.info? f.type).map fun i => (f.type, f.offset, i.size)) with
      | none => simp [hi, hr] at h
      | some rest =>
        simp [hi, hr] at h
        subst h
        simp [hi, places_mapM fs rest hr]

theorem tks_len {E : Env} {T : Nat → TypeId} : ∀ {ps F r}, E.tks T F ps = some r → r.1.length = ps.length
  | [], F, r, h => by simp only [Env.tks, Option.some.injEq] at h; subst h; rfl
  | (i, x) :: ps, F, r, h => by
    simp only [Env.tks, Option.bind_eq_some_iff, Option.map_eq_some_iff] at h
    obtain ⟨_, _, q, hq, rfl⟩ := h
    simp [tks_len hq]

theorem semBuild_ok {E : Env} {o : Oper} {T : TypeId} {ps : Array (Nat × Operand)} {a : Act} {F' : RF} (h : Pre E X Z w φ a F) (ho : o.op = .build T ps)
    (hs : semBuild E o T ps.toList F = some F') : Yld E.P o a w (Out X Z w (tmOf E.nt a) o.dst F') := by
  have fin : ∀ {ys : List PV} {F1 : RF} {TT : Nat → TypeId} {place : Nat → Option (Nat × Nat)} {zs cs : List PV}, E.tks TT F ps.toList = some (ys, F1) → ys.all PV.notTup = true → zeroCs E.P T = some zs →
      goP place 0 zs ((ps.toList.map (·.1)).zip ys) = some cs → (∀ z cells, (zeroValue T).run E.P w = .ok z w → Instr.fill place z.cells (ps.map fun (i, x) => (i, a.eval x)).toList = some cells →
        (execOp a.eval o).run E.P w = .ok (.value (.agg cells)) w) → F' = setD F1 o.dst (.val (.agg cs)) → Yld E.P o a w (Out X Z w (tmOf E.nt a) o.dst F') := by
    intro ys F1 TT place zs cs ht hall hz hg hrun he
    subst he
    simp only [List.all_eq_true] at hall
    obtain ⟨φ1, φy, htk⟩ := tks_ok ps.toList F φ ys F1 h ht hall
    obtain ⟨z, hzr, hzl, hz1⟩ := zeroCs_rep (w := w) (Z := Z) hz
    have hl := tks_len ht
    obtain ⟨out, hgo, hrep, hc1⟩ := goP_rep (ps.toList.map (·.1)) ys φy _ 0 zs z.cells.toList cs htk.rep hall hzl hz1 (by simp at hl ⊢; omega) hg
    obtain ⟨arr, ha, hal⟩ := fill_go (place := place) ((ps.toList.map (·.1)).zip (ps.toList.map fun p => a.eval p.2)) 0 z.cells out (by simpa using hgo) (Nat.zero_le _)
    have hparts : (ps.map fun (i, x) => (i, a.eval x)).toList = (ps.toList.map (·.1)).zip (ps.toList.map fun p => a.eval p.2) := by
      rw [Array.toList_map]; exact zip_parts ps.toList a.eval
    refine Yld.value (hrun z arr hzr (by rw [hparts]; exact ha)) ?_
    obtain ⟨φ', hr⟩ := htk.rel.outVal (d := o.dst) (x := .agg cs) (v := .agg arr) (φx := φy)
      (RepV_agg.2 ⟨out, by congr 1; apply Array.ext'; simpa using hal, by simp only [Rep]; exact ⟨hrep, hc1⟩⟩) htk.nodup (fun b hb => let ⟨r, hr⟩ := htk.was b hb; h.rel.mine r b hr) htk.apart
    exact ⟨Z, φ', hr, Stp.refl _ _, fun _ _ _ => Iff.rfl⟩
  unfold semBuild at hs
  split at hs
  · rename_i fs hu
    simp only [Option.bind_eq_some_iff] at hs
    obtain ⟨pl, hpl, zs, hz, ⟨ys, F1⟩, ht, hs⟩ := hs
    split at hs
    case isFalse => cases hs
    case isTrue hall =>
    simp only [Option.map_eq_some_iff] at hs
    obtain ⟨cs, hg, rfl⟩ := hs
    refine fin ht hall hz hg ?_ rfl
    intro z cells hzr hf
    simp only [placesOf, hu] at hpl
    have hp := places_mapM _ _ hpl
    unfold execOp; rw [ho]
    have hf' : Instr.fill (fun x => (List.map (fun x => x.snd) pl)[x]?) z.cells (ps.map fun (i, x) => (i, a.eval x)).toList = some cells := by
      rw [← hf]; congr 1; funext i; simp
    simp at hf'
    simp [Instr.build, run_underlying hu, hzr, Array.mapM_eq_mapM_toList, run_places w _ _ hp, hf']
  · rename_i n e hu
    simp only [Option.bind_eq_some_iff] at hs
    obtain ⟨zs, hz, ⟨ys, F1⟩, ht, hs⟩ := hs
    split at hs
    case isFalse => cases hs
    case isTrue hall =>
    simp only [Option.map_eq_some_iff] at hs
    obtain ⟨cs, hg, rfl⟩ := hs
    refine fin ht hall.1 hz hg ?_ rfl
    intro z cells hzr hf
    unfold execOp; rw [ho]
    simp at hf
    simp [Instr.build, run_underlying hu, hzr, run_size hall.2, hf]
  · cases hs
end Go.V
/- append. -/
namespace Go.V
set_option linter.unusedVariables false
set_option linter.unusedSimpArgs false
variable {X : Cx} {Z : Nat → Prop} {w : World} {φ : Tmp → List Nat} {tm : Tmp → Value} {F : RF}

theorem run_firstCells_slice {P : Program} {w : World} {sz n cap : Nat} {a : Option Addr} {ch : List Value} (hl : ch.length = n * sz) (ha : n * sz = 0 ∨ ∃ A, a = some A ∧ ∀ (j : Nat) v, ch[j]? = some v → w.cell? (A.add j) = some v)
    : (Builtin.firstCells sz n (.slice a n cap)).run P w = .ok ch.toArray w := by
  have h0 : n * sz = 0 → (Builtin.firstCells sz n (.slice a n cap)).run P w = .ok ch.toArray w := by
    intro h0
    have : ch = [] := List.eq_nil_of_length_eq_zero (by omega)
    subst this
    cases a with
    | none => simp [Builtin.firstCells]
    | some A => simp [Builtin.firstCells, h0, loadCells, loadCellsFrom]
  rcases ha with ha | ⟨A, rfl, hc⟩
  · exact h0 ha
  · simp only [Builtin.firstCells]
    rw [← hl]; exact run_loadCells_list (P := P) w A ch hc

theorem sl_cells {f : Bool} {sz n cap : Nat} {a : Option Addr} {xs : List PV} {φx : List Nat} (h : Rep w Z (.sl f sz xs) φx [.slice a n cap]) :
    n = xs.length ∧ n ≤ cap ∧ 0 < sz ∧ (∀ x ∈ xs, x.width = sz) ∧ ∃ ch ψ, RepL w Z xs ψ ch ∧ ψ.Sublist φx ∧ ch.length = n * sz ∧ (n * sz = 0 ∨ ∃ A, a = some A ∧ ∀ (j : Nat) v, ch[j]? = some v → w.cell? (A.add j) = some v) ∧
      (f = true → (xs = [] ∧ cap = 0 ∧ φx = []) ∨ ∃ b off cs T, a = some ⟨b, off, none⟩ ∧ w.heap[b]? = some (.cells cs T (0, 0)) ∧ (∀ (i : Nat) v, ch[i]? = some v → cs[off + i]? = some v) ∧ Z b ∧ φx = b :: ψ ∧ off + cap * sz ≤ cs.size) := by
  simp only [Rep] at h
  obtain ⟨a', cap', ψ, ch, e, h0, hl, hw, hh⟩ := h
  obtain ⟨rfl, rfl, rfl⟩ : a = a' ∧ n = xs.length ∧ cap = cap' := by simpa using e
  have hlen := RepL_len hl hw
  refine ⟨rfl, h0.2, h0.1, hw, ch, ψ, hl, ?_, hlen, ?_, ?_⟩
  · rcases hh with ⟨rfl, rfl, _⟩ | ⟨b, off, cs, T, fr, rfl, hb, hch, hf, ht⟩
    · rw [RepL_nil] at hl; rw [hl.1]; exact List.Sublist.refl _
    · cases f with
      | false => rw [(hf rfl).2.2]; exact List.nil_sublist _
      | true => rw [(ht rfl).2.2.1]; exact List.sublist_cons_self _ _
  · rcases hh with ⟨rfl, _⟩ | ⟨b, off, cs, T, fr, rfl, hb, hch, hf, ht⟩
    · left; simp
    · right
      refine ⟨_, rfl, fun j v hj => ?_⟩
      rw [add_lit rfl]; simp only [World.cell?, hb]; simpa using hch j v hj
  · intro hft
    rcases hh with ⟨rfl, rfl, hc⟩ | ⟨b, off, cs, T, fr, rfl, hb, hch, hf, ht⟩
    · exact .inl ⟨rfl, hc hft, rfl⟩
    · obtain ⟨hz, rfl, rfl, hcap, _⟩ := ht hft
      exact .inr ⟨b, off, cs, T, rfl, hb, hch, hz, rfl, hcap⟩

theorem RepL_ones1 {w Z} : ∀ {cs φ vs}, RepL w Z cs φ vs → (∀ c ∈ cs, c.cell1 = true) → ∀ v ∈ vs, v.oneCell' = true
  | [], φ, vs, h, _ => by rw [RepL_nil] at h; rw [h.2]; simp
  | c :: cs, φ, vs, h, hc => by
    obtain ⟨ψ₁, ψ₂, u₁, u₂, rfl, rfl, k1, k2⟩ := RepL_cons.1 h
    have hl1 : u₁.length = 1 := by rw [k1.length, PV.cell1_width (hc c (by simp))]
    obtain ⟨u, rfl⟩ := List.length_eq_one_iff.1 hl1
    intro v hv
    rcases List.mem_append.1 hv with hv | hv
    · obtain rfl := List.mem_singleton.1 hv
      rw [one_oneCell']; exact Rep_oneCell k1 (hc c (by simp))
    · exact RepL_ones1 k2 (fun c hm => hc c (by simp [hm])) v hv
theorem RepL_ones {w Z} : ∀ {xs φ vs}, RepL w Z xs φ vs → ∀ v ∈ vs, v.oneCell' = true
  | [], φ, vs, h => by rw [RepL_nil] at h; rw [h.2]; simp
  | x :: xs, φ, vs, h => by
    obtain ⟨φ₁, φ₂, v₁, v₂, rfl, rfl, h1, h2⟩ := RepL_cons.1 h
    intro v hv
    rcases List.mem_append.1 hv with hv | hv
    · exact RepL_ones1 h1.cellsL (PV.cells_cell1 h1) v hv
    · exact RepL_ones h2 v hv

theorem run_append_in {P : Program} {w w' : World} {T T2 ty e : TypeId} {i : TypeInfo} {d2 : TypeDesc} {base : Option Addr} {sLen sCap m : Nat} {x : Value} {new : Array Value} (ht : P.underlying T = some (.slice e))
    (hi : P.info? e = some i) (h2 : P.underlying T2 = some d2) (hd2 : d2 = .string ∨ ∃ e', d2 = .slice e') (hm : (Builtin.lenOf x).run P w = .ok m w) (hf : (Builtin.firstCells i.size m x).run P w = .ok new w)
    (hroom : sLen + m ≤ sCap) (hst : ∀ a, base = some a → (storeCells (a.add (sLen * i.size)) new.toList).run P w = .ok () w') (hno : base = none → w' = w) :
    (Builtin.append_ #[T, T2] ty #[.slice base sLen sCap, x]).run P w = .ok (.slice base (sLen + m) sCap) w' := by
  cases base with
  | none =>
    obtain rfl := hno rfl
    rcases hd2 with rfl | ⟨e', rfl⟩ <;> simp [Builtin.append_, run_underlying ht, run_underlying h2, sizeOf, typeInfo, hi, hm, hf, hroom]
  | some a =>
    have := hst a rfl
    rcases hd2 with rfl | ⟨e', rfl⟩ <;> simp [Builtin.append_, run_underlying ht, run_underlying h2, sizeOf, typeInfo, hi, hm, hf, hroom, this]

theorem run_append_new {P : Program} {w : World} {T T2 ty e : TypeId} {i : TypeInfo} {z : Value} {d2 : TypeDesc} {base : Option Addr} {sLen sCap m : Nat} {x : Value} {old new : Array Value} (ht : P.underlying T = some (.slice e))
    (hi : P.info? e = some i) (hz : i.zero = some z) (h2 : P.underlying T2 = some d2) (hd2 : d2 = .string ∨ ∃ e', d2 = .slice e') (hm : (Builtin.lenOf x).run P w = .ok m w)
    (hf : (Builtin.firstCells i.size m x).run P w.drew = .ok new w.drew) (hfo : (Builtin.firstCells i.size sLen (.slice base sLen sCap)).run P w.drew = .ok old w.drew)
    (hg : sCap < sLen + m) (h63 : sLen + m ≤ 9223372036854775807) (h47 : (sLen + m) * i.bytes ≤ 140737488355328) :
    (Builtin.append_ #[T, T2] ty #[.slice base sLen sCap, x]).run P w = .ok (.slice (some ⟨w.heap.size, 0, none⟩) (sLen + m) (grownCap w (sLen + m) sCap e))
      (w.drew.alloc (.cells (old ++ new ++ Builtin.zeroCells z.cells (grownCap w (sLen + m) sCap e - (sLen + m))) e)) := by
  have hn : ¬ (sLen + m ≤ sCap) := by omega
  have h63' : ¬ (9223372036854775807 < (sLen : Int) + (m : Int)) := by omega
  have hfit := growslice_fits hg h47
  have h48' : ¬ (281474976710656 < Builtin.nextslicecap (sLen + m) sCap * i.bytes) := by omega
  rcases hd2 with rfl | ⟨e', rfl⟩ <;> simp [Builtin.append_, run_underlying ht, run_underlying h2, sizeOf, typeInfo, zeroValue, hi, hz, hm, hn, h63', h48', Question.forced, hf, hfo, newRow, grownCap]

/-- the part of an array up to its end: where it is appended to, it moves -/
def Env.exact (E : Env) (F : RF) (x : Operand) : Bool :=
  match E.at x with
  | some t => match F.slot t with
    | .pl _ _ (.arr _ _ _ hi n) _ => hi == n
    | _ => false
  | none => false
/-- what is appended to: its elements, the frame behind it, whether it surely moves -/
def Env.fst (E : Env) (F : RF) (T : TypeId) (x : Operand) (sz : Nat) : Option (List PV × RF × Bool) :=
  if E.exact F x = true then
    match E.rd F T x with
    | some (.sl _ s xs) => if s = sz ∧ noOwnL xs = true then some (xs, F, true) else none
    | _ => none
  else
    match E.tk F T x with
    | some (.sl true s xs, F1) => if s = sz then some (xs, F1, false) else none
    | _ => none
def bytesP (s : ByteArray) : List PV := s.data.toList.map fun b => .prim (.int .u8 b.toNat)
/-- what is appended -/
def Env.snd (E : Env) (F : RF) (T : TypeId) (x : Operand) (sz : Nat) : Option (List PV × RF) :=
  match E.P.underlying T with
  | some .string => match E.vl F x with
    | some (.string s) => if sz = 1 then some (bytesP s, F) else none
    | _ => none
  | some (.slice _) =>
    match E.rd F T x with
    | some (.sl _ s ys) =>
      if s = sz then
        if noOwnL ys = true then some (ys, F) else
        match E.tk F T x with
        | some (.sl true s' ys', F1) => if s' = sz then some (ys', F1) else none
        | _ => none
      else none
    | _ => none
  | _ => none
def semAppend (E : Env) (o : Oper) (T T2 : TypeId) (x y : Operand) (F : RF) : Option RF :=
  match E.P.underlying T with
  | some (.slice e) =>
    if (zeroE E.P e).isSome = true then
      (E.fst F T x (esz E.P e)).bind fun (xs, F1, ex) => (E.snd F1 T2 y (esz E.P e)).bind fun (ys, F2) =>
        if (xs.length + ys.length) * (ebytes E.P e + 1) ≤ 70368744177664 then
          if ex = true ∧ ys = [] then none else some (setD F2 o.dst (.val (.sl true (esz E.P e) (xs ++ ys))))
        else none
    else none
  | _ => none

/-- The second operand: its cells, as they are read; what they own. -/
theorem snd_ok {E : Env} {a : Act} (h : Pre E X Z w φ a F) {T : TypeId} {x : Operand} {sz : Nat} {ys : List PV} {F1 : RF} (hs : E.snd F T x sz = some (ys, F1)) :
    ∃ φ' φy ch d2, Rel X Z w φ' (tmOf E.nt a) F1 ∧ E.P.underlying T = some d2 ∧ (d2 = .string ∨ ∃ e', d2 = .slice e') ∧ RepL w Z ys φy ch ∧ ch.length = ys.length * sz ∧ (∀ y ∈ ys, y.width = sz) ∧
      φy.Nodup ∧ (∀ b ∈ φy, X.mine b) ∧ (∀ r, ∀ b ∈ φy, b ∉ φ' r) ∧ (∀ r b, b ∈ φ' r → b ∈ φ r) ∧ (∀ b ∈ φy, ∃ r, b ∈ φ r) ∧
      (∀ w', w'.heap = w.heap → (Builtin.lenOf (a.eval x)).run E.P w' = .ok ys.length w' ∧ (Builtin.firstCells sz ys.length (a.eval x)).run E.P w' = .ok ch.toArray w') := by
  unfold Env.snd at hs
  have hcell : ∀ (w' : World) (A : Addr), w'.heap = w.heap → w'.cell? A = w.cell? A := fun w' A e => by simp [World.cell?, e]
  split at hs
  · rename_i hu
    split at hs
    case h_2 => cases hs
    rename_i s hv
    split at hs
    case isFalse => cases hs
    case isTrue hsz =>
    subst hsz
    simp only [Option.some.injEq, Prod.mk.injEq] at hs
    obtain ⟨rfl, rfl⟩ := hs
    have hev := vl_eq h hv
    refine ⟨φ, [], s.data.toList.map (fun b => Value.int .u8 b.toNat), _, h.rel, hu, .inl rfl, ?_, by simp [bytesP], by simp [bytesP, PV.width], List.nodup_nil, by simp, by simp, fun _ _ h => h, by simp, ?_⟩
    · have := RepL_prims (w := w) (Z := Z) (vs := s.data.toList.map (fun b => Value.int .u8 b.toNat)) (by rw [List.all_eq_true]; intro v hv; obtain ⟨b, _, rfl⟩ := List.mem_map.1 hv; rfl)
      rw [List.map_map] at this; exact this
    · intro w' _
      rw [hev]
      refine ⟨by simp [Builtin.lenOf, bytesP], ?_⟩
      have hx : s.extract 0 s.size = s := by
        apply ByteArray.ext
        simp [ByteArray.data_extract]
      have hl : (bytesP s).length = s.size := by simp [bytesP]
      rw [hl]
      simp [Builtin.firstCells, hx]
      apply Array.ext'; simp
  · rename_i e hu
    split at hs
    case h_2 => cases hs
    rename_i f s0 ys0 hrd
    split at hs
    case isFalse => cases hs
    case isTrue hsz =>
    subst hsz
    have main : ∀ {φ' : Tmp → List Nat} {φy : List Nat} {f' : Bool} {ys' : List PV} {F' : RF}, Rel X Z w φ' (tmOf E.nt a) F' → RepV w Z (.sl f' s0 ys') φy (a.eval x) → φy.Nodup → (∀ b ∈ φy, ∃ r, b ∈ φ r) →
        (noOwnL ys' = true ∨ ∀ r, ∀ b ∈ φy, b ∉ φ' r) → (∀ r b, b ∈ φ' r → b ∈ φ r) → some (ys', F') = some (ys, F1) → ∃ φ' φy ch d2, Rel X Z w φ' (tmOf E.nt a) F1 ∧ E.P.underlying T = some d2 ∧ (d2 = .string ∨ ∃ e', d2 = .slice e') ∧ RepL w Z ys φy ch ∧ ch.length = ys.length * s0 ∧ (∀ y ∈ ys, y.width = s0) ∧
      φy.Nodup ∧ (∀ b ∈ φy, X.mine b) ∧ (∀ r, ∀ b ∈ φy, b ∉ φ' r) ∧ (∀ r b, b ∈ φ' r → b ∈ φ r) ∧ (∀ b ∈ φy, ∃ r, b ∈ φ r) ∧
      (∀ w', w'.heap = w.heap → (Builtin.lenOf (a.eval x)).run E.P w' = .ok ys.length w' ∧ (Builtin.firstCells s0 ys.length (a.eval x)).run E.P w' = .ok ch.toArray w') := by
      intro φ' φy f' ys' F' hrel hr hnd hwas hap hless he
      simp only [Option.some.injEq, Prod.mk.injEq] at he
      obtain ⟨rfl, rfl⟩ := he
      rw [RepV_cell rfl] at hr
      obtain ⟨a', cap', hv⟩ : ∃ a' cap', a.eval x = .slice a' ys'.length cap' := by
        simp only [Rep] at hr; obtain ⟨a', cap', _, _, hv, _⟩ := hr; exact ⟨a', cap', by simpa using hv⟩
      rw [hv] at hr
      obtain ⟨_, hcap, hpos, hw, ch, ψ, hl, hsub, hlen, hc, _⟩ := sl_cells hr
      refine ⟨φ', ψ, ch, _, hrel, hu, .inr ⟨e, rfl⟩, hl, hlen, hw, hnd.sublist hsub, fun b hb => let ⟨r, hr⟩ := hwas b (hsub.subset hb); h.rel.mine r b hr, ?_, hless, fun b hb => hwas b (hsub.subset hb), ?_⟩
      · intro r b hb
        rcases hap with hno | hap
        · rw [Rep_noOwn.2 _ _ _ hno hl] at hb; simp at hb
        · exact hap r b (hsub.subset hb)
      · intro w' hw'
        rw [hv]
        refine ⟨by simp [Builtin.lenOf], run_firstCells_slice hlen (hc.imp id fun ⟨A, hA, hcc⟩ => ⟨A, hA, fun j v hj => by rw [hcell w' _ hw']; exact hcc j v hj⟩)⟩
    split at hs
    · rename_i hno
      obtain ⟨φy, hr, hwas, hnd⟩ := rd_rep h hrd
      exact main h.rel hr hnd hwas (.inl hno) (fun _ _ h => h) hs
    · split at hs
      case h_2 => cases hs
      rename_i s' ys' F' htk
      split at hs
      case isFalse => cases hs
      case isTrue hs' =>
      subst hs'
      obtain ⟨φ', φy, ht⟩ := tk_rep h htk
      exact main ht.rel ht.rep ht.nodup ht.was (.inr ht.apart) ht.less hs
  · cases hs

theorem semAppend_ok {E : Env} {o : Oper} {T T2 : TypeId} {x y : Operand} {a : Act} {F' : RF} (h : Pre E X Z w φ a F) (ho : o.op = .call { callee := .builtin .append, args := #[x, y], argTypes := #[T, T2] })
    (hs : semAppend E o T T2 x y F = some F') : Yld E.P o a w (Out X Z w (tmOf E.nt a) o.dst F') := by
  unfold semAppend at hs
  split at hs
  case h_2 => cases hs
  rename_i e hu
  split at hs
  case isFalse => cases hs
  case isTrue hzs =>
  obtain ⟨zx, hzx⟩ := Option.isSome_iff_exists.1 hzs
  obtain ⟨i, z, hi, hz, _, _, hzsz, hpos⟩ := zeroE_rep (w := w) (Z := Z) hzx
  have hesz : i.size = esz E.P e := by simp [esz, hi]
  have heb : i.bytes = ebytes E.P e := by simp [ebytes, hi]
  simp only [Option.bind_eq_some_iff] at hs
  obtain ⟨⟨xs, F1, ex⟩, hfst, ⟨ys, F2⟩, hsnd, hs⟩ := hs
  simp only at hs
  split at hs
  case isFalse => cases hs
  case isTrue hbound =>
  split at hs
  · cases hs
  rename_i hex
  obtain rfl := Option.some.inj hs
  -- the first operand
  have hfirst : ∃ φ1 φx f ad cap, Rel X Z w φ1 (tmOf E.nt a) F1 ∧ Rep w Z (.sl f (esz E.P e) xs) φx [.slice ad xs.length cap] ∧ a.eval x = .slice ad xs.length cap ∧ φx.Nodup ∧ (∀ b ∈ φx, ∃ r, b ∈ φ r) ∧
      (∀ r b, b ∈ φ1 r → b ∈ φ r) ∧ ((ex = true ∧ noOwnL xs = true ∧ cap = xs.length) ∨ (ex = false ∧ f = true ∧ ∀ r, ∀ b ∈ φx, b ∉ φ1 r)) := by
    have hslice : ∀ {f sz xs φx u}, RepV w Z (.sl f sz xs) φx u → ∃ ad cap, u = .slice ad xs.length cap := by
      intro f sz xs φx u hr
      rw [RepV_cell rfl] at hr
      simp only [Rep] at hr; obtain ⟨a', cap', _, _, hv, _⟩ := hr; exact ⟨a', cap', by simpa using hv⟩
    unfold Env.fst at hfst
    split at hfst
    · rename_i hexact
      split at hfst
      case h_2 => cases hfst
      rename_i f s xs' hrd
      split at hfst
      case isFalse => cases hfst
      case isTrue hc =>
      obtain ⟨rfl, hno⟩ := hc
      simp only [Option.some.injEq, Prod.mk.injEq] at hfst
      obtain ⟨rfl, rfl, rfl⟩ := hfst
      obtain ⟨φy, hr, hwas, hnd⟩ := rd_rep h hrd
      obtain ⟨ad, cap, hv⟩ := hslice hr
      refine ⟨φ, φy, f, ad, cap, h.rel, by rw [RepV_cell rfl, hv] at hr; exact hr, hv, hnd, hwas, fun _ _ h => h, .inl ⟨rfl, hno, ?_⟩⟩
      -- the capacity of a part of an array up to its end
      unfold Env.exact at hexact
      split at hexact
      case h_2 => cases hexact
      rename_i t hat
      split at hexact
      case h_2 => cases hexact
      rename_i r p i' j lo hi n nn hsl
      simp only [beq_iff_eq] at hexact
      subst hexact
      simp only [Env.rd, hat, RF.content, hsl] at hrd
      split at hrd
      case isFalse => cases hrd
      case isTrue hok =>
      obtain ⟨g, yy, u, φg, hg, hf, hvv, hget, _⟩ := h.rel.plRep hsl hok
      rw [hg] at hrd
      simp only [hget, Option.bind_some, viewC, Option.bind_eq_some_iff] at hrd
      obtain ⟨row, hrow, hrd⟩ := hrd
      split at hrd
      case isFalse => cases hrd
      case isTrue hb =>
      simp only [viewOk] at hvv
      obtain ⟨row', A, A', hrow', hn, hA, hval, _⟩ := hvv
      rw [at_eval hat] at hv
      rw [hval] at hv
      simp only [Value.slice.injEq] at hv
      omega
    · split at hfst
      case h_2 => cases hfst
      rename_i s xs' F1' htk
      split at hfst
      case isFalse => cases hfst
      case isTrue hc =>
      subst hc
      simp only [Option.some.injEq, Prod.mk.injEq] at hfst
      obtain ⟨rfl, rfl, rfl⟩ := hfst
      obtain ⟨φ', φy, ht⟩ := tk_rep h htk
      obtain ⟨ad, cap, hv⟩ := hslice ht.rep
      have hr := ht.rep
      rw [RepV_cell rfl, hv] at hr
      exact ⟨φ', φy, true, ad, cap, ht.rel, hr, hv, ht.nodup, ht.was, ht.less, .inr ⟨rfl, rfl, ht.apart⟩⟩
  obtain ⟨φ1, φx, f, ad, cap, hrel1, hrx, hvx, hndx, hwasx, hless1, hcase⟩ := hfirst
  obtain ⟨φ2, φy, ch2, d2, hrel2, hu2, hd2, hl2, hlen2, hw2, hndy, hmy, hapy, hless2, hwasy, hrun2⟩ := snd_ok ⟨hrel1, h.new, h.glob⟩ hsnd
  obtain ⟨_, hcapx, _, hwx, ch1, ψ, hl1, hsub1, hlen1, hc1, hown⟩ := sl_cells hrx
  have hbound2 : (xs.length + ys.length) * ebytes E.P e ≤ 140737488355328 ∧ xs.length + ys.length ≤ 70368744177664 := by
    have h1 : (xs.length + ys.length) * ebytes E.P e ≤ (xs.length + ys.length) * (ebytes E.P e + 1) := Nat.mul_le_mul_left _ (by omega)
    have h2 : (xs.length + ys.length) * 1 ≤ (xs.length + ys.length) * (ebytes E.P e + 1) := Nat.mul_le_mul_left _ (by omega)
    omega
  -- what the elements own is apart
  have hψ2 : ∀ r, ∀ b ∈ ψ, b ∉ φ2 r := by
    intro r b hb
    rcases hcase with ⟨_, hno, _⟩ | ⟨_, _, hap⟩
    · rw [Rep_noOwn.2 _ _ _ hno hl1] at hb; simp at hb
    · exact fun hb2 => hap r b (hsub1.subset hb) (hless2 r b hb2)
  have hψy : ∀ b ∈ ψ, b ∉ φy := by
    intro b hb hb2
    rcases hcase with ⟨_, hno, _⟩ | ⟨_, _, hap⟩
    · rw [Rep_noOwn.2 _ _ _ hno hl1] at hb; simp at hb
    · obtain ⟨r, hr⟩ := hwasy b hb2; exact hap r b (hsub1.subset hb) hr
  have hndall : (ψ ++ φy).Nodup := List.nodup_append.2 ⟨hndx.sublist hsub1, hndy, fun b hb c hc e => hψy b hb (e ▸ hc)⟩
  have hmψ : ∀ b ∈ ψ, X.mine b := fun b hb => let ⟨r, hr⟩ := hwasx b (hsub1.subset hb); h.rel.mine r b hr
  have hlx : RepL w Z (xs ++ ys) (ψ ++ φy) (ch1 ++ ch2) := RepL_append.2 ⟨ψ, φy, ch1, ch2, rfl, rfl, hl1, hl2⟩
  have hwall : ∀ x ∈ xs ++ ys, x.width = esz E.P e := by
    intro x hx; rcases List.mem_append.1 hx with hx | hx
    · exact hwx x hx
    · exact hw2 x hx
  have hexec : ∀ {v w'}, (Builtin.append_ #[T, T2] o.type #[a.eval x, a.eval y]).run E.P w = .ok v w' → (execOp a.eval o).run E.P w = .ok (.value v) w' := by
    intro v w' hr; unfold execOp; rw [ho]; simp [resolve, invoke, builtin, hr]
  by_cases hroom : xs.length + ys.length ≤ cap
  · -- there is room
    rcases hcase with ⟨rfl, hno, rfl⟩ | ⟨rfl, rfl, hapx⟩
    · exact absurd ⟨rfl, List.eq_nil_of_length_eq_zero (by omega)⟩ hex
    obtain ⟨hm, hfc⟩ := hrun2 w rfl
    rcases hown rfl with ⟨rfl, rfl, rfl⟩ | ⟨b, off, cs, T', rfl, hb, hch, hzb, rfl, hcapsz⟩
    · -- nothing to nothing
      have hy0 : ys = [] := by simpa using hroom
      subst hy0
      have hch2 : ch2 = [] := List.eq_nil_of_length_eq_zero (by simpa using hlen2)
      subst hch2
      refine Yld.value (w' := w) (hexec (by rw [hvx]; exact run_append_in hu hi hu2 hd2 hm (by rw [hesz]; exact hfc) hroom (fun a _ => by simp [storeCells]) (fun _ => rfl))) ?_
      obtain ⟨φ', hr⟩ := hrel2.outVal (d := o.dst) ((RepV_cell rfl).2 hrx) List.nodup_nil (by simp) (by simp)
      exact ⟨Z, φ', by simpa using hr, Stp.refl _ _, fun _ _ _ => Iff.rfl⟩
    · have hlt : b < w.heap.size := (Array.getElem?_eq_some_iff.1 hb).1
      have hmul : (xs.length + ys.length) * esz E.P e ≤ cap * esz E.P e := Nat.mul_le_mul_right _ hroom
      rw [Nat.add_mul] at hmul
      have hones : ∀ v ∈ ch2, v.oneCell' = true := RepL_ones hl2
      have hst := run_storeCells_cells (P := E.P) b (off + xs.length * esz E.P e) ch2 0 w
        (by intro j hj
            have hj2 : off + xs.length * esz E.P e + j < cs.size := by omega
            rw [Nat.add_zero]
            simp only [World.cell?, hb, Option.isSome_none, Bool.false_eq_true, if_false]
            rw [Array.getElem?_eq_getElem hj2]; rfl) (by intro j hj; simp [World.frozen?, hb]) hones
      simp only [Nat.add_zero] at hst
      refine Yld.value (w' := w.setCells b (off + xs.length * esz E.P e) ch2) (hexec (by
        rw [hvx]; exact run_append_in hu hi hu2 hd2 hm (by rw [hesz]; exact hfc) hroom (fun a ha => by
          obtain rfl := Option.some.inj ha; rw [add_lit rfl, hesz]; exact hst) (fun h => by cases h))) ?_
      have hbψ : b ∉ ψ := (List.nodup_cons.1 hndx).1
      have hbφ2 : ∀ r, b ∉ φ2 r := fun r hb2 => hapx r b (by simp) (hless2 r b hb2)
      have hbφy : b ∉ φy := fun hb2 => by obtain ⟨r, hr⟩ := hwasy b hb2; exact hapx r b (by simp) hr
      have hmb : X.mine b := let ⟨r, hr⟩ := hwasx b (by simp); h.rel.mine r b hr
      have hother : ∀ c, c ≠ b → (w.setCells b (off + xs.length * esz E.P e) ch2).heap[c]? = w.heap[c]? := fun c hc => setCells_heap _ _ _ _ hc
      have hrel3 := hrel2.keep (w' := w.setCells b (off + xs.length * esz E.P e) ch2) (Z' := Z) (fun c hc hm => ⟨Iff.rfl, hother c (by
        rintro rfl
        rcases hm with ⟨t, ht⟩ | hm
        · exact hbφ2 t ht
        · exact hm hzb)⟩)
      have hk : Keeps w (w.setCells b (off + xs.length * esz E.P e) ch2) Z Z (ψ ++ φy) := fun c hc hm => ⟨Iff.rfl, hother c (by
        rintro rfl
        rcases hm with hm | hm
        · rcases List.mem_append.1 hm with hm | hm
          · exact hbψ hm
          · exact hbφy hm
        · exact hm hzb)⟩
      -- the block behind the store
      have hblk : ∃ cs', (w.setCells b (off + xs.length * esz E.P e) ch2).heap[b]? = some (.cells cs' T' (0, 0)) ∧ cs'.size = cs.size ∧ ∀ (k : Nat) v, (ch1 ++ ch2)[k]? = some v → cs'[off + k]? = some v := by
        have hgen : ∀ (us : List Value) (o' : Nat) (w : World) (cs : Array Value), w.heap[b]? = some (.cells cs T' (0, 0)) → o' + us.length ≤ cs.size →
            ∃ cs', (w.setCells b o' us).heap[b]? = some (.cells cs' T' (0, 0)) ∧ cs'.size = cs.size ∧ (∀ k, k < o' → cs'[k]? = cs[k]?) ∧ ∀ (k : Nat) v, us[k]? = some v → cs'[o' + k]? = some v := by
          intro us
          induction us with
          | nil => intro o' w cs hb _; exact ⟨cs, hb, rfl, fun _ _ => rfl, by simp⟩
          | cons u us ih =>
            intro o' w cs hb hle
            simp only [List.length_cons] at hle
            have hb1 : (w.setCell ⟨b, o', none⟩ u).heap[b]? = some (.cells (cs.setIfInBounds o' u) T' (0, 0)) := by
              simp only [World.setCell, Array.getElem?_modify, if_true, hb, Option.map_some]; simp
            obtain ⟨cs', k1, k2, k3, k4⟩ := ih (o' + 1) (w.setCell ⟨b, o', none⟩ u) _ hb1 (by simp; omega)
            refine ⟨cs', k1, by simpa using k2, fun k hk => ?_, fun k v hk => ?_⟩
            · rw [k3 k (by omega), Array.getElem?_setIfInBounds_ne (by omega)]
            · cases k with
              | zero =>
                simp only [List.getElem?_cons_zero, Option.some.injEq] at hk
                rw [Nat.add_zero, k3 o' (by omega), Array.getElem?_setIfInBounds_self, if_pos (by omega), hk]
              | succ k => rw [show o' + (k + 1) = o' + 1 + k by omega]; exact k4 k v (by simpa using hk)
        obtain ⟨cs', k1, k2, k3, k4⟩ := hgen ch2 (off + xs.length * esz E.P e) w cs hb (by omega)
        refine ⟨cs', k1, k2, fun k v hk => ?_⟩
        by_cases hkl : k < ch1.length
        · rw [List.getElem?_append_left hkl] at hk
          rw [k3 _ (by omega)]; exact hch k v hk
        · rw [List.getElem?_append_right (by omega)] at hk
          have := k4 _ v hk
          rwa [show off + xs.length * esz E.P e + (k - ch1.length) = off + k by omega] at this
      obtain ⟨cs', hb', hsz', hch'⟩ := hblk
      have hrep' : Rep (w.setCells b (off + xs.length * esz E.P e) ch2) Z (.sl true (esz E.P e) (xs ++ ys)) (b :: (ψ ++ φy)) [.slice (some ⟨b, off, none⟩) (xs.length + ys.length) cap] := by
        simp only [Rep]
        exact ⟨_, cap, ψ ++ φy, ch1 ++ ch2, by simp, ⟨hpos, by simpa using hroom⟩, hk.repL (fun _ h => h) hlx, hwall,
          .inr ⟨b, off, cs', T', (0, 0), rfl, hb', hch', fun h => (by cases h), fun _ => ⟨hzb, rfl, rfl, by rw [hsz']; exact hcapsz, by simpa using hroom⟩⟩⟩
      obtain ⟨φ', hr⟩ := hrel3.outVal (d := o.dst) ((RepV_cell rfl).2 hrep') (List.nodup_cons.2 ⟨by simp [hbψ, hbφy], hndall⟩)
        (by intro c hc; rcases List.mem_cons.1 hc with rfl | hc
            · exact hmb
            · rcases List.mem_append.1 hc with hc | hc
              · exact hmψ c hc
              · exact hmy c hc)
        (by intro u c hc; rcases List.mem_cons.1 hc with rfl | hc
            · exact hbφ2 u
            · rcases List.mem_append.1 hc with hc | hc
              · exact hψ2 u c hc
              · exact hapy u c hc)
      exact ⟨Z, φ', hr, Stp.setCells hmb _ _ _, fun _ _ _ => Iff.rfl⟩
  · -- it moves
    obtain ⟨hm, _⟩ := hrun2 w rfl
    obtain ⟨_, hfc⟩ := hrun2 w.drew rfl
    have hfo : (Builtin.firstCells i.size xs.length (.slice ad xs.length cap)).run E.P w.drew = .ok ch1.toArray w.drew := by
      rw [hesz]; exact run_firstCells_slice hlen1 (hc1.imp id fun ⟨A, hA, hcc⟩ => ⟨A, hA, fun j v hj => hcc j v hj⟩)
    have hrun := run_append_new (ty := o.type) hu hi hz hu2 hd2 hm (by rw [hesz]; exact hfc) hfo (by omega) (by omega) (by rw [heb]; exact hbound2.1)
    refine Yld.value (hexec (by rw [hvx]; exact hrun)) ?_
    have hge := grownCap_ge w (xs.length + ys.length) cap e
    have hrel3 : Rel X Z w.drew φ2 (tmOf E.nt a) F2 := hrel2.keep (fun _ _ _ => ⟨Iff.rfl, rfl⟩)
    have hk : Keeps w w.drew Z Z (ψ ++ φy) := fun _ _ _ => ⟨Iff.rfl, rfl⟩
    have hout := hrel3.newSl (d := o.dst) (xs := xs ++ ys) (φc := ψ ++ φy) (ch := ch1 ++ ch2)
      (arr := ch1.toArray ++ ch2.toArray ++ Builtin.zeroCells z.cells (grownCap w (xs.length + ys.length) cap e - (xs.length + ys.length))) (T := e) (sz := esz E.P e) (cap := grownCap w (xs.length + ys.length) cap e)
      (hk.repL (fun _ h => h) hlx) hwall hpos
      (by intro k v hk
          have hlt := (List.getElem?_eq_some_iff.1 hk).1
          rw [Array.getElem?_append_left (by simpa using hlt)]
          simpa using hk)
      (by simp only [Array.size_append, List.size_toArray, size_zeroCells, hlen1, hlen2, hzsz]
          rw [← Nat.add_mul, ← Nat.add_mul]; exact Nat.mul_le_mul_right _ (by omega))
      (by simpa using hge) hndall
      (by intro c hc; rcases List.mem_append.1 hc with hc | hc
          · exact hmψ c hc
          · exact hmy c hc)
      (by intro u c hc; rcases List.mem_append.1 hc with hc | hc
          · exact hψ2 u c hc
          · exact hapy u c hc) (h.new _ (Nat.le_refl _))
    obtain ⟨Z', φ', h1, h2, h3⟩ := hout
    exact ⟨Z', φ', by simpa using h1, (Stp.drew w).trans h2, fun b hb hm => h3 b hb hm⟩
end Go.V
/- Tuples' parts, maps, function values, bytes as a string. -/
namespace Go.V
set_option linter.unusedVariables false
set_option linter.unusedSimpArgs false
variable {X : Cx} {Z : Nat → Prop} {w : World} {φ : Tmp → List Nat} {tm : Tmp → Value} {F : RF}

/-! ### extract -/
def PV.gone : PV → PV
  | .agg cs => .agg (cs.map fun _ => .dead)
  | _ => .dead
theorem RepL_deads {w Z} : ∀ {cs : List PV} {φ vs}, RepL w Z cs φ vs → (∀ c ∈ cs, c.cell1 = true) → RepL w Z (cs.map fun _ => PV.dead) [] vs
  | [], φ, vs, h, _ => by rw [RepL_nil] at h; exact RepL_nil.2 ⟨rfl, h.2⟩
  | c :: cs, φ, vs, h, hc => by
    obtain ⟨ψ₁, ψ₂, u₁, u₂, rfl, rfl, k1, k2⟩ := RepL_cons.1 h
    have hl1 : u₁.length = 1 := by rw [k1.length, PV.cell1_width (hc c (by simp))]
    obtain ⟨u, rfl⟩ := List.length_eq_one_iff.1 hl1
    exact RepL_cons.2 ⟨[], [], [u], u₂, rfl, rfl, by simp [Rep, Rep_oneCell k1 (hc c (by simp))], RepL_deads k2 (fun c hm => hc c (by simp [hm]))⟩
theorem RepV1_gone {y : PV} {φ : List Nat} {v : Value} (h : RepV1 w Z y φ v) : RepV1 w Z y.gone [] v := by
  cases y with
  | agg cs =>
    simp only [RepV1, PV.gone] at h ⊢
    obtain ⟨vs, rfl, h⟩ := h
    simp only [Rep] at h ⊢
    exact ⟨vs, rfl, RepL_deads h.1 h.2, by simp [PV.cell1]⟩
  | tup xs => simp only [RepV1, Rep] at h
  | _ => simp only [PV.gone, RepV1, Rep]; exact ⟨trivial, v, rfl, Rep_oneCell (show Rep w Z _ φ [v] from h) rfl⟩
theorem RepTs_split : ∀ {xs : List PV} {φ : List Nat} {vs : List Value} {i : Nat} {y : PV}, RepTs w Z xs φ vs → xs[i]? = some y →
    ∃ φ₁ φy φ₂ v, φ = φ₁ ++ φy ++ φ₂ ∧ vs[i]? = some v ∧ RepV1 w Z y φy v ∧ RepTs w Z (xs.set i y.gone) (φ₁ ++ φ₂) vs
  | [], _, _, _, _, _, h => by simp at h
  | x :: xs, φ, vs, 0, y, h, hi => by
    rw [RepTs_cons] at h
    obtain ⟨φ₁, φ₂, v, vs', rfl, rfl, h1, h2⟩ := h
    obtain rfl : x = y := by simpa using hi
    exact ⟨[], φ₁, φ₂, v, by simp, by simp, h1, RepTs_cons.2 ⟨[], φ₂, v, vs', by simp, rfl, RepV1_gone h1, h2⟩⟩
  | x :: xs, φ, vs, i + 1, y, h, hi => by
    rw [RepTs_cons] at h
    obtain ⟨φ₁, φ₂, v, vs', rfl, rfl, h1, h2⟩ := h
    obtain ⟨ψ₁, φy, ψ₂, u, rfl, hu, hy, hr⟩ := RepTs_split h2 (by simpa using hi)
    exact ⟨φ₁ ++ ψ₁, φy, ψ₂, u, by simp, by simpa using hu, hy, RepTs_cons.2 ⟨φ₁, ψ₁ ++ ψ₂, v, vs', by simp, rfl, h1, hr⟩⟩

def semExtract (E : Env) (o : Oper) (x : Operand) (i : Nat) (F : RF) : Option RF :=
  match E.at x with
  | some t => match F.slot t with
    | .val (.tup xs) => (xs[i]?).bind fun y =>
        if y.noOwn = true then some (setD F o.dst (.val y)) else some (setD (F.set t (.val (.tup (xs.set i y.gone)))) o.dst (.val y))
    | _ => semPure E o F
  | none => semPure E o F
theorem semExtract_ok {E : Env} {o : Oper} {x : Operand} {i : Nat} {a : Act} {F' : RF} (h : Pre E X Z w φ a F) (ho : o.op = .extract x i) (hs : semExtract E o x i F = some F') :
    Yld E.P o a w (Out X Z w (tmOf E.nt a) o.dst F') := by
  unfold semExtract at hs
  split at hs
  case h_2 => exact semPure_ok h hs
  rename_i t hat
  split at hs
  case h_2 => exact semPure_ok h hs
  rename_i xs hsl
  simp only [Option.bind_eq_some_iff] at hs
  obtain ⟨y, hy, hs⟩ := hs
  have hr := h.rel.vals t _ hsl
  rw [RepV_tup] at hr
  obtain ⟨vs, hv, hr⟩ := hr
  obtain ⟨φ₁, φy, φ₂, v, he, hvi, hry, hrest⟩ := RepTs_split hr hy
  have hyV : RepV w Z y φy v := by
    rcases PV.tup_or y with ⟨zs, rfl⟩ | ⟨e, _⟩
    · simp only [RepV1, Rep] at hry
    · rw [e]; exact hry
  have hrun : (execOp a.eval o).run E.P w = .ok (.value v) w := by
    unfold execOp; rw [ho]; simp [Instr.extract, at_eval hat, hv, hvi]
  refine Yld.value hrun ?_
  split at hs
  · rename_i hno
    obtain rfl := Option.some.inj hs
    obtain rfl := RepV_noOwn hno hyV
    obtain ⟨φ', hr2⟩ := h.rel.outVal (d := o.dst) hyV List.nodup_nil (by simp) (by simp)
    exact ⟨Z, φ', hr2, Stp.refl _ _, fun _ _ _ => Iff.rfl⟩
  · obtain rfl := Option.some.inj hs
    have hnd := h.rel.nodup t
    rw [he] at hnd
    have hnd1 := List.nodup_append.1 hnd
    have hnd2 := List.nodup_append.1 hnd1.1
    have hrel := h.rel.setVal (t := t) (x := .tup (xs.set i y.gone)) (v := tmOf E.nt a t) (φx := φ₁ ++ φ₂) (RepV_tup.2 ⟨vs, hv, hrest⟩)
      (List.nodup_append.2 ⟨hnd2.1, hnd1.2.1, fun b hb c hc => hnd1.2.2 b (by simp [hb]) c hc⟩)
      (fun b hb => h.rel.mine t b (by rw [he]; simp only [List.mem_append] at hb ⊢; rcases hb with hb | hb <;> simp [hb]))
      (fun u hu b hb hb2 => hu (h.rel.disj u t b hb2 (by rw [he]; simp only [List.mem_append] at hb ⊢; rcases hb with hb | hb <;> simp [hb])))
    rw [upd_eta] at hrel
    obtain ⟨φ', hr2⟩ := hrel.outVal (d := o.dst) hyV hnd2.2.1 (fun b hb => h.rel.mine t b (by rw [he]; simp [hb]))
      (fun u b hb => by
        by_cases e : u = t
        · subst e; rw [upd_self]; intro hb2
          rcases List.mem_append.1 hb2 with hb2 | hb2
          · exact hnd2.2.2 b hb2 b hb rfl
          · exact hnd1.2.2 b (by simp [hb]) b hb2 rfl
        · rw [upd_ne _ _ e]; exact fun hb2 => e (h.rel.disj u t b hb2 (by rw [he]; simp [hb])))
    exact ⟨Z, φ', hr2, Stp.refl _ _, fun _ _ _ => Iff.rfl⟩

/-! ### Maps -/
def semMakeMap (E : Env) (o : Oper) (r : Option Operand) (F : RF) : Option RF :=
  match r with
  | none => some (setD F o.dst (.val (.map true [])))
  | _ => none
theorem semMakeMap_ok {E : Env} {o : Oper} {T : TypeId} {r : Option Operand} {a : Act} {F' : RF} (h : Pre E X Z w φ a F) (ho : o.op = .makeMap T r) (hs : semMakeMap E o r F = some F') :
    Yld E.P o a w (Out X Z w (tmOf E.nt a) o.dst F') := by
  unfold semMakeMap at hs
  split at hs
  case h_2 => cases hs
  obtain rfl := Option.some.inj hs
  have hrun : (execOp a.eval o).run E.P w = .ok (.value (.map (some w.heap.size))) (w.alloc (.map #[] 0)) := by
    unfold execOp; rw [ho]; simp [Instr.makeMap]
  refine Yld.value hrun (h.rel.newVal (φx := []) ((RepV_cell rfl).2 ?_) List.nodup_nil (by simp) (by simp) (by simp) (h.new _ (Nat.le_refl _)))
  simp only [Rep]
  exact ⟨_, #[], 0, rfl, heap_new _ _, rfl, by simp, fun h => (by cases h), fun _ => ⟨.inr rfl, rfl⟩⟩

def ents (es : List (Value × Value)) : List MapEntry := es.map fun e => ⟨e.1, e.2, 0⟩
theorem findNow_congr {kind : TypeDesc} {k : Value} : ∀ {l l' : List MapEntry} {i : Nat}, l.map (fun e => (e.key, e.val)) = l'.map (fun e => (e.key, e.val)) → Instr.findNow kind k l i = Instr.findNow kind k l' i
  | [], [], _, _ => rfl
  | [], _ :: _, _, h => by simp at h
  | _ :: _, [], _, h => by simp at h
  | e :: l, e' :: l', i, h => by
    simp only [List.map_cons, List.cons.injEq, Prod.mk.injEq] at h
    obtain ⟨⟨h1, h2⟩, h3⟩ := h
    simp only [Instr.findNow, h1, h2, findNow_congr h3]
theorem findAsking_congr {T : TypeId} {k : Value} : ∀ {l l' : List MapEntry} {i : Nat}, l.map (fun e => (e.key, e.val)) = l'.map (fun e => (e.key, e.val)) → Instr.findAsking T k l i = Instr.findAsking T k l' i
  | [], [], _, _ => rfl
  | [], _ :: _, _, h => by simp at h
  | _ :: _, [], _, h => by simp at h
  | e :: l, e' :: l', i, h => by
    simp only [List.map_cons, List.cons.injEq, Prod.mk.injEq] at h
    obtain ⟨⟨h1, h2⟩, h3⟩ := h
    simp only [Instr.findAsking, h1, h2, findAsking_congr h3]
theorem findKey_congr {T : TypeId} {k : Value} {l l' : List MapEntry} (h : l.map (fun e => (e.key, e.val)) = l'.map (fun e => (e.key, e.val))) : Instr.findKey T k l = Instr.findKey T k l' := by
  simp only [Instr.findKey, findNow_congr h, findAsking_congr h]
theorem ents_map {es : List (Value × Value)} : (ents es).map (fun e => (e.key, e.val)) = es := by simp [ents, Function.comp_def]

/-- what stands in a map under a key -/
def mapFind (P : Program) (K : TypeId) (k : Value) (es : List (Value × Value)) : Option (Option (Nat × Value)) :=
  if pureRun P (Instr.checkKey es.isEmpty 10000 K k) = some () then pureRun P (Instr.findKey K k (ents es)) else none
/-- a map's entries: root, way (none: it is no slot's own) -/
def Env.entries (E : Env) (F : RF) (T : TypeId) (x : Operand) : Option (List (Value × Value)) :=
  match E.rd F T x with
  | some (.map _ es) => some es
  | some (.prim (.map none)) => some []
  | _ => none
def semLookup (E : Env) (o : Oper) (T : TypeId) (x k : Operand) (ok : Bool) (F : RF) : Option RF :=
  match E.P.underlying T with
  | some (.map K V) =>
    (E.entries F T x).bind fun es => (E.vl F k).bind fun kv =>
      match mapFind E.P K kv es with
      | some (some (_, v)) => (ofVal (if ok then .tuple #[v, .bool true] else v)).map fun y => setD F o.dst (.val y)
      | some none => (pureRun E.P (zeroValue V)).bind fun z => (ofVal (if ok then .tuple #[z, .bool false] else z)).map fun y => setD F o.dst (.val y)
      | none => none
  | _ => none
theorem semLookup_ok {E : Env} {o : Oper} {T : TypeId} {x k : Operand} {ok : Bool} {a : Act} {F' : RF} (h : Pre E X Z w φ a F) (ho : o.op = .lookup T x k ok) (hs : semLookup E o T x k ok F = some F') :
    Yld E.P o a w (Out X Z w (tmOf E.nt a) o.dst F') := by
  unfold semLookup at hs
  split at hs
  case h_2 => cases hs
  rename_i K V hu
  simp only [Option.bind_eq_some_iff] at hs
  obtain ⟨es, hes, kv, hkv, hs⟩ := hs
  have hk := vl_eq h hkv
  have fin : ∀ {v y}, (execOp a.eval o).run E.P w = .ok (.value v) w → ofVal v = some y → Yld E.P o a w (Out X Z w (tmOf E.nt a) o.dst (setD F o.dst (.val y))) := by
    intro v y hrun hy
    refine Yld.value hrun ?_
    obtain ⟨φ', hr⟩ := h.rel.outVal (d := o.dst) (ofVal_rep hy) List.nodup_nil (by simp) (by simp)
    exact ⟨Z, φ', hr, Stp.refl _ _, fun _ _ _ => Iff.rfl⟩
  -- the map's entries as the model has them
  have hmap : ∃ l : Array MapEntry, l.toList.map (fun e => (e.key, e.val)) = es ∧ ((a.eval x = .map none ∧ l = #[]) ∨ ∃ b c, a.eval x = .map (some b) ∧ w.heap[b]? = some (.map l c)) := by
    unfold Env.entries at hes
    split at hes
    · rename_i f es' hrd
      obtain rfl := Option.some.inj hes
      obtain ⟨φy, hr, _⟩ := rd_rep h hrd
      rw [RepV_cell rfl] at hr
      simp only [Rep] at hr
      obtain ⟨b, l, c, hv, hb, he, _⟩ := hr
      exact ⟨l, he, .inr ⟨b, c, by simpa using hv, hb⟩⟩
    · rename_i hrd
      obtain rfl := Option.some.inj hes
      obtain ⟨φy, hr, _⟩ := rd_rep h hrd
      rw [RepV_cell rfl] at hr
      simp only [Rep] at hr
      exact ⟨#[], rfl, .inl ⟨by simpa using hr.2.1, rfl⟩⟩
    · cases hes
  obtain ⟨l, hl, hm⟩ := hmap
  have hemp : l.isEmpty = es.isEmpty := by rw [← hl]; cases l with | mk l => cases l <;> rfl
  have hfind : ∀ r, mapFind E.P K kv es = some r → (Instr.checkKey l.isEmpty 10000 K kv).run E.P w = .ok () w ∧ (Instr.findKey K kv l.toList).run E.P w = .ok r w := by
    intro r hr
    unfold mapFind at hr
    split at hr
    case isFalse => cases hr
    case isTrue hc =>
    refine ⟨by rw [hemp]; exact pureRun_run hc w, ?_⟩
    rw [findKey_congr (l' := ents es) (by rw [hl, ents_map])]
    exact pureRun_run hr w
  split at hs
  · rename_i i v hf
    simp only [Option.map_eq_some_iff] at hs
    obtain ⟨y, hy, rfl⟩ := hs
    obtain ⟨h1, h2⟩ := hfind _ hf
    refine fin (v := if ok then .tuple #[v, .bool true] else v) ?_ hy
    unfold execOp; rw [ho]
    rcases hm with ⟨e, rfl⟩ | ⟨b, c, e, hb⟩
    · simp at h1 h2
      simp [Instr.lookup, run_underlying hu, hk, e, h1, h2]
    · simp [Instr.lookup, run_underlying hu, hk, e, run_getObj hb, h1, h2]
  · rename_i hf
    simp only [Option.bind_eq_some_iff, Option.map_eq_some_iff] at hs
    obtain ⟨z, hz, y, hy, rfl⟩ := hs
    obtain ⟨h1, h2⟩ := hfind _ hf
    have hz' := pureRun_run hz w
    refine fin (v := if ok then .tuple #[z, .bool false] else z) ?_ hy
    unfold execOp; rw [ho]
    rcases hm with ⟨e, rfl⟩ | ⟨b, c, e, hb⟩
    · simp at h1 h2
      simp [Instr.lookup, run_underlying hu, hk, e, h1, h2, hz']
    · simp [Instr.lookup, run_underlying hu, hk, e, run_getObj hb, h1, h2, hz']
  · cases hs

/-- where a map lies that is owned: root, way, entries -/
def Env.mloc (E : Env) (F : RF) (x : Operand) : Option (Tmp × Path × List (Value × Value)) :=
  (E.at x).bind fun t =>
    match F.slot t with
    | .val (.map true es) => some (t, [], es)
    | .pl r p .self n => if F.ok r .self n = true then match F.slot r with
        | .val g => match g.get? p with
          | some (.map true es) => some (r, p, es)
          | _ => none
        | _ => none
      else none
    | _ => none
def RF.putMap (F : RF) (r : Tmp) (p : Path) (es : List (Value × Value)) : Option RF :=
  match splitLast p with
  | none => some (F.re r (.map true es))
  | some (q, i, j) => match F.slot r with
    | .val g => (g.putC q i j (.map true es)).map fun g' => F.re r g'
    | _ => none
def semMapSet (E : Env) (o : Oper) (T : TypeId) (x k v : Operand) (F : RF) : Option RF :=
  match E.P.underlying T, o.dst with
  | some (.map K _), none =>
    (E.mloc F x).bind fun (r, p, es) => (E.vl F k).bind fun kv => (E.vl F v).bind fun vv =>
      if flatV kv = true ∧ flatV vv = true ∧ pureRun E.P (Instr.checkKey false 10000 K kv) = some () then
        match pureRun E.P (Instr.findKey K kv (ents es)) with
        | some (some (i, _)) => (es[i]?).bind fun e => (pureRun E.P (Instr.keyThatStays e.1 kv)).bind fun k' =>
            if flatV k' = true then F.putMap r p (es.modify i fun _ => (k', vv)) else none
        | some none => F.putMap r p (es ++ [(kv, vv)])
        | none => none
      else none
  | _, _ => none

theorem run_setObj {P : Program} {w : World} {b : Nat} {es : Array MapEntry} {c : Nat} (o : Obj) (h : w.heap[b]? = some (.map es c)) : (setObj b o).run P w = .ok () { w with heap := w.heap.setIfInBounds b o } := by
  simp [setObj, Sem.run, h]

theorem Rel.putMap (h : Rel X Z w φ tm F) {r : Tmp} {p : Path} {es es' : List (Value × Value)} {F' : RF} {x : PV} {l l' : Array MapEntry} {b c c' : Nat} (hx : F.slot r = .val x) (hg : x.get? p = some (.map true es))
    (hf : follow w x (tm r) p = some (.map true es, .map (some b))) (hb : w.heap[b]? = some (.map l c)) (he' : l'.toList.map (fun e => (e.key, e.val)) = es') (hfl : ∀ e ∈ es', flatV e.1 = true ∧ flatV e.2 = true)
    (hp : F.putMap r p es' = some F') : ∃ φ', Rel X Z { w with heap := w.heap.setIfInBounds b (.map l' c') } φ' tm F' ∧ Stp X.mine w { w with heap := w.heap.setIfInBounds b (.map l' c') } := by
  have hrx := h.vals r x hx
  obtain ⟨u, φ₁, φm, φ₂, hf', he, hrm⟩ := RepV_follow hrx hg
  rw [hf] at hf'
  obtain rfl : Value.map (some b) = u := by simpa using hf'
  rw [RepV_cell rfl] at hrm
  simp only [Rep] at hrm
  obtain ⟨b', l0, c0, hv, hb', _, _, _, ht⟩ := hrm
  obtain rfl : b = b' := by simpa using hv
  obtain ⟨hzb, rfl⟩ := ht trivial
  have hbr : b ∈ φ r := by rw [he]; simp
  have hlt : b < w.heap.size := (Array.getElem?_eq_some_iff.1 hb).1
  generalize hw' : ({ w with heap := w.heap.setIfInBounds b (.map l' c') } : World) = w'
  have hother : ∀ k, k ≠ b → w'.heap[k]? = w.heap[k]? := by intro k hk; subst hw'; simp [Array.getElem?_setIfInBounds, Ne.symm hk]
  have hnew : w'.heap[b]? = some (.map l' c') := by subst hw'; simp [hlt]
  have hstp : Stp X.mine w w' := by
    refine ⟨by subst hw'; rfl, by subst hw'; rfl, by subst hw'; rfl, by subst hw'; simp, fun k hk hm => hother k ?_⟩
    rintro rfl; exact hm (h.mine r _ hbr)
  have hrepm : Rep w' Z (.map true es') [b] [.map (some b)] := by
    simp only [Rep]; exact ⟨b, l', c', rfl, hnew, he', hfl, fun h => (by cases h), fun _ => ⟨hzb, rfl⟩⟩
  -- the others
  have h1 := h.setDead r (tm r)
  rw [upd_eta] at h1
  have h2 := h1.keep (w' := w') (Z' := Z) (fun k hk hm => ⟨Iff.rfl, hother k (by
    rintro rfl
    rcases hm with ⟨t, ht⟩ | hm
    · by_cases e : t = r
      · simp [upd, e] at ht
      · rw [upd_ne _ _ e] at ht; exact e (h.disj t r _ ht hbr)
    · exact hm hzb)⟩)
  have fin : ∀ {x' φx}, RepV w' Z x' φx (tm r) → φx.Nodup → (∀ b ∈ φx, b ∈ φ r) → ∃ φ', Rel X Z w' φ' tm (F.re r x') := by
    intro x' φx hr hnd hsub
    have := h2.setVal (t := r) hr hnd (fun b hb => h.mine r b (hsub b hb)) (fun t ht b hb => by rw [upd_ne _ _ ht]; exact fun hb2 => ht (h.disj t r b hb2 (hsub b hb)))
    rw [upd_eta] at this
    exact ⟨_, this⟩
  unfold RF.putMap at hp
  split at hp
  · rename_i hsp
    obtain rfl := Option.some.inj hp
    obtain rfl := splitLast_none hsp
    simp only [follow, Option.some.injEq, Prod.mk.injEq] at hf
    obtain ⟨_, hvr⟩ := hf
    obtain ⟨φ', hr⟩ := fin (x' := .map true es') (φx := [b]) ((RepV_cell rfl).2 (by rw [hvr]; exact hrepm)) (by simp) (by simpa using hbr)
    exact ⟨φ', hr, hstp⟩
  · rename_i q i j hsp
    obtain rfl := splitLast_some hsp
    rw [hx] at hp
    simp only [Option.map_eq_some_iff] at hp
    obtain ⟨x', hput, rfl⟩ := hp
    have hc1 := putC_cell1 hput
    rw [RepV_cell hc1.1] at hrx
    obtain ⟨g, gv, A, y, u, ψ₁, ψy, ψ₂, hf1, hy, hyc, hA, hu, hsp', hmem, hfz, he2, hry, hrep⟩ := putC_rep q x _ (tm r) x' (h.nodup r) hrx hput
    have hend : y = .map true es ∧ u = .map (some b) := by
      rw [follow_append, hf1] at hf
      simp only [Option.bind_some, follow, hy, hA, hu, Option.some.injEq, Prod.mk.injEq] at hf
      exact hf
    obtain ⟨rfl, rfl⟩ := hend
    simp only [Rep] at hry
    obtain ⟨b2, _, _, hv2, _, _, _, _, ht2⟩ := hry
    obtain rfl : b = b2 := by simpa using hv2
    obtain ⟨_, rfl⟩ := ht2 trivial
    have hnd := h.nodup r
    rw [he2] at hnd
    have hbn : b ∉ ψ₁ ++ ψ₂ := by
      have hnd1 := List.nodup_append.1 hnd
      have hnd2 := List.nodup_append.1 hnd1.1
      intro hb2
      rcases List.mem_append.1 hb2 with hb2 | hb2
      · exact hnd2.2.2 b hb2 b (by simp) rfl
      · exact hnd1.2.2 b (by simp) b hb2 rfl
    obtain ⟨hr', _⟩ := hrep w' Z [b] (.map (some b)) rfl (by
      intro k hk hm
      refine ⟨Iff.rfl, fun _ => hother k ?_⟩
      rintro rfl
      rcases hm with hm | hm
      · exact hbn hm
      · exact hm hzb) (Chg.same (hother A.block (by rintro e; exact hbn (e ▸ hmem))) hu hsp') hrepm
    obtain ⟨φ', hr⟩ := fin ((RepV_cell hc1.2).2 hr') hnd (by rw [he2]; exact fun _ h => h)
    exact ⟨φ', hr, hstp⟩

theorem semMapSet_ok {E : Env} {o : Oper} {T : TypeId} {x k v : Operand} {a : Act} {F' : RF} (h : Pre E X Z w φ a F) (ho : o.op = .mapUpdate T x k v ∨ o.op = .insert T x k v) (hs : semMapSet E o T x k v F = some F') :
    Yld E.P o a w (Out X Z w (tmOf E.nt a) o.dst F') := by
  unfold semMapSet at hs
  split at hs
  case h_2 => cases hs
  rename_i K V hu hdn
  simp only [Option.bind_eq_some_iff] at hs
  obtain ⟨⟨r, p, es⟩, hloc, kv, hkv, vv, hvv, hs⟩ := hs
  simp only at hs
  split at hs
  case isFalse => cases hs
  case isTrue hc =>
  obtain ⟨hfk, hfv, hck⟩ := hc
  have hk := vl_eq h hkv
  have hv := vl_eq h hvv
  -- where it lies
  have hmap : ∃ g b l c, F.slot r = .val g ∧ g.get? p = some (.map true es) ∧ follow w g (tmOf E.nt a r) p = some (.map true es, .map (some b)) ∧ a.eval x = .map (some b) ∧ w.heap[b]? = some (.map l c) ∧
      l.toList.map (fun e => (e.key, e.val)) = es ∧ (∀ e ∈ es, flatV e.1 = true ∧ flatV e.2 = true) := by
    simp only [Env.mloc, Option.bind_eq_some_iff] at hloc
    obtain ⟨t, hat, hloc⟩ := hloc
    rw [at_eval hat]
    split at hloc
    · rename_i es' hsl
      simp only [Option.some.injEq, Prod.mk.injEq] at hloc
      obtain ⟨rfl, rfl, rfl⟩ := hloc
      have hr := h.rel.vals t _ hsl
      rw [RepV_cell rfl] at hr
      simp only [Rep] at hr
      obtain ⟨b, l, c, hv, hb, he, hfl, _⟩ := hr
      have hv' : tmOf E.nt a t = .map (some b) := by simpa using hv
      exact ⟨_, b, l, c, hsl, rfl, by simp [follow, hv'], hv', hb, he, hfl⟩
    · rename_i r' p' n hsl
      split at hloc
      case isFalse => cases hloc
      case isTrue hok =>
      obtain ⟨g, y, u, φy, hg, hf, hview, hget, hr, hsub⟩ := h.rel.plRep hsl hok
      simp only [hg, hget] at hloc
      split at hloc
      case h_2 => cases hloc
      rename_i es' he
      obtain rfl := Option.some.inj he
      simp only [Option.some.injEq, Prod.mk.injEq] at hloc
      obtain ⟨rfl, rfl, rfl⟩ := hloc
      rw [RepV_cell rfl] at hr
      simp only [Rep] at hr
      obtain ⟨b, l, c, hv, hb, he, hfl, _⟩ := hr
      have hv' : u = .map (some b) := by simpa using hv
      subst hv'
      simp only [viewOk] at hview
      exact ⟨g, b, l, c, hg, hget, hf, hview.1, hb, he, hfl⟩
    · cases hloc
  obtain ⟨g, b, l, c, hg, hget, hf, hx, hb, hl, hfl⟩ := hmap
  have hckr := pureRun_run hck w
  have hexec : ∀ w', (Instr.mapUpdate T (.map (some b)) kv vv).run E.P w = .ok () w' → (execOp a.eval o).run E.P w = .ok .skip w' := by
    intro w' hr
    unfold execOp
    rcases ho with ho | ho <;> (rw [ho]; simp [hx, hk, hv, hr])
  split at hs
  · rename_i i vold hfind
    simp only [Option.bind_eq_some_iff] at hs
    obtain ⟨e, he, k', hk', hs⟩ := hs
    split at hs
    case isFalse => cases hs
    case isTrue hfk' =>
    have hfr : (Instr.findKey K kv l.toList).run E.P w = .ok (some (i, vold)) w := by
      rw [findKey_congr (l' := ents es) (by rw [hl, ents_map])]; exact pureRun_run hfind w
    have hli : ∃ e0, l[i]? = some e0 ∧ e0.key = e.1 := by
      rw [← hl] at he
      simp only [List.getElem?_map, Option.map_eq_some_iff] at he
      obtain ⟨e0, h0, rfl⟩ := he
      exact ⟨e0, by simpa using h0, rfl⟩
    obtain ⟨e0, he0, hek⟩ := hli
    obtain ⟨φ', hr, hstp⟩ := h.rel.putMap (l' := l.modify i fun e => { e with key := k', val := vv }) (c' := c) hg hget hf hb (es' := es.modify i fun _ => (k', vv)) (by
      rw [Array.toList_modify, ← hl]
      apply List.ext_getElem?
      intro j
      simp only [List.getElem?_map, List.getElem?_modify]
      by_cases hij : i = j
      · subst hij; cases l.toList[i]? <;> simp
      · cases l.toList[j]? <;> simp [hij]) (by
      intro e1 he1
      obtain ⟨j, hj⟩ := List.mem_iff_getElem?.1 he1
      simp only [List.getElem?_modify] at hj
      by_cases hij : i = j
      · subst hij
        rw [he] at hj
        simp at hj; subst hj; exact ⟨hfk', hfv⟩
      · cases hjj : es[j]? with
        | none => rw [hjj] at hj; simp at hj
        | some e2 => rw [hjj] at hj; simp [hij] at hj; subst hj; exact hfl e2 (List.mem_of_getElem? hjj)) hs
    have hrun : (Instr.mapUpdate T (.map (some b)) kv vv).run E.P w = .ok () { w with heap := w.heap.setIfInBounds b (.map (l.modify i fun e => { e with key := k', val := vv }) c) } := by
      have hks := pureRun_run hk' w
      rw [← hek] at hks
      simp [Instr.mapUpdate, run_underlying hu, run_getObj hb, hckr, hfr, he0, hks, run_setObj _ hb]
    refine Yld.skip (hexec _ hrun) ?_
    rw [hdn]; exact ⟨Z, φ', hr, hstp, fun _ _ _ => Iff.rfl⟩
  · rename_i hfind
    have hfr : (Instr.findKey K kv l.toList).run E.P w = .ok none w := by
      rw [findKey_congr (l' := ents es) (by rw [hl, ents_map])]; exact pureRun_run hfind w
    obtain ⟨φ', hr, hstp⟩ := h.rel.putMap (l' := l.push { key := kv, val := vv, born := c }) (c' := c + 1) hg hget hf hb (es' := es ++ [(kv, vv)]) (by simp [← hl]) (by
      intro e1 he1
      rcases List.mem_append.1 he1 with he1 | he1
      · exact hfl e1 he1
      · obtain rfl := List.mem_singleton.1 he1; exact ⟨hfk, hfv⟩) hs
    have hrun : (Instr.mapUpdate T (.map (some b)) kv vv).run E.P w = .ok () { w with heap := w.heap.setIfInBounds b (.map (l.push { key := kv, val := vv, born := c }) (c + 1)) } := by
      simp [Instr.mapUpdate, run_underlying hu, run_getObj hb, hckr, hfr, run_setObj _ hb]
    refine Yld.skip (hexec _ hrun) ?_
    rw [hdn]; exact ⟨Z, φ', hr, hstp, fun _ _ _ => Iff.rfl⟩
  · cases hs
end Go.V
/- Function values, bytes as a string, calls; all operations together. -/
namespace Go.V
set_option linter.unusedVariables false
set_option linter.unusedSimpArgs false
variable {X : Cx} {Z : Nat → Prop} {w : World} {φ : Tmp → List Nat} {tm : Tmp → Value} {F : RF}

/-! ### Function values -/
/-- What a slot owns is nobody's any more. -/
theorem Rel.freeze (h : Rel X Z w φ tm F) {t : Tmp} {x : PV} (hx : F.slot t = .val x) :
    Rel X (fun b => Z b ∧ b ∉ φ t) w (upd (upd φ t []) t []) tm ((F.set t .dead).set t (.val x.frz)) ∧ RepV w (fun b => Z b ∧ b ∉ φ t) x.frz [] (tm t) := by
  have hr := h.vals t x hx
  have hf : RepV w (fun b => Z b ∧ b ∉ φ t) x.frz [] (tm t) := RepV_frz (fun b _ hb => hb.1) (fun b hb hb2 => hb2.2 hb) hr
  have h1 := h.setDead t (tm t)
  rw [upd_eta] at h1
  have h2 := h1.keep (w' := w) (Z' := fun b => Z b ∧ b ∉ φ t) (fun b hb hm => ⟨⟨fun hz => ⟨hz, by
      rcases hm with ⟨u, hu⟩ | hm
      · by_cases e : u = t
        · simp [upd, e] at hu
        · rw [upd_ne _ _ e] at hu; exact fun hb2 => e (h.disj u t b hu hb2)
      · exact absurd hz hm⟩, fun hz => hz.1⟩, rfl⟩)
  have h3 := h2.setVal (t := t) (x := x.frz) (v := tm t) (φx := []) hf List.nodup_nil (by simp) (by simp)
  rw [upd_eta] at h3
  exact ⟨h3, hf⟩

/-- captured variables, each frozen -/
def Env.caps (E : Env) : RF → List Operand → Option (List PV × RF)
  | F, [] => some ([], F)
  | F, x :: xs => (E.at x).bind fun t =>
    match F.slot t with
    | .val y => if y.cell1 = true then
        if y.noOwn = true then (E.caps F xs).map fun r => (y :: r.1, r.2)
        else (E.caps ((F.set t .dead).set t (.val y.frz)) xs).map fun r => (y.frz :: r.1, r.2)
      else none
    | _ => none

theorem caps_ok {E : Env} {a : Act} : ∀ (xs : List Operand) (F : RF) (Z : Nat → Prop) (φ : Tmp → List Nat) (ys : List PV) (F' : RF), Pre E X Z w φ a F → E.caps F xs = some (ys, F') →
    ∃ Z' φ', Rel X Z' w φ' (tmOf E.nt a) F' ∧ RepL w Z' ys [] (xs.map a.eval) ∧ (∀ c ∈ ys, c.cell1 = true) ∧ (∀ b, Z' b → Z b) ∧ ZOk X.mine w Z Z'
  | [], F, Z, φ, ys, F', h, hc => by
    simp only [Env.caps, Option.some.injEq, Prod.mk.injEq] at hc
    obtain ⟨rfl, rfl⟩ := hc
    exact ⟨Z, φ, h.rel, RepL_nil.2 ⟨rfl, rfl⟩, by simp, fun _ h => h, fun _ _ _ => Iff.rfl⟩
  | x :: xs, F, Z, φ, ys, F', h, hc => by
    simp only [Env.caps, Option.bind_eq_some_iff] at hc
    obtain ⟨t, hat, hc⟩ := hc
    split at hc
    case h_2 => cases hc
    rename_i y hsl
    split at hc
    case isFalse => cases hc
    case isTrue hcell =>
    have tail : ∀ {Z1 : Nat → Prop} {φ1 : Tmp → List Nat} {F1 : RF} {z : PV} {r : List PV × RF}, Rel X Z1 w φ1 (tmOf E.nt a) F1 → RepV w Z1 z [] (tmOf E.nt a t) → z.cell1 = true → (∀ b, Z1 b → Z b) → ZOk X.mine w Z Z1 →
        E.caps F1 xs = some r → (z :: r.1, r.2) = (ys, F') → ∃ Z' φ', Rel X Z' w φ' (tmOf E.nt a) F' ∧ RepL w Z' ys [] ((x :: xs).map a.eval) ∧ (∀ c ∈ ys, c.cell1 = true) ∧ (∀ b, Z' b → Z b) ∧ ZOk X.mine w Z Z' := by
      intro Z1 φ1 F1 z r hrel hrz hzc hsub hzok hcaps he
      obtain ⟨Z', φ', k1, k2, k3, k4, k5⟩ := caps_ok xs F1 Z1 φ1 r.1 r.2 ⟨hrel, h.new, h.glob⟩ hcaps
      simp only [Prod.mk.injEq] at he
      obtain ⟨rfl, rfl⟩ := he
      refine ⟨Z', φ', k1, ?_, ?_, fun b hb => hsub b (k4 b hb), fun b hb hm => (hzok b hb hm).trans (k5 b hb hm)⟩
      · rw [List.map_cons, at_eval hat]
        refine RepL_cons.2 ⟨[], [], [_], _, rfl, rfl, ?_, k2⟩
        rw [RepV_cell hzc] at hrz
        have := (Rep_frz (w := w) (Z := Z1) (Z' := Z') (fun b _ hb => k4 b hb)).1 z [] _ (by simp) hrz
        -- what owns nothing is as it was when frozen
        exact (Rep_weaken (fun b _ hb => k4 b hb)).1 _ _ hrz
      · intro c hc2; rcases List.mem_cons.1 hc2 with rfl | hc2
        · exact hzc
        · exact k3 c hc2
    split at hc
    · rename_i hno
      simp only [Option.map_eq_some_iff] at hc
      obtain ⟨r, hr, he⟩ := hc
      have hry := h.rel.vals t y hsl
      rw [RepV_noOwn hno hry] at hry
      exact tail h.rel hry hcell (fun _ h => h) (fun _ _ _ => Iff.rfl) hr he
    · simp only [Option.map_eq_some_iff] at hc
      obtain ⟨r, hr, he⟩ := hc
      obtain ⟨hrel, hfr⟩ := h.rel.freeze hsl
      exact tail hrel hfr (by simpa using hcell) (fun b hb => hb.1) (fun b hb hm => ⟨fun hz => ⟨hz, fun hb2 => hm (h.rel.mine t b hb2)⟩, fun hz => hz.1⟩) hr he

def semFunc (E : Env) (o : Oper) (fn : Fn) (first captured : Array Operand) (F : RF) : Option RF :=
  match fn with
  | .func f => if first.size = 0 then (E.caps F captured.toList).map fun r => setD r.2 o.dst (.val (.fn f r.1)) else none
  | _ => none
theorem semFunc_ok {E : Env} {o : Oper} {fn : Fn} {first captured : Array Operand} {a : Act} {F' : RF} (h : Pre E X Z w φ a F) (ho : o.op = .makeFunc fn first captured) (hs : semFunc E o fn first captured F = some F') :
    Yld E.P o a w (Out X Z w (tmOf E.nt a) o.dst F') := by
  unfold semFunc at hs
  split at hs
  case h_2 => cases hs
  rename_i f
  split at hs
  case isFalse => cases hs
  case isTrue h0 =>
  simp only [Option.map_eq_some_iff] at hs
  obtain ⟨⟨ys, F1⟩, hc, rfl⟩ := hs
  obtain ⟨Z', φ', k1, k2, k3, k4, k5⟩ := caps_ok captured.toList F Z φ ys F1 h hc
  obtain rfl : first = #[] := Array.eq_empty_of_size_eq_zero h0
  refine Yld.value (w' := w) (v := .func (.func f) #[] (captured.map a.eval)) (by unfold execOp; rw [ho]; simp [Instr.makeFunc]) ?_
  obtain ⟨φ'', hr⟩ := k1.outVal (d := o.dst) (x := .fn f ys) (v := .func (.func f) #[] (captured.map a.eval)) (φx := []) ((RepV_cell rfl).2 (by
    simp only [Rep]; exact ⟨trivial, captured.toList.map a.eval, by rw [← Array.toList_map, Array.toArray_toList], k2, k3⟩)) List.nodup_nil (by simp) (by simp)
  exact ⟨Z', φ'', hr, Stp.refl _ _, k5⟩

/-! ### Bytes as a string -/
def bytesOf : List PV → Option (List Int)
  | [] => some []
  | .prim (.int .u8 n) :: xs => (bytesOf xs).map (n :: ·)
  | _ :: _ => none
def strOf (ns : List Int) : ByteArray := ⟨(ns.map fun n => UInt8.ofNat n.toNat).toArray⟩
theorem strOf_foldl : ∀ (ns : List Int) (s : ByteArray), ns.foldl (fun r n => r.push (UInt8.ofNat n.toNat)) s = ⟨s.data ++ (ns.map fun n => UInt8.ofNat n.toNat).toArray⟩
  | [], s => by simp
  | n :: ns, s => by
    rw [List.foldl_cons, strOf_foldl ns]
    congr 1
    apply Array.ext'
    simp [ByteArray.push]
theorem bytesOf_rep : ∀ {xs ns φ vs}, bytesOf xs = some ns → RepL w Z xs φ vs → vs = ns.map (Value.int .u8)
  | [], ns, φ, vs, h, hr => by simp only [bytesOf, Option.some.injEq] at h; rw [RepL_nil] at hr; rw [hr.2, ← h]; rfl
  | x :: xs, ns, φ, vs, h, hr => by
    obtain ⟨φ₁, φ₂, v₁, v₂, rfl, rfl, h1, h2⟩ := RepL_cons.1 hr
    unfold bytesOf at h
    split at h
    · cases ‹_ :: _ = []›
    · rename_i n ys he
      obtain ⟨rfl, rfl⟩ : x = .prim (.int .u8 n) ∧ xs = ys := by simpa using he
      simp only [Option.map_eq_some_iff] at h
      obtain ⟨ns', hn, rfl⟩ := h
      simp only [Rep] at h1
      rw [h1.2.1, bytesOf_rep hn h2]; rfl
    · cases h

def semConv (E : Env) (o : Oper) (S D : TypeId) (x : Operand) (F : RF) : Option RF :=
  match E.P.underlying S, E.P.underlying D with
  | some (.slice e), some .string =>
    match E.P.underlying e, E.rd F S x with
    | some (.int .u8), some (.sl _ _ xs) => if esz E.P e = 1 then (bytesOf xs).map fun ns => setD F o.dst (.val (.prim (.string (strOf ns)))) else none
    | _, _ => none
  | _, _ => semPure E o F
theorem semConv_ok {E : Env} {o : Oper} {S D : TypeId} {x : Operand} {a : Act} {F' : RF} (h : Pre E X Z w φ a F) (ho : o.op = .convert S D x) (hs : semConv E o S D x F = some F') :
    Yld E.P o a w (Out X Z w (tmOf E.nt a) o.dst F') := by
  unfold semConv at hs
  split at hs
  case h_2 => exact semPure_ok h hs
  rename_i e hS hD
  split at hs
  case h_2 => cases hs
  rename_i f sz xs he hrd
  split at hs
  case isFalse => cases hs
  simp only [Option.map_eq_some_iff] at hs
  obtain ⟨ns, hns, rfl⟩ := hs
  obtain ⟨φy, hr, _⟩ := rd_rep h hrd
  rw [RepV_cell rfl] at hr
  obtain ⟨ad, cap, hv⟩ : ∃ ad cap, a.eval x = .slice ad xs.length cap := by
    simp only [Rep] at hr; obtain ⟨ad, cap, _, _, hv, _⟩ := hr; exact ⟨ad, cap, by simpa using hv⟩
  rw [hv] at hr
  obtain ⟨_, _, hpos, hw, ch, ψ, hl, _, hlen, hc, _⟩ := sl_cells hr
  have hch := bytesOf_rep hns hl
  have hnl : ns.length = xs.length := by
    have : ∀ {xs ns}, bytesOf xs = some ns → ns.length = xs.length := by
      intro xs
      induction xs with
      | nil => intro ns h; simp only [bytesOf, Option.some.injEq] at h; subst h; rfl
      | cons x xs ih =>
        intro ns h
        unfold bytesOf at h
        split at h
        · cases ‹_ :: _ = []›
        · rename_i n ys he
          obtain ⟨rfl, rfl⟩ : x = .prim (.int .u8 n) ∧ xs = ys := by simpa using he
          simp only [Option.map_eq_some_iff] at h
          obtain ⟨ns', hn, rfl⟩ := h
          simp [ih hn]
        · cases h
    exact this hns
  have hrun : (Conv.bytesToString (.slice ad xs.length cap)).run E.P w = .ok (.string (strOf ns)) w := by
    cases ad with
    | none =>
      have : ns = [] := by
        rcases hc with hc | ⟨A, hA, _⟩
        · apply List.eq_nil_of_length_eq_zero
          rcases Nat.mul_eq_zero.1 hc with hc | hc <;> omega
        · cases hA
      subst this
      simp [Conv.bytesToString, strOf]; rfl
    | some A =>
      have hlc : (loadCells A xs.length).run E.P w = .ok (ns.map (Value.int .u8)).toArray w := by
        have h2 : (ns.map (Value.int .u8)).length = xs.length := by simpa using hnl
        rw [← h2]
        refine run_loadCells_list (P := E.P) w A _ (fun j v hj => ?_)
        rw [← hch] at hj
        rcases hc with hc | ⟨A', hA, hcc⟩
        · have : ch = [] := List.eq_nil_of_length_eq_zero (by omega)
          rw [this] at hj; simp at hj
        · obtain rfl := Option.some.inj hA; exact hcc j v hj
      rw [run_bytesToString w A xs.length cap ns hlc, strOf_foldl]
      simp [strOf]
  refine Yld.value (w' := w) (v := .string (strOf ns)) ?_ ?_
  · unfold execOp; rw [ho]; simp [run_convert_bytes_string w S D e ad xs.length cap hS he hD, hv, hrun]
  · obtain ⟨φ', hr2⟩ := h.rel.outVal (d := o.dst) (x := .prim (.string (strOf ns))) (v := .string (strOf ns)) (φx := []) ((RepV_cell rfl).2 (by simp [Rep, flat])) List.nodup_nil (by simp) (by simp)
    exact ⟨Z, φ', hr2, Stp.refl _ _, fun _ _ _ => Iff.rfl⟩

/-! ### Calls -/
def PV.isMut : PV → Bool
  | .ptr true _ => true
  | _ => false
/-- of arguments the ones that may be written through -/
def mutVals : List PV → List Value → List Value
  | x :: xs, v :: vs => if x.isMut = true then v :: mutVals xs vs else mutVals xs vs
  | _, _ => []
def GlobOk (G : Nat → Option (List PV)) (Z : Nat → Prop) (w : World) : Prop := ∀ g cs, G g = some cs → Rep w Z (.ptr false cs) [] [.pointer (some ⟨g, 0, none⟩)]

/-- A function of the program answers as a function of values does. -/
def Impl (P : Program) (G : Nat → Option (List PV)) (f : FuncId) (g : List PV → Option (PV × List PV)) : Prop :=
  ∀ (w : World) (Z : Nat → Prop) (xs : List PV) (vs : List Value) (φ : List Nat) (r : PV) (outs : List PV), RepTs w Z xs φ vs → φ.Nodup → (∀ x ∈ xs, x.notTup = true ∧ (x.noOwn = true ∨ x.isMut = true)) → GlobOk G Z w →
    g xs = some (r, outs) → Calls P f vs.toArray w fun e w' => ∃ v Z' φr φo, e = .returned v ∧ RepV w' Z' r φr v ∧ RepTs w' Z' outs φo (mutVals xs vs) ∧ (φr ++ φo).Nodup ∧
      (∀ b ∈ φr ++ φo, b ∈ φ ∨ w.heap.size ≤ b) ∧ Stp (fun b => b ∈ φ ∨ w.heap.size ≤ b) w w' ∧ (∀ b, b < w.heap.size → b ∉ φ → (Z b ↔ Z' b))

def callable (P : Program) (f : FuncId) : Bool := match P.funcs[f]? with | some fn => !(fn.name == "runtime.NumGoroutine") && fn.body.isSome | none => false
theorem run_callFunc {P : Program} {f : FuncId} {args : Array Value} (h : callable P f = true) (w : World) : (callFunc f args).run P w = .ok (.enter f args) w := by
  unfold callable at h
  cases hf : P.funcs[f]? with
  | none => simp [hf] at h
  | some fn =>
    simp only [hf, Bool.and_eq_true, Bool.not_eq_true'] at h
    have hb : fn.body.isNone = false := by cases hb : fn.body <;> simp_all
    have hn : ¬ fn.name = "runtime.NumGoroutine" := by simpa using h.1
    have hb' : ¬ fn.body = none := by intro e; simp [e] at hb
    simp [callFunc, hf, hn, hb']

/-- an argument: what is handed on, and, if it may be written through, the slot of it; else the slot of what is lent, if any is -/
inductive Arg where
  | free (x : PV)
  | lent (x : PV) (r : Tmp)
  | mut (x : PV) (r : Tmp)
def Env.arg (E : Env) (F : RF) (T : TypeId) (x : Operand) : Option Arg :=
  match E.at x with
  | none => (E.imm T x).bind fun y => if y.notTup = true then some (.free y.frz) else none
  | some t => (F.content t).bind fun y =>
    if y.notTup = true then
      if y.noOwn = true then some (.free y) else
      match F.slot t with
      | .val y' => if y'.isMut = true then some (.mut y' t) else some (.lent y.frz t)
      | .pl r p k _ => if y.isMut = true then
          match F.slot r, p, k with
          | .val g, [], .self => if g.isMut = true then some (.mut g r) else none
          | _, _, _ => none
        else some (.lent y.frz r)
      | .dead => none
    else none
def Arg.pv : Arg → PV
  | .free x => x
  | .lent x _ => x
  | .mut x _ => x
def Env.args (E : Env) (F : RF) (T : Nat → TypeId) : Nat → List Operand → Option (List Arg)
  | _, [] => some []
  | k, x :: xs => (E.arg F (T k) x).bind fun y => (E.args F T (k + 1) xs).map (y :: ·)
def lents : List Arg → List Tmp
  | [] => []
  | .lent _ r :: as => r :: lents as
  | _ :: as => lents as
def muts : List Arg → List Tmp
  | [] => []
  | .mut _ r :: as => r :: muts as
  | _ :: as => muts as
/-- what is lent to a call whose answer may lie in it is nobody's from then on -/
def valOf : Slot → Option PV
  | .val x => some x
  | _ => none
def giveF (r : PV) (d : Option Tmp) (F : RF) : List Tmp → Option RF
  | [m] => (valOf (F.slot m)).map fun x => setD ((F.set m .dead).set m (.val x.frz)) d (.val r)
  | _ => none
def semCall (E : Env) (o : Oper) (c : Call) (F : RF) : Option RF :=
  match c.callee with
  | .value f =>
    match E.rd F 0 f with
    | some (.fn fid caps) =>
      if callable E.P fid = true ∧ noOwnL caps = true then
        (E.args F (fun k => c.argTypes.getD k 0) 0 c.args.toList).bind fun as =>
          match E.tbl fid (as.map Arg.pv ++ caps), muts as with
          | some (r, []), [] => if lents as = [] ∨ r.allOwn = true then some (setD F o.dst (.val r)) else giveF r o.dst F (lents as)
          | some (r, [out]), [m] => if (lents as = [] ∨ (r.allOwn = true ∧ out.allOwn = true)) ∧ (lents as).contains m = false ∧ out.notTup = true then some (setD ((F.set m .dead).set m (.val out)) o.dst (.val r)) else none
          | _, _ => none
      else none
    | _ => none
  | _ => none

theorem RepV_weaken {Z' : Nat → Prop} (hZ : ∀ b, b < w.heap.size → Z' b → Z b) {x : PV} {v : Value} (hn : x.notTup = true) (h : RepV w Z x [] v) : RepV w Z' x [] v := by
  cases x with
  | tup xs => simp [PV.notTup] at hn
  | agg cs => rw [RepV_agg] at h ⊢; obtain ⟨vs, rfl, h⟩ := h; exact ⟨vs, rfl, (Rep_weaken hZ).1 _ _ h⟩
  | _ => exact (RepV_cell rfl).2 ((Rep_weaken hZ).1 _ _ ((RepV_cell rfl).1 h))
theorem PV.frz_notTup {x : PV} (h : x.notTup = true) : x.frz.notTup = true := by cases x <;> simp_all [PV.notTup]
theorem PV.frz_isMut {x : PV} : x.frz.isMut = false := by cases x <;> simp [PV.isMut]
theorem noOwn_isMut {x : PV} (h : x.noOwn = true) : x.isMut = false := by
  cases x with
  | ptr o cs => cases o <;> simp_all [PV.noOwn, PV.isMut]
  | _ => rfl
theorem isMut_notTup {x : PV} (h : x.isMut = true) : x.notTup = true ∧ ∃ cs, x = .ptr true cs := by
  cases x with
  | ptr o cs => cases o <;> simp_all [PV.notTup, PV.isMut]
  | _ => simp [PV.isMut] at h
theorem RepV_RepV1 {x : PV} {φ v} (h : x.notTup = true) (hr : RepV w Z x φ v) : RepV1 w Z x φ v := by
  cases x <;> first | exact hr | simp [PV.notTup] at h

theorem arg_ok {E : Env} {a : Act} (h : Pre E X Z w φ a F) {T : TypeId} {x : Operand} {y : Arg} (ha : E.arg F T x = some y) :
    y.pv.notTup = true ∧ (y.pv.noOwn = true ∨ y.pv.isMut = true) ∧
    ((∃ z, y = .free z ∧ z.isMut = false ∧ ∀ Zc : Nat → Prop, (∀ b, b < w.heap.size → Zc b → Z b) → RepV w Zc z [] (a.eval x)) ∨
     (∃ z r, y = .lent z r ∧ z.isMut = false ∧ ∀ Zc : Nat → Prop, (∀ b, b < w.heap.size → Zc b → Z b) → (∀ b ∈ φ r, ¬ Zc b) → RepV w Zc z [] (a.eval x)) ∨
     (∃ z r, y = .mut z r ∧ z.isMut = true ∧ F.slot r = .val z ∧ a.eval x = tmOf E.nt a r)) := by
  unfold Env.arg at ha
  split at ha
  · rename_i hat
    simp only [Option.bind_eq_some_iff] at ha
    obtain ⟨z, hz, ha⟩ := ha
    split at ha
    case isFalse => cases ha
    case isTrue hnt =>
    obtain rfl := Option.some.inj ha
    refine ⟨PV.frz_notTup hnt, .inl (noOwn_frz.1 _), .inl ⟨_, rfl, PV.frz_isMut, fun Zc hZ => RepV_frz hZ (by simp) (imm_rep hz)⟩⟩
  · rename_i t hat
    simp only [Option.bind_eq_some_iff] at ha
    obtain ⟨z, hz, ha⟩ := ha
    split at ha
    case isFalse => cases ha
    case isTrue hnt =>
    rw [at_eval hat]
    split at ha
    · rename_i hno
      obtain rfl := Option.some.inj ha
      obtain ⟨φy, hr, _⟩ := h.rel.content hz
      obtain rfl := RepV_noOwn hno hr
      exact ⟨hnt, .inl hno, .inl ⟨_, rfl, noOwn_isMut hno, fun Zc hZ => RepV_weaken hZ hnt hr⟩⟩
    · split at ha
      · rename_i y' hsl
        have hzy : z = y' := by simpa [RF.content, hsl] using hz.symm
        subst hzy
        split at ha
        · rename_i hm
          obtain rfl := Option.some.inj ha
          exact ⟨hnt, .inr hm, .inr (.inr ⟨_, _, rfl, hm, hsl, rfl⟩)⟩
        · rename_i hm
          obtain rfl := Option.some.inj ha
          exact ⟨PV.frz_notTup hnt, .inl (noOwn_frz.1 _), .inr (.inl ⟨_, _, rfl, PV.frz_isMut, fun Zc hZ hn => RepV_frz hZ hn (h.rel.vals t _ hsl)⟩)⟩
      · rename_i r p k n hsl
        split at ha
        · split at ha
          · rename_i g hg
            split at ha
            case isFalse => cases ha
            case isTrue hm =>
            obtain rfl := Option.some.inj ha
            have hok : F.ok r .self n = true := by
              unfold RF.content at hz
              rw [hsl] at hz
              simp only at hz
              split at hz
              · assumption
              · cases hz
            obtain ⟨g', y, u, hg', hf, hv⟩ := h.rel.pls t r [] .self n hsl hok
            simp only [follow, Option.some.injEq, Prod.mk.injEq] at hf
            simp only [viewOk] at hv
            exact ⟨(isMut_notTup hm).1, .inr hm, .inr (.inr ⟨_, _, rfl, hm, hg, by rw [hv.1, ← hf.2]⟩)⟩
          · cases ha
        · obtain rfl := Option.some.inj ha
          have hok : F.ok r k n = true := by
            unfold RF.content at hz
            rw [hsl] at hz
            simp only at hz
            split at hz
            · assumption
            · cases hz
          obtain ⟨g, y0, u, φy, hg, hf, hv, hget, hr, hsub⟩ := h.rel.plRep hsl hok
          have hz' : viewC y0 k = some z := by
            unfold RF.content at hz
            rw [hsl] at hz
            simpa [hok, hg, hget] using hz
          obtain ⟨φz, hsz, hrz⟩ := RepV_view hr hz' hv
          exact ⟨PV.frz_notTup hnt, .inl (noOwn_frz.1 _), .inr (.inl ⟨_, _, rfl, PV.frz_isMut, fun Zc hZ hn => RepV_frz hZ (fun b hb => hn b (hsub.subset (hsz.subset hb))) hrz⟩)⟩
      · cases ha

theorem args_ok {E : Env} {a : Act} (h : Pre E X Z w φ a F) {T : Nat → TypeId} : ∀ {xs : List Operand} {k : Nat} {as : List Arg}, E.args F T k xs = some as →
    (∀ y ∈ as, y.pv.notTup = true ∧ (y.pv.noOwn = true ∨ y.pv.isMut = true)) ∧ mutVals (as.map Arg.pv) (xs.map a.eval) = (muts as).map (tmOf E.nt a) ∧ (∀ r ∈ muts as, ∃ cs, F.slot r = .val (.ptr true cs)) ∧
    ∀ Zc : Nat → Prop, (∀ b, b < w.heap.size → Zc b → Z b) → (∀ r ∈ lents as, ∀ b ∈ φ r, ¬ Zc b) → (∀ r ∈ muts as, ∀ b ∈ φ r, Zc b) → RepTs w Zc (as.map Arg.pv) ((muts as).flatMap φ) (xs.map a.eval)
  | [], k, as, ha => by
    simp only [Env.args, Option.some.injEq] at ha; subst ha
    exact ⟨by simp, by simp [mutVals, muts], by simp [muts], fun Zc _ _ _ => by simp [RepTs, muts]⟩
  | x :: xs, k, as, ha => by
    simp only [Env.args, Option.bind_eq_some_iff, Option.map_eq_some_iff] at ha
    obtain ⟨y, hy, as', has, rfl⟩ := ha
    obtain ⟨h1, h2, h3, h4⟩ := args_ok h has
    obtain ⟨k1, k2, k3⟩ := arg_ok h hy
    refine ⟨fun z hz => (List.mem_cons.1 hz).elim (fun e => e ▸ ⟨k1, k2⟩) (h1 z), ?_⟩
    rcases k3 with ⟨z, rfl, hm, hr⟩ | ⟨z, r, rfl, hm, hr⟩ | ⟨z, r, rfl, hm, hsl, hev⟩
    · refine ⟨by simp [mutVals, Arg.pv, hm, muts, h2], h3, fun Zc hZ hl hmu => ?_⟩
      exact RepTs_cons.2 ⟨[], _, _, _, rfl, rfl, RepV_RepV1 k1 (hr Zc hZ), h4 Zc hZ hl hmu⟩
    · refine ⟨by simp [mutVals, Arg.pv, hm, muts, h2], h3, fun Zc hZ hl hmu => ?_⟩
      exact RepTs_cons.2 ⟨[], _, _, _, rfl, rfl, RepV_RepV1 k1 (hr Zc hZ (hl r (by simp [lents]))), h4 Zc hZ (fun r' hr' => hl r' (by simp [lents, hr'])) hmu⟩
    · obtain ⟨_, cs, rfl⟩ := isMut_notTup hm
      refine ⟨by simp [mutVals, Arg.pv, hm, muts, h2, hev], ?_, fun Zc hZ hl hmu => ?_⟩
      · intro r' hr'
        simp only [muts, List.mem_cons] at hr'
        rcases hr' with rfl | hr'
        · exact ⟨cs, hsl⟩
        · exact h3 r' hr'
      · have hrr := h.rel.vals r _ hsl
        have hk : Keeps w w Z Zc (φ r) := by
          intro b hb hmm
          refine ⟨⟨fun hz => ?_, hZ b hb⟩, rfl⟩
          rcases hmm with hmm | hmm
          · exact hmu r (by simp [muts]) b hmm
          · exact absurd hz hmm
        refine RepTs_cons.2 ⟨φ r, _, _, _, by simp [muts], rfl, ?_, h4 Zc hZ hl (fun r' hr' => hmu r' (by simp [muts, hr']))⟩
        rw [hev]; exact RepV_RepV1 rfl (RepV_frame hk hrr)

def TblOk (E : Env) : Prop := ∀ f, Impl E.P E.G f (E.tbl f)

theorem RepTs_append {xs ys : List PV} {φ₂ : List Nat} {us : List Value} (h2 : RepTs w Z ys φ₂ us) : ∀ {xs φ₁ vs}, RepTs w Z xs φ₁ vs → RepTs w Z (xs ++ ys) (φ₁ ++ φ₂) (vs ++ us)
  | [], φ₁, vs, h1 => by simp only [RepTs] at h1; rw [h1.1, h1.2]; simpa using h2
  | x :: xs, φ₁, vs, h1 => by
    obtain ⟨ψ₁, ψ₂, v, vs', rfl, rfl, k1, k2⟩ := RepTs_cons.1 h1
    exact RepTs_cons.2 ⟨ψ₁, ψ₂ ++ φ₂, v, vs' ++ us, by simp, rfl, k1, RepTs_append (xs := xs) h2 k2⟩
theorem mutVals_append {ys : List PV} {us : List Value} (hy : ∀ y ∈ ys, y.isMut = false) : ∀ {xs : List PV} {vs : List Value}, xs.length = vs.length → mutVals (xs ++ ys) (vs ++ us) = mutVals xs vs
  | [], [], _ => by
    have : ∀ {ys : List PV} {us : List Value}, (∀ y ∈ ys, y.isMut = false) → mutVals ys us = [] := by
      intro ys
      induction ys with
      | nil => intro us _; rfl
      | cons y ys ih =>
        intro us h
        cases us with
        | nil => rfl
        | cons u us => simp only [mutVals, h y (by simp), Bool.false_eq_true, if_false]; exact ih (fun y hm => h y (by simp [hm]))
    simp only [List.nil_append, this hy, mutVals]
  | x :: xs, v :: vs, h => by
    simp only [List.cons_append, mutVals, mutVals_append hy (show xs.length = vs.length by simpa using h)]
  | [], _ :: _, h => by simp at h
  | _ :: _, [], h => by simp at h
theorem caps_RepTs {Z' : Nat → Prop} (hZ : ∀ b, b < w.heap.size → Z' b → Z b) : ∀ {cs : List PV} {cv : List Value}, (∀ c ∈ cs, c.cell1 = true) → RepL w Z cs [] cv → RepTs w Z' cs [] cv
  | [], cv, _, h => by rw [RepL_nil] at h; rw [h.2]; simp [RepTs]
  | c :: cs, cv, hc, h => by
    obtain ⟨φ₁, φ₂, v₁, v₂, e, rfl, h1, h2⟩ := RepL_cons.1 h
    obtain ⟨rfl, rfl⟩ := List.append_eq_nil_iff.1 e.symm
    have hl : v₁.length = 1 := by rw [h1.length, PV.cell1_width (hc c (by simp))]
    obtain ⟨v, rfl⟩ := List.length_eq_one_iff.1 hl
    refine RepTs_cons.2 ⟨[], [], v, v₂, rfl, rfl, ?_, caps_RepTs hZ (fun c hm => hc c (by simp [hm])) h2⟩
    have h3 := (Rep_weaken hZ).1 _ _ h1
    have hcc := hc c (by simp)
    cases c <;> first | exact h3 | simp [PV.cell1] at hcc

theorem semCall_ok {E : Env} (hT : TblOk E) {o : Oper} {c : Call} {a : Act} {F' : RF} (h : Pre E X Z w φ a F) (ho : o.op = .call c) (hs : semCall E o c F = some F') :
    Yld E.P o a w (Out X Z w (tmOf E.nt a) o.dst F') := by
  unfold semCall at hs
  split at hs
  case h_2 => cases hs
  rename_i f hcallee
  split at hs
  case h_2 => cases hs
  rename_i fid caps hrd
  split at hs
  case isFalse => cases hs
  case isTrue hc =>
  obtain ⟨hcall, hcaps⟩ := hc
  simp only [Option.bind_eq_some_iff] at hs
  obtain ⟨as, has, hs⟩ := hs
  obtain ⟨a1, a2, a3, a4⟩ := args_ok h has
  obtain ⟨φf, hrf, _⟩ := rd_rep h hrd
  rw [RepV_cell rfl] at hrf
  simp only [Rep] at hrf
  obtain ⟨_, cv, hfv, hcl, hc1⟩ := hrf
  have hfv' : a.eval f = .func (.func fid) #[] cv.toArray := by simpa using hfv
  -- what is lent is nobody's while the call lasts
  let Zc : Nat → Prop := fun b => Z b ∧ ∀ r ∈ lents as, b ∉ φ r
  have hlen : (as.map Arg.pv).length = (c.args.toList.map a.eval).length := by
    have : ∀ {T : Nat → TypeId} {xs : List Operand} {k : Nat} {as : List Arg}, E.args F T k xs = some as → as.length = xs.length := by
      intro T xs
      induction xs with
      | nil => intro k as h; simp only [Env.args, Option.some.injEq] at h; rw [← h]; rfl
      | cons x xs ih =>
        intro k as h
        simp only [Env.args, Option.bind_eq_some_iff, Option.map_eq_some_iff] at h
        obtain ⟨y, _, as', has, rfl⟩ := h
        simp [ih has]
    simp [this has]
  have hnomut : ∀ y ∈ caps, y.isMut = false := by
    have : ∀ {cs : List PV}, noOwnL cs = true → ∀ y ∈ cs, y.isMut = false := by
      intro cs
      induction cs with
      | nil => intro _ y hy; simp at hy
      | cons c cs ih =>
        intro hn y hy
        simp only [noOwnL, Bool.and_eq_true] at hn
        rcases List.mem_cons.1 hy with rfl | hy
        · exact noOwn_isMut hn.1
        · exact ih hn.2 y hy
    exact this hcaps
  have hcapok : ∀ y ∈ caps, y.notTup = true ∧ (y.noOwn = true ∨ y.isMut = true) := by
    have : ∀ {cs : List PV}, noOwnL cs = true → ∀ y ∈ cs, y.noOwn = true := by
      intro cs
      induction cs with
      | nil => intro _ y hy; simp at hy
      | cons c cs ih =>
        intro hn y hy
        simp only [noOwnL, Bool.and_eq_true] at hn
        rcases List.mem_cons.1 hy with rfl | hy
        · exact hn.1
        · exact ih hn.2 y hy
    intro y hy
    refine ⟨?_, .inl (this hcaps y hy)⟩
    have := hc1 y hy
    cases y <;> simp_all [PV.cell1, PV.notTup]
  have hglob : GlobOk E.G Zc w := fun g cs hg => (Rep_weaken (fun b _ hb => hb.1)).1 _ _ (h.rel.glob g cs (by rw [h.glob]; exact hg))
  have hexec : (execOp a.eval o).run E.P w = .ok (.enter fid ((c.args.toList.map a.eval) ++ cv).toArray) w := by
    unfold execOp; rw [ho]
    have : c.args.map a.eval ++ cv.toArray = ((c.args.toList.map a.eval) ++ cv).toArray := by apply Array.ext'; simp
    simp [resolve, hcallee, hfv', Deferred.ofValue, invoke, this, run_callFunc hcall]
  -- what the callee does
  have hcalls : ∀ {φm : List Nat} {r outs} , (∀ r ∈ muts as, ∀ b ∈ φ r, Zc b) → (muts as).flatMap φ = φm → φm.Nodup → E.tbl fid (as.map Arg.pv ++ caps) = some (r, outs) →
      Calls E.P fid ((c.args.toList.map a.eval) ++ cv).toArray w fun e w' => ∃ v Z' φr φo, e = .returned v ∧ RepV w' Z' r φr v ∧ RepTs w' Z' outs φo ((muts as).map (tmOf E.nt a)) ∧ (φr ++ φo).Nodup ∧
      (∀ b ∈ φr ++ φo, b ∈ φm ∨ w.heap.size ≤ b) ∧ Stp (fun b => b ∈ φm ∨ w.heap.size ≤ b) w w' ∧ (∀ b, b < w.heap.size → b ∉ φm → (Zc b ↔ Z' b)) := by
    intro φm r outs hmu hφm hnd htbl
    have hrep := RepTs_append (xs := []) (caps_RepTs (Z' := Zc) (fun b _ hb => hb.1) hc1 hcl) (a4 Zc (fun b _ hb => hb.1) (fun r hr b hb hz => hz.2 r hr hb) hmu)
    rw [hφm, List.append_nil] at hrep
    have := hT fid w Zc (as.map Arg.pv ++ caps) _ φm r outs hrep hnd (by
      intro x hx
      rcases List.mem_append.1 hx with hx | hx
      · obtain ⟨y, hy, rfl⟩ := List.mem_map.1 hx; exact a1 y hy
      · exact hcapok x hx) hglob htbl
    rw [mutVals_append hnomut hlen, a2] at this
    exact this
  have hyld : ∀ {R : Value → World → Prop}, Calls E.P fid ((c.args.toList.map a.eval) ++ cv).toArray w (fun e w' => ∃ v, e = .returned v ∧ R v w') → Yld E.P o a w R := by
    intro R hR K Q hK
    unfold Oper.wp; rw [hexec]
    simp only [Oper.upon]
    exact hR.mono fun e w' ⟨v, he, hr⟩ => by subst he; exact hK v w' hr
  split at hs
  · -- nothing is written through
    rename_i r htbl hmuts
    split at hs
    case isFalse =>
      unfold giveF at hs
      split at hs
      case h_2 => cases hs
      rename_i m hl
      simp only [Option.map_eq_some_iff] at hs
      obtain ⟨x, hx, rfl⟩ := hs
      have hx : F.slot m = .val x := by unfold valOf at hx; split at hx <;> simp_all
      obtain ⟨hfr, _⟩ := h.rel.freeze hx
      refine hyld ((hcalls (φm := []) (by rw [hmuts]; simp) (by rw [hmuts]; rfl) List.nodup_nil htbl).mono ?_)
      rintro e w' ⟨v, Z', φr, φo, rfl, hr, ho', hnd, hfresh, hstp, hz⟩
      refine ⟨v, rfl, ?_⟩
      rw [hmuts] at ho'
      simp only [List.map_nil] at ho'
      let Zn : Nat → Prop := fun b => if b < w.heap.size then Z b ∧ b ∉ φ m else Z' b
      have hfr' : ∀ b ∈ φr, w.heap.size ≤ b := fun b hb => (hfresh b (by simp [hb])).resolve_left (by simp)
      have hrn : RepV w' Zn r φr v := by
        refine RepV_frame (w := w') (Z := Z') (fun b hb hm => ⟨?_, rfl⟩) hr
        by_cases hlt : b < w.heap.size
        · have := hz b hlt (by simp)
          simp only [Zn, hlt, if_true, ← this, Zc, hl]; simp
        · simp [Zn, hlt]
      have hrel := hfr.keep (w' := w') (Z' := Zn) (fun b hb hm => ⟨by simp [Zn, hb], hstp.block b hb (by simp; omega)⟩)
      obtain ⟨φ', hr2⟩ := hrel.outVal (d := o.dst) hrn (List.nodup_append.1 hnd).1 (fun b hb => h.new b (hfr' b hb)) (fun u b hb hb2 => by have := (hfr.lt hb2).1; have := hfr' b hb; omega)
      refine ⟨Zn, φ', hr2, ⟨hstp.os, hstp.tape, hstp.output, hstp.size, fun b hb hm => hstp.block b hb (fun hh => by simp at hh; omega)⟩, fun b hb hm => ?_⟩
      simp only [Zn, hb, if_true]
      exact ⟨fun hz => ⟨hz, fun hb2 => hm (h.rel.mine m b hb2)⟩, fun hz => hz.1⟩
    case isTrue hlent =>
    obtain rfl := Option.some.inj hs
    refine hyld ((hcalls (φm := []) (by rw [hmuts]; simp) (by rw [hmuts]; rfl) List.nodup_nil htbl).mono ?_)
    rintro e w' ⟨v, Z', φr, φo, rfl, hr, ho', hnd, hfresh, hstp, hz⟩
    refine ⟨v, rfl, ?_⟩
    rw [hmuts] at ho'
    simp only [List.map_nil] at ho'
    let Zn : Nat → Prop := fun b => if b < w.heap.size then Z b else Z' b
    have hfr : ∀ b ∈ φr, w.heap.size ≤ b := fun b hb => (hfresh b (by simp [hb])).resolve_left (by simp)
    have hrn : RepV w' Zn r φr v := by
      rcases hlent with hl | hown
      · refine RepV_frame (w := w') (Z := Z') (fun b hb hm => ⟨?_, rfl⟩) hr
        by_cases hlt : b < w.heap.size
        · have := hz b hlt (by simp)
          simp only [Zn, hlt, if_true, ← this, Zc, hl]; simp
        · simp [Zn, hlt]
      · exact RepV_allOwn hown (fun b hb => by simp only [Zn, show ¬ b < w.heap.size by have := hfr b hb; omega, if_false]; exact (RepV_lt hr b hb).2) hr
    have hrel := h.rel.keep (w' := w') (Z' := Zn) (fun b hb hm => ⟨by simp [Zn, hb], hstp.block b hb (by simp; omega)⟩)
    obtain ⟨φ', hr2⟩ := hrel.outVal (d := o.dst) hrn (List.nodup_append.1 hnd).1 (fun b hb => h.new b (hfr b hb)) (fun u b hb hb2 => by have := (h.rel.lt hb2).1; have := hfr b hb; omega)
    refine ⟨Zn, φ', hr2, ⟨hstp.os, hstp.tape, hstp.output, hstp.size, fun b hb hm => hstp.block b hb (fun hh => by simp at hh; omega)⟩, fun b hb _ => by simp [Zn, hb]⟩
  · -- one argument is written through
    rename_i r out m htbl hmuts
    split at hs
    case isFalse => cases hs
    case isTrue hcc =>
    obtain ⟨hlent, hnl, hont⟩ := hcc
    obtain rfl := Option.some.inj hs
    have hmnl : m ∉ lents as := by intro hm; rw [List.contains_eq_mem] at hnl; simp [hm] at hnl
    have hmZ : ∀ b ∈ φ m, Zc b := fun b hb => ⟨(h.rel.lt hb).2, fun r hr hb2 => hmnl (h.rel.disj m r b hb hb2 ▸ hr)⟩
    refine hyld ((hcalls (φm := φ m) (by rw [hmuts]; simpa using hmZ) (by rw [hmuts]; simp) (h.rel.nodup m) htbl).mono ?_)
    rintro e w' ⟨v, Z', φr, φo, rfl, hr, ho', hnd, hfresh, hstp, hz⟩
    refine ⟨v, rfl, ?_⟩
    rw [hmuts] at ho'
    simp only [List.map_cons, List.map_nil] at ho'
    obtain ⟨ψ₁, ψ₂, v1, vs1, rfl, e1, ho1, ho2⟩ := RepTs_cons.1 ho'
    simp only [RepTs] at ho2
    obtain ⟨rfl, rfl⟩ := ho2
    obtain rfl : tmOf E.nt a m = v1 := by simpa using e1
    rw [List.append_nil] at hnd hfresh
    have hnd' := List.nodup_append.1 hnd
    let Zn : Nat → Prop := fun b => if b < w.heap.size ∧ b ∉ φ m then Z b else Z' b
    have hzn : ∀ b, (lents as = []) → b < w'.heap.size → (Z' b ↔ Zn b) := by
      intro b hl _
      by_cases hlt : b < w.heap.size ∧ b ∉ φ m
      · have := hz b hlt.1 hlt.2
        simp only [Zn, if_pos hlt, ← this, Zc, hl]; simp
      · simp [Zn, hlt]
    have hin : ∀ b ∈ φr ++ ψ₁, Z' b → Zn b := by
      intro b hb hzb
      have hnot : ¬ (b < w.heap.size ∧ b ∉ φ m) := by
        rintro ⟨h1, h2⟩
        rcases hfresh b hb with h3 | h3
        · exact h2 h3
        · omega
      simp [Zn, hnot, hzb]
    have hrn : RepV w' Zn r φr v := by
      rcases hlent with hl | ⟨hown, _⟩
      · exact RepV_frame (w := w') (Z := Z') (fun b hb hm => ⟨hzn b hl hb, rfl⟩) hr
      · exact RepV_allOwn hown (fun b hb => hin b (by simp [hb]) (RepV_lt hr b hb).2) hr
    have hoV : RepV w' Z' out ψ₁ (tmOf E.nt a m) := by
      rcases PV.tup_or out with ⟨xs, rfl⟩ | ⟨e, _⟩
      · simp [PV.notTup] at hont
      · rw [e]; exact ho1
    have hon : RepV w' Zn out ψ₁ (tmOf E.nt a m) := by
      rcases hlent with hl | ⟨_, hown⟩
      · exact RepV_frame (w := w') (Z := Z') (fun b hb hm => ⟨hzn b hl hb, rfl⟩) hoV
      · exact RepV_allOwn hown (fun b hb => hin b (by simp [hb]) (RepV_lt hoV b hb).2) hoV
    have h1 := h.rel.setDead m (tmOf E.nt a m)
    rw [upd_eta] at h1
    have hnotm : ∀ b, b < w.heap.size → ((∃ t, b ∈ upd φ m [] t) ∨ ¬ Z b) → b ∉ φ m := by
      intro b hb hm hbm
      rcases hm with ⟨t, ht⟩ | hm
      · by_cases e : t = m
        · simp [upd, e] at ht
        · rw [upd_ne _ _ e] at ht; exact e (h.rel.disj t m b ht hbm)
      · exact hm (h.rel.lt hbm).2
    have h2 := h1.keep (w' := w') (Z' := Zn) (fun b hb hm => by
      have hbm := hnotm b hb hm
      exact ⟨by simp [Zn, hb, hbm], hstp.block b hb (fun hh => hh.elim hbm (by omega))⟩)
    have hmine : ∀ b ∈ φr ++ ψ₁, X.mine b := fun b hb => (hfresh b hb).elim (fun hb2 => h.rel.mine m b hb2) (h.new b)
    have hapart : ∀ u, u ≠ m → ∀ b ∈ φr ++ ψ₁, b ∉ φ u := by
      intro u hu b hb hb2
      rcases hfresh b hb with h3 | h3
      · exact hu (h.rel.disj u m b hb2 h3)
      · have := (h.rel.lt hb2).1; omega
    have h3 := h2.setVal (t := m) hon hnd'.2.1 (fun b hb => hmine b (by simp [hb])) (fun u hu b hb => by rw [upd_ne _ _ hu]; exact hapart u hu b (by simp [hb]))
    rw [upd_eta] at h3
    obtain ⟨φ', hr2⟩ := h3.outVal (d := o.dst) hrn hnd'.1 (fun b hb => hmine b (by simp [hb])) (fun u b hb => by
      by_cases hu : u = m
      · subst hu; rw [upd_self]; exact fun hb2 => hnd'.2.2 b hb b hb2 rfl
      · rw [upd_ne _ _ hu, upd_ne _ _ hu]; exact hapart u hu b (by simp [hb]))
    exact ⟨Zn, φ', hr2, ⟨hstp.os, hstp.tape, hstp.output, hstp.size, fun b hb hm => hstp.block b hb (fun hh => hh.elim (fun hb2 => hm (h.rel.mine m b hb2)) (fun _ => by omega))⟩,
      fun b hb hm => by have : b ∉ φ m := fun hb2 => hm (h.rel.mine m b hb2); simp [Zn, hb, this]⟩
  · cases hs
end Go.V
/- Arrays out of slices: a pointer to a slice's first elements as an array; what is read there. -/
namespace Go.V
set_option linter.unusedVariables false
set_option linter.unusedSimpArgs false
variable {X : Cx} {Z : Nat → Prop} {w : World} {φ : Tmp → List Nat} {tm : Tmp → Value} {F : RF}

def semArr (E : Env) (o : Oper) (T : TypeId) (x : Operand) (F : RF) : Option RF :=
  match E.P.underlying T with
  | some (.array n e) => (E.sloc F x).bind fun (r, p, lo, hi, sz, _) =>
    if (n ≤ hi - lo ∧ 0 < n) ∧ o.dst ≠ some r then some (setD F o.dst (.pl r p (.addr lo 0) (F.ver r))) else none
  | _ => none
theorem semArr_ok {E : Env} {o : Oper} {T : TypeId} {x : Operand} {a : Act} {F' : RF} (h : Pre E X Z w φ a F) (ho : o.op = .sliceToArrayPointer T x) (hs : semArr E o T x F = some F') :
    Yld E.P o a w (Out X Z w (tmOf E.nt a) o.dst F') := by
  unfold semArr at hs
  split at hs
  case h_2 => cases hs
  rename_i n e hu
  simp only [Option.bind_eq_some_iff] at hs
  obtain ⟨⟨r, p, lo, hi, sz, xs⟩, hloc, hs⟩ := hs
  simp only at hs
  split at hs
  case isFalse => cases hs
  case isTrue hc =>
  obtain rfl := Option.some.inj hs
  obtain ⟨hlh, hhx, g, f, ad, cap, ad', φy, hg, hget, hf, hr, hsub, hev, had⟩ := sloc_ok h hloc
  have hr0 := hr
  simp only [Rep] at hr
  obtain ⟨a2, cap2, ψ, ch, hv, hcap, hl, hw, hor⟩ := hr
  obtain ⟨rfl, rfl⟩ : ad = a2 ∧ cap = cap2 := by simpa using hv
  have hne : cap ≠ lo := by omega
  rcases hor with ⟨rfl, _⟩ | ⟨b, off, cs, T', fr, rfl, _⟩
  · simp at hhx; omega
  have hv2 : a.eval x = .slice (some (Addr.add ⟨b, off, none⟩ (lo * sz))) (hi - lo) (cap - lo) := by rw [hev, had hne]; rfl
  have hpl : place (.sl f sz xs) (.slice (some ⟨b, off, none⟩) xs.length cap) lo 0 = some (Addr.add ⟨b, off, none⟩ (lo * sz)) := by
    rw [add_lit rfl]; simp [place]
  refine Yld.value (w' := w) (v := .pointer (some (Addr.add ⟨b, off, none⟩ (lo * sz)))) ?_ ?_
  · unfold execOp; rw [ho]
    have : ¬ (hi - lo < n) := by omega
    simp [Instr.arrayAt, run_underlying hu, hv2]
    omega
  · obtain ⟨φ', hr2⟩ := h.rel.outPl (d := o.dst) (r := r) (p := p) (k := .addr lo 0) (v := .pointer (some (Addr.add ⟨b, off, none⟩ (lo * sz)))) hc.2 ⟨g, _, _, hg, hf, _, hpl, rfl⟩
    exact ⟨Z, φ', hr2, Stp.refl _ _, fun _ _ _ => Iff.rfl⟩

/-- whether an array is read out of a slice's elements, each one cell -/
def arrLoad (E : Env) (T : TypeId) (x : Operand) (F : RF) : Bool :=
  match E.P.underlying T with
  | some (.array _ _) => match E.target F x with
    | some (r, p, _, _) => match F.slot r with
      | .val g => match g.get? p with
        | some (.sl _ sz _) => sz == 1
        | _ => false
      | _ => false
    | none => false
  | _ => false
def slRow (y : PV) : Option (List PV) := match y with
  | .sl _ _ xs => some xs
  | _ => none
def semLoadA (E : Env) (o : Oper) (T : TypeId) (x : Operand) (F : RF) : Option RF :=
  (E.target F x).bind fun (r, p, i, j) => match F.slot r with
    | .val g => (g.get? p).bind fun y => (slRow y).bind fun xs =>
      if (tyOk E.P T = true ∧ aggT E.P T = true) ∧ j = 0 ∧ i + esz E.P T ≤ xs.length ∧ (xs.all fun c => c.cell1) = true ∧ noOwnL xs = true then
        some (setD F o.dst (.val (.agg ((xs.drop i).take (esz E.P T)))))
      else none
    | _ => none
theorem noOwnL_mem {xs : List PV} : noOwnL xs = true ↔ ∀ x ∈ xs, x.noOwn = true := by
  induction xs with
  | nil => simp [noOwnL]
  | cons x xs ih => simp [noOwnL, ih]
theorem semLoadA_ok {E : Env} {o : Oper} {T : TypeId} {x : Operand} {a : Act} {F' : RF} (h : Pre E X Z w φ a F) (ho : o.op = .load T x) (hs : semLoadA E o T x F = some F') :
    Yld E.P o a w (Out X Z w (tmOf E.nt a) o.dst F') := by
  unfold semLoadA at hs
  simp only [Option.bind_eq_some_iff] at hs
  obtain ⟨⟨r, p, i, j⟩, htg, hs⟩ := hs
  simp only [Env.target, Option.bind_eq_some_iff] at htg
  obtain ⟨t, hat, htg⟩ := htg
  obtain ⟨g, y, u, A, hg, hf, hget, hA, hv, hsp, φy, hry, hsub⟩ := h.rel.target htg
  simp only [hg, hget, Option.bind_some, Option.bind_eq_some_iff] at hs
  obtain ⟨xs, hxs, hs⟩ := hs
  split at hs
  case isFalse => cases hs
  case isTrue hc =>
  obtain ⟨⟨hty, hagg⟩, rfl, hlen, hcell, hno⟩ := hc
  obtain rfl := Option.some.inj hs
  unfold slRow at hxs
  split at hxs
  case h_2 => cases hxs
  rename_i f sz xs'
  obtain rfl := Option.some.inj hxs
  rw [RepV_cell rfl] at hry
  simp only [Rep] at hry
  obtain ⟨ad, cap, ψ, ch, hu, hcap, hl, hw, hor⟩ := hry
  obtain rfl : u = .slice ad xs'.length cap := by simpa using hu
  rcases hor with ⟨rfl, rfl, _⟩ | ⟨b, off, cs, T', fr, rfl, hb, hch, hfF, hfT⟩
  · cases ad with
    | none => simp [place] at hA
    | some a0 =>
      have hz : esz E.P T = 0 := by have := hlen; simp at this; omega
      have hrun : (loadVar T A).run E.P w = .ok (.agg #[]) w := by
        have hlv := run_loadCells_list (P := E.P) w A [] (fun k v hk => by simp at hk)
        simp only [List.length_nil] at hlv
        simp [loadVar, run_isAgg (tyOk_u hty), hagg, run_size (tyOk_i hty), hz, hlv]
      refine Yld.value (w' := w) (v := .agg #[]) (by unfold execOp; rw [ho]; simp [Instr.loadAt, at_eval hat, hv, Instr.sureAddr, hrun]) ?_
      rw [hz]
      obtain ⟨φ'', hr⟩ := h.rel.outVal (d := o.dst) (x := .agg (([] : List PV).drop i |>.take 0)) (v := .agg #[]) (φx := []) (RepV_agg.2 ⟨[], rfl, by simp [Rep, RepL]⟩) List.nodup_nil (by simp) (by simp)
      exact ⟨Z, φ'', hr, Stp.refl _ _, fun _ _ _ => Iff.rfl⟩
  obtain rfl := Rep_noOwn.2 _ _ _ hno hl
  have hall : ∀ c ∈ xs', c.cell1 = true := List.all_eq_true.1 hcell
  have hw1 : ∀ c ∈ xs', c.width = 1 := fun c hc => PV.cell1_width (hall c hc)
  obtain ⟨φ', hsubl, hrep⟩ := RepL_part hl hw1 i (esz E.P T) hlen
  obtain rfl : φ' = [] := List.sublist_nil.1 hsubl
  simp only [Nat.mul_one] at hrep
  have hchl := RepL_len hl hw1
  simp only [Nat.mul_one] at hchl
  have hA' : A = ⟨b, off + i * sz, none⟩ := by simp only [place, Option.some.injEq] at hA; rw [← hA]; simp
  have hvl : ((ch.drop i).take (esz E.P T)).length = esz E.P T := by rw [List.length_take, List.length_drop, hchl, Nat.min_eq_left (by omega)]
  by_cases hz : esz E.P T = 0
  · have hrun : (loadVar T A).run E.P w = .ok (.agg #[]) w := by
      have hlv := run_loadCells_list (P := E.P) w A [] (fun k v hk => by simp at hk)
      simp only [List.length_nil] at hlv
      simp [loadVar, run_isAgg (tyOk_u hty), hagg, run_size (tyOk_i hty), hz, hlv]
    refine Yld.value (w' := w) (v := .agg #[]) (by unfold execOp; rw [ho]; simp [Instr.loadAt, at_eval hat, hv, Instr.sureAddr, hrun]) ?_
    rw [hz]
    obtain ⟨φ'', hr⟩ := h.rel.outVal (d := o.dst) (x := .agg ((xs'.drop i).take 0)) (v := .agg #[]) (φx := []) (RepV_agg.2 ⟨[], rfl, by simp [Rep, RepL]⟩) List.nodup_nil (by simp) (by simp)
    exact ⟨Z, φ'', hr, Stp.refl _ _, fun _ _ _ => Iff.rfl⟩
  have hsz : sz = 1 := by
    cases hx : xs' with
    | nil => rw [hx] at hlen; simp at hlen; omega
    | cons c l => have h1 := hw1 c (by rw [hx]; simp); have h2 := hw c (by rw [hx]; simp); omega
  subst hsz
  have hrun : (loadVar T A).run E.P w = .ok (.agg ((ch.drop i).take (esz E.P T)).toArray) w := by
    have hlv := run_loadCells_list (P := E.P) w A ((ch.drop i).take (esz E.P T)) (fun k v hk => by
      rw [add_lit hsp, hA']
      have hk2 : ch[i + k]? = some v := by
        rw [List.getElem?_take] at hk
        split at hk
        · rw [List.getElem?_drop] at hk; exact hk
        · cases hk
      have := hch _ _ hk2
      simp only [World.cell?, hb]
      rw [show off + i * 1 + k = off + (i + k) by omega]
      simpa using this)
    rw [hvl] at hlv
    simp [loadVar, run_isAgg (tyOk_u hty), hagg, run_size (tyOk_i hty), hlv]
  refine Yld.value (w' := w) (v := .agg ((ch.drop i).take (esz E.P T)).toArray) (by unfold execOp; rw [ho]; simp [Instr.loadAt, at_eval hat, hv, Instr.sureAddr, hrun]) ?_
  obtain ⟨φ'', hr⟩ := h.rel.outVal (d := o.dst) (x := .agg ((xs'.drop i).take (esz E.P T))) (v := .agg ((ch.drop i).take (esz E.P T)).toArray) (φx := [])
    (RepV_agg.2 ⟨_, rfl, by simp only [Rep]; exact ⟨hrep, fun c hc => hall c (List.mem_of_mem_drop (List.mem_of_mem_take hc))⟩⟩) List.nodup_nil (by simp) (by simp)
  exact ⟨Z, φ'', hr, Stp.refl _ _, fun _ _ _ => Iff.rfl⟩
end Go.V
