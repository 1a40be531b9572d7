/- Operations on memory: new variables, loads, stores, addresses. -/
import Derived.Test.YthbmifpfhdlicaaVH
import Derived.Laws.Cells
import Derived.Laws.Slices
namespace Go.V
set_option linter.unusedVariables false
set_option linter.unusedSimpArgs false
variable {X : Cx} {Z : Nat → Prop} {w : World} {φ : Tmp → List Nat} {tm : Tmp → Value} {F : RF}

def Zn (Z : Nat → Prop) (w : World) : Nat → Prop := fun b => Z b ∨ b = w.heap.size
theorem keeps_alloc (w : World) (Z : Nat → Prop) (o : Obj) (φ : List Nat) : Keeps w (w.alloc o) Z (Zn Z w) φ := fun b hb _ =>
  ⟨⟨.inl, fun h => h.resolve_right (by omega)⟩, RowKit.Below.heap_alloc _ _ _ hb⟩
theorem Rel.alloc (h : Rel X Z w φ tm F) (o : Obj) : Rel X (Zn Z w) (w.alloc o) φ tm F :=
  h.keep fun b hb _ => ⟨⟨.inl, fun h => h.resolve_right (by omega)⟩, RowKit.Below.heap_alloc _ _ _ hb⟩
theorem zok_alloc {mine : Nat → Prop} : ZOk mine w Z (Zn Z w) := fun b hb _ => ⟨.inl, fun h => h.resolve_right (by omega)⟩
theorem heap_new (w : World) (o : Obj) : (w.alloc o).heap[w.heap.size]? = some o := by
  show (w.heap.push o)[w.heap.size]? = _
  simp

theorem Rel.lt (h : Rel X Z w φ tm F) {t : Tmp} {b : Nat} (hb : b ∈ φ t) : b < w.heap.size ∧ Z b := by
  cases hs : F.slot t with
  | val x => exact RepV_lt (h.vals t x hs) b hb
  | dead => rw [h.rest t (by simp [hs])] at hb; simp at hb
  | pl r p k n => rw [h.rest t (by simp [hs])] at hb; simp at hb

theorem Rel.newVal (h : Rel X Z w φ tm F) {d : Option Tmp} {o : Obj} {x : PV} {v : Value} {φx : List Nat} (hr : RepV (w.alloc o) (Zn Z w) x (w.heap.size :: φx) v) (hnd : φx.Nodup)
    (hm : ∀ b ∈ φx, X.mine b) (hap : ∀ u, ∀ b ∈ φx, b ∉ φ u) (hlt : ∀ b ∈ φx, b < w.heap.size) (hnew : X.mine w.heap.size) : Out X Z w tm d (setD F d (.val x)) v (w.alloc o) := by
  obtain ⟨φ', hr'⟩ := (h.alloc o).outVal (d := d) hr (List.nodup_cons.2 ⟨fun hb => absurd (hlt _ hb) (by omega), hnd⟩) (by
      intro b hb; rcases List.mem_cons.1 hb with rfl | hb
      · exact hnew
      · exact hm b hb) (by
      intro u b hb; rcases List.mem_cons.1 hb with rfl | hb
      · exact fun hb2 => absurd (h.lt hb2).1 (by omega)
      · exact hap u b hb)
  exact ⟨_, φ', hr', Stp.alloc _ _, zok_alloc⟩

theorem RepL_lt' {w : World} {Z : Nat → Prop} {xs φ vs} (h : RepL w Z xs φ vs) : ∀ b ∈ φ, b < w.heap.size := fun b hb => (Rep_lt.2 _ _ _ h b hb).1

/-- A new variable. -/
theorem Rel.newPtr (h : Rel X Z w φ tm F) {d : Option Tmp} {cs : List PV} {φc : List Nat} {arr : Array Value} {T : TypeId} (hl : RepL w Z cs φc arr.toList) (hc : ∀ c ∈ cs, c.cell1 = true)
    (hnd : φc.Nodup) (hm : ∀ b ∈ φc, X.mine b) (hap : ∀ u, ∀ b ∈ φc, b ∉ φ u) (hnew : X.mine w.heap.size) :
    Out X Z w tm d (setD F d (.val (.ptr true cs))) (.pointer (some ⟨w.heap.size, 0, none⟩)) (w.alloc (.cells arr T)) := by
  refine h.newVal (φx := φc) ((RepV_cell rfl).2 ?_) hnd hm hap (RepL_lt' hl) hnew
  simp only [Rep]
  exact ⟨_, arr, T, (0, 0), φc, rfl, heap_new _ _, (keeps_alloc w Z _ φc).repL (fun _ h => h) hl, hc, fun h => (by cases h), fun _ => ⟨.inr rfl, rfl, rfl⟩⟩

/-- A new row. -/
theorem Rel.newSl (h : Rel X Z w φ tm F) {d : Option Tmp} {xs : List PV} {φc : List Nat} {ch : List Value} {arr : Array Value} {T : TypeId} {sz cap : Nat} (hl : RepL w Z xs φc ch)
    (hw : ∀ x ∈ xs, x.width = sz) (h0 : 0 < sz) (hch : ∀ (i : Nat) (v : Value), ch[i]? = some v → arr[i]? = some v) (hcap : cap * sz ≤ arr.size) (hlen : xs.length ≤ cap)
    (hnd : φc.Nodup) (hm : ∀ b ∈ φc, X.mine b) (hap : ∀ u, ∀ b ∈ φc, b ∉ φ u) (hnew : X.mine w.heap.size) :
    Out X Z w tm d (setD F d (.val (.sl true sz xs))) (.slice (some ⟨w.heap.size, 0, none⟩) xs.length cap) (w.alloc (.cells arr T)) := by
  refine h.newVal (φx := φc) ((RepV_cell rfl).2 ?_) hnd hm hap (RepL_lt' hl) hnew
  simp only [Rep]
  exact ⟨_, cap, φc, ch, rfl, ⟨h0, hlen⟩, (keeps_alloc w Z _ φc).repL (fun _ h => h) hl, hw,
    .inr ⟨_, 0, arr, T, (0, 0), rfl, heap_new _ _, by simpa using hch, fun h => (by cases h), fun _ => ⟨.inr rfl, rfl, rfl, by simpa using hcap, hlen⟩⟩⟩

/-! ### Types, as the model asks for them -/
theorem run_size {P : Program} {T : TypeId} (h : (P.info? T).isSome = true) (w : World) : (sizeOf T).run P w = .ok (esz P T) w := by
  obtain ⟨i, hi⟩ := Option.isSome_iff_exists.1 h
  simp [sizeOf, typeInfo, esz, hi]
theorem run_isAgg {P : Program} {T : TypeId} (h : (P.underlying T).isSome = true) (w : World) : (isAgg T).run P w = .ok (aggT P T) w := by
  obtain ⟨d, hd⟩ := Option.isSome_iff_exists.1 h
  simp only [isAgg, Sem.run_bind, run_underlying hd w, Result.andThen_ok, aggT, hd]
  cases d <;> rfl
def tyOk (P : Program) (T : TypeId) : Bool := (P.underlying T).isSome && (P.info? T).isSome
theorem tyOk_u {P : Program} {T : TypeId} (h : tyOk P T = true) : (P.underlying T).isSome = true := by simp only [tyOk, Bool.and_eq_true] at h; exact h.1
theorem tyOk_i {P : Program} {T : TypeId} (h : tyOk P T = true) : (P.info? T).isSome = true := by simp only [tyOk, Bool.and_eq_true] at h; exact h.2

theorem cellsV {w Z y φ v} (h : RepV w Z y φ v) (ht : ∀ xs, y ≠ .tup xs) : RepL w Z y.cells φ v.cells.toList ∧ ∀ c ∈ y.cells, c.cell1 = true := by
  cases y with
  | tup xs => exact absurd rfl (ht xs)
  | agg cs =>
    rw [RepV_agg] at h
    obtain ⟨vs, rfl, hr⟩ := h
    exact ⟨by simpa [Value.cells] using hr.cellsL, PV.cells_cell1 hr⟩
  | _ =>
    rw [RepV_cell rfl] at h
    have ho := Rep_oneCell h rfl
    have : v.cells.toList = [v] := by cases v <;> first | rfl | simp [one] at ho
    rw [this]
    exact ⟨h.cellsL, PV.cells_cell1 h⟩

/-! ### alloc, box -/
def semAlloc (E : Env) (o : Oper) (T : TypeId) (F : RF) : Option RF := (zeroCs E.P T).map fun cs => setD F o.dst (.val (.ptr true cs))
theorem zeroCs_rep {P : Program} {T : TypeId} {cs : List PV} {w : World} {Z : Nat → Prop} (h : zeroCs P T = some cs) :
    ∃ z, (zeroValue T).run P w = .ok z w ∧ RepL w Z cs [] z.cells.toList ∧ ∀ c ∈ cs, c.cell1 = true := by
  unfold zeroCs at h
  split at h
  · rename_i i hi
    split at h
    · rename_i z hz
      obtain ⟨h1, h2⟩ := ofCells_rep (w := w) (Z := Z) h
      exact ⟨z, by simp [zeroValue, typeInfo, hi, hz], h1, h2⟩
    · cases h
  · cases h
theorem semAlloc_ok {E : Env} {o : Oper} {T : TypeId} {a : Act} {F' : RF} (h : Pre E X Z w φ a F) (ho : o.op = .alloc T) (hs : semAlloc E o T F = some F') :
    Yld E.P o a w (Out X Z w (tmOf E.nt a) o.dst F') := by
  simp only [semAlloc, Option.map_eq_some_iff] at hs
  obtain ⟨cs, hcs, rfl⟩ := hs
  obtain ⟨z, hz, hl, hc⟩ := zeroCs_rep (w := w) (Z := Z) hcs
  refine Yld.value (w' := w.alloc (.cells z.cells T)) (v := .pointer (some ⟨w.heap.size, 0, none⟩)) ?_ (h.rel.newPtr hl hc List.nodup_nil (by simp) (by simp) (h.new _ (Nat.le_refl _)))
  unfold execOp; rw [ho]; simp [Instr.alloc, hz, newVar, newRow]

def PV.notTup : PV → Bool
  | .tup _ => false
  | _ => true
theorem PV.notTup_ne {y : PV} (h : y.notTup = true) : ∀ xs, y ≠ .tup xs := by rintro xs rfl; cases h
def semBox (E : Env) (o : Oper) (T : TypeId) (x : Operand) (F : RF) : Option RF :=
  (E.tk F T x).bind fun r => if r.1.notTup = true then some (setD r.2 o.dst (.val (.ptr true r.1.cells))) else none
theorem semBox_ok {E : Env} {o : Oper} {T : TypeId} {x : Operand} {a : Act} {F' : RF} (h : Pre E X Z w φ a F) (ho : o.op = .box T x) (hs : semBox E o T x F = some F') :
    Yld E.P o a w (Out X Z w (tmOf E.nt a) o.dst F') := by
  simp only [semBox, Option.bind_eq_some_iff] at hs
  obtain ⟨⟨y, F1⟩, ht, hs⟩ := hs
  split at hs
  case isFalse => cases hs
  case isTrue hnt =>
  obtain rfl := Option.some.inj hs
  obtain ⟨φ', φy, htk⟩ := tk_rep h ht
  obtain ⟨hl, hc⟩ := cellsV htk.rep (PV.notTup_ne hnt)
  refine Yld.value (w' := w.alloc (.cells (a.eval x).cells T)) (v := .pointer (some ⟨w.heap.size, 0, none⟩)) ?_ (htk.rel.newPtr hl hc htk.nodup (htk.mine h) htk.apart (h.new _ (Nat.le_refl _)))
  unfold execOp; rw [ho]; simp [Instr.box, newVar, newRow]

/-! ### load -/
def Env.target (E : Env) (F : RF) (x : Operand) : Option (Tmp × Path × Nat × Nat) := (E.at x).bind F.target
def semLoad (E : Env) (o : Oper) (T : TypeId) (x : Operand) (F : RF) : Option RF :=
  if tyOk E.P T = true then
    match E.target F x with
    | some (r, p, i, j) =>
      match F.slot r with
      | .val g => (g.get? p).bind fun y =>
        if aggT E.P T = true then (y.row i).bind fun row =>
          if j + esz E.P T ≤ row.length then
            let c := PV.agg ((row.drop j).take (esz E.P T))
            if c.noOwn = true then some (setD F o.dst (.val c)) else if o.dst = some r then none else some (setD F o.dst (.pl r p (.cells i j (esz E.P T) (F.cnt r)) (F.ver r)))
          else none
        else (y.at? i j).bind fun c =>
          if c.noOwn = true then some (setD F o.dst (.val c)) else if o.dst = some r then none else some (setD F o.dst (.pl r (p ++ [(i, j)]) .self (F.ver r)))
      | _ => none
    | none => none
  else none

theorem add_lit {A : Addr} (h : A.spot = none) (n : Nat) : A.add n = ⟨A.block, A.off + n, none⟩ := by
  obtain ⟨b, o, s⟩ := A
  simp only at h; subst h
  unfold Addr.add; split
  · rename_i e; subst e; rfl
  · rfl

theorem semLoad_ok {E : Env} {o : Oper} {T : TypeId} {x : Operand} {a : Act} {F' : RF} (h : Pre E X Z w φ a F) (ho : o.op = .load T x) (hs : semLoad E o T x F = some F') :
    Yld E.P o a w (Out X Z w (tmOf E.nt a) o.dst F') := by
  unfold semLoad at hs
  split at hs
  case isFalse => cases hs
  case isTrue hty =>
  split at hs
  case h_2 => cases hs
  rename_i r p i j htg
  simp only [Env.target, Option.bind_eq_some_iff] at htg
  obtain ⟨t, hat, htg⟩ := htg
  obtain ⟨g, y, u, A, hg, hf, hget, hA, hv, hsp, φy, hry, hsub⟩ := h.rel.target htg
  rw [hg] at hs
  simp only [hget, Option.bind_some] at hs
  have hexec : ∀ v, (loadVar T A).run E.P w = .ok v w → (execOp a.eval o).run E.P w = .ok (.value v) w := by
    intro v hl; unfold execOp; rw [ho]; simp [Instr.loadAt, at_eval hat, hv, Instr.sureAddr, hl]
  split at hs
  · rename_i hagg
    simp only [Option.bind_eq_some_iff] at hs
    obtain ⟨row, hrow, hs⟩ := hs
    split at hs
    case isFalse => cases hs
    case isTrue hlen =>
    rw [RepV_cell (row_cell1 hrow)] at hry
    obtain ⟨vs, φ', hs', hvl, hcells, hrep⟩ := row_rep hry hrow hlen hA
    have hrun : (loadVar T A).run E.P w = .ok (.agg vs.toArray) w := by
      simp only [loadVar, Sem.run_bind, run_isAgg (tyOk_u hty), Result.andThen_ok, hagg, if_true, run_size (tyOk_i hty)]
      have hlv := run_loadCells_list (P := E.P) w A vs (fun k v hk => by
        have hlt : k < esz E.P T := by rw [← hvl]; exact (List.getElem?_eq_some_iff.1 hk).1
        rw [add_lit hsp, hcells k hlt]; exact hk)
      rw [hvl] at hlv
      simp [hlv]
    refine Yld.value (hexec _ hrun) ?_
    split at hs
    · rename_i hno
      obtain rfl := Option.some.inj hs
      obtain rfl := Rep_noOwn.1 _ _ _ hno hrep
      obtain ⟨φ'', hr⟩ := h.rel.outVal (d := o.dst) (RepV_agg.2 ⟨vs, rfl, hrep⟩) List.nodup_nil (by simp) (by simp)
      exact ⟨Z, φ'', hr, Stp.refl _ _, fun _ _ _ => Iff.rfl⟩
    · split at hs
      · cases hs
      · rename_i hd
        obtain rfl := Option.some.inj hs
        obtain ⟨φ'', hr⟩ := h.rel.outPl (d := o.dst) (r := r) (p := p) (k := .cells i j (esz E.P T) (F.cnt r)) (v := .agg vs.toArray) hd
          ⟨g, y, u, hg, hf, by simp only [viewOk]; exact ⟨row, A, vs, hrow, hlen, hA, hvl, hcells, rfl⟩⟩
        exact ⟨Z, φ'', hr, Stp.refl _ _, fun _ _ _ => Iff.rfl⟩
  · rename_i hagg
    simp only [Option.bind_eq_some_iff] at hs
    obtain ⟨c, hc, hs⟩ := hs
    rw [RepV_cell (at_cell1 hc)] at hry
    obtain ⟨hc1, A', cv, φ₁, φc, φ₂, hA', hcv, _, rfl, hrc, _⟩ := at_rep hry hc
    obtain rfl : A' = A := by rw [hA] at hA'; exact (Option.some.inj hA').symm
    have hrun : (loadVar T A').run E.P w = .ok cv w := by
      simp only [loadVar, Sem.run_bind, run_isAgg (tyOk_u hty), Result.andThen_ok, hagg, run_load, hcv]
      simp [hcv]
    refine Yld.value (hexec _ hrun) ?_
    split at hs
    · rename_i hno
      obtain rfl := Option.some.inj hs
      obtain rfl := Rep_noOwn.1 _ _ _ hno hrc
      obtain ⟨φ'', hr⟩ := h.rel.outVal (d := o.dst) ((RepV_cell hc1).2 hrc) List.nodup_nil (by simp) (by simp)
      exact ⟨Z, φ'', hr, Stp.refl _ _, fun _ _ _ => Iff.rfl⟩
    · rename_i hno
      split at hs
      · cases hs
      · rename_i hd
        obtain rfl := Option.some.inj hs
        obtain ⟨φ'', hr⟩ := h.rel.outPl (d := o.dst) (r := r) (p := p ++ [(i, j)]) (k := .self) (v := cv) hd
          ⟨g, c, cv, hg, by rw [follow_append, hf]; simp [follow, hc, hA, hcv], rfl, noOwn_leaf (by simpa using hno)⟩
        exact ⟨Z, φ'', hr, Stp.refl _ _, fun _ _ _ => Iff.rfl⟩

/-! ### store -/
def semStore (E : Env) (o : Oper) (T : TypeId) (x v : Operand) (F : RF) : Option RF :=
  if tyOk E.P T = true ∧ o.dst = none then
    (E.tk F T v).bind fun tk =>
      if tk.1.notTup = true ∧ tk.1.cells.length = esz E.P T then
        match E.target tk.2 x with
        | some (r, p, i, j) =>
          match tk.2.slot r with
          | .val g => (PV.putCs p i g j tk.1.cells).map fun g' => tk.2.re r g'
          | _ => none
        | none => none
      else none
  else none

theorem place0 {g : PV} {gv : Value} {i o : Nat} {A : Addr} (h : place g gv i o = some A) : ∃ A0, place g gv i 0 = some A0 ∧ A = ⟨A0.block, A0.off + o, none⟩ := by
  cases g with
  | sl f sz xs =>
    cases gv with
    | slice a l c => cases a with
      | none => simp [place] at h
      | some a => exact ⟨_, rfl, place_at (g := .sl f sz xs) (gv := .slice (some a) l c) (i := i) rfl h⟩
    | _ => simp [place] at h
  | ptr f cs =>
    cases gv with
    | pointer a => cases a with
      | none => simp [place] at h
      | some a => exact ⟨_, rfl, place_at (g := .ptr f cs) (gv := .pointer (some a)) (i := i) rfl h⟩
    | _ => simp [place] at h
  | _ => simp [place] at h

theorem semStore_ok {E : Env} {o : Oper} {T : TypeId} {x v : Operand} {a : Act} {F' : RF} (h : Pre E X Z w φ a F) (ho : o.op = .store T x v) (hs : semStore E o T x v F = some F') :
    Yld E.P o a w (Out X Z w (tmOf E.nt a) o.dst F') := by
  unfold semStore at hs
  split at hs
  case isFalse => cases hs
  case isTrue hty =>
  obtain ⟨hty, hdn⟩ := hty
  simp only [Option.bind_eq_some_iff] at hs
  obtain ⟨⟨y, F1⟩, ht, hs⟩ := hs
  split at hs
  case isFalse => cases hs
  case isTrue hc =>
  obtain ⟨hnt, hlen⟩ := hc
  simp only at hs hnt hlen
  split at hs
  case h_2 => cases hs
  rename_i r p i j htg
  simp only [Env.target, Option.bind_eq_some_iff] at htg
  obtain ⟨t, hat, htg⟩ := htg
  obtain ⟨φ', φy, htk⟩ := tk_rep h ht
  obtain ⟨g, yy, u, A, hg, hf, hget, hA, hv, hsp, _⟩ := htk.rel.target htg
  rw [hg] at hs
  simp only [Option.map_eq_some_iff] at hs
  obtain ⟨g', hput, rfl⟩ := hs
  obtain ⟨hl, hc1⟩ := cellsV htk.rep (PV.notTup_ne hnt)
  obtain ⟨A0, hA0, rfl⟩ := place0 hA
  obtain ⟨φ'', hrel, hstp, k5, k6, k7⟩ := htk.rel.store hg hput hl hc1 htk.nodup htk.apart (htk.mine h) hf hA0
  have hcl : (a.eval v).cells.size = esz E.P T := by
    have := RepL_len (sz := 1) hl (fun c hcm => PV.cell1_width (hc1 c hcm))
    simp only [Array.length_toList, Nat.mul_one] at this; omega
  have hrun : (storeVar T ⟨A0.block, A0.off + j, none⟩ (a.eval v)).run E.P w = .ok () (w.setCells A0.block (A0.off + j) (a.eval v).cells.toList) := by
    simp only [storeVar, Sem.run_bind, run_size (tyOk_i hty), Result.andThen_ok, hcl, ne_eq, not_true_eq_false, if_false]
    have := run_storeCells_cells (P := E.P) A0.block (A0.off + j) (a.eval v).cells.toList 0 w (by simpa using k5) (by simpa using k6) k7
    simp only [Nat.add_zero] at this
    simp [this]
  refine Yld.skip (w' := w.setCells A0.block (A0.off + j) (a.eval v).cells.toList) ?_ ?_
  · unfold execOp; rw [ho]; simp [Instr.storeAt, at_eval hat, hv, Instr.sureAddr, hrun]
  · rw [hdn]; exact ⟨Z, φ'', hrel, hstp, fun _ _ _ => Iff.rfl⟩
end Go.V
