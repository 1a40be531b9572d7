/- Operations on memory: make, literals, append. -/
import Derived.Test.YthbmifpfhdlicaaVJ
import Derived.Laws.MakeOwn
import Derived.Laws.Append
import Derived.Laws.CopyRow
import Derived.Laws.Tables
namespace Go.V
set_option linter.unusedVariables false
set_option linter.unusedSimpArgs false
variable {X : Cx} {Z : Nat → Prop} {w : World} {φ : Tmp → List Nat} {tm : Tmp → Value} {F : RF}

/-! ### make -/
/-- one zero element of a type -/
def zeroE (P : Program) (T : TypeId) : Option PV :=
  (zeroCs P T).bind fun cs => if cs.length = esz P T ∧ 0 < cs.length then (if aggT P T = true then some (.agg cs) else match cs with | [c] => some c | _ => none) else none

theorem madeCells_get {z : List Value} {n : Nat} (h0 : 0 < z.length) : ∀ i, i < n * z.length → (madeCells z.toArray (n * z.length))[i]? = z[i % z.length]? := by
  intro i hi
  have hm : i % z.length < z.length := Nat.mod_lt _ h0
  simp [madeCells, hi, List.getElem?_eq_getElem hm]
theorem flat_get {z : List Value} (h0 : 0 < z.length) : ∀ n i, i < n * z.length → (List.replicate n z).flatten[i]? = z[i % z.length]? := by
  intro n
  induction n with
  | zero => intro i hi; simp at hi
  | succ n ih =>
    intro i hi
    rw [List.replicate_succ, List.flatten_cons]
    by_cases h : i < z.length
    · rw [List.getElem?_append_left h, Nat.mod_eq_of_lt h]
    · rw [List.getElem?_append_right (by omega), ih (i - z.length) (by rw [Nat.add_mul] at hi; omega)]
      congr 1
      rw [← Nat.mod_eq_sub_mod (by omega)]
theorem RepL_replicate {w Z x us} (h : Rep w Z x [] us) : ∀ n, RepL w Z (List.replicate n x) [] (List.replicate n us).flatten
  | 0 => RepL_nil.2 ⟨rfl, rfl⟩
  | n + 1 => by
    rw [List.replicate_succ, List.replicate_succ, List.flatten_cons]
    exact RepL_cons.2 ⟨[], [], us, _, rfl, rfl, h, RepL_replicate h n⟩

theorem zeroE_rep {P : Program} {T : TypeId} {x : PV} {w : World} {Z : Nat → Prop} (h : zeroE P T = some x) :
    ∃ i z, P.info? T = some i ∧ i.zero = some z ∧ Rep w Z x [] z.cells.toList ∧ x.width = esz P T ∧ z.cells.size = esz P T ∧ 0 < esz P T := by
  simp only [zeroE, Option.bind_eq_some_iff] at h
  obtain ⟨cs, hcs, h⟩ := h
  split at h
  case isFalse => cases h
  case isTrue hc =>
  unfold zeroCs at hcs
  split at hcs
  case h_2 => cases hcs
  rename_i i hi
  split at hcs
  case h_2 => cases hcs
  rename_i z hz
  obtain ⟨h1, h2⟩ := ofCells_rep (w := w) (Z := Z) hcs
  have hl := RepL_len (sz := 1) h1 (fun c hcm => PV.cell1_width (h2 c hcm))
  simp only [Array.length_toList, Nat.mul_one] at hl
  refine ⟨i, z, hi, hz, ?_⟩
  split at h
  · obtain rfl := Option.some.inj h
    exact ⟨by simp only [Rep]; exact ⟨h1, h2⟩, hc.1, by omega, by omega⟩
  · split at h
    · rename_i c
      obtain rfl := Option.some.inj h
      simp only [RepL_cons, RepL_nil] at h1
      obtain ⟨φ₁, φ₂, v₁, v₂, e1, e2, h1, rfl, rfl⟩ := h1
      simp only [List.append_nil] at e1 e2
      rw [e2]; subst e1
      exact ⟨h1, by rw [PV.cell1_width (h2 c (by simp))]; simpa using hc.1, by omega, by omega⟩
    · cases h

def semMake (E : Env) (o : Oper) (T : TypeId) (l c : Operand) (F : RF) : Option RF :=
  match E.P.underlying T with
  | some (.slice e) =>
    match E.vl F l, E.vl F c with
    | some (.int _ n), some (.int _ m) =>
      if 0 ≤ n ∧ n ≤ m ∧ (ebytes E.P e : Int) * m ≤ 281474976710656 ∧ m ≤ 9223372036854775807 then
        (zeroE E.P e).map fun x => setD F o.dst (.val (.sl true (esz E.P e) (List.replicate n.toNat x)))
      else none
    | _, _ => none
  | _ => none
theorem semMake_ok {E : Env} {o : Oper} {T : TypeId} {l c : Operand} {a : Act} {F' : RF} (h : Pre E X Z w φ a F) (ho : o.op = .makeSlice T l c) (hs : semMake E o T l c F = some F') :
    Yld E.P o a w (Out X Z w (tmOf E.nt a) o.dst F') := by
  unfold semMake at hs
  split at hs
  case h_2 => cases hs
  rename_i e hu
  split at hs
  case h_2 => cases hs
  rename_i kl n kc m hl hc
  split at hs
  case isFalse => cases hs
  case isTrue hb =>
  simp only [Option.map_eq_some_iff] at hs
  obtain ⟨x, hx, rfl⟩ := hs
  obtain ⟨i, z, hi, hz, hrep, hwd, hzs, hpos⟩ := zeroE_rep (w := w) (Z := Z) hx
  have hesz : i.size = esz E.P e := by simp [esz, hi]
  have heb : i.bytes = ebytes E.P e := by simp [ebytes, hi]
  have hrun := run_make (P := E.P) w T e i z hu hi hz kl kc n m hb.1 hb.2.1 (by rw [heb]; exact hb.2.2.1) hb.2.2.2
  refine Yld.value (w' := w.alloc (.cells (madeCells z.cells (m.toNat * i.size)) e)) (v := .slice (some ⟨w.heap.size, 0, none⟩) n.toNat m.toNat) ?_ ?_
  · unfold execOp; rw [ho]; simp [vl_eq h hl, vl_eq h hc, hrun]
  · have hzl : z.cells.toList.length = esz E.P e := by simpa using hzs
    have hmul : n.toNat * esz E.P e ≤ m.toNat * esz E.P e := Nat.mul_le_mul_right _ (by omega)
    have := h.rel.newSl (d := o.dst) (xs := List.replicate n.toNat x) (φc := []) (ch := (List.replicate n.toNat z.cells.toList).flatten) (arr := madeCells z.cells (m.toNat * i.size)) (T := e) (sz := esz E.P e) (cap := m.toNat)
      (RepL_replicate hrep _) (by intro y hy; rw [(List.mem_replicate.1 hy).2]; exact hwd) hpos ?_ (by rw [size_madeCells, hesz]; exact Nat.le_refl _) (by simp; omega) List.nodup_nil (by simp) (by simp) (h.new _ (Nat.le_refl _))
    · simpa using this
    · intro k v hk
      have hk1 := (List.getElem?_eq_some_iff.1 hk).1
      have hfl : (List.replicate n.toNat z.cells.toList).flatten.length = n.toNat * esz E.P e := by simp [List.length_flatten, hzs]
      rw [flat_get (by omega) _ _ (by rw [hzl]; omega)] at hk
      have := madeCells_get (z := z.cells.toList) (n := m.toNat) (by omega) k (by rw [hzl]; omega)
      simp only [Array.toArray_toList, hzl] at this
      rw [hesz, this]; rw [hzl] at hk; exact hk

/-! ### Literals -/
/-- parts taken out one by one -/
def Env.tks (E : Env) (T : Nat → TypeId) : RF → List (Nat × Operand) → Option (List PV × RF)
  | F, [] => some ([], F)
  | F, (i, x) :: ps => (E.tk F (T i) x).bind fun r => (E.tks T r.2 ps).map fun q => (r.1 :: q.1, q.2)

structure TakenL (X : Cx) (Z : Nat → Prop) (w : World) (φ : Tmp → List Nat) (tm : Tmp → Value) (F' : RF) (ys : List PV) (vs : List Value) (φ' : Tmp → List Nat) (φy : List Nat) : Prop where
  rel : Rel X Z w φ' tm F'
  rep : RepTs w Z ys φy vs
  nodup : φy.Nodup
  was : ∀ b ∈ φy, ∃ r, b ∈ φ r
  less : ∀ r b, b ∈ φ' r → b ∈ φ r
  apart : ∀ r, ∀ b ∈ φy, b ∉ φ' r

theorem tks_ok {E : Env} {a : Act} {T : Nat → TypeId} : ∀ (ps : List (Nat × Operand)) (F : RF) (φ : Tmp → List Nat) (ys : List PV) (F' : RF), Pre E X Z w φ a F →
    E.tks T F ps = some (ys, F') → (∀ y ∈ ys, y.notTup = true) → ∃ φ' φy, TakenL X Z w φ (tmOf E.nt a) F' ys (ps.map fun p => a.eval p.2) φ' φy
  | [], F, φ, ys, F', h, ht, hnt => by
    simp only [Env.tks, Option.some.injEq, Prod.mk.injEq] at ht
    obtain ⟨rfl, rfl⟩ := ht
    exact ⟨φ, [], h.rel, by simp [RepTs], List.nodup_nil, by simp, fun _ _ h => h, by simp⟩
  | (i, x) :: ps, F, φ, ys, F', h, ht, hnt => by
    simp only [Env.tks, Option.bind_eq_some_iff, Option.map_eq_some_iff] at ht
    obtain ⟨⟨y, F1⟩, h1, ⟨ys', F2⟩, h2, he⟩ := ht
    simp only [Prod.mk.injEq] at he
    obtain ⟨rfl, rfl⟩ := he
    obtain ⟨φ1, φy, ht1⟩ := tk_rep h h1
    have hp1 : Pre E X Z w φ1 a F1 := ⟨ht1.rel, h.new, h.glob⟩
    obtain ⟨φ2, φys, ht2⟩ := tks_ok ps F1 φ1 ys' F2 hp1 h2 (fun y hy => hnt y (by simp [hy]))
    refine ⟨φ2, φy ++ φys, ht2.rel, ?_, ?_, ?_, fun r b hb => ht1.less r b (ht2.less r b hb), ?_⟩
    · refine RepTs_cons.2 ⟨φy, φys, a.eval x, _, rfl, rfl, ?_, ht2.rep⟩
      have := ht1.rep
      rcases PV.tup_or y with ⟨xs, rfl⟩ | ⟨e, _⟩
      · exact absurd (hnt (.tup xs) (by simp)) (by simp [PV.notTup])
      · rwa [e] at this
    · refine List.nodup_append.2 ⟨ht1.nodup, ht2.nodup, fun b hb c hc e => ?_⟩
      subst e
      obtain ⟨r, hr⟩ := ht2.was b hc
      exact ht1.apart r b hb hr
    · intro b hb
      rcases List.mem_append.1 hb with hb | hb
      · exact ht1.was b hb
      · obtain ⟨r, hr⟩ := ht2.was b hb; exact ⟨r, ht1.less r b hr⟩
    · intro r b hb
      rcases List.mem_append.1 hb with hb | hb
      · exact fun hb2 => ht1.apart r b hb (ht2.less r b hb2)
      · exact ht2.apart r b hb

/-- The cells of values, one behind the other. -/
def cellsOf (vs : List Value) : List Value := vs.flatMap fun v => v.cells.toList
theorem RepTs_cells {w Z} : ∀ {ys φ vs}, (∀ y ∈ ys, y.notTup = true) → RepTs w Z ys φ vs → RepL w Z ys φ (cellsOf vs)
  | [], φ, vs, _, h => by simp only [RepTs] at h; rw [h.1, h.2]; simp [cellsOf, RepL]
  | y :: ys, φ, vs, hn, h => by
    rw [RepTs_cons] at h
    obtain ⟨φ₁, φ₂, v, vs', rfl, rfl, h1, h2⟩ := h
    refine RepL_cons.2 ⟨φ₁, φ₂, v.cells.toList, cellsOf vs', rfl, rfl, ?_, RepTs_cells (fun y hy => hn y (by simp [hy])) h2⟩
    cases y with
    | tup xs => exact absurd (hn (.tup xs) (by simp)) (by simp [PV.notTup])
    | agg cs => simp only [RepV1] at h1; obtain ⟨us, rfl, h1⟩ := h1; simpa [Value.cells] using h1
    | _ =>
      have ho := Rep_oneCell (show Rep w Z _ φ₁ [v] from h1) rfl
      have : v.cells.toList = [v] := by cases v <;> first | rfl | simp [one] at ho
      rw [this]; exact h1
theorem RepTs_width {w Z sz} : ∀ {ys φ vs}, (∀ y ∈ ys, y.notTup = true) → (∀ y ∈ ys, y.width = sz) → RepTs w Z ys φ vs → ∀ v ∈ vs, v.cells.size = sz
  | [], φ, vs, _, _, h => by simp only [RepTs] at h; rw [h.2]; simp
  | y :: ys, φ, vs, hn, hw, h => by
    rw [RepTs_cons] at h
    obtain ⟨φ₁, φ₂, v, vs', rfl, rfl, h1, h2⟩ := h
    intro u hu
    rcases List.mem_cons.1 hu with rfl | hu
    · have hc := RepTs_cells (w := w) (Z := Z) (ys := [y]) (φ := φ₁) (vs := [u]) (fun z hz => hn z (by simp at hz; simp [hz])) (RepTs_cons.2 ⟨φ₁, [], u, [], by simp, rfl, h1, by simp [RepTs]⟩)
      have hl := RepL_len (sz := sz) hc (fun z hz => hw z (by simp at hz; simp [hz]))
      simpa [cellsOf] using hl
    · exact RepTs_width (fun y hy => hn y (by simp [hy])) (fun y hy => hw y (by simp [hy])) h2 u hu

theorem foldl_setIf {off : Nat} : ∀ (cs : List Value) (k : Nat) (cells : Array Value), off + k + cs.length ≤ cells.size →
    ((cs.zipIdx k).foldl (fun (acc : Array Value) (p : Value × Nat) => acc.setIfInBounds (off + p.2) p.1) cells).toList = cells.toList.take (off + k) ++ cs ++ cells.toList.drop (off + k + cs.length)
  | [], k, cells, _ => by simp
  | c :: cs, k, cells, h => by
    simp only [List.zipIdx_cons, List.foldl_cons, List.length_cons] at h ⊢
    rw [foldl_setIf cs (k + 1) _ (by simp; omega)]
    rw [Array.toList_setIfInBounds]
    have e := list_seg_step cells.toList (off + k) c cs (by simp; omega)
    simpa [Nat.add_assoc] using e

/-- parts laid over cells, each at its place, the places rising -/
def goV (place : Nat → Option (Nat × Nat)) : Nat → List Value → List (Nat × Value) → Option (List Value)
  | _, zs, [] => some zs
  | pos, zs, (i, v) :: ps => match place i with
    | some (off, size) => if pos ≤ off ∧ off - pos + size ≤ zs.length ∧ v.cells.size = size then (goV place (off + size) (zs.drop (off - pos + size)) ps).map fun r => zs.take (off - pos) ++ v.cells.toList ++ r else none
    | none => none

theorem fill_go {place : Nat → Option (Nat × Nat)} : ∀ (ps : List (Nat × Value)) (pos : Nat) (cells : Array Value) (out : List Value), goV place pos (cells.toList.drop pos) ps = some out → pos ≤ cells.size →
    ∃ arr, Instr.fill place cells ps = some arr ∧ arr.toList = cells.toList.take pos ++ out
  | [], pos, cells, out, h, hp => by
    simp only [goV, Option.some.injEq] at h
    exact ⟨cells, rfl, by rw [← h, List.take_append_drop]⟩
  | (i, v) :: ps, pos, cells, out, h, hp => by
    simp only [goV] at h
    split at h
    case h_2 => cases h
    rename_i off size hpl
    split at h
    case isFalse => cases h
    case isTrue hc =>
    obtain ⟨h1, h2, h3⟩ := hc
    simp only [Option.map_eq_some_iff] at h
    obtain ⟨r, hr, rfl⟩ := h
    simp only [List.length_drop, Array.length_toList] at h2
    have hfold : ∀ (cells : Array Value), off + v.cells.size ≤ cells.size → (v.cells.zipIdx.foldl (fun cs (x : Value × Nat) => cs.setIfInBounds (off + x.2) x.1) cells).toList =
        cells.toList.take off ++ v.cells.toList ++ cells.toList.drop (off + v.cells.size) := by
      intro cells hle
      have := foldl_setIf (off := off) v.cells.toList 0 cells (by simpa using hle)
      rw [← Array.foldl_toList]
      simpa using this
    have hle : off + v.cells.size ≤ cells.size := by omega
    have hf := hfold cells hle
    generalize hc' : v.cells.zipIdx.foldl (fun cs (x : Value × Nat) => cs.setIfInBounds (off + x.2) x.1) cells = cells' at hf
    have hlen : (cells.toList.take off ++ v.cells.toList).length = off + size := by simp; omega
    have hsz : cells'.size = cells.size := by
      have := congrArg List.length hf
      simp only [Array.length_toList, List.length_append, List.length_take, List.length_drop] at this
      omega
    obtain ⟨arr, ha, hal⟩ := fill_go ps (off + size) cells' r (by
      rw [hf, h3, List.drop_append_of_le_length (by omega), ← hlen, List.drop_length, List.nil_append, hlen]
      rw [List.drop_drop] at hr
      rw [show pos + (off - pos + size) = off + size by omega] at hr
      exact hr) (by omega)
    refine ⟨arr, ?_, ?_⟩
    · simp only [Instr.fill, hpl]
      rw [if_neg (by simp; omega)]
      rw [← ha, ← hc']
    · rw [hal, hf, h3, List.take_append_of_le_length (by omega), ← hlen, List.take_length]
      have : cells.toList.take off = cells.toList.take pos ++ (cells.toList.drop pos).take (off - pos) := by
        rw [← List.take_add]; congr 1; omega
      rw [this]; simp

theorem goV_full {sz : Nat} : ∀ (vs : List Value) (k : Nat) (zs : List Value), (∀ v ∈ vs, v.cells.size = sz) → vs.length * sz ≤ zs.length →
    goV (fun i => some (i * sz, sz)) (k * sz) zs ((List.range' k vs.length).zip vs) = some (cellsOf vs ++ zs.drop (vs.length * sz))
  | [], k, zs, _, _ => by simp [goV, cellsOf]
  | v :: vs, k, zs, hv, hl => by
    have h1 := hv v (by simp)
    simp only [List.length_cons, Nat.add_mul, Nat.one_mul] at hl
    simp only [List.length_cons, List.range'_succ, List.zip_cons_cons, goV, Nat.sub_self, Nat.zero_add, Nat.le_refl, true_and, h1, and_true]
    rw [if_pos (by omega), show k * sz + sz = (k + 1) * sz by rw [Nat.add_mul]; omega, goV_full vs (k + 1) _ (fun v hm => hv v (by simp [hm])) (by simp; omega)]
    simp only [Option.map_some, List.take_zero, List.nil_append, Option.some.injEq, cellsOf, List.flatMap_cons, List.append_assoc, List.drop_drop]
    congr 3
    rw [Nat.add_mul]; omega

def semLit (E : Env) (o : Oper) (T : TypeId) (n : Nat) (ps : List (Nat × Operand)) (F : RF) : Option RF :=
  match E.P.underlying T with
  | some (.slice e) =>
    if (ps.length = n ∧ ps.map (·.1) = List.range' 0 ps.length) ∧ n * esz E.P e ≤ 16777216 ∧ (n = 0 ∨ (zeroE E.P e).isSome = true) ∧ (E.P.info? e).isSome = true ∧ 0 < esz E.P e then
      (E.tks (fun _ => e) F ps).bind fun r => if r.1.all (fun y => y.notTup && y.width == esz E.P e) = true then some (setD r.2 o.dst (.val (.sl true (esz E.P e) r.1))) else none
    else none
  | _ => none

theorem zip_parts {α β : Type} : ∀ (ps : List (Nat × α)) (f : α → β), (ps.map fun p => (p.1, f p.2)) = (ps.map (·.1)).zip (ps.map fun p => f p.2)
  | [], f => rfl
  | p :: ps, f => by simp [zip_parts ps f]

theorem RepTs_length {w Z} : ∀ {ys φ vs}, RepTs w Z ys φ vs → vs.length = ys.length
  | [], φ, vs, h => by simp only [RepTs] at h; rw [h.2]; rfl
  | y :: ys, φ, vs, h => by rw [RepTs_cons] at h; obtain ⟨φ₁, φ₂, v, vs', rfl, rfl, h1, h2⟩ := h; simp [RepTs_length h2]

theorem semLit_ok {E : Env} {o : Oper} {T : TypeId} {n : Nat} {ps : Array (Nat × Operand)} {a : Act} {F' : RF} (h : Pre E X Z w φ a F) (ho : o.op = .buildSlice T n ps)
    (hs : semLit E o T n ps.toList F = some F') : Yld E.P o a w (Out X Z w (tmOf E.nt a) o.dst F') := by
  unfold semLit at hs
  split at hs
  case h_2 => cases hs
  rename_i e hu
  split at hs
  case isFalse => cases hs
  case isTrue hc =>
  obtain ⟨⟨hlen, hidx⟩, hmax, hzero, hinf, hpos⟩ := hc
  simp only [Option.bind_eq_some_iff] at hs
  obtain ⟨⟨ys, F1⟩, ht, hs⟩ := hs
  split at hs
  case isFalse => cases hs
  case isTrue hall =>
  obtain rfl := Option.some.inj hs
  simp only [List.all_eq_true, Bool.and_eq_true, beq_iff_eq] at hall
  obtain ⟨φ1, φy, htk⟩ := tks_ok ps.toList F φ ys F1 h ht (fun y hy => (hall y hy).1)
  have hsz := RepTs_width (fun y hy => (hall y hy).1) (fun y hy => (hall y hy).2) htk.rep
  have hcl := RepTs_cells (fun y hy => (hall y hy).1) htk.rep
  have hvl := RepTs_length htk.rep
  simp only [List.length_map] at hvl
  have hcll := RepL_len hcl (fun y hy => (hall y hy).2)
  rw [← hvl] at hcll
  -- the zero cells
  have hrun : (execOp a.eval o).run E.P w = .ok (.value (.slice (some ⟨w.heap.size, 0, none⟩) n n)) (w.alloc (.cells (cellsOf (ps.toList.map fun p => a.eval p.2)).toArray e)) := by
    unfold execOp; rw [ho]
    have hparts : (ps.map fun (i, x) => (i, a.eval x)).toList = (List.range' 0 (ps.toList.map fun p => a.eval p.2).length).zip (ps.toList.map fun p => a.eval p.2) := by
      rw [Array.toList_map]
      have := zip_parts ps.toList a.eval
      rw [hidx] at this
      simpa using this
    have hn : (ps.toList.map fun p => a.eval p.2).length = n := by simpa using hlen
    have hfill : ∀ zs : Array Value, zs.size = n * esz E.P e → Instr.fill (fun i => some (i * esz E.P e, esz E.P e)) zs (ps.map fun (i, x) => (i, a.eval x)).toList = some (cellsOf (ps.toList.map fun p => a.eval p.2)).toArray := by
      intro zs hzs
      rw [hparts]
      have hg := goV_full (sz := esz E.P e) (ps.toList.map fun p => a.eval p.2) 0 (zs.toList.drop 0) hsz (by rw [hn, List.drop_zero, Array.length_toList, hzs]; exact Nat.le_refl _)
      rw [Nat.zero_mul] at hg
      obtain ⟨arr, ha, hal⟩ := fill_go _ 0 zs _ hg (Nat.zero_le _)
      rw [ha]
      congr 1
      apply Array.ext'
      rw [hal]
      simp only [List.take_zero, List.nil_append, List.drop_zero]
      rw [hn, List.drop_of_length_le (by simp; omega)]
      simp
    obtain ⟨ie, hie⟩ := Option.isSome_iff_exists.1 hinf
    by_cases hz : n * esz E.P e = 0
    · have h0 : n = 0 := by rcases Nat.mul_eq_zero.1 hz with h | h <;> omega
      subst h0
      have := hfill #[] (by simp)
      simp at this
      simp [Instr.buildSlice, run_underlying hu, run_size hinf, newRow, this, Array.range_zero']
    · have h0 : n ≠ 0 := by rintro rfl; simp at hz
      obtain ⟨x, hx⟩ := Option.isSome_iff_exists.1 (hzero.resolve_left h0)
      obtain ⟨i, z, hi, hzz, hrep, hwd, hzs, hpos2⟩ := zeroE_rep (w := w) (Z := Z) hx
      have := hfill (madeCells z.cells (n * esz E.P e)) (size_madeCells _ _)
      simp [madeCells] at this
      simp [Instr.buildSlice, run_underlying hu, run_size hinf, newRow, hz, show ¬ (16777216 < n * esz E.P e) by omega, zeroValue, typeInfo, hi, hzz, this]
  refine Yld.value hrun ?_
  have hfin := htk.rel.newSl (d := o.dst) (xs := ys) (φc := φy) (ch := cellsOf (ps.toList.map fun p => a.eval p.2)) (arr := (cellsOf (ps.toList.map fun p => a.eval p.2)).toArray) (T := e) (sz := esz E.P e) (cap := n)
    hcl (fun y hy => (hall y hy).2) hpos (by simp) (by simp [hcll]; simp at hlen; rw [hlen]; exact Nat.le_refl _) (by omega) htk.nodup (fun b hb => let ⟨r, hr⟩ := htk.was b hb; h.rel.mine r b hr) htk.apart (h.new _ (Nat.le_refl _))
  have : ys.length = n := by omega
  rw [this] at hfin
  exact hfin

/-! ### Structs and arrays, as values -/
def goP (place : Nat → Option (Nat × Nat)) : Nat → List PV → List (Nat × PV) → Option (List PV)
  | _, zs, [] => some zs
  | pos, zs, (i, y) :: ps => match place i with
    | some (off, size) => if pos ≤ off ∧ off - pos + size ≤ zs.length ∧ y.cells.length = size then (goP place (off + size) (zs.drop (off - pos + size)) ps).map fun r => zs.take (off - pos) ++ y.cells ++ r else none
    | none => none

theorem RepL_cells1_part {w Z xs vs} (h : RepL w Z xs [] vs) (hc : ∀ x ∈ xs, x.cell1 = true) (lo n : Nat) (hb : lo + n ≤ xs.length) : RepL w Z ((xs.drop lo).take n) [] ((vs.drop lo).take n) := by
  obtain ⟨φ', hs, hr⟩ := RepL_part (sz := 1) h (fun x hx => PV.cell1_width (hc x hx)) lo n hb
  obtain rfl := List.eq_nil_of_sublist_nil hs
  simpa using hr

theorem goP_rep {w Z} {place : Nat → Option (Nat × Nat)} : ∀ (ids : List Nat) (ys : List PV) (φ : List Nat) (vs : List Value) (pos : Nat) (zs : List PV) (zv : List Value) (cs : List PV), RepTs w Z ys φ vs →
    (∀ y ∈ ys, y.notTup = true) → RepL w Z zs [] zv → (∀ c ∈ zs, c.cell1 = true) → ids.length = ys.length → goP place pos zs (ids.zip ys) = some cs →
    ∃ out, goV place pos zv (ids.zip vs) = some out ∧ RepL w Z cs φ out ∧ ∀ c ∈ cs, c.cell1 = true
  | [], [], φ, vs, pos, zs, zv, cs, h, hn, hz, hz1, hl, hg => by
    simp only [RepTs] at h
    obtain ⟨rfl, rfl⟩ := h
    simp only [List.zip_nil_left, goP, Option.some.injEq] at hg
    subst hg
    exact ⟨zv, by simp [goV], hz, hz1⟩
  | [], y :: ys, _, _, _, _, _, _, _, _, _, _, hl, _ => by simp at hl
  | i :: ids, [], _, _, _, _, _, _, _, _, _, _, hl, _ => by simp at hl
  | i :: ids, y :: ys, φ, vs, pos, zs, zv, cs, h, hn, hz, hz1, hl, hg => by
    rw [RepTs_cons] at h
    obtain ⟨φ₁, φ₂, v, vs', rfl, rfl, h1, h2⟩ := h
    simp only [List.zip_cons_cons, goP] at hg
    split at hg
    case h_2 => cases hg
    rename_i off size hpl
    split at hg
    case isFalse => cases hg
    case isTrue hc =>
    obtain ⟨hc1, hc2, hc3⟩ := hc
    simp only [Option.map_eq_some_iff] at hg
    obtain ⟨r, hr, rfl⟩ := hg
    have hyv : RepV w Z y φ₁ v := by
      rcases PV.tup_or y with ⟨xs, rfl⟩ | ⟨e, _⟩
      · exact absurd (hn (.tup xs) (by simp)) (by simp [PV.notTup])
      · rw [e]; exact h1
    obtain ⟨hcl, hc1'⟩ := cellsV hyv (PV.notTup_ne (hn y (by simp)))
    have hzl : zv.length = zs.length := by have := RepL_len (sz := 1) hz (fun c hcm => PV.cell1_width (hz1 c hcm)); simpa using this
    have hvl : v.cells.size = size := by
      have := RepL_len (sz := 1) hcl (fun c hcm => PV.cell1_width (hc1' c hcm))
      simp only [Array.length_toList, Nat.mul_one] at this; omega
    have hd : RepL w Z (zs.drop (off - pos + size)) [] (zv.drop (off - pos + size)) := by
      have := RepL_cells1_part hz hz1 (off - pos + size) (zs.length - (off - pos + size)) (by omega)
      rwa [List.take_of_length_le (by simp), List.take_of_length_le (by simp; omega)] at this
    obtain ⟨out, ho, hrep, hc1''⟩ := goP_rep ids ys φ₂ vs' (off + size) _ _ r h2 (fun y hy => hn y (by simp [hy])) hd (fun c hcm => hz1 c (List.mem_of_mem_drop hcm)) (by simpa using hl) hr
    refine ⟨zv.take (off - pos) ++ v.cells.toList ++ out, ?_, ?_, ?_⟩
    · simp only [List.zip_cons_cons, goV, hpl]
      rw [if_pos ⟨hc1, by omega, hvl⟩, ho]; rfl
    · have ht := RepL_cells1_part hz hz1 0 (off - pos) (by omega)
      simp only [List.drop_zero] at ht
      exact RepL_append.2 ⟨φ₁, φ₂, _, _, rfl, rfl, RepL_append.2 ⟨[], φ₁, _, _, rfl, rfl, ht, hcl⟩, hrep⟩
    · intro c hcm
      simp only [List.mem_append] at hcm
      rcases hcm with (hcm | hcm) | hcm
      · exact hz1 c (List.mem_of_mem_take hcm)
      · exact hc1' c hcm
      · exact hc1'' c hcm

def placesOf (P : Program) (T : TypeId) : Option (List (TypeId × Nat × Nat)) :=
  match P.underlying T with
  | some (.struct fs) => fs.toList.mapM fun f => (P.info? f.type).map fun i => (f.type, f.offset, i.size)
  | _ => none
def semBuild (E : Env) (o : Oper) (T : TypeId) (ps : List (Nat × Operand)) (F : RF) : Option RF :=
  match E.P.underlying T with
  | some (.struct _) => (placesOf E.P T).bind fun pl => (zeroCs E.P T).bind fun zs =>
    (E.tks (fun i => match pl[i]? with | some f => f.1 | none => T) F ps).bind fun r =>
      if r.1.all PV.notTup = true then (goP (fun i => (pl[i]?).map (·.2)) 0 zs ((ps.map (·.1)).zip r.1)).map fun cs => setD r.2 o.dst (.val (.agg cs)) else none
  | some (.array _ e) => (zeroCs E.P T).bind fun zs =>
    (E.tks (fun _ => e) F ps).bind fun r =>
      if r.1.all PV.notTup = true ∧ (E.P.info? e).isSome = true then (goP (fun i => some (i * esz E.P e, esz E.P e)) 0 zs ((ps.map (·.1)).zip r.1)).map fun cs => setD r.2 o.dst (.val (.agg cs)) else none
  | _ => none

theorem places_mapM {P : Program} : ∀ (fs : List Field) (pl : List (TypeId × Nat × Nat)), fs.mapM (fun f => (P.info? f.type).map fun i => (f.type, f.offset, i.size)) = some pl →
    fs.mapM (fun f => (P.info? f.type).map fun i => (f.offset, i.size)) = some (pl.map (·.2))
  | [], pl, h => by simp at h; subst h; simp
  | f :: fs, pl, h => by
    simp only [List.mapM_cons, Option.bind_eq_bind, Option.pure_def] at h ⊢
    cases hi : P.info? f.type with
    | none => simp [hi] at h
    | some i =>
      cases hr : fs.mapM (fun f => (P.info? f.type).map fun i => (f.type, f.offset, i.size)) with
      | none => simp [hi, hr] at h
      | some rest =>
        simp [hi, hr] at h
        subst h
        simp [hi, places_mapM fs rest hr]

theorem tks_len {E : Env} {T : Nat → TypeId} : ∀ {ps F r}, E.tks T F ps = some r → r.1.length = ps.length
  | [], F, r, h => by simp only [Env.tks, Option.some.injEq] at h; subst h; rfl
  | (i, x) :: ps, F, r, h => by
    simp only [Env.tks, Option.bind_eq_some_iff, Option.map_eq_some_iff] at h
    obtain ⟨_, _, q, hq, rfl⟩ := h
    simp [tks_len hq]

theorem semBuild_ok {E : Env} {o : Oper} {T : TypeId} {ps : Array (Nat × Operand)} {a : Act} {F' : RF} (h : Pre E X Z w φ a F) (ho : o.op = .build T ps)
    (hs : semBuild E o T ps.toList F = some F') : Yld E.P o a w (Out X Z w (tmOf E.nt a) o.dst F') := by
  have fin : ∀ {ys : List PV} {F1 : RF} {TT : Nat → TypeId} {place : Nat → Option (Nat × Nat)} {zs cs : List PV}, E.tks TT F ps.toList = some (ys, F1) → ys.all PV.notTup = true → zeroCs E.P T = some zs →
      goP place 0 zs ((ps.toList.map (·.1)).zip ys) = some cs → (∀ z cells, (zeroValue T).run E.P w = .ok z w → Instr.fill place z.cells (ps.map fun (i, x) => (i, a.eval x)).toList = some cells →
        (execOp a.eval o).run E.P w = .ok (.value (.agg cells)) w) → F' = setD F1 o.dst (.val (.agg cs)) → Yld E.P o a w (Out X Z w (tmOf E.nt a) o.dst F') := by
    intro ys F1 TT place zs cs ht hall hz hg hrun he
    subst he
    simp only [List.all_eq_true] at hall
    obtain ⟨φ1, φy, htk⟩ := tks_ok ps.toList F φ ys F1 h ht hall
    obtain ⟨z, hzr, hzl, hz1⟩ := zeroCs_rep (w := w) (Z := Z) hz
    have hl := tks_len ht
    obtain ⟨out, hgo, hrep, hc1⟩ := goP_rep (ps.toList.map (·.1)) ys φy _ 0 zs z.cells.toList cs htk.rep hall hzl hz1 (by simp at hl ⊢; omega) hg
    obtain ⟨arr, ha, hal⟩ := fill_go (place := place) ((ps.toList.map (·.1)).zip (ps.toList.map fun p => a.eval p.2)) 0 z.cells out (by simpa using hgo) (Nat.zero_le _)
    have hparts : (ps.map fun (i, x) => (i, a.eval x)).toList = (ps.toList.map (·.1)).zip (ps.toList.map fun p => a.eval p.2) := by
      rw [Array.toList_map]; exact zip_parts ps.toList a.eval
    refine Yld.value (hrun z arr hzr (by rw [hparts]; exact ha)) ?_
    obtain ⟨φ', hr⟩ := htk.rel.outVal (d := o.dst) (x := .agg cs) (v := .agg arr) (φx := φy)
      (RepV_agg.2 ⟨out, by congr 1; apply Array.ext'; simpa using hal, by simp only [Rep]; exact ⟨hrep, hc1⟩⟩) htk.nodup (fun b hb => let ⟨r, hr⟩ := htk.was b hb; h.rel.mine r b hr) htk.apart
    exact ⟨Z, φ', hr, Stp.refl _ _, fun _ _ _ => Iff.rfl⟩
  unfold semBuild at hs
  split at hs
  · rename_i fs hu
    simp only [Option.bind_eq_some_iff] at hs
    obtain ⟨pl, hpl, zs, hz, ⟨ys, F1⟩, ht, hs⟩ := hs
    split at hs
    case isFalse => cases hs
    case isTrue hall =>
    simp only [Option.map_eq_some_iff] at hs
    obtain ⟨cs, hg, rfl⟩ := hs
    refine fin ht hall hz hg ?_ rfl
    intro z cells hzr hf
    simp only [placesOf, hu] at hpl
    have hp := places_mapM _ _ hpl
    unfold execOp; rw [ho]
    have hf' : Instr.fill (fun x => (List.map (fun x => x.snd) pl)[x]?) z.cells (ps.map fun (i, x) => (i, a.eval x)).toList = some cells := by
      rw [← hf]; congr 1; funext i; simp
    simp at hf'
    simp [Instr.build, run_underlying hu, hzr, Array.mapM_eq_mapM_toList, run_places w _ _ hp, hf']
  · rename_i n e hu
    simp only [Option.bind_eq_some_iff] at hs
    obtain ⟨zs, hz, ⟨ys, F1⟩, ht, hs⟩ := hs
    split at hs
    case isFalse => cases hs
    case isTrue hall =>
    simp only [Option.map_eq_some_iff] at hs
    obtain ⟨cs, hg, rfl⟩ := hs
    refine fin ht hall.1 hz hg ?_ rfl
    intro z cells hzr hf
    unfold execOp; rw [ho]
    simp at hf
    simp [Instr.build, run_underlying hu, hzr, run_size hall.2, hf]
  · cases hs
end Go.V
