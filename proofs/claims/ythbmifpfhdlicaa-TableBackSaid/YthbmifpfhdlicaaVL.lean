/- append. -/
import Derived.Test.YthbmifpfhdlicaaVK
namespace Go.V
set_option linter.unusedVariables false
set_option linter.unusedSimpArgs false
variable {X : Cx} {Z : Nat → Prop} {w : World} {φ : Tmp → List Nat} {tm : Tmp → Value} {F : RF}

theorem run_firstCells_slice {P : Program} {w : World} {sz n cap : Nat} {a : Option Addr} {ch : List Value} (hl : ch.length = n * sz) (ha : n * sz = 0 ∨ ∃ A, a = some A ∧ ∀ (j : Nat) v, ch[j]? = some v → w.cell? (A.add j) = some v)
    : (Builtin.firstCells sz n (.slice a n cap)).run P w = .ok ch.toArray w := by
  have h0 : n * sz = 0 → (Builtin.firstCells sz n (.slice a n cap)).run P w = .ok ch.toArray w := by
    intro h0
    have : ch = [] := List.eq_nil_of_length_eq_zero (by omega)
    subst this
    cases a with
    | none => simp [Builtin.firstCells]
    | some A => simp [Builtin.firstCells, h0, loadCells, loadCellsFrom]
  rcases ha with ha | ⟨A, rfl, hc⟩
  · exact h0 ha
  · simp only [Builtin.firstCells]
    rw [← hl]; exact run_loadCells_list (P := P) w A ch hc

theorem sl_cells {f : Bool} {sz n cap : Nat} {a : Option Addr} {xs : List PV} {φx : List Nat} (h : Rep w Z (.sl f sz xs) φx [.slice a n cap]) :
    n = xs.length ∧ n ≤ cap ∧ 0 < sz ∧ (∀ x ∈ xs, x.width = sz) ∧ ∃ ch ψ, RepL w Z xs ψ ch ∧ ψ.Sublist φx ∧ ch.length = n * sz ∧ (n * sz = 0 ∨ ∃ A, a = some A ∧ ∀ (j : Nat) v, ch[j]? = some v → w.cell? (A.add j) = some v) ∧
      (f = true → (xs = [] ∧ cap = 0 ∧ φx = []) ∨ ∃ b off cs T, a = some ⟨b, off, none⟩ ∧ w.heap[b]? = some (.cells cs T (0, 0)) ∧ (∀ (i : Nat) v, ch[i]? = some v → cs[off + i]? = some v) ∧ Z b ∧ φx = b :: ψ ∧ off + cap * sz ≤ cs.size) := by
  simp only [Rep] at h
  obtain ⟨a', cap', ψ, ch, e, h0, hl, hw, hh⟩ := h
  obtain ⟨rfl, rfl, rfl⟩ : a = a' ∧ n = xs.length ∧ cap = cap' := by simpa using e
  have hlen := RepL_len hl hw
  refine ⟨rfl, h0.2, h0.1, hw, ch, ψ, hl, ?_, hlen, ?_, ?_⟩
  · rcases hh with ⟨rfl, rfl, _⟩ | ⟨b, off, cs, T, fr, rfl, hb, hch, hf, ht⟩
    · rw [RepL_nil] at hl; rw [hl.1]; exact List.Sublist.refl _
    · cases f with
      | false => rw [(hf rfl).2.2]; exact List.nil_sublist _
      | true => rw [(ht rfl).2.2.1]; exact List.sublist_cons_self _ _
  · rcases hh with ⟨rfl, _⟩ | ⟨b, off, cs, T, fr, rfl, hb, hch, hf, ht⟩
    · left; simp
    · right
      refine ⟨_, rfl, fun j v hj => ?_⟩
      rw [add_lit rfl]; simp only [World.cell?, hb]; simpa using hch j v hj
  · intro hft
    rcases hh with ⟨rfl, rfl, hc⟩ | ⟨b, off, cs, T, fr, rfl, hb, hch, hf, ht⟩
    · exact .inl ⟨rfl, hc hft, rfl⟩
    · obtain ⟨hz, rfl, rfl, hcap, _⟩ := ht hft
      exact .inr ⟨b, off, cs, T, rfl, hb, hch, hz, rfl, hcap⟩

theorem RepL_ones1 {w Z} : ∀ {cs φ vs}, RepL w Z cs φ vs → (∀ c ∈ cs, c.cell1 = true) → ∀ v ∈ vs, v.oneCell' = true
  | [], φ, vs, h, _ => by rw [RepL_nil] at h; rw [h.2]; simp
  | c :: cs, φ, vs, h, hc => by
    obtain ⟨ψ₁, ψ₂, u₁, u₂, rfl, rfl, k1, k2⟩ := RepL_cons.1 h
    have hl1 : u₁.length = 1 := by rw [k1.length, PV.cell1_width (hc c (by simp))]
    obtain ⟨u, rfl⟩ := List.length_eq_one_iff.1 hl1
    intro v hv
    rcases List.mem_append.1 hv with hv | hv
    · obtain rfl := List.mem_singleton.1 hv
      rw [one_oneCell']; exact Rep_oneCell k1 (hc c (by simp))
    · exact RepL_ones1 k2 (fun c hm => hc c (by simp [hm])) v hv
theorem RepL_ones {w Z} : ∀ {xs φ vs}, RepL w Z xs φ vs → ∀ v ∈ vs, v.oneCell' = true
  | [], φ, vs, h => by rw [RepL_nil] at h; rw [h.2]; simp
  | x :: xs, φ, vs, h => by
    obtain ⟨φ₁, φ₂, v₁, v₂, rfl, rfl, h1, h2⟩ := RepL_cons.1 h
    intro v hv
    rcases List.mem_append.1 hv with hv | hv
    · exact RepL_ones1 h1.cellsL (PV.cells_cell1 h1) v hv
    · exact RepL_ones h2 v hv

theorem run_append_in {P : Program} {w w' : World} {T T2 ty e : TypeId} {i : TypeInfo} {d2 : TypeDesc} {base : Option Addr} {sLen sCap m : Nat} {x : Value} {new : Array Value} (ht : P.underlying T = some (.slice e))
    (hi : P.info? e = some i) (h2 : P.underlying T2 = some d2) (hd2 : d2 = .string ∨ ∃ e', d2 = .slice e') (hm : (Builtin.lenOf x).run P w = .ok m w) (hf : (Builtin.firstCells i.size m x).run P w = .ok new w)
    (hroom : sLen + m ≤ sCap) (hst : ∀ a, base = some a → (storeCells (a.add (sLen * i.size)) new.toList).run P w = .ok () w') (hno : base = none → w' = w) :
    (Builtin.append_ #[T, T2] ty #[.slice base sLen sCap, x]).run P w = .ok (.slice base (sLen + m) sCap) w' := by
  cases base with
  | none =>
    obtain rfl := hno rfl
    rcases hd2 with rfl | ⟨e', rfl⟩ <;> simp [Builtin.append_, run_underlying ht, run_underlying h2, sizeOf, typeInfo, hi, hm, hf, hroom]
  | some a =>
    have := hst a rfl
    rcases hd2 with rfl | ⟨e', rfl⟩ <;> simp [Builtin.append_, run_underlying ht, run_underlying h2, sizeOf, typeInfo, hi, hm, hf, hroom, this]

theorem run_append_new {P : Program} {w : World} {T T2 ty e : TypeId} {i : TypeInfo} {z : Value} {d2 : TypeDesc} {base : Option Addr} {sLen sCap m : Nat} {x : Value} {old new : Array Value} (ht : P.underlying T = some (.slice e))
    (hi : P.info? e = some i) (hz : i.zero = some z) (h2 : P.underlying T2 = some d2) (hd2 : d2 = .string ∨ ∃ e', d2 = .slice e') (hm : (Builtin.lenOf x).run P w = .ok m w)
    (hf : (Builtin.firstCells i.size m x).run P w.drew = .ok new w.drew) (hfo : (Builtin.firstCells i.size sLen (.slice base sLen sCap)).run P w.drew = .ok old w.drew)
    (hg : sCap < sLen + m) (h63 : sLen + m ≤ 9223372036854775807) (h47 : (sLen + m) * i.bytes ≤ 140737488355328) :
    (Builtin.append_ #[T, T2] ty #[.slice base sLen sCap, x]).run P w = .ok (.slice (some ⟨w.heap.size, 0, none⟩) (sLen + m) (grownCap w (sLen + m) sCap e))
      (w.drew.alloc (.cells (old ++ new ++ Builtin.zeroCells z.cells (grownCap w (sLen + m) sCap e - (sLen + m))) e)) := by
  have hn : ¬ (sLen + m ≤ sCap) := by omega
  have h63' : ¬ (9223372036854775807 < (sLen : Int) + (m : Int)) := by omega
  have hfit := growslice_fits hg h47
  have h48' : ¬ (281474976710656 < Builtin.nextslicecap (sLen + m) sCap * i.bytes) := by omega
  rcases hd2 with rfl | ⟨e', rfl⟩ <;> simp [Builtin.append_, run_underlying ht, run_underlying h2, sizeOf, typeInfo, zeroValue, hi, hz, hm, hn, h63', h48', Question.forced, hf, hfo, newRow, grownCap]

/-- the part of an array up to its end: where it is appended to, it moves -/
def Env.exact (E : Env) (F : RF) (x : Operand) : Bool :=
  match E.at x with
  | some t => match F.slot t with
    | .pl _ _ (.arr _ _ _ hi n) _ => hi == n
    | _ => false
  | none => false
/-- what is appended to: its elements, the frame behind it, whether it surely moves -/
def Env.fst (E : Env) (F : RF) (T : TypeId) (x : Operand) (sz : Nat) : Option (List PV × RF × Bool) :=
  if E.exact F x = true then
    match E.rd F T x with
    | some (.sl _ s xs) => if s = sz ∧ noOwnL xs = true then some (xs, F, true) else none
    | _ => none
  else
    match E.tk F T x with
    | some (.sl true s xs, F1) => if s = sz then some (xs, F1, false) else none
    | _ => none
def bytesP (s : ByteArray) : List PV := s.data.toList.map fun b => .prim (.int .u8 b.toNat)
/-- what is appended -/
def Env.snd (E : Env) (F : RF) (T : TypeId) (x : Operand) (sz : Nat) : Option (List PV × RF) :=
  match E.P.underlying T with
  | some .string => match E.vl F x with
    | some (.string s) => if sz = 1 then some (bytesP s, F) else none
    | _ => none
  | some (.slice _) =>
    match E.rd F T x with
    | some (.sl _ s ys) =>
      if s = sz then
        if noOwnL ys = true then some (ys, F) else
        match E.tk F T x with
        | some (.sl true s' ys', F1) => if s' = sz then some (ys', F1) else none
        | _ => none
      else none
    | _ => none
  | _ => none
def semAppend (E : Env) (o : Oper) (T T2 : TypeId) (x y : Operand) (F : RF) : Option RF :=
  match E.P.underlying T with
  | some (.slice e) =>
    if (zeroE E.P e).isSome = true then
      (E.fst F T x (esz E.P e)).bind fun (xs, F1, ex) => (E.snd F1 T2 y (esz E.P e)).bind fun (ys, F2) =>
        if (xs.length + ys.length) * (ebytes E.P e + 1) ≤ 70368744177664 then
          if ex = true ∧ ys = [] then none else some (setD F2 o.dst (.val (.sl true (esz E.P e) (xs ++ ys))))
        else none
    else none
  | _ => none

/-- The second operand: its cells, as they are read; what they own. -/
theorem snd_ok {E : Env} {a : Act} (h : Pre E X Z w φ a F) {T : TypeId} {x : Operand} {sz : Nat} {ys : List PV} {F1 : RF} (hs : E.snd F T x sz = some (ys, F1)) :
    ∃ φ' φy ch d2, Rel X Z w φ' (tmOf E.nt a) F1 ∧ E.P.underlying T = some d2 ∧ (d2 = .string ∨ ∃ e', d2 = .slice e') ∧ RepL w Z ys φy ch ∧ ch.length = ys.length * sz ∧ (∀ y ∈ ys, y.width = sz) ∧
      φy.Nodup ∧ (∀ b ∈ φy, X.mine b) ∧ (∀ r, ∀ b ∈ φy, b ∉ φ' r) ∧ (∀ r b, b ∈ φ' r → b ∈ φ r) ∧ (∀ b ∈ φy, ∃ r, b ∈ φ r) ∧
      (∀ w', w'.heap = w.heap → (Builtin.lenOf (a.eval x)).run E.P w' = .ok ys.length w' ∧ (Builtin.firstCells sz ys.length (a.eval x)).run E.P w' = .ok ch.toArray w') := by
  unfold Env.snd at hs
  have hcell : ∀ (w' : World) (A : Addr), w'.heap = w.heap → w'.cell? A = w.cell? A := fun w' A e => by simp [World.cell?, e]
  split at hs
  · rename_i hu
    split at hs
    case h_2 => cases hs
    rename_i s hv
    split at hs
    case isFalse => cases hs
    case isTrue hsz =>
    subst hsz
    simp only [Option.some.injEq, Prod.mk.injEq] at hs
    obtain ⟨rfl, rfl⟩ := hs
    have hev := vl_eq h hv
    refine ⟨φ, [], s.data.toList.map (fun b => Value.int .u8 b.toNat), _, h.rel, hu, .inl rfl, ?_, by simp [bytesP], by simp [bytesP, PV.width], List.nodup_nil, by simp, by simp, fun _ _ h => h, by simp, ?_⟩
    · have := RepL_prims (w := w) (Z := Z) (vs := s.data.toList.map (fun b => Value.int .u8 b.toNat)) (by rw [List.all_eq_true]; intro v hv; obtain ⟨b, _, rfl⟩ := List.mem_map.1 hv; rfl)
      rw [List.map_map] at this; exact this
    · intro w' _
      rw [hev]
      refine ⟨by simp [Builtin.lenOf, bytesP], ?_⟩
      have hx : s.extract 0 s.size = s := by
        apply ByteArray.ext
        simp [ByteArray.data_extract]
      have hl : (bytesP s).length = s.size := by simp [bytesP]
      rw [hl]
      simp [Builtin.firstCells, hx]
      apply Array.ext'; simp
  · rename_i e hu
    split at hs
    case h_2 => cases hs
    rename_i f s0 ys0 hrd
    split at hs
    case isFalse => cases hs
    case isTrue hsz =>
    subst hsz
    have main : ∀ {φ' : Tmp → List Nat} {φy : List Nat} {f' : Bool} {ys' : List PV} {F' : RF}, Rel X Z w φ' (tmOf E.nt a) F' → RepV w Z (.sl f' s0 ys') φy (a.eval x) → φy.Nodup → (∀ b ∈ φy, ∃ r, b ∈ φ r) →
        (noOwnL ys' = true ∨ ∀ r, ∀ b ∈ φy, b ∉ φ' r) → (∀ r b, b ∈ φ' r → b ∈ φ r) → some (ys', F') = some (ys, F1) → ∃ φ' φy ch d2, Rel X Z w φ' (tmOf E.nt a) F1 ∧ E.P.underlying T = some d2 ∧ (d2 = .string ∨ ∃ e', d2 = .slice e') ∧ RepL w Z ys φy ch ∧ ch.length = ys.length * s0 ∧ (∀ y ∈ ys, y.width = s0) ∧
      φy.Nodup ∧ (∀ b ∈ φy, X.mine b) ∧ (∀ r, ∀ b ∈ φy, b ∉ φ' r) ∧ (∀ r b, b ∈ φ' r → b ∈ φ r) ∧ (∀ b ∈ φy, ∃ r, b ∈ φ r) ∧
      (∀ w', w'.heap = w.heap → (Builtin.lenOf (a.eval x)).run E.P w' = .ok ys.length w' ∧ (Builtin.firstCells s0 ys.length (a.eval x)).run E.P w' = .ok ch.toArray w') := by
      intro φ' φy f' ys' F' hrel hr hnd hwas hap hless he
      simp only [Option.some.injEq, Prod.mk.injEq] at he
      obtain ⟨rfl, rfl⟩ := he
      rw [RepV_cell rfl] at hr
      obtain ⟨a', cap', hv⟩ : ∃ a' cap', a.eval x = .slice a' ys'.length cap' := by
        simp only [Rep] at hr; obtain ⟨a', cap', _, _, hv, _⟩ := hr; exact ⟨a', cap', by simpa using hv⟩
      rw [hv] at hr
      obtain ⟨_, hcap, hpos, hw, ch, ψ, hl, hsub, hlen, hc, _⟩ := sl_cells hr
      refine ⟨φ', ψ, ch, _, hrel, hu, .inr ⟨e, rfl⟩, hl, hlen, hw, hnd.sublist hsub, fun b hb => let ⟨r, hr⟩ := hwas b (hsub.subset hb); h.rel.mine r b hr, ?_, hless, fun b hb => hwas b (hsub.subset hb), ?_⟩
      · intro r b hb
        rcases hap with hno | hap
        · rw [Rep_noOwn.2 _ _ _ hno hl] at hb; simp at hb
        · exact hap r b (hsub.subset hb)
      · intro w' hw'
        rw [hv]
        refine ⟨by simp [Builtin.lenOf], run_firstCells_slice hlen (hc.imp id fun ⟨A, hA, hcc⟩ => ⟨A, hA, fun j v hj => by rw [hcell w' _ hw']; exact hcc j v hj⟩)⟩
    split at hs
    · rename_i hno
      obtain ⟨φy, hr, hwas, hnd⟩ := rd_rep h hrd
      exact main h.rel hr hnd hwas (.inl hno) (fun _ _ h => h) hs
    · split at hs
      case h_2 => cases hs
      rename_i s' ys' F' htk
      split at hs
      case isFalse => cases hs
      case isTrue hs' =>
      subst hs'
      obtain ⟨φ', φy, ht⟩ := tk_rep h htk
      exact main ht.rel ht.rep ht.nodup ht.was (.inr ht.apart) ht.less hs
  · cases hs

theorem semAppend_ok {E : Env} {o : Oper} {T T2 : TypeId} {x y : Operand} {a : Act} {F' : RF} (h : Pre E X Z w φ a F) (ho : o.op = .call { callee := .builtin .append, args := #[x, y], argTypes := #[T, T2] })
    (hs : semAppend E o T T2 x y F = some F') : Yld E.P o a w (Out X Z w (tmOf E.nt a) o.dst F') := by
  unfold semAppend at hs
  split at hs
  case h_2 => cases hs
  rename_i e hu
  split at hs
  case isFalse => cases hs
  case isTrue hzs =>
  obtain ⟨zx, hzx⟩ := Option.isSome_iff_exists.1 hzs
  obtain ⟨i, z, hi, hz, _, _, hzsz, hpos⟩ := zeroE_rep (w := w) (Z := Z) hzx
  have hesz : i.size = esz E.P e := by simp [esz, hi]
  have heb : i.bytes = ebytes E.P e := by simp [ebytes, hi]
  simp only [Option.bind_eq_some_iff] at hs
  obtain ⟨⟨xs, F1, ex⟩, hfst, ⟨ys, F2⟩, hsnd, hs⟩ := hs
  simp only at hs
  split at hs
  case isFalse => cases hs
  case isTrue hbound =>
  split at hs
  · cases hs
  rename_i hex
  obtain rfl := Option.some.inj hs
  -- the first operand
  have hfirst : ∃ φ1 φx f ad cap, Rel X Z w φ1 (tmOf E.nt a) F1 ∧ Rep w Z (.sl f (esz E.P e) xs) φx [.slice ad xs.length cap] ∧ a.eval x = .slice ad xs.length cap ∧ φx.Nodup ∧ (∀ b ∈ φx, ∃ r, b ∈ φ r) ∧
      (∀ r b, b ∈ φ1 r → b ∈ φ r) ∧ ((ex = true ∧ noOwnL xs = true ∧ cap = xs.length) ∨ (ex = false ∧ f = true ∧ ∀ r, ∀ b ∈ φx, b ∉ φ1 r)) := by
    have hslice : ∀ {f sz xs φx u}, RepV w Z (.sl f sz xs) φx u → ∃ ad cap, u = .slice ad xs.length cap := by
      intro f sz xs φx u hr
      rw [RepV_cell rfl] at hr
      simp only [Rep] at hr; obtain ⟨a', cap', _, _, hv, _⟩ := hr; exact ⟨a', cap', by simpa using hv⟩
    unfold Env.fst at hfst
    split at hfst
    · rename_i hexact
      split at hfst
      case h_2 => cases hfst
      rename_i f s xs' hrd
      split at hfst
      case isFalse => cases hfst
      case isTrue hc =>
      obtain ⟨rfl, hno⟩ := hc
      simp only [Option.some.injEq, Prod.mk.injEq] at hfst
      obtain ⟨rfl, rfl, rfl⟩ := hfst
      obtain ⟨φy, hr, hwas, hnd⟩ := rd_rep h hrd
      obtain ⟨ad, cap, hv⟩ := hslice hr
      refine ⟨φ, φy, f, ad, cap, h.rel, by rw [RepV_cell rfl, hv] at hr; exact hr, hv, hnd, hwas, fun _ _ h => h, .inl ⟨rfl, hno, ?_⟩⟩
      -- the capacity of a part of an array up to its end
      unfold Env.exact at hexact
      split at hexact
      case h_2 => cases hexact
      rename_i t hat
      split at hexact
      case h_2 => cases hexact
      rename_i r p i' j lo hi n nn hsl
      simp only [beq_iff_eq] at hexact
      subst hexact
      simp only [Env.rd, hat, RF.content, hsl] at hrd
      split at hrd
      case isFalse => cases hrd
      case isTrue hok =>
      obtain ⟨g, yy, u, φg, hg, hf, hvv, hget, _⟩ := h.rel.plRep hsl hok
      rw [hg] at hrd
      simp only [hget, Option.bind_some, viewC, Option.bind_eq_some_iff] at hrd
      obtain ⟨row, hrow, hrd⟩ := hrd
      split at hrd
      case isFalse => cases hrd
      case isTrue hb =>
      simp only [viewOk] at hvv
      obtain ⟨row', A, A', hrow', hn, hA, hval, _⟩ := hvv
      rw [at_eval hat] at hv
      rw [hval] at hv
      simp only [Value.slice.injEq] at hv
      omega
    · split at hfst
      case h_2 => cases hfst
      rename_i s xs' F1' htk
      split at hfst
      case isFalse => cases hfst
      case isTrue hc =>
      subst hc
      simp only [Option.some.injEq, Prod.mk.injEq] at hfst
      obtain ⟨rfl, rfl, rfl⟩ := hfst
      obtain ⟨φ', φy, ht⟩ := tk_rep h htk
      obtain ⟨ad, cap, hv⟩ := hslice ht.rep
      have hr := ht.rep
      rw [RepV_cell rfl, hv] at hr
      exact ⟨φ', φy, true, ad, cap, ht.rel, hr, hv, ht.nodup, ht.was, ht.less, .inr ⟨rfl, rfl, ht.apart⟩⟩
  obtain ⟨φ1, φx, f, ad, cap, hrel1, hrx, hvx, hndx, hwasx, hless1, hcase⟩ := hfirst
  obtain ⟨φ2, φy, ch2, d2, hrel2, hu2, hd2, hl2, hlen2, hw2, hndy, hmy, hapy, hless2, hwasy, hrun2⟩ := snd_ok ⟨hrel1, h.new, h.glob⟩ hsnd
  obtain ⟨_, hcapx, _, hwx, ch1, ψ, hl1, hsub1, hlen1, hc1, hown⟩ := sl_cells hrx
  have hbound2 : (xs.length + ys.length) * ebytes E.P e ≤ 140737488355328 ∧ xs.length + ys.length ≤ 70368744177664 := by
    have h1 : (xs.length + ys.length) * ebytes E.P e ≤ (xs.length + ys.length) * (ebytes E.P e + 1) := Nat.mul_le_mul_left _ (by omega)
    have h2 : (xs.length + ys.length) * 1 ≤ (xs.length + ys.length) * (ebytes E.P e + 1) := Nat.mul_le_mul_left _ (by omega)
    omega
  -- what the elements own is apart
  have hψ2 : ∀ r, ∀ b ∈ ψ, b ∉ φ2 r := by
    intro r b hb
    rcases hcase with ⟨_, hno, _⟩ | ⟨_, _, hap⟩
    · rw [Rep_noOwn.2 _ _ _ hno hl1] at hb; simp at hb
    · exact fun hb2 => hap r b (hsub1.subset hb) (hless2 r b hb2)
  have hψy : ∀ b ∈ ψ, b ∉ φy := by
    intro b hb hb2
    rcases hcase with ⟨_, hno, _⟩ | ⟨_, _, hap⟩
    · rw [Rep_noOwn.2 _ _ _ hno hl1] at hb; simp at hb
    · obtain ⟨r, hr⟩ := hwasy b hb2; exact hap r b (hsub1.subset hb) hr
  have hndall : (ψ ++ φy).Nodup := List.nodup_append.2 ⟨hndx.sublist hsub1, hndy, fun b hb c hc e => hψy b hb (e ▸ hc)⟩
  have hmψ : ∀ b ∈ ψ, X.mine b := fun b hb => let ⟨r, hr⟩ := hwasx b (hsub1.subset hb); h.rel.mine r b hr
  have hlx : RepL w Z (xs ++ ys) (ψ ++ φy) (ch1 ++ ch2) := RepL_append.2 ⟨ψ, φy, ch1, ch2, rfl, rfl, hl1, hl2⟩
  have hwall : ∀ x ∈ xs ++ ys, x.width = esz E.P e := by
    intro x hx; rcases List.mem_append.1 hx with hx | hx
    · exact hwx x hx
    · exact hw2 x hx
  have hexec : ∀ {v w'}, (Builtin.append_ #[T, T2] o.type #[a.eval x, a.eval y]).run E.P w = .ok v w' → (execOp a.eval o).run E.P w = .ok (.value v) w' := by
    intro v w' hr; unfold execOp; rw [ho]; simp [resolve, invoke, builtin, hr]
  by_cases hroom : xs.length + ys.length ≤ cap
  · -- there is room
    rcases hcase with ⟨rfl, hno, rfl⟩ | ⟨rfl, rfl, hapx⟩
    · exact absurd ⟨rfl, List.eq_nil_of_length_eq_zero (by omega)⟩ hex
    obtain ⟨hm, hfc⟩ := hrun2 w rfl
    rcases hown rfl with ⟨rfl, rfl, rfl⟩ | ⟨b, off, cs, T', rfl, hb, hch, hzb, rfl, hcapsz⟩
    · -- nothing to nothing
      have hy0 : ys = [] := by simpa using hroom
      subst hy0
      have hch2 : ch2 = [] := List.eq_nil_of_length_eq_zero (by simpa using hlen2)
      subst hch2
      refine Yld.value (w' := w) (hexec (by rw [hvx]; exact run_append_in hu hi hu2 hd2 hm (by rw [hesz]; exact hfc) hroom (fun a _ => by simp [storeCells]) (fun _ => rfl))) ?_
      obtain ⟨φ', hr⟩ := hrel2.outVal (d := o.dst) ((RepV_cell rfl).2 hrx) List.nodup_nil (by simp) (by simp)
      exact ⟨Z, φ', by simpa using hr, Stp.refl _ _, fun _ _ _ => Iff.rfl⟩
    · have hlt : b < w.heap.size := (Array.getElem?_eq_some_iff.1 hb).1
      have hmul : (xs.length + ys.length) * esz E.P e ≤ cap * esz E.P e := Nat.mul_le_mul_right _ hroom
      rw [Nat.add_mul] at hmul
      have hones : ∀ v ∈ ch2, v.oneCell' = true := RepL_ones hl2
      have hst := run_storeCells_cells (P := E.P) b (off + xs.length * esz E.P e) ch2 0 w
        (by intro j hj
            have hj2 : off + xs.length * esz E.P e + j < cs.size := by omega
            rw [Nat.add_zero]
            simp only [World.cell?, hb, Option.isSome_none, Bool.false_eq_true, if_false]
            rw [Array.getElem?_eq_getElem hj2]; rfl) (by intro j hj; simp [World.frozen?, hb]) hones
      simp only [Nat.add_zero] at hst
      refine Yld.value (w' := w.setCells b (off + xs.length * esz E.P e) ch2) (hexec (by
        rw [hvx]; exact run_append_in hu hi hu2 hd2 hm (by rw [hesz]; exact hfc) hroom (fun a ha => by
          obtain rfl := Option.some.inj ha; rw [add_lit rfl, hesz]; exact hst) (fun h => by cases h))) ?_
      have hbψ : b ∉ ψ := (List.nodup_cons.1 hndx).1
      have hbφ2 : ∀ r, b ∉ φ2 r := fun r hb2 => hapx r b (by simp) (hless2 r b hb2)
      have hbφy : b ∉ φy := fun hb2 => by obtain ⟨r, hr⟩ := hwasy b hb2; exact hapx r b (by simp) hr
      have hmb : X.mine b := let ⟨r, hr⟩ := hwasx b (by simp); h.rel.mine r b hr
      have hother : ∀ c, c ≠ b → (w.setCells b (off + xs.length * esz E.P e) ch2).heap[c]? = w.heap[c]? := fun c hc => setCells_heap _ _ _ _ hc
      have hrel3 := hrel2.keep (w' := w.setCells b (off + xs.length * esz E.P e) ch2) (Z' := Z) (fun c hc hm => ⟨Iff.rfl, hother c (by
        rintro rfl
        rcases hm with ⟨t, ht⟩ | hm
        · exact hbφ2 t ht
        · exact hm hzb)⟩)
      have hk : Keeps w (w.setCells b (off + xs.length * esz E.P e) ch2) Z Z (ψ ++ φy) := fun c hc hm => ⟨Iff.rfl, hother c (by
        rintro rfl
        rcases hm with hm | hm
        · rcases List.mem_append.1 hm with hm | hm
          · exact hbψ hm
          · exact hbφy hm
        · exact hm hzb)⟩
      -- the block behind the store
      have hblk : ∃ cs', (w.setCells b (off + xs.length * esz E.P e) ch2).heap[b]? = some (.cells cs' T' (0, 0)) ∧ cs'.size = cs.size ∧ ∀ (k : Nat) v, (ch1 ++ ch2)[k]? = some v → cs'[off + k]? = some v := by
        have hgen : ∀ (us : List Value) (o' : Nat) (w : World) (cs : Array Value), w.heap[b]? = some (.cells cs T' (0, 0)) → o' + us.length ≤ cs.size →
            ∃ cs', (w.setCells b o' us).heap[b]? = some (.cells cs' T' (0, 0)) ∧ cs'.size = cs.size ∧ (∀ k, k < o' → cs'[k]? = cs[k]?) ∧ ∀ (k : Nat) v, us[k]? = some v → cs'[o' + k]? = some v := by
          intro us
          induction us with
          | nil => intro o' w cs hb _; exact ⟨cs, hb, rfl, fun _ _ => rfl, by simp⟩
          | cons u us ih =>
            intro o' w cs hb hle
            simp only [List.length_cons] at hle
            have hb1 : (w.setCell ⟨b, o', none⟩ u).heap[b]? = some (.cells (cs.setIfInBounds o' u) T' (0, 0)) := by
              simp only [World.setCell, Array.getElem?_modify, if_true, hb, Option.map_some]; simp
            obtain ⟨cs', k1, k2, k3, k4⟩ := ih (o' + 1) (w.setCell ⟨b, o', none⟩ u) _ hb1 (by simp; omega)
            refine ⟨cs', k1, by simpa using k2, fun k hk => ?_, fun k v hk => ?_⟩
            · rw [k3 k (by omega), Array.getElem?_setIfInBounds_ne (by omega)]
            · cases k with
              | zero =>
                simp only [List.getElem?_cons_zero, Option.some.injEq] at hk
                rw [Nat.add_zero, k3 o' (by omega), Array.getElem?_setIfInBounds_self, if_pos (by omega), hk]
              | succ k => rw [show o' + (k + 1) = o' + 1 + k by omega]; exact k4 k v (by simpa using hk)
        obtain ⟨cs', k1, k2, k3, k4⟩ := hgen ch2 (off + xs.length * esz E.P e) w cs hb (by omega)
        refine ⟨cs', k1, k2, fun k v hk => ?_⟩
        by_cases hkl : k < ch1.length
        · rw [List.getElem?_append_left hkl] at hk
          rw [k3 _ (by omega)]; exact hch k v hk
        · rw [List.getElem?_append_right (by omega)] at hk
          have := k4 _ v hk
          rwa [show off + xs.length * esz E.P e + (k - ch1.length) = off + k by omega] at this
      obtain ⟨cs', hb', hsz', hch'⟩ := hblk
      have hrep' : Rep (w.setCells b (off + xs.length * esz E.P e) ch2) Z (.sl true (esz E.P e) (xs ++ ys)) (b :: (ψ ++ φy)) [.slice (some ⟨b, off, none⟩) (xs.length + ys.length) cap] := by
        simp only [Rep]
        exact ⟨_, cap, ψ ++ φy, ch1 ++ ch2, by simp, ⟨hpos, by simpa using hroom⟩, hk.repL (fun _ h => h) hlx, hwall,
          .inr ⟨b, off, cs', T', (0, 0), rfl, hb', hch', fun h => (by cases h), fun _ => ⟨hzb, rfl, rfl, by rw [hsz']; exact hcapsz, by simpa using hroom⟩⟩⟩
      obtain ⟨φ', hr⟩ := hrel3.outVal (d := o.dst) ((RepV_cell rfl).2 hrep') (List.nodup_cons.2 ⟨by simp [hbψ, hbφy], hndall⟩)
        (by intro c hc; rcases List.mem_cons.1 hc with rfl | hc
            · exact hmb
            · rcases List.mem_append.1 hc with hc | hc
              · exact hmψ c hc
              · exact hmy c hc)
        (by intro u c hc; rcases List.mem_cons.1 hc with rfl | hc
            · exact hbφ2 u
            · rcases List.mem_append.1 hc with hc | hc
              · exact hψ2 u c hc
              · exact hapy u c hc)
      exact ⟨Z, φ', hr, Stp.setCells hmb _ _ _, fun _ _ _ => Iff.rfl⟩
  · -- it moves
    obtain ⟨hm, _⟩ := hrun2 w rfl
    obtain ⟨_, hfc⟩ := hrun2 w.drew rfl
    have hfo : (Builtin.firstCells i.size xs.length (.slice ad xs.length cap)).run E.P w.drew = .ok ch1.toArray w.drew := by
      rw [hesz]; exact run_firstCells_slice hlen1 (hc1.imp id fun ⟨A, hA, hcc⟩ => ⟨A, hA, fun j v hj => hcc j v hj⟩)
    have hrun := run_append_new (ty := o.type) hu hi hz hu2 hd2 hm (by rw [hesz]; exact hfc) hfo (by omega) (by omega) (by rw [heb]; exact hbound2.1)
    refine Yld.value (hexec (by rw [hvx]; exact hrun)) ?_
    have hge := grownCap_ge w (xs.length + ys.length) cap e
    have hrel3 : Rel X Z w.drew φ2 (tmOf E.nt a) F2 := hrel2.keep (fun _ _ _ => ⟨Iff.rfl, rfl⟩)
    have hk : Keeps w w.drew Z Z (ψ ++ φy) := fun _ _ _ => ⟨Iff.rfl, rfl⟩
    have hout := hrel3.newSl (d := o.dst) (xs := xs ++ ys) (φc := ψ ++ φy) (ch := ch1 ++ ch2)
      (arr := ch1.toArray ++ ch2.toArray ++ Builtin.zeroCells z.cells (grownCap w (xs.length + ys.length) cap e - (xs.length + ys.length))) (T := e) (sz := esz E.P e) (cap := grownCap w (xs.length + ys.length) cap e)
      (hk.repL (fun _ h => h) hlx) hwall hpos
      (by intro k v hk
          have hlt := (List.getElem?_eq_some_iff.1 hk).1
          rw [Array.getElem?_append_left (by simpa using hlt)]
          simpa using hk)
      (by simp only [Array.size_append, List.size_toArray, size_zeroCells, hlen1, hlen2, hzsz]
          rw [← Nat.add_mul, ← Nat.add_mul]; exact Nat.mul_le_mul_right _ (by omega))
      (by simpa using hge) hndall
      (by intro c hc; rcases List.mem_append.1 hc with hc | hc
          · exact hmψ c hc
          · exact hmy c hc)
      (by intro u c hc; rcases List.mem_append.1 hc with hc | hc
          · exact hψ2 u c hc
          · exact hapy u c hc) (h.new _ (Nat.le_refl _))
    obtain ⟨Z', φ', h1, h2, h3⟩ := hout
    exact ⟨Z', φ', by simpa using h1, (Stp.drew w).trans h2, fun b hb hm => h3 b hb hm⟩
end Go.V
