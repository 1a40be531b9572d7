/- Rows whose order is drawn: told in the text's order, if no operation looks at what another writes, unless one waits for the other. -/
import Derived.Test.YthbmifpfhdlicaaVS
namespace Go.V
set_option linter.unusedVariables false
set_option linter.unusedSimpArgs false
variable {X : Cx} {Z : Nat → Prop} {w : World} {φ : Tmp → List Nat} {tm : Tmp → Value} {F : RF}

theorem Stp.mono {m m' : Nat → Prop} {w w' : World} (h : Stp m w w') (hm : ∀ b, m b → m' b) : Stp m' w w' :=
  ⟨h.os, h.tape, h.output, h.size, fun b hb hn => h.block b hb fun k => hn (hm b k)⟩

theorem step_dst {E : Env} {ops : Array Oper} {o : Oper} {F F' : RF} (h : step E ops o F = some F') : dstOk E o = true := by
  unfold step at h; split at h
  · assumption
  · cases h

theorem step_out {E : Env} (hT : TblOk E) {ops : Array Oper} {o : Oper} {a : Act} {F' : RF} {K : Act → World → Prop} {Q : Exit → Act → World → Prop} (hp : Pre E X Z w φ a F) (hsz : a.tmps.size = E.nt) (hs : step E ops o F = some F')
    (hK : ∀ v w', Out X Z w (tmOf E.nt a) o.dst F' v w' → K (a.put o.dst v) w') : if Region.wanted o (yielded ops a.tmps) then o.wp E.P a w K Q else K (a.put o.dst undef) w := by
  unfold step at hs
  split at hs
  case isFalse => cases hs
  case isTrue hd =>
  have run : sem E o F = some F' → o.wp E.P a w K Q := fun hs => sem_ok hT hp hs K Q hK
  split at hs
  · rename_i hg
    rw [if_pos (by simp [Region.wanted, hg])]
    exact run hs
  · rename_i j want hg
    split at hs
    case h_2 => cases hs
    rename_i t ht
    split at hs
    case h_2 => cases hs
    rename_i b hc
    split at hs
    case isFalse => cases hs
    case isTrue htn =>
    obtain ⟨φy, hr, _⟩ := hp.rel.content hc
    rw [RepV_cell rfl] at hr
    simp only [Rep] at hr
    have hv : tmOf E.nt a t = .bool b := by simpa using hr.2.1
    have hy : yielded ops a.tmps j = some b := by
      have h1 : a.tmps[t]? = some (.bool b) := by
        simp only [tmOf, htn, if_true, Array.getD_eq_getD_getElem?] at hv
        have : t < a.tmps.size := by rw [hsz]; exact htn
        rw [Array.getElem?_eq_getElem this] at hv ⊢
        simpa using hv
      simp [yielded, ht, h1]
    by_cases hw : b = want
    · rw [if_pos hw] at hs
      rw [if_pos (by simp [Region.wanted, hg, hy, hw])]
      exact run hs
    · rw [if_neg hw] at hs
      obtain rfl := Option.some.inj hs
      rw [if_neg (by simp [Region.wanted, hg, hy, hw])]
      refine hK _ _ ?_
      cases hdd : o.dst with
      | none => exact ⟨Z, φ, by simpa [tput, setD] using hp.rel, Stp.refl _ _, fun _ _ _ => Iff.rfl⟩
      | some d => exact ⟨Z, _, hp.rel.setDead d undef, Stp.refl _ _, fun _ _ _ => Iff.rfl⟩

/-- what one operation looks at and writes -/
structure Rec where
  o : Oper
  R : List Tmp
  U : List (Tmp × Slot)
def dstIn (o : Oper) (U : List (Tmp × Slot)) : Bool := match o.dst with | some t => (look U t).isSome | none => true
structure Rec.Good (E : Env) (ops : Array Oper) (F : RF) (r : Rec) : Prop where
  step : step E ops r.o (F.mask r.R) = some ((F.mask r.R).sets r.U)
  keys : keysOk r.R r.U = true
  dst : dstIn r.o r.U = true

theorem Rec.Good.congr {E : Env} {ops : Array Oper} {F G : RF} {r : Rec} (h : r.Good E ops F) (hf : ∀ t ∈ r.R, F.find t = G.find t) : r.Good E ops G :=
  ⟨by rw [← mask_congr hf]; exact h.step, h.keys, h.dst⟩

theorem Rec.Good.run {E : Env} (hT : TblOk E) {tm0 : Tmp → Value} {w0 : World} {Z0 : Nat → Prop} {ops : Array Oper} {r : Rec} {a : Act} {K : Act → World → Prop} {Q : Exit → Act → World → Prop} (hg : r.Good E ops F)
    (h : Inv E X tm0 w0 Z0 F a w) (hK : ∀ a' w', Inv E X tm0 w0 Z0 (F.sets r.U) a' w' → K a' w') : if Region.wanted r.o (yielded ops a.tmps) then r.o.wp E.P a w K Q else K (a.put r.o.dst undef) w := by
  obtain ⟨Z, φ, hp, hz⟩ := h.ex
  have hpre : Pre E (cut X w φ (tmOf E.nt a) F r.R) Z w (fun t => if t ∈ r.R then φ t else []) a (F.mask r.R) := ⟨hp.rel.mask r.R, fun b hb => .inr hb, hp.glob⟩
  refine step_out hT hpre h.size hg.step fun v w' ho => hK _ _ ?_
  obtain ⟨Z', φ1, h1, hs, hz1⟩ := ho
  have hm : ∀ b, (cut X w φ (tmOf E.nt a) F r.R).mine b → X.mine b := by
    rintro b (⟨t, _, hb⟩ | hb)
    · exact hp.rel.mine t b hb
    · exact hp.new b hb
  refine h.out hz hp.glob (step_dst hg.step) ⟨Z', _, Rel.unmask h.lone hp.rel hp.new hg.keys ?_ h1 hs hz1, hs.mono hm, fun b hb hn => hz1 b hb fun k => hn (hm b k)⟩
  intro t ht hn
  have := hg.dst
  simp [dstIn, ht, hn] at this

/-- what a slot holds, when the operations of S are done -/
def pf (S : Nat → Bool) (t : Tmp) : Nat → List Rec → Slot × Nat × Nat → Slot × Nat × Nat
  | _, [], x => x
  | i, r :: rs, x => pf S t (i + 1) rs (if S i = true then app r.U t x else x)
theorem pf_congr {S S' : Nat → Bool} {t : Tmp} : ∀ {rs : List Rec} {i : Nat} {x : Slot × Nat × Nat}, (∀ k r, rs[k]? = some r → look r.U t ≠ none → S (i + k) = S' (i + k)) → pf S t i rs x = pf S' t i rs x
  | [], i, x, h => rfl
  | r :: rs, i, x, h => by
    have h0 : (if S i = true then app r.U t x else x) = (if S' i = true then app r.U t x else x) := by
      by_cases hl : look r.U t = none
      · simp [app_id hl]
      · have := h 0 r (by simp) hl; simp only [Nat.add_zero] at this; rw [this]
    simp only [pf, h0]
    exact pf_congr fun k r' hk hl => by rw [show i + 1 + k = i + (k + 1) by omega]; exact h (k + 1) r' (by simpa using hk) hl
theorem pf_none {S : Nat → Bool} {t : Tmp} : ∀ {rs : List Rec} {i : Nat} {x : Slot × Nat × Nat}, (∀ k r, rs[k]? = some r → S (i + k) = true → look r.U t = none) → pf S t i rs x = x
  | [], i, x, h => rfl
  | r :: rs, i, x, h => by
    have h0 : (if S i = true then app r.U t x else x) = x := by
      split
      · rename_i hs; exact app_id (h 0 r (by simp) (by simpa using hs))
      · rfl
    simp only [pf, h0]
    exact pf_none fun k r' hk hs => h (k + 1) r' (by simpa using hk) (by rw [show i + (k + 1) = i + 1 + k by omega]; exact hs)
theorem pf_add {S S' : Nat → Bool} {t : Tmp} {j : Nat} : ∀ {rs : List Rec} {i m : Nat} {rj : Rec} {x : Slot × Nat × Nat}, i + m = j → rs[m]? = some rj → S j = false → S' j = true → (∀ k, k ≠ j → S' k = S k) →
    (∀ k r, rs[k]? = some r → j < i + k → S (i + k) = true → look rj.U t ≠ none → look r.U t = none) → pf S' t i rs x = app rj.U t (pf S t i rs x)
  | [], i, m, rj, x, _, hr, _, _, _, _ => by simp at hr
  | r :: rs, i, 0, rj, x, hi, hr, hs, hs', hne, hd => by
    obtain rfl : r = rj := by simpa using hr
    obtain rfl : i = j := by simpa using hi
    simp only [pf, hs, hs', if_true, Bool.false_eq_true, if_false]
    have hcong : ∀ y, pf S' t (i + 1) rs y = pf S t (i + 1) rs y := fun y => pf_congr fun k r' _ _ => hne _ (by omega)
    rw [hcong]
    by_cases hl : look r.U t = none
    · rw [app_id hl, app_id hl]
    · have h0 : ∀ y, pf S t (i + 1) rs y = y := fun y => pf_none fun k r' hk hsk =>
        hd (k + 1) r' (by simpa using hk) (by omega) (by rw [show i + (k + 1) = i + 1 + k by omega]; exact hsk) hl
      rw [h0, h0]
  | r :: rs, i, m + 1, rj, x, hi, hr, hs, hs', hne, hd => by
    simp only [pf]
    rw [hne i (by omega)]
    exact pf_add (m := m) (by omega) (by simpa using hr) hs hs' hne fun k r' hk hlt hsk hl => hd (k + 1) r' (by simpa using hk) (by omega) (by rw [show i + (k + 1) = i + 1 + k by omega]; exact hsk) hl

/-! ### In the text's order -/
def opTmps (E : Env) (ops : Array Oper) (o : Oper) : List Tmp :=
  o.op.operands.toList.filterMap E.at ++ match o.guard with
    | some (j, _) => ((ops[j]?).bind (·.dst)).toList
    | none => []
def reads (E : Env) (ops : Array Oper) (o : Oper) (F : RF) : List Tmp :=
  o.dst.toList ++ (opTmps E ops o).flatMap fun t => match F.slot t with | .pl r _ _ _ => [t, r] | _ => [t]
def delta (n : Nat) (F : RF) : List (Tmp × Slot) := (List.take (F.length - n) F).map fun e => (e.1, e.2.1)
theorem sets_length : ∀ {U : List (Tmp × Slot)}, (F.sets U).length = U.length + F.length
  | [] => by simp [RF.sets]
  | (t, s) :: U => by simp only [RF.sets, RF.set, List.length_cons, sets_length (U := U)]; omega
theorem delta_sets {F : RF} : ∀ {U : List (Tmp × Slot)}, delta F.length (F.sets U) = U
  | [] => by simp [delta, RF.sets]
  | (t, s) :: U => by
    have : delta F.length (F.sets U) = U := delta_sets
    simp only [delta, sets_length, Nat.add_sub_cancel] at this ⊢
    have hl : ((t, s) :: U).length = U.length + 1 := rfl
    rw [hl]
    simp only [RF.sets, RF.set, List.take_succ_cons, List.map_cons, this]
def stepM (E : Env) (ops : Array Oper) (o : Oper) (F : RF) : Option Rec :=
  let R := reads E ops o F
  (step E ops o (F.mask R)).bind fun F1 => let U := delta R.length F1; if keysOk R U = true ∧ dstIn o U = true then some ⟨o, R, U⟩ else none
theorem stepM_good {E : Env} {ops : Array Oper} {o : Oper} {r : Rec} (h : stepM E ops o F = some r) : r.o = o ∧ r.Good E ops F := by
  simp only [stepM, Option.bind_eq_some_iff] at h
  obtain ⟨F1, h1, h2⟩ := h
  split at h2
  case isFalse => cases h2
  case isTrue hc =>
  obtain rfl := Option.some.inj h2
  obtain ⟨U, rfl⟩ := step_ext _ h1
  have hl : (F.mask (reads E ops o F)).length = (reads E ops o F).length := by simp [RF.mask]
  rw [← hl, delta_sets] at hc ⊢
  exact ⟨rfl, h1, hc.1, hc.2⟩

def record (E : Env) (ops : Array Oper) : List Oper → RF → Option (List Rec × RF)
  | [], F => some ([], F)
  | o :: os, F => (stepM E ops o F).bind fun r => (record E ops os (F.sets r.U)).map fun q => (r :: q.1, q.2)
theorem record_spec {E : Env} {ops : Array Oper} : ∀ {os : List Oper} {F F' : RF} {rs : List Rec} {i : Nat}, record E ops os F = some (rs, F') → rs.length = os.length ∧
    (∀ t, F'.find t = pf (fun _ => true) t i rs (F.find t)) ∧ ∀ k r, rs[k]? = some r → os[k]? = some r.o ∧ ∃ G : RF, r.Good E ops G ∧ ∀ t, G.find t = pf (fun m => decide (m < i + k)) t i rs (F.find t)
  | [], F, F', rs, i, h => by
    simp only [record, Option.some.injEq, Prod.mk.injEq] at h
    obtain ⟨rfl, rfl⟩ := h
    exact ⟨rfl, fun t => rfl, by simp⟩
  | o :: os, F, F', rs, i, h => by
    simp only [record, Option.bind_eq_some_iff, Option.map_eq_some_iff, Prod.mk.injEq] at h
    obtain ⟨r, hr, ⟨rs', F1⟩, hq, rfl, rfl⟩ := h
    obtain ⟨rfl, hg⟩ := stepM_good hr
    obtain ⟨h1, h2, h3⟩ := record_spec (i := i + 1) hq
    refine ⟨by simp [h1], fun t => ?_, fun k r' hk => ?_⟩
    · rw [h2, find_sets]; simp only [pf, if_true]
    · cases k with
      | zero =>
        obtain rfl : r = r' := by simpa using hk
        refine ⟨rfl, F, hg, fun t => ?_⟩
        rw [pf_none]
        intro k r' _ hs; simp only [decide_eq_true_eq] at hs; omega
      | succ k =>
        obtain ⟨k1, G, k2, k3⟩ := h3 k r' (by simpa using hk)
        refine ⟨by simpa using k1, G, k2, fun t => ?_⟩
        rw [k3, find_sets]
        simp only [pf]
        rw [if_pos (by simp)]
        refine pf_congr fun m _ _ _ => ?_
        rw [show i + (k + 1) = i + 1 + k by omega]

/-! ### Who waits for whom -/
def direct (o : Oper) : List Nat := (o.after.toList.filter (Region.binds .any)).map (·.on)
def addL : List Nat → List Nat → List Nat
  | [], s => s
  | k :: ks, s => addL ks (if s.contains k = true then s else k :: s)
theorem mem_addL {x : Nat} : ∀ {l s : List Nat}, x ∈ addL l s ↔ x ∈ l ∨ x ∈ s
  | [], s => by simp [addL]
  | k :: l, s => by
    simp only [addL, mem_addL (l := l), List.mem_cons]
    split
    · rename_i h
      have h : k ∈ s := by simpa using h
      constructor
      · rintro (h1 | h1)
        · exact .inl (.inr h1)
        · exact .inr h1
      · rintro ((rfl | h1) | h1)
        · exact .inr h
        · exact .inl h1
        · exact .inr h1
    · simp only [List.mem_cons]
      constructor
      · rintro (h1 | h1 | h1)
        · exact .inl (.inr h1)
        · exact .inl (.inl h1)
        · exact .inr h1
      · rintro ((h1 | h1) | h1)
        · exact .inr (.inl h1)
        · exact .inl h1
        · exact .inr (.inr h1)
def addA (acc : List (List Nat)) : List Nat → List Nat
  | [] => []
  | k :: ks => addL (k :: acc.getD k []) (addA acc ks)
theorem mem_addA {acc : List (List Nat)} {x : Nat} : ∀ {ks : List Nat}, x ∈ addA acc ks ↔ ∃ k ∈ ks, x ∈ k :: acc.getD k []
  | [] => by simp [addA]
  | k :: ks => by
    simp only [addA, mem_addL, mem_addA (ks := ks)]
    constructor
    · rintro (h | ⟨m, hm, h⟩)
      · exact ⟨k, by simp, h⟩
      · exact ⟨m, by simp [hm], h⟩
    · rintro ⟨m, hm, h⟩
      rcases List.mem_cons.1 hm with rfl | hm
      · exact .inl h
      · exact .inr ⟨m, hm, h⟩
def ancT : List (List Nat) → List Oper → List (List Nat)
  | acc, [] => acc
  | acc, o :: os => ancT (acc ++ [addA acc (direct o)]) os
def sep (r s : Rec) : Bool := r.U.all fun e => !s.R.contains e.1
def indepAt (T : List (List Nat)) (rs : List Rec) (j : Nat) (s : Rec) : Nat → List Rec → Bool
  | _, [] => true
  | i, r :: rs' => (!decide (i < j) || (T.getD j []).contains i || (sep r s && sep s r)) && indepAt T rs j s (i + 1) rs'
def indepL (T : List (List Nat)) (rs : List Rec) : Nat → List Rec → Bool
  | _, [] => true
  | j, s :: ss => indepAt T rs j s 0 rs && indepL T rs (j + 1) ss
def backs : Nat → List Oper → Bool
  | _, [] => true
  | i, o :: os => (direct o).all (fun k => decide (k < i)) && backs (i + 1) os
def drawOk (ops : List Oper) (rs : List Rec) : Bool := backs 0 ops && indepL (ancT [] ops) rs 0 rs

/-- closed under waiting -/
def Shut (ops : List Oper) (S : Nat → Bool) : Prop := ∀ i o, ops[i]? = some o → S i = true → ∀ k ∈ direct o, S k = true
theorem anc_spec {all : List Oper} {S : Nat → Bool} (hS : Shut all S) : ∀ {os : List Oper} {acc : List (List Nat)} {pre : List Oper}, all = pre ++ os → acc.length = pre.length →
    (∀ j o, all[j]? = some o → j < acc.length → (∀ k ∈ direct o, S k = true) → ∀ k ∈ acc.getD j [], S k = true) →
    ∀ j o, all[j]? = some o → (∀ k ∈ direct o, S k = true) → ∀ k ∈ (ancT acc os).getD j [], S k = true
  | [], acc, pre, ha, hl, hacc, j, o, ho, hd => by
    have hj : j < all.length := (List.getElem?_eq_some_iff.1 ho).1
    exact hacc j o ho (by rw [hl]; simpa [ha] using hj) hd
  | o' :: os, acc, pre, ha, hl, hacc, j, o, ho, hd => by
    simp only [ancT]
    refine anc_spec hS (pre := pre ++ [o']) (by simp [ha]) (by simp [hl]) ?_ j o ho hd
    intro i p hp hi hdp k hk
    by_cases hlt : i < acc.length
    · rw [List.getD_eq_getElem?_getD, List.getElem?_append_left hlt, ← List.getD_eq_getElem?_getD] at hk
      exact hacc i p hp hlt hdp k hk
    · have hi' : i = acc.length := by simp at hi; omega
      rw [List.getD_eq_getElem?_getD, List.getElem?_append_right (by omega)] at hk
      simp only [hi', Nat.sub_self, List.getElem?_cons_zero, Option.getD_some, mem_addA] at hk
      obtain ⟨m, hm, hkm⟩ := hk
      have hpo : p = o' := by
        have : all[i]? = some o' := by rw [ha, hi', hl]; simp
        rw [this] at hp; exact (Option.some.inj hp).symm
      subst hpo
      rcases List.mem_cons.1 hkm with rfl | hkm
      · exact hdp k hm
      · have hmS := hdp m hm
        by_cases hma : m < acc.length
        · have hm2 : m < all.length := by rw [ha]; simp; omega
          exact hacc m all[m] (List.getElem?_eq_getElem hm2) hma (hS m _ (List.getElem?_eq_getElem hm2) hmS) k hkm
        · rw [List.getD_eq_getElem?_getD, List.getElem?_eq_none (by omega)] at hkm; simp at hkm

theorem indepAt_spec {T : List (List Nat)} {rs0 : List Rec} {j : Nat} {s : Rec} : ∀ {rs : List Rec} {i : Nat}, indepAt T rs0 j s i rs = true → ∀ k r, rs[k]? = some r → i + k < j → (i + k) ∉ T.getD j [] → sep r s = true ∧ sep s r = true
  | [], i, h, k, r, hk, _, _ => by simp at hk
  | r :: rs, i, h, 0, r', hk, hlt, hn => by
    obtain rfl : r = r' := by simpa using hk
    simp only [indepAt, Bool.and_eq_true, Bool.or_eq_true, Bool.not_eq_true', decide_eq_false_iff_not, List.contains_eq_mem, decide_eq_true_eq] at h
    rcases h.1 with (h1 | h1) | h1
    · omega
    · exact absurd h1 hn
    · exact h1
  | r :: rs, i, h, k + 1, r', hk, hlt, hn => by
    simp only [indepAt, Bool.and_eq_true] at h
    exact indepAt_spec h.2 k r' (by simpa using hk) (by omega) (by rw [show i + 1 + k = i + (k + 1) by omega]; exact hn)
theorem indepL_spec {T : List (List Nat)} {rs0 : List Rec} : ∀ {ss : List Rec} {i : Nat}, indepL T rs0 i ss = true → ∀ k s, ss[k]? = some s → indepAt T rs0 (i + k) s 0 rs0 = true
  | [], i, h, k, s, hk => by simp at hk
  | s :: ss, i, h, 0, s', hk => by
    obtain rfl : s = s' := by simpa using hk
    simp only [indepL, Bool.and_eq_true] at h; exact h.1
  | s :: ss, i, h, k + 1, s', hk => by
    simp only [indepL, Bool.and_eq_true] at h
    rw [show i + (k + 1) = i + 1 + k by omega]
    exact indepL_spec h.2 k s' (by simpa using hk)
theorem backs_spec : ∀ {os : List Oper} {i : Nat}, backs i os = true → ∀ k o, os[k]? = some o → ∀ m ∈ direct o, m < i + k
  | [], i, h, k, o, hk => by simp at hk
  | o :: os, i, h, 0, o', hk => by
    obtain rfl : o = o' := by simpa using hk
    simp only [backs, Bool.and_eq_true, List.all_eq_true, decide_eq_true_eq] at h
    exact h.1
  | o :: os, i, h, k + 1, o', hk => by
    simp only [backs, Bool.and_eq_true] at h
    intro m hm
    have := backs_spec h.2 k o' (by simpa using hk) m hm
    omega
theorem sep_look {r s : Rec} (h : sep r s = true) {t : Tmp} (ht : t ∈ s.R) : look r.U t = none := by
  cases hl : look r.U t with
  | none => rfl
  | some x =>
    have := List.all_eq_true.1 h _ (look_mem hl)
    simp [ht] at this

def draw (E : Env) (ops : Array Oper) (F : RF) : Option RF :=
  (record E ops ops.toList F).bind fun q => if drawOk ops.toList q.1 = true then some q.2 else none

theorem mem_direct {o : Oper} {k : Nat} : k ∈ direct o ↔ ∃ e ∈ o.after, Region.binds .any e = true ∧ e.on = k := by
  simp only [direct, List.mem_map, List.mem_filter, Array.mem_toList_iff]
  constructor
  · rintro ⟨e, ⟨h1, h2⟩, h3⟩; exact ⟨e, h1, h2, h3⟩
  · rintro ⟨e, h1, h2, h3⟩; exact ⟨e, ⟨h1, h2⟩, h3⟩

theorem Inv.congr {E : Env} {tm0 : Tmp → Value} {w0 : World} {Z0 : Nat → Prop} {a : Act} {G : RF} (h : Inv E X tm0 w0 Z0 F a w) (hf : ∀ t, F.find t = G.find t) : Inv E X tm0 w0 Z0 G a w := by
  have h1 : ∀ t, G.slot t = F.slot t := fun t => by simp [RF.slot, hf t]
  have h2 : ∀ t, G.ver t = F.ver t := fun t => by simp [RF.ver, hf t]
  have h3 : ∀ t, G.cnt t = F.cnt t := fun t => by simp [RF.cnt, hf t]
  obtain ⟨Z, φ, hp, hz⟩ := h.ex
  have hpl : ∀ {r p k v}, PlOk w F (tmOf E.nt a) r p k v → PlOk w G (tmOf E.nt a) r p k v := fun ⟨x, y, u, hx, hf, hv⟩ => ⟨x, y, u, by rw [h1]; exact hx, hf, hv⟩
  have hok : ∀ {r k n}, G.ok r k n = F.ok r k n := by intro r k n; simp only [RF.ok, h2, h3]
  refine ⟨⟨Z, φ, ⟨⟨hp.rel.nodup, hp.rel.disj, hp.rel.mine, fun t x hs => hp.rel.vals t x (by rw [← h1]; exact hs), fun t hs => hp.rel.rest t fun x hx => hs x (by rw [h1]; exact hx), fun t r p k n hs => by rw [h2]; exact hp.rel.vle t r p k n (by rw [← h1]; exact hs),
    fun t r p k n hs hk => hpl (hp.rel.pls t r p k n (by rw [← h1]; exact hs) (by rw [← hok]; exact hk)), hp.rel.glob, fun r p k n v hg => by rw [h2]; exact hp.rel.gle r p k n v hg, fun r p k n v hg hk => hpl (hp.rel.gpl r p k n v hg (by rw [← hok]; exact hk))⟩, hp.new, hp.glob⟩, hz⟩,
    h.size, h.defers, h.stp, h.new, h.pin, h.lone⟩

theorem Inv.drawn {E : Env} {tm0 : Tmp → Value} {w0 : World} {Z0 : Nat → Prop} {a : Act} (h : Inv E X tm0 w0 Z0 F a w) : Inv E X tm0 w0 Z0 F a { w with drawn := w.drawn + 1 } := by
  obtain ⟨Z, φ, hp, hz⟩ := h.ex
  exact ⟨⟨Z, φ, ⟨hp.rel.keep fun b hb _ => ⟨Iff.rfl, rfl⟩, hp.new, hp.glob⟩, hz⟩, h.size, h.defers, ⟨h.stp.os, h.stp.tape, h.stp.output, h.stp.size, h.stp.block⟩, h.new, h.pin, h.lone⟩

theorem draw_any {E : Env} (hT : TblOk E) {tm0 : Tmp → Value} {w0 : World} {Z0 : Nat → Prop} {ops : Array Oper} {Q : Exit → Act → World → Prop} {F0 F' : RF} {rs : List Rec} (hrec : record E ops ops.toList F0 = some (rs, F')) (hok : drawOk ops.toList rs = true)
    (hQ : ∀ a' w', Inv E X tm0 w0 Z0 F' a' w' → Q .normal a' w') : ∀ (fuel : Nat) (listed : Array Bool) (todo : List Nat) (a : Act) (w : World) (F : RF), listed.size = ops.size → todo.Nodup → todo.length = fuel →
      (∀ i, i ∈ todo ↔ i < ops.size ∧ listed.getD i true = false) → Shut ops.toList (fun i => listed.getD i false) → (∀ t, F.find t = pf (fun i => listed.getD i false) t 0 rs (F0.find t)) →
      Inv E X tm0 w0 Z0 F a w → wpAny E.P .any ops Q fuel listed a w := by
  obtain ⟨hlen, hfin, hrs⟩ := record_spec (i := 0) hrec
  simp only [drawOk, Bool.and_eq_true] at hok
  have hgd : ∀ {listed : Array Bool} {i : Nat}, listed.size = ops.size → i < ops.size → listed.getD i false = listed.getD i true := by
    intro listed i hs hi
    simp [Array.getD_eq_getD_getElem?, Array.getElem?_eq_getElem (show i < listed.size by omega)]
  have hdone : ∀ (listed : Array Bool) (a : Act) (w : World) (F : RF), listed.size = ops.size → Region.ready .any ops listed = [] → (∀ t, F.find t = pf (fun i => listed.getD i false) t 0 rs (F0.find t)) → Inv E X tm0 w0 Z0 F a w → Q .normal a w := by
    intro listed a w F hsz hr hF hi
    have hall : ∀ i, i < ops.size → listed.getD i false = true := by
      intro i
      induction i using Nat.strongRecOn with
      | _ i ih =>
        intro hlt
        cases hl : listed.getD i false with
        | true => rfl
        | false =>
          have : i ∈ Region.ready .any ops listed := by
            rw [mem_ready]
            refine ⟨by rw [← hgd hsz hlt]; exact hl, ops[i], Array.getElem?_eq_getElem hlt, fun e he hb => ?_⟩
            have hb := backs_spec hok.1 i ops[i] (by simp [hlt]) e.on (mem_direct.2 ⟨e, he, hb, rfl⟩)
            exact ih e.on (by omega) (by omega)
          rw [hr] at this; cases this
    refine hQ a w (hi.congr fun t => ?_)
    rw [hF, hfin]
    refine pf_congr fun k r hk _ => ?_
    have := (List.getElem?_eq_some_iff.1 hk).1
    simp only [Nat.zero_add]
    exact hall k (by rw [hlen] at this; simpa using this)
  intro fuel
  induction fuel with
  | zero =>
    intro listed todo a w F hsz hnd htl htd hsh hF hi
    have htn : todo = [] := List.length_eq_zero_iff.1 htl
    have hr : Region.ready .any ops listed = [] := by
      refine List.eq_nil_iff_forall_not_mem.2 fun i hi => ?_
      obtain ⟨h0, o, ho, _⟩ := mem_ready.1 hi
      have := (htd i).2 ⟨(Array.getElem?_eq_some_iff.1 ho).1, h0⟩
      rw [htn] at this; cases this
    exact ⟨hr, hdone listed a w F hsz hr hF hi⟩
  | succ fuel ih =>
    intro listed todo a w F hsz hnd htl htd hsh hF hi
    refine ⟨fun hr => hdone listed a w F hsz hr hF hi, fun j hj => ?_⟩
    obtain ⟨hj0, o, ho, hafter⟩ := mem_ready.1 hj
    have hjlt : j < ops.size := (Array.getElem?_eq_some_iff.1 ho).1
    have hjS : listed.getD j false = false := by rw [hgd hsz hjlt]; exact hj0
    have hol : ops.toList[j]? = some o := by simpa using ho
    have hdir : ∀ k ∈ direct o, listed.getD k false = true := fun k hk => by
      obtain ⟨e, he, hb, rfl⟩ := mem_direct.1 hk
      exact hafter e he hb
    have hjr : j < rs.length := by rw [hlen]; simpa using hjlt
    obtain ⟨hro, G, hg, hGf⟩ := hrs j rs[j] (List.getElem?_eq_getElem hjr)
    obtain rfl : rs[j].o = o := by rw [hol] at hro; exact (Option.some.inj hro).symm
    -- who is done and does not stand ahead, who stands ahead and is not done: neither is looked at
    have hanc : ∀ {i : Nat} {p : Oper}, ops.toList[i]? = some p → (∀ k ∈ direct p, listed.getD k false = true) → ∀ k ∈ (ancT [] ops.toList).getD i [], listed.getD k false = true := by
      intro i p hp hd
      exact anc_spec hsh (acc := []) (pre := []) rfl rfl (fun j o _ hlt => by simp at hlt) i p hp hd
    have hsep : ∀ k r, rs[k]? = some r → (k < j ∧ listed.getD k false = false) ∨ (j < k ∧ listed.getD k false = true) → sep r rs[j] = true ∧ sep rs[j] r = true := by
      intro k r hk hc
      rcases hc with ⟨hlt, hS⟩ | ⟨hlt, hS⟩
      · have h1 := indepL_spec hok.2 j rs[j] (List.getElem?_eq_getElem hjr)
        rw [Nat.zero_add] at h1
        refine indepAt_spec h1 k r hk (by omega) ?_
        rw [Nat.zero_add]
        intro hm
        have := hanc hol hdir k hm
        rw [hS] at this; cases this
      · have h1 := indepL_spec hok.2 k r hk
        rw [Nat.zero_add] at h1
        have h2 := indepAt_spec h1 j rs[j] (List.getElem?_eq_getElem hjr) (by omega) (by
          rw [Nat.zero_add]
          intro hm
          obtain ⟨hro', _⟩ := hrs k r hk
          have := hanc hro' (hsh k r.o hro' hS) j hm
          rw [hjS] at this; cases this)
        exact ⟨h2.2, h2.1⟩
    have hgF : rs[j].Good E ops F := hg.congr fun t ht => by
      rw [hGf, hF]
      refine pf_congr fun k r hk hl => ?_
      simp only [Nat.zero_add]
      by_cases hlt : k < j
      · rw [decide_eq_true hlt]
        cases hS : listed.getD k false with
        | true => rfl
        | false => exact absurd (sep_look (hsep k r hk (.inl ⟨hlt, hS⟩)).1 ht) hl
      · rw [decide_eq_false hlt]
        cases hS : listed.getD k false with
        | false => rfl
        | true =>
          have hne : k ≠ j := fun e => by rw [e, hjS] at hS; cases hS
          exact absurd (sep_look (hsep k r hk (.inr ⟨by omega, hS⟩)).1 ht) hl
    have hset : ∀ k, (listed.setIfInBounds j true).getD k false = if k = j then true else listed.getD k false := by
      intro k
      by_cases e : k = j
      · subst e; simp [hsz, hjlt]
      · rw [if_neg e, getD_set_ne false (fun h => e h.symm)]
    have hrest : ∀ a' w', Inv E X tm0 w0 Z0 (F.sets rs[j].U) a' w' → wpAny E.P .any ops Q fuel (listed.setIfInBounds j true) a' w' := by
      intro a' w' hi'
      have hjt : j ∈ todo := (htd j).2 ⟨hjlt, hj0⟩
      refine ih (listed.setIfInBounds j true) (todo.erase j) a' w' _ (by simpa using hsz) (hnd.erase j) (by rw [List.length_erase_of_mem hjt, htl]; rfl) ?_ ?_ ?_ hi'
      · intro i
        rw [hnd.mem_erase_iff, htd i]
        constructor
        · rintro ⟨hne, h1, h2⟩; exact ⟨h1, by rw [getD_set_ne true (Ne.symm hne)]; exact h2⟩
        · rintro ⟨h1, h2⟩
          have hne : i ≠ j := by
            rintro rfl; simp [hsz, h1] at h2
          exact ⟨hne, h1, by rw [getD_set_ne true (Ne.symm hne)] at h2; exact h2⟩
      · intro i p hp hS k hk
        simp only [hset] at hS ⊢
        split at hS
        · rename_i e; subst e
          rw [hol] at hp; obtain rfl := Option.some.inj hp
          split
          · rfl
          · exact hdir k hk
        · split
          · rfl
          · exact hsh i p hp hS k hk
      · intro t
        rw [find_sets, hF]
        refine (pf_add (j := j) (m := j) (rj := rs[j]) (by omega) (List.getElem?_eq_getElem hjr) hjS (by rw [hset, if_pos rfl]) (fun k hk => by rw [hset, if_neg hk]) ?_).symm
        intro k r hk hlt hS hl
        rw [Nat.zero_add] at hlt hS
        have h2 := hsep k r hk (.inr ⟨hlt, hS⟩)
        cases hl2 : look rs[j].U t with
        | none => exact absurd hl2 hl
        | some s => exact sep_look h2.1 (keysOk_mem hg.keys hl2).1
    unfold wpOp
    rw [ho]
    have h3 := hgF.run hT (Q := Q) hi hrest
    simp only
    split
    · rename_i hw; rw [if_pos hw] at h3; exact .inl h3
    · rename_i hw; rw [if_neg hw] at h3; exact h3

theorem draw_ok {E : Env} (hT : TblOk E) (hm : E.P.follows .mixedOrders = true) : DrawOk E (draw E) := by
  intro X tm0 w0 Z0 ops id F F' a w Q hi hd hQ
  simp only [draw, Option.bind_eq_some_iff] at hd
  obtain ⟨⟨rs, F1⟩, hrec, hd⟩ := hd
  split at hd
  case isFalse => cases hd
  case isTrue hok =>
  obtain rfl := Option.some.inj hd
  refine wp_region_any hm (draw_any hT hrec hok hQ ops.size _ (List.range ops.size) a _ F (by simp) List.nodup_range (by simp) ?_ ?_ ?_ hi.drawn)
  · intro i
    rw [List.mem_range]
    constructor
    · intro h; exact ⟨h, by simp [h]⟩
    · exact fun h => h.1
  · intro i o _ hS
    exfalso
    by_cases h : i < ops.size
    · simp [h] at hS
    · simp [h] at hS
  · intro t
    rw [pf_none]
    intro k r _ hS
    exfalso
    rw [Nat.zero_add] at hS
    by_cases h : k < ops.size
    · simp [h] at hS
    · simp [h] at hS
end Go.V
