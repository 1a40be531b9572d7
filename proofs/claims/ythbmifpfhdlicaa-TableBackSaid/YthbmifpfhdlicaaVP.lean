/- A function's text: what it makes of frames; that the program does so. -/
import Derived.Test.YthbmifpfhdlicaaVO
import Derived.Laws.Cover3
namespace Go.V
set_option linter.unusedVariables false
set_option linter.unusedSimpArgs false
variable {X : Cx} {Z : Nat → Prop} {w : World} {φ : Tmp → List Nat} {tm : Tmp → Value} {F : RF}

/-! ### What is kept between rows -/
def View.zero : View → View
  | .cells i o n _ => .cells i o n 0
  | k => k
def RF.kept (F : RF) (keep : List Tmp) (t : Tmp) : Slot :=
  match F.slot t with
  | .pl r p k n => if F.ok r k n = true ∧ keep.contains r = true then .pl r p k.zero 0 else .dead
  | s => s
def RF.prune (F : RF) (keep : List Tmp) : RF := keep.map fun t => (t, F.kept keep t, 0, 0)
theorem find_map {f : Tmp → Slot} : ∀ {keep : List Tmp} {t : Tmp}, RF.find (keep.map fun t => (t, f t, 0, 0)) t = if t ∈ keep then (f t, 0, 0) else (.dead, 0, 0)
  | [], t => by simp [RF.find]
  | u :: keep, t => by
    simp only [List.map_cons, RF.find, List.mem_cons]
    by_cases h : t = u
    · subst h; simp
    · rw [if_neg h, find_map]; simp [h]
theorem slot_prune {keep : List Tmp} {t : Tmp} : (F.prune keep).slot t = if t ∈ keep then F.kept keep t else .dead := by
  simp only [RF.slot, RF.prune, find_map]; split <;> rfl
theorem ver_prune {keep : List Tmp} {t : Tmp} : (F.prune keep).ver t = 0 := by
  simp only [RF.ver, RF.prune, find_map]; split <;> rfl
theorem cnt_prune {keep : List Tmp} {t : Tmp} : (F.prune keep).cnt t = 0 := by
  simp only [RF.cnt, RF.prune, find_map]; split <;> rfl
theorem viewOk_zero {y : PV} {u v : Value} {k : View} : viewOk w y u k.zero v ↔ viewOk w y u k v := by cases k <;> exact Iff.rfl

theorem Rel.prune (h : Rel X Z w φ tm F) (keep : List Tmp) (hl : ∀ r p k n v, ¬ X.gh r p k n v) : Rel X Z w (fun t => if t ∈ keep then φ t else []) tm (F.prune keep) where
  nodup t := by by_cases e : t ∈ keep <;> simp [e, h.nodup]
  disj t u b := by
    by_cases e : t ∈ keep <;> by_cases e' : u ∈ keep <;> simp only [e, e', if_true, if_false]
    · exact h.disj t u b
    · intro _ h; simp at h
    · intro h; simp at h
    · intro h; simp at h
  mine t b := by
    by_cases e : t ∈ keep <;> simp only [e, if_true, if_false]
    · exact h.mine t b
    · intro h; simp at h
  vals t x hs := by
    rw [slot_prune] at hs
    split at hs
    · rename_i e
      simp only [e, if_true]
      unfold RF.kept at hs
      split at hs
      · split at hs <;> cases hs
      · exact h.vals t x hs
    · cases hs
  rest t hs := by
    by_cases e : t ∈ keep
    · simp only [e, if_true]
      refine h.rest t (fun x hx => hs x ?_)
      rw [slot_prune, if_pos e]; unfold RF.kept; rw [hx]
    · simp [e]
  vle t r p k n hs := by
    rw [slot_prune] at hs
    split at hs
    · unfold RF.kept at hs
      split at hs
      · split at hs
        · simp only [Slot.pl.injEq] at hs; omega
        · cases hs
      · rename_i hne; exact absurd hs (hne r p k n)
    · cases hs
  pls t r p k n hs hok := by
    rw [slot_prune] at hs
    split at hs
    · unfold RF.kept at hs
      split at hs
      · rename_i r' p' k' n' hsl
        split at hs
        · rename_i hc
          simp only [Slot.pl.injEq] at hs
          obtain ⟨rfl, rfl, rfl, rfl⟩ := hs
          obtain ⟨x, y, u, hx, hf, hv⟩ := h.pls t r' p' k' n' hsl hc.1
          have hr : r' ∈ keep := by have := hc.2; rw [List.contains_eq_mem] at this; simpa using this
          exact ⟨x, y, u, by rw [slot_prune, if_pos hr]; unfold RF.kept; rw [hx], hf, viewOk_zero.2 hv⟩
        · cases hs
      · rename_i hne; exact absurd hs (hne r p k n)
    · cases hs
  glob := h.glob
  gle r p k n v hs := absurd hs (hl r p k n v)
  gpl r p k n v hs := absurd hs (hl r p k n v)

theorem Inv.prune {E : Env} {tm0 : Tmp → Value} {w0 : World} {Z0 : Nat → Prop} {a : Act} (h : Inv E X tm0 w0 Z0 F a w) (keep : List Tmp) : Inv E X tm0 w0 Z0 (F.prune keep) a w := by
  obtain ⟨Z, φ, hp, hz⟩ := h.ex
  exact ⟨⟨Z, _, ⟨hp.rel.prune keep h.lone, hp.new, hp.glob⟩, hz⟩, h.size, h.defers, h.stp, h.new, h.pin, h.lone⟩

/-! ### A function's text -/
/-- rows whose order is drawn: told elsewhere -/
def runR (E : Env) (D : Array Oper → RF → Option RF) (ops : Array Oper) (draw : Bool) (F : RF) : Option RF := if draw = true then D ops F else runS E ops ops.toList F

def itr (body : (Exit → RF → Prop) → RF → Prop) (K : Exit → RF → Prop) : Nat → RF → Prop
  | 0, _ => False
  | n + 1, F => body (fun e F' => match e with | .normal => itr body K n F' | e => K e F') F

/-- whether a row's last operation asks if a slice is nil: of an empty one both answers may be -/
def nilLast (E : Env) (ops : List Oper) (F : RF) (k : RF → Prop) : Prop :=
  ∃ os o d T x S f sz xs e F1, ops = os ++ [o] ∧ o.op = .binOp .eql T x (.const (.slice none 0 0)) S ∧ o.guard = none ∧ o.dst = some d ∧ dstOk E o = true ∧ E.P.underlying T = some (.slice e) ∧
    runS E ops.toArray os F = some F1 ∧ E.rd F1 T x = some (.sl f sz xs) ∧ ∀ b : Bool, (b = true → xs = []) → k (F1.set d (.val (.prim (.bool b))))

def wpx (E : Env) (D : Array Oper → RF → Option RF) : Code → (Exit → RF → Prop) → RF → Prop
  | .skip, K, F => K .normal F
  | .region id ops dr, K, F => match runR E D ops dr F with
    | some F' => K .normal (F'.prune (E.keep id))
    | none => dr = false ∧ nilLast E ops.toList F (fun F' => K .normal (F'.prune (E.keep id)))
  | .seq a b, K, F => wpx E D a (fun e F' => match e with | .normal => wpx E D b K F' | e => K e F') F
  | .cond c a b, K, F => match E.vl F c with
    | some (.bool t) => if t = true then wpx E D a K F else wpx E D b K F
    | _ => False
  | .block id c, K, F => wpx E D c (fun e F' => match e with | .exit i => if i = id then K .normal F' else K (.exit i) F' | e => K e F') F
  | .loop c, K, F => ∃ n, itr (wpx E D c) K n F
  | .exit id, K, F => K (.exit id) F
  | .ret, K, F => K .ret F
  | _, _, _ => False

theorem least {p : Nat → Prop} : ∀ n, p n → ∃ m, p m ∧ ∀ k, k < m → ¬ p k := by
  intro n
  induction n using Nat.strongRecOn with
  | _ n ih =>
    intro hn
    by_cases h : ∃ k, k < n ∧ p k
    · obtain ⟨k, hk, hp⟩ := h; exact ih k hk hp
    · exact ⟨n, hn, fun k hk hp => h ⟨k, hk, hp⟩⟩

theorem wp_loop_n {P : Program} {c : Code} {Q : Exit → Act → World → Prop} (S : Nat → Act → World → Prop)
    (round : ∀ n a w, S n a w → c.wp P (Exit.then (fun a' w' => ∃ m, m < n ∧ S m a' w') Q) a w) {n : Nat} {a : Act} {w : World} (h : S n a w) : (Code.loop c).wp P Q a w := by
  have hex : ∀ a w, (∃ n, S n a w) → ∃ m, S m a w ∧ ∀ k, k < m → ¬ S k a w := fun a w ⟨n, hn⟩ => least n hn
  refine wp_loop (fun a w => ∃ n, S n a w) (fun a w => @dite _ (∃ n, S n a w) (Classical.propDecidable _) (fun h => Classical.choose (hex a w h)) (fun _ => 0)) ⟨n, h⟩ ?_
  intro a w ha
  obtain ⟨h1, h2⟩ := Classical.choose_spec (hex a w ha)
  refine wp_mono (round _ a w h1) ?_
  intro e a' w' hq
  cases e with
  | normal =>
    obtain ⟨m, hm, hS⟩ := hq
    refine ⟨⟨m, hS⟩, ?_⟩
    simp only [dif_pos ha, dif_pos (⟨m, hS⟩ : ∃ n, S n a' w')]
    obtain ⟨k1, k2⟩ := Classical.choose_spec (hex a' w' ⟨m, hS⟩)
    exact Nat.lt_of_le_of_lt (Nat.le_of_not_lt fun hlt => k2 m hlt hS) hm
  | _ => exact hq

/-- rows whose order is drawn are told soundly -/
def DrawOk (E : Env) (D : Array Oper → RF → Option RF) : Prop :=
  ∀ (X : Cx) (tm0 : Tmp → Value) (w0 : World) (Z0 : Nat → Prop) (ops : Array Oper) (id : Nat) (F F' : RF) (a : Act) (w : World) (Q : Exit → Act → World → Prop), Inv E X tm0 w0 Z0 F a w → D ops F = some F' →
    (∀ a' w', Inv E X tm0 w0 Z0 F' a' w' → Q .normal a' w') → (Code.region id ops true).wp E.P Q a w

theorem runS_app {E : Env} (hT : TblOk E) {tm0 : Tmp → Value} {w0 : World} {Z0 : Nat → Prop} {ops : Array Oper} {Q : Exit → Act → World → Prop} {rest : List Oper} : ∀ (os : List Oper) (F F' : RF) (a : Act) (w : World), Inv E X tm0 w0 Z0 F a w → runS E ops os F = some F' →
    (∀ a' w', Inv E X tm0 w0 Z0 F' a' w' → wpList E.P ops Q rest a' w') → wpList E.P ops Q (os ++ rest) a w
  | [], F, F', a, w, h, hs, hQ => by
    simp only [runS, Option.some.injEq] at hs; subst hs; exact hQ a w h
  | o :: os, F, F', a, w, h, hs, hQ => by
    simp only [runS, Option.bind_eq_some_iff] at hs
    obtain ⟨F1, h1, h2⟩ := hs
    exact wpList_step fun K hK => step_ok hT h h1 fun a' w' hi => hK a' w' (runS_app hT os F1 F' a' w' hi h2 hQ)

theorem wpx_ok {E : Env} (hT : TblOk E) {D : Array Oper → RF → Option RF} (hD : DrawOk E D) {tm0 : Tmp → Value} {w0 : World} {Z0 : Nat → Prop} : ∀ (c : Code) (K : Exit → RF → Prop) (F : RF) (a : Act) (w : World)
    (Q : Exit → Act → World → Prop), Inv E X tm0 w0 Z0 F a w → wpx E D c K F → (∀ e F' a' w', K e F' → Inv E X tm0 w0 Z0 F' a' w' → Q e a' w') → c.wp E.P Q a w := by
  intro c
  induction c with
  | skip => intro K F a w Q h hw hQ; exact wp_skip (hQ _ _ _ _ hw h)
  | region id ops dr =>
    intro K F a w Q h hw hQ
    simp only [wpx] at hw
    split at hw
    case h_2 =>
      obtain ⟨rfl, os, o, d, T, x, S, f, sz, xs, e, F1, ho, hop, hg, hd, hdo, hu, hr, hrd, hb⟩ := hw
      refine wp_region_list ?_
      rw [ho]
      have hr' : runS E ops os F = some F1 := by simpa using hr
      refine runS_app hT os F F1 a w h hr' fun a' w' hi => wpList_step fun K hK => ?_
      rw [if_pos (by simp [Region.wanted, hg])]
      obtain ⟨Z, φ, hp, hz⟩ := hi.ex
      obtain ⟨φy, hrep, _⟩ := rd_rep hp hrd
      rw [RepV_cell rfl] at hrep
      simp only [Rep] at hrep
      obtain ⟨ad, cap, ψ, ch, hv, _, _, _, hor⟩ := hrep
      have hv : a'.eval x = .slice ad xs.length cap := by simpa using hv
      have hex : ∃ b : Bool, (b = true → xs = []) ∧ (execOp a'.eval o).run E.P w' = .ok (.value (.bool b)) w' := by
        refine ⟨ad.isNone, ?_, ?_⟩
        · intro hn
          rcases hor with ⟨h1, _⟩ | ⟨b, off, cs, T', fr, rfl, _⟩
          · exact h1
          · cases hn
        · unfold execOp; rw [hop]
          have hq := run_equal_slice_nil (P := E.P) w' T e ad xs.length cap hu
          have hg : eqGuard .eql T x (.const (.slice none 0 0)) (.slice ad xs.length cap) (.slice none 0 0) = pure () := rfl
          have hbin : binOp .eql T (.slice ad xs.length cap) (.slice none 0 0) = (do pure (.bool (← Op.equal T (.slice ad xs.length cap) (.slice none 0 0)))) := rfl
          have hc : a'.eval (.const (.slice none 0 0)) = .slice none 0 0 := rfl
          simp only [hv, hc, hg, hbin, Sem.run_bind, Sem.run_pure, Result.andThen_ok, hq]
      obtain ⟨b, hbx, hrun⟩ := hex
      have hy : Yld E.P o a' w' (Out X Z w' (tmOf E.nt a') o.dst (F1.set d (.val (.prim (.bool b))))) := by
        refine Yld.value hrun ?_
        obtain ⟨φ', hr2⟩ := hp.rel.outVal (d := o.dst) (x := .prim (.bool b)) (v := .bool b) (φx := []) ((RepV_cell rfl).2 (by simp [Rep, flat])) List.nodup_nil (by simp) (by simp)
        rw [hd] at hr2 ⊢
        exact ⟨Z, φ', hr2, Stp.refl _ _, fun _ _ _ => Iff.rfl⟩
      exact hy K Q fun v w'' hout => hK _ _ (wpList_nil (hQ _ _ _ _ (hb b hbx) ((hi.out hz hp.glob hdo hout).prune _)))
    rename_i F' hr
    unfold runR at hr
    cases dr with
    | false =>
      simp only [Bool.false_eq_true, if_false] at hr
      exact wp_region_list (runS_ok hT _ F F' a w h hr fun a' w' hi => hQ _ _ _ _ hw (hi.prune _))
    | true =>
      simp only [if_true] at hr
      exact hD X tm0 w0 Z0 ops id F F' a w Q h hr fun a' w' hi => hQ _ _ _ _ hw (hi.prune _)
  | seq x y ihx ihy =>
    intro K F a w Q h hw hQ
    refine wp_seq (ihx _ F a w _ h hw ?_)
    intro e F' a' w' hk hi
    cases e with
    | normal => exact ihy K F' a' w' Q hi hk hQ
    | _ => exact hQ _ _ _ _ hk hi
  | cond c x y ihx ihy =>
    intro K F a w Q h hw hQ
    simp only [wpx] at hw
    split at hw
    case h_2 => exact hw.elim
    rename_i t hc
    obtain ⟨Z, φ, hp, hz⟩ := h.ex
    refine wp_cond (vl_eq hp hc) ?_
    cases t with
    | true => exact ihx K F a w Q h (by simpa using hw) hQ
    | false => exact ihy K F a w Q h (by simpa using hw) hQ
  | block id c ih =>
    intro K F a w Q h hw hQ
    refine wp_block (ih _ F a w _ h hw ?_)
    intro e F' a' w' hk hi
    cases e with
    | exit i =>
      simp only [Exit.inBlock] at hk ⊢
      split
      · rename_i e; rw [if_pos e] at hk; exact hQ _ _ _ _ hk hi
      · rename_i e; rw [if_neg e] at hk; exact hQ _ _ _ _ hk hi
    | _ => exact hQ _ _ _ _ hk hi
  | loop c ih =>
    intro K F a w Q h hw hQ
    simp only [wpx] at hw
    obtain ⟨n, hn⟩ := hw
    refine wp_loop_n (fun n a w => ∃ F, Inv E X tm0 w0 Z0 F a w ∧ itr (wpx E D c) K n F) ?_ (n := n) ⟨F, h, hn⟩
    rintro n a w ⟨F, hi, hn⟩
    cases n with
    | zero => exact hn.elim
    | succ n =>
      refine ih _ F a w _ hi hn ?_
      intro e F' a' w' hk hi'
      cases e with
      | normal => exact ⟨n, Nat.lt_succ_self n, F', hi', hk⟩
      | _ => exact hQ _ _ _ _ hk hi'
  | exit id => intro K F a w Q h hw hQ; exact wp_exit (hQ _ _ _ _ hw h)
  | ret => intro K F a w Q h hw hQ; exact wp_ret (hQ _ _ _ _ hw h)
  | _ => intro K F a w Q h hw hQ; exact hw.elim

/-! ### Results -/
def finR (E : Env) : RF → List ResultVar → Option (List PV × RF)
  | F, [] => some ([], F)
  | F, .tmp t :: rs => (E.tk F 0 (.tmp t)).bind fun r => if r.1.notTup = true then (finR E r.2 rs).map fun q => (r.1 :: q.1, q.2) else none
  | F, .cell t T :: rs =>
    if t < E.nt ∧ tyOk E.P T = true then
      match F.slot t with
      | .val (.ptr f cs) =>
        if aggT E.P T = true then (if cs.length = esz E.P T then (finR E (F.set t .dead) rs).map fun q => (.agg cs :: q.1, q.2) else none)
        else match cs with
          | [c] => (finR E (F.set t .dead) rs).map fun q => (c :: q.1, q.2)
          | _ => none
      | _ => none
    else none

def resOf (tmps : Array Value) : ResultVar → Sem Value
  | .tmp t => pure (tmps.getD t undef)
  | .cell a t => do loadVar t (← asAddr (tmps.getD a undef))

theorem finR_ok {E : Env} {a : Act} : ∀ (rs : List ResultVar) (F : RF) (φ : Tmp → List Nat) (ys : List PV) (F' : RF), Pre E X Z w φ a F → finR E F rs = some (ys, F') →
    ∃ φ' φy vs, TakenL X Z w φ (tmOf E.nt a) F' ys vs φ' φy ∧ (rs.mapM (resOf a.tmps)).run E.P w = .ok vs w ∧ ∀ y ∈ ys, y.notTup = true
  | [], F, φ, ys, F', h, hs => by
    simp only [finR, Option.some.injEq, Prod.mk.injEq] at hs
    obtain ⟨rfl, rfl⟩ := hs
    exact ⟨φ, [], [], ⟨h.rel, by simp [RepTs], List.nodup_nil, by simp, fun _ _ h => h, by simp⟩, by simp, by simp⟩
  | r :: rs, F, φ, ys, F', h, hs => by
    -- what is told first, and the rest
    have join : ∀ {y : PV} {v : Value} {F1 : RF} {φ1 : Tmp → List Nat} {φy : List Nat} {q : List PV × RF}, Taken X Z w φ (tmOf E.nt a) F1 y v φ1 φy → y.notTup = true → (resOf a.tmps r).run E.P w = .ok v w → finR E F1 rs = some q → (y :: q.1, q.2) = (ys, F') →
        ∃ φ' φy vs, TakenL X Z w φ (tmOf E.nt a) F' ys vs φ' φy ∧ ((r :: rs).mapM (resOf a.tmps)).run E.P w = .ok vs w ∧ ∀ y ∈ ys, y.notTup = true := by
      intro y v F1 φ1 φy q ht hn hrun hq he
      simp only [Prod.mk.injEq] at he
      obtain ⟨rfl, rfl⟩ := he
      obtain ⟨φ2, φys, vs, k1, k2, k3⟩ := finR_ok rs F1 φ1 q.1 q.2 ⟨ht.rel, h.new, h.glob⟩ hq
      refine ⟨φ2, φy ++ φys, v :: vs, ⟨k1.rel, RepTs_cons.2 ⟨φy, φys, v, vs, rfl, rfl, RepV_RepV1 hn ht.rep, k1.rep⟩, ?_, ?_, fun r b hb => ht.less r b (k1.less r b hb), ?_⟩, ?_, ?_⟩
      · refine List.nodup_append.2 ⟨ht.nodup, k1.nodup, fun b hb c hc e => ?_⟩
        subst e; obtain ⟨r, hr⟩ := k1.was b hc; exact ht.apart r b hb hr
      · intro b hb
        rcases List.mem_append.1 hb with hb | hb
        · exact ht.was b hb
        · obtain ⟨r, hr⟩ := k1.was b hb; exact ⟨r, ht.less r b hr⟩
      · intro r b hb
        rcases List.mem_append.1 hb with hb | hb
        · exact fun hb2 => ht.apart r b hb (k1.less r b hb2)
        · exact k1.apart r b hb
      · simp [List.mapM_cons, hrun, k2]
      · intro z hz; rcases List.mem_cons.1 hz with rfl | hz
        · exact hn
        · exact k3 z hz
    cases r with
    | tmp t =>
      simp only [finR, Option.bind_eq_some_iff] at hs
      obtain ⟨⟨y, F1⟩, ht, hs⟩ := hs
      split at hs
      case isFalse => cases hs
      case isTrue hn =>
      simp only [Option.map_eq_some_iff] at hs
      obtain ⟨q, hq, he⟩ := hs
      obtain ⟨φ1, φy, htk⟩ := tk_rep h ht
      exact join htk hn (by simp [resOf, Act.eval]) hq he
    | cell t T =>
      simp only [finR] at hs
      split at hs
      case isFalse => cases hs
      case isTrue hc =>
      obtain ⟨htn, hty⟩ := hc
      split at hs
      case h_2 => cases hs
      rename_i f cs hsl
      have hr := h.rel.vals t _ hsl
      rw [RepV_cell rfl] at hr
      have hr0 := hr
      simp only [Rep] at hr
      obtain ⟨b, arr, T', fr, ψ, hv, hb, hl, hc1, hf, ht⟩ := hr
      have hv' : tmOf E.nt a t = .pointer (some ⟨b, 0, none⟩) := by simpa using hv
      have hev : a.tmps.getD t undef = .pointer (some ⟨b, 0, none⟩) := by rw [← hv']; simp [tmOf, htn]
      have hsub : ψ.Sublist (φ t) := by
        cases f with
        | false => rw [(hf rfl).2.2]; exact List.nil_sublist _
        | true => rw [(ht rfl).2.2]; exact List.sublist_cons_self _ _
      have hlen := RepL_len (sz := 1) hl (fun c hcm => PV.cell1_width (hc1 c hcm))
      simp only [Array.length_toList, Nat.mul_one] at hlen
      have hrel := h.rel.setDead t (tmOf E.nt a t)
      rw [upd_eta] at hrel
      have mk : ∀ {y : PV} {v : Value}, RepV w Z y ψ v → Taken X Z w φ (tmOf E.nt a) (F.set t .dead) y v (upd φ t []) ψ := by
        intro y v hyr
        refine ⟨hrel, hyr, (h.rel.nodup t).sublist hsub, fun b hb => ⟨t, hsub.subset hb⟩, ?_, ?_⟩
        · intro r b hb; by_cases e : r = t
          · simp [upd, e] at hb
          · rwa [upd_ne _ _ e] at hb
        · intro r b hb; by_cases e : r = t
          · simp [upd, e]
          · rw [upd_ne _ _ e]; exact fun hb2 => e (h.rel.disj r t b hb2 (hsub.subset hb))
      split at hs
      · rename_i hagg
        split at hs
        case isFalse => cases hs
        case isTrue hsz =>
        simp only [Option.map_eq_some_iff] at hs
        obtain ⟨q, hq, he⟩ := hs
        have hrun : (resOf a.tmps (.cell t T)).run E.P w = .ok (.agg arr) w := by
          have hlv := run_loadCells_list (P := E.P) w ⟨b, 0, none⟩ arr.toList (fun j v hj => by
            rw [add_lit rfl]; simp only [World.cell?, hb, Nat.zero_add]; simpa using hj)
          simp only [Array.length_toList, hlen, hsz] at hlv
          simp [resOf, hev, asAddr, loadVar, run_isAgg (tyOk_u hty), hagg, run_size (tyOk_i hty), hlv]
        exact join (mk (RepV_agg.2 ⟨arr.toList, by simp, by simp only [Rep]; exact ⟨hl, hc1⟩⟩)) rfl hrun hq he
      · rename_i hagg
        split at hs
        case h_2 => cases hs
        rename_i c
        simp only [Option.map_eq_some_iff] at hs
        obtain ⟨q, hq, he⟩ := hs
        simp only [RepL_cons, RepL_nil] at hl
        obtain ⟨φ₁, φ₂, v₁, v₂, rfl, e2, h1, rfl, rfl⟩ := hl
        have hl1 : v₁.length = 1 := by rw [h1.length, PV.cell1_width (hc1 c (by simp))]
        obtain ⟨u, rfl⟩ := List.length_eq_one_iff.1 hl1
        have hcell : w.cell? ⟨b, 0, none⟩ = some u := by
          simp only [World.cell?, hb]
          have : arr[0]? = some u := by rw [← Array.getElem?_toList, e2]; rfl
          simpa using this
        have hrun : (resOf a.tmps (.cell t T)).run E.P w = .ok u w := by
          simp [resOf, hev, asAddr, loadVar, run_isAgg (tyOk_u hty), hagg, hcell]
        simp only [List.append_nil] at mk
        have hcn : c.notTup = true := by have := hc1 c (by simp); cases c <;> simp_all [PV.cell1, PV.notTup]
        exact join (mk ((RepV_cell (hc1 c (by simp))).2 h1)) hcn hrun hq he

def outsOf (F : RF) : Nat → List PV → Option (List PV)
  | _, [] => some []
  | i, x :: xs => if x.isMut = true then
      match F.slot i with
      | .val (.ptr true cs) => (outsOf F (i + 1) xs).map fun r => .ptr true cs :: r
      | _ => none
    else outsOf F (i + 1) xs
/-- what a call tells at its end: its result, what has become of what it wrote through -/
def fin (E : Env) (fn : Func) (xs : List PV) (F : RF) : Option (PV × List PV) :=
  (finR E F fn.results.toList).bind fun (ys, F') => (outsOf F' 0 xs).map fun outs => (match ys with | [y] => y | ys => .tup ys, outs)

def ents0 : Nat → List PV → RF
  | _, [] => []
  | i, x :: xs => (i, .val x, 0, 0) :: ents0 (i + 1) xs
def globs0 (E : Env) : RF := E.gs.filterMap fun g => (E.G g).map fun cs => (E.nt + g, .val (.ptr false cs), 0, 0)
def init (E : Env) (xs : List PV) : RF := ents0 0 xs ++ globs0 E
def pinned : Nat → List PV → List Tmp
  | _, [] => []
  | i, x :: xs => if x.isMut = true then i :: pinned (i + 1) xs else pinned (i + 1) xs
end Go.V
