/- A part of the proof of SegmentWhole: contracts of functions, or what these lean on. No condition. -/
import Derived.Test.YtldoffdakikaeaaDoorA18
import Derived.Test.YtldoffdakikaeaaDoorVMp
namespace Go.V
open Go.Proofs
set_option maxRecDepth 8000
set_option linter.unusedSimpArgs false
set_option linter.unusedVariables false
theorem setAt_tB {l : List (List Bool)} {i : Nat} {a : List Bool} : setAt (l.map tB) i 0 (tB a) = (l.set i a).map tB := setAt_one (fun _ _ => rfl)
attribute [simp high] setAt_tB
def rowOkB (t : Tab) (a b : Nat) (r : List Bool) : Prop := r.length = t.next.length ∧ ∀ b', b' < b → r.getD b' false = (bk t a != bk t b')
theorem mg_at {M : List (List Bool)} {a b : Nat} (h1 : a < M.length) (h2 : b < M[a].length) : mg M a b = M[a][b] := by
  unfold mg; simp [List.getD_eq_getElem?_getD, h1, h2]
def e_ref07_apart : Tab → List PV := fun t => [pT t]
noncomputable def g_ref07_apart : List PV → Option (PV × List PV) := spec e_ref07_apart (fun t => small t ∧ Cnt t ∧ nxtV t = true) fun t => (.sl true 1 ((apM t).map tB), [])
theorem e_ref07_apart_inj (a b : Tab) (h : e_ref07_apart a = e_ref07_apart b) : a = b := by
  obtain ⟨t1a, t1b, t1c, t1d⟩ := a; obtain ⟨t2a, t2b, t2c, t2d⟩ := b; simp [e_ref07_apart, map_pI_inj, map_pB_inj, map_pY_inj, map_pBand_inj, map_sI_inj, str_inj, Int.natCast_inj, UInt8.toNat_inj, UInt32.toNat_inj] at h; first | exact h | (simp [h]; done) | exact UInt32.toNat_inj.1 (by omega) | exact UInt8.toNat_inj.1 (by omega) | (simp only [Prod.mk.injEq, ← UInt8.toNat_inj, ← UInt32.toNat_inj] at *; omega) | grind
theorem Ok_ref07_apart {t : Tab} {K : PV × List PV → Prop} : Ok (g_ref07_apart [pT t]) K = ((small t ∧ Cnt t ∧ nxtV t = true) ∧ K (.sl true 1 ((apM t).map tB), [])) := Ok_spec e_ref07_apart_inj t
set_option maxHeartbeats 4000000 in
theorem impl_ref07_apart {tbl : Tbl} {G : Nat → Option (List PV)} (hT : Tb tbl G) : Impl Tryd.prog G 53 (g_ref07_apart) := by
  refine impl_p (E := En tbl G 108 k_ref07_apart []) (c := _) hT mixed Tryd.func53 rfl rfl (fun a => by simp [e_ref07_apart, pinned.eq_1, pinned.eq_2, PV.isMut.eq_1, PV.isMut.eq_2]) ?_
  rintro t hok
  refine ⟨by simp [e_ref07_apart], ?_⟩
  replace hok : small t ∧ Cnt t ∧ nxtV t = true := hok
  obtain ⟨hok, hC, hn⟩ := hok
  unfold small at hok
  have hI := inn_of hC hn
  have h5 := hC.n
  have h8 := hC.c
  have hbl := hC.k
  simp -implicitDefEqProofs +contextual (maxSteps := 4000000) [-Int.not_le, -Int.not_lt, -Nat.not_le, -Nat.not_lt, -UInt32.toNat_or, -UInt32.toNat_xor, -UInt32.toNat_and, -UInt8.toNat_or, -UInt8.toNat_xor, -UInt8.toNat_and, -UInt32.toNat_add, -UInt8.toNat_add, -List.map_take, -List.map_drop, ← List.map_take, ← List.map_drop, -List.length_take, -List.length_drop, -List.map_replicate, rep_pY0, rep_pB0, rep_pI0, e_ref07_apart.eq_1, Tryd.results53]
  refine ⟨by omega, fun _ _ => ?_⟩
  refine loopu (fun (x : Nat × List (List Bool)) => x.1 ≤ t.next.length ∧ x.2.length = t.next.length ∧ ∀ a', a' < x.1 → ∀ r, x.2[a']? = some r → rowOkB t a' t.next.length r)
    (fun x => [(4, .sl true 1 (x.2.map tB)), (5, pI x.1)])
    (fun x => t.next.length - x.1) ?_ (s := (0, List.replicate t.next.length [])) ?_ ?_
  rotate_left
  · simp
  · simp
  rintro ⟨a, M⟩ ⟨ha, hl, hr⟩
  simp only at ha hl hr
  simp -implicitDefEqProofs +contextual (maxSteps := 4000000) [-Int.not_le, -Int.not_lt, -Nat.not_le, -Nat.not_lt, -UInt32.toNat_or, -UInt32.toNat_xor, -UInt32.toNat_and, -UInt8.toNat_or, -UInt8.toNat_xor, -UInt8.toNat_and, -UInt32.toNat_add, -UInt8.toNat_add, -List.map_take, -List.map_drop, ← List.map_take, ← List.map_drop, -List.length_take, -List.length_drop, -List.map_replicate, rep_pY0, rep_pB0, rep_pI0, e_ref07_apart.eq_1, Tryd.results53]
  refine ⟨fun a1 => ⟨by omega, fun _ _ => ⟨by omega, fun _ => ?_⟩⟩, fun a1 => ?_⟩
  · refine loopu (fun (x : Nat × List (List Bool)) => x.1 ≤ t.next.length ∧ x.2.length = t.next.length ∧ (∀ a', a' < a → ∀ r, x.2[a']? = some r → rowOkB t a' t.next.length r) ∧ ∀ r, x.2[a]? = some r → rowOkB t a x.1 r)
      (fun x => [(4, .sl true 1 (x.2.map tB)), (6, pI x.1)])
      (fun x => t.next.length - x.1) ?_ (s := (0, M.set a (List.replicate t.next.length false))) ?_ ?_
    rotate_left
    · simp
    · refine ⟨Nat.zero_le _, by simp [hl], fun a' h r hr' => hr a' h r (by rw [List.getElem?_set_ne (by omega)] at hr'; exact hr'), fun r hr' => ?_⟩
      rw [List.getElem?_set_self (by omega)] at hr'
      obtain rfl := Option.some.inj hr'
      exact ⟨by simp, fun b' h => absurd h (by omega)⟩
    rintro ⟨b, M'⟩ ⟨hb, hl', hr', hq⟩
    simp only at hb hl' hr' hq
    have ha' : a < M'.length := by omega
    have hra := hq _ (List.getElem?_eq_getElem ha')
    have hrl := hra.1
    simp -implicitDefEqProofs +contextual (maxSteps := 4000000) [-Int.not_le, -Int.not_lt, -Nat.not_le, -Nat.not_lt, -UInt32.toNat_or, -UInt32.toNat_xor, -UInt32.toNat_and, -UInt8.toNat_or, -UInt8.toNat_xor, -UInt8.toNat_and, -UInt32.toNat_add, -UInt8.toNat_add, -List.map_take, -List.map_drop, ← List.map_take, ← List.map_drop, -List.length_take, -List.length_drop, -List.map_replicate, rep_pY0, rep_pB0, rep_pI0, e_ref07_apart.eq_1, Tryd.results53]
    refine ⟨fun c1 => ⟨ha', fun _ => ⟨by omega, fun q1 => ⟨by omega, fun q2 => ⟨by omega, fun _ => ⟨by decide +kernel, by unfold fits; omega, fun _ => ⟨b + 1, M'.set a (M'[a].set b (t.brk[a] != t.brk[b])), ⟨by omega, by simp [hl'], fun a' h r hr2 => ?_, fun r hr2 => ?_⟩, by omega, ?_, by omega⟩⟩⟩⟩⟩⟩, fun c1 => ⟨by unfold fits; omega, fun _ => ⟨a + 1, M', ⟨by omega, hl', fun a' h r hr2 => ?_⟩, by omega, rfl, by omega⟩⟩⟩
    · rw [List.getElem?_set_ne (by omega)] at hr2; exact hr' a' h r hr2
    · rw [List.getElem?_set_self (by omega)] at hr2
      obtain rfl := Option.some.inj hr2
      refine ⟨by rw [List.length_set]; exact hrl, fun b' h => ?_⟩
      rw [List.getD_eq_getElem?_getD, List.getElem?_set]
      by_cases e : b = b'
      · subst e; rw [if_pos rfl, if_pos (by omega), bk_eq q1, bk_eq q2]; rfl
      · rw [if_neg e, ← List.getD_eq_getElem?_getD]; exact hra.2 b' (by omega)
    · rw [← List.map_set, setAt_tB]
    · rcases (show a' < a ∨ a' = a by omega) with k | rfl
      · exact hr' a' k r hr2
      · have := hq r hr2
        rw [show b = t.next.length by omega] at this; exact this
  obtain rfl : a = t.next.length := by omega
  have hsq : Sqr t.next.length M := ⟨hl, fun r hr2 => by
    obtain ⟨i, hi, rfl⟩ := List.getElem_of_mem hr2
    exact (hr i (by omega) _ (List.getElem?_eq_getElem hi)).1⟩
  have hs0 : Sq t t.next.length 0 (mg M) := Sq.zero fun a b ha hb => by
    have h1 : a < M.length := by omega
    have := (hr a ha _ (List.getElem?_eq_getElem h1)).2 b hb
    unfold mg; rw [show M.getD a [] = M[a] by simp [List.getD_eq_getElem?_getD, h1]]; exact this
  clear hr hl ha
  have hnn : ((t.next.length * t.next.length : Nat) : Int) = (t.next.length : Int) * t.next.length := Int.natCast_mul _ _
  have hn25 : t.next.length * t.next.length ≤ 25 := Nat.mul_le_mul h5.2 h5.2
  refine loopu (fun (x : Nat × List (List Bool)) => x.1 ≤ t.next.length * t.next.length ∧ Sqr t.next.length x.2 ∧ Sq t t.next.length x.1 (mg x.2))
    (fun x => [(4, .sl true 1 (x.2.map tB)), (7, pI x.1)])
    (fun x => t.next.length * t.next.length - x.1) ?_ (s := (0, M)) rfl ⟨Nat.zero_le _, hsq, hs0⟩
  rintro ⟨k, M1⟩ ⟨hk, hq1, hs1⟩
  simp only at hk hq1 hs1
  clear hsq hs0
  by_cases hlt : (k : Int) < (t.next.length : Int) * t.next.length
  case neg =>
    simp -implicitDefEqProofs +contextual (maxSteps := 4000000) [-Int.not_le, -Int.not_lt, -Nat.not_le, -Nat.not_lt, -UInt32.toNat_or, -UInt32.toNat_xor, -UInt32.toNat_and, -UInt8.toNat_or, -UInt8.toNat_xor, -UInt8.toNat_and, -UInt32.toNat_add, -UInt8.toNat_add, -List.map_take, -List.map_drop, ← List.map_take, ← List.map_drop, -List.length_take, -List.length_drop, -List.map_replicate, rep_pY0, rep_pB0, rep_pI0, e_ref07_apart.eq_1, Tryd.results53, hlt]
    have ek : k = t.next.length * t.next.length := by omega
    refine ⟨by unfold fits; omega, fun _ => ?_⟩
    rw [apM_of hq1 (by rw [← ek]; exact hs1) hI]
  simp -implicitDefEqProofs +contextual (maxSteps := 4000000) [-Int.not_le, -Int.not_lt, -Nat.not_le, -Nat.not_lt, -UInt32.toNat_or, -UInt32.toNat_xor, -UInt32.toNat_and, -UInt8.toNat_or, -UInt8.toNat_xor, -UInt8.toNat_and, -UInt32.toNat_add, -UInt8.toNat_add, -List.map_take, -List.map_drop, ← List.map_take, ← List.map_drop, -List.length_take, -List.length_drop, -List.map_replicate, rep_pY0, rep_pB0, rep_pI0, e_ref07_apart.eq_1, Tryd.results53, hlt]
  refine ⟨by unfold fits; omega, fun _ => ?_⟩
  refine loopu (fun (x : Nat × List (List Bool)) => x.1 ≤ t.next.length ∧ Rnd t t.next.length k x.1 0 0 x.2)
    (fun x => [(4, .sl true 1 (x.2.map tB)), (8, pI x.1)])
    (fun x => t.next.length - x.1) ?_ (s := (0, M1)) rfl ⟨Nat.zero_le _, Rnd.first hq1 hs1⟩
  rintro ⟨a, M2⟩ ⟨ha, hR⟩
  simp only at ha hR
  simp -implicitDefEqProofs +contextual (maxSteps := 4000000) [-Int.not_le, -Int.not_lt, -Nat.not_le, -Nat.not_lt, -UInt32.toNat_or, -UInt32.toNat_xor, -UInt32.toNat_and, -UInt8.toNat_or, -UInt8.toNat_xor, -UInt8.toNat_and, -UInt32.toNat_add, -UInt8.toNat_add, -List.map_take, -List.map_drop, ← List.map_take, ← List.map_drop, -List.length_take, -List.length_drop, -List.map_replicate, rep_pY0, rep_pB0, rep_pI0, e_ref07_apart.eq_1, Tryd.results53]
  refine ⟨fun a1 => ?_, fun a1 => ?_⟩
  case refine_2 =>
    obtain rfl : a = t.next.length := by omega
    exact ⟨by unfold fits; omega, fun _ => ⟨k + 1, M2, ⟨by omega, hR.sq, hR.last⟩, by omega, rfl, by omega⟩⟩
  refine loopu (fun (x : Nat × List (List Bool)) => x.1 ≤ t.next.length ∧ Rnd t t.next.length k a x.1 0 x.2)
    (fun x => [(4, .sl true 1 (x.2.map tB)), (9, pI x.1)])
    (fun x => t.next.length - x.1) ?_ (s := (0, M2)) rfl ⟨Nat.zero_le _, hR⟩
  clear hR
  rintro ⟨b, M3⟩ ⟨hb, hR⟩
  simp only at hb hR
  simp -implicitDefEqProofs +contextual (maxSteps := 4000000) [-Int.not_le, -Int.not_lt, -Nat.not_le, -Nat.not_lt, -UInt32.toNat_or, -UInt32.toNat_xor, -UInt32.toNat_and, -UInt8.toNat_or, -UInt8.toNat_xor, -UInt8.toNat_and, -UInt32.toNat_add, -UInt8.toNat_add, -List.map_take, -List.map_drop, ← List.map_take, ← List.map_drop, -List.length_take, -List.length_drop, -List.map_replicate, rep_pY0, rep_pB0, rep_pI0, e_ref07_apart.eq_1, Tryd.results53]
  refine ⟨fun b1 => ?_, fun b1 => ?_⟩
  case refine_2 =>
    obtain rfl : b = t.next.length := by omega
    exact ⟨by unfold fits; omega, fun _ => ⟨a + 1, M3, ⟨by omega, hR.col⟩, by omega, rfl, by omega⟩⟩
  refine loopu (fun (x : Nat × List (List Bool)) => x.1 ≤ t.classes.toNat ∧ Rnd t t.next.length k a b x.1 x.2)
    (fun x => [(4, .sl true 1 (x.2.map tB)), (10, pI x.1)])
    (fun x => t.classes.toNat - x.1) ?_ (s := (0, M3)) rfl ⟨Nat.zero_le _, hR⟩
  clear hR
  rintro ⟨c, M⟩ ⟨hc, hR⟩
  simp only at hc hR
  by_cases hlc : (c : Int) < t.classes
  case neg =>
    simp -implicitDefEqProofs +contextual (maxSteps := 4000000) [-Int.not_le, -Int.not_lt, -Nat.not_le, -Nat.not_lt, -UInt32.toNat_or, -UInt32.toNat_xor, -UInt32.toNat_and, -UInt8.toNat_or, -UInt8.toNat_xor, -UInt8.toNat_and, -UInt32.toNat_add, -UInt8.toNat_add, -List.map_take, -List.map_drop, ← List.map_take, ← List.map_drop, -List.length_take, -List.length_drop, -List.map_replicate, rep_pY0, rep_pB0, rep_pI0, e_ref07_apart.eq_1, Tryd.results53, hlc]
    obtain rfl : c = t.classes.toNat := by omega
    exact ⟨by unfold fits; omega, fun _ => ⟨b + 1, M, ⟨by omega, hR.row⟩, by omega, rfl, by omega⟩⟩
  have l1 : c < t.next[a].length := by have := hC.r _ (List.getElem_mem a1); omega
  have l2 : c < t.next[b].length := by have := hC.r _ (List.getElem_mem b1); omega
  have e1 := nx_eq a1 l1 hn
  have e2 := nx_eq b1 l2 hn
  have hMl := hR.sq.1
  have aM : a < M.length := by omega
  have hMa := hR.sq.2 _ (List.getElem_mem aM)
  have bM : b < M[a].length := by omega
  have hna := hI a c a1 (by omega)
  have hnb := hI b c b1 (by omega)
  have hst := hR.step hI a1 b1 (show c < t.classes.toNat by omega)
  have nM : nx t a c < M.length := by omega
  have hMn := hR.sq.2 _ (List.getElem_mem nM)
  have nM2 : nx t b c < M[nx t a c].length := by omega
  simp -implicitDefEqProofs +contextual (maxSteps := 4000000) [-Int.not_le, -Int.not_lt, -Nat.not_le, -Nat.not_lt, -UInt32.toNat_or, -UInt32.toNat_xor, -UInt32.toNat_and, -UInt8.toNat_or, -UInt8.toNat_xor, -UInt8.toNat_and, -UInt32.toNat_add, -UInt8.toNat_add, -List.map_take, -List.map_drop, ← List.map_take, ← List.map_drop, -List.length_take, -List.length_drop, -List.map_replicate, rep_pY0, rep_pB0, rep_pI0, e_ref07_apart.eq_1, Tryd.results53, hlc, ← e1, ← e2, a1, b1, l1, l2, aM, bM, nM, nM2]
  have hup : ∀ v, (mg M a b || mg M (nx t a c) (nx t b c)) = v → setAt (M.map tB) a 0 (PV.sl true 1 ((M[a].map pB).set b (pB v))) = (upM t M a b c).map tB := fun v hv => by
    rw [← List.map_set, setAt_tB]
    unfold upM
    rw [hv, ← set_modify (f := fun r => r.set b v) aM]
  have m1 : mg M a b = M[a][b] := mg_at aM bM
  have m2 : mg M (nx t a c) (nx t b c) = M[nx t a c][nx t b c] := mg_at nM nM2
  refine ⟨fun v => ⟨by decide +kernel, by unfold fits; omega, fun _ => ⟨c + 1, _, ⟨by omega, hst⟩, by omega, hup _ (by rw [m1, m2, v]; rfl), by omega⟩⟩, fun v => ⟨by decide +kernel, by unfold fits; omega, fun _ => ⟨c + 1, _, ⟨by omega, hst⟩, by omega, hup _ (by rw [m1, v]; rfl), by omega⟩⟩⟩

end Go.V
