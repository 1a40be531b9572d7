/- What package caesuraref05's functions tell. -/
import Derived.Test.YtoilaibpmepecaaXPack
import Derived.Test.YtoilaibpmepecaaXx6
import Derived.Test.YtoilaibpmepecaaXx5
import Derived.Test.YtoilaibpmepecaaXx6
import Derived.Test.YtoilaibpmepecaaXx6
import Derived.Test.YtoilaibpmepecaaXx6
namespace Go.Proofs.Ytoilaibpmepecaa.XRefPack
open Go Go.RowKit Go.Proofs.Ytoilaibpmepecaa.X Go.Proofs.Ytoilaibpmepecaa.XPure Go.Proofs.Ytoilaibpmepecaa.XPack Go.Proofs.YtoilaibpmepecaaW.PrintWords Go.Proofs.YtoilaibpmepecaaW.PrintLast Go.Proofs.YtoilaibpmepecaaW.PrintMore
set_option linter.unusedVariables false
set_option linter.unusedSimpArgs false
set_option maxHeartbeats 1000000
theorem shr64 (v : Int) (n : Nat) (h : n ≤ 64) : shr .i64 v (n : Int) = v / 2 ^ n := by
  have : min (n : Int).toNat IntKind.i64.bits = n := by
    have : IntKind.i64.bits = 64 := by decide
    omega
  unfold shr
  rw [this]
theorem rput_stop (v : Int) (acc : List Int) : Ev (fun k => caesuraref05_Put.l0 k v acc (-1)) acc :=
  Ev.step (f := fun _ => some acc) (fun k => by simp only [caesuraref05_Put.l0]; rw [if_neg (by omega)]) (Ev.now _)
theorem rput_step (v : Int) (acc r : List Int) (i : Nat) (hi : i ≤ 3) (hl : acc.length < 140737488355328) (h : Ev (fun k => caesuraref05_Put.l0 k v (acc ++ [v / 2 ^ (8 * i) % 256]) ((i : Int) - 1)) r) : Ev (fun k => caesuraref05_Put.l0 k v acc (i : Int)) r := by
  refine Ev.step (fun k => ?_) h
  have e1 : IntKind.u64.wrap (wrap64 (8 * (i : Int))) = ((8 * i : Nat) : Int) := by rw [w64 (by omega) (by omega), u64w (by omega) (by omega)]; omega
  have e2 : wrap64 ((i : Int) - 1) = (i : Int) - 1 := w64 (by omega) (by omega)
  simp only [caesuraref05_Put.l0]
  rw [if_pos (by omega), e1, if_pos (by omega), if_pos hl, e2, shr64 _ _ (by omega)]
theorem rput_ev (l : List Int) (v size : Int) (h : l.length + 4 < 140737488355328) : Ev (fun k => caesuraref05_Put.f k l v size) (putS l v size) := by
  unfold caesuraref05_Put.f
  refine Ev.bindc rfl (Ev.pos (by simp; omega) ?_)
  rw [List.nil_append, mx_eq, mn_eq]
  unfold putS
  obtain ⟨s, hs⟩ : ∃ s : Int, s = max 0 (min size 4) := ⟨_, rfl⟩
  rw [← hs]
  have hb : s = 0 ∨ s = 1 ∨ s = 2 ∨ s = 3 ∨ s = 4 := by omega
  clear hs
  rcases hb with rfl | rfl | rfl | rfl | rfl
  · have := rput_stop v l
    simpa using this
  · refine rput_step v l _ 0 (by omega) (by omega) ?_
    have := rput_stop v (l ++ [v / 2 ^ (8 * 0) % 256])
    simpa using this
  · refine rput_step v l _ 1 (by omega) (by omega) (rput_step v _ _ 0 (by omega) (by simp; omega) ?_)
    have := rput_stop v (l ++ [v / 2 ^ (8 * 1) % 256] ++ [v / 2 ^ (8 * 0) % 256])
    simpa using this
  · refine rput_step v l _ 2 (by omega) (by omega) (rput_step v _ _ 1 (by omega) (by simp; omega) (rput_step v _ _ 0 (by omega) (by simp; omega) ?_))
    have := rput_stop v (l ++ [v / 2 ^ (8 * 2) % 256] ++ [v / 2 ^ (8 * 1) % 256] ++ [v / 2 ^ (8 * 0) % 256])
    simpa using this
  · refine rput_step v l _ 3 (by omega) (by omega) (rput_step v _ _ 2 (by omega) (by simp; omega) (rput_step v _ _ 1 (by omega) (by simp; omega) (rput_step v _ _ 0 (by omega) (by simp; omega) ?_)))
    have := rput_stop v (l ++ [v / 2 ^ (8 * 3) % 256] ++ [v / 2 ^ (8 * 2) % 256] ++ [v / 2 ^ (8 * 1) % 256] ++ [v / 2 ^ (8 * 0) % 256])
    simpa using this
theorem rget_loop (l : List Int) (at_ size : Nat) (hb : ∀ x ∈ l, 0 ≤ x ∧ x < 256) (hl : l.length ≤ 1000000000000) (hs : size ≤ 4) (ha : at_ + size ≤ l.length) : ∀ (d i : Nat) (v : Int), i + d = size → 0 ≤ v → v < 256 ^ i →
    Ev (fun k => caesuraref05_Get.l0 k l (at_ : Int) (size : Int) v (i : Int)) (be v (((l.drop at_).take size).drop i), true) := by
  intro d
  have hlen : ((l.drop at_).take size).length = size := by rw [List.length_take, List.length_drop]; omega
  induction d with
  | zero =>
    intro i v hi h0 h1
    refine Ev.step (f := fun _ => some (v, true)) (fun k => ?_) ?_
    · simp only [caesuraref05_Get.l0]; rw [if_neg (by omega)]
    · rw [List.drop_of_length_le (by omega)]; exact Ev.now _
  | succ d ih =>
    intro i v hi h0 h1
    have hlt : at_ + i < l.length := by omega
    have hx := hb _ (List.getElem_mem hlt)
    have hp := pow256 i (by omega)
    have e0 : wrap64 ((at_ : Int) + i) = ((at_ + i : Nat) : Int) := by rw [w64 (by omega) (by omega)]; omega
    have e1 : rd l ((at_ + i : Nat) : Int) = l[at_ + i] := by rw [rd_nat, getD_lt hlt]
    have e2 : wrap64 (v * 256) = v * 256 := w64 (by omega) (by omega)
    have e3 : wrap64 l[at_ + i] = l[at_ + i] := w64 (by omega) (by omega)
    have e4 : wrap64 (v * 256 + l[at_ + i]) = v * 256 + l[at_ + i] := w64 (by omega) (by omega)
    have e5 : ((l.drop at_).take size).drop i = l[at_ + i] :: ((l.drop at_).take size).drop (i + 1) := by
      rw [drop_cons (by omega)]
      congr 1
      rw [List.getElem_take, List.getElem_drop]
    refine Ev.step (f := fun k => caesuraref05_Get.l0 k l (at_ : Int) (size : Int) (v * 256 + l[at_ + i]) ((i + 1 : Nat) : Int)) (fun k => ?_) ?_
    · simp only [caesuraref05_Get.l0]; rw [if_pos (by omega), e0, if_pos (by omega), if_pos (by omega), e1, e3, e2, e4, succ64 i (by omega)]
    · rw [e5, be_cons]
      exact ih (i + 1) _ (by omega) (by omega) (by rw [Int.pow_succ]; omega)
theorem rget_ev (l : List Int) (at_ size : Int) (hb : ∀ x ∈ l, 0 ≤ x ∧ x < 256) (hl : l.length ≤ 1000000000000) : Ev (fun k => caesuraref05_Get.f k l at_ size) (getS l at_ size) := by
  have hj : ∀ x : Bool, x = true → getOk l at_ size = false → Ev (fun k => caesuraref05_Get.j0 k l at_ size x) (getS l at_ size) := by
    intro x hx hg
    subst hx
    refine Ev.step (f := fun _ => some (0, false)) (fun k => by simp only [caesuraref05_Get.j0, if_true]) ?_
    unfold getS
    rw [hg]
    exact Ev.now _
  have gf : ∀ h : ¬ (1 ≤ size ∧ size ≤ 4 ∧ 0 ≤ at_ ∧ at_ + size ≤ l.length), getOk l at_ size = false := fun h => decide_eq_false h
  unfold caesuraref05_Get.f
  by_cases h1 : size < 1
  · exact Ev.pos h1 (hj _ rfl (gf (by omega)))
  · refine Ev.neg h1 ?_
    by_cases h2 : size > 4
    · exact Ev.pos h2 (hj _ rfl (gf (by omega)))
    · refine Ev.neg h2 ?_
      by_cases h3 : at_ < 0
      · exact Ev.pos h3 (hj _ rfl (gf (by omega)))
      · refine Ev.neg h3 ?_
        have e1 : wrap64 ((l.length : Int) - size) = l.length - size := w64 (by omega) (by omega)
        rw [e1]
        by_cases h4 : at_ > (l.length : Int) - size
        · exact hj _ (decide_eq_true h4) (gf (by omega))
        · rw [decide_eq_false h4]
          have hg : getOk l at_ size = true := decide_eq_true (by omega)
          unfold getS
          rw [if_pos hg]
          obtain ⟨a, rfl⟩ := Int.eq_ofNat_of_zero_le (show 0 ≤ at_ by omega)
          obtain ⟨s, rfl⟩ := Int.eq_ofNat_of_zero_le (show 0 ≤ size by omega)
          have := rget_loop l a s hb hl (by omega) (by omega) s 0 0 (by omega) (by omega) (by decide)
          rw [List.drop_zero] at this
          refine Ev.step (fun k => ?_) this
          simp only [caesuraref05_Get.j0, Bool.false_eq_true, if_false]
          rfl
theorem rsum_loop (xs : List Int) (hb : ∀ x ∈ xs, 0 ≤ x ∧ x < 256) (hl : xs.length ≤ 1000000000000) : ∀ (d : Nat) (i : Nat) (s : Int), i + d = xs.length → 0 ≤ s ∧ s < 4294967296 →
    Ev (fun k => caesuraref05_Sum.l0 k xs s (i : Int)) ((xs.drop i).foldl sumStep s) := by
  intro d
  induction d with
  | zero =>
    intro i s hi hs
    refine Ev.step (f := fun _ => some s) (fun k => ?_) ?_
    · simp only [caesuraref05_Sum.l0]; rw [if_neg (by omega)]
    · rw [List.drop_of_length_le (by omega)]; exact Ev.now _
  | succ d ih =>
    intro i s hi hs
    have hlt : i < xs.length := by omega
    have hx := hb _ (List.getElem_mem hlt)
    have e1 : rd xs (i : Int) = xs[i] := by rw [rd_nat, getD_lt hlt]
    have e2 : rd xs (i : Int) % 4294967296 = xs[i] := by rw [e1]; omega
    have e5 := xr_eq s xs[i] hs (by omega)
    have e6 := rot_or (xr s xs[i]) (xr_bd s xs[i] hs (by omega))
    refine Ev.step (f := fun k => caesuraref05_Sum.l0 k xs (sumStep s xs[i]) ((i + 1 : Nat) : Int)) (fun k => ?_) ?_
    · simp only [caesuraref05_Sum.l0]; rw [if_pos (by omega), if_pos (by omega), e2, e5, e6, succ64 i (by omega)]; rfl
    · rw [drop_cons hlt]
      exact ih (i + 1) _ (by omega) (step_bd _ _)
theorem rsum_ev (l : List Int) (hb : ∀ x ∈ l, 0 ≤ x ∧ x < 256) (hl : l.length ≤ 1000000000000) : Ev (fun k => caesuraref05_Sum.f k l) (sumS l) := by
  have := rsum_loop l hb hl l.length 0 2166136261 (by omega) (by omega)
  exact this
theorem u64nat (n : Nat) (h : n < 18446744073709551616) : IntKind.u64.wrap (n : Int) = n := u64w (by omega) (by omega)
theorem rbits_loop (l : List Bool) (hl : l.length ≤ 1000000000000) : ∀ (d i : Nat) (b : List Int), i + d = l.length → Upto l b i →
    ∃ r, Ev (fun k => caesuraref05_Bits.l0 k l b (i : Int)) r ∧ IsBits l r := by
  intro d
  induction d with
  | zero =>
    intro i b hi hu
    refine ⟨b, Ev.step (f := fun _ => some b) (fun k => ?_) (Ev.now _), upto_done hu (by omega)⟩
    simp only [caesuraref05_Bits.l0]; rw [if_neg (by omega)]
  | succ d ih =>
    intro i b hi hu
    have hlt : i < l.length := by omega
    have hbl := hu.len
    cases ht : l.getD i false with
    | true =>
      obtain ⟨r, hr, hq⟩ := ih (i + 1) _ (by omega) (upto_set hu hlt ht)
      refine ⟨r, Ev.step (fun k => ?_) hr, hq⟩
      simp only [caesuraref05_Bits.l0]
      rw [tdiv8 i (by omega), tmod8, succ64 i (by omega), rdB_nat, ht, u64nat _ (by omega)]
      rw [if_pos (by omega), if_pos (by omega), if_pos rfl, if_pos (by omega), if_pos (by omega), if_pos (by omega), Int.toNat_natCast]
    | false =>
      obtain ⟨r, hr, hq⟩ := ih (i + 1) b (by omega) (upto_skip hu ht)
      refine ⟨r, Ev.step (fun k => ?_) hr, hq⟩
      simp only [caesuraref05_Bits.l0]
      rw [succ64 i (by omega), rdB_nat, ht]
      rw [if_pos (by omega), if_pos (by omega), if_neg (by decide)]
theorem rlen (n : Nat) (h : n ≤ 1000000000000) : wrap64 (Int.tdiv (wrap64 ((n : Int) + 7)) 8) = (((n + 7) / 8 : Nat) : Int) := by
  have e3 : wrap64 ((n : Int) + 7) = n + 7 := w64 (by omega) (by omega)
  rw [e3, tdiv_nn (by omega), w64 (by omega) (by omega)]
  omega
theorem rbits_ev (l : List Bool) (hl : l.length ≤ 1000000000000) : ∃ r, Ev (fun k => caesuraref05_Bits.f k l) r ∧ IsBits l r := by
  obtain ⟨r, hr, hq⟩ := rbits_loop l hl l.length 0 _ (by omega) (upto_zero l)
  refine ⟨r, ?_, hq⟩
  unfold caesuraref05_Bits.f
  rw [rlen _ hl, Int.toNat_natCast]
  exact Ev.pos (by omega) (Ev.pos (by omega) hr)
theorem runbits_loop (b : List Int) (n : Nat) (hb : ∀ x ∈ b, 0 ≤ x ∧ x < 256) (hl : b.length ≤ 100000000000) (hn : (n + 7) / 8 = b.length) : ∀ (d i : Nat), i + d = 8 * b.length → (∀ j : Nat, n ≤ j → j < i → bitAt b j = false) →
    Ev (fun k => caesuraref05_Unbits.l0 k b (n : Int) ((List.range (min i n)).map (bitAt b)) (i : Int)) (unbitsS b n) := by
  intro d
  have e8 : wrap64 (8 * (b.length : Int)) = 8 * b.length := w64 (by omega) (by omega)
  induction d with
  | zero =>
    intro i hi hz
    have hok : unbitsOk b n = true := (ok_iff b n).2 ⟨by omega, by omega, by rw [Int.toNat_natCast]; exact hn, fun j hj => by
      by_cases h : j < i
      · exact hz j (by omega) h
      · exact bitAt_out b j (by omega)⟩
    unfold unbitsS
    rw [if_pos hok, Int.toNat_natCast, show min i n = n by omega]
    refine Ev.step (f := fun _ => some ((List.range n).map (bitAt b), true)) (fun k => ?_) (Ev.now _)
    simp only [caesuraref05_Unbits.l0]; rw [e8, if_neg (by omega)]
  | succ d ih =>
    intro i hi hz
    have r := byte_at hb (i / 8)
    have e1 : (Go.bits .and .u8 (shr .u8 (rd b ((i / 8 : Nat) : Int)) ((i % 8 : Nat) : Int)) 1 == 1) = bitAt b i := by
      rw [rd_nat, shr_and _ _ r (by omega)]; rfl
    by_cases hin : i < n
    · have := ih (i + 1) (by omega) (fun j h1 h2 => hz j h1 (by omega))
      rw [show min (i + 1) n = i + 1 by omega, List.range_succ, List.map_append] at this
      rw [show min i n = i by omega]
      refine Ev.step (fun k => ?_) this
      simp only [caesuraref05_Unbits.l0]
      rw [e8, tdiv8 i (by omega), tmod8, u64nat _ (by omega), succ64 i (by omega), e1]
      rw [if_pos (by omega), if_pos (by omega), if_pos (by omega), if_pos (by omega), if_pos (by omega), if_pos (by simp; omega)]
      rfl
    · cases hbit : bitAt b i with
      | true =>
        have hok : ¬ unbitsOk b n = true := fun h => by
          have := ((ok_iff b n).1 h).2.2.2 i (by omega)
          rw [hbit] at this
          cases this
        unfold unbitsS
        rw [if_neg hok]
        refine Ev.step (f := fun _ => some ([], false)) (fun k => ?_) (Ev.now _)
        have e2 : Go.bits .and .u8 (shr .u8 (rd b ((i / 8 : Nat) : Int)) ((i % 8 : Nat) : Int)) 1 = 1 := by
          rw [hbit] at e1
          exact beq_iff_eq.1 e1
        simp only [caesuraref05_Unbits.l0]
        rw [e8, tdiv8 i (by omega), tmod8, u64nat _ (by omega)]
        rw [if_pos (by omega), if_pos (by omega), if_pos (by omega), if_pos (by omega), if_neg (by omega), if_pos e2]
      | false =>
        have := ih (i + 1) (by omega) (fun j h1 h2 => by
          by_cases h : j = i
          · rw [h]; exact hbit
          · exact hz j h1 (by omega))
        rw [show min (i + 1) n = min i n by omega] at this
        have e2 : ¬ Go.bits .and .u8 (shr .u8 (rd b ((i / 8 : Nat) : Int)) ((i % 8 : Nat) : Int)) 1 = 1 := by
          rw [hbit] at e1
          exact beq_eq_false_iff_ne.1 e1
        refine Ev.step (fun k => ?_) this
        simp only [caesuraref05_Unbits.l0]
        rw [e8, tdiv8 i (by omega), tmod8, u64nat _ (by omega), succ64 i (by omega)]
        rw [if_pos (by omega), if_pos (by omega), if_pos (by omega), if_pos (by omega), if_neg (by omega), if_neg e2]
theorem runbits_ev (b : List Int) (n : Int) (hb : ∀ x ∈ b, 0 ≤ x ∧ x < 256) (hl : b.length ≤ 100000000000) : Ev (fun k => caesuraref05_Unbits.f k b n) (unbitsS b n) := by
  have hj : ∀ x : Bool, x = true → unbitsOk b n = false → Ev (fun k => caesuraref05_Unbits.j0 k b n x) (unbitsS b n) := by
    intro x hx hg
    subst hx
    refine Ev.step (f := fun _ => some ([], false)) (fun k => by simp only [caesuraref05_Unbits.j0, if_true]) ?_
    unfold unbitsS
    rw [hg]
    exact Ev.now _
  have nf : ¬ (0 ≤ n ∧ n ≤ 8 * b.length ∧ (n.toNat + 7) / 8 = b.length) → unbitsOk b n = false := fun h => by
    unfold unbitsOk
    rw [decide_eq_false h, Bool.false_and]
  have e1 : wrap64 (8 * (b.length : Int)) = 8 * b.length := w64 (by omega) (by omega)
  unfold caesuraref05_Unbits.f
  by_cases h1 : n < 0
  · exact Ev.pos h1 (hj _ rfl (nf (by omega)))
  · refine Ev.neg h1 ?_
    rw [e1]
    by_cases h2 : n > 8 * (b.length : Int)
    · exact Ev.pos h2 (hj _ rfl (nf (by omega)))
    · refine Ev.neg h2 ?_
      obtain ⟨m, rfl⟩ := Int.eq_ofNat_of_zero_le (show 0 ≤ n by omega)
      have em := rlen m (by omega)
      by_cases h3 : (m + 7) / 8 = b.length
      · have hne : (wrap64 (Int.tdiv (wrap64 ((m : Int) + 7)) 8) != (b.length : Int)) = false := by rw [em, h3]; simp
        have := runbits_loop b m hb hl h3 (8 * b.length) 0 (by omega) (fun j _ h => by omega)
        rw [show min 0 m = 0 by omega] at this
        refine Ev.step (fun k => ?_) this
        simp only [caesuraref05_Unbits.j0, hne, Bool.false_eq_true, if_false]
        rfl
      · have : (wrap64 (Int.tdiv (wrap64 ((m : Int) + 7)) 8) != (b.length : Int)) = true := by rw [em, bne_iff_ne]; omega
        exact hj _ this (nf (by omega))
end Go.Proofs.Ytoilaibpmepecaa.XRefPack
