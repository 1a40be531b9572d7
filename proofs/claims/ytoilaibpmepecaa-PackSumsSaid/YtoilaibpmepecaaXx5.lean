/- Functions of the program as Lean functions, and that the program comes to their answers (written by this session's own program, wip/x/xprint.py; Lean checks it). -/
import Derived.Test.YtoilaibpmepecaaXx0
import Derived.Test.YtoilaibpmepecaaXx3
import Derived.Test.YtoilaibpmepecaaXx4
namespace Go.Proofs.Ytoilaibpmepecaa.X
open Go.RowKit Go.Proofs.YtoilaibpmepecaaW.PrintWords Go.Proofs.YtoilaibpmepecaaW.PrintLast Go.Proofs.YtoilaibpmepecaaW.PrintMore
attribute [local go_sem] max2_int min2_int max_two min_two max_three min_three max_four min_four   -- for this text's walks alone
set_option linter.unusedVariables false
set_option linter.unusedSimpArgs false

/-! ### pack_Put: function 30 -/
def pack_Put.f (l0 : List Int) (a1 a2 : Int) : Option (List Int) :=
  if l0.length + 4 < 140737488355328 then some (l0 ++ ([a1 / 16777216 % 256, a1 / 65536 % 256, a1 / 256 % 256, a1 % 256].drop (4 - mx 0 (mn a2 4)).toNat)) else none
theorem pack_Put.cut (s : Int) (hs0 : 0 ≤ s) (hs4 : s ≤ 4) (W : World) (b : Nat) :
    (Instr.sliceAt 59 (.pointer (some ⟨b, 0, none⟩)) (some (.int .i64 (wrap64 (4 - s)))) none none).run Try.prog W = .ok (.slice (some ⟨b, if s = 0 then 0 else (4 - s).toNat, none⟩) s.toNat s.toNat) W := by
  have ew : wrap64 (4 - s) = 4 - s := by unfold wrap64; omega
  have hl : Try.prog.arrayLen 59 = 4 := by kernel_rfl
  have hz : (sizeOf (Try.prog.elem 59)).run Try.prog W = .ok 1 W := by kernel_rfl
  have h2 : 0 ≤ 4 - s := by omega
  have h1 : 4 - s ≤ (Try.prog.arrayLen 59 : Int) := by rw [hl]; show 4 - s ≤ 4; omega
  rw [ew, run_sliceAt_array_l W 59 ⟨b, 0, none⟩ Try.underlying59 .i64 (4 - s) h2 h1, hz, hl]
  simp only [Result.andThen, slicedAt]
  have h4 : 4 - (4 - s).toNat = s.toNat := by omega
  rw [h4]
  by_cases h0 : s = 0
  · subst h0; rfl
  · have h6 : ¬ (4 : Nat) = (4 - s).toNat := fun he => h0 (by omega)
    by_cases h5 : (4 - s).toNat = 0 <;> simp [h0, h6, h5, Addr.add]
theorem pack_Put.row (a b c d s : Int) (hs0 : 0 ≤ s) (hs4 : s ≤ 4) (W : World) (g : Nat) (h : W.heap[g]? = some (.cells #[.int .u8 a, .int .u8 b, .int .u8 c, .int .u8 d] 59 (0, 0))) :
    Kd.C (Kd.int .u8) W (some ⟨g, if s = 0 then 0 else (4 - s).toNat, none⟩) s.toNat ([a, b, c, d].drop (4 - s).toNat) := by
  have hc : ∀ i u, #[Value.int .u8 a, .int .u8 b, .int .u8 c, .int .u8 d][i]? = some u → W.cell? ⟨g, i, none⟩ = some u := by
    intro i u hu
    simp [World.cell?, h, hu]
  have key : ∀ k : Nat, k ≤ 4 → ∀ j p, ([a, b, c, d].drop k)[j]? = some p → W.cell? ⟨g, k + j, none⟩ = some (.int .u8 p) := by
    intro k hk j p hj
    apply hc
    rw [List.getElem?_drop] at hj
    have := congrArg (Option.map (Value.int .u8)) hj
    rw [← List.getElem?_map] at this
    simpa using this
  refine ⟨by simp; omega, by omega, fun hn => ⟨_, rfl, fun j p hj => ⟨[.int .u8 p], rfl, rfl, fun i u hu => ?_⟩⟩⟩
  have h0 : i = 0 := by
    have := (List.getElem?_eq_some_iff.1 hu).1
    simp at this
    omega
  subst h0
  obtain rfl : Value.int .u8 p = u := by simpa using hu
  have := key (4 - s).toNat (by omega) j p hj
  rw [if_neg (by omega)]
  show W.cell? (Addr.add _ (j * 1 + 0)) = _
  rw [← this]
  by_cases hj0 : j = 0 <;> simp [Addr.add, hj0]
set_option maxHeartbeats 8000000 in
set_option maxRecDepth 100000 in
theorem pack_Put.calls (A0 : Option Addr) (c0 : Nat) (l0 : List Int) (a1 : Int) (a2 : Int) (r : List Int) (w : World) (hr0 : Kd.C (Kd.int .u8) w A0 l0.length l0) (hc0 : l0.length ≤ c0) (h : pack_Put.f l0 a1 a2 = some r) :
    Calls Try.prog 30 #[.slice A0 l0.length c0, .int .i64 a1, .int .i64 a2] w fun e w' => ∃ v0_ : Value, e = .returned (v0_) ∧ Kd.R (Kd.int .u8) 5 w' w.heap.size (fun _ => True) v0_ r ∧ Below w.heap.size w w' := by
  have hlim : l0.length + 4 < 140737488355328 := by
    unfold pack_Put.f at h
    split at h
    · assumption
    · cases h
  obtain rfl : l0 ++ ([a1 / 16777216 % 256, a1 / 65536 % 256, a1 / 256 % 256, a1 % 256].drop (4 - mx 0 (mn a2 4)).toNat) = r := by
    unfold pack_Put.f at h
    rw [if_pos hlim] at h
    exact Option.some.inj h
  clear h
  have HR0 := Aside0.mk hr0
  have HC0 := Aside0.mk hc0
  have LM := Aside0.mk hlim
  have HB := Aside0.mk (Below.refl w.heap.size w)
  clear hr0 hc0 hlim
  obtain ⟨j, hj⟩ : ∃ j : Int, mn a2 4 = j := ⟨_, rfl⟩
  obtain ⟨s, hs⟩ : ∃ s : Int, mx 0 j = s := ⟨_, rfl⟩
  have hj_ : (if 4 < a2 then 4 else a2) = j := hj
  have hs_ : (if 0 < j then j else 0) = s := hs
  have hj4 : j ≤ 4 := by rw [← hj_]; split <;> omega
  have hs0 : 0 ≤ s := by rw [← hs_]; split <;> omega
  have hs4 : s ≤ 4 := by rw [← hs_]; split <;> omega
  rw [hj, hs]
  clear hj hs
  have hlo0 : 0 ≤ 4 - s := by omega
  have hlo4 : 4 - s ≤ 4 := by omega
  obtain ⟨off, hoff⟩ : ∃ o : Nat, (if s = 0 then 0 else (4 - s).toNat) = o := ⟨_, rfl⟩
  have hcut := pack_Put.cut s hs0 hs4
  have hrow := Aside0.mk (pack_Put.row (a1 / 16777216 % 256) (a1 / 65536 % 256) (a1 / 256 % 256) (a1 % 256) s hs0 hs4)
  rw [hoff] at hcut hrow
  clear hoff
  have hclone : slices_Clone_byte_byte.f l0 = some l0 := by unfold slices_Clone_byte_byte.f; rw [if_pos (by have := LM.out; omega)]
  go_enter Try.func30, Try.ntmps30
  go_wp2_with fail
  refine start_ (n := 7) (S := fun w' => True) (ds := []) #[false, false, false, false, false, false, false] (by kernel_rfl) rfl rfl trivial (fun hHeld => ?_)
  refine pure_ (i := 0) (N := some 23) (v := ?_) (a' := ?_) #[true, false, false, false, false, false, false] rfl rfl (by kernel_rfl) (fun _ _ _ h => h) (Or.inl ⟨by rfl, ?_⟩) ?_ ?_
  rotate_left
  · intro w'
    go_simp
    with_reducible rfl
  rotate_left
  · simp only [Act.put, List.setIfInBounds_toArray, List.set_cons_zero, List.set_cons_succ, i64_w, i32_w]
    rfl
  refine pure_ (i := 2) (N := some 25) (v := ?_) (a' := ?_) #[true, false, true, false, false, false, false] rfl rfl (by kernel_rfl) (fun _ _ _ h => h) (Or.inl ⟨by rfl, ?_⟩) ?_ ?_
  rotate_left
  · intro w'
    go_simp
    with_reducible rfl
  rotate_left
  · simp only [Act.put, List.setIfInBounds_toArray, List.set_cons_zero, List.set_cons_succ, i64_w, i32_w]
    rfl
  refine pure_ (i := 3) (N := some 26) (v := ?_) (a' := ?_) #[true, false, true, true, false, false, false] rfl rfl (by kernel_rfl) (fun _ _ _ h => h) (Or.inl ⟨by rfl, ?_⟩) ?_ ?_
  rotate_left
  · intro w'
    go_simp
    with_reducible rfl
  rotate_left
  · simp only [Act.put, List.setIfInBounds_toArray, List.set_cons_zero, List.set_cons_succ, i64_w, i32_w]
    rfl
  refine pure_ (i := 4) (N := some 27) (v := ?_) (a' := ?_) #[true, false, true, true, true, false, false] rfl rfl (by kernel_rfl) (fun _ _ _ h => h) (Or.inl ⟨by rfl, ?_⟩) ?_ ?_
  rotate_left
  · intro w'
    go_simp
    with_reducible rfl
  rotate_left
  · simp only [Act.put, List.setIfInBounds_toArray, List.set_cons_zero, List.set_cons_succ, i64_w, i32_w]
    rfl
  refine one_ (i := 1) (N := some 24) #[true, true, true, true, true, false, false] rfl rfl (by kernel_rfl) (by decide) (fun K hK => ?_)
  refine goes_ Try.func41 (by kernel_rfl) rfl #[.slice A0 l0.length c0] (by rfl) rfl rfl (by simp only [List.map_toArray, List.map_cons, List.map_nil]; rfl) ?_
  with_reducible refine (slices_Clone_byte_byte.calls A0 c0 l0 l0 _ ?cr HC0.out hclone).mono ?_
  case cr => repeat (first | exact HR0.out | (with_reducible refine Kd.C_alloc ?_ _) | (with_reducible refine Kd.C_drewN ?_ _) | (with_reducible refine Kd.C_drew ?_))
  rintro e w3 ⟨v0, rfl, hR, hb⟩
  refine ⟨_, rfl, ?_⟩
  refine hK.out _ _ trivial (fun hHeld => ?_)
  clear hK K
  refine norm_ (a' := ?_) ?_ ?_
  rotate_left
  · show Act.put _ (some 24) _ = _
    simp only [Act.put, List.setIfInBounds_toArray, List.set_cons_zero, List.set_cons_succ, i64_w, i32_w]
    rfl
  refine one_ (i := 5) (N := some 28) #[true, true, true, true, true, true, false] rfl rfl (by kernel_rfl) (by decide) (fun K hK => ?_)
  refine Kd.R_append_rows_step (Kd.int .u8) (w0 := w) w.heap.size (by rfl) (.tmp 24) (.tmp 27) 34 5 (.int .u8 0) 1 (by rfl) Try.underlying34 info5 rfl (by decide) (by omega) v0 l0 ([a1 / 16777216 % 256, a1 / 65536 % 256, a1 / 256 % 256, a1 % 256].drop (4 - s).toNat) _ _ _ (fun _ => True) (fun _ => False) (by rfl) (by rfl) ?aO ?aR (fun _ _ h => h) (fun _ h => h.elim) (fun _ _ => trivial) ?aB ?aS ?aL ?_
  case aO => exact Kd.R_lower hR (by simp)
  case aR => exact Kd.C_below (hrow.out (World.drew (w.alloc _)) _ (show (World.drew (w.alloc _)).heap[w.heap.size]? = _ from heap_alloc_new w _)) hb
  case aB => exact below_step (by repeat (first | (with_reducible first | exact HB.out | apply below_alloc | apply pw_below_drewN | apply below_drew1) | exact HB.out)) hb
  case aS => exact below_size (below_step (by repeat (first | (with_reducible first | exact HB.out | apply below_alloc | apply pw_below_drewN | apply below_drew1) | exact HB.out)) hb)
  case aL => have := LM.out; omega
  intro v1 w4 ho hb2 hg hat
  refine hK.out _ _ trivial (fun hHeld => ?_)
  clear hK K
  refine norm_ (a' := ?_) ?_ ?_
  rotate_left
  · show Act.put _ (some 28) _ = _
    simp only [Act.put, List.setIfInBounds_toArray, List.set_cons_zero, List.set_cons_succ, i64_w, i32_w]
    rfl
  refine pure_ (i := 6) (N := some 6) (v := ?_) (a' := ?_) #[true, true, true, true, true, true, true] rfl rfl (by kernel_rfl) (fun _ _ _ h => h) (Or.inl ⟨by rfl, ?_⟩) ?_ ?_
  rotate_left
  · intro w'
    go_simp
    with_reducible rfl
  rotate_left
  · simp only [Act.put, List.setIfInBounds_toArray, List.set_cons_zero, List.set_cons_succ, i64_w, i32_w]
    rfl
  refine done_ (by kernel_rfl) ?_
  clear hcut hrow
  have HO := Aside0.mk ho
  have HB2 := Aside0.mk hb2
  clear ho hb2
  go_wp2
  go_ret
  exact ⟨_, rfl, HO.out, HB2.out⟩

/-! ### bits_RotateLeft32: function 42 -/
def bits_RotateLeft32.f (a0 : Int) (a1 : Int) : Option (Int) := if 0 ≤ (Go.bits .and .u64 (IntKind.u64.wrap (a1)) 31) then (if 0 ≤ (IntKind.u64.wrap (32 - (Go.bits .and .u64 (IntKind.u64.wrap (a1)) 31))) then (some (Go.bits .or .u32 (shl .u32 a0 (Go.bits .and .u64 (IntKind.u64.wrap (a1)) 31)) (shr .u32 a0 (IntKind.u64.wrap (32 - (Go.bits .and .u64 (IntKind.u64.wrap (a1)) 31)))))) else (none)) else (none)
set_option maxHeartbeats 8000000 in
set_option maxRecDepth 100000 in
theorem bits_RotateLeft32.calls (a0 : Int) (a1 : Int) (r : Int) (w : World) (h : bits_RotateLeft32.f a0 a1 = some r) :
    Calls Try.prog 42 #[.int .u32 a0, .int .i64 a1] w fun e w' => e = .returned (.int .u32 r) ∧ Drawn0 w w' := by
  have H : (if 0 ≤ (Go.bits .and .u64 (IntKind.u64.wrap (a1)) 31) then (if 0 ≤ (IntKind.u64.wrap (32 - (Go.bits .and .u64 (IntKind.u64.wrap (a1)) 31))) then (some (Go.bits .or .u32 (shl .u32 a0 (Go.bits .and .u64 (IntKind.u64.wrap (a1)) 31)) (shr .u32 a0 (IntKind.u64.wrap (32 - (Go.bits .and .u64 (IntKind.u64.wrap (a1)) 31)))))) else (none)) else (none)) = some r := h
  clear h
  obtain ⟨ji3, hji3⟩ : ∃ j_ : Int, (Go.bits .and .u64 (IntKind.u64.wrap (a1)) 31) = j_ := ⟨_, rfl⟩
  replace H : (if 0 ≤ (ji3) then (if 0 ≤ (IntKind.u64.wrap (32 - (ji3))) then (some (Go.bits .or .u32 (shl .u32 a0 (ji3)) (shr .u32 a0 (IntKind.u64.wrap (32 - (ji3)))))) else (none)) else (none)) = some r := by first | (rw [hji3] at H; exact H) | (simp only [hji3] at H ⊢; exact H)
  by_cases c4 : 0 ≤ (ji3)
  · rw [if_pos c4] at H
    have c4b0 := eq_true c4
    have c4b1 : decide (0 ≤ (ji3)) = true := decide_eq_true c4
    clear c4
    obtain ⟨ji5, hji5⟩ : ∃ j_ : Int, (shl .u32 a0 (ji3)) = j_ := ⟨_, rfl⟩
    replace H : (if 0 ≤ (IntKind.u64.wrap (32 - (ji3))) then (some (Go.bits .or .u32 (ji5) (shr .u32 a0 (IntKind.u64.wrap (32 - (ji3)))))) else (none)) = some r := by first | (rw [hji5] at H; exact H) | (simp only [hji5] at H ⊢; exact H)
    have hji5_ : (IntKind.u32.wrap (a0 * 2 ^ min (ji3).toNat 32)) = ji5 := hji5
    have hji5z : (ji3) ≤ 32 → (IntKind.u32.wrap (a0 * 2 ^ (ji3).toNat)) = ji5 := shl_small hji5
    obtain ⟨ji6, hji6⟩ : ∃ j_ : Int, (IntKind.u64.wrap (32 - (ji3))) = j_ := ⟨_, rfl⟩
    replace H : (if 0 ≤ (ji6) then (some (Go.bits .or .u32 (ji5) (shr .u32 a0 (ji6)))) else (none)) = some r := by first | (rw [hji6] at H; exact H) | (simp only [hji6] at H ⊢; exact H)
    by_cases c7 : 0 ≤ (ji6)
    · rw [if_pos c7] at H
      have c7b0 := eq_true c7
      have c7b1 : decide (0 ≤ (ji6)) = true := decide_eq_true c7
      clear c7
      obtain ⟨ji8, hji8⟩ : ∃ j_ : Int, (shr .u32 a0 (ji6)) = j_ := ⟨_, rfl⟩
      replace H : (some (Go.bits .or .u32 (ji5) (ji8))) = some r := by first | (rw [hji8] at H; exact H) | (simp only [hji8] at H ⊢; exact H)
      have hji8_ : (a0 / 2 ^ min (ji6).toNat 32) = ji8 := hji8
      have hji8z : (ji6) ≤ 32 → (a0 / 2 ^ (ji6).toNat) = ji8 := shr_small hji8
      obtain rfl := Option.some.inj H
      go_enter Try.func42, Try.ntmps42
      go_wp2
      go_ret
      exact ⟨by first | rfl | (simp; done) | (simp only [← hji3, ← hji5, ← hji6, ← hji8] <;> (first | rfl | simp)) | (simp [*]; done), by repeat (first | exact Drawn0.refl _ | apply Drawn0.step)⟩
    · rw [if_neg c7] at H
      exact absurd H (by simp)
  · rw [if_neg c4] at H
    exact absurd H (by simp)

/-! ### pack_Sum: function 32 -/
def pack_Sum.l0 : Nat → Int → List Int → Int → Int → Option (Int)
  | 0, _, _, _, _ => none
  | k + 1, x3, x6, x7, x8 => if x8 < x7 then (if 0 ≤ x8 then (if x8 < (x6.length : Int) then ((bits_RotateLeft32.f (Go.bits .xor .u32 x3 ((rd x6 x8) % 4294967296)) 5).bind fun t221 => (pack_Sum.l0 k ((t221 + 2654435761) % 4294967296) x6 x7 (wrap64 (x8 + 1)))) else (none)) else (none)) else (some x3)
def pack_Sum.f (k : Nat) (l0 : List Int) : Option (Int) := pack_Sum.l0 k 2166136261 l0 (l0.length : Int) 0
theorem pack_Sum.mono_l : ∀ k, (∀ y0 y1 y2 y3, LeO (pack_Sum.l0 k y0 y1 y2 y3) (pack_Sum.l0 (k + 1) y0 y1 y2 y3))
  | 0 => fun _ _ _ _ r h => by simp [pack_Sum.l0] at h
  | k + 1 => by
    have ih0 := pack_Sum.mono_l k
    · intro y0 y1 y2 y3
      unfold pack_Sum.l0
      repeat' first
      | (with_reducible exact ih0 _ _ _ _)
      | (with_reducible exact LeO.refl _)
      | (with_reducible exact LeO.none _)
      | (with_reducible refine LeO.ite ?_ ?_)
      | (with_reducible refine LeO.bind ?_ (fun _ => ?_))
      | exact ih0 _ _ _ _
      | exact LeO.none _
      | refine LeO.ite ?_ ?_
      | refine LeO.bind ?_ (fun _ => ?_)
theorem pack_Sum.mono : ∀ a0 k, LeO (pack_Sum.f k a0) (pack_Sum.f (k + 1) a0) := by
  intro a0 k
  have ih0 := pack_Sum.mono_l k
  unfold pack_Sum.f
  repeat' first
      | (with_reducible exact ih0 _ _ _ _)
      | (with_reducible exact LeO.refl _)
      | (with_reducible exact LeO.none _)
      | (with_reducible refine LeO.ite ?_ ?_)
      | (with_reducible refine LeO.bind ?_ (fun _ => ?_))
      | exact ih0 _ _ _ _
      | exact LeO.none _
      | refine LeO.ite ?_ ?_
      | refine LeO.bind ?_ (fun _ => ?_)
set_option maxHeartbeats 8000000 in
set_option maxRecDepth 100000 in
theorem pack_Sum.calls (k : Nat) (A0 : Option Addr) (c0 : Nat) (l0 : List Int) (r : Int) (w : World) (hr0 : Kd.C (Kd.int .u8) w A0 l0.length l0) (hc0 : l0.length ≤ c0) (h : pack_Sum.f k l0 = some r) :
    Calls Try.prog 32 #[.slice A0 l0.length c0] w fun e w' => e = .returned (.int .u32 r) ∧ Drawn0 w w' := by
  have HR0 := Aside0.mk hr0
  have HC0 := Aside0.mk hc0
  clear hr0 hc0
  have H : (pack_Sum.l0 k 2166136261 l0 (l0.length : Int) 0) = some r := h
  clear h
  have H' := Aside0.mk H
  clear H
  go_enter Try.func32, Try.ntmps32
  go_wp2
  go_loopg [3, 8] k (fun kq v3 v8 w' => ∃ (x3_1 : Int) (x8_1 : Int), v3 = .int .u32 x3_1 ∧ v8 = .int .i64 x8_1 ∧ Aside0 (pack_Sum.l0 kq x3_1 l0 (l0.length : Int) x8_1 = some r) ∧ Aside0 (kq ≤ k) ∧ Drawn0 w w')
  case atStart => exact ⟨(2166136261), (0), (by first | rfl | (simp; done) | (simp [*]; done)), (by first | rfl | (simp; done) | (simp [*]; done)), H', ⟨Nat.le_refl _⟩, by repeat (first | exact Drawn0.refl _ | apply Drawn0.step)⟩
  case round =>
    clear H'
    obtain ⟨x3_1, x8_1, rfl, rfl, HA, HK1, ⟨m1, rfl⟩⟩ := hrel
    cases gk with
    | zero => exact absurd HA.out (by simp [pack_Sum.l0])
    | succ k1 =>
      have H := HA.out
      clear HA
      simp only [pack_Sum.l0] at H
      by_cases c2 : x8_1 < (l0.length : Int)
      · rw [if_pos c2] at H
        have c2b0 : decide (x8_1 < (l0.length : Int)) = true := decide_eq_true c2
        clear c2
        by_cases c3 : 0 ≤ x8_1
        · rw [if_pos c3] at H
          have c3b0 : decide (0 ≤ x8_1) = true := decide_eq_true c3
          clear c3
          by_cases c4 : x8_1 < (l0.length : Int)
          · rw [if_pos c4] at H
            have c4b0 : decide (x8_1 < (l0.length : Int)) = true := decide_eq_true c4
            clear c4
            replace H := Option.bind_eq_some_iff.mp H
            obtain ⟨t221, A50, H⟩ := H
            replace H : (pack_Sum.l0 k1 ((t221 + 2654435761) % 4294967296) l0 (l0.length : Int) (wrap64 (x8_1 + 1))) = some r := H
            have A5 := Aside0.mk A50
            clear A50
            have H' := Aside0.mk H
            clear H
            have p220 : 0 ≤ (x8_1 : Int) := of_decide_eq_true (by first | (with_reducible assumption) | assumption)
            have q220 : x8_1 < (l0.length : Int) := of_decide_eq_true (by first | (with_reducible assumption) | assumption)
            obtain ⟨ad220, e220, hx220_0⟩ := Kd.at_int HR0.out x8_1 p220 q220
            cases e220
            replace p220 := eq_true p220
            replace q220 := eq_true q220
            go_wp2_with (first | ((with_reducible refine gate_callee (f := 42) rfl ?_); refine goesL_ (some 16) rfl rfl Try.func42 (by kernel_rfl) rfl #[.int .u32 (Go.bits .xor .u32 x3_1 ((rd l0 x8_1) % 4294967296)), .int .i64 5] rfl (by (try simp only [List.map_toArray, List.map_cons, List.map_nil]); first | done | rfl | (simp only [List.length_drop, List.length_take]; rfl)) ?_; (with_reducible refine (bits_RotateLeft32.calls (Go.bits .xor .u32 x3_1 ((rd l0 x8_1) % 4294967296)) 5 t221 _ A5.out).mono ?_); rintro e w' ⟨rfl, ⟨nd, rfl⟩⟩; refine ⟨_, rfl, ?_⟩))
            go_roundg k1
            case measure => have := HK1.out; omega
            case rel => exact ⟨((t221 + 2654435761) % 4294967296), (wrap64 (x8_1 + 1)), (by first | rfl | (simp; done) | (simp [*]; done)), (by first | rfl | (simp; done) | (simp [*]; done)), H', ⟨by have := HK1.out; omega⟩, by repeat (first | exact Drawn0.refl _ | apply Drawn0.step)⟩
          · rw [if_neg c4] at H
            exact absurd H (by simp)
        · rw [if_neg c3] at H
          exact absurd H (by simp)
      · rw [if_neg c2] at H
        have c2b0 : decide (x8_1 < (l0.length : Int)) = false := decide_eq_false c2
        clear c2
        obtain rfl := Option.some.inj H
        go_wp2
        go_ret
        exact ⟨by first | rfl | (simp; done) | (simp [*]; done), by repeat (first | exact Drawn0.refl _ | apply Drawn0.step)⟩

/-! ### caesuralaw05_wakes: function 24 -/
def caesuralaw05_wakes.f (k : Nat)  : Option (Bool) := (pack_Put.f (([9] : List Int)) 258 2).bind fun t225 => ((pack_Get.f k t225 1 2).bind fun bt228 => ((pack_Get.f k t225 2 2).bind fun bt230 => ((pack_Bits.f k (([true, false, false, false, false, false, false, false, true] : List Bool))).bind fun t235 => ((pack_Unbits.f k t235 9).bind fun bt238 => ((pack_Unbits.f k (([2] : List Int)) 1).bind fun bt245 => ((caesurakeep_Bytes.f t225 (([9, 1, 2] : List Int))).bind fun t252 => (if t252 = true then (if bt228.2 = true then (if bt228.1 = 258 then (if bt230.2 = true then (none) else ((caesurakeep_Bytes.f t235 (([1, 1] : List Int))).bind fun t256 => (if t256 = true then (if bt238.2 = true then (if (bt238.1.length : Int) = 9 then (if 8 < (bt238.1.length : Int) then (if rdOf false bt238.1 8 = true then (if 1 < (bt238.1.length : Int) then (if rdOf false bt238.1 1 = true then (none) else (if bt245.2 = true then (none) else ((pack_Sum.f k ([] : List Int)).bind fun t259 => (if t259 = 2166136261 then ((pack_Put.f ([] : List Int) 1 (-3)).bind fun t260 => (some ((t260.length : Int) == 0))) else (none))))) else (none)) else (none)) else (none)) else (none)) else (none)) else (none)))) else (none)) else (none)) else (none))))))))
theorem caesuralaw05_wakes.mono : ∀ k, LeO (caesuralaw05_wakes.f k ) (caesuralaw05_wakes.f (k + 1) ) := by
  intro  k
  unfold caesuralaw05_wakes.f
  repeat' first
      | (with_reducible exact pack_Bits.mono _ _)
      | (with_reducible exact pack_Get.mono _ _ _ _)
      | (with_reducible exact pack_Sum.mono _ _)
      | (with_reducible exact pack_Unbits.mono _ _ _)
      | (with_reducible exact LeO.refl _)
      | (with_reducible exact LeO.none _)
      | (with_reducible refine LeO.ite ?_ ?_)
      | (with_reducible refine LeO.bind ?_ (fun _ => ?_))
      | exact pack_Bits.mono _ _
      | exact pack_Get.mono _ _ _ _
      | exact pack_Sum.mono _ _
      | exact pack_Unbits.mono _ _ _
      | exact LeO.none _
      | refine LeO.ite ?_ ?_
      | refine LeO.bind ?_ (fun _ => ?_)
set_option maxHeartbeats 8000000 in
set_option maxRecDepth 100000 in
theorem caesuralaw05_wakes.calls (k : Nat)  (r : Bool) (w : World) (h : caesuralaw05_wakes.f k  = some r) :
    Calls Try.prog 24 #[] w fun e w' => e = .returned (.bool r) ∧ Below w.heap.size w w' := by
  have HB := Aside0.mk (Below.refl w.heap.size w)
  have H : ((pack_Put.f (([9] : List Int)) 258 2).bind fun t225 => ((pack_Get.f k t225 1 2).bind fun bt228 => ((pack_Get.f k t225 2 2).bind fun bt230 => ((pack_Bits.f k (([true, false, false, false, false, false, false, false, true] : List Bool))).bind fun t235 => ((pack_Unbits.f k t235 9).bind fun bt238 => ((pack_Unbits.f k (([2] : List Int)) 1).bind fun bt245 => ((caesurakeep_Bytes.f t225 (([9, 1, 2] : List Int))).bind fun t252 => (if t252 = true then (if bt228.2 = true then (if bt228.1 = 258 then (if bt230.2 = true then (none) else ((caesurakeep_Bytes.f t235 (([1, 1] : List Int))).bind fun t256 => (if t256 = true then (if bt238.2 = true then (if (bt238.1.length : Int) = 9 then (if 8 < (bt238.1.length : Int) then (if rdOf false bt238.1 8 = true then (if 1 < (bt238.1.length : Int) then (if rdOf false bt238.1 1 = true then (none) else (if bt245.2 = true then (none) else ((pack_Sum.f k ([] : List Int)).bind fun t259 => (if t259 = 2166136261 then ((pack_Put.f ([] : List Int) 1 (-3)).bind fun t260 => (some ((t260.length : Int) == 0))) else (none))))) else (none)) else (none)) else (none)) else (none)) else (none)) else (none)))) else (none)) else (none)) else (none))))))))) = some r := h
  clear h
  obtain ⟨y222, hy222⟩ : ∃ y_ : List Int, y_ = (([9] : List Int)) := ⟨_, rfl⟩
  replace H : ((pack_Put.f y222 258 2).bind fun t225 => ((pack_Get.f k t225 1 2).bind fun bt228 => ((pack_Get.f k t225 2 2).bind fun bt230 => ((pack_Bits.f k (([true, false, false, false, false, false, false, false, true] : List Bool))).bind fun t235 => ((pack_Unbits.f k t235 9).bind fun bt238 => ((pack_Unbits.f k (([2] : List Int)) 1).bind fun bt245 => ((caesurakeep_Bytes.f t225 (([9, 1, 2] : List Int))).bind fun t252 => (if t252 = true then (if bt228.2 = true then (if bt228.1 = 258 then (if bt230.2 = true then (none) else ((caesurakeep_Bytes.f t235 (([1, 1] : List Int))).bind fun t256 => (if t256 = true then (if bt238.2 = true then (if (bt238.1.length : Int) = 9 then (if 8 < (bt238.1.length : Int) then (if rdOf false bt238.1 8 = true then (if 1 < (bt238.1.length : Int) then (if rdOf false bt238.1 1 = true then (none) else (if bt245.2 = true then (none) else ((pack_Sum.f k ([] : List Int)).bind fun t259 => (if t259 = 2166136261 then ((pack_Put.f ([] : List Int) 1 (-3)).bind fun t260 => (some ((t260.length : Int) == 0))) else (none))))) else (none)) else (none)) else (none)) else (none)) else (none)) else (none)))) else (none)) else (none)) else (none))))))))) = some r := by first | (rw [hy222]; with_reducible exact H) | (have H2_ := (Option.bind_some _ _).symm.trans H; rw [hy222]; with_reducible exact H2_) | (have H2_ := (Option.bind_some _ _).symm.trans H; with_reducible exact H2_) | with_reducible exact H | (rw [hy222]; exact H) | exact H
  have Ny222 := Aside0.mk hy222
  clear hy222
  replace H := Option.bind_eq_some_iff.mp H
  obtain ⟨t225, A10, H⟩ := H
  replace H : ((pack_Get.f k t225 1 2).bind fun bt228 => ((pack_Get.f k t225 2 2).bind fun bt230 => ((pack_Bits.f k (([true, false, false, false, false, false, false, false, true] : List Bool))).bind fun t235 => ((pack_Unbits.f k t235 9).bind fun bt238 => ((pack_Unbits.f k (([2] : List Int)) 1).bind fun bt245 => ((caesurakeep_Bytes.f t225 (([9, 1, 2] : List Int))).bind fun t252 => (if t252 = true then (if bt228.2 = true then (if bt228.1 = 258 then (if bt230.2 = true then (none) else ((caesurakeep_Bytes.f t235 (([1, 1] : List Int))).bind fun t256 => (if t256 = true then (if bt238.2 = true then (if (bt238.1.length : Int) = 9 then (if 8 < (bt238.1.length : Int) then (if rdOf false bt238.1 8 = true then (if 1 < (bt238.1.length : Int) then (if rdOf false bt238.1 1 = true then (none) else (if bt245.2 = true then (none) else ((pack_Sum.f k ([] : List Int)).bind fun t259 => (if t259 = 2166136261 then ((pack_Put.f ([] : List Int) 1 (-3)).bind fun t260 => (some ((t260.length : Int) == 0))) else (none))))) else (none)) else (none)) else (none)) else (none)) else (none)) else (none)))) else (none)) else (none)) else (none)))))))) = some r := H
  have A1 := Aside0.mk A10
  clear A10
  replace H := Option.bind_eq_some_iff.mp H
  obtain ⟨⟨t228, t229⟩, A20, H⟩ := H
  replace H : ((pack_Get.f k t225 2 2).bind fun bt230 => ((pack_Bits.f k (([true, false, false, false, false, false, false, false, true] : List Bool))).bind fun t235 => ((pack_Unbits.f k t235 9).bind fun bt238 => ((pack_Unbits.f k (([2] : List Int)) 1).bind fun bt245 => ((caesurakeep_Bytes.f t225 (([9, 1, 2] : List Int))).bind fun t252 => (if t252 = true then (if t229 = true then (if t228 = 258 then (if bt230.2 = true then (none) else ((caesurakeep_Bytes.f t235 (([1, 1] : List Int))).bind fun t256 => (if t256 = true then (if bt238.2 = true then (if (bt238.1.length : Int) = 9 then (if 8 < (bt238.1.length : Int) then (if rdOf false bt238.1 8 = true then (if 1 < (bt238.1.length : Int) then (if rdOf false bt238.1 1 = true then (none) else (if bt245.2 = true then (none) else ((pack_Sum.f k ([] : List Int)).bind fun t259 => (if t259 = 2166136261 then ((pack_Put.f ([] : List Int) 1 (-3)).bind fun t260 => (some ((t260.length : Int) == 0))) else (none))))) else (none)) else (none)) else (none)) else (none)) else (none)) else (none)))) else (none)) else (none)) else (none))))))) = some r := H
  have A2 := Aside0.mk A20
  clear A20
  replace H := Option.bind_eq_some_iff.mp H
  obtain ⟨⟨t230, t231⟩, A30, H⟩ := H
  replace H : ((pack_Bits.f k (([true, false, false, false, false, false, false, false, true] : List Bool))).bind fun t235 => ((pack_Unbits.f k t235 9).bind fun bt238 => ((pack_Unbits.f k (([2] : List Int)) 1).bind fun bt245 => ((caesurakeep_Bytes.f t225 (([9, 1, 2] : List Int))).bind fun t252 => (if t252 = true then (if t229 = true then (if t228 = 258 then (if t231 = true then (none) else ((caesurakeep_Bytes.f t235 (([1, 1] : List Int))).bind fun t256 => (if t256 = true then (if bt238.2 = true then (if (bt238.1.length : Int) = 9 then (if 8 < (bt238.1.length : Int) then (if rdOf false bt238.1 8 = true then (if 1 < (bt238.1.length : Int) then (if rdOf false bt238.1 1 = true then (none) else (if bt245.2 = true then (none) else ((pack_Sum.f k ([] : List Int)).bind fun t259 => (if t259 = 2166136261 then ((pack_Put.f ([] : List Int) 1 (-3)).bind fun t260 => (some ((t260.length : Int) == 0))) else (none))))) else (none)) else (none)) else (none)) else (none)) else (none)) else (none)))) else (none)) else (none)) else (none)))))) = some r := H
  have A3 := Aside0.mk A30
  clear A30
  obtain ⟨y232, hy232⟩ : ∃ y_ : List Bool, y_ = (([true, false, false, false, false, false, false, false, true] : List Bool)) := ⟨_, rfl⟩
  replace H : ((pack_Bits.f k y232).bind fun t235 => ((pack_Unbits.f k t235 9).bind fun bt238 => ((pack_Unbits.f k (([2] : List Int)) 1).bind fun bt245 => ((caesurakeep_Bytes.f t225 (([9, 1, 2] : List Int))).bind fun t252 => (if t252 = true then (if t229 = true then (if t228 = 258 then (if t231 = true then (none) else ((caesurakeep_Bytes.f t235 (([1, 1] : List Int))).bind fun t256 => (if t256 = true then (if bt238.2 = true then (if (bt238.1.length : Int) = 9 then (if 8 < (bt238.1.length : Int) then (if rdOf false bt238.1 8 = true then (if 1 < (bt238.1.length : Int) then (if rdOf false bt238.1 1 = true then (none) else (if bt245.2 = true then (none) else ((pack_Sum.f k ([] : List Int)).bind fun t259 => (if t259 = 2166136261 then ((pack_Put.f ([] : List Int) 1 (-3)).bind fun t260 => (some ((t260.length : Int) == 0))) else (none))))) else (none)) else (none)) else (none)) else (none)) else (none)) else (none)))) else (none)) else (none)) else (none)))))) = some r := by first | (rw [hy232]; with_reducible exact H) | (have H2_ := (Option.bind_some _ _).symm.trans H; rw [hy232]; with_reducible exact H2_) | (have H2_ := (Option.bind_some _ _).symm.trans H; with_reducible exact H2_) | with_reducible exact H | (rw [hy232]; exact H) | exact H
  have Ny232 := Aside0.mk hy232
  clear hy232
  replace H := Option.bind_eq_some_iff.mp H
  obtain ⟨t235, A40, H⟩ := H
  replace H : ((pack_Unbits.f k t235 9).bind fun bt238 => ((pack_Unbits.f k (([2] : List Int)) 1).bind fun bt245 => ((caesurakeep_Bytes.f t225 (([9, 1, 2] : List Int))).bind fun t252 => (if t252 = true then (if t229 = true then (if t228 = 258 then (if t231 = true then (none) else ((caesurakeep_Bytes.f t235 (([1, 1] : List Int))).bind fun t256 => (if t256 = true then (if bt238.2 = true then (if (bt238.1.length : Int) = 9 then (if 8 < (bt238.1.length : Int) then (if rdOf false bt238.1 8 = true then (if 1 < (bt238.1.length : Int) then (if rdOf false bt238.1 1 = true then (none) else (if bt245.2 = true then (none) else ((pack_Sum.f k ([] : List Int)).bind fun t259 => (if t259 = 2166136261 then ((pack_Put.f ([] : List Int) 1 (-3)).bind fun t260 => (some ((t260.length : Int) == 0))) else (none))))) else (none)) else (none)) else (none)) else (none)) else (none)) else (none)))) else (none)) else (none)) else (none))))) = some r := H
  have A4 := Aside0.mk A40
  clear A40
  replace H := Option.bind_eq_some_iff.mp H
  obtain ⟨⟨t238, t239⟩, A50, H⟩ := H
  replace H : ((pack_Unbits.f k (([2] : List Int)) 1).bind fun bt245 => ((caesurakeep_Bytes.f t225 (([9, 1, 2] : List Int))).bind fun t252 => (if t252 = true then (if t229 = true then (if t228 = 258 then (if t231 = true then (none) else ((caesurakeep_Bytes.f t235 (([1, 1] : List Int))).bind fun t256 => (if t256 = true then (if t239 = true then (if (t238.length : Int) = 9 then (if 8 < (t238.length : Int) then (if rdOf false t238 8 = true then (if 1 < (t238.length : Int) then (if rdOf false t238 1 = true then (none) else (if bt245.2 = true then (none) else ((pack_Sum.f k ([] : List Int)).bind fun t259 => (if t259 = 2166136261 then ((pack_Put.f ([] : List Int) 1 (-3)).bind fun t260 => (some ((t260.length : Int) == 0))) else (none))))) else (none)) else (none)) else (none)) else (none)) else (none)) else (none)))) else (none)) else (none)) else (none)))) = some r := H
  have A5 := Aside0.mk A50
  clear A50
  obtain ⟨y242, hy242⟩ : ∃ y_ : List Int, y_ = (([2] : List Int)) := ⟨_, rfl⟩
  replace H : ((pack_Unbits.f k y242 1).bind fun bt245 => ((caesurakeep_Bytes.f t225 (([9, 1, 2] : List Int))).bind fun t252 => (if t252 = true then (if t229 = true then (if t228 = 258 then (if t231 = true then (none) else ((caesurakeep_Bytes.f t235 (([1, 1] : List Int))).bind fun t256 => (if t256 = true then (if t239 = true then (if (t238.length : Int) = 9 then (if 8 < (t238.length : Int) then (if rdOf false t238 8 = true then (if 1 < (t238.length : Int) then (if rdOf false t238 1 = true then (none) else (if bt245.2 = true then (none) else ((pack_Sum.f k ([] : List Int)).bind fun t259 => (if t259 = 2166136261 then ((pack_Put.f ([] : List Int) 1 (-3)).bind fun t260 => (some ((t260.length : Int) == 0))) else (none))))) else (none)) else (none)) else (none)) else (none)) else (none)) else (none)))) else (none)) else (none)) else (none)))) = some r := by first | (rw [hy242]; with_reducible exact H) | (have H2_ := (Option.bind_some _ _).symm.trans H; rw [hy242]; with_reducible exact H2_) | (have H2_ := (Option.bind_some _ _).symm.trans H; with_reducible exact H2_) | with_reducible exact H | (rw [hy242]; exact H) | exact H
  have Ny242 := Aside0.mk hy242
  clear hy242
  replace H := Option.bind_eq_some_iff.mp H
  obtain ⟨⟨t245, t246⟩, A60, H⟩ := H
  replace H : ((caesurakeep_Bytes.f t225 (([9, 1, 2] : List Int))).bind fun t252 => (if t252 = true then (if t229 = true then (if t228 = 258 then (if t231 = true then (none) else ((caesurakeep_Bytes.f t235 (([1, 1] : List Int))).bind fun t256 => (if t256 = true then (if t239 = true then (if (t238.length : Int) = 9 then (if 8 < (t238.length : Int) then (if rdOf false t238 8 = true then (if 1 < (t238.length : Int) then (if rdOf false t238 1 = true then (none) else (if t246 = true then (none) else ((pack_Sum.f k ([] : List Int)).bind fun t259 => (if t259 = 2166136261 then ((pack_Put.f ([] : List Int) 1 (-3)).bind fun t260 => (some ((t260.length : Int) == 0))) else (none))))) else (none)) else (none)) else (none)) else (none)) else (none)) else (none)))) else (none)) else (none)) else (none))) = some r := H
  have A6 := Aside0.mk A60
  clear A60
  obtain ⟨y249, hy249⟩ : ∃ y_ : List Int, y_ = (([9, 1, 2] : List Int)) := ⟨_, rfl⟩
  replace H : ((caesurakeep_Bytes.f t225 y249).bind fun t252 => (if t252 = true then (if t229 = true then (if t228 = 258 then (if t231 = true then (none) else ((caesurakeep_Bytes.f t235 (([1, 1] : List Int))).bind fun t256 => (if t256 = true then (if t239 = true then (if (t238.length : Int) = 9 then (if 8 < (t238.length : Int) then (if rdOf false t238 8 = true then (if 1 < (t238.length : Int) then (if rdOf false t238 1 = true then (none) else (if t246 = true then (none) else ((pack_Sum.f k ([] : List Int)).bind fun t259 => (if t259 = 2166136261 then ((pack_Put.f ([] : List Int) 1 (-3)).bind fun t260 => (some ((t260.length : Int) == 0))) else (none))))) else (none)) else (none)) else (none)) else (none)) else (none)) else (none)))) else (none)) else (none)) else (none))) = some r := by first | (rw [hy249]; with_reducible exact H) | (have H2_ := (Option.bind_some _ _).symm.trans H; rw [hy249]; with_reducible exact H2_) | (have H2_ := (Option.bind_some _ _).symm.trans H; with_reducible exact H2_) | with_reducible exact H | (rw [hy249]; exact H) | exact H
  have Ny249 := Aside0.mk hy249
  clear hy249
  replace H := Option.bind_eq_some_iff.mp H
  obtain ⟨t252, A70, H⟩ := H
  replace H : (if t252 = true then (if t229 = true then (if t228 = 258 then (if t231 = true then (none) else ((caesurakeep_Bytes.f t235 (([1, 1] : List Int))).bind fun t256 => (if t256 = true then (if t239 = true then (if (t238.length : Int) = 9 then (if 8 < (t238.length : Int) then (if rdOf false t238 8 = true then (if 1 < (t238.length : Int) then (if rdOf false t238 1 = true then (none) else (if t246 = true then (none) else ((pack_Sum.f k ([] : List Int)).bind fun t259 => (if t259 = 2166136261 then ((pack_Put.f ([] : List Int) 1 (-3)).bind fun t260 => (some ((t260.length : Int) == 0))) else (none))))) else (none)) else (none)) else (none)) else (none)) else (none)) else (none)))) else (none)) else (none)) else (none)) = some r := H
  have A7 := Aside0.mk A70
  clear A70
  by_cases c8 : t252 = true
  · subst c8
    have H1 : (if t229 = true then (if t228 = 258 then (if t231 = true then (none) else ((caesurakeep_Bytes.f t235 (([1, 1] : List Int))).bind fun t256 => (if t256 = true then (if t239 = true then (if (t238.length : Int) = 9 then (if 8 < (t238.length : Int) then (if rdOf false t238 8 = true then (if 1 < (t238.length : Int) then (if rdOf false t238 1 = true then (none) else (if t246 = true then (none) else ((pack_Sum.f k ([] : List Int)).bind fun t259 => (if t259 = 2166136261 then ((pack_Put.f ([] : List Int) 1 (-3)).bind fun t260 => (some ((t260.length : Int) == 0))) else (none))))) else (none)) else (none)) else (none)) else (none)) else (none)) else (none)))) else (none)) else (none)) = some r := by rw [if_pos rfl] at H; exact H
    clear H
    have H := H1
    clear H1
    by_cases c9 : t229 = true
    · subst c9
      have H1 : (if t228 = 258 then (if t231 = true then (none) else ((caesurakeep_Bytes.f t235 (([1, 1] : List Int))).bind fun t256 => (if t256 = true then (if t239 = true then (if (t238.length : Int) = 9 then (if 8 < (t238.length : Int) then (if rdOf false t238 8 = true then (if 1 < (t238.length : Int) then (if rdOf false t238 1 = true then (none) else (if t246 = true then (none) else ((pack_Sum.f k ([] : List Int)).bind fun t259 => (if t259 = 2166136261 then ((pack_Put.f ([] : List Int) 1 (-3)).bind fun t260 => (some ((t260.length : Int) == 0))) else (none))))) else (none)) else (none)) else (none)) else (none)) else (none)) else (none)))) else (none)) = some r := by rw [if_pos rfl] at H; exact H
      clear H
      have H := H1
      clear H1
      by_cases c10 : t228 = 258
      · rw [if_pos c10] at H
        have c10b0 : (t228 == 258) = true := beq_iff_eq.mpr c10
        have c10b1 : (t228 != 258) = false := bne_eq_false_iff_eq.mpr c10
        clear c10
        by_cases c11 : t231 = true
        · subst c11
          have H1 : (none) = some r := by rw [if_pos rfl] at H; exact H
          clear H
          have H := H1
          clear H1
          exact absurd H (by simp)
        · replace c11 := Bool.eq_false_iff.mpr c11
          subst c11
          have H1 : ((caesurakeep_Bytes.f t235 (([1, 1] : List Int))).bind fun t256 => (if t256 = true then (if t239 = true then (if (t238.length : Int) = 9 then (if 8 < (t238.length : Int) then (if rdOf false t238 8 = true then (if 1 < (t238.length : Int) then (if rdOf false t238 1 = true then (none) else (if t246 = true then (none) else ((pack_Sum.f k ([] : List Int)).bind fun t259 => (if t259 = 2166136261 then ((pack_Put.f ([] : List Int) 1 (-3)).bind fun t260 => (some ((t260.length : Int) == 0))) else (none))))) else (none)) else (none)) else (none)) else (none)) else (none)) else (none))) = some r := by rw [if_neg (show ¬ (false = true) by decide)] at H; exact H
          clear H
          have H := H1
          clear H1
          obtain ⟨y253, hy253⟩ : ∃ y_ : List Int, y_ = (([1, 1] : List Int)) := ⟨_, rfl⟩
          replace H : ((caesurakeep_Bytes.f t235 y253).bind fun t256 => (if t256 = true then (if t239 = true then (if (t238.length : Int) = 9 then (if 8 < (t238.length : Int) then (if rdOf false t238 8 = true then (if 1 < (t238.length : Int) then (if rdOf false t238 1 = true then (none) else (if t246 = true then (none) else ((pack_Sum.f k ([] : List Int)).bind fun t259 => (if t259 = 2166136261 then ((pack_Put.f ([] : List Int) 1 (-3)).bind fun t260 => (some ((t260.length : Int) == 0))) else (none))))) else (none)) else (none)) else (none)) else (none)) else (none)) else (none))) = some r := by first | (rw [hy253]; with_reducible exact H) | (have H2_ := (Option.bind_some _ _).symm.trans H; rw [hy253]; with_reducible exact H2_) | (have H2_ := (Option.bind_some _ _).symm.trans H; with_reducible exact H2_) | with_reducible exact H | (rw [hy253]; exact H) | exact H
          have Ny253 := Aside0.mk hy253
          clear hy253
          replace H := Option.bind_eq_some_iff.mp H
          obtain ⟨t256, A120, H⟩ := H
          replace H : (if t256 = true then (if t239 = true then (if (t238.length : Int) = 9 then (if 8 < (t238.length : Int) then (if rdOf false t238 8 = true then (if 1 < (t238.length : Int) then (if rdOf false t238 1 = true then (none) else (if t246 = true then (none) else ((pack_Sum.f k ([] : List Int)).bind fun t259 => (if t259 = 2166136261 then ((pack_Put.f ([] : List Int) 1 (-3)).bind fun t260 => (some ((t260.length : Int) == 0))) else (none))))) else (none)) else (none)) else (none)) else (none)) else (none)) else (none)) = some r := H
          have A12 := Aside0.mk A120
          clear A120
          by_cases c13 : t256 = true
          · subst c13
            have H1 : (if t239 = true then (if (t238.length : Int) = 9 then (if 8 < (t238.length : Int) then (if rdOf false t238 8 = true then (if 1 < (t238.length : Int) then (if rdOf false t238 1 = true then (none) else (if t246 = true then (none) else ((pack_Sum.f k ([] : List Int)).bind fun t259 => (if t259 = 2166136261 then ((pack_Put.f ([] : List Int) 1 (-3)).bind fun t260 => (some ((t260.length : Int) == 0))) else (none))))) else (none)) else (none)) else (none)) else (none)) else (none)) = some r := by rw [if_pos rfl] at H; exact H
            clear H
            have H := H1
            clear H1
            by_cases c14 : t239 = true
            · subst c14
              have H1 : (if (t238.length : Int) = 9 then (if 8 < (t238.length : Int) then (if rdOf false t238 8 = true then (if 1 < (t238.length : Int) then (if rdOf false t238 1 = true then (none) else (if t246 = true then (none) else ((pack_Sum.f k ([] : List Int)).bind fun t259 => (if t259 = 2166136261 then ((pack_Put.f ([] : List Int) 1 (-3)).bind fun t260 => (some ((t260.length : Int) == 0))) else (none))))) else (none)) else (none)) else (none)) else (none)) = some r := by rw [if_pos rfl] at H; exact H
              clear H
              have H := H1
              clear H1
              by_cases c15 : (t238.length : Int) = 9
              · rw [if_pos c15] at H
                have c15b0 : ((t238.length : Int) == 9) = true := beq_iff_eq.mpr c15
                have c15b1 : ((t238.length : Int) != 9) = false := bne_eq_false_iff_eq.mpr c15
                clear c15
                by_cases c16 : 8 < (t238.length : Int)
                · rw [if_pos c16] at H
                  have c16b0 : decide (8 < (t238.length : Int)) = true := decide_eq_true c16
                  have c16b1 : decide (8 < t238.length) = true := decide_eq_true (by omega)
                  clear c16
                  obtain ⟨bq17, hbq17⟩ : ∃ b_ : Bool, b_ = (rdOf false t238 8) := ⟨_, rfl⟩
                  replace H : (if bq17 = true then (if 1 < (t238.length : Int) then (if rdOf false t238 1 = true then (none) else (if t246 = true then (none) else ((pack_Sum.f k ([] : List Int)).bind fun t259 => (if t259 = 2166136261 then ((pack_Put.f ([] : List Int) 1 (-3)).bind fun t260 => (some ((t260.length : Int) == 0))) else (none))))) else (none)) else (none)) = some r := by rw [← hbq17] at H; exact H
                  have Nbq17 := Aside0.mk hbq17
                  clear hbq17
                  by_cases c18 : bq17 = true
                  · subst c18
                    have H1 : (if 1 < (t238.length : Int) then (if rdOf false t238 1 = true then (none) else (if t246 = true then (none) else ((pack_Sum.f k ([] : List Int)).bind fun t259 => (if t259 = 2166136261 then ((pack_Put.f ([] : List Int) 1 (-3)).bind fun t260 => (some ((t260.length : Int) == 0))) else (none))))) else (none)) = some r := by rw [if_pos rfl] at H; exact H
                    clear H
                    have H := H1
                    clear H1
                    by_cases c19 : 1 < (t238.length : Int)
                    · rw [if_pos c19] at H
                      have c19b0 : decide (1 < (t238.length : Int)) = true := decide_eq_true c19
                      have c19b1 : decide (1 < t238.length) = true := decide_eq_true (by omega)
                      clear c19
                      obtain ⟨bq20, hbq20⟩ : ∃ b_ : Bool, b_ = (rdOf false t238 1) := ⟨_, rfl⟩
                      replace H : (if bq20 = true then (none) else (if t246 = true then (none) else ((pack_Sum.f k ([] : List Int)).bind fun t259 => (if t259 = 2166136261 then ((pack_Put.f ([] : List Int) 1 (-3)).bind fun t260 => (some ((t260.length : Int) == 0))) else (none))))) = some r := by rw [← hbq20] at H; exact H
                      have Nbq20 := Aside0.mk hbq20
                      clear hbq20
                      by_cases c21 : bq20 = true
                      · subst c21
                        have H1 : (none) = some r := by rw [if_pos rfl] at H; exact H
                        clear H
                        have H := H1
                        clear H1
                        exact absurd H (by simp)
                      · replace c21 := Bool.eq_false_iff.mpr c21
                        subst c21
                        have H1 : (if t246 = true then (none) else ((pack_Sum.f k ([] : List Int)).bind fun t259 => (if t259 = 2166136261 then ((pack_Put.f ([] : List Int) 1 (-3)).bind fun t260 => (some ((t260.length : Int) == 0))) else (none)))) = some r := by rw [if_neg (show ¬ (false = true) by decide)] at H; exact H
                        clear H
                        have H := H1
                        clear H1
                        by_cases c22 : t246 = true
                        · subst c22
                          have H1 : (none) = some r := by rw [if_pos rfl] at H; exact H
                          clear H
                          have H := H1
                          clear H1
                          exact absurd H (by simp)
                        · replace c22 := Bool.eq_false_iff.mpr c22
                          subst c22
                          have H1 : ((pack_Sum.f k ([] : List Int)).bind fun t259 => (if t259 = 2166136261 then ((pack_Put.f ([] : List Int) 1 (-3)).bind fun t260 => (some ((t260.length : Int) == 0))) else (none))) = some r := by rw [if_neg (show ¬ (false = true) by decide)] at H; exact H
                          clear H
                          have H := H1
                          clear H1
                          replace H := Option.bind_eq_some_iff.mp H
                          obtain ⟨t259, A230, H⟩ := H
                          replace H : (if t259 = 2166136261 then ((pack_Put.f ([] : List Int) 1 (-3)).bind fun t260 => (some ((t260.length : Int) == 0))) else (none)) = some r := H
                          have A23 := Aside0.mk A230
                          clear A230
                          by_cases c24 : t259 = 2166136261
                          · rw [if_pos c24] at H
                            have c24b0 : (t259 == 2166136261) = true := beq_iff_eq.mpr c24
                            have c24b1 : (t259 != 2166136261) = false := bne_eq_false_iff_eq.mpr c24
                            clear c24
                            replace H := Option.bind_eq_some_iff.mp H
                            obtain ⟨t260, A250, H⟩ := H
                            replace H : (some ((t260.length : Int) == 0)) = some r := H
                            have A25 := Aside0.mk A250
                            clear A250
                            obtain rfl := Option.some.inj H
                            go_enter Try.func24, Try.ntmps24
                            go_wp2_with (first | ((with_reducible refine gate_dst (N := 11) rfl ?_); (try (refine gate_guard (by rfl) ?_; dsimp only)); refine Kd.R_lit (Kd.int .u8) _ 5 ?hg (N := 11) ?hd (xs := ([9] : List Int)) (inner := [.int .u8 9]) (ok := fun _ => True) (okp := fun _ => True) ?hr ?hp (fun _ hk => hk) trivial (Below.refl _ _) (Nat.le_refl _) (by simp) ?_; (case hd => rfl); (case hg => rfl); (case hr => first | (go_simp; done) | (go_simp; rfl)); (case hp => exact (Reps.one (show Kd.M (Kd.int .u8) _ _ _ 9 [.int .u8 9] from rfl) (Reps.none _ _))); intro v223 w26 ho27 hb hg_ hnew_; clear hg_ hnew_; (first | rw [← Ny222.out] at ho27 | (simp only [Int.reduceToNat] at ho27; rw [← Ny222.out] at ho27)); have n0_ := Aside0.mk (Kd.R_lower ho27 (below_size (by repeat (first | (with_reducible first | exact HB.out | apply below_alloc | apply pw_below_drewN | apply below_drew1) | exact HB.out)))); have n1_ := Aside0.mk (below_step (by repeat (first | (with_reducible first | exact HB.out | apply below_alloc | apply pw_below_drewN | apply below_drew1) | exact HB.out)) hb); clear HB; have HO224 := n0_; have HB := n1_; clear n0_ n1_; clear hb ho27; obtain ⟨Ao28, co28, eo28⟩ := Kd.R_slice HO224.out; subst eo28) | ((with_reducible refine gate_callee (f := 30) rfl ?_); refine goesL_ (some 12) rfl rfl Try.func30 (by kernel_rfl) rfl #[.slice Ao28 y222.length co28, .int .i64 258, .int .i64 2] rfl (by (try simp only [List.map_toArray, List.map_cons, List.map_nil]); first | done | rfl | (simp only [List.length_drop, List.length_take]; rfl)) ?_; (with_reducible refine (pack_Put.calls _ _ y222 258 2 t225 _ ?side1 ?side2 A1.out).mono ?_); (case side1 => repeat (first | exact (Kd.R_reads' HO224.out).2.2 | (with_reducible refine Kd.C_alloc ?_ _) | (with_reducible refine Kd.C_drewN ?_ _) | (with_reducible refine Kd.C_drew ?_))); (case side2 => exact (Kd.R_reads' HO224.out).2.1); rintro e w29 ⟨v226, rfl, ho0, hb⟩; refine ⟨_, rfl, ?_⟩; have n0_ := Aside0.mk (Kd.R_elder' (by (with_reducible repeat (first | apply Kd.R_alloc | apply Kd.R_drewN | apply Kd.R_drew)); exact HO224.out) (Kd.R_base ho0) hb); have n1_ := Aside0.mk (Kd.R_lower (Kd.R_new' ho0 (Kd.R_lt (by (with_reducible repeat (first | apply Kd.R_alloc | apply Kd.R_drewN | apply Kd.R_drew)); exact HO224.out))) (below_size (by repeat (first | (with_reducible first | exact HB.out | apply below_alloc | apply pw_below_drewN | apply below_drew1) | exact HB.out)))); have n2_ := Aside0.mk (below_step (by repeat (first | (with_reducible first | exact HB.out | apply below_alloc | apply pw_below_drewN | apply below_drew1) | exact HB.out)) hb); clear HO224; clear HB; have HO224 := n0_; have HO227 := n1_; have HB := n2_; clear n0_ n1_ n2_; (try clear hb); (try clear hb2); (try clear hk); (try clear hi); (try clear ho0); obtain ⟨Ao30, co30, eo30⟩ := Kd.R_slice HO227.out; subst eo30) | ((with_reducible refine gate_callee (f := 25) rfl ?_); refine goesL_ (some 15) rfl rfl Try.func25 (by kernel_rfl) rfl #[.slice Ao30 t225.length co30, .int .i64 1, .int .i64 2] rfl (by (try simp only [List.map_toArray, List.map_cons, List.map_nil]); first | done | rfl | (simp only [List.length_drop, List.length_take]; rfl)) ?_; (with_reducible refine (pack_Get.calls k _ _ t225 1 2 t228 true _ ?side1 ?side2 A2.out).mono ?_); (case side1 => repeat (first | exact (Kd.R_reads' HO227.out).2.2 | (with_reducible refine Kd.C_alloc ?_ _) | (with_reducible refine Kd.C_drewN ?_ _) | (with_reducible refine Kd.C_drew ?_))); (case side2 => exact (Kd.R_reads' HO227.out).2.1); rintro e w' ⟨rfl, ⟨nd, rfl⟩⟩; refine ⟨_, rfl, ?_⟩) | ((with_reducible refine gate_callee (f := 25) rfl ?_); refine goesL_ (some 20) rfl rfl Try.func25 (by kernel_rfl) rfl #[.slice Ao30 t225.length co30, .int .i64 2, .int .i64 2] rfl (by (try simp only [List.map_toArray, List.map_cons, List.map_nil]); first | done | rfl | (simp only [List.length_drop, List.length_take]; rfl)) ?_; (with_reducible refine (pack_Get.calls k _ _ t225 2 2 t230 false _ ?side1 ?side2 A3.out).mono ?_); (case side1 => repeat (first | exact (Kd.R_reads' HO227.out).2.2 | (with_reducible refine Kd.C_alloc ?_ _) | (with_reducible refine Kd.C_drewN ?_ _) | (with_reducible refine Kd.C_drew ?_))); (case side2 => exact (Kd.R_reads' HO227.out).2.1); rintro e w' ⟨rfl, ⟨nd, rfl⟩⟩; refine ⟨_, rfl, ?_⟩) | ((with_reducible refine gate_dst (N := 23) rfl ?_); (try (refine gate_guard (by rfl) ?_; dsimp only)); refine Kd.R_lit Kd.bool _ 4 ?hg (N := 23) ?hd (xs := ([true, false, false, false, false, false, false, false, true] : List Bool)) (inner := [.bool true, .bool false, .bool false, .bool false, .bool false, .bool false, .bool false, .bool false, .bool true]) (ok := fun _ => True) (okp := fun _ => True) ?hr ?hp (fun _ hk => hk) trivial (Below.refl _ _) (Nat.le_refl _) (by simp) ?_; (case hd => rfl); (case hg => rfl); (case hr => first | (go_simp; done) | (go_simp; rfl)); (case hp => exact (Reps.one (show Kd.M Kd.bool _ _ _ true [.bool true] from rfl) (Reps.one (show Kd.M Kd.bool _ _ _ false [.bool false] from rfl) (Reps.one (show Kd.M Kd.bool _ _ _ false [.bool false] from rfl) (Reps.one (show Kd.M Kd.bool _ _ _ false [.bool false] from rfl) (Reps.one (show Kd.M Kd.bool _ _ _ false [.bool false] from rfl) (Reps.one (show Kd.M Kd.bool _ _ _ false [.bool false] from rfl) (Reps.one (show Kd.M Kd.bool _ _ _ false [.bool false] from rfl) (Reps.one (show Kd.M Kd.bool _ _ _ false [.bool false] from rfl) (Reps.one (show Kd.M Kd.bool _ _ _ true [.bool true] from rfl) (Reps.none _ _))))))))))); intro v233 w31 ho32 hb hg_ hnew_; clear hg_ hnew_; (first | rw [← Ny232.out] at ho32 | (simp only [Int.reduceToNat] at ho32; rw [← Ny232.out] at ho32)); have n0_ := Aside0.mk (Kd.R_below (by (with_reducible repeat (first | apply Kd.R_alloc | apply Kd.R_drewN | apply Kd.R_drew)); exact HO224.out) hb); have n1_ := Aside0.mk (Kd.R_below (by (with_reducible repeat (first | apply Kd.R_alloc | apply Kd.R_drewN | apply Kd.R_drew)); exact HO227.out) hb); have n2_ := Aside0.mk (Kd.R_lower ho32 (below_size (by repeat (first | (with_reducible first | exact HB.out | apply below_alloc | apply pw_below_drewN | apply below_drew1) | exact HB.out)))); have n3_ := Aside0.mk (below_step (by repeat (first | (with_reducible first | exact HB.out | apply below_alloc | apply pw_below_drewN | apply below_drew1) | exact HB.out)) hb); clear HO224; clear HO227; clear HB; have HO224 := n0_; have HO227 := n1_; have HO234 := n2_; have HB := n3_; clear n0_ n1_ n2_ n3_; clear hb ho32; obtain ⟨Ao33, co33, eo33⟩ := Kd.R_slice HO234.out; subst eo33) | ((with_reducible refine gate_callee (f := 34) rfl ?_); refine goesL_ (some 24) rfl rfl Try.func34 (by kernel_rfl) rfl #[.slice Ao33 y232.length co33] rfl (by (try simp only [List.map_toArray, List.map_cons, List.map_nil]); first | done | rfl | (simp only [List.length_drop, List.length_take]; rfl)) ?_; (with_reducible refine (pack_Bits.calls k _ _ y232 t235 _ ?side1 ?side2 A4.out).mono ?_); (case side1 => repeat (first | exact (Kd.R_reads' HO234.out).2.2 | (with_reducible refine Kd.C_alloc ?_ _) | (with_reducible refine Kd.C_drewN ?_ _) | (with_reducible refine Kd.C_drew ?_))); (case side2 => exact (Kd.R_reads' HO234.out).2.1); rintro e w34 ⟨v236, rfl, ho0, hb⟩; refine ⟨_, rfl, ?_⟩; have n0_ := Aside0.mk (Kd.R_elder' (by (with_reducible repeat (first | apply Kd.R_alloc | apply Kd.R_drewN | apply Kd.R_drew)); exact HO224.out) (Kd.R_base ho0) hb); have n1_ := Aside0.mk (Kd.R_elder' (by (with_reducible repeat (first | apply Kd.R_alloc | apply Kd.R_drewN | apply Kd.R_drew)); exact HO227.out) (Kd.R_base ho0) hb); have n2_ := Aside0.mk (Kd.R_below (by (with_reducible repeat (first | apply Kd.R_alloc | apply Kd.R_drewN | apply Kd.R_drew)); exact HO234.out) hb); have n3_ := Aside0.mk (Kd.R_lower (Kd.R_new' (Kd.R_new' ho0 (Kd.R_lt (by (with_reducible repeat (first | apply Kd.R_alloc | apply Kd.R_drewN | apply Kd.R_drew)); exact HO224.out))) (Kd.R_lt (by (with_reducible repeat (first | apply Kd.R_alloc | apply Kd.R_drewN | apply Kd.R_drew)); exact HO227.out))) (below_size (by repeat (first | (with_reducible first | exact HB.out | apply below_alloc | apply pw_below_drewN | apply below_drew1) | exact HB.out)))); have n4_ := Aside0.mk (below_step (by repeat (first | (with_reducible first | exact HB.out | apply below_alloc | apply pw_below_drewN | apply below_drew1) | exact HB.out)) hb); clear HO224; clear HO227; clear HO234; clear HB; have HO224 := n0_; have HO227 := n1_; have HO234 := n2_; have HO237 := n3_; have HB := n4_; clear n0_ n1_ n2_ n3_ n4_; (try clear hb); (try clear hb2); (try clear hk); (try clear hi); (try clear ho0); obtain ⟨Ao35, co35, eo35⟩ := Kd.R_slice HO237.out; subst eo35) | ((with_reducible refine gate_callee (f := 27) rfl ?_); refine goesL_ (some 27) rfl rfl Try.func27 (by kernel_rfl) rfl #[.slice Ao35 t235.length co35, .int .i64 9] rfl (by (try simp only [List.map_toArray, List.map_cons, List.map_nil]); first | done | rfl | (simp only [List.length_drop, List.length_take]; rfl)) ?_; (with_reducible refine (pack_Unbits.calls k _ _ t235 9 t238 true _ ?side1 ?side2 A5.out).mono ?_); (case side1 => repeat (first | exact (Kd.R_reads' HO237.out).2.2 | (with_reducible refine Kd.C_alloc ?_ _) | (with_reducible refine Kd.C_drewN ?_ _) | (with_reducible refine Kd.C_drew ?_))); (case side2 => exact (Kd.R_reads' HO237.out).2.1); rintro e w36 ⟨v240, rfl, ho0, hb⟩; refine ⟨_, rfl, ?_⟩; have n0_ := Aside0.mk (Kd.R_below (by (with_reducible repeat (first | apply Kd.R_alloc | apply Kd.R_drewN | apply Kd.R_drew)); exact HO224.out) hb); have n1_ := Aside0.mk (Kd.R_below (by (with_reducible repeat (first | apply Kd.R_alloc | apply Kd.R_drewN | apply Kd.R_drew)); exact HO227.out) hb); have n2_ := Aside0.mk (Kd.R_elder' (by (with_reducible repeat (first | apply Kd.R_alloc | apply Kd.R_drewN | apply Kd.R_drew)); exact HO234.out) (Kd.R_base ho0) hb); have n3_ := Aside0.mk (Kd.R_below (by (with_reducible repeat (first | apply Kd.R_alloc | apply Kd.R_drewN | apply Kd.R_drew)); exact HO237.out) hb); have n4_ := Aside0.mk (Kd.R_lower (Kd.R_new' ho0 (Kd.R_lt (by (with_reducible repeat (first | apply Kd.R_alloc | apply Kd.R_drewN | apply Kd.R_drew)); exact HO234.out))) (below_size (by repeat (first | (with_reducible first | exact HB.out | apply below_alloc | apply pw_below_drewN | apply below_drew1) | exact HB.out)))); have n5_ := Aside0.mk (below_step (by repeat (first | (with_reducible first | exact HB.out | apply below_alloc | apply pw_below_drewN | apply below_drew1) | exact HB.out)) hb); clear HO224; clear HO227; clear HO234; clear HO237; clear HB; have HO224 := n0_; have HO227 := n1_; have HO234 := n2_; have HO237 := n3_; have HO241 := n4_; have HB := n5_; clear n0_ n1_ n2_ n3_ n4_ n5_; (try clear hb); (try clear hb2); (try clear hk); (try clear hi); (try clear ho0)) | ((with_reducible refine gate_dst (N := 31) rfl ?_); (try (refine gate_guard (by rfl) ?_; dsimp only)); refine Kd.R_lit (Kd.int .u8) _ 5 ?hg (N := 31) ?hd (xs := ([2] : List Int)) (inner := [.int .u8 2]) (ok := fun _ => True) (okp := fun _ => True) ?hr ?hp (fun _ hk => hk) trivial (Below.refl _ _) (Nat.le_refl _) (by simp) ?_; (case hd => rfl); (case hg => rfl); (case hr => first | (go_simp; done) | (go_simp; rfl)); (case hp => exact (Reps.one (show Kd.M (Kd.int .u8) _ _ _ 2 [.int .u8 2] from rfl) (Reps.none _ _))); intro v243 w37 ho38 hb hg_ hnew_; clear hg_ hnew_; (first | rw [← Ny242.out] at ho38 | (simp only [Int.reduceToNat] at ho38; rw [← Ny242.out] at ho38)); have n0_ := Aside0.mk (Kd.R_elder' (by (with_reducible repeat (first | apply Kd.R_alloc | apply Kd.R_drewN | apply Kd.R_drew)); exact HO224.out) (Kd.R_base ho38) hb); have n1_ := Aside0.mk (Kd.R_elder' (by (with_reducible repeat (first | apply Kd.R_alloc | apply Kd.R_drewN | apply Kd.R_drew)); exact HO227.out) (Kd.R_base ho38) hb); have n2_ := Aside0.mk (Kd.R_below (by (with_reducible repeat (first | apply Kd.R_alloc | apply Kd.R_drewN | apply Kd.R_drew)); exact HO234.out) hb); have n3_ := Aside0.mk (Kd.R_elder' (by (with_reducible repeat (first | apply Kd.R_alloc | apply Kd.R_drewN | apply Kd.R_drew)); exact HO237.out) (Kd.R_base ho38) hb); have n4_ := Aside0.mk (Kd.R_below (by (with_reducible repeat (first | apply Kd.R_alloc | apply Kd.R_drewN | apply Kd.R_drew)); exact HO241.out) hb); have n5_ := Aside0.mk (Kd.R_lower (Kd.R_new' (Kd.R_new' (Kd.R_new' ho38 (Kd.R_lt (by (with_reducible repeat (first | apply Kd.R_alloc | apply Kd.R_drewN | apply Kd.R_drew)); exact HO224.out))) (Kd.R_lt (by (with_reducible repeat (first | apply Kd.R_alloc | apply Kd.R_drewN | apply Kd.R_drew)); exact HO227.out))) (Kd.R_lt (by (with_reducible repeat (first | apply Kd.R_alloc | apply Kd.R_drewN | apply Kd.R_drew)); exact HO237.out))) (below_size (by repeat (first | (with_reducible first | exact HB.out | apply below_alloc | apply pw_below_drewN | apply below_drew1) | exact HB.out)))); have n6_ := Aside0.mk (below_step (by repeat (first | (with_reducible first | exact HB.out | apply below_alloc | apply pw_below_drewN | apply below_drew1) | exact HB.out)) hb); clear HO224; clear HO227; clear HO234; clear HO237; clear HO241; clear HB; have HO224 := n0_; have HO227 := n1_; have HO234 := n2_; have HO237 := n3_; have HO241 := n4_; have HO244 := n5_; have HB := n6_; clear n0_ n1_ n2_ n3_ n4_ n5_ n6_; clear hb ho38; obtain ⟨Ao39, co39, eo39⟩ := Kd.R_slice HO244.out; subst eo39) | ((with_reducible refine gate_callee (f := 27) rfl ?_); refine goesL_ (some 32) rfl rfl Try.func27 (by kernel_rfl) rfl #[.slice Ao39 y242.length co39, .int .i64 1] rfl (by (try simp only [List.map_toArray, List.map_cons, List.map_nil]); first | done | rfl | (simp only [List.length_drop, List.length_take]; rfl)) ?_; (with_reducible refine (pack_Unbits.calls k _ _ y242 1 t245 false _ ?side1 ?side2 A6.out).mono ?_); (case side1 => repeat (first | exact (Kd.R_reads' HO244.out).2.2 | (with_reducible refine Kd.C_alloc ?_ _) | (with_reducible refine Kd.C_drewN ?_ _) | (with_reducible refine Kd.C_drew ?_))); (case side2 => exact (Kd.R_reads' HO244.out).2.1); rintro e w40 ⟨v247, rfl, ho0, hb⟩; refine ⟨_, rfl, ?_⟩; have n0_ := Aside0.mk (Kd.R_below (by (with_reducible repeat (first | apply Kd.R_alloc | apply Kd.R_drewN | apply Kd.R_drew)); exact HO224.out) hb); have n1_ := Aside0.mk (Kd.R_below (by (with_reducible repeat (first | apply Kd.R_alloc | apply Kd.R_drewN | apply Kd.R_drew)); exact HO227.out) hb); have n2_ := Aside0.mk (Kd.R_elder' (by (with_reducible repeat (first | apply Kd.R_alloc | apply Kd.R_drewN | apply Kd.R_drew)); exact HO234.out) (Kd.R_base ho0) hb); have n3_ := Aside0.mk (Kd.R_below (by (with_reducible repeat (first | apply Kd.R_alloc | apply Kd.R_drewN | apply Kd.R_drew)); exact HO237.out) hb); have n4_ := Aside0.mk (Kd.R_elder' (by (with_reducible repeat (first | apply Kd.R_alloc | apply Kd.R_drewN | apply Kd.R_drew)); exact HO241.out) (Kd.R_base ho0) hb); have n5_ := Aside0.mk (Kd.R_below (by (with_reducible repeat (first | apply Kd.R_alloc | apply Kd.R_drewN | apply Kd.R_drew)); exact HO244.out) hb); have n6_ := Aside0.mk (Kd.R_lower (Kd.R_new' (Kd.R_new' ho0 (Kd.R_lt (by (with_reducible repeat (first | apply Kd.R_alloc | apply Kd.R_drewN | apply Kd.R_drew)); exact HO234.out))) (Kd.R_lt (by (with_reducible repeat (first | apply Kd.R_alloc | apply Kd.R_drewN | apply Kd.R_drew)); exact HO241.out))) (below_size (by repeat (first | (with_reducible first | exact HB.out | apply below_alloc | apply pw_below_drewN | apply below_drew1) | exact HB.out)))); have n7_ := Aside0.mk (below_step (by repeat (first | (with_reducible first | exact HB.out | apply below_alloc | apply pw_below_drewN | apply below_drew1) | exact HB.out)) hb); clear HO224; clear HO227; clear HO234; clear HO237; clear HO241; clear HO244; clear HB; have HO224 := n0_; have HO227 := n1_; have HO234 := n2_; have HO237 := n3_; have HO241 := n4_; have HO244 := n5_; have HO248 := n6_; have HB := n7_; clear n0_ n1_ n2_ n3_ n4_ n5_ n6_ n7_; (try clear hb); (try clear hb2); (try clear hk); (try clear hi); (try clear ho0)) | ((with_reducible refine gate_dst (N := 36) rfl ?_); (try (refine gate_guard (by rfl) ?_; dsimp only)); refine Kd.R_lit (Kd.int .u8) _ 5 ?hg (N := 36) ?hd (xs := ([9, 1, 2] : List Int)) (inner := [.int .u8 9, .int .u8 1, .int .u8 2]) (ok := fun _ => True) (okp := fun _ => True) ?hr ?hp (fun _ hk => hk) trivial (Below.refl _ _) (Nat.le_refl _) (by simp) ?_; (case hd => rfl); (case hg => rfl); (case hr => first | (go_simp; done) | (go_simp; rfl)); (case hp => exact (Reps.one (show Kd.M (Kd.int .u8) _ _ _ 9 [.int .u8 9] from rfl) (Reps.one (show Kd.M (Kd.int .u8) _ _ _ 1 [.int .u8 1] from rfl) (Reps.one (show Kd.M (Kd.int .u8) _ _ _ 2 [.int .u8 2] from rfl) (Reps.none _ _))))); intro v250 w41 ho42 hb hg_ hnew_; clear hg_ hnew_; (first | rw [← Ny249.out] at ho42 | (simp only [Int.reduceToNat] at ho42; rw [← Ny249.out] at ho42)); have n0_ := Aside0.mk (Kd.R_elder' (by (with_reducible repeat (first | apply Kd.R_alloc | apply Kd.R_drewN | apply Kd.R_drew)); exact HO224.out) (Kd.R_base ho42) hb); have n1_ := Aside0.mk (Kd.R_elder' (by (with_reducible repeat (first | apply Kd.R_alloc | apply Kd.R_drewN | apply Kd.R_drew)); exact HO227.out) (Kd.R_base ho42) hb); have n2_ := Aside0.mk (Kd.R_below (by (with_reducible repeat (first | apply Kd.R_alloc | apply Kd.R_drewN | apply Kd.R_drew)); exact HO234.out) hb); have n3_ := Aside0.mk (Kd.R_elder' (by (with_reducible repeat (first | apply Kd.R_alloc | apply Kd.R_drewN | apply Kd.R_drew)); exact HO237.out) (Kd.R_base ho42) hb); have n4_ := Aside0.mk (Kd.R_below (by (with_reducible repeat (first | apply Kd.R_alloc | apply Kd.R_drewN | apply Kd.R_drew)); exact HO241.out) hb); have n5_ := Aside0.mk (Kd.R_elder' (by (with_reducible repeat (first | apply Kd.R_alloc | apply Kd.R_drewN | apply Kd.R_drew)); exact HO244.out) (Kd.R_base ho42) hb); have n6_ := Aside0.mk (Kd.R_below (by (with_reducible repeat (first | apply Kd.R_alloc | apply Kd.R_drewN | apply Kd.R_drew)); exact HO248.out) hb); have n7_ := Aside0.mk (Kd.R_lower (Kd.R_new' (Kd.R_new' (Kd.R_new' (Kd.R_new' ho42 (Kd.R_lt (by (with_reducible repeat (first | apply Kd.R_alloc | apply Kd.R_drewN | apply Kd.R_drew)); exact HO224.out))) (Kd.R_lt (by (with_reducible repeat (first | apply Kd.R_alloc | apply Kd.R_drewN | apply Kd.R_drew)); exact HO227.out))) (Kd.R_lt (by (with_reducible repeat (first | apply Kd.R_alloc | apply Kd.R_drewN | apply Kd.R_drew)); exact HO237.out))) (Kd.R_lt (by (with_reducible repeat (first | apply Kd.R_alloc | apply Kd.R_drewN | apply Kd.R_drew)); exact HO244.out))) (below_size (by repeat (first | (with_reducible first | exact HB.out | apply below_alloc | apply pw_below_drewN | apply below_drew1) | exact HB.out)))); have n8_ := Aside0.mk (below_step (by repeat (first | (with_reducible first | exact HB.out | apply below_alloc | apply pw_below_drewN | apply below_drew1) | exact HB.out)) hb); clear HO224; clear HO227; clear HO234; clear HO237; clear HO241; clear HO244; clear HO248; clear HB; have HO224 := n0_; have HO227 := n1_; have HO234 := n2_; have HO237 := n3_; have HO241 := n4_; have HO244 := n5_; have HO248 := n6_; have HO251 := n7_; have HB := n8_; clear n0_ n1_ n2_ n3_ n4_ n5_ n6_ n7_ n8_; clear hb ho42; obtain ⟨Ao43, co43, eo43⟩ := Kd.R_slice HO251.out; subst eo43) | ((with_reducible refine gate_callee (f := 29) rfl ?_); refine goesL_ (some 37) rfl rfl Try.func29 (by kernel_rfl) rfl #[.slice Ao30 t225.length co30, .slice Ao43 y249.length co43] rfl (by (try simp only [List.map_toArray, List.map_cons, List.map_nil]); first | done | rfl | (simp only [List.length_drop, List.length_take]; rfl)) ?_; (with_reducible refine (caesurakeep_Bytes.calls _ _ t225 _ _ y249 true _ ?side1 ?side2 ?side3 ?side4 A7.out).mono ?_); (case side1 => repeat (first | exact (Kd.R_reads' HO227.out).2.2 | (with_reducible refine Kd.C_alloc ?_ _) | (with_reducible refine Kd.C_drewN ?_ _) | (with_reducible refine Kd.C_drew ?_))); (case side2 => exact (Kd.R_reads' HO227.out).2.1); (case side3 => repeat (first | exact (Kd.R_reads' HO251.out).2.2 | (with_reducible refine Kd.C_alloc ?_ _) | (with_reducible refine Kd.C_drewN ?_ _) | (with_reducible refine Kd.C_drew ?_))); (case side4 => exact (Kd.R_reads' HO251.out).2.1); rintro e w' ⟨rfl, ⟨nd, rfl⟩⟩; refine ⟨_, rfl, ?_⟩) | ((with_reducible refine gate_dst (N := 51) rfl ?_); (try (refine gate_guard (by rfl) ?_; dsimp only)); refine Kd.R_lit (Kd.int .u8) _ 5 ?hg (N := 51) ?hd (xs := ([1, 1] : List Int)) (inner := [.int .u8 1, .int .u8 1]) (ok := fun _ => True) (okp := fun _ => True) ?hr ?hp (fun _ hk => hk) trivial (Below.refl _ _) (Nat.le_refl _) (by simp) ?_; (case hd => rfl); (case hg => rfl); (case hr => first | (go_simp; done) | (go_simp; rfl)); (case hp => exact (Reps.one (show Kd.M (Kd.int .u8) _ _ _ 1 [.int .u8 1] from rfl) (Reps.one (show Kd.M (Kd.int .u8) _ _ _ 1 [.int .u8 1] from rfl) (Reps.none _ _)))); intro v254 w44 ho45 hb hg_ hnew_; clear hg_ hnew_; (first | rw [← Ny253.out] at ho45 | (simp only [Int.reduceToNat] at ho45; rw [← Ny253.out] at ho45)); have n0_ := Aside0.mk (Kd.R_elder' (by (with_reducible repeat (first | apply Kd.R_alloc | apply Kd.R_drewN | apply Kd.R_drew)); exact HO224.out) (Kd.R_base ho45) hb); have n1_ := Aside0.mk (Kd.R_elder' (by (with_reducible repeat (first | apply Kd.R_alloc | apply Kd.R_drewN | apply Kd.R_drew)); exact HO227.out) (Kd.R_base ho45) hb); have n2_ := Aside0.mk (Kd.R_below (by (with_reducible repeat (first | apply Kd.R_alloc | apply Kd.R_drewN | apply Kd.R_drew)); exact HO234.out) hb); have n3_ := Aside0.mk (Kd.R_elder' (by (with_reducible repeat (first | apply Kd.R_alloc | apply Kd.R_drewN | apply Kd.R_drew)); exact HO237.out) (Kd.R_base ho45) hb); have n4_ := Aside0.mk (Kd.R_below (by (with_reducible repeat (first | apply Kd.R_alloc | apply Kd.R_drewN | apply Kd.R_drew)); exact HO241.out) hb); have n5_ := Aside0.mk (Kd.R_elder' (by (with_reducible repeat (first | apply Kd.R_alloc | apply Kd.R_drewN | apply Kd.R_drew)); exact HO244.out) (Kd.R_base ho45) hb); have n6_ := Aside0.mk (Kd.R_below (by (with_reducible repeat (first | apply Kd.R_alloc | apply Kd.R_drewN | apply Kd.R_drew)); exact HO248.out) hb); have n7_ := Aside0.mk (Kd.R_elder' (by (with_reducible repeat (first | apply Kd.R_alloc | apply Kd.R_drewN | apply Kd.R_drew)); exact HO251.out) (Kd.R_base ho45) hb); have n8_ := Aside0.mk (Kd.R_lower (Kd.R_new' (Kd.R_new' (Kd.R_new' (Kd.R_new' (Kd.R_new' ho45 (Kd.R_lt (by (with_reducible repeat (first | apply Kd.R_alloc | apply Kd.R_drewN | apply Kd.R_drew)); exact HO224.out))) (Kd.R_lt (by (with_reducible repeat (first | apply Kd.R_alloc | apply Kd.R_drewN | apply Kd.R_drew)); exact HO227.out))) (Kd.R_lt (by (with_reducible repeat (first | apply Kd.R_alloc | apply Kd.R_drewN | apply Kd.R_drew)); exact HO237.out))) (Kd.R_lt (by (with_reducible repeat (first | apply Kd.R_alloc | apply Kd.R_drewN | apply Kd.R_drew)); exact HO244.out))) (Kd.R_lt (by (with_reducible repeat (first | apply Kd.R_alloc | apply Kd.R_drewN | apply Kd.R_drew)); exact HO251.out))) (below_size (by repeat (first | (with_reducible first | exact HB.out | apply below_alloc | apply pw_below_drewN | apply below_drew1) | exact HB.out)))); have n9_ := Aside0.mk (below_step (by repeat (first | (with_reducible first | exact HB.out | apply below_alloc | apply pw_below_drewN | apply below_drew1) | exact HB.out)) hb); clear HO224; clear HO227; clear HO234; clear HO237; clear HO241; clear HO244; clear HO248; clear HO251; clear HB; have HO224 := n0_; have HO227 := n1_; have HO234 := n2_; have HO237 := n3_; have HO241 := n4_; have HO244 := n5_; have HO248 := n6_; have HO251 := n7_; have HO255 := n8_; have HB := n9_; clear n0_ n1_ n2_ n3_ n4_ n5_ n6_ n7_ n8_ n9_; clear hb ho45; obtain ⟨Ao46, co46, eo46⟩ := Kd.R_slice HO255.out; subst eo46) | (go_at_call 29; (with_reducible refine (caesurakeep_Bytes.calls _ _ t235 _ _ y253 true _ ?side1 ?side2 ?side3 ?side4 A12.out).mono ?_); (case side1 => repeat (first | exact (Kd.R_reads' HO237.out).2.2 | (with_reducible refine Kd.C_alloc ?_ _) | (with_reducible refine Kd.C_drewN ?_ _) | (with_reducible refine Kd.C_drew ?_))); (case side2 => exact (Kd.R_reads' HO237.out).2.1); (case side3 => repeat (first | exact (Kd.R_reads' HO255.out).2.2 | (with_reducible refine Kd.C_alloc ?_ _) | (with_reducible refine Kd.C_drewN ?_ _) | (with_reducible refine Kd.C_drew ?_))); (case side4 => exact (Kd.R_reads' HO255.out).2.1); rintro e w' ⟨rfl, ⟨nd, rfl⟩⟩; obtain ⟨Ao47, co47, eo47⟩ := Kd.R_slice HO241.out; subst eo47; have p257 : 0 ≤ (8 : Int) := (by omega); have q257 : 8 < (t238.length : Int) := of_decide_eq_true (by first | (with_reducible assumption) | assumption); obtain ⟨ad257, e257, hx257_0⟩ := Kd.at_bool (Kd.R_reads' HO241.out).2.2 8 p257 q257; (try rw [← Nbq17.out] at hx257_0); (try rw [← Nbq20.out] at hx257_0); cases e257; (try simp only [show (8 : Int).toNat = 8 from rfl, Nat.reduceMul, Nat.reduceEqDiff, Go.Addr.add, ↓reduceIte] at hx257_0); have qi257 : (8 < t238.length) = True := eq_true (by omega); (try rw [show ((8 : Int)).toNat = 8 from rfl] at hx257_0); replace p257 := eq_true p257; replace q257 := eq_true q257; have p258 : 0 ≤ (1 : Int) := (by omega); have q258 : 1 < (t238.length : Int) := of_decide_eq_true (by first | (with_reducible assumption) | assumption); obtain ⟨ad258, e258, hx258_0⟩ := Kd.at_bool (Kd.R_reads' HO241.out).2.2 1 p258 q258; (try rw [← Nbq17.out] at hx258_0); (try rw [← Nbq20.out] at hx258_0); obtain rfl : ad257 = ad258 := (by injection e258); (try simp only [show (1 : Int).toNat = 1 from rfl, Nat.reduceMul, Nat.reduceEqDiff, Go.Addr.add, ↓reduceIte] at hx258_0); have qi258 : (1 < t238.length) = True := eq_true (by omega); (try rw [show ((1 : Int)).toNat = 1 from rfl] at hx258_0); replace p258 := eq_true p258; replace q258 := eq_true q258) | (go_at_call 32; (refine (pack_Sum.calls k _ _ ([] : List Int) t259 _ ?side1 ?side2 A23.out).mono ?_); (case side1 => exact Kd.C_nil _ _); (case side2 => exact Nat.le_refl _); rintro e w' ⟨rfl, ⟨nd, rfl⟩⟩) | (go_at_call 30; (refine (pack_Put.calls _ _ ([] : List Int) 1 (-3) t260 _ ?side1 ?side2 A25.out).mono ?_); (case side1 => exact Kd.C_nil _ _); (case side2 => exact Nat.le_refl _); rintro e w48 ⟨v261, rfl, ho0, hb⟩; have n0_ := Aside0.mk (Kd.R_elder' (by (with_reducible repeat (first | apply Kd.R_alloc | apply Kd.R_drewN | apply Kd.R_drew)); exact HO224.out) (Kd.R_base ho0) hb); have n1_ := Aside0.mk (Kd.R_elder' (by (with_reducible repeat (first | apply Kd.R_alloc | apply Kd.R_drewN | apply Kd.R_drew)); exact HO227.out) (Kd.R_base ho0) hb); have n2_ := Aside0.mk (Kd.R_below (by (with_reducible repeat (first | apply Kd.R_alloc | apply Kd.R_drewN | apply Kd.R_drew)); exact HO234.out) hb); have n3_ := Aside0.mk (Kd.R_elder' (by (with_reducible repeat (first | apply Kd.R_alloc | apply Kd.R_drewN | apply Kd.R_drew)); exact HO237.out) (Kd.R_base ho0) hb); have n4_ := Aside0.mk (Kd.R_below (by (with_reducible repeat (first | apply Kd.R_alloc | apply Kd.R_drewN | apply Kd.R_drew)); exact HO241.out) hb); have n5_ := Aside0.mk (Kd.R_elder' (by (with_reducible repeat (first | apply Kd.R_alloc | apply Kd.R_drewN | apply Kd.R_drew)); exact HO244.out) (Kd.R_base ho0) hb); have n6_ := Aside0.mk (Kd.R_below (by (with_reducible repeat (first | apply Kd.R_alloc | apply Kd.R_drewN | apply Kd.R_drew)); exact HO248.out) hb); have n7_ := Aside0.mk (Kd.R_elder' (by (with_reducible repeat (first | apply Kd.R_alloc | apply Kd.R_drewN | apply Kd.R_drew)); exact HO251.out) (Kd.R_base ho0) hb); have n8_ := Aside0.mk (Kd.R_elder' (by (with_reducible repeat (first | apply Kd.R_alloc | apply Kd.R_drewN | apply Kd.R_drew)); exact HO255.out) (Kd.R_base ho0) hb); have n9_ := Aside0.mk (Kd.R_lower (Kd.R_new' (Kd.R_new' (Kd.R_new' (Kd.R_new' (Kd.R_new' (Kd.R_new' ho0 (Kd.R_lt (by (with_reducible repeat (first | apply Kd.R_alloc | apply Kd.R_drewN | apply Kd.R_drew)); exact HO224.out))) (Kd.R_lt (by (with_reducible repeat (first | apply Kd.R_alloc | apply Kd.R_drewN | apply Kd.R_drew)); exact HO227.out))) (Kd.R_lt (by (with_reducible repeat (first | apply Kd.R_alloc | apply Kd.R_drewN | apply Kd.R_drew)); exact HO237.out))) (Kd.R_lt (by (with_reducible repeat (first | apply Kd.R_alloc | apply Kd.R_drewN | apply Kd.R_drew)); exact HO244.out))) (Kd.R_lt (by (with_reducible repeat (first | apply Kd.R_alloc | apply Kd.R_drewN | apply Kd.R_drew)); exact HO251.out))) (Kd.R_lt (by (with_reducible repeat (first | apply Kd.R_alloc | apply Kd.R_drewN | apply Kd.R_drew)); exact HO255.out))) (below_size (by repeat (first | (with_reducible first | exact HB.out | apply below_alloc | apply pw_below_drewN | apply below_drew1) | exact HB.out)))); have n10_ := Aside0.mk (below_step (by repeat (first | (with_reducible first | exact HB.out | apply below_alloc | apply pw_below_drewN | apply below_drew1) | exact HB.out)) hb); clear HO224; clear HO227; clear HO234; clear HO237; clear HO241; clear HO244; clear HO248; clear HO251; clear HO255; clear HB; have HO224 := n0_; have HO227 := n1_; have HO234 := n2_; have HO237 := n3_; have HO241 := n4_; have HO244 := n5_; have HO248 := n6_; have HO251 := n7_; have HO255 := n8_; have HO262 := n9_; have HB := n10_; clear n0_ n1_ n2_ n3_ n4_ n5_ n6_ n7_ n8_ n9_ n10_; (try clear hb); (try clear hb2); (try clear hk); (try clear hi); (try clear ho0); obtain ⟨Ao49, co49, eo49⟩ := Kd.R_slice HO262.out; subst eo49))
                            go_ret
                            exact ⟨by first | rfl | (simp [errW_none, errW_some] <;> rfl) | (simp [*, errW_none, errW_some] <;> rfl), by repeat (first | (with_reducible first | exact HB.out | apply below_alloc | apply pw_below_drewN | apply below_drew1) | exact HB.out)⟩
                          · rw [if_neg c24] at H
                            exact absurd H (by simp)
                    · rw [if_neg c19] at H
                      exact absurd H (by simp)
                  · replace c18 := Bool.eq_false_iff.mpr c18
                    subst c18
                    have H1 : (none) = some r := by rw [if_neg (show ¬ (false = true) by decide)] at H; exact H
                    clear H
                    have H := H1
                    clear H1
                    exact absurd H (by simp)
                · rw [if_neg c16] at H
                  exact absurd H (by simp)
              · rw [if_neg c15] at H
                exact absurd H (by simp)
            · replace c14 := Bool.eq_false_iff.mpr c14
              subst c14
              have H1 : (none) = some r := by rw [if_neg (show ¬ (false = true) by decide)] at H; exact H
              clear H
              have H := H1
              clear H1
              exact absurd H (by simp)
          · replace c13 := Bool.eq_false_iff.mpr c13
            subst c13
            have H1 : (none) = some r := by rw [if_neg (show ¬ (false = true) by decide)] at H; exact H
            clear H
            have H := H1
            clear H1
            exact absurd H (by simp)
      · rw [if_neg c10] at H
        exact absurd H (by simp)
    · replace c9 := Bool.eq_false_iff.mpr c9
      subst c9
      have H1 : (none) = some r := by rw [if_neg (show ¬ (false = true) by decide)] at H; exact H
      clear H
      have H := H1
      clear H1
      exact absurd H (by simp)
  · replace c8 := Bool.eq_false_iff.mpr c8
    subst c8
    have H1 : (none) = some r := by rw [if_neg (show ¬ (false = true) by decide)] at H; exact H
    clear H
    have H := H1
    clear H1
    exact absurd H (by simp)

/-! ### caesuraref05_Get: function 26 -/
mutual
def caesuraref05_Get.j0 : Nat → List Int → Int → Int → Bool → Option (Int × Bool)
  | 0, _, _, _, _ => none
  | k + 1, x0, x1, x2, x26 => if x26 = true then (some (0, false)) else (caesuraref05_Get.l0 k x0 x1 x2 0 0)
def caesuraref05_Get.l0 : Nat → List Int → Int → Int → Int → Int → Option (Int × Bool)
  | 0, _, _, _, _, _ => none
  | k + 1, x0, x1, x2, x7, x8 => if x8 < x2 then (if 0 ≤ (wrap64 (x1 + x8)) then (if (wrap64 (x1 + x8)) < (x0.length : Int) then (caesuraref05_Get.l0 k x0 x1 x2 (wrap64 ((wrap64 (x7 * 256)) + (wrap64 (rd x0 (wrap64 (x1 + x8)))))) (wrap64 (x8 + 1))) else (none)) else (none)) else (some (x7, true))
end
def caesuraref05_Get.f (k : Nat) (l0 : List Int) (a1 : Int) (a2 : Int) : Option (Int × Bool) := if a2 < 1 then (caesuraref05_Get.j0 k l0 a1 a2 true) else (if a2 > 4 then (caesuraref05_Get.j0 k l0 a1 a2 true) else (if a1 < 0 then (caesuraref05_Get.j0 k l0 a1 a2 true) else (caesuraref05_Get.j0 k l0 a1 a2 (decide (a1 > (wrap64 ((l0.length : Int) - a2)))))))
theorem caesuraref05_Get.mono_l : ∀ k, (∀ y0 y1 y2 y3, LeO (caesuraref05_Get.j0 k y0 y1 y2 y3) (caesuraref05_Get.j0 (k + 1) y0 y1 y2 y3)) ∧ (∀ y0 y1 y2 y3 y4, LeO (caesuraref05_Get.l0 k y0 y1 y2 y3 y4) (caesuraref05_Get.l0 (k + 1) y0 y1 y2 y3 y4))
  | 0 => ⟨fun _ _ _ _ r h => by simp [caesuraref05_Get.j0] at h, fun _ _ _ _ _ r h => by simp [caesuraref05_Get.l0] at h⟩
  | k + 1 => by
    obtain ⟨ih0, ih1⟩ := caesuraref05_Get.mono_l k
    refine ⟨?_, ?_⟩
    · intro y0 y1 y2 y3
      unfold caesuraref05_Get.j0
      repeat' first
      | (with_reducible exact ih0 _ _ _ _)
      | (with_reducible exact ih1 _ _ _ _ _)
      | (with_reducible exact LeO.refl _)
      | (with_reducible exact LeO.none _)
      | (with_reducible refine LeO.ite ?_ ?_)
      | (with_reducible refine LeO.bind ?_ (fun _ => ?_))
      | exact ih0 _ _ _ _
      | exact ih1 _ _ _ _ _
      | exact LeO.none _
      | refine LeO.ite ?_ ?_
      | refine LeO.bind ?_ (fun _ => ?_)
    · intro y0 y1 y2 y3 y4
      unfold caesuraref05_Get.l0
      repeat' first
      | (with_reducible exact ih0 _ _ _ _)
      | (with_reducible exact ih1 _ _ _ _ _)
      | (with_reducible exact LeO.refl _)
      | (with_reducible exact LeO.none _)
      | (with_reducible refine LeO.ite ?_ ?_)
      | (with_reducible refine LeO.bind ?_ (fun _ => ?_))
      | exact ih0 _ _ _ _
      | exact ih1 _ _ _ _ _
      | exact LeO.none _
      | refine LeO.ite ?_ ?_
      | refine LeO.bind ?_ (fun _ => ?_)
theorem caesuraref05_Get.mono : ∀ a0 a1 a2 k, LeO (caesuraref05_Get.f k a0 a1 a2) (caesuraref05_Get.f (k + 1) a0 a1 a2) := by
  intro a0 a1 a2 k
  obtain ⟨ih0, ih1⟩ := caesuraref05_Get.mono_l k
  unfold caesuraref05_Get.f
  repeat' first
      | (with_reducible exact ih0 _ _ _ _)
      | (with_reducible exact ih1 _ _ _ _ _)
      | (with_reducible exact LeO.refl _)
      | (with_reducible exact LeO.none _)
      | (with_reducible refine LeO.ite ?_ ?_)
      | (with_reducible refine LeO.bind ?_ (fun _ => ?_))
      | exact ih0 _ _ _ _
      | exact ih1 _ _ _ _ _
      | exact LeO.none _
      | refine LeO.ite ?_ ?_
      | refine LeO.bind ?_ (fun _ => ?_)
set_option maxHeartbeats 8000000 in
set_option maxRecDepth 100000 in
theorem caesuraref05_Get.calls (k : Nat) (A0 : Option Addr) (c0 : Nat) (l0 : List Int) (a1 : Int) (a2 : Int) (r1 : Int) (r2 : Bool) (w : World) (hr0 : Kd.C (Kd.int .u8) w A0 l0.length l0) (hc0 : l0.length ≤ c0) (h : caesuraref05_Get.f k l0 a1 a2 = some (r1, r2)) :
    Calls Try.prog 26 #[.slice A0 l0.length c0, .int .i64 a1, .int .i64 a2] w fun e w' => e = .returned (.agg #[.int .i64 r1, .bool r2]) ∧ Below w.heap.size w w' := by
  have hu38 := Try.underlying38
  have HR0 := Aside0.mk hr0
  have HC0 := Aside0.mk hc0
  clear hr0 hc0
  have HB := Aside0.mk (Below.refl w.heap.size w)
  have H : (if a2 < 1 then (caesuraref05_Get.j0 k l0 a1 a2 true) else (if a2 > 4 then (caesuraref05_Get.j0 k l0 a1 a2 true) else (if a1 < 0 then (caesuraref05_Get.j0 k l0 a1 a2 true) else (caesuraref05_Get.j0 k l0 a1 a2 (decide (a1 > (wrap64 ((l0.length : Int) - a2)))))))) = some (r1, r2) := h
  clear h
  have HC4 := Aside0.mk H
  clear H
  go_enter Try.func26, Try.ntmps26
  go_upto_region 1 with (first | ((with_reducible refine gate_dst (N := 6) rfl ?_); (try (refine gate_guard (by rfl) ?_; dsimp only)); refine box_event ?hg (N := 6) ?hd (cs := #[.int .i64 0, .bool false]) (t := 38) ?hr ?_; (case hd => rfl); (case hg => rfl); (case hr => first | (go_simp; done) | (go_simp; rfl)); intro gb263 hg w5 hbox hb; have n0_ := Aside0.mk (below_step (by repeat (first | (with_reducible first | exact HB.out | apply below_alloc | apply pw_below_drewN | apply below_drew1) | exact HB.out)) hb); have n1_ := Aside0.mk (hbox); have n2_ := Aside0.mk ((by rw [hg]; exact (below_size (by repeat (first | (with_reducible first | exact HB.out | apply below_alloc | apply pw_below_drewN | apply below_drew1) | exact HB.out))) : w.heap.size ≤ gb263)); have n3_ := Aside0.mk ((by rw [hg]; exact (below_size (by repeat (first | (with_reducible first | exact HB.out | apply below_alloc | apply pw_below_drewN | apply below_drew1) | exact HB.out))) : w.heap.size ≤ gb263)); clear HB; have HB := n0_; have BK263 := n1_; have GW263 := n2_; have GE263 := n3_; clear n0_ n1_ n2_ n3_; clear hb hbox hg))
  (try simp only [Act.put, List.setIfInBounds_toArray, List.set_cons_zero, List.set_cons_succ])
  go_cut [26] (fun v26 wc => ∃ (kq : Nat) (x26_3 : Bool), v26 = .bool x26_3 ∧ Aside0 (caesuraref05_Get.j0 kq l0 a1 a2 x26_3 = some (r1, r2)) ∧ Aside0 (kq ≤ k) ∧ Aside0 (wc.heap[gb263]? = some (.cells #[.int .i64 0, .bool false] 38 (0, 0))) ∧ Aside0 (Below w.heap.size w wc))
  case first =>
    have H := HC4.out
    clear HC4
    by_cases c6 : a2 < 1
    · rw [if_pos c6] at H
      have c6b0 : decide (a2 < 1) = true := decide_eq_true c6
      clear c6
      (first | rw [c6b0] | (simp only [i64_w, i32_w]; rw [c6b0]) | skip)
      have H' := Aside0.mk H
      clear H
      go_wp2
      go_meet
      case rel => exact ⟨_, (true), (by first | rfl | (simp; done) | (simp [*]; done)), H', ⟨by first | omega | exact Nat.le_refl _⟩, ⟨by (with_reducible repeat (first | refine blk_drewN ?_ _ | refine blk_drew ?_ | refine blk_alloc ?_ _)); exact BK263.out⟩, ⟨by repeat (first | (with_reducible first | exact HB.out | apply below_alloc | apply pw_below_drewN | apply below_drew1 | refine below_set ?_ GE263.out) | exact HB.out)⟩⟩
    · rw [if_neg c6] at H
      have c6b0 : decide (a2 < 1) = false := decide_eq_false c6
      clear c6
      (first | rw [c6b0] | (simp only [i64_w, i32_w]; rw [c6b0]) | skip)
      by_cases c7 : a2 > 4
      · rw [if_pos c7] at H
        have c7b0 : decide (4 < a2) = true := decide_eq_true c7
        clear c7
        have H' := Aside0.mk H
        clear H
        go_wp2
        go_meet
        case rel => exact ⟨_, (true), (by first | rfl | (simp; done) | (simp [*]; done)), H', ⟨by first | omega | exact Nat.le_refl _⟩, ⟨by (with_reducible repeat (first | refine blk_drewN ?_ _ | refine blk_drew ?_ | refine blk_alloc ?_ _)); exact BK263.out⟩, ⟨by repeat (first | (with_reducible first | exact HB.out | apply below_alloc | apply pw_below_drewN | apply below_drew1 | refine below_set ?_ GE263.out) | exact HB.out)⟩⟩
      · rw [if_neg c7] at H
        have c7b0 : decide (4 < a2) = false := decide_eq_false c7
        clear c7
        by_cases c8 : a1 < 0
        · rw [if_pos c8] at H
          have c8b0 : decide (a1 < 0) = true := decide_eq_true c8
          clear c8
          have H' := Aside0.mk H
          clear H
          go_wp2
          go_meet
          case rel => exact ⟨_, (true), (by first | rfl | (simp; done) | (simp [*]; done)), H', ⟨by first | omega | exact Nat.le_refl _⟩, ⟨by (with_reducible repeat (first | refine blk_drewN ?_ _ | refine blk_drew ?_ | refine blk_alloc ?_ _)); exact BK263.out⟩, ⟨by repeat (first | (with_reducible first | exact HB.out | apply below_alloc | apply pw_below_drewN | apply below_drew1 | refine below_set ?_ GE263.out) | exact HB.out)⟩⟩
        · rw [if_neg c8] at H
          have c8b0 : decide (a1 < 0) = false := decide_eq_false c8
          clear c8
          have H' := Aside0.mk H
          clear H
          go_wp2
          go_meet
          case rel => exact ⟨_, (decide (a1 > (wrap64 ((l0.length : Int) - a2)))), (by first | rfl | (simp; done) | (simp [*]; done)), H', ⟨by first | omega | exact Nat.le_refl _⟩, ⟨by (with_reducible repeat (first | refine blk_drewN ?_ _ | refine blk_drew ?_ | refine blk_alloc ?_ _)); exact BK263.out⟩, ⟨by repeat (first | (with_reducible first | exact HB.out | apply below_alloc | apply pw_below_drewN | apply below_drew1 | refine below_set ?_ GE263.out) | exact HB.out)⟩⟩
  case rest =>
    clear HC4
    try clear c2
    try clear p2
    try clear c6
    try clear c6b0
    try clear p6
    try clear c7
    try clear c7b0
    try clear c8
    try clear c8b0
    obtain ⟨kq, x26_3, rfl, HA, HJ3, BK263, HB⟩ := hcut
    cases kq with
    | zero => exact absurd HA.out (by simp [caesuraref05_Get.j0])
    | succ kj3 =>
      have H := HA.out
      clear HA
      simp only [caesuraref05_Get.j0] at H
      by_cases c9 : x26_3 = true
      · subst c9
        have H1 : (some (0, false)) = some (r1, r2) := by rw [if_pos rfl] at H; exact H
        clear H
        have H := H1
        clear H1
        simp only [Option.some.injEq, Prod.mk.injEq] at H
        obtain ⟨rfl, rfl⟩ := H
        have hcz10_0 : wc.cell? ⟨gb263, 0, none⟩ = some (.int .i64 0) := (blk_cell BK263.out 0).trans rfl
        have hcz10_1 : wc.cell? ⟨gb263, 1, none⟩ = some (.bool false) := (blk_cell BK263.out 1).trans rfl
        have hfz10_0 := blk_frozen BK263.out 0
        have hfz10_1 := blk_frozen BK263.out 1
        go_wp2
        refine bodyPost_ret (results_cell_row rfl _ _ gb263 38 #[.int .i64 0, .bool false] (0, 0) _ rfl (by (with_reducible repeat (first | refine blk_drewN ?_ _ | refine blk_drew ?_ | refine blk_alloc ?_ _)); refine blk_put (cs := #[.int .i64 0, .bool false]) ?_ 1 _ rfl; (with_reducible repeat (first | refine blk_drewN ?_ _ | refine blk_drew ?_ | refine blk_alloc ?_ _)); refine blk_put (cs := #[.int .i64 0, .bool false]) ?_ 0 _ rfl; (with_reducible repeat (first | refine blk_drewN ?_ _ | refine blk_drew ?_ | refine blk_alloc ?_ _)); exact BK263.out) Try.underlying38 rfl (by kernel_rfl)) rfl ?_
        exact ⟨by first | rfl | (simp [errW_none, errW_some] <;> rfl) | (simp [*, errW_none, errW_some] <;> rfl), by repeat (first | (with_reducible first | exact HB.out | apply below_alloc | apply pw_below_drewN | apply below_drew1 | refine below_set ?_ GE263.out) | exact HB.out)⟩
      · replace c9 := Bool.eq_false_iff.mpr c9
        subst c9
        have H1 : (caesuraref05_Get.l0 kj3 l0 a1 a2 0 0) = some (r1, r2) := by rw [if_neg (show ¬ (false = true) by decide)] at H; exact H
        clear H
        have H := H1
        clear H1
        have H' := Aside0.mk H
        clear H
        go_wp2
        go_loopg [7, 8] kj3 (fun kq v7 v8 w' => ∃ (x7_2 : Int) (x8_2 : Int), v7 = .int .i64 x7_2 ∧ v8 = .int .i64 x8_2 ∧ Aside0 (caesuraref05_Get.l0 kq l0 a1 a2 x7_2 x8_2 = some (r1, r2)) ∧ Aside0 (kq ≤ kj3) ∧ Aside0 (w'.heap[gb263]? = some (.cells #[.int .i64 0, .bool false] 38 (0, 0))) ∧ Aside0 (Below w.heap.size w w'))
        case atStart => exact ⟨(0), (0), (by first | rfl | (simp; done) | (simp [*]; done)), (by first | rfl | (simp; done) | (simp [*]; done)), H', ⟨Nat.le_refl _⟩, ⟨by (with_reducible repeat (first | refine blk_drewN ?_ _ | refine blk_drew ?_ | refine blk_alloc ?_ _)); exact BK263.out⟩, ⟨by repeat (first | (with_reducible first | exact HB.out | apply below_alloc | apply pw_below_drewN | apply below_drew1 | refine below_set ?_ GE263.out) | exact HB.out)⟩⟩
        case round =>
          clear H'
          try clear c2
          try clear p2
          try clear c6
          try clear c6b0
          try clear p6
          try clear c7
          try clear c7b0
          try clear c8
          try clear c8b0
          try clear c9
          try clear hcz10_0
          try clear hcz10_1
          try clear hfz10_0
          try clear hfz10_1
          try clear p2
          try clear p6
          obtain ⟨x7_2, x8_2, rfl, rfl, HA, HK2, BK263, HB⟩ := hrel
          cases gk with
          | zero => exact absurd HA.out (by simp [caesuraref05_Get.l0])
          | succ k2 =>
            have H := HA.out
            clear HA
            simp only [caesuraref05_Get.l0] at H
            by_cases c11 : x8_2 < a2
            · rw [if_pos c11] at H
              have c11b0 : decide (x8_2 < a2) = true := decide_eq_true c11
              clear c11
              obtain ⟨ji12, hji12⟩ : ∃ j_ : Int, (wrap64 (a1 + x8_2)) = j_ := ⟨_, rfl⟩
              replace H : (if 0 ≤ (ji12) then (if (ji12) < (l0.length : Int) then (caesuraref05_Get.l0 k2 l0 a1 a2 (wrap64 ((wrap64 (x7_2 * 256)) + (wrap64 (rd l0 (ji12))))) (wrap64 (x8_2 + 1))) else (none)) else (none)) = some (r1, r2) := by first | (rw [hji12] at H; exact H) | (simp only [hji12] at H ⊢; exact H)
              have hji12w : (IntKind.i64.wrap (a1 + x8_2)) = ji12 := (i64_w _).trans hji12
              by_cases c13 : 0 ≤ (ji12)
              · rw [if_pos c13] at H
                have c13b0 : decide (0 ≤ (ji12)) = true := decide_eq_true c13
                clear c13
                by_cases c14 : (ji12) < (l0.length : Int)
                · rw [if_pos c14] at H
                  have c14b0 : decide ((ji12) < (l0.length : Int)) = true := decide_eq_true c14
                  clear c14
                  have H' := Aside0.mk H
                  clear H
                  have p264 : 0 ≤ ((ji12) : Int) := of_decide_eq_true (by first | (with_reducible assumption) | assumption)
                  have q264 : (ji12) < (l0.length : Int) := of_decide_eq_true (by first | (with_reducible assumption) | assumption)
                  obtain ⟨ad264, e264, hx264_0⟩ := Kd.at_int HR0.out (ji12) p264 q264
                  cases e264
                  replace hx264_0 := (HB.out.cell (World.block_lt_of_cell? w _ hx264_0)).trans hx264_0
                  replace p264 := eq_true p264
                  replace q264 := eq_true q264
                  go_wp2
                  go_roundg k2
                  case measure => have := HJ3.out; have := HK2.out; omega
                  case rel => exact ⟨(wrap64 ((wrap64 (x7_2 * 256)) + (wrap64 (rd l0 (ji12))))), (wrap64 (x8_2 + 1)), (by first | rfl | (simp; done) | (simp only [← hji12] <;> (first | rfl | simp)) | (simp [*]; done)), (by first | rfl | (simp; done) | (simp [*]; done)), H', ⟨by have := HJ3.out; have := HK2.out; omega⟩, ⟨by (with_reducible repeat (first | refine blk_drewN ?_ _ | refine blk_drew ?_ | refine blk_alloc ?_ _)); exact BK263.out⟩, ⟨by repeat (first | (with_reducible first | exact HB.out | apply below_alloc | apply pw_below_drewN | apply below_drew1 | refine below_set ?_ GE263.out) | exact HB.out)⟩⟩
                · rw [if_neg c14] at H
                  exact absurd H (by simp)
              · rw [if_neg c13] at H
                exact absurd H (by simp)
            · rw [if_neg c11] at H
              have c11b0 : decide (x8_2 < a2) = false := decide_eq_false c11
              clear c11
              simp only [Option.some.injEq, Prod.mk.injEq] at H
              obtain ⟨rfl, rfl⟩ := H
              have hcz15_0 : wr.cell? ⟨gb263, 0, none⟩ = some (.int .i64 0) := (blk_cell BK263.out 0).trans rfl
              have hcz15_1 : wr.cell? ⟨gb263, 1, none⟩ = some (.bool false) := (blk_cell BK263.out 1).trans rfl
              have hfz15_0 := blk_frozen BK263.out 0
              have hfz15_1 := blk_frozen BK263.out 1
              go_wp2
              refine bodyPost_ret (results_cell_row rfl _ _ gb263 38 #[.int .i64 x7_2, .bool true] (0, 0) _ rfl (by (with_reducible repeat (first | refine blk_drewN ?_ _ | refine blk_drew ?_ | refine blk_alloc ?_ _)); refine blk_put (cs := #[.int .i64 x7_2, .bool false]) ?_ 1 _ rfl; (with_reducible repeat (first | refine blk_drewN ?_ _ | refine blk_drew ?_ | refine blk_alloc ?_ _)); refine blk_put (cs := #[.int .i64 0, .bool false]) ?_ 0 _ rfl; (with_reducible repeat (first | refine blk_drewN ?_ _ | refine blk_drew ?_ | refine blk_alloc ?_ _)); exact BK263.out) Try.underlying38 rfl (by kernel_rfl)) rfl ?_
              exact ⟨by first | rfl | (simp [errW_none, errW_some] <;> rfl) | (simp [*, errW_none, errW_some] <;> rfl), by repeat (first | (with_reducible first | exact HB.out | apply below_alloc | apply pw_below_drewN | apply below_drew1 | refine below_set ?_ GE263.out) | exact HB.out)⟩

end Go.Proofs.Ytoilaibpmepecaa.X
