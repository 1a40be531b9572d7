/- The document's own way to pieces comes to the same. -/
import Derived.Test.YtldoffdakikaeaaDoorPU1
namespace Go.V
set_option linter.unusedVariables false
set_option linter.unusedSimpArgs false

theorem contU_take {sz : Nat} : ∀ {t : List UInt8} {n k : Nat} {lo hi : Int}, n ≤ sz → (contU sz n lo hi (t.take k)).1 = min (n + k) (contU sz n lo hi t).1
  | [], n, k, lo, hi, h => by simp [contU]
  | b :: t, n, 0, lo, hi, h => by
    have := (contU_bnd (sz := sz) (t := b :: t) (n := n) (lo := lo) (hi := hi) h).1
    rw [List.take_zero, Nat.min_eq_left (by omega)]; simp [contU]
  | b :: t, n, k + 1, lo, hi, h => by
    rw [List.take_succ_cons]
    simp only [contU]
    split
    · simp only; omega
    · split
      · rw [contU_take (by omega)]; congr 1; omega
      · simp only; omega
theorem contU_full {sz : Nat} : ∀ {t : List UInt8} {n : Nat} {lo hi : Int}, n ≤ sz → (contU sz n lo hi t).1 = sz → (contU sz n lo hi t).2 = true
  | [], n, lo, hi, h, e => by simp only [contU] at e ⊢; simp; omega
  | b :: t, n, lo, hi, h, e => by
    simp only [contU] at e ⊢
    by_cases h1 : sz ≤ n
    · rw [if_pos h1]
    · rw [if_neg h1] at e ⊢
      by_cases h2 : lo ≤ (b.toNat : Int) ∧ (b.toNat : Int) ≤ hi
      · rw [if_pos h2] at e ⊢; exact contU_full (by omega) e
      · rw [if_neg h2] at e; simp only at e; omega
theorem begU_cut' {s : List UInt8} {k : Nat} (hk : 0 < k) : (begU (s.take k)).1 = min k (begU s).1 := by
  cases s with
  | nil => simp [begU]
  | cons c t =>
    obtain ⟨k, rfl⟩ : ∃ j, k = j + 1 := ⟨k - 1, by omega⟩
    rw [List.take_succ_cons]
    simp only [begU]
    split
    · simp
    · rw [contU_take (by omega)]; congr 1; omega
theorem begU_two {c : UInt8} {t : List UInt8} : (begU (c :: t)).2 = true ↔ 0 < (begU (c :: t)).1 ∧ (begU (c :: t)).1 = lsz c := by
  simp only [begU]
  split
  · simp
  · have h := contU_bnd (sz := lsz c) (t := t) (n := 1) (lo := llo c) (hi := lhi c) (by omega)
    exact ⟨fun h2 => ⟨by omega, h.2.2.2 h2⟩, fun h2 => contU_full (by omega) h2.2⟩

/-! ### How many scalars there are -/
def belowS (v : Int) : Int := if max 0 (min v 1114112) ≤ 55296 then max 0 (min v 1114112) else max (max 0 (min v 1114112)) 57344 - 2048
def cntS (lo hi : Int) : Int := if hi < lo ∨ hi < 0 ∨ 1114111 < lo then 0 else belowS (min hi 1114111 + 1) - belowS lo
theorem cntS_pos {lo hi : Int} : 0 < cntS lo hi ↔ ∃ v, isSc v = true ∧ lo ≤ v ∧ v ≤ hi := by
  constructor
  · intro h
    by_cases h1 : 57344 ≤ hi ∧ lo ≤ 57344
    · exact ⟨57344, by decide, by omega⟩
    by_cases h2 : 57344 < lo
    · refine ⟨lo, isSc_iff.2 ?_, by omega, ?_⟩ <;> (unfold cntS at h; split at h <;> omega)
    · refine ⟨max 0 lo, isSc_iff.2 ?_, by omega, ?_⟩ <;> (unfold cntS belowS at h; (repeat' split at h) <;> omega)
  · rintro ⟨v, hv, h1, h2⟩
    have hv := isSc_iff.1 hv
    unfold cntS belowS
    (repeat' split) <;> omega

/-! ### Which bytes begin a scalar's -/
def accU (a : Int) (t : List UInt8) : Int := t.foldl (fun v b => v * 64 + (b.toNat : Int) - 128) a
def goOn (b : UInt8) : Bool := decide (128 ≤ (b.toNat : Int)) && decide ((b.toNat : Int) ≤ 191)
theorem goOn_iff {b : UInt8} : goOn b = true ↔ 128 ≤ b.toNat ∧ b.toNat ≤ 191 := by simp [goOn]; omega
def baseU (n : Nat) : Int := if n = 2 then 192 else if n = 3 then 224 else if n = 4 then 240 else 0
def leastU (n : Nat) : Int := if n = 2 then 128 else if n = 3 then 2048 else if n = 4 then 65536 else 0
/-- do these bytes begin a scalar's, all of them? -/
def begB (s : List UInt8) : Bool := decide (0 < s.length ∧ (begU s).1 = s.length)
theorem begB_take {s : List UInt8} {n : Nat} (h : n < s.length) : begB (s.take (n + 1)) = decide (n < (begU s).1) := by
  unfold begB
  rw [begU_cut' (by omega), List.length_take]
  have := @begU_le s
  congr 1
  apply propext
  omega
theorem begB_0 {c : UInt8} {t : List UInt8} (h : lsz c = 0) : begB (c :: t) = false := by simp [begB, begU, h]
theorem begB_long {c : UInt8} {t : List UInt8} (h : lsz c < t.length + 1) : begB (c :: t) = false := by
  unfold begB
  rw [decide_eq_false_iff_not]
  rintro ⟨_, h2⟩
  simp only [begU] at h2
  split at h2
  · simp at h2
  · have h := contU_bnd (sz := lsz c) (t := t) (n := 1) (lo := llo c) (hi := lhi c) (by omega)
    simp only [List.length_cons] at h2; omega
theorem begB_1 {c : UInt8} (h : lsz c = 1) : begB [c] = true := by simp [begB, begU, h, contU]
theorem contU_all {sz : Nat} : ∀ {t : List UInt8} {n : Nat} {lo hi : Int}, n ≤ sz → 128 ≤ lo → hi ≤ 191 → n + t.length ≤ sz → (contU sz n lo hi t).1 = n + t.length → ∀ b ∈ t, goOn b = true
  | [], n, lo, hi, h, _, _, _, e => by simp
  | b :: t, n, lo, hi, h, hl, hh, hs, e => by
    simp only [List.length_cons] at hs e
    simp only [contU] at e
    rw [if_neg (by omega)] at e
    split at e
    · rename_i hb
      have := contU_all (sz := sz) (t := t) (n := n + 1) (lo := 128) (hi := 191) (by omega) (by omega) (by omega) (by omega) (by omega)
      intro x hx
      rcases List.mem_cons.1 hx with rfl | hx
      · exact goOn_iff.2 (by omega)
      · exact this x hx
    · simp only at e; omega
/-- a byte that doesn't go on ends it -/
theorem begB_no {c : UInt8} {t : List UInt8} {b : UInt8} (hb : b ∈ t) (h : goOn b = false) : begB (c :: t) = false := by
  rw [Bool.eq_false_iff]
  intro hc
  unfold begB at hc
  rw [decide_eq_true_iff] at hc
  obtain ⟨_, h2⟩ := hc
  simp only [begU] at h2
  split at h2
  · simp at h2
  · have hk := contU_bnd (sz := lsz c) (t := t) (n := 1) (lo := llo c) (hi := lhi c) (by omega)
    simp only [List.length_cons] at h2
    have ht : 0 < t.length := List.length_pos_of_mem hb
    have hw : 128 ≤ llo c ∧ lhi c ≤ 191 := by
      rcases lead_cases c with q | q | q | q | q
      · rw [lead_1 q] at hk h2; omega
      · rw [lead_0 q] at *; contradiction
      · have := lead_2 q; omega
      · obtain ⟨_, e1, e2⟩ := lead_3 q; rw [e1, e2]; constructor <;> split <;> omega
      · obtain ⟨_, e1, e2⟩ := lead_4 q; rw [e1, e2]; constructor <;> split <;> omega
    have := contU_all (sz := lsz c) (t := t) (n := 1) (by omega) hw.1 hw.2 (by omega) (by omega) b hb
    rw [this] at h; cases h
theorem contU_on {sz : Nat} : ∀ {t : List UInt8} {n : Nat}, n + t.length ≤ sz → (∀ b ∈ t, goOn b = true) → (contU sz n 128 191 t).1 = n + t.length
  | [], n, h, _ => by simp [contU]
  | b :: t, n, h, hg => by
    simp only [List.length_cons] at h
    have hb := goOn_iff.1 (hg b (by simp))
    simp only [contU]
    rw [if_neg (by omega), if_pos (by omega), contU_on (by omega) (fun x hx => hg x (by simp [hx]))]
    simp only [List.length_cons]; omega
theorem begB_nil {c : UInt8} (h : 2 ≤ lsz c) : begB [c] = true := by
  unfold begB
  rw [decide_eq_true_iff]
  simp only [begU]
  rw [if_neg (by omega)]
  simp [contU]
theorem begB_cons {c b : UInt8} {t : List UInt8} (h2 : 2 ≤ lsz c) (hl : t.length + 2 ≤ lsz c) (hg : ∀ b ∈ t, goOn b = true) : begB (c :: b :: t) = decide (llo c ≤ (b.toNat : Int) ∧ (b.toNat : Int) ≤ lhi c) := by
  unfold begB
  congr 1
  apply propext
  simp only [begU]
  rw [if_neg (by omega)]
  simp only [contU]
  rw [if_neg (by omega)]
  by_cases h : llo c ≤ (b.toNat : Int) ∧ (b.toNat : Int) ≤ lhi c
  · rw [if_pos h, contU_on (by omega) hg]
    simp only [List.length_cons]
    omega
  · rw [if_neg h]
    simp only [List.length_cons]
    omega
theorem dec_cnt {p : Prop} [Decidable p] {lo hi : Int} (a : p → isSc lo = true ∧ lo ≤ hi) (b : ∀ v, isSc v = true → lo ≤ v → v ≤ hi → p) : decide p = decide (0 < cntS lo hi) := by
  congr 1
  refine propext ⟨fun h => cntS_pos.2 ⟨lo, (a h).1, Int.le_refl _, (a h).2⟩, fun h => ?_⟩
  obtain ⟨v, h1, h2, h3⟩ := cntS_pos.1 h
  exact b v h1 h2 h3
/-- the numbers that stand open behind some bytes -/
theorem begB_open {c : UInt8} {t : List UInt8} (h2 : 2 ≤ lsz c) (hl : t.length + 1 ≤ lsz c) (hg : ∀ b ∈ t, goOn b = true) :
    begB (c :: t) = decide (0 < cntS (max (accU ((c.toNat : Int) - baseU (lsz c)) t * 64 ^ (lsz c - (t.length + 1))) (leastU (lsz c))) ((accU ((c.toNat : Int) - baseU (lsz c)) t + 1) * 64 ^ (lsz c - (t.length + 1)) - 1)) := by
  rcases lead_cases c with q | q | q | q | q
  · rw [lead_1 q] at h2; omega
  · rw [lead_0 q] at h2; omega
  · obtain ⟨e1, e2, e3⟩ := lead_2 q
    rcases t with _ | ⟨b, _ | ⟨b2, t⟩⟩
    · rw [begB_nil h2, show true = decide True from rfl]
      refine dec_cnt ?_ (fun _ _ _ _ => trivial)
      intro _
      simp only [e1, accU, baseU, leastU, List.foldl_nil, List.length_nil, isSc_iff]; simp; omega
    · have hb := goOn_iff.1 (hg b (by simp))
      rw [begB_cons h2 hl (by simp), e2, e3]
      simp only [e1, accU, baseU, leastU, List.foldl_nil, List.foldl_cons, List.length_cons, List.length_nil]
      refine dec_cnt ?_ ?_
      · intro hq; simp [isSc_iff]; omega
      · intro v hv h1 h3; have hv := isSc_iff.1 hv; simp at h1 h3; omega
    · simp [e1] at hl
  · obtain ⟨e1, e2, e3⟩ := lead_3 q
    rcases t with _ | ⟨b, _ | ⟨b2, _ | ⟨b3, t⟩⟩⟩
    · rw [begB_nil h2, show true = decide True from rfl]
      refine dec_cnt ?_ (fun _ _ _ _ => trivial)
      intro _
      simp only [e1, accU, baseU, leastU, List.foldl_nil, List.length_nil, isSc_iff]; simp; omega
    · have hb := goOn_iff.1 (hg b (by simp))
      rw [begB_cons h2 hl (by simp), e2, e3]
      simp only [e1, accU, baseU, leastU, List.foldl_nil, List.foldl_cons, List.length_cons, List.length_nil]
      refine dec_cnt ?_ ?_
      · intro hq; simp [isSc_iff]; (split at hq <;> split at hq) <;> omega
      · intro v hv h1 h3; have hv := isSc_iff.1 hv; simp at h1 h3; constructor <;> split <;> omega
    · have hb := goOn_iff.1 (hg b (by simp))
      have hb2 := goOn_iff.1 (hg b2 (by simp))
      rw [begB_cons h2 hl (fun x hx => hg x (by simp at hx; simp [hx])), e2, e3]
      simp only [e1, accU, baseU, leastU, List.foldl_nil, List.foldl_cons, List.length_cons, List.length_nil]
      refine dec_cnt ?_ ?_
      · intro hq; simp [isSc_iff]; (split at hq <;> split at hq) <;> omega
      · intro v hv h1 h3; have hv := isSc_iff.1 hv; simp at h1 h3; constructor <;> split <;> omega
    · simp [e1] at hl
  · obtain ⟨e1, e2, e3⟩ := lead_4 q
    rcases t with _ | ⟨b, _ | ⟨b2, _ | ⟨b3, _ | ⟨b4, t⟩⟩⟩⟩
    · rw [begB_nil h2, show true = decide True from rfl]
      refine dec_cnt ?_ (fun _ _ _ _ => trivial)
      intro _
      simp only [e1, accU, baseU, leastU, List.foldl_nil, List.length_nil, isSc_iff]; simp; omega
    · have hb := goOn_iff.1 (hg b (by simp))
      rw [begB_cons h2 hl (by simp), e2, e3]
      simp only [e1, accU, baseU, leastU, List.foldl_nil, List.foldl_cons, List.length_cons, List.length_nil]
      refine dec_cnt ?_ ?_
      · intro hq; simp [isSc_iff]; (split at hq <;> split at hq) <;> omega
      · intro v hv h1 h3; have hv := isSc_iff.1 hv; simp at h1 h3; constructor <;> split <;> omega
    · have hb := goOn_iff.1 (hg b (by simp))
      have hb2 := goOn_iff.1 (hg b2 (by simp))
      rw [begB_cons h2 hl (fun x hx => hg x (by simp at hx; simp [hx])), e2, e3]
      simp only [e1, accU, baseU, leastU, List.foldl_nil, List.foldl_cons, List.length_cons, List.length_nil]
      refine dec_cnt ?_ ?_
      · intro hq; simp [isSc_iff]; (split at hq <;> split at hq) <;> omega
      · intro v hv h1 h3; have hv := isSc_iff.1 hv; simp at h1 h3; constructor <;> split <;> omega
    · have hb := goOn_iff.1 (hg b (by simp))
      have hb2 := goOn_iff.1 (hg b2 (by simp))
      have hb3 := goOn_iff.1 (hg b3 (by simp))
      rw [begB_cons h2 hl (fun x hx => hg x (by simp at hx; rcases hx with rfl | rfl <;> simp)), e2, e3]
      simp only [e1, accU, baseU, leastU, List.foldl_nil, List.foldl_cons, List.length_cons, List.length_nil]
      refine dec_cnt ?_ ?_
      · intro hq; simp [isSc_iff]; (split at hq <;> split at hq) <;> omega
      · intro v hv h1 h3; have hv := isSc_iff.1 hv; simp at h1 h3; constructor <;> split <;> omega
    · simp [e1] at hl
end Go.V
