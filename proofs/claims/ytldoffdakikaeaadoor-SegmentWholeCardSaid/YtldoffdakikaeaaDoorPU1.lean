/- Bytes as scalars: what a first byte tells, pieces, scalars' bytes. -/
import Derived.Test.YtldoffdakikaeaaDoorP12
namespace Go.V
set_option linter.unusedVariables false
set_option linter.unusedSimpArgs false

/-- how many bytes a first byte tells of -/
def lsz (c : UInt8) : Nat := if c.toNat < 128 then 1 else if c.toNat < 194 then 0 else if c.toNat < 224 then 2 else if c.toNat < 240 then 3 else if c.toNat < 245 then 4 else 0
/-- from where the second one goes -/
def llo (c : UInt8) : Int := if c.toNat < 194 then 0 else if c.toNat = 224 then 160 else if c.toNat = 240 then 144 else if c.toNat < 245 then 128 else 0
def lhi (c : UInt8) : Int := if c.toNat < 194 then 0 else if c.toNat = 237 then 159 else if c.toNat = 244 then 143 else if c.toNat < 245 then 191 else 0
/-- how many bytes go on -/
def contU (sz : Nat) : Nat → Int → Int → List UInt8 → Nat × Bool
  | n, _, _, [] => (n, decide (sz ≤ n))
  | n, lo, hi, b :: t => if sz ≤ n then (n, true) else if lo ≤ (b.toNat : Int) ∧ (b.toNat : Int) ≤ hi then contU sz (n + 1) 128 191 t else (n, false)
def begU : List UInt8 → Nat × Bool
  | [] => (0, false)
  | c :: t => if lsz c = 0 then (0, false) else contU (lsz c) 1 (llo c) (lhi c) t
def valU : List UInt8 → Int
  | [] => 0
  | [a] => a.toNat
  | a :: t => t.foldl (fun v b => v * 64 + (b.toNat : Int) % 64) ((a.toNat : Int) % 2 ^ (6 - t.length))
/-- a scalar's bytes -/
def encU (v : Int) : List UInt8 :=
  if v < 128 then [by8 v] else if v < 2048 then [by8 (192 + v / 64), by8 (128 + v % 64)]
  else if v < 65536 then [by8 (224 + v / 4096), by8 (128 + v / 64 % 64), by8 (128 + v % 64)]
  else [by8 (240 + v / 262144), by8 (128 + v / 4096 % 64), by8 (128 + v / 64 % 64), by8 (128 + v % 64)]

theorem contU_bnd {sz : Nat} : ∀ {t : List UInt8} {n : Nat} {lo hi : Int}, n ≤ sz → n ≤ (contU sz n lo hi t).1 ∧ (contU sz n lo hi t).1 ≤ n + t.length ∧ (contU sz n lo hi t).1 ≤ sz ∧ ((contU sz n lo hi t).2 = true → (contU sz n lo hi t).1 = sz)
  | [], n, lo, hi, h => by simp [contU]; omega
  | b :: t, n, lo, hi, h => by
    simp only [contU]
    split
    · simp; omega
    · split
      · obtain ⟨h1, h2, h3, h4⟩ := contU_bnd (sz := sz) (t := t) (n := n + 1) (lo := 128) (hi := 191) (by omega)
        simp only [List.length_cons]
        exact ⟨by omega, by omega, h3, h4⟩
      · simp; omega
theorem lsz_le {c : UInt8} : lsz c ≤ 4 := by unfold lsz; (repeat' split) <;> omega
theorem begU_le {s : List UInt8} : (begU s).1 ≤ s.length ∧ (begU s).1 ≤ 4 := by
  cases s with
  | nil => simp [begU]
  | cons c t =>
    simp only [begU]
    split
    · simp
    · have := contU_bnd (sz := lsz c) (t := t) (n := 1) (lo := llo c) (hi := lhi c) (by omega)
      have := @lsz_le c
      simp only [List.length_cons]; omega
theorem begU_pos {s : List UInt8} (h : (begU s).2 = true) : 0 < (begU s).1 := by
  cases s with
  | nil => simp [begU] at h
  | cons c t =>
    simp only [begU] at h ⊢
    split
    · rename_i h0; simp [h0] at h
    · have := contU_bnd (sz := lsz c) (t := t) (n := 1) (lo := llo c) (hi := lhi c) (by omega)
      omega

theorem encU_len {v : Int} : (encU v).length = if v < 128 then 1 else if v < 2048 then 2 else if v < 65536 then 3 else 4 := by
  unfold encU; (repeat' split) <;> first | rfl | omega
theorem encU_pos {v : Int} : 0 < (encU v).length := by rw [encU_len]; (repeat' split) <;> omega
theorem encU_le {v : Int} : (encU v).length ≤ 4 := by rw [encU_len]; (repeat' split) <;> omega

/-- a first byte by its number -/
theorem lead_1 {c : UInt8} (h : c.toNat < 128) : lsz c = 1 := by unfold lsz; rw [if_pos h]
theorem lead_2 {c : UInt8} (h : 194 ≤ c.toNat ∧ c.toNat < 224) : lsz c = 2 ∧ llo c = 128 ∧ lhi c = 191 := by
  unfold lsz llo lhi; refine ⟨?_, ?_, ?_⟩ <;> ((repeat' split) <;> omega)
theorem lead_3 {c : UInt8} (h : 224 ≤ c.toNat ∧ c.toNat < 240) : lsz c = 3 ∧ llo c = (if c.toNat = 224 then 160 else 128) ∧ lhi c = (if c.toNat = 237 then 159 else 191) := by
  unfold lsz llo lhi; refine ⟨?_, ?_, ?_⟩ <;> ((repeat' split) <;> omega)
theorem lead_4 {c : UInt8} (h : 240 ≤ c.toNat ∧ c.toNat < 245) : lsz c = 4 ∧ llo c = (if c.toNat = 240 then 144 else 128) ∧ lhi c = (if c.toNat = 244 then 143 else 191) := by
  unfold lsz llo lhi; refine ⟨?_, ?_, ?_⟩ <;> ((repeat' split) <;> omega)
theorem lead_0 {c : UInt8} (h : (128 ≤ c.toNat ∧ c.toNat < 194) ∨ 245 ≤ c.toNat) : lsz c = 0 := by
  unfold lsz; (repeat' split) <;> omega
theorem lead_cases (c : UInt8) : c.toNat < 128 ∨ ((128 ≤ c.toNat ∧ c.toNat < 194) ∨ 245 ≤ c.toNat) ∨ (194 ≤ c.toNat ∧ c.toNat < 224) ∨ (224 ≤ c.toNat ∧ c.toNat < 240) ∨ (240 ≤ c.toNat ∧ c.toNat < 245) := by omega

theorem by8_nat {n : Int} (h : 0 ≤ n ∧ n < 256) : (by8 n).toNat = n.toNat := by have := @by8_toNat n; omega

theorem begU_enc {v : Int} (hv : isSc v = true) (t : List UInt8) : begU (encU v ++ t) = ((encU v).length, true) := by
  have h := isSc_iff.1 hv
  unfold encU
  split
  · have e := by8_nat (n := v) (by omega)
    simp only [List.cons_append, List.nil_append, begU, List.length_cons, List.length_nil]
    rw [lead_1 (by omega)]
    cases t <;> simp [contU]
  split
  · have e := by8_nat (n := 192 + v / 64) (by omega)
    have e1 := by8_nat (n := 128 + v % 64) (by omega)
    obtain ⟨l1, l2, l3⟩ := lead_2 (c := by8 (192 + v / 64)) (by omega)
    simp only [List.cons_append, List.nil_append, begU, List.length_cons, List.length_nil, l1, l2, l3]
    rw [if_neg (by omega)]
    simp only [contU]
    rw [if_neg (by omega), if_pos (by omega)]
    cases t <;> simp [contU]
  split
  · have e := by8_nat (n := 224 + v / 4096) (by omega)
    have e1 := by8_nat (n := 128 + v / 64 % 64) (by omega)
    have e2 := by8_nat (n := 128 + v % 64) (by omega)
    obtain ⟨l1, l2, l3⟩ := lead_3 (c := by8 (224 + v / 4096)) (by omega)
    simp only [List.cons_append, List.nil_append, begU, List.length_cons, List.length_nil, l1, l2, l3]
    rw [if_neg (by omega)]
    simp only [contU]
    rw [if_neg (by omega), if_pos (by constructor <;> split <;> omega), if_neg (by omega), if_pos (by omega)]
    cases t <;> simp [contU]
  · have e := by8_nat (n := 240 + v / 262144) (by omega)
    have e0 := by8_nat (n := 128 + v / 4096 % 64) (by omega)
    have e1 := by8_nat (n := 128 + v / 64 % 64) (by omega)
    have e2 := by8_nat (n := 128 + v % 64) (by omega)
    obtain ⟨l1, l2, l3⟩ := lead_4 (c := by8 (240 + v / 262144)) (by omega)
    simp only [List.cons_append, List.nil_append, begU, List.length_cons, List.length_nil, l1, l2, l3]
    rw [if_neg (by omega)]
    simp only [contU]
    rw [if_neg (by omega), if_pos (by constructor <;> split <;> omega), if_neg (by omega), if_pos (by omega), if_neg (by omega), if_pos (by omega)]
    cases t <;> simp [contU]

/-- cut anywhere, a scalar's bytes begin one, and are none -/
theorem begU_cut {v : Int} (hv : isSc v = true) {k : Nat} (h0 : 0 < k) (hk : k < (encU v).length) : begU ((encU v).take k) = (k, false) := by
  have h := isSc_iff.1 hv
  have hl := @encU_len v
  unfold encU at hk ⊢
  split
  · rename_i h1; rw [if_pos h1] at hk; simp at hk; omega
  split
  · rename_i h1 h2
    rw [if_neg h1, if_pos h2] at hk; simp only [List.length_cons, List.length_nil] at hk
    obtain rfl : k = 1 := by omega
    have e := by8_nat (n := 192 + v / 64) (by omega)
    obtain ⟨l1, l2, l3⟩ := lead_2 (c := by8 (192 + v / 64)) (by omega)
    simp [begU, contU, l1]
  split
  · rename_i h1 h2 h3
    rw [if_neg h1, if_neg h2, if_pos h3] at hk; simp only [List.length_cons, List.length_nil] at hk
    have e := by8_nat (n := 224 + v / 4096) (by omega)
    have e1 := by8_nat (n := 128 + v / 64 % 64) (by omega)
    obtain ⟨l1, l2, l3⟩ := lead_3 (c := by8 (224 + v / 4096)) (by omega)
    rcases (show k = 1 ∨ k = 2 by omega) with rfl | rfl
    · simp [begU, contU, l1]
    · simp only [List.take_succ_cons, List.take_zero, begU, contU, l1, l2, l3]
      rw [if_neg (by omega), if_neg (by omega), if_pos (by constructor <;> split <;> omega)]
      simp
  · rename_i h1 h2 h3
    rw [if_neg h1, if_neg h2, if_neg h3] at hk; simp only [List.length_cons, List.length_nil] at hk
    have e := by8_nat (n := 240 + v / 262144) (by omega)
    have e0 := by8_nat (n := 128 + v / 4096 % 64) (by omega)
    have e1 := by8_nat (n := 128 + v / 64 % 64) (by omega)
    obtain ⟨l1, l2, l3⟩ := lead_4 (c := by8 (240 + v / 262144)) (by omega)
    rcases (show k = 1 ∨ k = 2 ∨ k = 3 by omega) with rfl | rfl | rfl
    · simp [begU, contU, l1]
    · simp only [List.take_succ_cons, List.take_zero, begU, contU, l1, l2, l3]
      rw [if_neg (by omega), if_neg (by omega), if_pos (by constructor <;> split <;> omega)]
      simp
    · simp only [List.take_succ_cons, List.take_zero, begU, contU, l1, l2, l3]
      rw [if_neg (by omega), if_neg (by omega), if_pos (by constructor <;> split <;> omega), if_neg (by omega), if_pos (by omega)]
      simp

theorem valU_enc {v : Int} (hv : isSc v = true) : valU (encU v) = v := by
  have h := isSc_iff.1 hv
  unfold encU
  split
  · have e := by8_nat (n := v) (by omega)
    simp only [valU]; omega
  split
  · have e := by8_nat (n := 192 + v / 64) (by omega)
    have e1 := by8_nat (n := 128 + v % 64) (by omega)
    simp only [valU, List.foldl_cons, List.foldl_nil, List.length_cons, List.length_nil]; omega
  split
  · have e := by8_nat (n := 224 + v / 4096) (by omega)
    have e1 := by8_nat (n := 128 + v / 64 % 64) (by omega)
    have e2 := by8_nat (n := 128 + v % 64) (by omega)
    simp only [valU, List.foldl_cons, List.foldl_nil, List.length_cons, List.length_nil]; omega
  · have e := by8_nat (n := 240 + v / 262144) (by omega)
    have e0 := by8_nat (n := 128 + v / 4096 % 64) (by omega)
    have e1 := by8_nat (n := 128 + v / 64 % 64) (by omega)
    have e2 := by8_nat (n := 128 + v % 64) (by omega)
    simp only [valU, List.foldl_cons, List.foldl_nil, List.length_cons, List.length_nil]; omega

theorem contU_go {sz n : Nat} {lo hi : Int} {t : List UInt8} (hn : n < sz) (h : (contU sz n lo hi t).2 = true) : ∃ b t', t = b :: t' ∧ (lo ≤ (b.toNat : Int) ∧ (b.toNat : Int) ≤ hi) ∧ contU sz n lo hi t = contU sz (n + 1) 128 191 t' := by
  cases t with
  | nil => simp [contU] at h; omega
  | cons b t' =>
    simp only [contU] at h ⊢
    rw [if_neg (by omega)] at h ⊢
    split at h
    · rename_i hb; exact ⟨b, t', rfl, hb, by rw [if_pos hb]⟩
    · simp at h
theorem contU_end {sz : Nat} {lo hi : Int} {t : List UInt8} : contU sz sz lo hi t = (sz, true) := by cases t <;> simp [contU]

/-- what is whole is a scalar's -/
theorem begU_whole {s : List UInt8} (h : (begU s).2 = true) : ∃ v t, isSc v = true ∧ s = encU v ++ t ∧ begU s = ((encU v).length, true) := by
  cases s with
  | nil => simp [begU] at h
  | cons c t =>
    simp only [begU] at h ⊢
    have hc := c.toNat_lt
    rcases lead_cases c with hl | hl | hl | hl | hl
    · rw [lead_1 hl] at h ⊢
      refine ⟨c.toNat, t, isSc_iff.2 (by omega), ?_, ?_⟩
      · unfold encU; rw [if_pos (by omega)]; simp
      · rw [if_neg (by decide), contU_end, encU_len, if_pos (by omega)]
    · rw [lead_0 hl] at h; simp at h
    · obtain ⟨l1, l2, l3⟩ := lead_2 hl
      simp only [l1, l2, l3] at h ⊢
      rw [if_neg (by omega)] at h ⊢
      obtain ⟨b, t', rfl, hb, e⟩ := contU_go (by omega) h
      have hx := b.toNat_lt
      refine ⟨((c.toNat : Int) - 192) * 64 + ((b.toNat : Int) - 128), t', isSc_iff.2 (by omega), ?_, ?_⟩
      · unfold encU; rw [if_neg (by omega), if_pos (by omega)]
        simp only [List.cons_append, List.nil_append, List.cons.injEq, and_true]
        exact ⟨(by8_ext (by omega)).symm, (by8_ext (by omega)).symm⟩
      · rw [e, contU_end, encU_len, if_neg (by omega), if_pos (by omega)]
    · obtain ⟨l1, l2, l3⟩ := lead_3 hl
      simp only [l1, l2, l3] at h ⊢
      rw [if_neg (by omega)] at h ⊢
      obtain ⟨b, t', rfl, hb, e⟩ := contU_go (by omega) h
      rw [e] at h
      obtain ⟨b2, t2, rfl, hb2, e2⟩ := contU_go (by omega) h
      have hx := b.toNat_lt
      have hx2 := b2.toNat_lt
      have hb' : 128 ≤ b.toNat ∧ b.toNat ≤ 191 ∧ (c.toNat = 224 → 160 ≤ b.toNat) ∧ (c.toNat = 237 → b.toNat ≤ 159) := by
        obtain ⟨q1, q2⟩ := hb
        split at q1 <;> split at q2 <;> omega
      clear hb
      refine ⟨((c.toNat : Int) - 224) * 4096 + ((b.toNat : Int) - 128) * 64 + ((b2.toNat : Int) - 128), t2, isSc_iff.2 (by omega), ?_, ?_⟩
      · unfold encU; rw [if_neg (by omega), if_neg (by omega), if_pos (by omega)]
        simp only [List.cons_append, List.nil_append, List.cons.injEq, and_true]
        exact ⟨(by8_ext (by omega)).symm, (by8_ext (by omega)).symm, (by8_ext (by omega)).symm⟩
      · rw [e, e2, contU_end, encU_len, if_neg (by omega), if_neg (by omega), if_pos (by omega)]
    · obtain ⟨l1, l2, l3⟩ := lead_4 hl
      simp only [l1, l2, l3] at h ⊢
      rw [if_neg (by omega)] at h ⊢
      obtain ⟨b, t', rfl, hb, e⟩ := contU_go (by omega) h
      rw [e] at h
      obtain ⟨b2, t2, rfl, hb2, e2⟩ := contU_go (by omega) h
      rw [e2] at h
      obtain ⟨b3, t3, rfl, hb3, e3⟩ := contU_go (by omega) h
      have hx := b.toNat_lt
      have hx2 := b2.toNat_lt
      have hx3 := b3.toNat_lt
      have hb' : 128 ≤ b.toNat ∧ b.toNat ≤ 191 ∧ (c.toNat = 240 → 144 ≤ b.toNat) ∧ (c.toNat = 244 → b.toNat ≤ 143) := by
        obtain ⟨q1, q2⟩ := hb
        split at q1 <;> split at q2 <;> omega
      clear hb
      refine ⟨((c.toNat : Int) - 240) * 262144 + ((b.toNat : Int) - 128) * 4096 + ((b2.toNat : Int) - 128) * 64 + ((b3.toNat : Int) - 128), t3, isSc_iff.2 (by omega), ?_, ?_⟩
      · unfold encU; rw [if_neg (by omega), if_neg (by omega), if_neg (by omega)]
        simp only [List.cons_append, List.nil_append, List.cons.injEq, and_true]
        exact ⟨(by8_ext (by omega)).symm, (by8_ext (by omega)).symm, (by8_ext (by omega)).symm, (by8_ext (by omega)).symm⟩
      · rw [e, e2, e3, contU_end, encU_len, if_neg (by omega), if_neg (by omega), if_neg (by omega)]
theorem begU_take {s : List UInt8} (h : (begU s).2 = true) : ∃ v, isSc v = true ∧ s.take (begU s).1 = encU v ∧ valU (s.take (begU s).1) = v := by
  obtain ⟨v, t, hv, hs, hb⟩ := begU_whole h
  have e : s.take (begU s).1 = encU v := by rw [hb, hs, List.take_left']; rfl
  exact ⟨v, hv, e, by rw [e, valU_enc hv]⟩

attribute [irreducible] lsz llo lhi
/-! ### Pieces -/
/-- each piece: its scalar, how many bytes -/
def pcs (s : List UInt8) : List (Int × Nat) :=
  if h : s = [] then [] else (if (begU s).2 = true then valU (s.take (begU s).1) else 65533, max (begU s).1 1) :: pcs (s.drop (max (begU s).1 1))
termination_by s.length
decreasing_by
  have : 0 < s.length := by rcases s with _ | _; exact absurd rfl h; simp
  rw [List.length_drop]; omega
/-- pieces at their places -/
def stand : Nat → List (Int × Nat) → List (Int × Int × Int)
  | _, [] => []
  | k, p :: l => (p.1, (k : Int), (p.2 : Int)) :: stand (k + p.2) l
def sizes (l : List (Int × Nat)) : Nat := (l.map (·.2)).sum
/-- nothing ill-formed -/
def validU (s : List UInt8) : Bool :=
  if h : s = [] then true else (begU s).2 && validU (s.drop (max (begU s).1 1))
termination_by s.length
decreasing_by
  have : 0 < s.length := by rcases s with _ | _; exact absurd rfl h; simp
  rw [List.length_drop]; omega
theorem pcs_nil : pcs [] = [] := by rw [pcs]; simp
theorem pcs_cons {s : List UInt8} (h : s ≠ []) : pcs s = (if (begU s).2 = true then valU (s.take (begU s).1) else 65533, max (begU s).1 1) :: pcs (s.drop (max (begU s).1 1)) := by
  rw [pcs, dif_neg h]
theorem validU_nil : validU [] = true := by rw [validU]; simp
theorem validU_cons {s : List UInt8} (h : s ≠ []) : validU s = ((begU s).2 && validU (s.drop (max (begU s).1 1))) := by rw [validU, dif_neg h]

theorem pcs_enc {v : Int} (hv : isSc v = true) (t : List UInt8) : pcs (encU v ++ t) = (v, (encU v).length) :: pcs t := by
  have hp := @encU_pos v
  rw [pcs_cons (by intro e; rw [List.append_eq_nil_iff] at e; rw [e.1] at hp; simp at hp), begU_enc hv t]
  simp only [if_true]
  rw [List.take_left' rfl, Nat.max_eq_left (by omega), List.drop_left' rfl, valU_enc hv]
theorem validU_enc {v : Int} (hv : isSc v = true) (t : List UInt8) : validU (encU v ++ t) = validU t := by
  have hp := @encU_pos v
  rw [validU_cons (by intro e; rw [List.append_eq_nil_iff] at e; rw [e.1] at hp; simp at hp), begU_enc hv t]
  rw [Bool.true_and, Nat.max_eq_left (by omega), List.drop_left' rfl]
/-- scalars' bytes, one behind the other -/
def encsU (l : List Int) : List UInt8 := l.flatMap encU
theorem encsU_nil : encsU [] = [] := rfl
theorem encsU_cons {v : Int} {l : List Int} : encsU (v :: l) = encU v ++ encsU l := by simp [encsU]
theorem encsU_app {l k : List Int} : encsU (l ++ k) = encsU l ++ encsU k := by simp [encsU]
theorem pcs_encs : ∀ {l : List Int}, (∀ v ∈ l, isSc v = true) → ∀ t, pcs (encsU l ++ t) = (l.map fun v => (v, (encU v).length)) ++ pcs t
  | [], _, t => by simp [encsU]
  | v :: l, h, t => by rw [encsU_cons, List.append_assoc, pcs_enc (h v (by simp)), pcs_encs (fun u hu => h u (by simp [hu])) t]; simp
theorem validU_encs : ∀ {l : List Int}, (∀ v ∈ l, isSc v = true) → ∀ t, validU (encsU l ++ t) = validU t
  | [], _, t => by simp [encsU]
  | v :: l, h, t => by rw [encsU_cons, List.append_assoc, validU_enc (h v (by simp)), validU_encs (fun u hu => h u (by simp [hu])) t]
theorem validU_text : ∀ (n : Nat) {s : List UInt8}, s.length ≤ n → validU s = true → ∃ l : List Int, (∀ v ∈ l, isSc v = true) ∧ s = encsU l
  | 0, s, h, _ => ⟨[], by simp, List.eq_nil_of_length_eq_zero (by omega)⟩
  | n + 1, s, h, hv => by
    by_cases h0 : s = []
    · exact ⟨[], by simp, h0⟩
    rw [validU_cons h0, Bool.and_eq_true] at hv
    obtain ⟨v, t, hs, rfl, hb⟩ := begU_whole hv.1
    have hp := @encU_pos v
    have hd : (encU v ++ t).drop (max (begU (encU v ++ t)).1 1) = t := by rw [hb, Nat.max_eq_left (by omega), List.drop_left' rfl]
    rw [hd] at hv
    obtain ⟨l, hl, e⟩ := validU_text n (by rw [List.length_append] at h; omega) hv.2
    exact ⟨v :: l, by intro u hu; rcases List.mem_cons.1 hu with rfl | hu; exact hs; exact hl u hu, by rw [encsU_cons, ← e]⟩
theorem validU_iff {s : List UInt8} : validU s = true ↔ ∃ l : List Int, (∀ v ∈ l, isSc v = true) ∧ s = encsU l := by
  refine ⟨fun h => validU_text s.length (Nat.le_refl _) h, ?_⟩
  rintro ⟨l, hl, rfl⟩
  have := validU_encs hl []
  rw [List.append_nil] at this
  rw [this, validU_nil]
theorem pcs_app {a b : List UInt8} (h : validU a = true) : pcs (a ++ b) = pcs a ++ pcs b := by
  obtain ⟨l, hl, rfl⟩ := validU_iff.1 h
  rw [pcs_encs hl b]
  have := pcs_encs hl []
  rw [List.append_nil, pcs_nil, List.append_nil] at this
  rw [this]
theorem validU_app {a b : List UInt8} (h : validU a = true) : validU (a ++ b) = validU b := by
  obtain ⟨l, hl, rfl⟩ := validU_iff.1 h
  exact validU_encs hl b
theorem pcs_text {l : List Int} (hl : ∀ v ∈ l, isSc v = true) : pcs (encsU l) = l.map fun v => (v, (encU v).length) := by
  have := pcs_encs hl []
  rwa [List.append_nil, pcs_nil, List.append_nil] at this
theorem pcs_all : ∀ (n : Nat) {s : List UInt8}, s.length ≤ n → sizes (pcs s) = s.length ∧ ∀ p ∈ pcs s, isSc p.1 = true ∧ 1 ≤ p.2 ∧ p.2 ≤ 4
  | 0, s, h => by
    obtain rfl := List.eq_nil_of_length_eq_zero (by omega : s.length = 0)
    simp [pcs_nil, sizes]
  | n + 1, s, h => by
    by_cases h0 : s = []
    · subst h0; simp [pcs_nil, sizes]
    have hp : 0 < s.length := by rcases s with _ | _; exact absurd rfl h0; simp
    have hb := @begU_le s
    obtain ⟨h1, h2⟩ := pcs_all n (s := s.drop (max (begU s).1 1)) (by rw [List.length_drop]; omega)
    rw [pcs_cons h0]
    refine ⟨?_, ?_⟩
    · simp only [sizes, List.map_cons, List.sum_cons] at h1 ⊢
      rw [h1, List.length_drop]; omega
    · intro p hp
      rcases List.mem_cons.1 hp with rfl | hp
      · refine ⟨?_, by simp only; omega, by simp only; omega⟩
        simp only
        split
        · rename_i hw
          obtain ⟨v, hv, _, e⟩ := begU_take hw
          rw [e, hv]
        · decide
      · exact h2 p hp
theorem pcs_sizes {s : List UInt8} : sizes (pcs s) = s.length := (pcs_all s.length (Nat.le_refl _)).1
theorem pcs_mem {s : List UInt8} {p : Int × Nat} (h : p ∈ pcs s) : isSc p.1 = true ∧ 1 ≤ p.2 ∧ p.2 ≤ 4 := (pcs_all s.length (Nat.le_refl _)).2 p h
/-- the text of all pieces' scalars is the text just if nothing in it is ill-formed -/
theorem pcs_back {s : List UInt8} : encsU ((pcs s).map (·.1)) = s ↔ validU s = true := by
  constructor
  · intro h
    refine validU_iff.2 ⟨(pcs s).map (·.1), ?_, h.symm⟩
    intro v hv
    obtain ⟨p, hp, rfl⟩ := List.mem_map.1 hv
    exact (pcs_mem hp).1
  · intro h
    obtain ⟨l, hl, rfl⟩ := validU_iff.1 h
    rw [pcs_text hl, List.map_map]
    congr 1
    exact List.map_id l
theorem pcs_odd {b : UInt8} {t : List UInt8} (h : lsz b = 0) : pcs (b :: t) = (65533, 1) :: pcs t := by
  rw [pcs_cons (by simp)]
  have : begU (b :: t) = (0, false) := by simp [begU, h]
  simp [this]
theorem stand_nil {k : Nat} : stand k [] = [] := rfl
theorem stand_cons {k : Nat} {p : Int × Nat} {l : List (Int × Nat)} : stand k (p :: l) = (p.1, (k : Int), (p.2 : Int)) :: stand (k + p.2) l := rfl
theorem stand_len : ∀ {l : List (Int × Nat)} {k : Nat}, (stand k l).length = l.length
  | [], _ => rfl
  | p :: l, k => by simp [stand, stand_len]
theorem stand_app : ∀ {l m : List (Int × Nat)} {k : Nat}, stand k (l ++ m) = stand k l ++ stand (k + sizes l) m
  | [], m, k => by simp [stand, sizes]
  | p :: l, m, k => by simp only [List.cons_append, stand, stand_app (l := l), sizes, List.map_cons, List.sum_cons, Nat.add_assoc]
theorem stand_move {j : Nat} : ∀ {l : List (Int × Nat)} {k : Nat}, stand (k + j) l = (stand k l).map fun p => (p.1, p.2.1 + (j : Int), p.2.2)
  | [], _ => rfl
  | p :: l, k => by
    simp only [stand, List.map_cons]
    rw [show k + j + p.2 = k + p.2 + j by omega, stand_move (l := l)]
    simp
attribute [irreducible] contU begU valU encU stand
end Go.V
