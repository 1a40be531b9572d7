/- What was put is got again, modulo its size; bits of a list are that list's, a bit beyond is refused; for lists of up to 300. No condition. -/
import Derived.Test.YtoilaibpmepecaaXKeep
import Derived.Test.YtoilaibpmepecaaXWakes05
import Derived.Test.YtoilaibpmepecaaXx8
namespace Go.Proofs.Ytoilaibpmepecaa.PurePackBack
open Go Go.RowKit Go.Proofs.Ytoilaibpmepecaa.X Go.Proofs.Ytoilaibpmepecaa.XPure Go.Proofs.Ytoilaibpmepecaa.XKeep Go.Proofs.Ytoilaibpmepecaa.XWakes05 Go.Proofs.Ytoilaibpmepecaa.XPack Go.Proofs.YtoilaibpmepecaaW.PrintWords Go.Proofs.YtoilaibpmepecaaW.PrintLast Go.Proofs.YtoilaibpmepecaaW.PrintMore
set_option linter.unusedVariables false
set_option linter.unusedSimpArgs false
set_option maxHeartbeats 1000000

theorem beyond {l : List Bool} {b : List Int} (h : IsBits l b) (hm : ¬ l.length % 8 = 0) : unbitsOk (b.set (l.length / 8) (Go.bits .or .u8 (rd b ((l.length / 8 : Nat) : Int)) (shl .u8 1 ((l.length % 8 : Nat) : Int)))) l.length = false := by
  have hl := h.len
  obtain ⟨h1, h2⟩ := set_or b h.bytes l.length (by omega)
  apply Bool.eq_false_iff.2
  intro hok
  have := ((ok_iff _ _).1 hok).2.2.2 l.length (by omega)
  rw [h2] at this
  simp at this
theorem PackBack : caesuralaw05_PackBack.Pure := by
  intro b n l hb _ hn hl
  have hb' : ∀ x ∈ b, 0 ≤ x ∧ x < 256 := fun x hx => u8b (hb.2 x hx)
  have hv := u32b hn.1
  have hs := u32b hn.2
  refine Ev.rounds (g := fun k => caesuralaw05_PackBack.f k b n.f0 n.f1 l) ?_
  have hw : ∀ x : Bool, x = true → Ev (fun k => caesuralaw05_PackBack.j0 k b l n.f0 n.f1 x) true := by
    intro x hx
    subst hx
    refine Ev.step (f := fun k => (caesuralaw05_wakes.f k).bind fun t => some t) (fun k => by simp only [caesuralaw05_PackBack.j0, if_true]) (Ev.bind wakes (Ev.now _))
  unfold caesuralaw05_PackBack.f
  by_cases c1 : (b.length : Int) > 300
  · exact Ev.pos c1 (hw _ rfl)
  · refine Ev.neg c1 ?_
    by_cases c2 : (l.length : Int) > 300
    · exact hw _ (decide_eq_true c2)
    · rw [decide_eq_false c2]
      obtain ⟨s, hs1, hs4, hse⟩ := size_of n.f1 hs.1 (by omega)
      have hve : wrap64 n.f0 = n.f0 := w64 (by omega) (by omega)
      have hpl := put_len b n.f0 s
      have hpb := put_bytes b n.f0 s hb'
      refine Ev.step (fun k => by simp only [caesuralaw05_PackBack.j0, Bool.false_eq_true, if_false]; rfl) ?_
      rw [hse, hve]
      refine Ev.bindc (put_eq b n.f0 s (by omega)) ?_
      refine Ev.pos (by rw [w64 (by omega) (by omega)]; omega) (Ev.pos (by omega) (Ev.pos (by omega) ?_))
      have ht : (putS b n.f0 s).take ((b.length : Int)).toNat = b := by unfold putS; rw [Int.toNat_natCast, List.take_left]
      rw [ht]
      refine Ev.bindc (keep_bytes b b hb' hb') ?_
      rw [decide_eq_true rfl]
      refine Ev.step (fun k => by simp only [caesuralaw05_PackBack.j1, Bool.not_true, Bool.false_eq_true, if_false]; rfl) ?_
      have hg := get_put b [] n.f0 s hs1 hs4
      rw [List.append_nil] at hg
      have g1 := get_ev (putS b n.f0 s) b.length s hpb (by omega) (by omega)
      rw [hg] at g1
      refine Ev.bind g1 (Ev.pos rfl ?_)
      rw [hve, mask64 n.f0 s hs1 hs4 hv]
      have e1 : IntKind.u64.wrap (wrap64 (8 * (s : Int))) = ((8 * s : Nat) : Int) := by rw [w64 (by omega) (by omega), u64w (by omega) (by omega)]; omega
      rw [e1]
      refine Ev.pos (by omega) ?_
      rw [bne_self_eq_false]
      refine Ev.step (fun k => by simp only [caesuralaw05_PackBack.j2, Bool.false_eq_true, if_false]; rfl) ?_
      obtain ⟨r, hr, q⟩ := bits_ev l (by omega)
      have ql := q.len
      have u1 := unbits_ev r l.length q.bytes (by omega)
      rw [unbits_bits q] at u1
      refine Ev.bind hr (Ev.bind u1 (Ev.pos rfl (Ev.bind (keep_bools l l (by omega)) (Ev.pos (decide_eq_true rfl) ?_))))
      have e2 : ((r.length : Int) != wrap64 (Int.tdiv (wrap64 ((l.length : Int) + 7)) 8)) = false := by
        rw [w64 (n := (l.length : Int) + 7) (by omega) (by omega), tdiv_nn (by omega), w64 (by omega) (by omega), ql]
        simp
      rw [e2]
      refine Ev.step (fun k => by simp only [caesuralaw05_PackBack.j3, Bool.false_eq_true, if_false]; rfl) ?_
      by_cases hm : l.length % 8 = 0
      · exact Ev.pos (by omega) (Ev.bind wakes (Ev.now _))
      · refine Ev.neg (by omega) ?_
        have e3 : wrap64 ((r.length : Int) - 1) = ((l.length / 8 : Nat) : Int) := by rw [w64 (by omega) (by omega)]; omega
        rw [e3, Int.toNat_natCast]
        have e4 : ((2 : Int) ^ ((l.length : Int) % 8).toNat) % 256 = shl .u8 1 ((l.length % 8 : Nat) : Int) := by
          have h1 : ((l.length : Int) % 8).toNat = l.length % 8 := by omega
          have h2 := two_pow_lt (l.length % 8) (by omega)
          have h3 : (2 : Int) ^ (l.length % 8) = (((2 ^ (l.length % 8) : Nat) : Int)) := by exact_mod_cast rfl
          rw [shl1 _ (by omega), h1, h3]
          generalize 2 ^ (l.length % 8) = p at h2
          omega
        rw [e4]
        obtain ⟨h1, h2⟩ := set_or r q.bytes l.length (by omega)
        have u2 := unbits_ev (r.set (l.length / 8) (Go.bits .or .u8 (rd r ((l.length / 8 : Nat) : Int)) (shl .u8 1 ((l.length % 8 : Nat) : Int)))) l.length h1 (by rw [List.length_set]; omega)
        have u3 : unbitsS (r.set (l.length / 8) (Go.bits .or .u8 (rd r ((l.length / 8 : Nat) : Int)) (shl .u8 1 ((l.length % 8 : Nat) : Int)))) l.length = ([], false) := by
          unfold unbitsS
          rw [beyond q hm]
          rfl
        rw [u3] at u2
        refine Ev.pos (by omega) (Ev.pos (by omega) (Ev.bind u2 (Ev.neg (by decide) (Ev.bind wakes (Ev.now _)))))
end Go.Proofs.Ytoilaibpmepecaa.PurePackBack
namespace Go.Proofs.Ytoilaibpmepecaa.Pure
theorem PackBack : X.caesuralaw05_PackBack.Pure := PurePackBack.PackBack
end Go.Proofs.Ytoilaibpmepecaa.Pure
