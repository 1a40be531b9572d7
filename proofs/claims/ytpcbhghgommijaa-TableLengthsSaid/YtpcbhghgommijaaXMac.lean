/- Short words for what the printed texts say again and again. -/
import Derived.Test.YtpcbhghgommijaaWWords
import Derived.Test.YtpcbhghgommijaaWLast
import Derived.Test.YtpcbhghgommijaaWMore
namespace Go.Proofs.Ytpcbhghgommijaa.XMac
open Go.RowKit Go.Proofs.YtpcbhghgommijaaW.PrintWords Go.Proofs.YtpcbhghgommijaaW.PrintLast Go.Proofs.YtpcbhghgommijaaW.PrintMore
scoped macro "xkb_" : tactic => `(tactic| (with_reducible repeat (first | refine blk_drewN ?_ _ | refine blk_drew ?_ | refine blk_alloc ?_ _)))
scoped macro "xkR_" : tactic => `(tactic| (with_reducible repeat (first | apply Kd.R_alloc | apply Kd.R_drewN | apply Kd.R_drew)))
scoped macro "xkS_" : tactic => `(tactic| (with_reducible repeat (first | apply Kd.S_alloc | apply Kd.S_drewN | apply Kd.S_drew)))
scoped macro "xkN_" : tactic => `(tactic| (with_reducible repeat (first | apply Kd.N_alloc | apply Kd.N_drewN | apply Kd.N_drew)))
scoped macro "xas_" : tactic => `(tactic| first | (with_reducible assumption) | assumption)
scoped macro "xlm_" : tactic => `(tactic| ((try simp only [List.map_toArray, List.map_cons, List.map_nil]); first | done | rfl | (simp only [List.length_drop, List.length_take]; rfl)))
scoped macro "xrs_" : tactic => `(tactic| first | rfl | (simp; done) | (simp [*]; done))
scoped macro "xkC_" : tactic => `(tactic| first | (with_reducible refine Kd.C_alloc ?_ _) | (with_reducible refine Kd.C_drewN ?_ _) | (with_reducible refine Kd.C_drew ?_))
scoped macro "xdd_" : tactic => `(tactic| (try first | exact ⟨rfl, _, World.drewN_drewN _ _ _⟩ | exact ⟨rfl, _, Eq.trans (World.drewN_drewN _ _ _) (congrArg (World.drewN _) (Nat.add_assoc _ _ _))⟩))
scoped macro "xgs_" : tactic => `(tactic| first | (go_simp; done) | (go_simp; rfl))
scoped macro "xgg_" : tactic => `(tactic| (try (refine gate_guard (by rfl) ?_; dsimp only)))
scoped macro "xni_" : tactic => `(tactic| first | exact Kd.R_nil _ _ _ _ _ | exact Kd.N_nil _ _ _ _ _ | exact Kd.V_nil _ _ _ _ _ | exact Kd.Q_nil _ _ _ _ _ | exact Kd.S_nil _ _ _ _ _)
scoped syntax "xcl_" (colGt ident)* : tactic
macro_rules
  | `(tactic| xcl_) => `(tactic| skip)
  | `(tactic| xcl_ $x $xs*) => `(tactic| ((try clear $x:ident); xcl_ $xs*))
scoped syntax "xsp_" (colGt ident)+ : tactic
macro_rules
  | `(tactic| xsp_ $xs*) => `(tactic| simp only [Act.put, List.setIfInBounds_toArray, List.set_cons_zero, List.set_cons_succ, $[$xs:ident],*])
end Go.Proofs.Ytpcbhghgommijaa.XMac
