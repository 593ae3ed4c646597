/- strings.HasPrefix by the abstract machine. -/
import Derived.Test.YtmkbigaofhionaaAbsG
import Derived.Test.YtmkbigaofhionaaTT
namespace Go.Proofs.Ytmkbigaofhionaa
open Go.RowKit
set_option linter.unusedVariables false
set_option linter.unusedSimpArgs false

theorem mixed : Try.prog.follows .mixedOrders = true := by kernel_rfl

/-- strings.HasPrefix. -/
def prefB (s t : ByteArray) : Bool := decide (t.size ≤ s.size) && decide (s.extract 0 t.size = t)
def ga0 : List (Ent Try.prog) := []
def hasPS : LSpec := fun n0 args p => match n0, args, p with
  | 0, [.v (.string s), .v (.string t)], [] => .ok (.v (.bool (prefB s t)), [])
  | _, _, _ => .bad
theorem hasP0_l : LocalOK Try.prog (mkC tt ga0) 86 hasPS := by
  refine ⟨Try.f86, _, Try.func86, rfl, fun n0 args p K Z h => ?_⟩
  unfold hasPS at h; split at h
  · rename_i s t; refine ⟨rfl, ?_⟩
    (repeat' (first | refine And.intro ?_ ?_ | (intro h'; first | (exfalso; revert h'; decide) | (simp only [decide_eq_true_eq, decide_eq_false_iff_not, Bool.not_eq_true', Bool.not_eq_false', bne_iff_ne, beq_iff_eq, ne_eq, bne_eq_false_iff_eq, beq_eq_false_iff_ne, Int.reduceToNat, Int.toNat_natCast, Int.reduceAdd, Int.reduceSub, ByteArray.size_extract] at h'; first | (guard_hyp h' : True; clear h') | (exfalso; omega) | skip) | skip)))
    all_goals first | (change K _ at h; refine K_of (K := K) h ?_) | skip
    all_goals (simp_all [prefB]; try omega)
  · exact h.elim
noncomputable def eHasP0 : Ent Try.prog := Ent.of tt_ok mixed hasP0_l (by kernel_rfl)
theorem hasP_l : LocalOK Try.prog (mkC tt [eHasP0]) 56 hasPS := by
  refine ⟨Try.f56, _, Try.func56, rfl, fun n0 args p K Z h => ?_⟩
  unfold hasPS at h; split at h
  · rename_i s t; refine ⟨rfl, ?_⟩
    (repeat' (first | refine And.intro ?_ ?_ | (intro h'; first | (exfalso; revert h'; decide) | (simp only [decide_eq_true_eq, decide_eq_false_iff_not, Bool.not_eq_true', Bool.not_eq_false', bne_iff_ne, beq_iff_eq, ne_eq, bne_eq_false_iff_eq, beq_eq_false_iff_ne, Int.reduceToNat, Int.toNat_natCast, Int.reduceAdd, Int.reduceSub, ByteArray.size_extract] at h'; first | (guard_hyp h' : True; clear h') | (exfalso; omega) | skip) | skip)))
    all_goals first | (change K _ at h; refine K_of (K := K) h ?_) | skip
    all_goals (simp_all [prefB]; try omega)
  · exact h.elim
noncomputable def eHasP : Ent Try.prog := Ent.of tt_ok mixed hasP_l (by kernel_rfl)
end Go.Proofs.Ytmkbigaofhionaa
