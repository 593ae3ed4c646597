/- The statement SrcNoneSaid of mortiselaw02: a source that there is not tells ErrArg, and nothing, whatever is asked; the law returns true at every input. No condition. -/
import Derived.Test.YtekinbeiljmddaaLawB
namespace Go.Proofs.Ytekinbeiljmddaa
open Go.ChangeShapes Go.WideShapes Go.ChangeAt Go.RowKit
set_option linter.unusedVariables false

theorem srcNone_law (H : Type) (enc : TypeId × Value → H) : LawCalls Try.checked enc 12 Try.f12 := by
  intro W base args ds p hval hA hlt hsz
  rw [Try.params12] at hA hval hsz
  obtain ⟨v0, v1, d0, d1, p0, p1, hargs, rfl, rfl, h0, h1⟩ := trodAll_two hA
  subst hargs
  have hw := fun n hn => weights_le hsz n hn
  obtain ⟨n, rfl, _, _⟩ := arg_int Try.underlying3 (hval 0 _ v0 rfl rfl) h0
  obtain ⟨m, rfl, _, _⟩ := arg_int Try.underlying3 (hval 1 _ v1 rfl rfl) h1
  exact srcNone_calls n m W

set_option maxRecDepth 100000 in
theorem srcNone_holds : Rows.SrcNoneSaid :=
  OpenClaim.holds_of_wide 12 Try.f12 rfl rfl rfl rfl rfl rfl rfl ⟨rfl, rfl, rfl, rfl, rfl⟩ rfl rfl rfl rfl rfl (by kernel_rfl) Try.func12 (by kernel_rfl)
    (of_decide_eq_true (by kernel_rfl)) (by unfold Func.isWrapper; rw [if_neg (by decide +kernel)]; exact ⟨rfl, rfl⟩)
    (fun os started H enc _ => law_handed (s := Rows.srcNoneSpec) own laidOut started (by kernel_rfl) Try.func12 rfl Try.underlying4 (by kernel_rfl) rfl
      (fun ds h => by rw [Try.params12] at h; match ds, h with | [d0, d1], _ => exact ⟨rfl, rfl, rfl⟩)
      (ChangeSpec.witness6 (enc := enc) (C := Try.checked) false ⟨#[], #[.int .i64 0, .int .i64 0], []⟩ 8 (by kernel_rfl) (by kernel_rfl) (by kernel_rfl) (by kernel_rfl))
      (srcNone_law H enc))

end Go.Proofs.Ytekinbeiljmddaa
