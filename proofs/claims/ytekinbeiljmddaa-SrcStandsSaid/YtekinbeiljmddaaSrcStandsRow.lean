/- The statement SrcStandsSaid of mortiselaw02: what a read tells stands there, and with an error but ErrCut nothing is told; the law returns true at every input. No condition. -/
import Derived.Test.YtekinbeiljmddaaLawB
namespace Go.Proofs.Ytekinbeiljmddaa
open Go.ChangeShapes Go.WideShapes Go.ChangeAt Go.RowKit
set_option linter.unusedVariables false

theorem srcStands_law (H : Type) (enc : TypeId × Value → H) : LawCalls Try.checked enc 3 Try.f3 := by
  intro W base args ds p hval hA hlt hsz
  rw [Try.params3] at hA hval hsz
  obtain ⟨v0, d0, hargs, rfl, h0⟩ := trodAll_one hA
  subst hargs
  have hw := fun n hn => weights_le hsz n hn
  obtain ⟨x, cs, rfl, hx, _⟩ := arg_struct (t := .pair .str (.pair TSteps (.pair (.int .i64) (.pair (.int .i64) .unit)))) (by kernel_rfl) Try.underlying24 (hval 0 _ v0 rfl rfl) h0 (weights_head hw)
  obtain ⟨r1, rfl, hs, hx⟩ := rep_str hx
  obtain ⟨r2, a, cap, rfl, hr, hx⟩ := rep_slice hx
  obtain ⟨r3, rfl, _, _, hx⟩ := rep_int hx
  obtain ⟨r4, rfl, _, _, hx⟩ := rep_int hx
  have := rep_unit hx
  subst this
  exact srcStands_calls _ _ a cap _ _ W hr hs

set_option maxRecDepth 100000 in
theorem srcStands_holds : Rows.SrcStandsSaid :=
  OpenClaim.holds_of_wide 3 Try.f3 rfl rfl rfl rfl rfl rfl rfl ⟨rfl, rfl, rfl, rfl, rfl⟩ rfl rfl rfl rfl rfl (by kernel_rfl) Try.func3 (by kernel_rfl)
    (of_decide_eq_true (by kernel_rfl)) (by unfold Func.isWrapper; rw [if_neg (by decide +kernel)]; exact ⟨rfl, rfl⟩)
    (fun os started H enc _ => law_handed (s := Rows.srcStandsSpec) own laidOut started (by kernel_rfl) Try.func3 rfl Try.underlying4 (by kernel_rfl) rfl
      (fun ds h => by rw [Try.params3] at h; match ds, h with | [d0], _ => exact ⟨rfl, rfl, rfl⟩)
      (ChangeSpec.witness6 (enc := enc) (C := Try.checked) false ⟨#[], #[.agg #[.string ⟨#[]⟩, .slice none 0 0, .int .i64 0, .int .i64 0]], []⟩ 8 (by kernel_rfl) (by kernel_rfl) (by kernel_rfl) (by kernel_rfl))
      (srcStands_law H enc))

end Go.Proofs.Ytekinbeiljmddaa
