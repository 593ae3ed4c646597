/- The statement RegionsAddsSaid of mortiselaw04: any spans put in: which are, what is in, and what of any span is free; the law returns true at every input. No condition. -/
import Derived.Test.YtmkbigaofhionaaLawH
import Derived.Test.YtmkbigaofhionaaLift
import Derived.Test.YtmkbigaofhionaaOwn
namespace Go.Proofs.Ytmkbigaofhionaa
open Go.ChangeShapes Go.WideShapes Go.ChangeAt Go.RowKit
set_option linter.unusedVariables false

set_option maxRecDepth 100000 in
theorem regionsAdds_law (H : Type) (enc : TypeId × Value → H) : LawCalls Try.checked enc 6 Try.f6 := by
  intro W base args ds p hval hA hlt hsz
  rw [Try.params6] at hA hval hsz
  obtain ⟨v0, v1, v2, d0, d1, d2, p0, p1, p2, hargs, rfl, rfl, h0, h1, h2⟩ := trodAll_three hA
  subst hargs
  have hw := fun n hn => weights_le hsz n hn
  obtain ⟨xs, a, cap, rfl, hx, _⟩ := arg_slice (bytes := 16) (e := .pair (.int .i64) (.pair (.int .i64) .unit)) (by kernel_rfl) Try.underlying22 (hval 0 _ v0 rfl rfl) h0 (weights_head hw)
  obtain ⟨lo, rfl, n0, n1⟩ := arg_int Try.underlying3 (hval 1 _ v1 rfl rfl) h1
  obtain ⟨hi, rfl, m0, m1⟩ := arg_int Try.underlying3 (hval 2 _ v2 rfl rfl) h2
  exact regionsAdds_calls xs a cap lo hi W hx

set_option maxRecDepth 100000 in
theorem regionsAdds_holds : Rows.RegionsAddsSaid :=
  OpenClaim.holds_of_wide 6 Try.f6 rfl rfl rfl rfl rfl rfl rfl ⟨rfl, rfl, rfl, rfl, rfl⟩ rfl rfl rfl rfl rfl (by kernel_rfl) Try.func6 (by kernel_rfl)
    (of_decide_eq_true (by kernel_rfl)) (by unfold Func.isWrapper; rw [if_neg (by decide +kernel)]; exact ⟨rfl, rfl⟩)
    (fun os started H enc _ => law_handed (s := Rows.regionsAddsSpec) own laidOut started (by kernel_rfl) Try.func6 rfl Try.underlying4 (by kernel_rfl) rfl
      (fun ds h => by rw [Try.params6] at h; match ds, h with | [d0, d1, d2], _ => exact ⟨rfl, rfl, rfl⟩)
      (ChangeSpec.witness6 (enc := enc) (C := Try.checked) false ⟨#[], #[.slice none 0 0, .int .i64 0, .int .i64 0], []⟩ 8 (by kernel_rfl) (by kernel_rfl) (by kernel_rfl) (by kernel_rfl))
      (regionsAdds_law H enc))

end Go.Proofs.Ytmkbigaofhionaa
