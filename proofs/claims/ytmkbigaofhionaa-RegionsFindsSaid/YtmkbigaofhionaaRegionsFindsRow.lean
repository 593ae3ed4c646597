/- The statement RegionsFindsSaid of mortiselaw04: what the span has in which any byte lies; the law returns true at every input. No condition. -/
import Derived.Test.YtmkbigaofhionaaLawE
import Derived.Test.YtmkbigaofhionaaLift
import Derived.Test.YtmkbigaofhionaaOwn
namespace Go.Proofs.Ytmkbigaofhionaa
open Go.ChangeShapes Go.WideShapes Go.ChangeAt Go.RowKit
set_option linter.unusedVariables false

set_option maxRecDepth 100000 in
theorem regionsFinds_law (H : Type) (enc : TypeId × Value → H) : LawCalls Try.checked enc 3 Try.f3 := by
  intro W base args ds p hval hA hlt hsz
  rw [Try.params3] at hA hval hsz
  obtain ⟨v0, v1, d0, d1, p0, p1, hargs, rfl, rfl, h0, h1⟩ := trodAll_two hA
  subst hargs
  have hw := fun n hn => weights_le hsz n hn
  obtain ⟨xs, a, cap, rfl, hx, _⟩ := arg_slice (bytes := 16) (e := .pair (.int .i64) (.pair (.int .i64) .unit)) (by kernel_rfl) Try.underlying22 (hval 0 _ v0 rfl rfl) h0 (weights_head hw)
  obtain ⟨n, rfl, _, _⟩ := arg_int Try.underlying3 (hval 1 _ v1 rfl rfl) h1
  exact regionsFinds_calls xs a cap n W hx

set_option maxRecDepth 100000 in
theorem regionsFinds_holds : Rows.RegionsFindsSaid :=
  OpenClaim.holds_of_wide 3 Try.f3 rfl rfl rfl rfl rfl rfl rfl ⟨rfl, rfl, rfl, rfl, rfl⟩ rfl rfl rfl rfl rfl (by kernel_rfl) Try.func3 (by kernel_rfl)
    (of_decide_eq_true (by kernel_rfl)) (by unfold Func.isWrapper; rw [if_neg (by decide +kernel)]; exact ⟨rfl, rfl⟩)
    (fun os started H enc _ => law_handed (s := Rows.regionsFindsSpec) own laidOut started (by kernel_rfl) Try.func3 rfl Try.underlying4 (by kernel_rfl) rfl
      (fun ds h => by rw [Try.params3] at h; match ds, h with | [d0, d1], _ => exact ⟨rfl, rfl, rfl⟩)
      (ChangeSpec.witness6 (enc := enc) (C := Try.checked) false ⟨#[], #[.slice none 0 0, .int .i64 0], []⟩ 8 (by kernel_rfl) (by kernel_rfl) (by kernel_rfl) (by kernel_rfl))
      (regionsFinds_law H enc))

end Go.Proofs.Ytmkbigaofhionaa
