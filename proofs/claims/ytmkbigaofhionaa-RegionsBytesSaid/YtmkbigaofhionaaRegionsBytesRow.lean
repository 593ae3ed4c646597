/- The statement RegionsBytesSaid of mortiselaw04: each byte of a span that is in is found with what the span has; the law returns true at every input. No condition. -/
import Derived.Test.YtmkbigaofhionaaLawI
import Derived.Test.YtmkbigaofhionaaLift
import Derived.Test.YtmkbigaofhionaaOwn
namespace Go.Proofs.Ytmkbigaofhionaa
open Go.ChangeShapes Go.WideShapes Go.ChangeAt Go.RowKit
set_option linter.unusedVariables false

set_option maxRecDepth 100000 in
theorem regionsBytes_law (H : Type) (enc : TypeId × Value → H) : LawCalls Try.checked enc 5 Try.f5 := by
  intro W base args ds p hval hA hlt hsz
  rw [Try.params5] at hA hval hsz
  obtain ⟨v0, d0, hargs, rfl, h0⟩ := trodAll_one hA
  subst hargs
  have hw := fun n hn => weights_le hsz n hn
  obtain ⟨xs, a, cap, rfl, hx, _⟩ := arg_slice (bytes := 16) (e := .pair (.int .i64) (.pair (.int .i64) .unit)) (by kernel_rfl) Try.underlying22 (hval 0 _ v0 rfl rfl) h0 (weights_head hw)
  exact regionsBytes_calls xs a cap W hx

set_option maxRecDepth 100000 in
theorem regionsBytes_holds : Rows.RegionsBytesSaid :=
  OpenClaim.holds_of_wide 5 Try.f5 rfl rfl rfl rfl rfl rfl rfl ⟨rfl, rfl, rfl, rfl, rfl⟩ rfl rfl rfl rfl rfl (by kernel_rfl) Try.func5 (by kernel_rfl)
    (of_decide_eq_true (by kernel_rfl)) (by unfold Func.isWrapper; rw [if_neg (by decide +kernel)]; exact ⟨rfl, rfl⟩)
    (fun os started H enc _ => law_handed (s := Rows.regionsBytesSpec) own laidOut started (by kernel_rfl) Try.func5 rfl Try.underlying4 (by kernel_rfl) rfl
      (fun ds h => by rw [Try.params5] at h; match ds, h with | [d0], _ => exact ⟨rfl, rfl, rfl⟩)
      (ChangeSpec.witness6 (enc := enc) (C := Try.checked) false ⟨#[], #[.slice none 0 0], []⟩ 8 (by kernel_rfl) (by kernel_rfl) (by kernel_rfl) (by kernel_rfl))
      (regionsBytes_law H enc))

end Go.Proofs.Ytmkbigaofhionaa
