/- The statement RegionsTurnedSaid of mortiselaw04: spans of which none meets another one may come in any order; the law returns true at every input. No condition. -/
import Derived.Test.YtmkbigaofhionaaLawJ
import Derived.Test.YtmkbigaofhionaaLift
import Derived.Test.YtmkbigaofhionaaOwn
namespace Go.Proofs.Ytmkbigaofhionaa
open Go.ChangeShapes Go.WideShapes Go.ChangeAt Go.RowKit
set_option linter.unusedVariables false

set_option maxRecDepth 100000 in
theorem regionsTurned_law (H : Type) (enc : TypeId × Value → H) : LawCalls Try.checked enc 7 Try.f7 := by
  intro W base args ds p hval hA hlt hsz
  rw [Try.params7] at hA hval hsz
  obtain ⟨v0, d0, hargs, rfl, h0⟩ := trodAll_one hA
  subst hargs
  have hw := fun n hn => weights_le hsz n hn
  obtain ⟨xs, a, cap, rfl, hx, _⟩ := arg_slice (bytes := 16) (e := .pair (.int .i64) (.pair (.int .i64) .unit)) (by kernel_rfl) Try.underlying22 (hval 0 _ v0 rfl rfl) h0 (weights_head hw)
  exact regionsTurned_calls xs a cap W hx

set_option maxRecDepth 100000 in
theorem regionsTurned_holds : Rows.RegionsTurnedSaid :=
  OpenClaim.holds_of_wide 7 Try.f7 rfl rfl rfl rfl rfl rfl rfl ⟨rfl, rfl, rfl, rfl, rfl⟩ rfl rfl rfl rfl rfl (by kernel_rfl) Try.func7 (by kernel_rfl)
    (of_decide_eq_true (by kernel_rfl)) (by unfold Func.isWrapper; rw [if_neg (by decide +kernel)]; exact ⟨rfl, rfl⟩)
    (fun os started H enc _ => law_handed (s := Rows.regionsTurnedSpec) own laidOut started (by kernel_rfl) Try.func7 rfl Try.underlying4 (by kernel_rfl) rfl
      (fun ds h => by rw [Try.params7] at h; match ds, h with | [d0], _ => exact ⟨rfl, rfl, rfl⟩)
      (ChangeSpec.witness6 (enc := enc) (C := Try.checked) false ⟨#[], #[.slice none 0 0], []⟩ 8 (by kernel_rfl) (by kernel_rfl) (by kernel_rfl) (by kernel_rfl))
      (regionsTurned_law H enc))

end Go.Proofs.Ytmkbigaofhionaa
