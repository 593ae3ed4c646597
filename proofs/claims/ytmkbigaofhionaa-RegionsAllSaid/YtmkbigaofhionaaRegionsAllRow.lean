/- The statement RegionsAllSaid of mortiselaw04: gaps and what is covered are all bytes; a gap, put in, is none any more; the law returns true at every input. No condition. -/
import Derived.Test.YtmkbigaofhionaaLawG
import Derived.Test.YtmkbigaofhionaaLift
import Derived.Test.YtmkbigaofhionaaOwn
namespace Go.Proofs.Ytmkbigaofhionaa
open Go.ChangeShapes Go.WideShapes Go.ChangeAt Go.RowKit
set_option linter.unusedVariables false

set_option maxRecDepth 100000 in
theorem regionsAll_law (H : Type) (enc : TypeId × Value → H) : LawCalls Try.checked enc 4 Try.f4 := by
  intro W base args ds p hval hA hlt hsz
  rw [Try.params4] at hA hval hsz
  obtain ⟨v0, v1, v2, d0, d1, d2, p0, p1, p2, hargs, rfl, rfl, h0, h1, h2⟩ := trodAll_three hA
  subst hargs
  have hw := fun n hn => weights_le hsz n hn
  obtain ⟨xs, a, cap, rfl, hx, _⟩ := arg_slice (bytes := 16) (e := .pair (.int .i64) (.pair (.int .i64) .unit)) (by kernel_rfl) Try.underlying22 (hval 0 _ v0 rfl rfl) h0 (weights_head hw)
  obtain ⟨lo, rfl, n0, n1⟩ := arg_int Try.underlying3 (hval 1 _ v1 rfl rfl) h1
  obtain ⟨hi, rfl, m0, m1⟩ := arg_int Try.underlying3 (hval 2 _ v2 rfl rfl) h2
  rw [i64_min] at n0; rw [i64_max] at m1
  exact regionsAll_calls xs a cap lo hi W hx n0 m1

set_option maxRecDepth 100000 in
theorem regionsAll_holds : Rows.RegionsAllSaid :=
  OpenClaim.holds_of_wide 4 Try.f4 rfl rfl rfl rfl rfl rfl rfl ⟨rfl, rfl, rfl, rfl, rfl⟩ rfl rfl rfl rfl rfl (by kernel_rfl) Try.func4 (by kernel_rfl)
    (of_decide_eq_true (by kernel_rfl)) (by unfold Func.isWrapper; rw [if_neg (by decide +kernel)]; exact ⟨rfl, rfl⟩)
    (fun os started H enc _ => law_handed (s := Rows.regionsAllSpec) own laidOut started (by kernel_rfl) Try.func4 rfl Try.underlying4 (by kernel_rfl) rfl
      (fun ds h => by rw [Try.params4] at h; match ds, h with | [d0, d1, d2], _ => exact ⟨rfl, rfl, rfl⟩)
      (ChangeSpec.witness6 (enc := enc) (C := Try.checked) false ⟨#[], #[.slice none 0 0, .int .i64 0, .int .i64 0], []⟩ 8 (by kernel_rfl) (by kernel_rfl) (by kernel_rfl) (by kernel_rfl))
      (regionsAll_law H enc))

end Go.Proofs.Ytmkbigaofhionaa
