/- The statement WavSplitsSaid of mortiselaw19: the form and chunks of any bytes, or why there are none; the law returns true at every input. No condition. -/
import Derived.Test.YtmkbigaofhionaaLawK
import Derived.Test.YtmkbigaofhionaaLift
import Derived.Test.YtmkbigaofhionaaOwn
namespace Go.Proofs.Ytmkbigaofhionaa
open Go.ChangeShapes Go.WideShapes Go.ChangeAt Go.RowKit
set_option linter.unusedVariables false

set_option maxRecDepth 100000 in
theorem wavSplits_law (H : Type) (enc : TypeId × Value → H) : LawCalls Try.checked enc 8 Try.f8 := by
  intro W base args ds p hval hA hlt hsz
  rw [Try.params8] at hA hval hsz
  obtain ⟨v0, d0, hargs, rfl, h0⟩ := trodAll_one hA
  subst hargs
  have hw := fun n hn => weights_le hsz n hn
  obtain ⟨s, rfl, hs, _⟩ := arg_str Try.underlying9 (hval 0 _ v0 rfl rfl) h0 (weights_head hw)
  exact law_of eSplits.ok.1 (avs_cons av_str avs_nil) rfl

set_option maxRecDepth 100000 in
theorem wavSplits_holds : Rows.WavSplitsSaid :=
  OpenClaim.holds_of_wide 8 Try.f8 rfl rfl rfl rfl rfl rfl rfl ⟨rfl, rfl, rfl, rfl, rfl⟩ rfl rfl rfl rfl rfl (by kernel_rfl) Try.func8 (by kernel_rfl)
    (of_decide_eq_true (by kernel_rfl)) (by unfold Func.isWrapper; rw [if_neg (by decide +kernel)]; exact ⟨rfl, rfl⟩)
    (fun os started H enc _ => law_handed (s := Rows.wavSplitsSpec) own laidOut started (by kernel_rfl) Try.func8 rfl Try.underlying4 (by kernel_rfl) rfl
      (fun ds h => by rw [Try.params8] at h; match ds, h with | [d0], _ => exact ⟨rfl, rfl, rfl⟩)
      (ChangeSpec.witness6 (enc := enc) (C := Try.checked) false ⟨#[], #[.string ⟨#[]⟩], []⟩ 8 (by kernel_rfl) (by kernel_rfl) (by kernel_rfl) (by kernel_rfl))
      (wavSplits_law H enc))

end Go.Proofs.Ytmkbigaofhionaa
