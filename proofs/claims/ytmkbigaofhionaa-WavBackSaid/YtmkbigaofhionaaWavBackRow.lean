/- The statement WavBackSaid of mortiselaw19: what is written is read; the law returns true at every input. No condition. -/
import Derived.Test.YtmkbigaofhionaaLawK
import Derived.Test.YtmkbigaofhionaaLift
import Derived.Test.YtmkbigaofhionaaOwn
namespace Go.Proofs.Ytmkbigaofhionaa
open Go.ChangeShapes Go.WideShapes Go.ChangeAt Go.RowKit
set_option linter.unusedVariables false

set_option maxRecDepth 100000 in
theorem wavBack_law (H : Type) (enc : TypeId × Value → H) : LawCalls Try.checked enc 11 Try.f11 := by
  intro W base args ds p hval hA hlt hsz
  rw [Try.params11] at hA hval hsz
  obtain ⟨v0, d0, hargs, rfl, h0⟩ := trodAll_one hA
  subst hargs
  have hw := fun n hn => weights_le hsz n hn
  obtain ⟨x, cs, rfl, hx, _⟩ := arg_struct (t := .pair (.int .i64) (.pair (.int .i64) (.pair (.int .i64) (.pair .str (.pair (.slice 32 tCh) .unit))))) (by kernel_rfl) Try.underlying60 (hval 0 _ v0 rfl rfl) h0 (weights_head hw)
  obtain ⟨a, b, c, d, xs, u⟩ := x
  have hxs : smallT xs := sound_small hx
  exact law_of eBack.ok.1 (avs_cons (av_agg hx) avs_nil) ⟨hxs, rfl⟩

set_option maxRecDepth 100000 in
theorem wavBack_holds : Rows.WavBackSaid :=
  OpenClaim.holds_of_wide 11 Try.f11 rfl rfl rfl rfl rfl rfl rfl ⟨rfl, rfl, rfl, rfl, rfl⟩ rfl rfl rfl rfl rfl (by kernel_rfl) Try.func11 (by kernel_rfl)
    (of_decide_eq_true (by kernel_rfl)) (by unfold Func.isWrapper; rw [if_neg (by decide +kernel)]; exact ⟨rfl, rfl⟩)
    (fun os started H enc _ => law_handed (s := Rows.wavBackSpec) own laidOut started (by kernel_rfl) Try.func11 rfl Try.underlying4 (by kernel_rfl) rfl
      (fun ds h => by rw [Try.params11] at h; match ds, h with | [d0], _ => exact ⟨rfl, rfl, rfl⟩)
      (ChangeSpec.witness6 (enc := enc) (C := Try.checked) false ⟨#[], #[.agg #[.int .i64 0, .int .i64 0, .int .i64 0, .string ⟨#[]⟩, .slice none 0 0]], []⟩ 8 (by kernel_rfl) (by kernel_rfl) (by kernel_rfl) (by kernel_rfl))
      (wavBack_law H enc))

end Go.Proofs.Ytmkbigaofhionaa
