/- The statement WavOrderSaid of mortiselaw19: other chunks may stand anywhere; the law returns true at every input. No condition. -/
import Derived.Test.YtmkbigaofhionaaLawK
import Derived.Test.YtmkbigaofhionaaLift
import Derived.Test.YtmkbigaofhionaaOwn
namespace Go.Proofs.Ytmkbigaofhionaa
open Go.ChangeShapes Go.WideShapes Go.ChangeAt Go.RowKit
set_option linter.unusedVariables false

set_option maxRecDepth 100000 in
theorem wavOrder_law (H : Type) (enc : TypeId × Value → H) : LawCalls Try.checked enc 13 Try.f13 := by
  intro W base args ds p hval hA hlt hsz
  rw [Try.params13] at hA hval hsz
  obtain ⟨v0, v1, d0, d1, p0, p1, hargs, rfl, rfl, h0, h1⟩ := trodAll_two hA
  subst hargs
  have hw := fun n hn => weights_le hsz n hn
  obtain ⟨x, cs, rfl, hx, _⟩ := arg_struct (t := .pair (.int .i64) (.pair (.int .i64) (.pair (.int .i64) (.pair .str (.pair (.slice 32 tCh) .unit))))) (by kernel_rfl) Try.underlying60 (hval 0 _ v0 rfl rfl) h0 (weights_head hw)
  obtain ⟨a, b, c, d, xs, u⟩ := x
  have hxs : smallT xs := sound_small hx
  obtain ⟨n, rfl, n0, n1⟩ := arg_int Try.underlying3 (hval 1 _ v1 rfl rfl) h1
  rw [i64_min] at n0
  rw [i64_max] at n1
  exact law_of eOrder.ok.1 (avs_cons (av_agg hx) (avs_cons av_int avs_nil)) ⟨⟨hxs, n0, n1⟩, rfl⟩

set_option maxRecDepth 100000 in
theorem wavOrder_holds : Rows.WavOrderSaid :=
  OpenClaim.holds_of_wide 13 Try.f13 rfl rfl rfl rfl rfl rfl rfl ⟨rfl, rfl, rfl, rfl, rfl⟩ rfl rfl rfl rfl rfl (by kernel_rfl) Try.func13 (by kernel_rfl)
    (of_decide_eq_true (by kernel_rfl)) (by unfold Func.isWrapper; rw [if_neg (by decide +kernel)]; exact ⟨rfl, rfl⟩)
    (fun os started H enc _ => law_handed (s := Rows.wavOrderSpec) own laidOut started (by kernel_rfl) Try.func13 rfl Try.underlying4 (by kernel_rfl) rfl
      (fun ds h => by rw [Try.params13] at h; match ds, h with | [d0, d1], _ => exact ⟨rfl, rfl, rfl⟩)
      (ChangeSpec.witness6 (enc := enc) (C := Try.checked) false ⟨#[], #[.agg #[.int .i64 0, .int .i64 0, .int .i64 0, .string ⟨#[]⟩, .slice none 0 0], .int .i64 0], []⟩ 8 (by kernel_rfl) (by kernel_rfl) (by kernel_rfl) (by kernel_rfl))
      (wavOrder_law H enc))

end Go.Proofs.Ytmkbigaofhionaa
