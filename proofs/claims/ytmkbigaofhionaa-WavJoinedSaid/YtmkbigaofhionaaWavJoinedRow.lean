/- The statement WavJoinedSaid of mortiselaw19: what is joined is split; a file that is cut short is none; the law returns true at every input. No condition. -/
import Derived.Test.YtmkbigaofhionaaLawK
import Derived.Test.YtmkbigaofhionaaLift
import Derived.Test.YtmkbigaofhionaaOwn
namespace Go.Proofs.Ytmkbigaofhionaa
open Go.ChangeShapes Go.WideShapes Go.ChangeAt Go.RowKit
set_option linter.unusedVariables false

set_option maxRecDepth 100000 in
theorem wavJoined_law (H : Type) (enc : TypeId × Value → H) : LawCalls Try.checked enc 12 Try.f12 := by
  intro W base args ds p hval hA hlt hsz
  rw [Try.params12] at hA hval hsz
  obtain ⟨v0, v1, v2, d0, d1, d2, p0, p1, p2, hargs, rfl, rfl, h0, h1, h2⟩ := trodAll_three hA
  subst hargs
  have hw := fun n hn => weights_le hsz n hn
  obtain ⟨s, rfl, hs, _⟩ := arg_str Try.underlying9 (hval 0 _ v0 rfl rfl) h0 (weights_head hw)
  obtain ⟨xs, a, cap, rfl, hx, _⟩ := arg_slice (bytes := 32) (e := .pair .str (.pair .str .unit)) (by kernel_rfl) Try.underlying50 (hval 1 _ v1 rfl rfl) h1 (weights_head (weights_tail hw))
  obtain ⟨n, rfl, n0, n1⟩ := arg_int Try.underlying3 (hval 2 _ v2 rfl rfl) h2
  rw [i64_min] at n0
  rw [i64_max] at n1
  exact law_of eJoined.ok.1 (avs_cons av_str (avs_cons (av_slice hx) (avs_cons av_int avs_nil))) ⟨⟨hs, rep_small hx, n0, n1⟩, rfl⟩

set_option maxRecDepth 100000 in
theorem wavJoined_holds : Rows.WavJoinedSaid :=
  OpenClaim.holds_of_wide 12 Try.f12 rfl rfl rfl rfl rfl rfl rfl ⟨rfl, rfl, rfl, rfl, rfl⟩ rfl rfl rfl rfl rfl (by kernel_rfl) Try.func12 (by kernel_rfl)
    (of_decide_eq_true (by kernel_rfl)) (by unfold Func.isWrapper; rw [if_neg (by decide +kernel)]; exact ⟨rfl, rfl⟩)
    (fun os started H enc _ => law_handed (s := Rows.wavJoinedSpec) own laidOut started (by kernel_rfl) Try.func12 rfl Try.underlying4 (by kernel_rfl) rfl
      (fun ds h => by rw [Try.params12] at h; match ds, h with | [d0, d1, d2], _ => exact ⟨rfl, rfl, rfl⟩)
      (ChangeSpec.witness6 (enc := enc) (C := Try.checked) false ⟨#[], #[.string ⟨#[]⟩, .slice none 0 0, .int .i64 0], []⟩ 8 (by kernel_rfl) (by kernel_rfl) (by kernel_rfl) (by kernel_rfl))
      (wavJoined_law H enc))

end Go.Proofs.Ytmkbigaofhionaa
