/- The statement WinReadsSaid of mortiselaw01: Uint reads as the reference does, at every place of every part of every text; the law returns true at every input, and its arguments read as they did. No condition. -/
import Derived.Test.YtekinbeiljmddaaLawA
import Derived.Test.YtekinbeiljmddaaRep
namespace Go.Proofs.Ytekinbeiljmddaa
open Go.ChangeShapes Go.WideShapes Go.ChangeAt Go.RowKit
set_option linter.unusedVariables false

theorem winReads_law (H : Type) (enc : TypeId × Value → H) : LawCalls Try.checked enc 5 Try.f5 := by
  intro W base args ds p hval hA hlt hsz
  rw [Try.params5] at hA hval hsz
  obtain ⟨v0, d0, hargs, rfl, h0⟩ := trodAll_one hA
  subst hargs
  have hw := fun n hn => weights_le hsz n hn
  obtain ⟨x, cs, rfl, hr, _⟩ := arg_struct (t := .pair .str (.pair (.int .i64) (.pair (.int .i64) (.pair (.int .i64) (.pair .bool .unit))))) (by kernel_rfl) Try.underlying37 (hval 0 _ v0 rfl rfl) h0 (weights_head hw)
  obtain ⟨r1, rfl, hs, hr1⟩ := rep_str hr
  obtain ⟨r2, rfl, _, _, hr2⟩ := rep_int hr1
  obtain ⟨r3, rfl, _, _, hr3⟩ := rep_int hr2
  obtain ⟨r4, rfl, _, _, hr4⟩ := rep_int hr3
  obtain ⟨r5, rfl, hr5⟩ := rep_bool hr4
  obtain rfl := rep_unit hr5
  exact winReads_calls _ _ _ _ _ W hs

set_option maxRecDepth 100000 in
theorem winReads_holds : Rows.WinReadsSaid :=
  OpenClaim.holds_of_wide 5 Try.f5 rfl rfl rfl rfl rfl rfl rfl ⟨rfl, rfl, rfl, rfl, rfl⟩ rfl rfl rfl rfl rfl (by kernel_rfl) Try.func5 (by kernel_rfl)
    (of_decide_eq_true (by kernel_rfl)) (by unfold Func.isWrapper; rw [if_neg (by decide +kernel)]; exact ⟨rfl, rfl⟩)
    (fun os started H enc _ => law_handed (s := Rows.winReadsSpec) own laidOut started (by kernel_rfl) Try.func5 rfl Try.underlying4 (by kernel_rfl) rfl
      (fun ds h => by rw [Try.params5] at h; match ds, h with | [d0], _ => exact ⟨rfl, rfl, rfl⟩)
      (ChangeSpec.witness6 (enc := enc) (C := Try.checked) false ⟨#[], #[.agg #[.string ⟨#[]⟩, .int .i64 0, .int .i64 0, .int .i64 0, .bool false]], []⟩ 8 (by kernel_rfl) (by kernel_rfl) (by kernel_rfl) (by kernel_rfl))
      (winReads_law H enc))

end Go.Proofs.Ytekinbeiljmddaa
