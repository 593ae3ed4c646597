/- The statement SrcFullSaid of mortiselaw02: where no step fails, all is told that is there, however little each read brings; the law returns true at every input. No condition. -/
import Derived.Test.YtekinbeiljmddaaLawC
namespace Go.Proofs.Ytekinbeiljmddaa
open Go.ChangeShapes Go.WideShapes Go.ChangeAt Go.RowKit
set_option linter.unusedVariables false

theorem srcFull_law (H : Type) (enc : TypeId × Value → H) : LawCalls Try.checked enc 9 Try.f9 := by
  intro W base args ds p hval hA hlt hsz
  rw [Try.params9] at hA hval hsz
  obtain ⟨v0, d0, hargs, rfl, h0⟩ := trodAll_one hA
  subst hargs
  have hw := fun n hn => weights_le hsz n hn
  obtain ⟨x, cs, rfl, hx, _⟩ := arg_struct (t := .pair .str (.pair TInts (.pair (.int .i64) (.pair (.int .i64) .unit)))) (by kernel_rfl) Try.underlying61 (hval 0 _ v0 rfl rfl) h0 (weights_head hw)
  obtain ⟨r1, rfl, hs, hx⟩ := rep_str hx
  obtain ⟨r2, a, cap, rfl, hr, hx⟩ := rep_slice hx
  obtain ⟨r3, rfl, _, h3, hx⟩ := rep_int hx
  obtain ⟨r4, rfl, _, _, hx⟩ := rep_int hx
  have := rep_unit hx
  subst this
  exact srcFull_calls _ _ a cap _ _ W hr hs h3

set_option maxRecDepth 100000 in
theorem srcFull_holds : Rows.SrcFullSaid :=
  OpenClaim.holds_of_wide 9 Try.f9 rfl rfl rfl rfl rfl rfl rfl ⟨rfl, rfl, rfl, rfl, rfl⟩ rfl rfl rfl rfl rfl (by kernel_rfl) Try.func9 (by kernel_rfl)
    (of_decide_eq_true (by kernel_rfl)) (by unfold Func.isWrapper; rw [if_neg (by decide +kernel)]; exact ⟨rfl, rfl⟩)
    (fun os started H enc _ => law_handed (s := Rows.srcFullSpec) own laidOut started (by kernel_rfl) Try.func9 rfl Try.underlying4 (by kernel_rfl) rfl
      (fun ds h => by rw [Try.params9] at h; match ds, h with | [d0], _ => exact ⟨rfl, rfl, rfl⟩)
      (ChangeSpec.witness6 (enc := enc) (C := Try.checked) false ⟨#[], #[.agg #[.string ⟨#[]⟩, .slice none 0 0, .int .i64 0, .int .i64 0]], []⟩ 8 (by kernel_rfl) (by kernel_rfl) (by kernel_rfl) (by kernel_rfl))
      (srcFull_law H enc))

end Go.Proofs.Ytekinbeiljmddaa
