/- The statement SrcReadsSaid of mortiselaw02: any reads of any text by any script answer as the reference's do; the law returns true at every input. No condition. -/
import Derived.Test.YtekinbeiljmddaaLawD
namespace Go.Proofs.Ytekinbeiljmddaa
open Go.ChangeShapes Go.WideShapes Go.ChangeAt Go.RowKit
set_option linter.unusedVariables false

theorem srcReads_law (H : Type) (enc : TypeId × Value → H) : LawCalls Try.checked enc 11 Try.f11 := by
  intro W base args ds p hval hA hlt hsz
  rw [Try.params11] at hA hval hsz
  obtain ⟨v0, v1, v2, d0, d1, d2, p0, p1, p2, hargs, rfl, rfl, h0, h1, h2⟩ := trodAll_three hA
  subst hargs
  have hw := fun n hn => weights_le hsz n hn
  obtain ⟨s, rfl, hs, _⟩ := arg_str Try.underlying9 (hval 0 _ v0 rfl rfl) h0 (weights_head hw)
  obtain ⟨xs, a, cap, rfl, hx, _⟩ := arg_slice (bytes := 16) (e := .pair (.int .i64) (.pair (.int .i64) .unit)) (by kernel_rfl) Try.underlying22 (hval 1 _ v1 rfl rfl) h1 (weights_head (weights_tail hw))
  obtain ⟨qs, qa, qcap, rfl, hq, _⟩ := arg_slice (bytes := 24) (e := .pair (.int .i64) (.pair (.int .i64) (.pair .bool .unit))) (by kernel_rfl) Try.underlying65 (hval 2 _ v2 rfl rfl) h2 (weights_head (weights_tail (weights_tail hw)))
  exact srcReads_calls s xs a cap qs qa qcap W hx hq hs

set_option maxRecDepth 100000 in
theorem srcReads_holds : Rows.SrcReadsSaid :=
  OpenClaim.holds_of_wide 11 Try.f11 rfl rfl rfl rfl rfl rfl rfl ⟨rfl, rfl, rfl, rfl, rfl⟩ rfl rfl rfl rfl rfl (by kernel_rfl) Try.func11 (by kernel_rfl)
    (of_decide_eq_true (by kernel_rfl)) (by unfold Func.isWrapper; rw [if_neg (by decide +kernel)]; exact ⟨rfl, rfl⟩)
    (fun os started H enc _ => law_handed (s := Rows.srcReadsSpec) own laidOut started (by kernel_rfl) Try.func11 rfl Try.underlying4 (by kernel_rfl) rfl
      (fun ds h => by rw [Try.params11] at h; match ds, h with | [d0, d1, d2], _ => exact ⟨rfl, rfl, rfl⟩)
      (ChangeSpec.witness6 (enc := enc) (C := Try.checked) false ⟨#[], #[.string ⟨#[]⟩, .slice none 0 0, .slice none 0 0], []⟩ 8 (by kernel_rfl) (by kernel_rfl) (by kernel_rfl) (by kernel_rfl))
      (srcReads_law H enc))

end Go.Proofs.Ytekinbeiljmddaa
