/- The statement WinBytesSaid of mortiselaw01: Bytes answers as the reference does, at every number, width and order; the law returns true at every input, and its arguments read as they did. No condition. -/
import Derived.Test.YtekinbeiljmddaaLawA
import Derived.Test.YtekinbeiljmddaaRep
namespace Go.Proofs.Ytekinbeiljmddaa
open Go.ChangeShapes Go.WideShapes Go.ChangeAt Go.RowKit
set_option linter.unusedVariables false

theorem winBytes_law (H : Type) (enc : TypeId × Value → H) : LawCalls Try.checked enc 4 Try.f4 := by
  intro W base args ds p hval hA hlt hsz
  rw [Try.params4] at hA hval hsz
  obtain ⟨v0, v1, v2, d0, d1, d2, p0, p1, p2, hargs, rfl, rfl, h0, h1, h2⟩ := trodAll_three hA
  subst hargs
  have hw := fun n hn => weights_le hsz n hn
  obtain ⟨n, rfl, n0, n1⟩ := arg_int Try.underlying33 (hval 0 _ v0 rfl rfl) h0
  obtain ⟨m, rfl, _, _⟩ := arg_int Try.underlying3 (hval 1 _ v1 rfl rfl) h1
  obtain ⟨b, rfl⟩ := arg_bool Try.underlying4 (hval 2 _ v2 rfl rfl) h2
  rw [u64_min] at n0; rw [u64_max] at n1
  obtain ⟨k, rfl⟩ := Int.eq_ofNat_of_zero_le n0
  exact winBytes_calls k m b W (by omega)

set_option maxRecDepth 100000 in
theorem winBytes_holds : Rows.WinBytesSaid :=
  OpenClaim.holds_of_wide 4 Try.f4 rfl rfl rfl rfl rfl rfl rfl ⟨rfl, rfl, rfl, rfl, rfl⟩ rfl rfl rfl rfl rfl (by kernel_rfl) Try.func4 (by kernel_rfl)
    (of_decide_eq_true (by kernel_rfl)) (by unfold Func.isWrapper; rw [if_neg (by decide +kernel)]; exact ⟨rfl, rfl⟩)
    (fun os started H enc _ => law_handed (s := Rows.winBytesSpec) own laidOut started (by kernel_rfl) Try.func4 rfl Try.underlying4 (by kernel_rfl) rfl
      (fun ds h => by rw [Try.params4] at h; match ds, h with | [d0, d1, d2], _ => exact ⟨rfl, rfl, rfl⟩)
      (ChangeSpec.witness6 (enc := enc) (C := Try.checked) false ⟨#[], #[.int .u64 0, .int .i64 0, .bool false], []⟩ 8 (by kernel_rfl) (by kernel_rfl) (by kernel_rfl) (by kernel_rfl))
      (winBytes_law H enc))

end Go.Proofs.Ytekinbeiljmddaa
