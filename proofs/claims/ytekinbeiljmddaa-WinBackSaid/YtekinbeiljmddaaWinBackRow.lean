/- The statement WinBackSaid of mortiselaw01: a number is read as it was written; the law returns true at every input, and its arguments read as they did. No condition. -/
import Derived.Test.YtekinbeiljmddaaLawA
import Derived.Test.YtekinbeiljmddaaRep
namespace Go.Proofs.Ytekinbeiljmddaa
open Go.ChangeShapes Go.WideShapes Go.ChangeAt Go.RowKit
set_option linter.unusedVariables false

theorem winBack_nums {n : Int} {x : (Ty.pair (.int .i64) (.pair .bool (.pair .str .unit))).Val} {W : World} (hs : x.2.2.1.size ≤ 140737488351232) (n0 : IntKind.u64.min ≤ n) (n1 : n ≤ IntKind.u64.max) :
    Calls Try.prog 6 #[.agg #[.int .u64 n, .int .i64 x.1, .bool x.2.1, .string x.2.2.1]] W fun e w' => e = .returned (.bool true) ∧ Below W.heap.size W w' := by
  rw [u64_min] at n0; rw [u64_max] at n1
  obtain ⟨k, rfl⟩ := Int.eq_ofNat_of_zero_le n0
  exact winBack_calls k _ _ _ W (by omega) hs

theorem winBack_law (H : Type) (enc : TypeId × Value → H) : LawCalls Try.checked enc 6 Try.f6 := by
  intro W base args ds p hval hA hlt hsz
  rw [Try.params6] at hA hval hsz
  obtain ⟨v0, d0, hargs, rfl, h0⟩ := trodAll_one hA
  subst hargs
  have hw := fun n hn => weights_le hsz n hn
  obtain ⟨⟨n, x⟩, cs, rfl, hr, _⟩ := arg_struct (t := .pair (.int .u64) (.pair (.int .i64) (.pair .bool (.pair .str .unit)))) (by kernel_rfl) Try.underlying48 (hval 0 _ v0 rfl rfl) h0 (weights_head hw)
  obtain ⟨r1, rfl, n0, n1, hr1⟩ := rep_int hr
  obtain ⟨r2, rfl, _, _, hr2⟩ := rep_int hr1
  obtain ⟨r3, rfl, hr3⟩ := rep_bool hr2
  obtain ⟨r4, rfl, hs, hr4⟩ := rep_str hr3
  obtain rfl := rep_unit hr4
  exact winBack_nums hs n0 n1

set_option maxRecDepth 100000 in
theorem winBack_holds : Rows.WinBackSaid :=
  OpenClaim.holds_of_wide 6 Try.f6 rfl rfl rfl rfl rfl rfl rfl ⟨rfl, rfl, rfl, rfl, rfl⟩ rfl rfl rfl rfl rfl (by kernel_rfl) Try.func6 (by kernel_rfl)
    (of_decide_eq_true (by kernel_rfl)) (by unfold Func.isWrapper; rw [if_neg (by decide +kernel)]; exact ⟨rfl, rfl⟩)
    (fun os started H enc _ => law_handed (s := Rows.winBackSpec) own laidOut started (by kernel_rfl) Try.func6 rfl Try.underlying4 (by kernel_rfl) rfl
      (fun ds h => by rw [Try.params6] at h; match ds, h with | [d0], _ => exact ⟨rfl, rfl, rfl⟩)
      (ChangeSpec.witness6 (enc := enc) (C := Try.checked) false ⟨#[], #[.agg #[.int .u64 0, .int .i64 0, .bool false, .string ⟨#[]⟩]], []⟩ 8 (by kernel_rfl) (by kernel_rfl) (by kernel_rfl) (by kernel_rfl))
      (winBack_law H enc))

end Go.Proofs.Ytekinbeiljmddaa
