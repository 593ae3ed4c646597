/- Contract of mortiseref01.Width. -/
import Derived.Test.YtmkbigaofhionaaWinU
namespace Go.Proofs.Ytmkbigaofhionaa
open Go.RowKit
set_option linter.unusedVariables false
set_option linter.unusedSimpArgs false

set_option maxHeartbeats 400000 in
theorem refWidth_any (n : Int) (w : World) :
    Calls Try.prog 91 #[.int .i64 n] w fun e w' => e = .returned (.bool (widthB n)) ∧ w = w' := by
  by_cases h : n = 1 ∨ n = 2 ∨ n = 4 ∨ n = 8
  · rcases h with rfl | rfl | rfl | rfl
    all_goals
      go_enter Try.func91, Try.ntmps91
      go_wp2
      go_ret
      exact ⟨rfl, rfl⟩
  · have Hs : Hid (widthB n = false) := by unfold Hid widthB; simpa using h
    have h1 : (n == 1) = false := beq_eq_false_iff_ne.2 (by omega)
    have h2 : (n == 2) = false := beq_eq_false_iff_ne.2 (by omega)
    have h3 : (n == 4) = false := beq_eq_false_iff_ne.2 (by omega)
    have h4 : (n == 8) = false := beq_eq_false_iff_ne.2 (by omega)
    clear h
    go_enter Try.func91, Try.ntmps91
    go_wp2
    go_ret
    rw [Hs.out]; exact ⟨rfl, rfl⟩

end Go.Proofs.Ytmkbigaofhionaa
