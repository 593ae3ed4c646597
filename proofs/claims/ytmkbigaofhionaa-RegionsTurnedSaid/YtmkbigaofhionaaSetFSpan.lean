/- Contracts of package regions at mortise/api.Span: At, Len. -/
import Derived.Test.YtmkbigaofhionaaSetSpan
import Derived.RegionTactic
import Derived.BigRegion
namespace Go.Proofs.Ytmkbigaofhionaa
open Go.RowKit
set_option linter.unusedVariables false
set_option linter.unusedSimpArgs false

theorem setLenSpan {B : Nat} {v : Value} {l : List (Item (Int × Int))} (w : World) (h : SetSpan w B v l) : Calls Try.prog 31 #[.pointer (some ⟨B, 0, none⟩)] w fun e w' => e = .returned (.int .i64 l.length) ∧ w = w' := by
  have hall := setAllSpan _ h
  obtain ⟨a, c, rfl⟩ := owns_slice h.row
  go_enter Try.func31, Try.ntmps31
  go_wp2_with (go_at_call 53; with_reducible refine (hall).mono ?_; rintro e w1 ⟨rfl, rfl⟩)
  go_ret
  exact ⟨rfl, rfl⟩

set_option maxRecDepth 100000 in
set_option maxHeartbeats 2000000 in
theorem setAtSpan_in {B : Nat} {v : Value} {l : List (Item (Int × Int))} (i : Nat) (x : Item (Int × Int)) (w : World) (h : SetSpan w B v l) (hi : i < l.length) (hx : l[i] = x) (hn : l.length ≤ 1000000000) :
    Calls Try.prog 30 #[.pointer (some ⟨B, 0, none⟩), .int .i64 i] w fun e w' => e = .returned (.tuple #[.agg #[.int .i64 x.1, .int .i64 x.2.1], (.agg #[.int .i64 x.2.2.1, .int .i64 x.2.2.2]), .bool true]) ∧ Below w.heap.size w w' := by
  have hB := bel_refl w
  have hall := fun o => setAllSpan _ (h.below (bel_alloc hB o))
  have hall2 := fun o o2 => setAllSpan _ (h.below (bel_alloc (bel_alloc hB o) o2))
  obtain ⟨a, c, rfl⟩ := owns_slice h.row
  obtain ⟨g, rfl, hg, hbg, hcell⟩ := itemSpan_cells h.row hi
  rw [hx] at hcell
  have hc0 := hcell 0 _ rfl
  have hc1 := hcell 1 _ rfl
  have hc2 := hcell 2 _ rfl
  have hc3 := hcell 3 _ rfl
  simp only [Nat.add_zero] at hc0
  clear hcell hx
  go_enter Try.func30, Try.ntmps30
  go_wp2_with (first | (go_at_call 53; with_reducible refine ((hall _)).mono ?_; rintro e w1 ⟨rfl, rfl⟩) | (go_at_call 53; with_reducible refine ((hall2 _ _)).mono ?_; rintro e w1 ⟨rfl, rfl⟩))
  go_region
  all_goals go_wp2
  refine bodyPost_ret (v := .tuple #[.agg #[.int .i64 x.1, .int .i64 x.2.1], (.agg #[.int .i64 x.2.2.1, .int .i64 x.2.2.2]), .bool true]) (by simp [results, Try.results30, go_sem]) rfl ⟨rfl, ?_⟩
  exact (by repeat (first | exact hB | refine bel_alloc ?_ _ | refine below_drewN ?_ _ | refine Below.drew ?_ | refine bel_set ?_ (by simp; omega) _))
end Go.Proofs.Ytmkbigaofhionaa
