/- Contracts of package regions at int: At, Len. -/
import Derived.Test.YtmkbigaofhionaaSetInt
import Derived.RegionTactic
import Derived.BigRegion
namespace Go.Proofs.Ytmkbigaofhionaa
open Go.RowKit
set_option linter.unusedVariables false
set_option linter.unusedSimpArgs false

theorem setLenInt {B : Nat} {v : Value} {l : List (Item Int)} (w : World) (h : SetInt w B v l) : Calls Try.prog 49 #[.pointer (some ⟨B, 0, none⟩)] w fun e w' => e = .returned (.int .i64 l.length) ∧ w = w' := by
  have hall := setAllInt _ h
  obtain ⟨a, c, rfl⟩ := owns_slice h.row
  go_enter Try.func49, Try.ntmps49
  go_wp2_with (go_at_call 47; with_reducible refine (hall).mono ?_; rintro e w1 ⟨rfl, rfl⟩)
  go_ret
  exact ⟨rfl, rfl⟩

set_option maxRecDepth 100000 in
set_option maxHeartbeats 2000000 in
theorem setAtInt_in {B : Nat} {v : Value} {l : List (Item Int)} (i : Nat) (x : Item Int) (w : World) (h : SetInt w B v l) (hi : i < l.length) (hx : l[i] = x) (hn : l.length ≤ 1000000000) :
    Calls Try.prog 48 #[.pointer (some ⟨B, 0, none⟩), .int .i64 i] w fun e w' => e = .returned (.tuple #[.agg #[.int .i64 x.1, .int .i64 x.2.1], (.int .i64 x.2.2), .bool true]) ∧ Below w.heap.size w w' := by
  have hB := bel_refl w
  have hall := fun o => setAllInt _ (h.below (bel_alloc hB o))
  have hall2 := fun o o2 => setAllInt _ (h.below (bel_alloc (bel_alloc hB o) o2))
  obtain ⟨a, c, rfl⟩ := owns_slice h.row
  obtain ⟨g, rfl, hg, hbg, hcell⟩ := itemInt_cells h.row hi
  rw [hx] at hcell
  have hc0 := hcell 0 _ rfl
  have hc1 := hcell 1 _ rfl
  have hc2 := hcell 2 _ rfl
  skip
  simp only [Nat.add_zero] at hc0
  clear hcell hx
  go_enter Try.func48, Try.ntmps48
  go_wp2_with (first | (go_at_call 47; with_reducible refine ((hall _)).mono ?_; rintro e w1 ⟨rfl, rfl⟩) | (go_at_call 47; with_reducible refine ((hall2 _ _)).mono ?_; rintro e w1 ⟨rfl, rfl⟩))
  go_region
  all_goals go_wp2
  refine bodyPost_ret (v := .tuple #[.agg #[.int .i64 x.1, .int .i64 x.2.1], (.int .i64 x.2.2), .bool true]) (by simp [results, Try.results48, go_sem]) rfl ⟨rfl, ?_⟩
  exact (by repeat (first | exact hB | refine bel_alloc ?_ _ | refine below_drewN ?_ _ | refine Below.drew ?_ | refine bel_set ?_ (by simp; omega) _))
end Go.Proofs.Ytmkbigaofhionaa
