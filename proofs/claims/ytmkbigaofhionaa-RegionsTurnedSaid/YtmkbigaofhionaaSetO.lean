/- Contract of package regions at int: At outside. -/
import Derived.Test.YtmkbigaofhionaaSetInt
import Derived.RegionTactic
import Derived.BigRegion
namespace Go.Proofs.Ytmkbigaofhionaa
open Go.RowKit
set_option linter.unusedVariables false
set_option linter.unusedSimpArgs false

set_option maxRecDepth 100000 in
set_option maxHeartbeats 2000000 in
theorem setAtInt_out {B : Nat} {v : Value} {l : List (Item Int)} (i : Int) (w : World) (h : SetInt w B v l) (hi : i < 0 ∨ (l.length : Int) ≤ i) :
    Calls Try.prog 48 #[.pointer (some ⟨B, 0, none⟩), .int .i64 i] w fun e w' => e = .returned (.tuple #[.agg #[.int .i64 0, .int .i64 0], .int .i64 0, .bool false]) ∧ Below w.heap.size w w' := by
  have hB := bel_refl w
  have hall := fun o => setAllInt _ (h.below (bel_alloc hB o))
  have hall2 := fun o o2 => setAllInt _ (h.below (bel_alloc (bel_alloc hB o) o2))
  obtain ⟨a, c, rfl⟩ := owns_slice h.row
  by_cases h0 : i < 0
  · go_enter Try.func48, Try.ntmps48
    go_wp2_with (first | (go_at_call 47; with_reducible refine ((hall _)).mono ?_; rintro e w1 ⟨rfl, rfl⟩) | (go_at_call 47; with_reducible refine ((hall2 _ _)).mono ?_; rintro e w1 ⟨rfl, rfl⟩))
    refine bodyPost_ret (v := .tuple #[.agg #[.int .i64 0, .int .i64 0], .int .i64 0, .bool false]) (by simp [results, Try.results48, go_sem]) rfl ⟨rfl, ?_⟩
    exact (by repeat (first | exact hB | refine bel_alloc ?_ _ | refine below_drewN ?_ _ | refine Below.drew ?_ | refine bel_set ?_ (by simp; omega) _))
  · obtain ⟨k, rfl⟩ := Int.eq_ofNat_of_zero_le (show 0 ≤ i by omega)
    have hk : ¬ k < l.length := by omega
    clear hi h0
    go_enter Try.func48, Try.ntmps48
    go_wp2_with (first | (go_at_call 47; with_reducible refine ((hall _)).mono ?_; rintro e w1 ⟨rfl, rfl⟩) | (go_at_call 47; with_reducible refine ((hall2 _ _)).mono ?_; rintro e w1 ⟨rfl, rfl⟩))
    refine bodyPost_ret (v := .tuple #[.agg #[.int .i64 0, .int .i64 0], .int .i64 0, .bool false]) (by simp [results, Try.results48, go_sem]) rfl ⟨rfl, ?_⟩
    exact (by repeat (first | exact hB | refine bel_alloc ?_ _ | refine below_drewN ?_ _ | refine Below.drew ?_ | refine bel_set ?_ (by simp; omega) _))

end Go.Proofs.Ytmkbigaofhionaa
