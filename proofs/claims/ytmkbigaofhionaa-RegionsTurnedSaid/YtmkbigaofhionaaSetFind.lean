/- Contract of package regions at int: Find. -/
import Derived.Test.YtmkbigaofhionaaSetInt
namespace Go.Proofs.Ytmkbigaofhionaa
open Go.RowKit
set_option linter.unusedVariables false
set_option linter.unusedSimpArgs false

set_option maxRecDepth 100000 in
set_option maxHeartbeats 2000000 in
theorem setFind_any {B : Nat} {v : Value} {l : List (Item Int)} (p : Int) (r : Option Int) (w : World) (h : SetInt w B v l) (hr : Rises l) (hn : l.length ≤ 1000000000) (hf9 : findS p l = r) :
    Calls Try.prog 17 #[.pointer (some ⟨B, 0, none⟩), .int .i64 p] w fun e w' => e = .returned (.tuple #[.int .i64 (r.getD 0), .bool r.isSome]) ∧ Below w.heap.size w w' := by
  have hfrom := setFromInt p w h hr hn
  have hm := find_at (p := p) hr
  obtain ⟨a, c, rfl⟩ := owns_slice h.row
  have hle := fromS_le p l
  rw [hf9] at hm
  clear hf9
  generalize fromS p l = i at hfrom hm hle
  by_cases hlt : i < l.length
  · rw [dif_pos hlt] at hm
    obtain ⟨g, rfl, hg, hbg, hcell⟩ := itemInt_cells h.row hlt
    have hc3 := hcell 0 _ rfl
    have hc5 := hcell 2 _ rfl
    clear hcell
    by_cases hx : l[i].1 ≤ p
    · rw [if_pos hx] at hm
      generalize l[i] = x at *
      subst hm
      go_enter Try.func17, Try.ntmps17
      go_wp2_with (first
        | (go_at_call 45; refine hfrom.mono ?_; rintro e w1 ⟨rfl, hb⟩; have hs1 := h.below hb; have hc4 := (hb.cell (p := ⟨g, i * 3 + 0, none⟩) hg).trans hc3; have hc6 := (hb.cell (p := ⟨g, i * 3 + 2, none⟩) hg).trans hc5; simp only [Nat.add_zero] at hc4)
        | (go_at_call 47; with_reducible refine ((setAllInt _ hs1)).mono ?_; rintro e w1 ⟨rfl, rfl⟩))
      go_ret2
      exact ⟨rfl, hb⟩
    · rw [if_neg hx] at hm
      generalize l[i] = x at *
      subst hm
      go_enter Try.func17, Try.ntmps17
      go_wp2_with (first
        | (go_at_call 45; refine hfrom.mono ?_; rintro e w1 ⟨rfl, hb⟩; have hs1 := h.below hb; have hc4 := (hb.cell (p := ⟨g, i * 3 + 0, none⟩) hg).trans hc3; have hc6 := (hb.cell (p := ⟨g, i * 3 + 2, none⟩) hg).trans hc5; simp only [Nat.add_zero] at hc4)
        | (go_at_call 47; with_reducible refine ((setAllInt _ hs1)).mono ?_; rintro e w1 ⟨rfl, rfl⟩))
      go_ret2
      exact ⟨rfl, hb⟩
  · rw [dif_neg hlt] at hm
    subst hm
    obtain rfl : i = l.length := by omega
    go_enter Try.func17, Try.ntmps17
    go_wp2_with (first
      | (go_at_call 45; refine hfrom.mono ?_; rintro e w1 ⟨rfl, hb⟩; have hs1 := h.below hb)
      | (go_at_call 47; with_reducible refine ((setAllInt _ hs1)).mono ?_; rintro e w1 ⟨rfl, rfl⟩))
    go_ret2
    exact ⟨rfl, hb⟩
end Go.Proofs.Ytmkbigaofhionaa
