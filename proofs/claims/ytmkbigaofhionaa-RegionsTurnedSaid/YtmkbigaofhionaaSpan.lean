/- Rows of spans; what a span is (regions.isSpan, mortiseref04.Span); mortiseref02.SameSpans at equal lists. -/
import Derived.Test.YtmkbigaofhionaaFr
import Derived.Test.YtmkbigaofhionaaRegP
import Derived.Test.YtmkbigaofhionaaProg
import Derived.Lib.Walk
import Derived.Deep.QuietTactic
import Derived.BigQuiet
import Derived.Deep.DeepCutAuto
namespace Go.Proofs.Ytmkbigaofhionaa
open Go.RowKit
set_option linter.unusedVariables false
set_option linter.unusedSimpArgs false

def spanV (r : Int × Int) : List Value := [.int .i64 r.1, .int .i64 r.2]
theorem info_span : (Try.prog.info? 32).map (fun i => (i.zero, i.size, i.bytes)) = some (some (.agg #[.int .i64 0, .int .i64 0]), 2, 16) := by kernel_rfl
theorem span_len (l : List (Int × Int)) : (l.flatMap spanV).length = l.length * 2 := by
  induction l with
  | nil => rfl
  | cons x r ih => rw [List.flatMap_cons, List.length_append, ih, List.length_cons]; simp [spanV]; omega
theorem span_one (l : List (Int × Int)) : ∀ u ∈ l.flatMap spanV, u.oneCell' = true := by
  intro u hu
  rw [List.mem_flatMap] at hu
  obtain ⟨x, _, hx⟩ := hu
  simp only [spanV, List.mem_cons, List.not_mem_nil, or_false] at hx
  rcases hx with rfl | rfl <;> rfl
theorem span_cells {w : World} {base n c : Nat} {a : Option Addr} {l : List (Int × Int)} (h : w.ownsRow base 32 2 (.slice a n c) l.length (l.flatMap spanV)) {k : Nat} (hk : k < l.length) :
    ∃ g, a = some ⟨g, 0, none⟩ ∧ g < w.heap.size ∧ base ≤ g ∧ w.cell? ⟨g, k * 2, none⟩ = some (.int .i64 l[k].1) ∧ w.cell? ⟨g, k * 2 + 1, none⟩ = some (.int .i64 l[k].2) ∧ w.frozen? ⟨g, k * 2, none⟩ = false := by
  rcases h.2 with ⟨h1, h2⟩ | ⟨g, cap, cur, h1, _, hh, _⟩
  · omega
  · simp only [Value.slice.injEq] at h1
    obtain ⟨rfl, rfl, rfl⟩ := h1
    have hg := h.lt g rfl
    have f0 := flat_get (f := spanV) (k := 2) (fun _ => rfl) l k hk 0 (by omega)
    have f1 := flat_get (f := spanV) (k := 2) (fun _ => rfl) l k hk 1 (by omega)
    have c0 := h.cells (g := g) rfl _ _ f0
    have c1 := h.cells (g := g) rfl _ _ f1
    rw [Addr.add_lit] at c0 c1
    refine ⟨g, rfl, hg.2, hg.1, ?_, ?_, Blk.frozen hh _⟩
    · rw [← c0]; congr 2; omega
    · rw [← c1]; congr 2; omega

theorem span_more (l : List (Int × Int)) (x : Int × Int) : (l ++ [x]).flatMap spanV = l.flatMap spanV ++ [.int .i64 x.1, .int .i64 x.2] := by simp [spanV]

theorem span_one1 (lo hi : Int) : ∀ u ∈ ([.int .i64 lo, .int .i64 hi] : List Value), u.oneCell' = true := by
  intro u hu; simp at hu; rcases hu with rfl | rfl <;> rfl

set_option maxHeartbeats 1000000 in
theorem sameSpans_any {b1 b2 : Nat} (v1 v2 : Value) (l : List (Int × Int)) (w : World) (h1 : w.ownsRow b1 32 2 v1 l.length (l.flatMap spanV)) (h2 : w.ownsRow b2 32 2 v2 l.length (l.flatMap spanV))
    (hn : l.length ≤ 1000000000) :
    Calls Try.prog 26 #[v1, v2] w fun e w' => e = .returned (.bool true) ∧ Below w.heap.size w w' := by
  have hB := bel_refl w
  obtain ⟨a1, c1, rfl⟩ := owns_slice h1
  obtain ⟨a2, c2, rfl⟩ := owns_slice h2
  go_enter Try.func26, Try.ntmps26
  go_wp2
  go_loopw [5] (fun v5 wr => ∃ k : Nat, k ≤ l.length ∧ v5 = .int .i64 k ∧ Below w.heap.size w wr) (fun v5 _ => l.length - (RowKit.intOf v5).toNat)
  case atStart => exact ⟨0, by omega, rfl, hB⟩
  case round =>
    obtain ⟨k, hk, rfl, hB⟩ := hrel
    by_cases hlt : k < l.length
    · obtain ⟨g1, rfl, hg1, _, d1, d2, _⟩ := span_cells h1 hlt
      obtain ⟨g2, rfl, hg2, _, d3, d4, _⟩ := span_cells h2 hlt
      have x1 := (hB.cell (p := ⟨g1, k * 2, none⟩) hg1).trans d1
      have x2 := (hB.cell (p := ⟨g1, k * 2 + 1, none⟩) hg1).trans d2
      have x3 := (hB.cell (p := ⟨g2, k * 2, none⟩) hg2).trans d3
      have x4 := (hB.cell (p := ⟨g2, k * 2 + 1, none⟩) hg2).trans d4
      clear d1 d2 d3 d4
      generalize l[k] = x at *
      go_wp2
      go_quiet (fail)
      go_wp2
      go_roundw
      case rel => exact ⟨k + 1, by omega, by go_num, below_drewN hB _⟩
      case measure => simp [RowKit.intOf]; omega
    · have hk' : k = l.length := by omega
      subst hk'
      go_wp2
      go_ret
      exact ⟨rfl, hB⟩

theorem isSpan_any (lo hi : Int) (w : World) : Calls Try.prog 43 #[.int .i64 lo, .int .i64 hi] w fun e w' => e = .returned (.bool (spanB lo hi)) ∧ w = w' := by
  by_cases h1 : 0 ≤ lo
  · by_cases h2 : lo < hi
    · by_cases h3 : hi ≤ 4611686018427387904
      · have H := hid (show spanB lo hi = true by simp [spanB, h1, h2, h3])
        go_enter Try.func43, Try.ntmps43
        go_wp2
        go_ret
        rw [H.out]; exact ⟨rfl, rfl⟩
      · have H := hid (show spanB lo hi = false by simp [spanB, h3])
        go_enter Try.func43, Try.ntmps43
        go_wp2
        go_ret
        rw [H.out]; exact ⟨rfl, rfl⟩
    · have H := hid (show spanB lo hi = false by simp [spanB, h2])
      go_enter Try.func43, Try.ntmps43
      go_wp2
      go_ret
      rw [H.out]; exact ⟨rfl, rfl⟩
  · have H := hid (show spanB lo hi = false by simp [spanB, h1])
    go_enter Try.func43, Try.ntmps43
    go_wp2
    go_ret
    rw [H.out]; exact ⟨rfl, rfl⟩

theorem refSpan_any (lo hi : Int) (w : World) : Calls Try.prog 46 #[.int .i64 lo, .int .i64 hi] w fun e w' => e = .returned (.bool (spanB lo hi)) ∧ w = w' := by
  by_cases h1 : 0 ≤ lo
  · by_cases h2 : lo < hi
    · by_cases h3 : hi ≤ 4611686018427387904
      · have H := hid (show spanB lo hi = true by simp [spanB, h1, h2, h3])
        go_enter Try.func46, Try.ntmps46
        go_wp2
        go_ret
        rw [H.out]; exact ⟨rfl, rfl⟩
      · have H := hid (show spanB lo hi = false by simp [spanB, h3])
        go_enter Try.func46, Try.ntmps46
        go_wp2
        go_ret
        rw [H.out]; exact ⟨rfl, rfl⟩
    · have H := hid (show spanB lo hi = false by simp [spanB, h2])
      go_enter Try.func46, Try.ntmps46
      go_wp2
      go_ret
      rw [H.out]; exact ⟨rfl, rfl⟩
  · have H := hid (show spanB lo hi = false by simp [spanB, h1])
    go_enter Try.func46, Try.ntmps46
    go_wp2
    go_ret
    rw [H.out]; exact ⟨rfl, rfl⟩
end Go.Proofs.Ytmkbigaofhionaa
