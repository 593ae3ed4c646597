/- Contracts of mortiseref04's Gaps, Covered. -/
import Derived.Test.YtmkbigaofhionaaRef4
import Derived.Test.YtmkbigaofhionaaRegG
namespace Go.Proofs.Ytmkbigaofhionaa
open Go.RowKit
set_option linter.unusedVariables false
set_option linter.unusedSimpArgs false

theorem wrap_twice {a b c : Int} (h1 : -9223372036854775808 ≤ c + b - a) (h2 : c + b - a ≤ 9223372036854775807) : wrap64 (wrap64 (c + b) - a) = c + b - a := by
  unfold wrap64; omega

def RefGapRel (w : World) (lo hi : Int) (l : List (Item Int)) (v7 v8 v9 : Value) (wr : World) : Prop :=
  ∃ (k : Nat) (p : Int) (os : List (Int × Int)), k ≤ l.length ∧ v8 = .int .i64 p ∧ v9 = .int .i64 k ∧ wr.ownsRow w.heap.size 32 2 v7 os.length (os.flatMap spanV) ∧
    refGaps lo hi lo l = refGapsO os (refGaps lo hi p (l.drop k)) ∧ os.length ≤ k ∧ Below w.heap.size w wr

set_option maxRecDepth 100000 in
set_option maxHeartbeats 4000000 in
theorem refGaps_any {R : Nat} {lv xv : Value} {l : List (Item Int)} (lo hi : Int) (w : World) (h : RefSet w R lv xv l) (hr : Rises l) (hn : l.length ≤ 100000000) :
    Calls Try.prog 27 #[.pointer (some ⟨R, 0, none⟩), .int .i64 lo, .int .i64 hi] w (SpansPost (gapsOf lo hi l) w) := by
  obtain ⟨i0, hi0, hz0, hz1, hz2⟩ := info_parts info_span
  have hB := bel_refl w
  have hsp := fun w => refSpan_any lo hi w
  cases hs : spanB lo hi
  · rw [hs] at hsp
    have Hg := hid (show gapsOf lo hi l = [] by unfold gapsOf; rw [hs]; rfl)
    clear hs
    go_enter Try.func27, Try.ntmps27
    go_wp2_with (go_at_call 46; with_reducible refine (hsp _).mono ?_; rintro e w1 ⟨rfl, rfl⟩)
    go_ret
    rw [Hg.out]
    exact ⟨_, rfl, World.ownsRow_nil _ _ _ _, hB⟩
  rw [hs] at hsp
  have Hg := hid (refGaps_of hr hs)
  clear hs
  obtain ⟨a1, c1, rfl⟩ := owns_slice h.spans
  obtain ⟨a2, c2, rfl⟩ := owns_slice h.nums
  have hc0 : w.cell? ⟨R, 0, none⟩ = some (.slice a1 l.length c1) := by rw [h.obj.cell]; rfl
  have hRl := h.lt
  go_enter Try.func27, Try.ntmps27
  go_wp2_with (go_at_call 46; with_reducible refine (hsp _).mono ?_; rintro e w1 ⟨rfl, rfl⟩)
  go_loopw [7, 8, 9] (fun v7 v8 v9 wr => RefGapRel w lo hi l v7 v8 v9 wr) (fun _ _ v9 _ => l.length - (RowKit.intOf v9).toNat)
  case atStart => exact ⟨0, lo, [], by omega, rfl, rfl, World.ownsRow_nil _ _ _ _, by simp [refGapsO], by simp, hB⟩
  case round =>
    obtain ⟨k, p, os, hk, rfl, rfl, hown, hgs, hos, hB⟩ := hrel
    have Hgs := hid hgs
    clear hgs
    obtain ⟨a7, c7, rfl⟩ := owns_slice hown
    have hBs := hB.size
    have hcr := (bcell hB).1
    by_cases hlt : k < l.length
    · obtain ⟨g1, g2, rfl, rfl, hg1, hg2, d1, d2, d3⟩ := h.at hlt
      have Hd : Hid (l.drop k = l[k] :: l.drop (k + 1)) := hid (List.drop_eq_getElem_cons hlt)
      generalize l[k] = x at *
      by_cases hx1 : x.2.1 ≤ lo
      · go_wp2
        go_roundw
        case rel =>
          refine ⟨k + 1, p, os, by omega, rfl, by go_num, hown.alloc _, ?_, by omega, bel_alloc hB _⟩
          rw [Hgs.out, Hd.out]
          simp only [refGaps]
          rw [if_pos (.inl hx1)]
        case measure => simp [RowKit.intOf]; omega
      by_cases hx2 : hi ≤ x.1
      · go_wp2
        go_roundw
        case rel =>
          refine ⟨k + 1, p, os, by omega, rfl, by go_num, hown.alloc _, ?_, by omega, bel_alloc hB _⟩
          rw [Hgs.out, Hd.out]
          simp only [refGaps]
          rw [if_pos (.inr hx2)]
        case measure => simp [RowKit.intOf]; omega
      by_cases hx3 : p < x.1
      · go_wp2_with (at_builtin; refine append_one w.heap.size rfl _ _ 22 32 rfl i0 (.agg #[.int .i64 0, .int .i64 0]) 2 16 Try.underlying22 hi0 hz0 hz1 hz2 rfl (by decide) (by decide) _ _ _ rfl (hown.alloc _) _ _ rfl (by simp) rfl (span_one1 _ _) (by omega) (by repeat (first | exact hB | refine bel_alloc ?_ _ | refine below_drewN ?_ _ | refine Below.drew ?_ | refine bel_set ?_ (by simp; omega) _)) (Nat.le_refl _) (by have := hB.size; (try simp); omega) ?_; intro a1 c1 w3 hown1 hB3 hgr hat; have hbx := blk_grown (Blk.new wr (.cells #[.int .i64 x.1, .int .i64 x.2.1] 32)) hgr (fun h => by have := (hown.lt _ h).2; omega); have hx9 := hbx.cell 1; simp at hx9; have hcr3 := (bcell hB3).1)
        go_roundw
        case rel =>
          refine ⟨k + 1, x.2.1, os ++ [(p, x.1)], by omega, rfl, by go_num, by rw [span_more, List.length_append]; exact hown1, ?_, by simp; omega, hB3⟩
          rw [Hgs.out, Hd.out]
          simp only [refGaps]
          rw [if_neg (by omega), if_pos hx3]
          simp [refGapsO]
        case measure => simp [RowKit.intOf]; omega
      · go_wp2
        go_roundw
        case rel =>
          refine ⟨k + 1, x.2.1, os, by omega, rfl, by go_num, hown.alloc _, ?_, by omega, bel_alloc hB _⟩
          rw [Hgs.out, Hd.out]
          simp only [refGaps]
          rw [if_neg (by omega), if_neg hx3]
        case measure => simp [RowKit.intOf]; omega
    · obtain rfl : k = l.length := by omega
      have hde : l.drop l.length = [] := List.drop_length
      have Hg3 : Hid (gapsOf lo hi l = os ++ (if p < hi then [(p, hi)] else [])) := by unfold Hid; rw [Hg.out, Hgs.out, hde]; rfl
      clear Hgs Hg hde
      by_cases hlo : p < hi
      · go_wp2_with (at_builtin; refine append_one w.heap.size rfl _ _ 22 32 rfl i0 (.agg #[.int .i64 0, .int .i64 0]) 2 16 Try.underlying22 hi0 hz0 hz1 hz2 rfl (by decide) (by decide) _ _ _ rfl hown _ _ rfl (by simp) rfl (span_one1 _ _) (by omega) (by repeat (first | exact hB | refine bel_alloc ?_ _ | refine below_drewN ?_ _ | refine Below.drew ?_ | refine bel_set ?_ (by simp; omega) _)) (Nat.le_refl _) (by have := hB.size; (try simp); omega) ?_; intro a1 c1 w3 hown1 hB3 hgr hat)
        go_ret
        refine ⟨_, rfl, ?_, hB3⟩
        rw [Hg3.out, if_pos hlo, span_more, List.length_append]
        exact hown1
      · go_wp2
        go_ret
        refine ⟨_, rfl, ?_, hB⟩
        rw [Hg3.out, if_neg (by omega), List.append_nil]
        exact hown

set_option maxRecDepth 100000 in
set_option maxHeartbeats 4000000 in
theorem refCov_any {R : Nat} {lv xv : Value} {l : List (Item Int)} (lo hi : Int) (w : World) (h : RefSet w R lv xv l) (hr : Rises l) (hn : l.length ≤ 1000000) :
    Calls Try.prog 25 #[.pointer (some ⟨R, 0, none⟩), .int .i64 lo, .int .i64 hi] w fun e w' => e = .returned (.int .i64 (covOf lo hi l)) ∧ w = w' := by
  have hsp := fun w => refSpan_any lo hi w
  obtain ⟨a1, c1, rfl⟩ := owns_slice h.spans
  obtain ⟨a2, c2, rfl⟩ := owns_slice h.nums
  have hc0 : w.cell? ⟨R, 0, none⟩ = some (.slice a1 l.length c1) := by rw [h.obj.cell]; rfl
  cases hs : spanB lo hi
  · rw [hs] at hsp
    have Hg := hid (show covOf lo hi l = 0 by unfold covOf; rw [hs]; rfl)
    clear hs
    go_enter Try.func25, Try.ntmps25
    go_wp2
    go_loop [7, 8] (fun v7 v8 => v7 = .int .i64 0 ∧ v8 = .int .i64 0) (fun _ _ => 0)
    case atStart => exact ⟨rfl, rfl⟩
    case round =>
      obtain ⟨rfl, rfl⟩ := hrel
      by_cases h0 : 0 < l.length
      · go_wp2_with (go_at_call 46; with_reducible refine (hsp _).mono ?_; rintro e w1 ⟨rfl, rfl⟩)
        go_ret
        rw [Hg.out]
        exact ⟨rfl, rfl⟩
      · obtain h9 : l.length = 0 := by omega
        rw [h9] at hc0
        clear h
        go_wp2
        go_ret
        rw [Hg.out]
        exact ⟨rfl, rfl⟩
  rw [hs] at hsp
  have Hg := hid (show covOf lo hi l = covS lo hi l by unfold covOf; rw [hs]; rfl)
  have hbd := spanB_iff.1 hs
  have hcb := fun k => cov_bound (lo := lo) (hi := hi) (hr.take k) (by omega)
  clear hs
  go_enter Try.func25, Try.ntmps25
  go_wp2
  go_loop [7, 8] (fun v7 v8 => ∃ k : Nat, k ≤ l.length ∧ v7 = .int .i64 (covS lo hi (l.take k)) ∧ v8 = .int .i64 k) (fun _ v8 => l.length - (RowKit.intOf v8).toNat)
  case atStart => exact ⟨0, by omega, by simp [covS], rfl⟩
  case round =>
    obtain ⟨k, hk, rfl, rfl⟩ := hrel
    by_cases hlt : k < l.length
    · obtain ⟨g1, g2, rfl, rfl, hg1, hg2, d1, d2, d3⟩ := h.at hlt
      have Hs := hid (cov_snoc (lo := lo) (hi := hi) hlt)
      have hb9 := hcb
      have hb1 := hcb k
      have hat := hr.at k hlt
      clear hcb
      generalize covS lo hi (l.take k) = c at *
      generalize l[k] = x at *
      go_wp2_with (go_at_call 46; with_reducible refine (hsp _).mono ?_; rintro e w1 ⟨rfl, rfl⟩)
      · have hml : max lo x.1 < min hi x.2.1 := by assumption
        have hp : part lo hi (x.1, x.2.1) = min hi x.2.1 - max lo x.1 := by unfold part; simp only; omega
        have hb2 := hb9 (k + 1)
        rw [Hs.out, hp] at hb2
        go_round
        case rel => exact ⟨k + 1, by omega, by rw [Hs.out, hp, wrap_twice (by omega) (by omega), Int.add_sub_assoc], by go_num⟩
        case measure => simp [RowKit.intOf]; omega
      · have hml : min hi x.2.1 ≤ max lo x.1 := by assumption
        have hp : part lo hi (x.1, x.2.1) = 0 := by unfold part; simp only; omega
        go_round
        case rel => exact ⟨k + 1, by omega, by rw [Hs.out, hp, Int.add_zero], by go_num⟩
        case measure => simp [RowKit.intOf]; omega
    · obtain rfl : k = l.length := by omega
      have Hg3 : Hid (covOf lo hi l = covS lo hi (l.take l.length)) := by unfold Hid; rw [Hg.out, List.take_length]
      clear hcb Hg
      go_wp2
      go_ret
      exact ⟨by rw [Hg3.out, List.take_length]; rfl, rfl⟩
end Go.Proofs.Ytmkbigaofhionaa
