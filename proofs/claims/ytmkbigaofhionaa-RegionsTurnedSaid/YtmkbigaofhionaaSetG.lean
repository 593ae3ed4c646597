/- Contracts of package regions at int: Gaps, Covered. -/
import Derived.Test.YtmkbigaofhionaaSetInt
import Derived.Test.YtmkbigaofhionaaRegG
namespace Go.Proofs.Ytmkbigaofhionaa
open Go.RowKit
set_option linter.unusedVariables false
set_option linter.unusedSimpArgs false

/-- At the head of the loop: k items are behind it. -/
def GapRel (w w1 : World) (hi lo : Int) (L : List (Item Int)) (v1 v7 v21 : Value) (wr : World) : Prop :=
  ∃ (k : Nat) (lo' : Int) (os : List (Int × Int)), k ≤ L.length ∧ v1 = .int .i64 lo' ∧ v21 = .int .i64 k ∧ wr.ownsRow w.heap.size 32 2 v7 os.length (os.flatMap spanV) ∧
    gapsS hi lo L = os ++ gapsS hi lo' (L.drop k) ∧ os.length ≤ k ∧ Below w.heap.size w wr

set_option maxRecDepth 100000 in
set_option maxHeartbeats 4000000 in
theorem setGaps_any {B : Nat} {v : Value} {l : List (Item Int)} (lo hi : Int) (w : World) (h : SetInt w B v l) (hr : Rises l) (hn : l.length ≤ 100000000) :
    Calls Try.prog 21 #[.pointer (some ⟨B, 0, none⟩), .int .i64 lo, .int .i64 hi] w (SpansPost (gapsOf lo hi l) w) := by
  obtain ⟨i0, hi0, hz0, hz1, hz2⟩ := info_parts info_span
  have hB := bel_refl w
  have hsp := fun w => isSpan_any lo hi w
  have hfrom := setFromInt lo w h hr (by omega)
  have hall := setAllInt w h
  cases hs : spanB lo hi
  · rw [hs] at hsp
    have Hg := hid (show gapsOf lo hi l = [] by unfold gapsOf; rw [hs]; rfl)
    clear hs
    go_enter Try.func21, Try.ntmps21
    go_wp2_with (go_at_call 43; with_reducible refine (hsp _).mono ?_; rintro e w1 ⟨rfl, rfl⟩)
    go_ret
    rw [Hg.out]
    exact ⟨_, rfl, World.ownsRow_nil _ _ _ _, hB⟩
  rw [hs] at hsp
  have Hg := hid (show gapsOf lo hi l = gapsS hi lo (l.drop (fromS lo l)) by unfold gapsOf; rw [hs]; rfl)
  have hlh : lo < hi := (spanB_iff.1 hs).2.1
  clear hs
  have hle := fromS_le lo l
  obtain ⟨a, c, rfl⟩ := owns_slice h.row
  have hnc : l.length ≤ c := by
    rcases h.row.2 with ⟨h1, h2⟩ | ⟨g, cap, cur, h1, _, _, h3, _⟩
    · simp at h1; omega
    · simp at h1; omega
  have hcells : ∀ (k : Nat) (hk : fromS lo l + k < l.length), ∃ g, a = some ⟨g, 0, none⟩ ∧ g < w.heap.size ∧ ∀ (j : Nat) (u : Value), (itemCInt (l[fromS lo l + k]'hk))[j]? = some u → w.cell? ⟨g, (fromS lo l + k) * 3 + j, none⟩ = some u := fun k hk => by
    obtain ⟨g, h1, h2, h3, h4⟩ := itemInt_cells h.row hk
    exact ⟨g, h1, h2, h4⟩
  obtain ⟨L, hL⟩ : ∃ L, l.drop (fromS lo l) = L := ⟨_, rfl⟩
  rw [hL] at Hg
  have hLl : L.length = l.length - fromS lo l := by rw [← hL, List.length_drop]
  have hLg : ∀ (k : Nat) (hk : k < L.length), L[k] = l[fromS lo l + k]'(by omega) := fun k hk => by simp only [← hL, List.getElem_drop]
  have Hc : Hid (∀ (k : Nat) (hk : k < L.length), ∃ g, a = some ⟨g, 0, none⟩ ∧ g < w.heap.size ∧ w.cell? ⟨g, fromS lo l * 3 + k * 3, none⟩ = some (.int .i64 L[k].1) ∧ w.cell? ⟨g, fromS lo l * 3 + k * 3 + 1, none⟩ = some (.int .i64 L[k].2.1) ∧ w.cell? ⟨g, fromS lo l * 3 + k * 3 + 2, none⟩ = some (.int .i64 L[k].2.2)) := fun k hk => by
    obtain ⟨g, h1, h2, h3⟩ := hcells k (by omega)
    rw [← hLg k hk] at h3
    have e : (fromS lo l + k) * 3 = fromS lo l * 3 + k * 3 := Nat.add_mul _ _ _
    rw [e] at h3
    exact ⟨g, h1, h2, h3 0 _ rfl, h3 1 _ rfl, h3 2 _ rfl⟩
  clear hcells hLg hL
  generalize fromS lo l = i at *
  rcases Nat.lt_or_ge i l.length with hil | hil
  case inr =>
    obtain rfl : i = l.length := by omega
    have hL0 : L = [] := List.eq_nil_of_length_eq_zero (by omega)
    have Hg2 : Hid (gapsOf lo hi l = [(lo, hi)]) := by unfold Hid; rw [Hg.out, hL0]; simp [gapsS, hlh]
    clear hL0 hLl Hc Hg
    go_enter Try.func21, Try.ntmps21
    go_wp2_with (first
      | (go_at_call 43; with_reducible refine (hsp _).mono ?_; rintro e w1 ⟨rfl, rfl⟩)
      | (go_at_call 47; with_reducible refine (hall).mono ?_; rintro e w1 ⟨rfl, rfl⟩)
      | (go_at_call 45; refine hfrom.mono ?_; rintro e w1 ⟨rfl, hb⟩))
    all_goals
      go_loopw [1, 7, 21] (fun v1 v7 v21 wr => v1 = .int .i64 lo ∧ wr.ownsRow w.heap.size 32 2 v7 0 [] ∧ v21 = .int .i64 0 ∧ Below w.heap.size w wr) (fun _ _ _ _ => 0)
      case atStart => exact ⟨rfl, World.ownsRow_nil _ _ _ _, rfl, hb⟩
      case round =>
        obtain ⟨rfl, hown0, rfl, hB⟩ := hrel
        obtain ⟨a7, c7, rfl⟩ := owns_slice hown0
        go_wp2_with (at_builtin; refine append_one w.heap.size rfl _ _ 22 32 rfl i0 (.agg #[.int .i64 0, .int .i64 0]) 2 16 Try.underlying22 hi0 hz0 hz1 hz2 rfl (by decide) (by decide) _ _ _ rfl hown0 _ _ rfl (by simp) rfl (span_one1 _ _) (by omega) (by repeat (first | exact hB | refine bel_alloc ?_ _ | refine below_drewN ?_ _ | refine Below.drew ?_ | refine bel_set ?_ (by simp; omega) _)) (Nat.le_refl _) (by have := hB.size; (try simp); omega) ?_; intro a1 c1 w3 hown1 hB3 hgr hat)
        go_ret
        refine ⟨_, rfl, ?_, hB3⟩
        rw [Hg2.out]
        exact hown1
  have hci : ¬ c = i := by omega
  obtain ⟨g, rfl, hg0, _⟩ := Hc.out 0 (by omega)
  go_enter Try.func21, Try.ntmps21
  go_wp2_with (first
    | (go_at_call 43; with_reducible refine (hsp _).mono ?_; rintro e w1 ⟨rfl, rfl⟩)
    | (go_at_call 47; with_reducible refine (hall).mono ?_; rintro e w1 ⟨rfl, rfl⟩)
    | (go_at_call 45; refine hfrom.mono ?_; rintro e w1 ⟨rfl, hb⟩))
  go_loopw [1, 7, 21] (fun v1 v7 v21 wr => GapRel w w1 hi lo L v1 v7 v21 wr) (fun _ _ v21 _ => L.length - (RowKit.intOf v21).toNat)
  case atStart => exact ⟨0, lo, [], by omega, rfl, rfl, World.ownsRow_nil _ _ _ _, by simp, by simp, hb⟩
  case round =>
    obtain ⟨k, lo', os, hk, rfl, rfl, hown, hgs, hos, hB⟩ := hrel
    have Hgs := hid hgs
    clear hgs
    obtain ⟨a7, c7, rfl⟩ := owns_slice hown
    have hBs := hB.size
    by_cases hlt : k < L.length
    · obtain ⟨g', hg9, _, c0, c1, c2⟩ := Hc.out k hlt
      simp only [Option.some.injEq, Addr.mk.injEq] at hg9
      obtain ⟨rfl, _, _⟩ := hg9
      have d0 := (hB.cell (p := ⟨g, i * 3 + k * 3, none⟩) hg0).trans c0
      have d1 := (hB.cell (p := ⟨g, i * 3 + k * 3 + 1, none⟩) hg0).trans c1
      have d2 := (hB.cell (p := ⟨g, i * 3 + k * 3 + 2, none⟩) hg0).trans c2
      have hgl : g < wr.heap.size := by omega
      have Hd : Hid (L.drop k = L[k] :: L.drop (k + 1)) := hid (List.drop_eq_getElem_cons hlt)
      clear c0 c1 c2
      generalize L[k] = x at *
      by_cases hx : hi ≤ x.1
      · have Hg3 : Hid (gapsOf lo hi l = os ++ (if lo' < hi then [(lo', hi)] else [])) := by unfold Hid; rw [Hg.out, Hgs.out, Hd.out]; simp only [gapsS, if_pos hx]
        clear Hgs Hd Hc Hg
        by_cases hlo : lo' < hi
        · go_wp2_with (at_builtin; refine append_one w.heap.size rfl _ _ 22 32 rfl i0 (.agg #[.int .i64 0, .int .i64 0]) 2 16 Try.underlying22 hi0 hz0 hz1 hz2 rfl (by decide) (by decide) _ _ _ rfl (hown.alloc _) _ _ rfl (by simp) rfl (span_one1 _ _) (by omega) (by repeat (first | exact hB | refine bel_alloc ?_ _ | refine below_drewN ?_ _ | refine Below.drew ?_ | refine bel_set ?_ (by simp; omega) _)) (Nat.le_refl _) (by have := hB.size; (try simp); omega) ?_; intro a1 c1 w3 hown1 hB3 hgr hat)
          go_ret
          refine ⟨_, rfl, ?_, hB3⟩
          rw [Hg3.out, if_pos hlo, span_more, List.length_append]
          exact hown1
        · go_wp2
          go_ret
          refine ⟨_, rfl, ?_, bel_alloc hB _⟩
          rw [Hg3.out, if_neg (by omega), List.append_nil]
          exact hown.alloc _
      · by_cases hx2 : lo' < x.1
        · go_wp2_with (at_builtin; refine append_one w.heap.size rfl _ _ 22 32 rfl i0 (.agg #[.int .i64 0, .int .i64 0]) 2 16 Try.underlying22 hi0 hz0 hz1 hz2 rfl (by decide) (by decide) _ _ _ rfl (hown.alloc _) _ _ rfl (by simp) rfl (span_one1 _ _) (by omega) (by repeat (first | exact hB | refine bel_alloc ?_ _ | refine below_drewN ?_ _ | refine Below.drew ?_ | refine bel_set ?_ (by simp; omega) _)) (Nat.le_refl _) (by have := hB.size; (try simp); omega) ?_; intro a1 c1 w3 hown1 hB3 hgr hat; have hbx := blk_grown (Blk.new wr (.cells #[.int .i64 x.1, .int .i64 x.2.1, .int .i64 x.2.2] 75)) hgr (fun h => by have := (hown.lt _ h).2; omega); have hx9 := hbx.cell 1; simp at hx9)
          go_roundw
          case rel =>
            refine ⟨k + 1, x.2.1, os ++ [(lo', x.1)], by omega, rfl, by go_num, by rw [span_more, List.length_append]; exact hown1, ?_, by simp; omega, hB3⟩
            rw [Hgs.out, Hd.out, List.append_assoc]
            simp only [gapsS, if_neg hx, if_pos hx2, List.singleton_append]
          case measure => simp [RowKit.intOf]; omega
        · go_wp2
          go_roundw
          case rel =>
            refine ⟨k + 1, x.2.1, os, by omega, rfl, by go_num, hown.alloc _, ?_, by omega, bel_alloc hB _⟩
            rw [Hgs.out, Hd.out]
            simp only [gapsS, if_neg hx, if_neg hx2]
          case measure => simp [RowKit.intOf]; omega
    · have hkl : k = l.length - i := by omega
      have hde : L.drop k = [] := List.drop_eq_nil_of_le (by omega)
      have Hg3 : Hid (gapsOf lo hi l = os ++ (if lo' < hi then [(lo', hi)] else [])) := by unfold Hid; rw [Hg.out, Hgs.out, hde]; simp only [gapsS]
      have hdec : decide (k < l.length - i) = false := decide_eq_false (by omega)
      clear Hgs hde Hc Hg
      by_cases hlo : lo' < hi
      · go_wp2_with (at_builtin; refine append_one w.heap.size rfl _ _ 22 32 rfl i0 (.agg #[.int .i64 0, .int .i64 0]) 2 16 Try.underlying22 hi0 hz0 hz1 hz2 rfl (by decide) (by decide) _ _ _ rfl hown _ _ rfl (by simp) rfl (span_one1 _ _) (by omega) (by repeat (first | exact hB | refine bel_alloc ?_ _ | refine below_drewN ?_ _ | refine Below.drew ?_ | refine bel_set ?_ (by simp; omega) _)) (Nat.le_refl _) (by have := hB.size; (try simp); omega) ?_; intro a1 c1 w3 hown1 hB3 hgr hat)
        go_ret
        refine ⟨_, rfl, ?_, hB3⟩
        rw [Hg3.out, if_pos hlo, span_more, List.length_append]
        exact hown1
      · go_wp2
        go_ret
        refine ⟨_, rfl, ?_, hB⟩
        rw [Hg3.out, if_neg (by omega), List.append_nil]
        exact hown

set_option maxRecDepth 100000 in
set_option maxHeartbeats 2000000 in
theorem setCov_any {B : Nat} {v : Value} {l : List (Item Int)} (lo hi : Int) (w : World) (h : SetInt w B v l) (hr : Rises l) (hn : l.length ≤ 100000000) :
    Calls Try.prog 20 #[.pointer (some ⟨B, 0, none⟩), .int .i64 lo, .int .i64 hi] w fun e w' => e = .returned (.int .i64 (covOf lo hi l)) ∧ Below w.heap.size w w' := by
  have hB := bel_refl w
  have hsp := fun w => isSpan_any lo hi w
  have hg := setGaps_any lo hi w h hr hn
  cases hs : spanB lo hi
  · rw [hs] at hsp
    have Hg := hid (show covOf lo hi l = 0 by unfold covOf; rw [hs]; rfl)
    clear hs
    go_enter Try.func20, Try.ntmps20
    go_wp2_with (go_at_call 43; with_reducible refine (hsp _).mono ?_; rintro e w1 ⟨rfl, rfl⟩)
    go_ret
    rw [Hg.out]
    exact ⟨rfl, hB⟩
  rw [hs] at hsp
  have hbd := spanB_iff.1 hs
  have Hc := hid (covOf_gaps hr hs)
  have hin := gapsOf_in (lo := lo) (hi := hi) hr
  have hlt := lenS_take hin
  have hgl := gapsOf_length lo hi l
  have hcn := cov_nonneg lo hi l
  have Hcv := hid (show covOf lo hi l = covS lo hi l by unfold covOf; rw [if_pos hs])
  clear hs
  generalize gapsOf lo hi l = gs at *
  have hwr : IntKind.i64.wrap (hi - lo) = hi - lo := IntWalk.i64_in _ (by omega)
  go_enter Try.func20, Try.ntmps20
  go_wp2_with (first
    | (go_at_call 43; with_reducible refine (hsp _).mono ?_; rintro e w1 ⟨rfl, rfl⟩)
    | (go_at_call 21; refine hg.mono ?_; rintro e w1 ⟨v1, rfl, hown, hb⟩; obtain ⟨a1, c1, rfl⟩ := owns_slice hown))
  go_loopw [7, 22] (fun v7 v22 wr => ∃ k : Nat, k ≤ gs.length ∧ v7 = .int .i64 (hi - lo - lenS (gs.take k)) ∧ v22 = .int .i64 k ∧ Below w1.heap.size w1 wr) (fun _ v22 _ => gs.length - (RowKit.intOf v22).toNat)
  case atStart => exact ⟨0, by omega, by simp [lenS], rfl, bel_refl _⟩
  case round =>
    obtain ⟨k, hk, rfl, rfl, hBr⟩ := hrel
    by_cases hk2 : k < gs.length
    · obtain ⟨g, rfl, hg0, _, c0, c1, _⟩ := span_cells hown hk2
      have d0 := (hBr.cell (p := ⟨g, k * 2, none⟩) hg0).trans c0
      have d1 := (hBr.cell (p := ⟨g, k * 2 + 1, none⟩) hg0).trans c1
      have hx := hin _ (List.getElem_mem hk2)
      have ht1 := hlt k
      have ht2 := hlt (k + 1)
      have hts : lenS (gs.take (k + 1)) = lenS (gs.take k) + (gs[k].2 - gs[k].1) := by rw [← List.take_append_getElem hk2, lenS_snoc]
      have hwr1 : IntKind.i64.wrap (gs[k].2 - gs[k].1) = gs[k].2 - gs[k].1 := IntWalk.i64_in _ (by omega)
      have hwr2 : IntKind.i64.wrap (hi - lo - lenS (gs.take k) - (gs[k].2 - gs[k].1)) = hi - lo - lenS (gs.take k) - (gs[k].2 - gs[k].1) := by
        refine IntWalk.i64_in _ ?_
        have hcc := Hc.out
        have hcv := Hcv.out
        omega
      have hgw : g < wr.heap.size := by have := hBr.size; omega
      have Hts := hid hts
      clear hts c0 c1 ht1 ht2 hin hlt
      generalize gs[k] = x at *
      go_wp2
      go_roundw
      case rel => exact ⟨k + 1, by omega, by rw [Hts.out, Int.sub_sub], by go_num, bel_alloc hBr _⟩
      case measure => simp [RowKit.intOf]; omega
    · obtain rfl : k = gs.length := by omega
      have Hc2 : Hid (hi - lo - lenS (gs.take gs.length) = covOf lo hi l) := by rw [List.take_length]; exact Hc
      clear hlt
      go_wp2
      go_ret
      exact ⟨by rw [← Hc2.out]; rfl, bel_trans hb hBr⟩
end Go.Proofs.Ytmkbigaofhionaa
