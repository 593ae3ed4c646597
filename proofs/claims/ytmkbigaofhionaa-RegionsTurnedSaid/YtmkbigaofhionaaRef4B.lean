/- Contract of mortiseref04's Add. -/
import Derived.Test.YtmkbigaofhionaaRef4A
namespace Go.Proofs.Ytmkbigaofhionaa
open Go.RowKit
set_option linter.unusedVariables false
set_option linter.unusedSimpArgs false

def AddRel (w : World) (n : Item Int) (l : List (Item Int)) (v9 v10 v11 v12 : Value) (wr : World) : Prop :=
  ∃ (k : Nat) (p : Bool) (os : List (Item Int)), k ≤ l.length ∧ v12 = .int .i64 k ∧ v11 = .bool p ∧ wr.ownsRow w.heap.size 32 2 v9 os.length (os.flatMap spanOf) ∧ wr.ownsRow w.heap.size 3 1 v10 os.length (os.flatMap numOf) ∧
    Gathered n l k p os ∧ Below w.heap.size w wr

theorem spanOf_more (os : List (Item Int)) (x : Item Int) : (os ++ [x]).flatMap spanOf = os.flatMap spanOf ++ [.int .i64 x.1, .int .i64 x.2.1] := by simp [spanOf]
theorem numOf_more (os : List (Item Int)) (x : Item Int) : (os ++ [x]).flatMap numOf = os.flatMap numOf ++ [.int .i64 x.2.2] := by simp [numOf]

set_option maxRecDepth 100000 in
set_option maxHeartbeats 8000000 in
theorem refAdd {R : Nat} {lv xv : Value} {l : List (Item Int)} (lo hi x : Int) (w : World) (h : RefSet w R lv xv l) (hr : Rises l) (hn : l.length ≤ 100000000) :
    Calls Try.prog 16 #[.pointer (some ⟨R, 0, none⟩), .int .i64 lo, .int .i64 hi, .int .i64 x] w (RefAdd R lv xv l lo hi x w) := by
  obtain ⟨iS, hS0, hS1, hS2, hS3⟩ := info_parts info_span
  obtain ⟨iN, hN0, hN1, hN2, hN3⟩ := info_parts info_int
  have hB := bel_refl w
  have hsp := fun w => refSpan_any lo hi w
  have hcl := refClash lo hi w h (by omega)
  cases hs : spanB lo hi
  · rw [hs] at hsp
    have He := hid (show addE lo hi l = 1 by unfold addE; rw [hs]; rfl)
    have Hl := hid (show addL lo hi x l = l by unfold addL; rw [hs]; rfl)
    clear hs
    go_enter Try.func16, Try.ntmps16
    go_wp2_with (go_at_call 46; with_reducible refine (hsp _).mono ?_; rintro e w1 ⟨rfl, rfl⟩)
    go_ret
    refine ⟨by rw [He.out]; rfl, lv, xv, ?_, Fr.refl _ _, fun k hk => .inl hk, fun k hk => .inl hk⟩
    rw [Hl.out]; exact h
  cases hm : meets lo hi l
  case true =>
    rw [hs] at hsp hcl
    rw [hm] at hcl
    have He := hid (show addE lo hi l = 5 by unfold addE; rw [hs, hm]; rfl)
    have Hl := hid (show addL lo hi x l = l by unfold addL; rw [hs, hm]; rfl)
    clear hs hm
    go_enter Try.func16, Try.ntmps16
    go_wp2_with (first
      | (go_at_call 46; with_reducible refine (hsp _).mono ?_; rintro e w1 ⟨rfl, rfl⟩)
      | (go_at_call 23; with_reducible refine (hcl).mono ?_; rintro e w1 ⟨rfl, rfl⟩))
    go_ret
    refine ⟨by rw [He.out]; rfl, lv, xv, ?_, Fr.refl _ _, fun k hk => .inl hk, fun k hk => .inl hk⟩
    rw [Hl.out]; exact h
  have hlh := (spanB_iff.1 hs).2.1
  have Hmm := hid (meets_false.1 hm)
  rw [hs] at hsp hcl
  rw [hm] at hcl
  have He := hid (show addE lo hi l = 0 by unfold addE; rw [hs, hm]; rfl)
  have Hl := hid (show addL lo hi x l = insS (lo, hi, x) l by unfold addL; rw [hs, hm]; rfl)
  clear hs hm
  have hobj := h.obj
  have hRl := h.lt
  obtain ⟨a1, c1, rfl⟩ := owns_slice h.spans
  obtain ⟨a2, c2, rfl⟩ := owns_slice h.nums
  have hc0 : w.cell? ⟨R, 0, none⟩ = some (.slice a1 l.length c1) := by rw [h.obj.cell]; rfl
  have hc1 : w.cell? ⟨R, 1, none⟩ = some (.slice a2 l.length c2) := by rw [h.obj.cell]; rfl
  go_enter Try.func16, Try.ntmps16
  go_wp2_with (first
    | (go_at_call 46; with_reducible refine (hsp _).mono ?_; rintro e w1 ⟨rfl, rfl⟩)
    | (go_at_call 23; with_reducible refine (hcl).mono ?_; rintro e w1 ⟨rfl, rfl⟩))
  go_loopw [9, 10, 11, 12] (fun v9 v10 v11 v12 wr => AddRel w (lo, hi, x) l v9 v10 v11 v12 wr) (fun _ _ _ v12 _ => l.length - (RowKit.intOf v12).toNat)
  case atStart => exact ⟨0, false, [], by omega, rfl, rfl, World.ownsRow_nil _ _ _ _, World.ownsRow_nil _ _ _ _, .inl ⟨rfl, by simp, by simp⟩, hB⟩
  case round =>
    obtain ⟨k, p, os, hk, rfl, rfl, hownS, hownN, hga, hBW⟩ := hrel
    have hol := gath_len hk hga
    obtain ⟨a9, c9, rfl⟩ := owns_slice hownS
    obtain ⟨a10, c10, rfl⟩ := owns_slice hownN
    have hcr := (bcell hBW).1
    have hosl : os.length ≤ 100000002 := by rw [hol]; split <;> omega
    have Hga := hid hga
    clear hga hol
    by_cases hlt : k < l.length
    · obtain ⟨g1, g2, rfl, rfl, hg1, hg2, d1, d2, d3⟩ := h.at hlt
      cases p
      · by_cases hx : lo < l[k].1
        · have Hg := hid (gath_put hlt hr hlh Hmm.out Hga.out hx)
          generalize l[k] = y at *
          clear Hga
          go_wp2_with (first
            | (at_builtin; refine append_one w.heap.size rfl _ _ 22 32 rfl iS (.agg #[.int .i64 0, .int .i64 0]) 2 16 Try.underlying22 hS0 hS1 hS2 hS3 rfl (by decide) (by decide) _ _ _ rfl hownS _ _ rfl (by simp) rfl (span_one1 _ _) (by omega) hBW (Nat.le_refl _) hBW.size ?_; intro aS cS w3 hS9 hB9 hgr hat; have hN9 := hownN.kept hgr (own_types hownN hownS (by decide)); have hcw := (bcell hB9).1; have hownS := hS9; have hownN := hN9; have hBW := hB9)
            | (at_builtin; refine append_one w.heap.size rfl _ _ 26 3 rfl iN (.int .i64 0) 1 8 Try.underlying26 hN0 hN1 hN2 hN3 rfl (by decide) (by decide) _ _ _ rfl hownN _ _ rfl (by simp) rfl (by intro u hu; simp at hu; subst hu; rfl) (by omega) hBW (Nat.le_refl _) hBW.size ?_; intro aN cN w3 hN9 hB9 hgr hat; have hS9 := hownS.kept hgr (own_types hownS hownN (by decide)); have hcw := (bcell hB9).1; have hownS := hS9; have hownN := hN9; have hBW := hB9))
          go_roundw
          case rel => exact ⟨k + 1, true, os ++ [(lo, hi, x)] ++ [y], by omega, by go_num, rfl, (by rw [spanOf_more, spanOf_more, List.length_append, List.length_append]; exact hownS), (by rw [numOf_more, numOf_more, List.length_append, List.length_append]; exact hownN), Hg.out, hBW⟩
          case measure => simp [RowKit.intOf]; omega
        · have Hg := hid (gath_skip hlt Hga.out hx)
          generalize l[k] = y at *
          clear Hga
          go_wp2_with (first
            | (at_builtin; refine append_one w.heap.size rfl _ _ 22 32 rfl iS (.agg #[.int .i64 0, .int .i64 0]) 2 16 Try.underlying22 hS0 hS1 hS2 hS3 rfl (by decide) (by decide) _ _ _ rfl hownS _ _ rfl (by simp) rfl (span_one1 _ _) (by omega) hBW (Nat.le_refl _) hBW.size ?_; intro aS cS w3 hS9 hB9 hgr hat; have hN9 := hownN.kept hgr (own_types hownN hownS (by decide)); have hcw := (bcell hB9).1; have hownS := hS9; have hownN := hN9; have hBW := hB9)
            | (at_builtin; refine append_one w.heap.size rfl _ _ 26 3 rfl iN (.int .i64 0) 1 8 Try.underlying26 hN0 hN1 hN2 hN3 rfl (by decide) (by decide) _ _ _ rfl hownN _ _ rfl (by simp) rfl (by intro u hu; simp at hu; subst hu; rfl) (by omega) hBW (Nat.le_refl _) hBW.size ?_; intro aN cN w3 hN9 hB9 hgr hat; have hS9 := hownS.kept hgr (own_types hownS hownN (by decide)); have hcw := (bcell hB9).1; have hownS := hS9; have hownN := hN9; have hBW := hB9))
          go_roundw
          case rel => exact ⟨k + 1, false, os ++ [y], by omega, by go_num, rfl, (by rw [spanOf_more, List.length_append]; exact hownS), (by rw [numOf_more, List.length_append]; exact hownN), Hg.out, hBW⟩
          case measure => simp [RowKit.intOf]; omega
      · have Hg := hid (gath_more hlt Hga.out)
        generalize l[k] = y at *
        clear Hga
        go_wp2_with (first
          | (at_builtin; refine append_one w.heap.size rfl _ _ 22 32 rfl iS (.agg #[.int .i64 0, .int .i64 0]) 2 16 Try.underlying22 hS0 hS1 hS2 hS3 rfl (by decide) (by decide) _ _ _ rfl hownS _ _ rfl (by simp) rfl (span_one1 _ _) (by omega) hBW (Nat.le_refl _) hBW.size ?_; intro aS cS w3 hS9 hB9 hgr hat; have hN9 := hownN.kept hgr (own_types hownN hownS (by decide)); have hcw := (bcell hB9).1; have hownS := hS9; have hownN := hN9; have hBW := hB9)
          | (at_builtin; refine append_one w.heap.size rfl _ _ 26 3 rfl iN (.int .i64 0) 1 8 Try.underlying26 hN0 hN1 hN2 hN3 rfl (by decide) (by decide) _ _ _ rfl hownN _ _ rfl (by simp) rfl (by intro u hu; simp at hu; subst hu; rfl) (by omega) hBW (Nat.le_refl _) hBW.size ?_; intro aN cN w3 hN9 hB9 hgr hat; have hS9 := hownS.kept hgr (own_types hownS hownN (by decide)); have hcw := (bcell hB9).1; have hownS := hS9; have hownN := hN9; have hBW := hB9))
        go_roundw
        case rel => exact ⟨k + 1, true, os ++ [y], by omega, by go_num, rfl, (by rw [spanOf_more, List.length_append]; exact hownS), (by rw [numOf_more, List.length_append]; exact hownN), Hg.out, hBW⟩
        case measure => simp [RowKit.intOf]; omega
    · obtain rfl : k = l.length := by omega
      have hend := gath_end (n := (lo, hi, x)) (os := os) hr hlh Hmm.out
      cases p
      · have Hos := hid (hend.2 Hga.out)
        have HE := hid (fun (W : World) (a b : Value) hB hS hN => refAdd_end (w := w) (W := W) (a := a) (b := b) (os := os ++ [(lo, hi, x)]) hobj hB hS hN)
        have hRW := fun (W : World) (hB : Below w.heap.size w W) => (hobj.below hB hRl).frozen 0
        have hRW1 := fun (W : World) (hB : Below w.heap.size w W) => (hobj.below hB hRl).frozen 1
        clear hend Hga
        go_wp2_with (first
          | (at_builtin; refine append_one w.heap.size rfl _ _ 22 32 rfl iS (.agg #[.int .i64 0, .int .i64 0]) 2 16 Try.underlying22 hS0 hS1 hS2 hS3 rfl (by decide) (by decide) _ _ _ rfl hownS _ _ rfl (by simp) rfl (span_one1 _ _) (by omega) hBW (Nat.le_refl _) hBW.size ?_; intro aS cS w3 hS9 hB9 hgr hat; have hN9 := hownN.kept hgr (own_types hownN hownS (by decide)); have hcw := (bcell hB9).1; have hf0 := hRW _ hB9; have hf1 := hRW1 _ hB9; have hownS := hS9; have hownN := hN9; have hBW := hB9)
          | (at_builtin; refine append_one w.heap.size rfl _ _ 26 3 rfl iN (.int .i64 0) 1 8 Try.underlying26 hN0 hN1 hN2 hN3 rfl (by decide) (by decide) _ _ _ rfl hownN _ _ rfl (by simp) rfl (by intro u hu; simp at hu; subst hu; rfl) (by omega) hBW (Nat.le_refl _) hBW.size ?_; intro aN cN w3 hN9 hB9 hgr hat; have hS9 := hownS.kept hgr (own_types hownS hownN (by decide)); have hcw := (bcell hB9).1; have hf0 := hRW _ hB9; have hf1 := hRW1 _ hB9; have hownS := hS9; have hownN := hN9; have hBW := hB9))
        go_ret
        have hfin := HE.out _ _ _ hBW (by rw [spanOf_more, List.length_append]; exact hownS) (by rw [numOf_more, List.length_append]; exact hownN)
        rw [Hos.out] at hfin
        refine ⟨by rw [He.out]; rfl, _, _, ?_, hfin.2.1, fun k hk => .inr (hfin.2.2.1 k hk), fun k hk => .inr (hfin.2.2.2 k hk)⟩
        rw [Hl.out]; exact hfin.1
      · have Hos := hid (hend.1 Hga.out)
        have hf0 := (hobj.below hBW hRl).frozen 0
        have hf1 := (hobj.below hBW hRl).frozen 1
        have HE := hid (refAdd_end (w := w) (os := os) hobj hBW hownS hownN)
        clear hend Hga
        go_wp2
        go_ret
        have hfin := HE.out
        refine ⟨by rw [He.out]; rfl, _, _, ?_, hfin.2.1, fun k hk => .inr (hfin.2.2.1 k hk), fun k hk => .inr (hfin.2.2.2 k hk)⟩
        rw [Hl.out, ← Hos.out]; exact hfin.1
end Go.Proofs.Ytmkbigaofhionaa
