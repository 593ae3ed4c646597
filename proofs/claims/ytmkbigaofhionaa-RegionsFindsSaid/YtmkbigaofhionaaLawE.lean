/- The law RegionsFinds of mortiselaw04. -/
import Derived.Test.YtmkbigaofhionaaLive4
import Derived.Deep.RegionHeld3
namespace Go.Proofs.Ytmkbigaofhionaa
open Go.RowKit
set_option linter.unusedVariables false
set_option linter.unusedSimpArgs false

def FindRel (w : World) (v5 : Value) (v6 : Value) (B R n : Nat) (v7 : Value) (wr : World) : Prop :=
  ∃ (k : Nat) (v lv xv : Value) (L : List (Item Int)), k ≤ n ∧ k ≤ 60 ∧ v7 = .int .i64 k ∧ Both w wr B R v lv xv L ∧ Rises L ∧ L.length ≤ k

set_option maxRecDepth 100000 in
set_option maxHeartbeats 8000000 in
theorem regionsFinds_calls (xs : TSpans.Val) (a : Option Addr) (cap : Nat) (at_ : Int) (w : World) (h : Rep w TSpans xs [.slice a xs.length cap]) :
    Calls Try.prog 3 #[.slice a xs.length cap, .int .i64 at_] w fun e w' => e = .returned (.bool true) ∧ Below w.heap.size w w' := by
  have hB := bel_refl w
  change List (Int × Int × Unit) at xs
  have hl := slice_len h
  have hnew := setNewInt w
  go_enter Try.func3, Try.ntmps3
  go_wp2_with (go_at_call 14; (with_reducible refine hnew.mono ?_); rintro e w1 ⟨rfl, hs1, hB1⟩)
  have hz1 := hB1.size
  have hboth : Both w (w1.alloc (.cells #[.slice none 0 0, .slice none 0 0] 28)) w.heap.size w1.heap.size (.slice none 0 0) (.slice none 0 0) (.slice none 0 0) [] :=
    ⟨hs1.below (bel_alloc (bel_refl _) _), ⟨Blk.new _ _, World.ownsRow_nil _ _ _ _, World.ownsRow_nil _ _ _ _⟩, Nat.le_refl _, hz1, bel_alloc hB1 _⟩
  go_loopw [7] (fun v7 wr => FindRel w undef undef w.heap.size w1.heap.size xs.length v7 wr) (fun v7 _ => xs.length - (RowKit.intOf v7).toNat)
  case atStart => exact ⟨0, _, _, _, _, by omega, by omega, rfl, hboth, trivial, by simp⟩
  case round =>
    obtain ⟨k, v, lv, xv, L, hk, hk2, rfl, hbo, hri, hLl⟩ := hrel
    have hBr := hbo.bel
    rcases (show (k < xs.length ∧ k < 60) ∨ (¬ k < xs.length) ∨ (k < xs.length ∧ ¬ k < 60) by omega) with ⟨hlt, hlt2⟩ | hex
    · obtain ⟨b, o, rfl, hb, d1, d2⟩ := spans_at h hlt
      have hd6 : decide ((k : Int) < 60) = true := decide_eq_true (by omega)
      have hwk : IntKind.i64.wrap ((k : Int) + 1) = (k : Int) + 1 := IntWalk.i64_in _ (by omega)
      have hcr := (bcell hBr).1
      have ha1 := fun lo hi x => both_add1 lo hi x hbo.drew hri (by omega)
      have ha2 := fun lo hi x v' w2 h1 h2 hb hB hR => both_add2 (w := w) (w2 := w2) (B := w.heap.size) (R := w1.heap.size) (v' := v') (lv := lv) (xv := xv) lo hi x h1 h2 hb hB hR hri (by omega)
      generalize xs[k] = x at *
      obtain ⟨lo, hi, u⟩ := x
      change Int at lo
      change Int at hi
      simp only at d1 d2
      go_wp2
      go_region_held3 (fun w' => w'.cell? ⟨b, o + k * 2, none⟩ = some (.int .i64 lo) ∧ w'.cell? ⟨b, o + k * 2 + 1, none⟩ = some (.int .i64 hi)) (go_keep)
        (first | (go_at_call 15; (with_reducible refine (ha1 _ _ _).mono ?_); rintro e w2 ⟨v2, rfl, hs2, hr2, hB2, hg1, hg2⟩; have hcw := (bcell hB2).1))
      go_wp2
      go_region_held3 (fun w' => w'.cell? ⟨b, o + k * 2, none⟩ = some (.int .i64 lo) ∧ w'.cell? ⟨b, o + k * 2 + 1, none⟩ = some (.int .i64 hi)) (go_keep)
        (first | (go_at_call 16; (with_reducible refine (ha2 _ _ _ _ _ (set_drew hs2) (ref_drew hr2) (bel_drew hB2) hg1 hg2).mono ?_); rintro e w3 ⟨l3, x3, rfl, hb3⟩; have hcw3 := (bcell hb3.bel).1))
      go_wp2
      go_roundw
      case rel => exact ⟨k + 1, _, _, _, _, by omega, by omega, by go_num, hb3, addL_rises hri, by have := addL_length lo hi ((k : Int) + 1) L; omega⟩
      case measure => simp [RowKit.intOf]; omega
    · have hfr := fun r (hf : findS at_ L = r) => setFind_any (B := w.heap.size) (v := v) at_ r _ hbo.set hri (by omega) hf
      have hrf := fun r (hf : findS at_ L = r) W hW => refFind (R := w1.heap.size) (lv := lv) (xv := xv) at_ r W hW (by omega) hf
      have href := hbo.ref
      have hlive := fun W => live4_any W
      rcases hf : findS at_ L with _ | p
      all_goals
        have h1 := hfr _ hf
        have h2 := hrf _ hf
        clear hfr hrf hf
        rcases hex with hex | ⟨hex, hex2⟩
        all_goals
          try (have hd6 : decide ((k : Int) < 60) = false := decide_eq_false (by omega))
          go_wp2_with (first
            | (go_at_call 17; (with_reducible refine h1.mono ?_); rintro e w2 ⟨rfl, hb2⟩; have hr2 := href.below hb2)
            | (go_at_call 18; (with_reducible refine (h2 _ hr2).mono ?_); rintro e w3 ⟨rfl, rfl⟩)
            | (go_at_call 19; (with_reducible refine (hlive _).mono ?_); rintro e w3 ⟨rfl, hb3⟩))
          go_ret
          exact ⟨rfl, bel_trans (bel_trans hBr hb2) hb3⟩
end Go.Proofs.Ytmkbigaofhionaa
