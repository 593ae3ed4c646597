/- The law RegionsBytes of mortiselaw04. -/
import Derived.Test.YtmkbigaofhionaaLive4
import Derived.Deep.RegionHeld3
namespace Go.Proofs.Ytmkbigaofhionaa
open Go.RowKit
set_option linter.unusedVariables false
set_option linter.unusedSimpArgs false

/-- Each one that is in came in at some place. -/
def Origin (xs : List (Int × Int × Unit)) (L : List (Item Int)) : Prop := ∀ y ∈ L, ∃ (i : Nat) (h : i < xs.length), y.2.2 = (i : Int) + 1 ∧ y.1 = xs[i].1 ∧ y.2.1 = xs[i].2.1
theorem Origin.add {xs : List (Int × Int × Unit)} {L : List (Item Int)} (h : Origin xs L) {k : Nat} (hk : k < xs.length) : Origin xs (addL xs[k].1 xs[k].2.1 ((k : Int) + 1) L) := by
  unfold addL
  split
  · intro y hy
    rcases insS_mem.1 hy with rfl | hy
    · exact ⟨k, hk, rfl, rfl, rfl⟩
    · exact h y hy
  · exact h

def PutRelB (w : World) (xs : List (Int × Int × Unit)) (B n : Nat) (v4 : Value) (wr : World) : Prop :=
  ∃ (k : Nat) (v : Value) (L : List (Item Int)), k ≤ n ∧ k ≤ 60 ∧ v4 = .int .i64 k ∧ SetInt wr B v L ∧ Below w.heap.size w wr ∧ Rises L ∧ L.length ≤ k ∧ Origin xs L

set_option maxRecDepth 100000 in
set_option maxHeartbeats 8000000 in
theorem regionsBytes_calls (xs : TSpans.Val) (a : Option Addr) (cap : Nat) (w : World) (h : Rep w TSpans xs [.slice a xs.length cap]) :
    Calls Try.prog 5 #[.slice a xs.length cap] w fun e w' => e = .returned (.bool true) ∧ Below w.heap.size w w' := by
  have hB := bel_refl w
  change List (Int × Int × Unit) at xs
  have hl := slice_len h
  have hnew := setNewInt w
  have hlive := fun W => live4_any W
  go_enter Try.func5, Try.ntmps5
  go_wp2_with (go_at_call 14; (with_reducible refine hnew.mono ?_); rintro e w1 ⟨rfl, hs1, hB1⟩)
  go_loopw [4] (fun v4 wr => PutRelB w xs w.heap.size xs.length v4 wr) (fun v4 _ => xs.length - (RowKit.intOf v4).toNat)
  case atStart => exact ⟨0, _, _, by omega, by omega, rfl, hs1, hB1, trivial, by simp, fun y hy => by cases hy⟩
  case round =>
    obtain ⟨k, v, L, hk, hk2, rfl, hs, hBr, hri, hLl, hor⟩ := hrel
    rcases (show (k < xs.length ∧ k < 60) ∨ (¬ k < xs.length) ∨ (k < xs.length ∧ ¬ k < 60) by omega) with ⟨hlt, hlt2⟩ | hex
    · obtain ⟨b, o, rfl, hb, d1, d2⟩ := spans_at h hlt
      have hd6 : decide ((k : Int) < 60) = true := decide_eq_true (by omega)
      have hcr := (bcell hBr).1
      have ha1 := fun lo hi x => setAddInt lo hi x _ (set_drew hs) hri (by omega)
      have hwk : IntKind.i64.wrap ((k : Int) + 1) = (k : Int) + 1 := IntWalk.i64_in _ (by omega)
      have Hor := hid (hor.add hlt)
      clear hor
      generalize xs[k] = x at *
      obtain ⟨xl, xh, u⟩ := x
      change Int at xl
      change Int at xh
      simp only at d1 d2
      go_wp2
      go_region_held3 (fun w' => w'.cell? ⟨b, o + k * 2, none⟩ = some (.int .i64 xl) ∧ w'.cell? ⟨b, o + k * 2 + 1, none⟩ = some (.int .i64 xh)) (go_keep)
        (first | (go_at_call 15; (with_reducible refine (ha1 _ _ _).mono ?_); rintro e w2 ⟨rfl, v2, hs2, hF2, hO2⟩; have hB2 := set_below (set_drew hs) (bel_drew hBr) (Nat.le_refl _) hF2; have hcw := (bcell hB2).1))
      go_wp2
      go_roundw
      case rel => exact ⟨k + 1, _, _, by omega, by omega, by go_num, hs2, hB2, addL_rises hri, by have := addL_length xl xh ((k : Int) + 1) L; omega, Hor.out⟩
      case measure => simp [RowKit.intOf]; omega
    · have hdk : k < xs.length → decide ((k : Int) < 60) = false := fun h1 => decide_eq_false (by omega)
      have hcov := fun W hW => setCov_any (B := w.heap.size) (v := v) (l := L) 0 200 W hW hri (by omega)
      have hc0 : covOf 0 200 L = covS 0 200 L := by unfold covOf; rw [if_pos (by decide)]
      rw [hc0] at hcov
      have hz0 : covS 0 0 L = 0 := cov_out hri (fun y hy => .inr (.inr (Int.le_refl _)))
      have hbnd := fun m : Nat => cov_bound (lo := 0) (hi := (m : Int)) hri (by omega)
      clear hc0 hnew
      rcases hex with hex | ⟨hex, hex2⟩
      all_goals
        try (have hd6 := hdk hex)
        clear hdk
        go_wp2
        go_loopw [5, 6] (fun v5 v6 wr => ∃ m : Nat, m ≤ 200 ∧ v5 = .int .i64 (covS 0 m L) ∧ v6 = .int .i64 m ∧ SetInt wr w.heap.size v L ∧ Below w.heap.size w wr) (fun _ v6 _ => 200 - (RowKit.intOf v6).toNat)
        case atStart => exact ⟨0, by omega, by rw [show ((0 : Nat) : Int) = 0 from rfl, hz0], rfl, hs, hBr⟩
        case round =>
          obtain ⟨m, hm, rfl, rfl, hsm, hBm⟩ := hrel
          by_cases hlt : m < 200
          · have hst := cov_step (m := (m : Int)) (by omega) hri
            have hb1 := hbnd m
            rcases hf : findS (m : Int) L with _ | p
            · have hfi := setFind_any (m : Int) none _ hsm hri (by omega) hf
              rw [hf] at hst
              have Hst := hid hst
              clear hst hf hbnd hcov
              generalize covS 0 (m : Int) L = c at *
              go_wp2_with (go_at_call 17; (with_reducible refine hfi.mono ?_); rintro e w2 ⟨rfl, hb2⟩; have hs2 := hsm.below hb2)
              go_roundw
              case rel => exact ⟨m + 1, by omega, by rw [Int.natCast_add]; exact congrArg _ (by simpa using Hst.out.symm), by go_num, hs2, bel_trans hBm hb2⟩
              case measure => simp [RowKit.intOf]; omega
            · obtain ⟨y, hy, hyp, hy1, hy2⟩ := findS_some hf
              obtain ⟨i, hi, e1, e2, e3⟩ := hor y hy
              have hfi := setFind_any (m : Int) (some p) _ hsm hri (by omega) hf
              obtain ⟨b, o, rfl, hb, d1, d2⟩ := spans_at h hi
              rw [hf] at hst
              have Hst := hid hst
              have hp : p = (i : Int) + 1 := by rw [← hyp, e1]
              subst hp
              rw [e2] at hy1
              rw [e3] at hy2
              have hb2 := hbnd (m + 1)
              have hb3 : covS 0 (m : Int) L ≤ 1000 := by omega
              have hb4 : 0 ≤ covS 0 (m : Int) L := by omega
              clear hst hf hbnd hcov hyp e1 e2 e3 hy hor hb2 hb1
              generalize covS 0 (m : Int) L = c at *
              generalize xs[i] = x at *
              obtain ⟨xl, xh, u⟩ := x
              change Int at xl
              change Int at xh
              simp only at d1 d2 hy1 hy2
              have q1 : decide ((i : Int) + 1 < 1) = false := decide_eq_false (by omega)
              have q2 : decide ((xs.length : Int) < (i : Int) + 1) = false := decide_eq_false (by omega)
              have q3 : decide ((m : Int) < xl) = false := decide_eq_false (by omega)
              have q4 : decide (xh ≤ (m : Int)) = false := decide_eq_false (by omega)
              have hwk : IntKind.i64.wrap ((i : Int) + 1 - 1) = (i : Int) := (by rw [IntWalk.i64_in _ (by omega)]; omega)
              go_wp2_with (go_at_call 17; (with_reducible refine hfi.mono ?_); rintro e w2 ⟨rfl, hb2⟩; have hs2 := hsm.below hb2; have hcw := (bcell (bel_trans hBm hb2)).1)
              go_roundw
              case rel => exact ⟨m + 1, by omega, by rw [Int.natCast_add]; exact congrArg _ (by simpa using Hst.out.symm), by go_num, hs2, bel_trans hBm hb2⟩
              case measure => simp [RowKit.intOf]; omega
          · obtain rfl : m = 200 := by omega
            have hco := hcov _ hsm
            rw [show ((200 : Nat) : Int) = 200 from rfl]
            clear hcov hbnd hz0
            go_wp2_with (first
              | (go_at_call 20; (with_reducible refine hco.mono ?_); rintro e w2 ⟨rfl, hb2⟩)
              | (go_at_call 19; (with_reducible refine (hlive _).mono ?_); rintro e w3 ⟨rfl, hb3⟩))
            go_ret
            exact ⟨rfl, bel_trans (bel_trans hBm hb2) hb3⟩
end Go.Proofs.Ytmkbigaofhionaa
