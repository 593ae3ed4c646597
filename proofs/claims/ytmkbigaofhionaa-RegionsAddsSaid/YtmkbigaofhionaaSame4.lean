/- mortiselaw04's same. -/
import Derived.Test.YtmkbigaofhionaaLive4
namespace Go.Proofs.Ytmkbigaofhionaa
open Go.RowKit
set_option linter.unusedVariables false
set_option linter.unusedSimpArgs false

theorem set_drewN {w : World} {B : Nat} {v : Value} {l : List (Item Int)} (h : SetInt w B v l) (n : Nat) : SetInt (w.drewN n) B v l := ⟨h.obj, h.row⟩

set_option maxRecDepth 100000 in
set_option maxHeartbeats 4000000 in
theorem same4_any {w wr : World} {B R : Nat} {v lv xv : Value} {L : List (Item Int)} (h : Both w wr B R v lv xv L) (hn : L.length ≤ 1000000000) :
    Calls Try.prog 24 #[.pointer (some ⟨B, 0, none⟩), .pointer (some ⟨R, 0, none⟩)] wr fun e w' => e = .returned (.bool true) ∧ Below wr.heap.size wr w' := by
  have hB := bel_refl wr
  have hs := h.set
  have href := h.ref
  clear h
  obtain ⟨a1, c1, rfl⟩ := owns_slice href.spans
  obtain ⟨a2, c2, rfl⟩ := owns_slice href.nums
  have hc0 : wr.cell? ⟨R, 0, none⟩ = some (.slice a1 L.length c1) := by rw [href.obj.cell]; rfl
  have hc1 : wr.cell? ⟨R, 1, none⟩ = some (.slice a2 L.length c2) := by rw [href.obj.cell]; rfl
  have hRl := href.lt
  go_enter Try.func24, Try.ntmps24
  go_wp2
  go_loopw [5] (fun v5 wq => ∃ i : Int, -1 ≤ i ∧ i ≤ L.length + 1 ∧ v5 = .int .i64 i ∧ Below wr.heap.size wr wq) (fun v5 _ => ((L.length : Int) + 1 - RowKit.intOf v5).toNat)
  case atStart => exact ⟨-1, by omega, by omega, rfl, hB⟩
  case round =>
    obtain ⟨i, hi1, hi2, rfl, hBq⟩ := hrel
    have hcq := (bcell hBq).1
    have hsq := hs.below hBq
    have hq := hBq.size
    rcases (show i < 0 ∨ i = L.length ∨ (0 ≤ i ∧ i < L.length) ∨ i = L.length + 1 by omega) with h1 | h1 | ⟨h1, h2⟩ | h1
    · have hat := setAtInt_out i _ hsq (.inl h1)
      go_wp2_with (go_at_call 48; (with_reducible refine hat.mono ?_); rintro e w1 ⟨rfl, hb1⟩)
      go_roundw
      case rel => exact ⟨i + 1, by omega, by omega, by go_num, bel_alloc (bel_trans hBq hb1) _⟩
      case measure => simp [RowKit.intOf]; omega
    · subst h1
      have hat := setAtInt_out (L.length : Int) _ hsq (.inr (Int.le_refl _))
      have hdec : decide ((L.length : Int) < 0) = false := decide_eq_false (by omega)
      go_wp2_with (go_at_call 48; (with_reducible refine hat.mono ?_); rintro e w1 ⟨rfl, hb1⟩; have hcw := (bcell (bel_trans hBq hb1)).1; have hR1 : R < w1.heap.size := Nat.lt_of_lt_of_le hRl (bel_trans hBq hb1).size)
      go_roundw
      case rel => exact ⟨L.length + 1, by omega, by omega, by go_num, bel_alloc (bel_trans hBq hb1) _⟩
      case measure => simp [RowKit.intOf]
    · obtain ⟨k, rfl⟩ := Int.eq_ofNat_of_zero_le h1
      have hk : k < L.length := by omega
      obtain ⟨g1, g2, rfl, rfl, hg1, hg2, d1, d2, d3⟩ := href.at hk
      have hat := setAtInt_in k _ _ hsq hk rfl hn
      have hdec : decide ((k : Int) < 0) = false := decide_eq_false (by omega)
      generalize L[k] = x at *
      go_wp2_with (go_at_call 48; (with_reducible refine hat.mono ?_); rintro e w1 ⟨rfl, hb1⟩; have hcw := (bcell (bel_trans hBq hb1)).1; have hz1 := (bel_trans hBq hb1).size; have hR1 : R < w1.heap.size := Nat.lt_of_lt_of_le hRl hz1; have hg3 : g1 < w1.heap.size := Nat.lt_of_lt_of_le hg1 hz1; have hg4 : g2 < w1.heap.size := Nat.lt_of_lt_of_le hg2 hz1)
      go_quiet (fail)
      go_wp2
      go_roundw
      case rel => exact ⟨(k : Int) + 1, by omega, by omega, by go_num, below_drewN (bel_alloc (bel_trans hBq hb1) _) _⟩
      case measure => simp [RowKit.intOf]; omega
    · subst h1
      have hlen := (setLenInt _ hsq).mono fun _ _ ⟨a, b⟩ => And.intro a b.symm
      have hlen2 := fun n => (setLenInt _ (set_drewN hsq n)).mono fun _ _ ⟨a, b⟩ => And.intro a b.symm
      go_wp2
      go_quiet ((go_at_call 49; first | exact Calls.quiet_of_same hlen | exact Calls.quiet_of_same (hlen2 _)))
      go_wp2
      go_ret
      exact ⟨rfl, below_drewN hBq _⟩
end Go.Proofs.Ytmkbigaofhionaa
