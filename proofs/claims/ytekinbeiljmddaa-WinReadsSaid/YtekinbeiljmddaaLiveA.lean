/- live of mortiselaw01: it answers true. -/
import Derived.Test.YtekinbeiljmddaaWinU
namespace Go.Proofs.Ytekinbeiljmddaa
open Go.RowKit
set_option linter.unusedVariables false
set_option linter.unusedSimpArgs false

theorem live1_a : alignS 5 4 = (8, true) := by decide +kernel
theorem live1_b : addS 4611686018427387904 1 = (0, false) := by decide +kernel
theorem live1_c : bytesT 258 2 true = ⟨#[1, 2]⟩ ∧ bytesE 258 2 = 0 := by decide +kernel
theorem live1_d : subS ⟨#[97, 98, 99, 100]⟩ 1 2 = ⟨#[98, 99]⟩ ∧ subE (4 : Nat) 1 2 = 0 ∧ subB ⟨#[97, 98, 99, 100]⟩ 0 1 2 = 1 := by decide +kernel
theorem live1_e : uintV ⟨#[98, 99]⟩ 0 2 true = 25187 ∧ uintE (2 : Nat) 0 2 = 0 := by decide +kernel
theorem live1_f : subS ⟨#[98, 99]⟩ 1 2 = ⟨#[]⟩ ∧ subE (2 : Nat) 1 2 = 2 ∧ subB ⟨#[98, 99]⟩ 1 1 2 = 0 := by decide +kernel

theorem l1a (w : World) : Calls Try.prog 23 #[.int .i64 5, .int .i64 4] w fun e w' => e = .returned (.tuple #[.int .i64 8, .bool true]) ∧ w = w' := by
  have h := align_any 5 4 w; rw [live1_a] at h; exact h
theorem l1b (w : World) : Calls Try.prog 29 #[.int .i64 4611686018427387904, .int .i64 1] w fun e w' => e = .returned (.tuple #[.int .i64 0, .bool false]) ∧ w = w' := by
  have h := add_any 4611686018427387904 1 w; rw [live1_b] at h; exact h
theorem l1c (w : World) : Calls Try.prog 16 #[.int .u64 258, .int .i64 2, .bool true] w fun e w' => e = .returned (.tuple #[.string ⟨#[1, 2]⟩, .int .i64 0]) ∧ Below w.heap.size w w' := by
  have h := bytes_any 258 2 true w (by decide); rw [live1_c.1, live1_c.2] at h; exact h
theorem l1d (w : World) : Calls Try.prog 20 #[.agg #[.string ⟨#[97, 98, 99, 100]⟩, .int .i64 0], .int .i64 1, .int .i64 2] w fun e w' => e = .returned (.tuple #[.agg #[.string ⟨#[98, 99]⟩, .int .i64 1], .int .i64 0]) ∧ Below w.heap.size w w' := by
  have h := sub_any ⟨#[97, 98, 99, 100]⟩ 0 1 2 w (by decide)
  rw [live1_d.1, show (⟨#[97, 98, 99, 100]⟩ : ByteArray).size = 4 from rfl, live1_d.2.1, live1_d.2.2] at h; exact h
theorem l1e (w : World) : Calls Try.prog 21 #[.agg #[.string ⟨#[98, 99]⟩, .int .i64 1], .int .i64 0, .int .i64 2, .bool true] w fun e w' => e = .returned (.tuple #[.int .u64 25187, .int .i64 0]) ∧ Below w.heap.size w w' := by
  have h := uint_any ⟨#[98, 99]⟩ 1 0 2 true w (by decide)
  rw [show (⟨#[98, 99]⟩ : ByteArray).size = 2 from rfl, live1_e.1, live1_e.2] at h; exact h
theorem l1f (w : World) : Calls Try.prog 20 #[.agg #[.string ⟨#[98, 99]⟩, .int .i64 1], .int .i64 1, .int .i64 2] w fun e w' => e = .returned (.tuple #[.agg #[.string ⟨#[]⟩, .int .i64 0], .int .i64 2]) ∧ Below w.heap.size w w' := by
  have h := sub_any ⟨#[98, 99]⟩ 1 1 2 w (by decide)
  rw [live1_f.1, show (⟨#[98, 99]⟩ : ByteArray).size = 2 from rfl, live1_f.2.1, live1_f.2.2] at h; exact h

set_option maxHeartbeats 1000000 in
theorem live1_any (w : World) : Calls Try.prog 18 #[] w fun e w' => e = .returned (.bool true) ∧ Below w.heap.size w w' := by
  go_enter Try.func18, Try.ntmps18
  go_wp2_with (first
    | (go_at_call 23; refine (l1a _).mono ?_; rintro e w' ⟨rfl, rfl⟩)
    | (go_at_call 29; refine (l1b _).mono ?_; rintro e w' ⟨rfl, rfl⟩)
    | (go_at_call 16; refine (l1c _).mono ?_; rintro e w1 ⟨rfl, hb1⟩)
    | (go_at_call 19; refine (of_any _ _).mono ?_; rintro e w2 ⟨rfl, hb2⟩)
    | (go_at_call 20; with_reducible refine (l1d _).mono ?_; rintro e w3 ⟨rfl, hb3⟩)
    | (go_at_call 21; refine (l1e _).mono ?_; rintro e w4 ⟨rfl, hb4⟩; have hc4 := (bcell hb4).1; have hz4 : w3.heap.size < w4.heap.size := by (have := hb4.size; simp at this; omega))
    | (go_at_call 20; refine (l1f _).mono ?_; rintro e w5 ⟨rfl, hb5⟩; have hc5 := (bcell hb5).1; have hz5 : w3.heap.size < w5.heap.size := by (have := hb5.size; omega))
    | (go_at_call 27; refine (base_any _ _ _).mono ?_; rintro e w6 ⟨rfl, hb6⟩))
  go_ret
  exact ⟨rfl, bel_trans (bel_alloc (bel_trans (bel_trans (bel_alloc (bel_trans (bel_trans hb1 hb2) hb3) _) hb4) hb5) _) hb6⟩
end Go.Proofs.Ytekinbeiljmddaa
