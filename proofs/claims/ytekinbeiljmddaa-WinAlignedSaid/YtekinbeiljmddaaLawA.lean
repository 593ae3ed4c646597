/- The six statements of mortiselaw01: each law returns true at every input. -/
import Derived.Test.YtekinbeiljmddaaLiveA
import Derived.Test.YtekinbeiljmddaaRefB
import Derived.Test.YtekinbeiljmddaaLift
namespace Go.Proofs.Ytekinbeiljmddaa
open Go.ChangeShapes Go.WideShapes Go.ChangeAt Go.RowKit
set_option linter.unusedVariables false
set_option linter.unusedSimpArgs false

theorem own : ownKnob Try.prog.godebug = none := by kernel_rfl
theorem laidOut : laidOutB Try.prog = true := by kernel_rfl

set_option maxHeartbeats 1000000 in
theorem winBytes_calls (n : Nat) (width : Int) (big : Bool) (w : World) (hn : n < 18446744073709551616) :
    Calls Try.prog 4 #[.int .u64 n, .int .i64 width, .bool big] w fun e w' => e = .returned (.bool true) ∧ Below w.heap.size w w' := by
  go_enter Try.func4, Try.ntmps4
  go_wp2_with (first
    | (go_at_call 16; refine (bytes_any _ _ _ _ hn).mono ?_; rintro e w1 ⟨rfl, hb1⟩)
    | (go_at_call 17; refine (refBytes_any _ _ _ _ hn).mono ?_; rintro e w2 ⟨rfl, hb2⟩)
    | (go_at_call 18; refine (live1_any _).mono ?_; rintro e w3 ⟨rfl, hb3⟩))
  go_ret
  exact ⟨rfl, bel_trans (bel_trans hb1 hb2) hb3⟩

set_option maxHeartbeats 1000000 in
theorem winSums_calls (a b : Int) (w : World) :
    Calls Try.prog 10 #[.int .i64 a, .int .i64 b] w fun e w' => e = .returned (.bool true) ∧ Below w.heap.size w w' := by
  go_enter Try.func10, Try.ntmps10
  go_wp2_with (first
    | (go_at_call 29; refine (add_any _ _ _).mono ?_; rintro e w1 ⟨rfl, rfl⟩)
    | (go_at_call 30; refine (refAdd_any _ _ _).mono ?_; rintro e w1 ⟨rfl, rfl⟩)
    | (go_at_call 31; refine (mul_any _ _ _).mono ?_; rintro e w1 ⟨rfl, rfl⟩)
    | (go_at_call 32; refine (refMul_any _ _ _).mono ?_; rintro e w1 ⟨rfl, rfl⟩)
    | (go_at_call 23; refine (align_any _ _ _).mono ?_; rintro e w1 ⟨rfl, rfl⟩)
    | (go_at_call 33; refine (refAlign_any _ _ _).mono ?_; rintro e w1 ⟨rfl, rfl⟩)
    | (go_at_call 18; refine (live1_any _).mono ?_; rintro e w3 ⟨rfl, hb3⟩))
  go_ret
  exact ⟨rfl, hb3⟩

theorem alignS_facts {n a : Int} (h : (alignS n a).2 = true) : n ≤ (alignS n a).1 ∧ (alignS n a).1 - n < a ∧ 1 ≤ a ∧ a ≤ 1048576 ∧ (alignS n a).1 % a = 0 ∧ 0 ≤ n ∧ (alignS n a).1 ≤ 4611686018427387904 ∧
    alignS (alignS n a).1 a = ((alignS n a).1, true) := by
  by_cases h0 : isPlace n = true ∧ 1 ≤ a ∧ a ≤ 1048576
  case neg => unfold alignS at h; rw [if_neg h0] at h; cases h
  obtain ⟨h1, h2, h3⟩ := h0
  have e : alignS n a = addS n ((a - n % a) % a) := by unfold alignS; rw [if_pos ⟨h1, h2, h3⟩]
  have h4 := Int.emod_nonneg n (b := a) (by omega)
  have h5 := Int.emod_lt_of_pos n (b := a) (by omega)
  have h6 := isPlace_iff.1 h1
  have h7 := Int.emod_nonneg (a - n % a) (b := a) (by omega)
  have h8 := Int.emod_lt_of_pos (a - n % a) (b := a) (by omega)
  have hp : isPlace ((a - n % a) % a) = true := isPlace_yes h7 (by omega)
  rw [e, addS_eq h1 hp] at h
  rw [e, addS_eq h1 hp]
  split at h
  · cases h
  · rename_i h9
    rw [if_neg h9]
    simp only
    have h10 : (n + (a - n % a) % a) % a = 0 := by
      rw [Int.add_emod, Int.emod_emod_of_dvd _ (Int.dvd_refl a), ← Int.add_emod]
      rw [show n + (a - n % a) = (n - n % a) + a by omega, Int.add_emod_right]
      exact Int.emod_eq_zero_of_dvd (Int.dvd_self_sub_emod)
    refine ⟨by omega, by omega, h2, h3, h10, h6.1, by omega, ?_⟩
    have hpx : isPlace (n + (a - n % a) % a) = true := isPlace_yes (by omega) (by omega)
    unfold alignS
    rw [if_pos ⟨hpx, h2, h3⟩, h10]
    simp only [Int.sub_zero, Int.emod_self]
    exact addS_zero hpx

set_option maxHeartbeats 1000000 in
theorem winAligned_calls (n a : Int) (w : World) :
    Calls Try.prog 7 #[.int .i64 n, .int .i64 a] w fun e w' => e = .returned (.bool true) ∧ Below w.heap.size w w' := by
  have hc1 := fun w => align_any n a w
  cases hok : (alignS n a).2
  · have hx : (alignS n a).1 = 0 := by
      unfold alignS at hok ⊢
      by_cases h0 : isPlace n = true ∧ 1 ≤ a ∧ a ≤ 1048576
      · rw [if_pos h0] at hok ⊢
        unfold addS at hok ⊢
        split at hok
        · cases hok
        · rename_i h1; rw [if_neg h1]
      · rw [if_neg h0]
    rw [hok, hx] at hc1
    clear hok hx
    go_enter Try.func7, Try.ntmps7
    go_wp2_with (first
      | (go_at_call 23; refine (hc1 _).mono ?_; rintro e w1 ⟨rfl, rfl⟩)
      | (go_at_call 18; refine (live1_any _).mono ?_; rintro e w3 ⟨rfl, hb3⟩))
    go_ret
    exact ⟨rfl, hb3⟩
  · obtain ⟨f1, f2, f3, f4, f5, f6, f7, f8⟩ := alignS_facts hok
    rw [hok] at hc1
    have hc2 := fun w => align_any (alignS n a).1 a w
    rw [f8] at hc2
    generalize (alignS n a).1 = x at hc1 hc2 f1 f2 f5 f7
    clear hok f8
    have g5 : (x % a == 0) = true := beq_iff_eq.2 f5
    have g0 : ¬ a = 0 := by omega
    clear f5
    go_enter Try.func7, Try.ntmps7
    go_wp2_with (first
      | (go_at_call 23; with_reducible refine (hc1 _).mono ?_; rintro e w1 ⟨rfl, rfl⟩)
      | (go_at_call 23; with_reducible refine (hc2 _).mono ?_; rintro e w1 ⟨rfl, rfl⟩)
      | (go_at_call 18; refine (live1_any _).mono ?_; rintro e w3 ⟨rfl, hb3⟩))
    go_ret
    exact ⟨rfl, hb3⟩

set_option maxHeartbeats 1000000 in
theorem winReads_calls (s : ByteArray) (from_ at_ width : Int) (big : Bool) (w : World) (hs : s.size ≤ 140737488351232) :
    Calls Try.prog 5 #[.agg #[.string s, .int .i64 from_, .int .i64 at_, .int .i64 width, .bool big]] w fun e w' => e = .returned (.bool true) ∧ Below w.heap.size w w' := by
  by_cases h : from_ < 0 ∨ s.size < from_
  · by_cases h1 : from_ < 0
    all_goals
      go_enter Try.func5, Try.ntmps5
      go_wp2
      go_quiet (fail)
      go_wp2_with (go_at_call 18; refine (live1_any _).mono ?_; rintro e w3 ⟨rfl, hb3⟩)
      go_ret
      exact ⟨rfl, bel_trans (below_drewN (bel_alloc (bel_refl _) _) _) hb3⟩
  · have h0 : 0 ≤ from_ := by omega
    have h1 : from_ ≤ s.size := by omega
    clear h
    have hso := fun w => sub_ok s 0 from_ (s.size - from_) w (by unfold maxLen; omega) h0 (by omega) h1 (by omega)
    rw [show (from_ + ((s.size : Int) - from_)).toNat = s.size by omega] at hso
    have hts : (s.extract from_.toNat s.size).size ≤ 140737488351232 := by rw [ByteArray.size_extract]; omega
    go_enter Try.func5, Try.ntmps5
    go_wp2
    go_quiet (fail)
    go_wp2_with (first
      | (go_at_call 19; refine (of_any _ _).mono ?_; rintro e w1 ⟨rfl, hb1⟩)
      | (go_at_call 20; refine (hso _).mono ?_; rintro e w2 ⟨rfl, hb2⟩)
      | (go_at_call 21; refine (uint_any _ _ _ _ _ _ (by unfold maxLen; omega)).mono ?_; rintro e w4 ⟨rfl, hb4⟩)
      | (go_at_call 22; refine (refUint_any _ _ _ _ _ (by unfold maxLen; omega)).mono ?_; rintro e w5 ⟨rfl, rfl⟩)
      | (go_at_call 18; refine (live1_any _).mono ?_; rintro e w3 ⟨rfl, hb3⟩))
    go_ret
    exact ⟨rfl, bel_trans (bel_trans (bel_alloc (bel_trans (bel_trans (below_drewN (bel_alloc (bel_refl _) _) _) hb1) hb2) _) hb4) hb3⟩

theorem subS_size (s : ByteArray) (at_ n : Int) : (subS s at_ n).size ≤ s.size := by
  unfold subS; split
  · rw [ByteArray.size_extract]; omega
  · exact Nat.zero_le _

set_option maxHeartbeats 2000000 in
theorem winSubs_calls (s : ByteArray) (at_ n from_ most : Int) (w : World) (hs : s.size ≤ 140737488351232) :
    Calls Try.prog 8 #[.agg #[.string s, .int .i64 at_, .int .i64 n, .int .i64 from_, .int .i64 most]] w fun e w' => e = .returned (.bool true) ∧ Below w.heap.size w w' := by
  have hts := subS_size s at_ n
  have hts2 := subS_size (subS s at_ n) from_ most
  have hc1 := fun w => sub_any s 0 at_ n w (by unfold maxLen; omega)
  have hr1 := fun w => refSub_any s at_ n w (by unfold maxLen; omega)
  by_cases h1 : subE s.size at_ n = 0
  · have h2 : ¬ (at_ < 0 ∨ n < 0) := by intro hn; unfold subE at h1; rw [if_pos hn] at h1; omega
    have h3 : ¬ ((s.size : Int) < at_ ∨ (s.size : Int) - at_ < n) := by intro hn; unfold subE at h1; rw [if_neg h2, if_pos hn] at h1; omega
    have hb0 : subB s 0 at_ n = at_ := by unfold subB; rw [if_pos h1]; unfold wrap64; omega
    have hc2 := fun w => sub_any (subS s at_ n) at_ from_ most w (by unfold maxLen; omega)
    have hr2 := fun w => refSub_any (subS s at_ n) from_ most w (by unfold maxLen; omega)
    have hv : subE (subS s at_ n).size from_ most = 0 → subB (subS s at_ n) at_ from_ most = at_ + from_ ∧ 0 ≤ from_ ∧ from_ ≤ 140737488351232 := by
      intro h5
      have h6 : ¬ (from_ < 0 ∨ most < 0) := by intro hn; unfold subE at h5; rw [if_pos hn] at h5; omega
      have h7 : ¬ (((subS s at_ n).size : Int) < from_ ∨ ((subS s at_ n).size : Int) - from_ < most) := by intro hn; unfold subE at h5; rw [if_neg h6, if_pos hn] at h5; omega
      refine ⟨?_, by omega, by omega⟩
      unfold subB; rw [if_pos h5]; unfold wrap64; omega
    have k1 : 0 ≤ at_ := by omega
    have k2 : at_ ≤ 140737488351232 := by omega
    rw [h1, hb0] at hc1
    rw [h1] at hr1
    clear h1 hb0 h2 h3
    generalize subS s at_ n = t at *
    generalize subS t from_ most = u at *
    have hl1 := fun b w => len_any t b w (by unfold maxLen; omega)
    have hl2 := fun b w => len_any u b w (by unfold maxLen; omega)
    obtain ⟨x, hx⟩ : ∃ x, subB t at_ from_ most = x := ⟨_, rfl⟩
    obtain ⟨f, hf⟩ : ∃ f, subE t.size from_ most = f := ⟨_, rfl⟩
    rw [hx, hf] at hv
    simp only [hx, hf] at hc2 hr2
    clear hx hf
    have hB := bel_refl w
    by_cases hf0 : f = 0
    · subst hf0
      have hv' : x = at_ + from_ := (hv rfl).1
      have hv1 : 0 ≤ from_ := (hv rfl).2.1
      have hv2 : from_ ≤ 140737488351232 := (hv rfl).2.2
      subst hv'
      clear hv
      go_enter Try.func8, Try.ntmps8
      go_wp2
      go_quiet (fail)
      go_wp2_with (first
        | (go_at_call 19; with_reducible refine (of_any _ _).mono ?_; rintro e w1 ⟨rfl, hb⟩; have hB : Below w.heap.size w w1 := bel_trans (by repeat (first | exact hB | refine bel_alloc ?_ _ | refine below_drewN ?_ _ | refine Below.drew ?_ | refine bel_set ?_ (by simp; omega) _)) hb; have hc := (bcell hb).1; have hs0 := hb.size; (try simp only [heap_size_alloc', heap_size_drewN', heap_size_drew'] at hs0))
        | (go_at_call 20; with_reducible refine (hc1 _).mono ?_; rintro e w2 ⟨rfl, hb⟩; have hB : Below w.heap.size w w2 := bel_trans (by repeat (first | exact hB | refine bel_alloc ?_ _ | refine below_drewN ?_ _ | refine Below.drew ?_ | refine bel_set ?_ (by simp; omega) _)) hb; have hc := (bcell hb).1; have hs0 := hb.size; (try simp only [heap_size_alloc', heap_size_drewN', heap_size_drew'] at hs0))
        | (go_at_call 20; with_reducible refine (hc2 _).mono ?_; rintro e w8 ⟨rfl, hb⟩; have hB : Below w.heap.size w w8 := bel_trans (by repeat (first | exact hB | refine bel_alloc ?_ _ | refine below_drewN ?_ _ | refine Below.drew ?_ | refine bel_set ?_ (by simp; omega) _)) hb; have hc := (bcell hb).1; have hs0 := hb.size; (try simp only [heap_size_alloc', heap_size_drewN', heap_size_drew'] at hs0); have hz2 : w2.heap.size < w8.heap.size := by omega)
        | (go_at_call 24; with_reducible refine (hr1 _).mono ?_; rintro e w1 ⟨rfl, rfl⟩)
        | (go_at_call 24; with_reducible refine (hr2 _).mono ?_; rintro e w1 ⟨rfl, rfl⟩)
        | (go_at_call 25; with_reducible refine (text_any _ _ _).mono ?_; rintro e w4 ⟨rfl, hb⟩; have hB : Below w.heap.size w w4 := bel_trans (by repeat (first | exact hB | refine bel_alloc ?_ _ | refine below_drewN ?_ _ | refine Below.drew ?_ | refine bel_set ?_ (by simp; omega) _)) hb; have hc := (bcell hb).1; have hs0 := hb.size; (try simp only [heap_size_alloc', heap_size_drewN', heap_size_drew'] at hs0); have hz2 : w2.heap.size < w4.heap.size := (by omega); try (have hz8 : w8.heap.size < w4.heap.size := (by omega)))
        | (go_at_call 26; with_reducible refine (hl1 _ _).mono ?_; rintro e w4 ⟨rfl, hb⟩; have hB : Below w.heap.size w w4 := bel_trans (by repeat (first | exact hB | refine bel_alloc ?_ _ | refine below_drewN ?_ _ | refine Below.drew ?_ | refine bel_set ?_ (by simp; omega) _)) hb; have hc := (bcell hb).1; have hs0 := hb.size; (try simp only [heap_size_alloc', heap_size_drewN', heap_size_drew'] at hs0); have hz2 : w2.heap.size < w4.heap.size := by omega)
        | (go_at_call 26; with_reducible refine (hl2 _ _).mono ?_; rintro e w4 ⟨rfl, hb⟩; have hB : Below w.heap.size w w4 := bel_trans (by repeat (first | exact hB | refine bel_alloc ?_ _ | refine below_drewN ?_ _ | refine Below.drew ?_ | refine bel_set ?_ (by simp; omega) _)) hb; have hc := (bcell hb).1; have hs0 := hb.size; (try simp only [heap_size_alloc', heap_size_drewN', heap_size_drew'] at hs0); have hz2 : w2.heap.size < w4.heap.size := (by omega); try (have hz8 : w8.heap.size < w4.heap.size := (by omega)))
        | (go_at_call 27; with_reducible refine (base_any _ _ _).mono ?_; rintro e w4 ⟨rfl, hb⟩; have hB : Below w.heap.size w w4 := bel_trans (by repeat (first | exact hB | refine bel_alloc ?_ _ | refine below_drewN ?_ _ | refine Below.drew ?_ | refine bel_set ?_ (by simp; omega) _)) hb; have hc := (bcell hb).1; have hs0 := hb.size; (try simp only [heap_size_alloc', heap_size_drewN', heap_size_drew'] at hs0); have hz2 : w2.heap.size < w4.heap.size := (by omega); try (have hz8 : w8.heap.size < w4.heap.size := (by omega)))
        | (go_at_call 18; with_reducible refine (live1_any _).mono ?_; rintro e w3 ⟨rfl, hb⟩; have hB : Below w.heap.size w w3 := bel_trans (by repeat (first | exact hB | refine bel_alloc ?_ _ | refine below_drewN ?_ _ | refine Below.drew ?_ | refine bel_set ?_ (by simp; omega) _)) hb; have hc := (bcell hb).1; have hs0 := hb.size; (try simp only [heap_size_alloc', heap_size_drewN', heap_size_drew'] at hs0)))
      go_ret
      exact ⟨rfl, hB⟩
    · have hf1 : (f != 0) = true := bne_iff_ne.2 hf0
      clear hf0 hv
      go_enter Try.func8, Try.ntmps8
      go_wp2
      go_quiet (fail)
      go_wp2_with (first
        | (go_at_call 19; with_reducible refine (of_any _ _).mono ?_; rintro e w1 ⟨rfl, hb⟩; have hB : Below w.heap.size w w1 := bel_trans (by repeat (first | exact hB | refine bel_alloc ?_ _ | refine below_drewN ?_ _ | refine Below.drew ?_ | refine bel_set ?_ (by simp; omega) _)) hb; have hc := (bcell hb).1; have hs0 := hb.size; (try simp only [heap_size_alloc', heap_size_drewN', heap_size_drew'] at hs0))
        | (go_at_call 20; with_reducible refine (hc1 _).mono ?_; rintro e w2 ⟨rfl, hb⟩; have hB : Below w.heap.size w w2 := bel_trans (by repeat (first | exact hB | refine bel_alloc ?_ _ | refine below_drewN ?_ _ | refine Below.drew ?_ | refine bel_set ?_ (by simp; omega) _)) hb; have hc := (bcell hb).1; have hs0 := hb.size; (try simp only [heap_size_alloc', heap_size_drewN', heap_size_drew'] at hs0))
        | (go_at_call 20; with_reducible refine (hc2 _).mono ?_; rintro e w8 ⟨rfl, hb⟩; have hB : Below w.heap.size w w8 := bel_trans (by repeat (first | exact hB | refine bel_alloc ?_ _ | refine below_drewN ?_ _ | refine Below.drew ?_ | refine bel_set ?_ (by simp; omega) _)) hb; have hc := (bcell hb).1; have hs0 := hb.size; (try simp only [heap_size_alloc', heap_size_drewN', heap_size_drew'] at hs0); have hz2 : w2.heap.size < w8.heap.size := by omega)
        | (go_at_call 24; with_reducible refine (hr1 _).mono ?_; rintro e w1 ⟨rfl, rfl⟩)
        | (go_at_call 24; with_reducible refine (hr2 _).mono ?_; rintro e w1 ⟨rfl, rfl⟩)
        | (go_at_call 25; with_reducible refine (text_any _ _ _).mono ?_; rintro e w4 ⟨rfl, hb⟩; have hB : Below w.heap.size w w4 := bel_trans (by repeat (first | exact hB | refine bel_alloc ?_ _ | refine below_drewN ?_ _ | refine Below.drew ?_ | refine bel_set ?_ (by simp; omega) _)) hb; have hc := (bcell hb).1; have hs0 := hb.size; (try simp only [heap_size_alloc', heap_size_drewN', heap_size_drew'] at hs0); have hz2 : w2.heap.size < w4.heap.size := (by omega); try (have hz8 : w8.heap.size < w4.heap.size := (by omega)))
        | (go_at_call 26; with_reducible refine (hl1 _ _).mono ?_; rintro e w4 ⟨rfl, hb⟩; have hB : Below w.heap.size w w4 := bel_trans (by repeat (first | exact hB | refine bel_alloc ?_ _ | refine below_drewN ?_ _ | refine Below.drew ?_ | refine bel_set ?_ (by simp; omega) _)) hb; have hc := (bcell hb).1; have hs0 := hb.size; (try simp only [heap_size_alloc', heap_size_drewN', heap_size_drew'] at hs0); have hz2 : w2.heap.size < w4.heap.size := by omega)
        | (go_at_call 26; with_reducible refine (hl2 _ _).mono ?_; rintro e w4 ⟨rfl, hb⟩; have hB : Below w.heap.size w w4 := bel_trans (by repeat (first | exact hB | refine bel_alloc ?_ _ | refine below_drewN ?_ _ | refine Below.drew ?_ | refine bel_set ?_ (by simp; omega) _)) hb; have hc := (bcell hb).1; have hs0 := hb.size; (try simp only [heap_size_alloc', heap_size_drewN', heap_size_drew'] at hs0); have hz2 : w2.heap.size < w4.heap.size := (by omega); try (have hz8 : w8.heap.size < w4.heap.size := (by omega)))
        | (go_at_call 27; with_reducible refine (base_any _ _ _).mono ?_; rintro e w4 ⟨rfl, hb⟩; have hB : Below w.heap.size w w4 := bel_trans (by repeat (first | exact hB | refine bel_alloc ?_ _ | refine below_drewN ?_ _ | refine Below.drew ?_ | refine bel_set ?_ (by simp; omega) _)) hb; have hc := (bcell hb).1; have hs0 := hb.size; (try simp only [heap_size_alloc', heap_size_drewN', heap_size_drew'] at hs0); have hz2 : w2.heap.size < w4.heap.size := (by omega); try (have hz8 : w8.heap.size < w4.heap.size := (by omega)))
        | (go_at_call 18; with_reducible refine (live1_any _).mono ?_; rintro e w3 ⟨rfl, hb⟩; have hB : Below w.heap.size w w3 := bel_trans (by repeat (first | exact hB | refine bel_alloc ?_ _ | refine below_drewN ?_ _ | refine Below.drew ?_ | refine bel_set ?_ (by simp; omega) _)) hb; have hc := (bcell hb).1; have hs0 := hb.size; (try simp only [heap_size_alloc', heap_size_drewN', heap_size_drew'] at hs0)))
      go_ret
      exact ⟨rfl, hB⟩
  · have hb0 : subB s 0 at_ n = 0 := by unfold subB; rw [if_neg h1]
    have ht : subS s at_ n = ⟨#[]⟩ := by unfold subS; rw [if_neg h1]
    rw [hb0, ht] at hc1
    rw [ht] at hr1
    have hl1 := fun b w => len_any ⟨#[]⟩ b w (by decide)
    clear hts hts2 hb0 ht
    have hf1 : (subE s.size at_ n != 0) = true := bne_iff_ne.2 h1
    generalize subE s.size at_ n = f at hc1 hr1 hf1
    clear h1
    have hB := bel_refl w
    go_enter Try.func8, Try.ntmps8
    go_wp2
    go_quiet (fail)
    go_wp2_with (first
      | (go_at_call 19; with_reducible refine (of_any _ _).mono ?_; rintro e w1 ⟨rfl, hb⟩; have hB : Below w.heap.size w w1 := bel_trans (by repeat (first | exact hB | refine bel_alloc ?_ _ | refine below_drewN ?_ _ | refine Below.drew ?_ | refine bel_set ?_ (by simp; omega) _)) hb; have hc := (bcell hb).1; have hs0 := hb.size; (try simp only [heap_size_alloc', heap_size_drewN', heap_size_drew'] at hs0))
      | (go_at_call 20; with_reducible refine (hc1 _).mono ?_; rintro e w2 ⟨rfl, hb⟩; have hB : Below w.heap.size w w2 := bel_trans (by repeat (first | exact hB | refine bel_alloc ?_ _ | refine below_drewN ?_ _ | refine Below.drew ?_ | refine bel_set ?_ (by simp; omega) _)) hb; have hc := (bcell hb).1; have hs0 := hb.size; (try simp only [heap_size_alloc', heap_size_drewN', heap_size_drew'] at hs0))
      | (go_at_call 24; with_reducible refine (hr1 _).mono ?_; rintro e w1 ⟨rfl, rfl⟩)
      | (go_at_call 25; with_reducible refine (text_any _ _ _).mono ?_; rintro e w4 ⟨rfl, hb⟩; have hB : Below w.heap.size w w4 := bel_trans (by repeat (first | exact hB | refine bel_alloc ?_ _ | refine below_drewN ?_ _ | refine Below.drew ?_ | refine bel_set ?_ (by simp; omega) _)) hb; have hc := (bcell hb).1; have hs0 := hb.size; (try simp only [heap_size_alloc', heap_size_drewN', heap_size_drew'] at hs0); have hz2 : w2.heap.size < w4.heap.size := (by omega); try (have hz8 : w8.heap.size < w4.heap.size := (by omega)))
      | (go_at_call 26; with_reducible refine (hl1 _ _).mono ?_; rintro e w4 ⟨rfl, hb⟩; have hB : Below w.heap.size w w4 := bel_trans (by repeat (first | exact hB | refine bel_alloc ?_ _ | refine below_drewN ?_ _ | refine Below.drew ?_ | refine bel_set ?_ (by simp; omega) _)) hb; have hc := (bcell hb).1; have hs0 := hb.size; (try simp only [heap_size_alloc', heap_size_drewN', heap_size_drew'] at hs0); have hz2 : w2.heap.size < w4.heap.size := by omega)
      | (go_at_call 27; with_reducible refine (base_any _ _ _).mono ?_; rintro e w4 ⟨rfl, hb⟩; have hB : Below w.heap.size w w4 := bel_trans (by repeat (first | exact hB | refine bel_alloc ?_ _ | refine below_drewN ?_ _ | refine Below.drew ?_ | refine bel_set ?_ (by simp; omega) _)) hb; have hc := (bcell hb).1; have hs0 := hb.size; (try simp only [heap_size_alloc', heap_size_drewN', heap_size_drew'] at hs0); have hz2 : w2.heap.size < w4.heap.size := (by omega); try (have hz8 : w8.heap.size < w4.heap.size := (by omega)))
      | (go_at_call 18; with_reducible refine (live1_any _).mono ?_; rintro e w3 ⟨rfl, hb⟩; have hB : Below w.heap.size w w3 := bel_trans (by repeat (first | exact hB | refine bel_alloc ?_ _ | refine below_drewN ?_ _ | refine Below.drew ?_ | refine bel_set ?_ (by simp; omega) _)) hb; have hc := (bcell hb).1; have hs0 := hb.size; (try simp only [heap_size_alloc', heap_size_drewN', heap_size_drew'] at hs0)))
    go_ret
    exact ⟨rfl, hB⟩

theorem bget_bytesS {n W p : Nat} (big : Bool) (hp : p < W) : bget (bytesS n W big) p = byteAt n (ordP W big p) := by
  have h := byteAt_lt n (ordP W big p)
  have e : (bytesS n W big).data.getD p 0 = UInt8.ofNat (byteAt n (ordP W big p)) := by
    unfold bytesS
    simp [Array.getD, hp]
  rw [bget, e]
  simp
  omega
theorem valF_bytes (n W : Nat) (big : Bool) : ∀ k, k ≤ W → valF (bytesS n W big) W big k = n % 256 ^ k := by
  intro k
  induction k with
  | zero => intro _; simp [valF, Nat.mod_one]
  | succ k ih =>
    intro hk
    simp only [valF]
    rw [ih (by omega), bget_bytesS big (ordP_lt _ (by omega)), ordP_ordP _ (by omega), byteAt]
    have h := Nat.mod_pow_succ (b := 256) (k := k) (x := n)
    rw [h, Nat.mul_comm]
theorem extract_mid (a s : ByteArray) : (a ++ s ++ a).extract a.size (a.size + s.size) = s := by
  apply ByteArray.ext
  simp only [ByteArray.data_extract, ByteArray.data_append]
  apply Array.ext'
  simp only [Array.toList_extract, Array.toList_append, List.extract]
  have h1 : a.data.toList.length = a.size := by simp
  have h2 : s.data.toList.length = s.size := by simp
  rw [← h1, List.append_assoc, List.drop_left', List.take_left']
  · omega
  · rfl

set_option maxHeartbeats 2000000 in
theorem winBack_calls (n : Nat) (width : Int) (big : Bool) (a : ByteArray) (w : World) (hn : n < 18446744073709551616) (ha : a.size ≤ 140737488351232) :
    Calls Try.prog 6 #[.agg #[.int .u64 n, .int .i64 width, .bool big, .string a]] w fun e w' => e = .returned (.bool true) ∧ Below w.heap.size w w' := by
  have hc1 := fun w => bytes_any n width big w hn
  have hB := bel_refl w
  by_cases h : bytesE n width = 0
  case neg =>
    have ht : bytesT n width big = ⟨#[]⟩ := by unfold bytesT; rw [if_neg h]
    rw [ht] at hc1
    have hf1 : (bytesE n width != 0) = true := bne_iff_ne.2 h
    generalize bytesE n width = f at hc1 hf1
    clear h ht
    go_enter Try.func6, Try.ntmps6
    go_wp2
    go_quiet (fail)
    go_wp2_with (first
      | (go_at_call 16; with_reducible refine (hc1 _).mono ?_; rintro e w1 ⟨rfl, hb⟩; have hB : Below w.heap.size w w1 := bel_trans (by repeat (first | exact hB | refine bel_alloc ?_ _ | refine below_drewN ?_ _ | refine Below.drew ?_ | refine bel_set ?_ (by simp; omega) _)) hb; have hc := (bcell hb).1; have hs0 := hb.size; (try simp only [heap_size_alloc', heap_size_drewN', heap_size_drew'] at hs0))
      | (go_at_call 18; with_reducible refine (live1_any _).mono ?_; rintro e w3 ⟨rfl, hb⟩; have hB : Below w.heap.size w w3 := bel_trans (by repeat (first | exact hB | refine bel_alloc ?_ _ | refine below_drewN ?_ _ | refine Below.drew ?_ | refine bel_set ?_ (by simp; omega) _)) hb; have hc := (bcell hb).1; have hs0 := hb.size; (try simp only [heap_size_alloc', heap_size_drewN', heap_size_drew'] at hs0)))
    go_ret
    exact ⟨rfl, hB⟩
  have hW : widthB width = true := by
    apply Classical.byContradiction; intro hn; unfold bytesE at h; rw [if_neg hn] at h; omega
  have hW' := widthB_iff.1 hW
  obtain ⟨W, rfl⟩ := Int.eq_ofNat_of_zero_le (show 0 ≤ width by omega)
  have hW8 : W ≤ 8 := by omega
  have hW1 : 1 ≤ W := by omega
  clear hW'
  have hbl : ¬ 8 * (W : Int) < Lib.bitLen n := by
    intro h1; unfold bytesE at h; rw [if_pos hW, if_pos h1] at h; omega
  have hnW : n < 256 ^ W := by
    have := bitLen_pow n W hn
    have h2 : ¬ 0 < n / 256 ^ W := fun h3 => hbl (by have := this.2 h3; omega)
    have h3 : n / 256 ^ W = 0 := Nat.eq_zero_of_not_pos h2
    rcases Nat.div_eq_zero_iff.1 h3 with h4 | h4
    · have := Nat.pow_pos (n := W) (show 0 < 256 by decide); omega
    · exact h4
  have hc2 := fun w => bytes_any n W (!big) w hn
  have e1 : bytesT n W big = bytesS n W big := by unfold bytesT; rw [if_pos h]; simp
  have e2 : bytesT n W (!big) = bytesS n W (!big) := by unfold bytesT; rw [if_pos h]; simp
  rw [h, e1] at hc1
  rw [h, e2] at hc2
  have hs1 := size_bytesS n W big
  have hs2 := size_bytesS n W (!big)
  have hv : valF (bytesS n W big) W big W = n := by rw [valF_bytes n W big W (Nat.le_refl _), Nat.mod_eq_of_lt hnW]
  have hm : ∀ i, i < W → bget (bytesS n W big) i = bget (bytesS n W (!big)) (W - 1 - i) := by
    intro i hi
    rw [bget_bytesS _ hi, bget_bytesS _ (by omega)]
    congr 1
    cases big <;> simp [ordP] <;> omega
  clear e1 e2 h hbl hnW
  generalize bytesS n W big = s at *
  generalize bytesS n W (!big) = t at *
  have hu := fun w => uint_ok (a ++ s ++ a) 0 a.size W big w (by unfold maxLen; simp; omega) hW (by omega) (by simp; omega) (by simp; omega)
  rw [show ((a.size : Int)).toNat = a.size by omega, show ((a.size : Int) + (W : Int)).toNat = a.size + s.size by omega, extract_mid, hv] at hu
  have Hm := hid hm
  have Hs1 := hid hs1
  have Hs2 := hid hs2
  have l1 : ((s.size : Int) != W) = false := by rw [hs1]; simp
  have l2 : ((t.size : Int) != W) = false := by rw [hs2]; simp
  have b1 : s.size ≤ 8 := by omega
  have b2 : (a ++ s).size ≤ 140737488351240 := by simp; omega
  clear hm hv hs1 hs2
  go_enter Try.func6, Try.ntmps6
  go_wp2
  go_quiet (fail)
  go_wp2_with (first
    | (go_at_call 16; with_reducible refine (hc1 _).mono ?_; rintro e w1 ⟨rfl, hb⟩; have hB : Below w.heap.size w w1 := bel_trans (by repeat (first | exact hB | refine bel_alloc ?_ _ | refine below_drewN ?_ _ | refine Below.drew ?_ | refine bel_set ?_ (by simp; omega) _)) hb; have hc := (bcell hb).1; have hs0 := hb.size; (try simp only [heap_size_alloc', heap_size_drewN', heap_size_drew'] at hs0))
    | (go_at_call 16; with_reducible refine (hc2 _).mono ?_; rintro e w1 ⟨rfl, hb⟩; have hB : Below w.heap.size w w1 := bel_trans (by repeat (first | exact hB | refine bel_alloc ?_ _ | refine below_drewN ?_ _ | refine Below.drew ?_ | refine bel_set ?_ (by simp; omega) _)) hb; have hc := (bcell hb).1; have hs0 := hb.size; (try simp only [heap_size_alloc', heap_size_drewN', heap_size_drew'] at hs0))
    | (go_at_call 19; with_reducible refine (of_any _ _).mono ?_; rintro e w1 ⟨rfl, hb⟩; have hB : Below w.heap.size w w1 := bel_trans (by repeat (first | exact hB | refine bel_alloc ?_ _ | refine below_drewN ?_ _ | refine Below.drew ?_ | refine bel_set ?_ (by simp; omega) _)) hb; have hc := (bcell hb).1; have hs0 := hb.size; (try simp only [heap_size_alloc', heap_size_drewN', heap_size_drew'] at hs0))
    | (go_at_call 21; with_reducible refine (hu _).mono ?_; rintro e w1 ⟨rfl, hb⟩; have hB : Below w.heap.size w w1 := bel_trans (by repeat (first | exact hB | refine bel_alloc ?_ _ | refine below_drewN ?_ _ | refine Below.drew ?_ | refine bel_set ?_ (by simp; omega) _)) hb; have hc := (bcell hb).1; have hs0 := hb.size; (try simp only [heap_size_alloc', heap_size_drewN', heap_size_drew'] at hs0))
    | (go_at_call 18; with_reducible refine (live1_any _).mono ?_; rintro e w3 ⟨rfl, hb⟩; have hB : Below w.heap.size w w3 := bel_trans (by repeat (first | exact hB | refine bel_alloc ?_ _ | refine below_drewN ?_ _ | refine Below.drew ?_ | refine bel_set ?_ (by simp; omega) _)) hb; have hc := (bcell hb).1; have hs0 := hb.size; (try simp only [heap_size_alloc', heap_size_drewN', heap_size_drew'] at hs0)))
  clear hc1 hc2 hu
  have hB' := hid hB
  clear hB
  go_loopw [13] (fun v13 wr => ∃ k : Nat, k ≤ W ∧ v13 = .int .i64 k ∧ Below w.heap.size w wr) (fun v13 _ => W - (intOf v13).toNat)
  case atStart => exact ⟨0, by omega, rfl, hB'.out⟩
  case round =>
    obtain ⟨k, hk, rfl, hB⟩ := hrel
    by_cases hlt : k < W
    · have z1 := Hs1.out
      have z2 := Hs2.out
      obtain ⟨j, hj⟩ : ∃ j : Nat, (W : Int) - 1 - k = (j : Int) := ⟨W - 1 - k, by omega⟩
      have hjW : j = W - 1 - k := by omega
      have hmk : bget t j = bget s k := by rw [hjW]; exact (Hm.out k hlt).symm
      have p1 : 0 ≤ (k : Int) := by omega
      have p2 : (k : Int) < (s.size : Int) := by omega
      have p3 : 0 ≤ (j : Int) := by omega
      have p4 : (j : Int) < (t.size : Int) := by omega
      have hks : k < s.size := by omega
      have hjt : j < t.size := by omega
      have hi1 := index_str s k hks
      have hi2 := index_str t j hjt
      have w1' : IntKind.i64.wrap ((W : Int) - 1) = (W : Int) - 1 := IntWalk.i64_in _ (by omega)
      have w2' : IntKind.i64.wrap (j : Int) = (j : Int) := IntWalk.i64_in _ (by omega)
      clear z1 z2 hjW
      go_wp2
      go_quiet (fail)
      go_wp2
      go_roundw
      case rel => exact ⟨k + 1, by omega, by go_num, below_drewN hB _⟩
      case measure => simp [intOf]; omega
    · go_wp2_with (first
        | (go_at_call 18; with_reducible refine (live1_any _).mono ?_; rintro e w3 ⟨rfl, hb⟩; have hB : Below w.heap.size w w3 := bel_trans (by repeat (first | exact hB | refine bel_alloc ?_ _ | refine below_drewN ?_ _ | refine Below.drew ?_ | refine bel_set ?_ (by simp; omega) _)) hb; have hc := (bcell hb).1; have hs0 := hb.size; (try simp only [heap_size_alloc', heap_size_drewN', heap_size_drew'] at hs0)))
      go_ret
      exact ⟨rfl, hB⟩

end Go.Proofs.Ytekinbeiljmddaa
