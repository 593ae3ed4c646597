/- Contracts of mortiseref01, in the words of package win's contracts. -/
import Derived.Test.YtekinbeiljmddaaWinU
namespace Go.Proofs.Ytekinbeiljmddaa
open Go.RowKit
set_option linter.unusedVariables false
set_option linter.unusedSimpArgs false

set_option maxHeartbeats 400000 in
theorem refPlace_any (n : Int) (w : World) :
    Calls Try.prog 51 #[.int .i64 n] w fun e w' => e = .returned (.bool (isPlace n)) ∧ w = w' := by
  go_enter Try.func51, Try.ntmps51
  go_wp2
  · go_ret
    exact ⟨by rw [isPlace]; simp [*], rfl⟩
  · go_ret
    exact ⟨by rw [isPlace_no (.inl ‹_›)]; rfl, rfl⟩

theorem addS_eq {a b : Int} (h1 : isPlace a = true) (h2 : isPlace b = true) : addS a b = if 4611686018427387904 - b < a then (0, false) else (a + b, true) := by
  have h3 := isPlace_iff.1 h1
  have h4 := isPlace_iff.1 h2
  unfold addS
  by_cases h : 4611686018427387904 - b < a
  · rw [if_pos h, if_neg]
    rintro ⟨_, _, h5⟩
    have h6 := isPlace_iff.1 h5
    unfold wrap64 at h6
    omega
  · have e : wrap64 (a + b) = a + b := by unfold wrap64; omega
    rw [if_neg h, e, if_pos ⟨h1, h2, isPlace_yes (by omega) (by omega)⟩]

set_option maxHeartbeats 400000 in
theorem refAdd_any (a b : Int) (w : World) :
    Calls Try.prog 30 #[.int .i64 a, .int .i64 b] w fun e w' => e = .returned (.tuple #[.int .i64 (addS a b).1, .bool (addS a b).2]) ∧ w = w' := by
  by_cases h : isPlace a = true ∧ isPlace b = true
  · obtain ⟨h1, h2⟩ := h
    have h4 := isPlace_iff.1 h2
    have h3 := isPlace_iff.1 h1
    have Hs := hid (addS_eq h1 h2)
    by_cases h5 : 4611686018427387904 - b < a
    all_goals
      go_enter Try.func30, Try.ntmps30
      go_wp2_with (go_at_call 51; refine (refPlace_any _ _).mono ?_; rintro e w' ⟨rfl, rfl⟩)
      go_ret2
      first | rw [Hs.out, if_pos (by omega)] | rw [Hs.out, if_neg (by omega)]
      exact ⟨rfl, rfl⟩
  · have Hs : Hid (addS a b = (0, false)) := by unfold Hid addS; rw [if_neg]; rintro ⟨h1, h2, _⟩; exact h ⟨h1, h2⟩
    by_cases h1 : isPlace a = true
    · have h2 : isPlace b = false := by cases hb : isPlace b; rfl; exact absurd ⟨h1, hb⟩ h
      clear h
      go_enter Try.func30, Try.ntmps30
      go_wp2_with (go_at_call 51; refine (refPlace_any _ _).mono ?_; rintro e w' ⟨rfl, rfl⟩)
      go_ret2
      rw [Hs.out]; exact ⟨rfl, rfl⟩
    · clear h
      have h1 : isPlace a = false := by simpa using h1
      go_enter Try.func30, Try.ntmps30
      go_wp2_with (go_at_call 51; refine (refPlace_any _ _).mono ?_; rintro e w' ⟨rfl, rfl⟩)
      go_ret2
      rw [Hs.out]; exact ⟨rfl, rfl⟩

theorem mulS_eq {a b : Int} (h1 : isPlace a = true) (h2 : isPlace b = true) : mulS a b = if 0 < a ∧ 4611686018427387904 / a < b then (0, false) else (a * b, true) := by
  have h3 := isPlace_iff.1 h1
  have h4 := isPlace_iff.1 h2
  unfold mulS
  by_cases h : 0 < a ∧ 4611686018427387904 / a < b
  · rw [if_pos h, if_neg]
    rintro ⟨_, _, h5⟩
    have h6 := (isPlace_iff.1 h5).2
    have h7 : ¬ b * a ≤ 4611686018427387904 := fun h8 => by
      have := (Int.le_ediv_iff_mul_le h.1).2 h8
      omega
    rw [Int.mul_comm] at h6
    exact h7 h6
  · rw [if_neg h, if_pos]
    refine ⟨h1, h2, isPlace_yes (Int.mul_nonneg h3.1 h4.1) ?_⟩
    by_cases h5 : 0 < a
    · have h6 : b ≤ 4611686018427387904 / a := by
        apply Classical.byContradiction; intro h7; exact h ⟨h5, by omega⟩
      have := (Int.le_ediv_iff_mul_le h5).1 h6
      rw [Int.mul_comm]; exact this
    · have : a = 0 := by omega
      subst this; simp

set_option maxHeartbeats 400000 in
theorem refMul_any (a b : Int) (w : World) :
    Calls Try.prog 32 #[.int .i64 a, .int .i64 b] w fun e w' => e = .returned (.tuple #[.int .i64 (mulS a b).1, .bool (mulS a b).2]) ∧ w = w' := by
  by_cases h : isPlace a = true ∧ isPlace b = true
  · obtain ⟨h1, h2⟩ := h
    have h4 := isPlace_iff.1 h2
    have h3 := isPlace_iff.1 h1
    have Hs := hid (mulS_eq h1 h2)
    by_cases h0 : 0 < a
    · have hb : 0 ≤ (4611686018427387904 : Int) / a := Int.ediv_nonneg (by omega) (by omega)
      by_cases h5 : 4611686018427387904 / a < b
      · go_enter Try.func32, Try.ntmps32
        go_wp2_with (go_at_call 51; refine (refPlace_any _ _).mono ?_; rintro e w' ⟨rfl, rfl⟩)
        go_ret2
        rw [Hs.out, if_pos ⟨h0, h5⟩]
        exact ⟨rfl, rfl⟩
      · have hm : wrap64 (a * b) = a * b := by
          have h6 : b ≤ 4611686018427387904 / a := by omega
          have h7 := (Int.le_ediv_iff_mul_le h0).1 h6
          rw [Int.mul_comm] at h7
          have h8 := Int.mul_nonneg h3.1 h4.1
          unfold wrap64; omega
        go_enter Try.func32, Try.ntmps32
        go_wp2_with (go_at_call 51; refine (refPlace_any _ _).mono ?_; rintro e w' ⟨rfl, rfl⟩)
        go_ret2
        rw [Hs.out, if_neg (fun h => absurd h.2 (by first | exact h5 | exact Int.not_lt.2 h5))]
        refine ⟨?_, rfl⟩
        show Ending.returned (.tuple #[.int .i64 (wrap64 (a * b)), .bool true]) = _
        rw [hm]
    · obtain rfl : a = 0 := by omega
      go_enter Try.func32, Try.ntmps32
      go_wp2_with (go_at_call 51; refine (refPlace_any _ _).mono ?_; rintro e w' ⟨rfl, rfl⟩)
      go_ret2
      rw [Hs.out, if_neg (fun h => absurd h.1 (by decide))]
      exact ⟨by simp, rfl⟩
  · have Hs : Hid (mulS a b = (0, false)) := by unfold Hid mulS; rw [if_neg]; rintro ⟨h1, h2, _⟩; exact h ⟨h1, h2⟩
    by_cases h1 : isPlace a = true
    · have h2 : isPlace b = false := by cases hb : isPlace b; rfl; exact absurd ⟨h1, hb⟩ h
      clear h
      go_enter Try.func32, Try.ntmps32
      go_wp2_with (go_at_call 51; refine (refPlace_any _ _).mono ?_; rintro e w' ⟨rfl, rfl⟩)
      go_ret2
      rw [Hs.out]; exact ⟨rfl, rfl⟩
    · clear h
      have h1 : isPlace a = false := by simpa using h1
      go_enter Try.func32, Try.ntmps32
      go_wp2_with (go_at_call 51; refine (refPlace_any _ _).mono ?_; rintro e w' ⟨rfl, rfl⟩)
      go_ret2
      rw [Hs.out]; exact ⟨rfl, rfl⟩

theorem addS_zero {n : Int} (h : isPlace n = true) : addS n 0 = (n, true) := by
  rw [addS_eq h (isPlace_yes (by omega) (by omega)), if_neg]
  · simp
  · have := isPlace_iff.1 h; omega

set_option maxHeartbeats 400000 in
theorem refAlign_any (n a : Int) (w : World) :
    Calls Try.prog 33 #[.int .i64 n, .int .i64 a] w fun e w' => e = .returned (.tuple #[.int .i64 (alignS n a).1, .bool (alignS n a).2]) ∧ w = w' := by
  by_cases h : isPlace n = true ∧ 1 ≤ a ∧ a ≤ 1048576
  · obtain ⟨h1, h2, h3⟩ := h
    have h4 := (isPlace_iff.1 h1).1
    have h5 := Int.emod_nonneg n (b := a) (by omega)
    have h6 := Int.emod_lt_of_pos n (b := a) (by omega)
    by_cases h7 : n % a = 0
    · have Hs : Hid (alignS n a = (n, true)) := by unfold Hid alignS; rw [if_pos ⟨h1, h2, h3⟩, h7]; simp [addS_zero h1]
      have h8 : (n % a == 0) = true := beq_iff_eq.2 h7
      clear h7 h5 h6
      go_enter Try.func33, Try.ntmps33
      go_wp2_with (go_at_call 51; refine (refPlace_any _ _).mono ?_; rintro e w' ⟨rfl, rfl⟩)
      all_goals first
        | (exfalso; omega)
        | (go_ret2; rw [Hs.out]; exact ⟨rfl, rfl⟩)
    · have Hs : Hid (alignS n a = addS n (a - n % a)) := by unfold Hid alignS; rw [if_pos ⟨h1, h2, h3⟩, Int.emod_eq_of_lt (by omega) (by omega)]
      have h8 : (n % a == 0) = false := beq_eq_false_iff_ne.2 h7
      clear h7
      go_enter Try.func33, Try.ntmps33
      go_wp2_with (first | (go_at_call 51; refine (refPlace_any _ _).mono ?_; rintro e w' ⟨rfl, rfl⟩) | (go_at_call 30; refine (refAdd_any _ _ _).mono ?_; rintro e w' ⟨rfl, rfl⟩))
      all_goals first
        | (exfalso; omega)
        | (go_ret2; rw [Hs.out]; exact ⟨rfl, rfl⟩)
  · have Hs : Hid (alignS n a = (0, false)) := by unfold Hid alignS; rw [if_neg h]
    by_cases h1 : isPlace n = true
    · have h2 : a < 1 ∨ 1048576 < a := by
        apply Classical.byContradiction; intro hn; exact h ⟨h1, by omega, by omega⟩
      clear h
      by_cases h3 : a < 1
      all_goals
        go_enter Try.func33, Try.ntmps33
        go_wp2_with (go_at_call 51; refine (refPlace_any _ _).mono ?_; rintro e w' ⟨rfl, rfl⟩)
        go_ret2
        rw [Hs.out]; exact ⟨rfl, rfl⟩
    · have h1 : isPlace n = false := by simpa using h1
      clear h
      go_enter Try.func33, Try.ntmps33
      go_wp2_with (go_at_call 51; refine (refPlace_any _ _).mono ?_; rintro e w' ⟨rfl, rfl⟩)
      go_ret2
      rw [Hs.out]; exact ⟨rfl, rfl⟩

set_option maxHeartbeats 400000 in
theorem refWidth_any (n : Int) (w : World) :
    Calls Try.prog 49 #[.int .i64 n] w fun e w' => e = .returned (.bool (widthB n)) ∧ w = w' := by
  by_cases h : n = 1 ∨ n = 2 ∨ n = 4 ∨ n = 8
  · rcases h with rfl | rfl | rfl | rfl
    all_goals
      go_enter Try.func49, Try.ntmps49
      go_wp2
      go_ret
      exact ⟨rfl, rfl⟩
  · have Hs : Hid (widthB n = false) := by unfold Hid widthB; simpa using h
    have h1 : (n == 1) = false := beq_eq_false_iff_ne.2 (by omega)
    have h2 : (n == 2) = false := beq_eq_false_iff_ne.2 (by omega)
    have h3 : (n == 4) = false := beq_eq_false_iff_ne.2 (by omega)
    have h4 : (n == 8) = false := beq_eq_false_iff_ne.2 (by omega)
    clear h
    go_enter Try.func49, Try.ntmps49
    go_wp2
    go_ret
    rw [Hs.out]; exact ⟨rfl, rfl⟩

set_option maxHeartbeats 400000 in
theorem refSub_any (s : ByteArray) (at_ n : Int) (w : World) (hs : s.size ≤ maxLen) :
    Calls Try.prog 24 #[.string s, .int .i64 at_, .int .i64 n] w fun e w' => e = .returned (.tuple #[.string (subS s at_ n), .int .i64 (subE s.size at_ n)]) ∧ w = w' := by
  unfold maxLen at hs
  by_cases h1 : at_ < 0 ∨ n < 0
  · have Hs : Hid (subE s.size at_ n = 1) := by unfold Hid subE; rw [if_pos h1]
    have Ht : Hid (subS s at_ n = ⟨#[]⟩) := by unfold Hid subS; rw [Hs.out]; rfl
    by_cases h2 : at_ < 0
    all_goals
      go_enter Try.func24, Try.ntmps24
      go_wp2
      go_ret2
      rw [Hs.out, Ht.out]; exact ⟨rfl, rfl⟩
  · have h5 : ¬ (at_ < 0) := by omega
    have h6 : ¬ (n < 0) := by omega
    by_cases h3 : s.size < at_ ∨ s.size - at_ < n
    · have Hs : Hid (subE s.size at_ n = 2) := by unfold Hid subE; rw [if_neg h1, if_pos h3]
      have Ht : Hid (subS s at_ n = ⟨#[]⟩) := by unfold Hid subS; rw [Hs.out]; rfl
      clear h1
      by_cases h2 : s.size < at_
      all_goals
        go_enter Try.func24, Try.ntmps24
        go_wp2
        go_ret2
        rw [Hs.out, Ht.out]; exact ⟨rfl, rfl⟩
    · have Hs : Hid (subE s.size at_ n = 0) := by unfold Hid subE; rw [if_neg h1, if_neg h3]
      have Ht : Hid (subS s at_ n = s.extract at_.toNat (at_ + n).toNat) := by unfold Hid subS; rw [Hs.out]; rfl
      clear h1
      have h7 : at_ ≤ s.size := by omega
      have h8 : n ≤ s.size - at_ := by omega
      clear h3
      go_enter Try.func24, Try.ntmps24
      go_wp2
      go_ret2
      rw [Hs.out, Ht.out]; exact ⟨rfl, rfl⟩

end Go.Proofs.Ytekinbeiljmddaa
