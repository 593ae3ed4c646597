/- Contracts of the functions of package win (walks). -/
import Derived.Test.YtekinbeiljmddaaShelf
import Derived.WalkKit
import Derived.WalkSpells
import Derived.WalkLawsBesides
import Derived.Deep.QuietTactic
import Derived.BigQuiet
namespace Go.Proofs.Ytekinbeiljmddaa
open Go.RowKit
set_option linter.unusedVariables false
set_option linter.unusedSimpArgs false

def isPlace (n : Int) : Bool := decide (0 ≤ n ∧ n ≤ 4611686018427387904)
theorem isPlace_yes {n : Int} (h : 0 ≤ n) (h' : n ≤ 4611686018427387904) : isPlace n = true := by simp [isPlace, h, h']
theorem isPlace_no {n : Int} (h : n < 0 ∨ 4611686018427387904 < n) : isPlace n = false := by simp [isPlace]; omega
theorem isPlace_iff {n : Int} : isPlace n = true ↔ 0 ≤ n ∧ n ≤ 4611686018427387904 := by simp [isPlace]

set_option maxHeartbeats 400000 in
theorem isPlace_any (n : Int) (w : World) :
    Calls Try.prog 50 #[.int .i64 n] w fun e w' => e = .returned (.bool (isPlace n)) ∧ w = w' := by
  go_enter Try.func50, Try.ntmps50
  go_wp2
  · go_ret
    exact ⟨by rw [isPlace]; simp [*], rfl⟩
  · go_ret
    exact ⟨by rw [isPlace_no (.inl ‹_›)]; rfl, rfl⟩

theorem bits_Mul64' (x y : Nat) (hx : x < 18446744073709551616) (hy : y < 18446744073709551616) (w : World) :
    Calls Try.prog 52 #[.int .u64 x, .int .u64 y] w fun e w' => e = .returned (.tuple #[.int .u64 ((x * y / 18446744073709551616 : Nat) : Int), .int .u64 ((x * y % 18446744073709551616 : Nat) : Int)]) ∧ w = w' :=
  (Try.bits_Mul64 x y hx hy w).mono fun e w' h => ⟨h.1, h.2.symm⟩
theorem len64_any (x : Int) (w : World) (h0 : 0 ≤ x) (h1 : x ≤ 18446744073709551615) :
    Calls Try.prog 47 #[.int .u64 x] w fun e w' => e = .returned (.int .i64 (Lib.bitLen x.toNat)) ∧ w = w' :=
  (Try.bits_Len64 x w h0 h1).mono fun e w' h => ⟨h.1, h.2.symm⟩

/-- What Add answers. -/
def addS (a b : Int) : Int × Bool := if isPlace a = true ∧ isPlace b = true ∧ isPlace (wrap64 (a + b)) = true then (wrap64 (a + b), true) else (0, false)

set_option maxHeartbeats 400000 in
theorem add_any (a b : Int) (w : World) :
    Calls Try.prog 29 #[.int .i64 a, .int .i64 b] w fun e w' => e = .returned (.tuple #[.int .i64 (addS a b).1, .bool (addS a b).2]) ∧ w = w' := by
  go_enter Try.func29, Try.ntmps29
  go_wp2_with (go_at_call 50; refine (isPlace_any _ _).mono ?_; rintro e w' ⟨rfl, rfl⟩)
  all_goals (go_ret2; refine ⟨?_, rfl⟩; simp_all [addS])

def mulS (a b : Int) : Int × Bool := if isPlace a = true ∧ isPlace b = true ∧ isPlace (a * b) = true then (a * b, true) else (0, false)

theorem mul_parts {x y : Nat} (hx : x ≤ 4611686018427387904) (hy : y ≤ 4611686018427387904) :
    (¬ (0 < x * y / 18446744073709551616 ∨ 4611686018427387904 < x * y % 18446744073709551616)) ↔ x * y ≤ 4611686018427387904 := by omega

set_option maxHeartbeats 400000 in
theorem mul_any (a b : Int) (w : World) :
    Calls Try.prog 31 #[.int .i64 a, .int .i64 b] w fun e w' => e = .returned (.tuple #[.int .i64 (mulS a b).1, .bool (mulS a b).2]) ∧ w = w' := by
  by_cases ha : isPlace a = true
  case neg =>
    have hs : mulS a b = (0, false) := by simp [mulS, ha]
    rw [hs]
    go_enter Try.func31, Try.ntmps31
    go_wp2_with (go_at_call 50; refine (isPlace_any _ _).mono ?_; rintro e w' ⟨rfl, rfl⟩)
    all_goals (go_ret2; exact ⟨rfl, rfl⟩)
  by_cases hb : isPlace b = true
  case neg =>
    have hs : mulS a b = (0, false) := by simp [mulS, hb]
    rw [hs]
    go_enter Try.func31, Try.ntmps31
    go_wp2_with (go_at_call 50; refine (isPlace_any _ _).mono ?_; rintro e w' ⟨rfl, rfl⟩)
    all_goals (go_ret2; exact ⟨rfl, rfl⟩)
  have ha' := isPlace_iff.1 ha
  have hb' := isPlace_iff.1 hb
  obtain ⟨x, rfl⟩ := Int.eq_ofNat_of_zero_le ha'.1
  obtain ⟨y, rfl⟩ := Int.eq_ofNat_of_zero_le hb'.1
  have hx : x ≤ 4611686018427387904 := by omega
  have hy : y ≤ 4611686018427387904 := by omega
  clear ha' hb'
  have hmp := mul_parts hx hy
  have wx : IntKind.u64.wrap (x : Int) = (x : Int) := IntWalk.u64_in _ (by omega)
  have wy : IntKind.u64.wrap (y : Int) = (y : Int) := IntWalk.u64_in _ (by omega)
  generalize hhi : x * y / 18446744073709551616 = hi at hmp
  generalize hlo : x * y % 18446744073709551616 = lo at hmp
  have hhi0 : hi < 18446744073709551616 := by
    rw [← hhi]; apply Nat.div_lt_of_lt_mul
    have := Nat.mul_le_mul hx hy
    omega
  have hlo0 : lo < 18446744073709551616 := by omega
  have Hm : Hid ((¬ (0 < hi ∨ 4611686018427387904 < lo)) ↔ x * y ≤ 4611686018427387904) := hmp
  have hxy : hi = 0 → x * y = lo := by omega
  have Hxy : Hid (hi = 0 → x * y = lo) := hxy
  have hc := bits_Mul64' x y (by omega) (by omega)
  rw [hhi, hlo] at hc
  clear hmp hhi hlo hxy
  have Hs : Hid (mulS (x : Int) (y : Int) = if (0 < hi ∨ 4611686018427387904 < lo) then (0, false) else ((lo : Int), true)) := by
    have h1 := Hm.out
    have h2 := Hxy.out
    unfold Hid mulS
    have e : ((x : Int) * (y : Int)) = ((x * y : Nat) : Int) := by simp
    rw [e]
    by_cases h : (0 < hi ∨ 4611686018427387904 < lo)
    · have h3 : ¬ x * y ≤ 4611686018427387904 := fun h' => (h1.2 h') h
      rw [if_pos h, if_neg]
      rintro ⟨_, _, h4⟩
      have := isPlace_iff.1 h4
      omega
    · have h3 := h1.1 h
      have h4 := h2 (by omega)
      rw [if_neg h, if_pos ⟨ha, hb, isPlace_yes (by omega) (by omega)⟩, h4]
  go_enter Try.func31, Try.ntmps31
  go_wp2_with (first | (go_at_call 50; refine (isPlace_any _ _).mono ?_; rintro e w' ⟨rfl, rfl⟩) | (go_at_call 52; refine (hc _).mono ?_; rintro e w' ⟨rfl, rfl⟩))
  · go_ret2
    rw [Hs.out, if_pos (by omega)]; exact ⟨rfl, rfl⟩
  · go_ret2
    rw [Hs.out, if_neg (by omega)]; exact ⟨rfl, rfl⟩
  · go_ret2
    rw [Hs.out, if_pos (by omega)]; exact ⟨rfl, rfl⟩

def alignS (n a : Int) : Int × Bool := if isPlace n = true ∧ 1 ≤ a ∧ a ≤ 1048576 then addS n ((a - n % a) % a) else (0, false)

set_option maxHeartbeats 400000 in
theorem align_any (n a : Int) (w : World) :
    Calls Try.prog 23 #[.int .i64 n, .int .i64 a] w fun e w' => e = .returned (.tuple #[.int .i64 (alignS n a).1, .bool (alignS n a).2]) ∧ w = w' := by
  by_cases h : isPlace n = true ∧ 1 ≤ a ∧ a ≤ 1048576
  · obtain ⟨h1, h2, h3⟩ := h
    have h4 := (isPlace_iff.1 h1).1
    have h5 := Int.emod_nonneg n (b := a) (by omega)
    have h6 := Int.emod_lt_of_pos n (b := a) (by omega)
    have Hs : Hid (alignS n a = addS n (-(n % a) % a)) := by unfold Hid alignS; rw [if_pos ⟨h1, h2, h3⟩]; congr 1; simp
    go_enter Try.func23, Try.ntmps23
    go_wp2_with (first | (go_at_call 50; refine (isPlace_any _ _).mono ?_; rintro e w' ⟨rfl, rfl⟩) | (go_at_call 29; refine (add_any _ _ _).mono ?_; rintro e w' ⟨rfl, rfl⟩))
    go_ret2
    rw [Hs.out]
    exact ⟨rfl, rfl⟩
  · have Hs : Hid (alignS n a = (0, false)) := by unfold Hid alignS; rw [if_neg h]
    go_enter Try.func23, Try.ntmps23
    go_wp2_with (first | (go_at_call 50; refine (isPlace_any _ _).mono ?_; rintro e w' ⟨rfl, rfl⟩) | (go_at_call 29; refine (add_any _ _ _).mono ?_; rintro e w' ⟨rfl, rfl⟩))
    all_goals first
      | exact absurd ⟨‹isPlace n = true›, ‹1 ≤ a ∧ a ≤ 1048576›⟩ h
      | (go_ret2; rw [Hs.out]; exact ⟨rfl, rfl⟩)

def widthB (n : Int) : Bool := decide (n = 1 ∨ n = 2 ∨ n = 4 ∨ n = 8)
theorem widthB_iff {n : Int} : widthB n = true ↔ n = 1 ∨ n = 2 ∨ n = 4 ∨ n = 8 := by simp [widthB]
theorem width_bits : ∀ k : Nat, k ≤ 8 → 0 < k → (bits BinOp.and IntKind.i64 (k : Int) ((k : Int) - 1) == 0) = widthB k := by decide +kernel

set_option maxHeartbeats 400000 in
theorem isWidth_any (n : Int) (w : World) :
    Calls Try.prog 46 #[.int .i64 n] w fun e w' => e = .returned (.bool (widthB n)) ∧ w = w' := by
  go_enter Try.func46, Try.ntmps46
  go_wp2
  · go_ret
    obtain ⟨k, rfl⟩ := Int.eq_ofNat_of_zero_le (show 0 ≤ n by omega)
    exact ⟨by rw [← width_bits k (by omega) (by omega)]; rfl, rfl⟩
  all_goals
    go_ret
    exact ⟨by rw [show widthB n = false by simp [widthB]; omega]; rfl, rfl⟩

set_option maxHeartbeats 400000 in
theorem order1_any (n width : Int) (a : Addr) (w : World) (h1 : 0 ≤ n) (h2 : n < width) (h3 : width ≤ 8) (hc : w.cell? a = some (.int .i64 width)) :
    Calls Try.prog 57 #[.int .i64 n, .pointer (some a)] w fun e w' => e = .returned (.int .i64 (width - 1 - n)) ∧ w = w' := by
  go_enter Try.func57, Try.ntmps57
  go_wp2
  go_ret
  exact ⟨rfl, rfl⟩

theorem order1_at (n W j : Nat) (a : Addr) (w : World) (h2 : n < W) (h3 : W ≤ 8) (hj : (W : Int) - 1 - n = (j : Int)) (hc : w.cell? a = some (.int .i64 W)) :
    Calls Try.prog 57 #[.int .i64 n, .pointer (some a)] w fun e w' => e = .returned (.int .i64 j) ∧ w = w' := by
  have h := order1_any n W a w (by omega) (by omega) (by omega) hc
  rw [hj] at h
  exact h

theorem order2_any (n : Int) (w : World) :
    Calls Try.prog 58 #[.int .i64 n] w fun e w' => e = .returned (.int .i64 n) ∧ w = w' := by
  go_enter Try.func58, Try.ntmps58
  go_wp2
  go_ret
  exact ⟨rfl, rfl⟩

theorem order2_at (n j : Nat) (w : World) (hj : n = j) :
    Calls Try.prog 58 #[.int .i64 n] w fun e w' => e = .returned (.int .i64 j) ∧ w = w' := by
  subst hj; exact order2_any _ _

set_option maxHeartbeats 400000 in
theorem order_big (width : Int) (w : World) :
    Calls Try.prog 48 #[.int .i64 width, .bool true] w fun e w' => e = .returned (.func (.func 57) #[] #[.pointer (some ⟨w.heap.size, 0, none⟩)]) ∧ w.alloc (.cells #[.int .i64 width] 3) = w' := by
  go_enter Try.func48, Try.ntmps48
  go_wp2
  go_ret
  exact ⟨rfl, rfl⟩

set_option maxHeartbeats 400000 in
theorem order_little (width : Int) (w : World) :
    Calls Try.prog 48 #[.int .i64 width, .bool false] w fun e w' => e = .returned (.func (.func 58) #[] #[]) ∧ w.alloc (.cells #[.int .i64 width] 3) = w' := by
  go_enter Try.func48, Try.ntmps48
  go_wp2
  go_ret
  exact ⟨rfl, rfl⟩

theorem of_any (s : ByteArray) (w : World) :
    Calls Try.prog 19 #[.string s] w fun e w' => e = .returned (.agg #[.string s, .int .i64 0]) ∧ Below w.heap.size w w' := by
  go_enter Try.func19, Try.ntmps19
  go_wp2
  refine bodyPost_ret (v := .agg #[.string s, .int .i64 0]) (by simp [results, Try.results19, go_sem]) rfl ⟨rfl, (Below.refl _ _).alloc (Nat.le_refl _) _⟩

theorem base_any (s : ByteArray) (b : Int) (w : World) :
    Calls Try.prog 27 #[.agg #[.string s, .int .i64 b]] w fun e w' => e = .returned (.int .i64 b) ∧ Below w.heap.size w w' := by
  go_enter Try.func27, Try.ntmps27
  go_wp2
  go_ret
  exact ⟨rfl, (Below.refl _ _).alloc (Nat.le_refl _) _⟩

theorem text_any (s : ByteArray) (b : Int) (w : World) :
    Calls Try.prog 25 #[.agg #[.string s, .int .i64 b]] w fun e w' => e = .returned (.string s) ∧ Below w.heap.size w w' := by
  go_enter Try.func25, Try.ntmps25
  go_wp2
  go_ret
  exact ⟨rfl, (Below.refl _ _).alloc (Nat.le_refl _) _⟩

theorem len_any (s : ByteArray) (b : Int) (w : World) (hs : s.size ≤ maxLen) :
    Calls Try.prog 26 #[.agg #[.string s, .int .i64 b]] w fun e w' => e = .returned (.int .i64 s.size) ∧ Below w.heap.size w w' := by
  unfold maxLen at hs
  go_enter Try.func26, Try.ntmps26
  go_wp2
  go_ret
  exact ⟨rfl, (Below.refl _ _).alloc (Nat.le_refl _) _⟩

/-- What Sub answers: the part's bytes, its error. -/
def subE (len at_ n : Int) : Int := if at_ < 0 ∨ n < 0 then 1 else if len < at_ ∨ len - at_ < n then 2 else 0

set_option maxHeartbeats 1000000 in
theorem sub_ok (s : ByteArray) (b at_ n : Int) (w : World) (hs : s.size ≤ maxLen) (h1 : 0 ≤ at_) (h2 : 0 ≤ n) (h3 : at_ ≤ s.size) (h4 : n ≤ s.size - at_) :
    Calls Try.prog 20 #[.agg #[.string s, .int .i64 b], .int .i64 at_, .int .i64 n] w fun e w' => e = .returned (.tuple #[.agg #[.string (s.extract at_.toNat (at_ + n).toNat), .int .i64 (wrap64 (b + at_))], .int .i64 0]) ∧ Below w.heap.size w w' := by
  unfold maxLen at hs
  have h5 : ¬ (at_ < 0) := by omega
  have h6 : ¬ (n < 0) := by omega
  go_enter Try.func20, Try.ntmps20
  go_wp2
  go_region
  all_goals
    go_wp2
    exact bodyPost_ret (v := .tuple #[.agg #[.string (s.extract at_.toNat (at_ + n).toNat), .int .i64 (wrap64 (b + at_))], .int .i64 0]) (by simp [results, Try.results20, go_sem]) rfl ⟨rfl, (((Below.refl _ _).alloc (Nat.le_refl _) _).alloc (by simp) _).drew⟩

set_option maxHeartbeats 400000 in
theorem sub_no (s : ByteArray) (b at_ n : Int) (w : World) (hs : s.size ≤ maxLen) (h : subE s.size at_ n ≠ 0) :
    Calls Try.prog 20 #[.agg #[.string s, .int .i64 b], .int .i64 at_, .int .i64 n] w fun e w' => e = .returned (.tuple #[.agg #[.string ⟨#[]⟩, .int .i64 0], .int .i64 (subE s.size at_ n)]) ∧ Below w.heap.size w w' := by
  unfold maxLen at hs
  by_cases h1 : at_ < 0 ∨ n < 0
  · have Hs : Hid (subE s.size at_ n = 1) := by unfold Hid subE; rw [if_pos h1]
    clear h
    by_cases h2 : at_ < 0
    all_goals
      go_enter Try.func20, Try.ntmps20
      go_wp2
      rw [Hs.out]
      exact bodyPost_ret (v := .tuple #[.agg #[.string ⟨#[]⟩, .int .i64 0], .int .i64 1]) (by simp [results, Try.results20, go_sem]) rfl ⟨rfl, ((Below.refl _ _).alloc (Nat.le_refl _) _).alloc (by simp) _⟩
  · have h3 : s.size < at_ ∨ s.size - at_ < n := by
      apply Classical.byContradiction; intro h3; apply h; unfold subE; rw [if_neg h1, if_neg h3]
    have Hs : Hid (subE s.size at_ n = 2) := by unfold Hid subE; rw [if_neg h1, if_pos h3]
    clear h
    have h5 : ¬ (at_ < 0) := by omega
    have h6 : ¬ (n < 0) := by omega
    clear h1
    by_cases h2 : s.size < at_
    all_goals
      go_enter Try.func20, Try.ntmps20
      go_wp2
      rw [Hs.out]
      exact bodyPost_ret (v := .tuple #[.agg #[.string ⟨#[]⟩, .int .i64 0], .int .i64 2]) (by simp [results, Try.results20, go_sem]) rfl ⟨rfl, ((Below.refl _ _).alloc (Nat.le_refl _) _).alloc (by simp) _⟩

end Go.Proofs.Ytekinbeiljmddaa
