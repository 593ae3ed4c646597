/- Contracts of the functions of package win (walks). -/
import Derived.Test.YtmkbigaofhionaaShelf
import Derived.WalkKit
import Derived.WalkSpells
import Derived.WalkLawsBesides
import Derived.Deep.QuietTactic
import Derived.BigQuiet
namespace Go.Proofs.Ytmkbigaofhionaa
open Go.RowKit
set_option linter.unusedVariables false
set_option linter.unusedSimpArgs false

theorem len64_any (x : Int) (w : World) (h0 : 0 ≤ x) (h1 : x ≤ 18446744073709551615) :
    Calls Try.prog 101 #[.int .u64 x] w fun e w' => e = .returned (.int .i64 (Lib.bitLen x.toNat)) ∧ w = w' :=
  (Try.bits_Len64 x w h0 h1).mono fun e w' h => ⟨h.1, h.2.symm⟩

def widthB (n : Int) : Bool := decide (n = 1 ∨ n = 2 ∨ n = 4 ∨ n = 8)
theorem widthB_iff {n : Int} : widthB n = true ↔ n = 1 ∨ n = 2 ∨ n = 4 ∨ n = 8 := by simp [widthB]
theorem width_bits : ∀ k : Nat, k ≤ 8 → 0 < k → (bits BinOp.and IntKind.i64 (k : Int) ((k : Int) - 1) == 0) = widthB k := by decide +kernel

set_option maxHeartbeats 400000 in
theorem isWidth_any (n : Int) (w : World) :
    Calls Try.prog 84 #[.int .i64 n] w fun e w' => e = .returned (.bool (widthB n)) ∧ w = w' := by
  go_enter Try.func84, Try.ntmps84
  go_wp2
  · go_ret
    obtain ⟨k, rfl⟩ := Int.eq_ofNat_of_zero_le (show 0 ≤ n by omega)
    exact ⟨by rw [← width_bits k (by omega) (by omega)]; rfl, rfl⟩
  all_goals
    go_ret
    exact ⟨by rw [show widthB n = false by simp [widthB]; omega]; rfl, rfl⟩

set_option maxHeartbeats 400000 in
theorem order1_any (n width : Int) (a : Addr) (w : World) (h1 : 0 ≤ n) (h2 : n < width) (h3 : width ≤ 8) (hc : w.cell? a = some (.int .i64 width)) :
    Calls Try.prog 98 #[.int .i64 n, .pointer (some a)] w fun e w' => e = .returned (.int .i64 (width - 1 - n)) ∧ w = w' := by
  go_enter Try.func98, Try.ntmps98
  go_wp2
  go_ret
  exact ⟨rfl, rfl⟩

theorem order1_at (n W j : Nat) (a : Addr) (w : World) (h2 : n < W) (h3 : W ≤ 8) (hj : (W : Int) - 1 - n = (j : Int)) (hc : w.cell? a = some (.int .i64 W)) :
    Calls Try.prog 98 #[.int .i64 n, .pointer (some a)] w fun e w' => e = .returned (.int .i64 j) ∧ w = w' := by
  have h := order1_any n W a w (by omega) (by omega) (by omega) hc
  rw [hj] at h
  exact h

theorem order2_any (n : Int) (w : World) :
    Calls Try.prog 99 #[.int .i64 n] w fun e w' => e = .returned (.int .i64 n) ∧ w = w' := by
  go_enter Try.func99, Try.ntmps99
  go_wp2
  go_ret
  exact ⟨rfl, rfl⟩

theorem order2_at (n j : Nat) (w : World) (hj : n = j) :
    Calls Try.prog 99 #[.int .i64 n] w fun e w' => e = .returned (.int .i64 j) ∧ w = w' := by
  subst hj; exact order2_any _ _

set_option maxHeartbeats 400000 in
theorem order_big (width : Int) (w : World) :
    Calls Try.prog 85 #[.int .i64 width, .bool true] w fun e w' => e = .returned (.func (.func 98) #[] #[.pointer (some ⟨w.heap.size, 0, none⟩)]) ∧ w.alloc (.cells #[.int .i64 width] 3) = w' := by
  go_enter Try.func85, Try.ntmps85
  go_wp2
  go_ret
  exact ⟨rfl, rfl⟩

set_option maxHeartbeats 400000 in
theorem order_little (width : Int) (w : World) :
    Calls Try.prog 85 #[.int .i64 width, .bool false] w fun e w' => e = .returned (.func (.func 99) #[] #[]) ∧ w.alloc (.cells #[.int .i64 width] 3) = w' := by
  go_enter Try.func85, Try.ntmps85
  go_wp2
  go_ret
  exact ⟨rfl, rfl⟩

theorem of_any (s : ByteArray) (w : World) :
    Calls Try.prog 54 #[.string s] w fun e w' => e = .returned (.agg #[.string s, .int .i64 0]) ∧ Below w.heap.size w w' := by
  go_enter Try.func54, Try.ntmps54
  go_wp2
  refine bodyPost_ret (v := .agg #[.string s, .int .i64 0]) (by simp [results, Try.results54, go_sem]) rfl ⟨rfl, (Below.refl _ _).alloc (Nat.le_refl _) _⟩

theorem text_any (s : ByteArray) (b : Int) (w : World) :
    Calls Try.prog 59 #[.agg #[.string s, .int .i64 b]] w fun e w' => e = .returned (.string s) ∧ Below w.heap.size w w' := by
  go_enter Try.func59, Try.ntmps59
  go_wp2
  go_ret
  exact ⟨rfl, (Below.refl _ _).alloc (Nat.le_refl _) _⟩

theorem len_any (s : ByteArray) (b : Int) (w : World) (hs : s.size ≤ maxLen) :
    Calls Try.prog 60 #[.agg #[.string s, .int .i64 b]] w fun e w' => e = .returned (.int .i64 s.size) ∧ Below w.heap.size w w' := by
  unfold maxLen at hs
  go_enter Try.func60, Try.ntmps60
  go_wp2
  go_ret
  exact ⟨rfl, (Below.refl _ _).alloc (Nat.le_refl _) _⟩

/-- What Sub answers: the part's bytes, its error. -/
def subE (len at_ n : Int) : Int := if at_ < 0 ∨ n < 0 then 1 else if len < at_ ∨ len - at_ < n then 2 else 0

set_option maxHeartbeats 1000000 in
theorem sub_ok (s : ByteArray) (b at_ n : Int) (w : World) (hs : s.size ≤ maxLen) (h1 : 0 ≤ at_) (h2 : 0 ≤ n) (h3 : at_ ≤ s.size) (h4 : n ≤ s.size - at_) :
    Calls Try.prog 58 #[.agg #[.string s, .int .i64 b], .int .i64 at_, .int .i64 n] w fun e w' => e = .returned (.tuple #[.agg #[.string (s.extract at_.toNat (at_ + n).toNat), .int .i64 (wrap64 (b + at_))], .int .i64 0]) ∧ Below w.heap.size w w' := by
  unfold maxLen at hs
  have h5 : ¬ (at_ < 0) := by omega
  have h6 : ¬ (n < 0) := by omega
  go_enter Try.func58, Try.ntmps58
  go_wp2
  go_region
  all_goals
    go_wp2
    exact bodyPost_ret (v := .tuple #[.agg #[.string (s.extract at_.toNat (at_ + n).toNat), .int .i64 (wrap64 (b + at_))], .int .i64 0]) (by simp [results, Try.results58, go_sem]) rfl ⟨rfl, (((Below.refl _ _).alloc (Nat.le_refl _) _).alloc (by simp) _).drew⟩

set_option maxHeartbeats 400000 in
theorem sub_no (s : ByteArray) (b at_ n : Int) (w : World) (hs : s.size ≤ maxLen) (h : subE s.size at_ n ≠ 0) :
    Calls Try.prog 58 #[.agg #[.string s, .int .i64 b], .int .i64 at_, .int .i64 n] w fun e w' => e = .returned (.tuple #[.agg #[.string ⟨#[]⟩, .int .i64 0], .int .i64 (subE s.size at_ n)]) ∧ Below w.heap.size w w' := by
  unfold maxLen at hs
  by_cases h1 : at_ < 0 ∨ n < 0
  · have Hs : Hid (subE s.size at_ n = 1) := by unfold Hid subE; rw [if_pos h1]
    clear h
    by_cases h2 : at_ < 0
    all_goals
      go_enter Try.func58, Try.ntmps58
      go_wp2
      rw [Hs.out]
      exact bodyPost_ret (v := .tuple #[.agg #[.string ⟨#[]⟩, .int .i64 0], .int .i64 1]) (by simp [results, Try.results58, go_sem]) rfl ⟨rfl, ((Below.refl _ _).alloc (Nat.le_refl _) _).alloc (by simp) _⟩
  · have h3 : s.size < at_ ∨ s.size - at_ < n := by
      apply Classical.byContradiction; intro h3; apply h; unfold subE; rw [if_neg h1, if_neg h3]
    have Hs : Hid (subE s.size at_ n = 2) := by unfold Hid subE; rw [if_neg h1, if_pos h3]
    clear h
    have h5 : ¬ (at_ < 0) := by omega
    have h6 : ¬ (n < 0) := by omega
    clear h1
    by_cases h2 : s.size < at_
    all_goals
      go_enter Try.func58, Try.ntmps58
      go_wp2
      rw [Hs.out]
      exact bodyPost_ret (v := .tuple #[.agg #[.string ⟨#[]⟩, .int .i64 0], .int .i64 2]) (by simp [results, Try.results58, go_sem]) rfl ⟨rfl, ((Below.refl _ _).alloc (Nat.le_refl _) _).alloc (by simp) _⟩

end Go.Proofs.Ytmkbigaofhionaa
