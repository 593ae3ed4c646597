/- Contracts of mortiseref01.Bytes and .Uint, in the words of package win's contracts. -/
import Derived.Test.YtmkbigaofhionaaRefW
namespace Go.Proofs.Ytmkbigaofhionaa
open Go.RowKit
set_option linter.unusedVariables false
set_option linter.unusedSimpArgs false

theorem bitLen_pow (n W : Nat) (hn : n < 18446744073709551616) : (8 * W < Lib.bitLen n) ↔ 0 < n / 256 ^ W := by
  have key : ∀ (f k m : Nat), m < 2 ^ f → ((k < Lib.bitLenAux f m) ↔ 0 < m / 2 ^ k) := by
    intro f
    induction f with
    | zero =>
      intro k m hm
      have h0 : m = 0 := by simpa using hm
      subst h0
      simp [Lib.bitLenAux]
    | succ f ih =>
      intro k m hm
      unfold Lib.bitLenAux
      by_cases h : m = 0
      · subst h; simp
      · rw [if_neg h]
        cases k with
        | zero => simp; omega
        | succ k =>
          have h2 := ih k (m / 2) (by rw [Nat.pow_succ] at hm; omega)
          rw [Nat.div_div_eq_div_mul, ← Nat.pow_succ'] at h2
          rw [← h2]
          omega
  rw [show (256 : Nat) ^ W = 2 ^ (8 * W) by rw [Nat.pow_mul]]
  exact key 64 _ _ hn

theorem byte_mod (n k : Nat) : IntKind.u8.wrap (((n / 256 ^ k : Nat) : Int) % 256) = ((byteAt n k : Nat) : Int) := by
  rw [IntKind.wrap_u8', byteAt]; omega

theorem div_step (n k : Nat) : ((n / 256 ^ k : Nat) : Int) / 256 = ((n / 256 ^ (k + 1) : Nat) : Int) := by
  rw [Nat.pow_succ, ← Nat.div_div_eq_div_mul]; omega

set_option maxHeartbeats 1000000 in
theorem refBytes_any (n : Nat) (width : Int) (big : Bool) (w : World) (hn : n < 18446744073709551616) :
    Calls Try.prog 71 #[.int .u64 n, .int .i64 width, .bool big] w fun e w' => e = .returned (.tuple #[.string (bytesT n width big), .int .i64 (bytesE n width)]) ∧ Below w.heap.size w w' := by
  by_cases hW : widthB width = true
  case neg =>
    have Hs : Hid (bytesE n width = 1) := by unfold Hid bytesE; rw [if_neg hW]
    have Ht : Hid (bytesT n width big = ⟨#[]⟩) := by unfold Hid bytesT; rw [Hs.out]; rfl
    have hW' : widthB width = false := by simpa using hW
    clear hW
    go_enter Try.func71, Try.ntmps71
    go_wp2_with (go_at_call 91; refine (refWidth_any _ _).mono ?_; rintro e w' ⟨rfl, rfl⟩)
    go_ret2
    rw [Hs.out, Ht.out]; exact ⟨rfl, bel_refl _⟩
  have hW' := widthB_iff.1 hW
  obtain ⟨W, rfl⟩ := Int.eq_ofNat_of_zero_le (show 0 ≤ width by omega)
  have hW8 : W ≤ 8 := by omega
  have hW1 : 1 ≤ W := by omega
  clear hW'
  have Hs : Hid (bytesE n W = if 0 < n / 256 ^ W then 10 else 0) := by
    unfold Hid bytesE
    rw [if_pos hW]
    have := bitLen_pow n W hn
    by_cases h : 0 < n / 256 ^ W
    · rw [if_pos h, if_pos (by omega)]
    · rw [if_neg h, if_neg (by omega)]
  have hmk := mk_bytes n W big hW8
  go_enter Try.func71, Try.ntmps71
  go_wp2_with (go_at_call 91; refine (refWidth_any _ _).mono ?_; rintro e w' ⟨rfl, rfl⟩)
  clear hmk
  go_loopw [0, 9, 10] (fun v0 v9 _ wr => ∃ k : Nat, k ≤ W ∧ v9 = .int .i64 k ∧ v0 = .int .u64 (n / 256 ^ k : Nat) ∧ Blk wr w.heap.size (.cells (bytesArr n W big k) 5) ∧ Below w.heap.size w wr) (fun _ v9 _ _ => W - (intOf v9).toNat)
  case atStart => exact ⟨0, by omega, rfl, by simp, Blk.new w _, bel_alloc (bel_refl _) _⟩
  case round =>
    obtain ⟨k, hk, rfl, rfl, hblk, hbel⟩ := hrel
    by_cases hlt : k < W
    · have hbm := byte_mod n k
      have hds := div_step n k
      obtain ⟨m, hm⟩ : ∃ m, n / 256 ^ k = m := ⟨_, rfl⟩
      have hm1 : m < 18446744073709551616 := by rw [← hm]; exact Nat.lt_of_le_of_lt (Nat.div_le_self _ _) hn
      rw [hm] at hbm hds
      rw [hm]
      obtain ⟨m', hm'⟩ : ∃ m', n / 256 ^ (k + 1) = m' := ⟨_, rfl⟩
      rw [hm'] at hds
      have Hm' := hid hm'
      clear hm hm'
      have hc := hblk.cell (ordP W big k)
      have hf := hblk.frozen (ordP W big k)
      rw [bytesArr_get (n := n) big hlt] at hc
      have hset := hblk.setCell_same (ordP W big k) (.int .u8 (byteAt n k : Nat))
      rw [bytesArr_set (n := n) big hlt] at hset
      have hset' := hid hset
      clear hset
      cases big
      · have ho : ordP W false k = k := rfl
        rw [ho] at hc hf hset'
        clear ho
        go_wp2
        go_roundw
        case rel => exact ⟨k + 1, by omega, by go_num, by rw [Hm'.out], hset'.out, bel_set hbel (by simp) _⟩
        case measure => simp [intOf]; omega
      · have ho : ordP W true k = W - 1 - k := rfl
        rw [ho] at hc hf hset'
        clear ho
        go_wp2
        go_roundw
        case rel => exact ⟨k + 1, by omega, by go_num, by rw [Hm'.out], hset'.out, bel_set hbel (by simp) _⟩
        case measure => simp [intOf]; omega
    · have hk' : k = W := by omega
      subst hk'
      have hcv := bytes_conv big hblk
      obtain ⟨z, hz⟩ : ∃ z, n / 256 ^ k = z := ⟨_, rfl⟩
      have hz1 : z < 18446744073709551616 := by rw [← hz]; exact Nat.lt_of_le_of_lt (Nat.div_le_self _ _) hn
      have Hs' : Hid (bytesE n k = if 0 < z then 10 else 0) := by rw [← hz]; exact Hs
      clear Hs
      rw [hz]
      clear hz
      by_cases h0 : 0 < z
      · have Ht : Hid (bytesT n k big = ⟨#[]⟩) := by unfold Hid bytesT; rw [Hs'.out, if_pos h0]; rfl
        go_wp2
        go_ret2
        rw [Ht.out, Hs'.out, if_pos (by omega)]
        exact ⟨rfl, hbel⟩
      · have Ht : Hid (bytesT n k big = bytesS n k big) := by unfold Hid bytesT; rw [Hs'.out, if_neg h0]; rfl
        obtain rfl : z = 0 := by omega
        go_wp2
        go_ret2
        rw [Ht.out, Hs'.out]
        exact ⟨rfl, hbel⟩

/-- The bytes read from the other end: the first i of the number. -/
def refF (t : ByteArray) (W : Nat) (big : Bool) : Nat → Nat
  | 0 => 0
  | i + 1 => refF t W big i * 256 + bget t (ordP W big (W - 1 - i))
theorem refF_lt (t : ByteArray) (W : Nat) (big : Bool) (i : Nat) : refF t W big i < 256 ^ i := by
  induction i with
  | zero => simp [refF]
  | succ i ih =>
    have h := bget_lt t (ordP W big (W - 1 - i))
    simp only [refF, Nat.pow_succ]
    omega
theorem refF_val (t : ByteArray) (W : Nat) (big : Bool) : ∀ i j, i + j = W → refF t W big i * 256 ^ j + valF t W big j = valF t W big W := by
  intro i
  induction i with
  | zero => intro j h; simp only [Nat.zero_add] at h; subst h; simp [refF]
  | succ i ih =>
    intro j h
    have h1 := ih (j + 1) (by omega)
    rw [← h1]
    simp only [refF, valF, Nat.pow_succ]
    rw [show W - 1 - i = j by omega, Nat.add_mul, Nat.mul_assoc, Nat.mul_comm 256 (256 ^ j)]
    omega
theorem refF_all (t : ByteArray) (W : Nat) (big : Bool) : refF t W big W = valF t W big W := by
  have := refF_val t W big W 0 rfl
  simpa [valF] using this
theorem bget_extract (s : ByteArray) (a W p : Nat) (hp : p < W) (h : a + W ≤ s.size) : bget (s.extract a (a + W)) p = bget s (a + p) := by
  have h1 : a + W ≤ s.data.size := h
  simp only [bget, ByteArray.data_extract, Array.getD]
  rw [dif_pos (by simp; omega), dif_pos (by omega)]
  simp

set_option maxHeartbeats 1000000 in
theorem refUint_any (s : ByteArray) (at_ width : Int) (big : Bool) (w : World) (hs : s.size ≤ maxLen) :
    Calls Try.prog 87 #[.string s, .int .i64 at_, .int .i64 width, .bool big] w fun e w' => e = .returned (.tuple #[.int .u64 (uintV s at_ width big), .int .i64 (uintE s.size at_ width)]) ∧ w = w' := by
  unfold maxLen at hs
  by_cases hW : widthB width = true
  case neg =>
    have Hs : Hid (uintE s.size at_ width = 1) := by unfold Hid uintE; rw [if_neg hW]
    have Ht : Hid (uintV s at_ width big = 0) := by unfold Hid uintV; rw [Hs.out]; rfl
    have hW' : widthB width = false := by simpa using hW
    clear hW
    go_enter Try.func87, Try.ntmps87
    go_wp2_with (go_at_call 91; refine (refWidth_any _ _).mono ?_; rintro e w' ⟨rfl, rfl⟩)
    go_ret2
    rw [Hs.out, Ht.out]; exact ⟨rfl, rfl⟩
  have hW' := widthB_iff.1 hW
  obtain ⟨W, rfl⟩ := Int.eq_ofNat_of_zero_le (show 0 ≤ width by omega)
  have hW8 : W ≤ 8 := by omega
  have hW1 : 1 ≤ W := by omega
  clear hW'
  have He : Hid (uintE s.size at_ W = subE s.size at_ W) := by unfold Hid uintE; rw [if_pos hW]
  by_cases h1 : at_ < 0
  · have Hs : Hid (uintE s.size at_ W = 1) := by unfold Hid; rw [He.out]; unfold subE; rw [if_pos (.inl h1)]
    have Ht : Hid (uintV s at_ W big = 0) := by unfold Hid uintV; rw [Hs.out]; rfl
    clear He
    go_enter Try.func87, Try.ntmps87
    go_wp2_with (go_at_call 91; refine (refWidth_any _ _).mono ?_; rintro e w' ⟨rfl, rfl⟩)
    go_ret2
    rw [Hs.out, Ht.out]; exact ⟨rfl, rfl⟩
  by_cases h3 : s.size < at_ ∨ s.size - at_ < W
  · have Hs : Hid (uintE s.size at_ W = 2) := by unfold Hid; rw [He.out]; unfold subE; rw [if_neg (by omega), if_pos h3]
    have Ht : Hid (uintV s at_ W big = 0) := by unfold Hid uintV; rw [Hs.out]; rfl
    clear He
    by_cases h2 : s.size < at_
    all_goals
      go_enter Try.func87, Try.ntmps87
      go_wp2_with (go_at_call 91; refine (refWidth_any _ _).mono ?_; rintro e w' ⟨rfl, rfl⟩)
      go_ret2
      rw [Hs.out, Ht.out]; exact ⟨rfl, rfl⟩
  obtain ⟨a, rfl⟩ := Int.eq_ofNat_of_zero_le (show 0 ≤ at_ by omega)
  have haW : a + W ≤ s.size := by omega
  have Hs : Hid (uintE s.size a W = 0) := by unfold Hid; rw [He.out]; unfold subE; rw [if_neg (by omega), if_neg h3]
  have Ht : Hid (uintV s a W big = refF (s.extract a (a + W)) W big W) := by
    unfold Hid uintV
    rw [if_pos Hs.out, refF_all]
    rw [show ((a : Int) + (W : Int)).toNat = a + W by omega]
    simp only [Int.toNat_natCast]
  clear He h1 h3
  have d1 : decide ((a : Int) < 0) = false := decide_eq_false (by omega)
  have d2 : decide (s.size < a) = false := decide_eq_false (by omega)
  have d3 : decide ((s.size : Int) - (a : Int) < (W : Int)) = false := decide_eq_false (by omega)
  go_enter Try.func87, Try.ntmps87
  go_wp2_with (go_at_call 91; refine (refWidth_any _ _).mono ?_; rintro e w' ⟨rfl, rfl⟩)
  go_loop [10, 11, 12] (fun v10 v11 _ => ∃ k : Nat, k ≤ W ∧ v11 = .int .i64 k ∧ v10 = .int .u64 (refF (s.extract a (a + W)) W big k : Nat)) (fun _ v11 _ => W - (intOf v11).toNat)
  case atStart => exact ⟨0, by omega, rfl, rfl⟩
  case round =>
    obtain ⟨k, hk, rfl, rfl⟩ := hrel
    by_cases hlt : k < W
    · have hF := refF_lt (s.extract a (a + W)) W big k
      have hF8 : 256 ^ k ≤ 72057594037927936 := Nat.le_trans (Nat.pow_le_pow_right (by decide) (show k ≤ 7 by omega)) (by decide)
      have hst : Hid (refF (s.extract a (a + W)) W big (k + 1) = refF (s.extract a (a + W)) W big k * 256 + bget s (a + ordP W big (W - 1 - k))) := by
        unfold Hid
        rw [← bget_extract s a W _ (ordP_lt _ (by omega)) haW]
        rfl
      obtain ⟨m, hm⟩ : ∃ m, refF (s.extract a (a + W)) W big k = m := ⟨_, rfl⟩
      rw [hm] at hst hF ⊢
      have hm8 : m < 72057594037927936 := by omega
      clear hm hF hF8
      have hix1 := index_str s (a + W - 1 - k) (by omega)
      have hix2 := index_str s (a + k) (by omega)
      have hb1 := bget_lt s (a + W - 1 - k)
      have hb2 := bget_lt s (a + k)
      cases big
      · have Hst : Hid (refF (s.extract a (a + W)) W false (k + 1) = m * 256 + bget s (a + W - 1 - k)) := by
          unfold Hid; rw [hst.out, show ordP W false (W - 1 - k) = W - 1 - k from rfl, show a + (W - 1 - k) = a + W - 1 - k by omega]
        clear hst
        go_wp2
        go_round
        case rel => exact ⟨k + 1, by omega, by go_num, by rw [Hst.out]; go_num⟩
        case measure => simp [intOf]; omega
      · have Hst : Hid (refF (s.extract a (a + W)) W true (k + 1) = m * 256 + bget s (a + k)) := by
          unfold Hid; rw [hst.out, show ordP W true (W - 1 - k) = W - 1 - (W - 1 - k) from rfl, show W - 1 - (W - 1 - k) = k by omega]
        clear hst
        go_wp2
        go_round
        case rel => exact ⟨k + 1, by omega, by go_num, by rw [Hst.out]; go_num⟩
        case measure => simp [intOf]; omega
    · have hk' : k = W := by omega
      subst hk'
      go_wp2
      go_ret2
      rw [Ht.out, Hs.out]
      exact ⟨rfl, rfl⟩

end Go.Proofs.Ytmkbigaofhionaa
