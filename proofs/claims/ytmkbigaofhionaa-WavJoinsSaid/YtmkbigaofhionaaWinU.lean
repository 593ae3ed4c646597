/- Contracts of the functions of package win (walks): Uint. -/
import Derived.Test.YtmkbigaofhionaaWinB
namespace Go.Proofs.Ytmkbigaofhionaa
open Go.RowKit
set_option linter.unusedVariables false
set_option linter.unusedSimpArgs false

/-- The byte of a text at a place. -/
def bget (t : ByteArray) (p : Nat) : Nat := (t.data.getD p 0).toNat
theorem bget_lt (t : ByteArray) (p : Nat) : bget t p < 256 := UInt8.toNat_lt _
/-- The number of the first i weights. -/
def valF (t : ByteArray) (W : Nat) (big : Bool) : Nat → Nat
  | 0 => 0
  | i + 1 => valF t W big i + bget t (ordP W big i) * 256 ^ i
theorem valF_lt (t : ByteArray) (W : Nat) (big : Bool) (i : Nat) : valF t W big i < 256 ^ i := by
  induction i with
  | zero => simp [valF]
  | succ i ih =>
    have h := bget_lt t (ordP W big i)
    have h2 : bget t (ordP W big i) * 256 ^ i ≤ 255 * 256 ^ i := Nat.mul_le_mul_right _ (by omega)
    simp only [valF, Nat.pow_succ]
    omega
theorem valF_small {t : ByteArray} {W : Nat} {big : Bool} {i : Nat} (h : i ≤ 8) : valF t W big i < 18446744073709551616 :=
  Nat.lt_of_lt_of_le (valF_lt t W big i) (Nat.le_trans (Nat.pow_le_pow_right (by decide) h) (by decide))
theorem shl_small (t : ByteArray) (p k : Nat) (hk : k < 8) : ((bget t p : Nat) : Int) * 2 ^ (8 * (k : Int)).toNat % 18446744073709551616 = ((bget t p * 256 ^ k : Nat) : Int) := by
  have e : (8 * (k : Int)).toNat = 8 * k := by omega
  have h := bget_lt t p
  have h1 : bget t p * 256 ^ k < 256 ^ (k + 1) := by rw [Nat.pow_succ, Nat.mul_comm]; exact Nat.mul_lt_mul_of_pos_left h (Nat.pow_pos (by decide))
  have h2 : 256 ^ (k + 1) ≤ 256 ^ 8 := Nat.pow_le_pow_right (by decide) hk
  have h3 : (256 : Nat) ^ 8 = 18446744073709551616 := by decide
  rw [e, show ((2 : Int) ^ (8 * k)) = ((256 ^ k : Nat) : Int) by rw [show (256 : Nat) ^ k = 2 ^ (8 * k) by rw [Nat.pow_mul]]; simp]
  rw [show ((bget t p : Nat) : Int) * ((256 ^ k : Nat) : Int) = ((bget t p * 256 ^ k : Nat) : Int) by simp]
  omega
theorem shl_small' (t : ByteArray) (p k : Nat) (hk : k < 8) : IntKind.u64.wrap (((bget t p : Nat) : Int) * 2 ^ (8 * k)) = ((bget t p * 256 ^ k : Nat) : Int) := by
  rw [IntKind.wrap_u64, ← shl_small t p k hk, show (8 * (k : Int)).toNat = 8 * k by omega]
theorem or_val (t : ByteArray) (W : Nat) (big : Bool) {k : Nat} (hk : k < 8) :
    bits BinOp.or IntKind.u64 ((valF t W big k : Nat) : Int) ((bget t (ordP W big k) * 256 ^ k : Nat) : Int) = ((valF t W big (k + 1) : Nat) : Int) := by
  have h1 := valF_lt t W big k
  have h2 : bget t (ordP W big k) * 256 ^ k < 18446744073709551616 := by
    have h := bget_lt t (ordP W big k)
    have h1 : bget t (ordP W big k) * 256 ^ k < 256 ^ (k + 1) := by rw [Nat.pow_succ, Nat.mul_comm]; exact Nat.mul_lt_mul_of_pos_left h (Nat.pow_pos (by decide))
    have h2 : 256 ^ (k + 1) ≤ 256 ^ 8 := Nat.pow_le_pow_right (by decide) hk
    have h3 : (256 : Nat) ^ 8 = 18446744073709551616 := by decide
    omega
  rw [bits_or_u64_nat _ _ (valF_small (by omega)) h2]
  congr 1
  simp only [valF]
  have e : (256 : Nat) ^ k = 2 ^ (8 * k) := by rw [Nat.pow_mul]
  rw [e] at h1 ⊢
  rw [Nat.mul_comm, Nat.or_comm, ← Nat.two_pow_add_eq_or_of_lt h1, Nat.add_comm]

theorem or_val' {a b k v : Nat} (h : bits BinOp.or IntKind.u64 (a : Int) ((b * 256 ^ k : Nat) : Int) = (v : Int)) : bits BinOp.or IntKind.u64 (a : Int) ((b : Int) * 256 ^ k) = (v : Int) := by
  rw [Int.natCast_mul, Int.natCast_pow] at h; exact h

/-- What Uint answers: its error. -/
def uintE (len at_ width : Int) : Int := if widthB width = true then subE len at_ width else 1

theorem index_str (t : ByteArray) (j : Nat) (h : j < t.size) : ((t[j]'h).toNat : Int) = (bget t j : Nat) := by
  have h' : j < t.data.size := h
  have e : t[j]'h = t.data[j]'h' := rfl
  rw [e]
  simp only [bget, Array.getD, dif_pos h']
  rfl

set_option maxHeartbeats 400000 in
theorem uint_no (s : ByteArray) (b at_ width : Int) (big : Bool) (w : World) (hs : s.size ≤ maxLen) (h : uintE s.size at_ width ≠ 0) :
    Calls Try.prog 55 #[.agg #[.string s, .int .i64 b], .int .i64 at_, .int .i64 width, .bool big] w fun e w' => e = .returned (.tuple #[.int .u64 0, .int .i64 (uintE s.size at_ width)]) ∧ Below w.heap.size w w' := by
  by_cases hW : widthB width = true
  · have Hs : Hid (uintE s.size at_ width = subE s.size at_ width) := by unfold Hid uintE; rw [if_pos hW]
    have hne : subE s.size at_ width ≠ 0 := by intro h0; apply h; rw [Hs.out, h0]
    have Hne := hid hne
    have hne' : (subE s.size at_ width != 0) = true := bne_iff_ne.2 hne
    clear h hne
    go_enter Try.func55, Try.ntmps55
    go_wp2_with (first | (go_at_call 84; refine (isWidth_any _ _).mono ?_; rintro e w' ⟨rfl, rfl⟩) | (go_at_call 58; refine (sub_no _ _ _ _ _ hs Hne.out).mono ?_; rintro e w' ⟨rfl, hb1⟩))
    go_ret2
    rw [Hs.out]
    have h1 := below_lt hb1
    exact ⟨rfl, (below_box hb1).alloc (by omega) _⟩
  · have Hs : Hid (uintE s.size at_ width = 1) := by unfold Hid uintE; rw [if_neg hW]
    clear h
    have hW' : widthB width = false := by simpa using hW
    clear hW
    go_enter Try.func55, Try.ntmps55
    go_wp2_with (go_at_call 84; refine (isWidth_any _ _).mono ?_; rintro e w' ⟨rfl, rfl⟩)
    go_ret2
    rw [Hs.out]; exact ⟨rfl, (Below.refl _ _).alloc (Nat.le_refl _) _⟩

set_option maxHeartbeats 1000000 in
theorem uint_little (s : ByteArray) (b : Int) (at_ : Int) (W : Nat) (w : World) (hs : s.size ≤ maxLen) (hW : widthB W = true) (h1 : 0 ≤ at_) (h3 : at_ ≤ s.size) (h4 : (W : Int) ≤ s.size - at_) :
    Calls Try.prog 55 #[.agg #[.string s, .int .i64 b], .int .i64 at_, .int .i64 W, .bool false] w fun e w' => e = .returned (.tuple #[.int .u64 (valF (s.extract at_.toNat (at_ + W).toNat) W false W : Nat), .int .i64 0]) ∧ Below w.heap.size w w' := by
  have hW' := widthB_iff.1 hW
  have hW8 : W ≤ 8 := by omega
  have hW1 : 1 ≤ W := by omega
  clear hW'
  obtain ⟨t, ht⟩ : ∃ t, s.extract at_.toNat (at_ + W).toNat = t := ⟨_, rfl⟩
  have hts : t.size = W := by rw [← ht, ByteArray.size_extract]; omega
  have Hts := hid hts
  have hso := fun w => sub_ok s b at_ W w hs h1 (by omega) h3 h4
  rw [ht] at hso
  rw [ht]
  clear ht hts
  go_enter Try.func55, Try.ntmps55
  go_wp2_with (first | (go_at_call 84; refine (isWidth_any _ _).mono ?_; rintro e w' ⟨rfl, rfl⟩) | (go_at_call 58; refine (hso _).mono ?_; rintro e w1 ⟨rfl, hb1⟩) | (go_at_call 85; refine (order_little _ _).mono ?_; rintro e w' ⟨rfl, rfl⟩))
  clear hso
  have hlt1 := below_lt hb1
  have hbw := below_box hb1
  clear hb1
  go_loopw [14, 15, 35] (fun v14 _ v35 wr => ∃ k : Nat, k ≤ W ∧ v35 = .int .i64 k ∧ v14 = .int .u64 (valF t W false k : Nat) ∧ Blk wr w1.heap.size (.cells #[.string t, .int .i64 (wrap64 (b + at_))] 88) ∧ Blk wr (w1.heap.size + 1) (.cells #[.int .i64 W] 3) ∧ Below w.heap.size w wr) (fun _ _ v35 _ => W - (intOf v35).toNat)
  case atStart =>
    refine ⟨0, by omega, rfl, rfl, (Blk.new w1 _).alloc _, ?_, (hbw.alloc (by omega) _).alloc (by simp; omega) _⟩
    have := Blk.new (w1.alloc (.cells #[.string t, .int .i64 (wrap64 (b + at_))] 88)) (.cells #[.int .i64 W] 3)
    simpa using this
  case round =>
    obtain ⟨k, hk, rfl, rfl, hwin, hbox, hbel⟩ := hrel
    by_cases hlt : k < W
    · obtain ⟨j, hj⟩ : ∃ j, ordP W false k = j := ⟨_, rfl⟩
      have hjW : j < W := hj ▸ ordP_lt _ hlt
      have hjs : j < t.size := by have := Hts.out; omega
      have hjk : k = j := by rw [← hj]; rfl
      have Hjk := hid hjk
      clear hjk
      have hc : wr.cell? ⟨w1.heap.size, 0, none⟩ = some (.string t) := by rw [hwin.cell]; rfl
      have hix := index_str t j hjs
      have hj0 : 0 ≤ (j : Int) := by omega
      have hjs' : (j : Int) < (t.size : Int) := by omega
      have e8 : IntKind.i64.wrap (8 * (k : Int)) = 8 * k := IntWalk.i64_in _ (by omega)
      have p8 : 0 ≤ 8 * (k : Int) := by omega
      have hsh := fun w => run_shl_u64 (P := Try.prog) ((bget t j : Nat) : Int) (8 * k) (by omega) (by omega) (by omega) w
      have hsm := shl_small' t j k (by omega)
      have hor := or_val t W false (k := k) (by omega)
      rw [hj] at hor
      have Hor := hid hor
      clear hor
      have hwb : IntKind.u64.wrap ((bget t j : Nat) : Int) = ((bget t j : Nat) : Int) := IntWalk.u64_in _ (by have := bget_lt t j; omega)
      clear hj
      go_wp2
      go_quiet ((go_at_call 99; exact Calls.quiet_of_same ((order2_at k j _ Hjk.out).mono fun _ _ h => ⟨h.1, h.2.symm⟩)))
      go_wp2
      go_roundw
      case rel => exact ⟨k + 1, by omega, by go_num, by rw [or_val' Hor.out], hwin.drewN _, hbox.drewN _, below_drewN hbel _⟩
      case measure => simp [intOf]; omega
    · have hk' : k = W := by omega
      subst hk'
      go_wp2
      go_ret2
      exact ⟨rfl, hbel⟩

set_option maxHeartbeats 1000000 in
theorem uint_big (s : ByteArray) (b : Int) (at_ : Int) (W : Nat) (w : World) (hs : s.size ≤ maxLen) (hW : widthB W = true) (h1 : 0 ≤ at_) (h3 : at_ ≤ s.size) (h4 : (W : Int) ≤ s.size - at_) :
    Calls Try.prog 55 #[.agg #[.string s, .int .i64 b], .int .i64 at_, .int .i64 W, .bool true] w fun e w' => e = .returned (.tuple #[.int .u64 (valF (s.extract at_.toNat (at_ + W).toNat) W true W : Nat), .int .i64 0]) ∧ Below w.heap.size w w' := by
  have hW' := widthB_iff.1 hW
  have hW8 : W ≤ 8 := by omega
  have hW1 : 1 ≤ W := by omega
  clear hW'
  obtain ⟨t, ht⟩ : ∃ t, s.extract at_.toNat (at_ + W).toNat = t := ⟨_, rfl⟩
  have hts : t.size = W := by rw [← ht, ByteArray.size_extract]; omega
  have Hts := hid hts
  have hso := fun w => sub_ok s b at_ W w hs h1 (by omega) h3 h4
  rw [ht] at hso
  rw [ht]
  clear ht hts
  go_enter Try.func55, Try.ntmps55
  go_wp2_with (first | (go_at_call 84; refine (isWidth_any _ _).mono ?_; rintro e w' ⟨rfl, rfl⟩) | (go_at_call 58; refine (hso _).mono ?_; rintro e w1 ⟨rfl, hb1⟩) | (go_at_call 85; refine (order_big _ _).mono ?_; rintro e w' ⟨rfl, rfl⟩))
  clear hso
  have hlt1 := below_lt hb1
  have hbw := below_box hb1
  clear hb1
  go_loopw [14, 15, 35] (fun v14 _ v35 wr => ∃ k : Nat, k ≤ W ∧ v35 = .int .i64 k ∧ v14 = .int .u64 (valF t W true k : Nat) ∧ Blk wr w1.heap.size (.cells #[.string t, .int .i64 (wrap64 (b + at_))] 88) ∧ Blk wr (w1.heap.size + 1) (.cells #[.int .i64 W] 3) ∧ Below w.heap.size w wr) (fun _ _ v35 _ => W - (intOf v35).toNat)
  case atStart =>
    refine ⟨0, by omega, rfl, rfl, (Blk.new w1 _).alloc _, ?_, (hbw.alloc (by omega) _).alloc (by simp; omega) _⟩
    have := Blk.new (w1.alloc (.cells #[.string t, .int .i64 (wrap64 (b + at_))] 88)) (.cells #[.int .i64 W] 3)
    simpa using this
  case round =>
    obtain ⟨k, hk, rfl, rfl, hwin, hbox, hbel⟩ := hrel
    by_cases hlt : k < W
    · obtain ⟨j, hj⟩ : ∃ j, ordP W true k = j := ⟨_, rfl⟩
      have hjW : j < W := hj ▸ ordP_lt _ hlt
      have hjs : j < t.size := by have := Hts.out; omega
      have hjk : (W : Int) - 1 - k = (j : Int) := by rw [← hj]; simp only [ordP]; simp only [if_true]; omega
      have Hjk := hid hjk
      clear hjk
      have hcb : wr.cell? ⟨w1.heap.size + 1, 0, none⟩ = some (.int .i64 W) := by rw [hbox.cell]; rfl
      have hc : wr.cell? ⟨w1.heap.size, 0, none⟩ = some (.string t) := by rw [hwin.cell]; rfl
      have hix := index_str t j hjs
      have hj0 : 0 ≤ (j : Int) := by omega
      have hjs' : (j : Int) < (t.size : Int) := by omega
      have e8 : IntKind.i64.wrap (8 * (k : Int)) = 8 * k := IntWalk.i64_in _ (by omega)
      have p8 : 0 ≤ 8 * (k : Int) := by omega
      have hsh := fun w => run_shl_u64 (P := Try.prog) ((bget t j : Nat) : Int) (8 * k) (by omega) (by omega) (by omega) w
      have hsm := shl_small' t j k (by omega)
      have hor := or_val t W true (k := k) (by omega)
      rw [hj] at hor
      have Hor := hid hor
      clear hor
      have hwb : IntKind.u64.wrap ((bget t j : Nat) : Int) = ((bget t j : Nat) : Int) := IntWalk.u64_in _ (by have := bget_lt t j; omega)
      clear hj
      go_wp2
      go_quiet ((go_at_call 98; exact Calls.quiet_of_same ((order1_at _ W j _ _ hlt hW8 Hjk.out (by exact hcb)).mono fun _ _ h => ⟨h.1, h.2.symm⟩)))
      go_wp2
      go_roundw
      case rel => exact ⟨k + 1, by omega, by go_num, by rw [or_val' Hor.out], hwin.drewN _, hbox.drewN _, below_drewN hbel _⟩
      case measure => simp [intOf]; omega
    · have hk' : k = W := by omega
      subst hk'
      go_wp2
      go_ret2
      exact ⟨rfl, hbel⟩

theorem uint_ok (s : ByteArray) (b : Int) (at_ : Int) (W : Nat) (big : Bool) (w : World) (hs : s.size ≤ maxLen) (hW : widthB W = true) (h1 : 0 ≤ at_) (h3 : at_ ≤ s.size) (h4 : (W : Int) ≤ s.size - at_) :
    Calls Try.prog 55 #[.agg #[.string s, .int .i64 b], .int .i64 at_, .int .i64 W, .bool big] w fun e w' => e = .returned (.tuple #[.int .u64 (valF (s.extract at_.toNat (at_ + W).toNat) W big W : Nat), .int .i64 0]) ∧ Below w.heap.size w w' := by
  cases big
  · exact uint_little s b at_ W w hs hW h1 h3 h4
  · exact uint_big s b at_ W w hs hW h1 h3 h4
/-- Uint's number. -/
def uintV (s : ByteArray) (at_ width : Int) (big : Bool) : Nat := if uintE s.size at_ width = 0 then valF (s.extract at_.toNat (at_ + width).toNat) width.toNat big width.toNat else 0
theorem uint_any (s : ByteArray) (b at_ width : Int) (big : Bool) (w : World) (hs : s.size ≤ maxLen) :
    Calls Try.prog 55 #[.agg #[.string s, .int .i64 b], .int .i64 at_, .int .i64 width, .bool big] w fun e w' => e = .returned (.tuple #[.int .u64 (uintV s at_ width big), .int .i64 (uintE s.size at_ width)]) ∧ Below w.heap.size w w' := by
  by_cases h : uintE s.size at_ width = 0
  · have hW : widthB width = true := by
      apply Classical.byContradiction; intro hn; unfold uintE at h; rw [if_neg hn] at h; omega
    have hS : subE s.size at_ width = 0 := by unfold uintE at h; rw [if_pos hW] at h; exact h
    have hW' := widthB_iff.1 hW
    obtain ⟨W, rfl⟩ := Int.eq_ofNat_of_zero_le (show 0 ≤ width by omega)
    have h2 : ¬ (at_ < 0 ∨ (W : Int) < 0) := by intro hn; unfold subE at hS; rw [if_pos hn] at hS; omega
    have h3 : ¬ ((s.size : Int) < at_ ∨ (s.size : Int) - at_ < W) := by intro hn; unfold subE at hS; rw [if_neg h2, if_pos hn] at hS; omega
    have e : uintV s at_ W big = valF (s.extract at_.toNat (at_ + W).toNat) W big W := by unfold uintV; rw [if_pos h, Int.toNat_natCast]
    rw [h, e]
    exact uint_ok s b at_ W big w hs hW (by omega) (by omega) (by omega)
  · have e : uintV s at_ width big = 0 := by unfold uintV; rw [if_neg h]
    rw [e]
    exact uint_no s b at_ width big w hs h
/-- What Sub answers. -/
def subS (s : ByteArray) (at_ n : Int) : ByteArray := if subE s.size at_ n = 0 then s.extract at_.toNat (at_ + n).toNat else ⟨#[]⟩
def subB (s : ByteArray) (b at_ n : Int) : Int := if subE s.size at_ n = 0 then wrap64 (b + at_) else 0
theorem sub_any (s : ByteArray) (b at_ n : Int) (w : World) (hs : s.size ≤ maxLen) :
    Calls Try.prog 58 #[.agg #[.string s, .int .i64 b], .int .i64 at_, .int .i64 n] w fun e w' => e = .returned (.tuple #[.agg #[.string (subS s at_ n), .int .i64 (subB s b at_ n)], .int .i64 (subE s.size at_ n)]) ∧ Below w.heap.size w w' := by
  by_cases h : subE s.size at_ n = 0
  · have h2 : ¬ (at_ < 0 ∨ n < 0) := by intro hn; unfold subE at h; rw [if_pos hn] at h; omega
    have h3 : ¬ ((s.size : Int) < at_ ∨ (s.size : Int) - at_ < n) := by intro hn; unfold subE at h; rw [if_neg h2, if_pos hn] at h; omega
    have e : subS s at_ n = s.extract at_.toNat (at_ + n).toNat := by unfold subS; rw [if_pos h]
    have e2 : subB s b at_ n = wrap64 (b + at_) := by unfold subB; rw [if_pos h]
    rw [h, e, e2]
    exact sub_ok s b at_ n w hs (by omega) (by omega) (by omega) (by omega)
  · have e : subS s at_ n = ⟨#[]⟩ := by unfold subS; rw [if_neg h]
    have e2 : subB s b at_ n = 0 := by unfold subB; rw [if_neg h]
    rw [e, e2]
    exact sub_no s b at_ n w hs h
/-- Bytes' text. -/
def bytesT (n : Nat) (width : Int) (big : Bool) : ByteArray := if bytesE n width = 0 then bytesS n width.toNat big else ⟨#[]⟩
theorem bytes_any (n : Nat) (width : Int) (big : Bool) (w : World) (hn : n < 18446744073709551616) :
    Calls Try.prog 90 #[.int .u64 n, .int .i64 width, .bool big] w fun e w' => e = .returned (.tuple #[.string (bytesT n width big), .int .i64 (bytesE n width)]) ∧ Below w.heap.size w w' := by
  by_cases h : bytesE n width = 0
  · have hW : widthB width = true := by
      apply Classical.byContradiction; intro hn; unfold bytesE at h; rw [if_neg hn] at h; omega
    have hf : ¬ 8 * width < (Lib.bitLen n : Int) := by intro hn; unfold bytesE at h; rw [if_pos hW, if_pos hn] at h; omega
    have hW' := widthB_iff.1 hW
    obtain ⟨W, rfl⟩ := Int.eq_ofNat_of_zero_le (show 0 ≤ width by omega)
    have e : bytesT n W big = bytesS n W big := by unfold bytesT; rw [if_pos h, Int.toNat_natCast]
    rw [h, e]
    cases big
    · exact bytes_little n W w hn hW hf
    · exact bytes_big n W w hn hW hf
  · have e : bytesT n width big = ⟨#[]⟩ := by unfold bytesT; rw [if_neg h]
    rw [e]
    exact (bytes_no n width big w hn h).mono fun e w' ⟨h1, h2⟩ => ⟨h1, h2 ▸ Below.refl _ _⟩

end Go.Proofs.Ytmkbigaofhionaa
