/- Contracts of the functions of package win (walks): Bytes. -/
import Derived.Test.YtmkbigaofhionaaBase
import Derived.Test.YtmkbigaofhionaaWin
import Derived.Deep.RegionWith
namespace Go.Proofs.Ytmkbigaofhionaa
open Go.RowKit
set_option linter.unusedVariables false
set_option linter.unusedSimpArgs false

/-- Which weight stands at a place (and where a weight stands). -/
def ordP (W : Nat) (big : Bool) (p : Nat) : Nat := if big then W - 1 - p else p
theorem ordP_lt {W p : Nat} (big : Bool) (h : p < W) : ordP W big p < W := by unfold ordP; split <;> omega
theorem ordP_ordP {W p : Nat} (big : Bool) (h : p < W) : ordP W big (ordP W big p) = p := by unfold ordP; split <;> omega
def byteAt (n : Nat) (k : Nat) : Nat := n / 256 ^ k % 256
theorem byteAt_lt (n k : Nat) : byteAt n k < 256 := Nat.mod_lt _ (by decide)
def bytesArr (n W : Nat) (big : Bool) (i : Nat) : Array Value := (Array.range W).map fun p => .int .u8 (if ordP W big p < i then (byteAt n (ordP W big p) : Nat) else (0 : Nat))
/-- The bytes of a number. -/
def bytesS (n W : Nat) (big : Bool) : ByteArray := ⟨(Array.range W).map fun p => UInt8.ofNat (byteAt n (ordP W big p))⟩
theorem size_bytesS (n W : Nat) (big : Bool) : (bytesS n W big).size = W := by simp [bytesS, ByteArray.size]

theorem info_u8 : (Try.prog.info? 5).map (fun i => (i.zero, i.size, i.bytes)) = some (some (.int .u8 0), 1, 1) := by kernel_rfl

theorem byte_shift (n k : Nat) : (IntKind.u8.wrap ((n : Int) / 2 ^ (8 * (k : Int)).toNat)) = (byteAt n k : Nat) := by
  have e : (8 * (k : Int)).toNat = 8 * k := by omega
  rw [e, IntKind.wrap_u8', byteAt, show (256 : Nat) ^ k = 2 ^ (8 * k) by rw [Nat.pow_mul]]
  simp [Int.natCast_emod]

theorem made_zero (W : Nat) (big : Bool) (n : Nat) : madeCells #[.int .u8 0] W = bytesArr n W big 0 := by
  apply Array.ext'
  rw [toList_madeCells_one]
  simp [bytesArr]
  exact (List.eq_replicate_iff.2 (by simp)).symm

theorem bytesArr_get {n W k : Nat} (big : Bool) (hk : k < W) : (bytesArr n W big k)[ordP W big k]? = some (.int .u8 0) := by
  simp [bytesArr, ordP_lt big hk, ordP_ordP big hk]

theorem bytesArr_set {n W k : Nat} (big : Bool) (hk : k < W) : (bytesArr n W big k).setIfInBounds (ordP W big k) (.int .u8 (byteAt n k : Nat)) = bytesArr n W big (k + 1) := by
  apply Array.ext
  · simp [bytesArr]
  · intro p h1 h2
    have hp : p < W := by simpa [bytesArr] using h2
    rw [Array.getElem_setIfInBounds (by simpa [bytesArr] using hp)]
    by_cases h : ordP W big k = p
    · subst h
      simp [bytesArr, ordP_ordP big hk]
    · rw [if_neg h]
      have h3 : ordP W big p ≠ k := by intro h4; apply h; rw [← h4, ordP_ordP big hp]
      simp only [bytesArr, Array.getElem_map, Array.getElem_range]
      by_cases h4 : ordP W big p < k
      · rw [if_pos h4, if_pos (by omega)]
      · rw [if_neg h4, if_neg (by omega)]

theorem bytesS_cell {n W : Nat} (big : Bool) {w : World} {b : Nat} (h : Blk w b (.cells (bytesArr n W big W) 5 (0, 0))) :
    ∀ j (hj : j < (bytesS n W big).data.toList.length), w.cell? ((⟨b, 0, none⟩ : Addr).add j) = some (.int .u8 ((bytesS n W big).data.toList[j].toNat : Int)) := by
  intro j hj
  have hj' : j < W := by simpa [bytesS] using hj
  have e : (⟨b, 0, none⟩ : Addr).add j = ⟨b, j, none⟩ := by unfold Addr.add; split <;> simp_all
  rw [e, h.cell]
  simp [bytesArr, bytesS, hj', ordP_lt big hj']
  have := byteAt_lt n (ordP W big j)
  omega

theorem bytes_conv {n W : Nat} (big : Bool) {w : World} {b : Nat} (h : Blk w b (.cells (bytesArr n W big W) 5 (0, 0))) :
    (convert 102 9 (.slice (some ⟨b, 0, none⟩) W W)).run Try.prog w = .ok (.string (bytesS n W big)) w := by
  have hcv := run_convert_bytes_back (P := Try.prog) w 102 9 5 ⟨b, 0, none⟩ W (bytesS n W big).data.toList Try.underlying102 Try.underlying5 Try.underlying9 (bytesS_cell big h)
  have hl : (bytesS n W big).data.toList.length = W := by simp [bytesS]
  rw [hl] at hcv
  simpa only [Array.toArray_toList] using hcv

theorem mk_bytes (n W : Nat) (big : Bool) (hW8 : W ≤ 8) : ∀ w : World, (Instr.makeSlice 102 (.int .i64 W) (.int .i64 W)).run Try.prog w = .ok (.slice (some ⟨w.heap.size, 0, none⟩) W W) (w.alloc (.cells (bytesArr n W big 0) 5)) := by
  obtain ⟨i0, hi, hz0, hz1, hz2⟩ := info_parts info_u8
  intro w
  rw [run_make w 102 5 i0 (.int .u8 0) Try.underlying102 hi hz0 .i64 .i64 W W (by omega) (by omega) (by rw [hz2]; omega) (by omega)]
  simp only [Int.toNat_natCast, hz1, Nat.mul_one, ← made_zero, Value.cells]

/-- What Bytes answers. -/
def bytesE (n : Nat) (width : Int) : Int := if widthB width = true then (if 8 * width < Lib.bitLen n then 10 else 0) else 1

set_option maxHeartbeats 400000 in
theorem bytes_no (n : Nat) (width : Int) (big : Bool) (w : World) (hn : n < 18446744073709551616) (h : bytesE n width ≠ 0) :
    Calls Try.prog 90 #[.int .u64 n, .int .i64 width, .bool big] w fun e w' => e = .returned (.tuple #[.string ⟨#[]⟩, .int .i64 (bytesE n width)]) ∧ w = w' := by
  by_cases hW : widthB width = true
  · have hW' := widthB_iff.1 hW
    have h1 : 1 ≤ width := by omega
    have h8 : width ≤ 8 := by omega
    clear hW'
    have h2 : 8 * width < Lib.bitLen n := by
      apply Classical.byContradiction; intro h3; apply h; unfold bytesE; rw [if_pos hW, if_neg h3]
    have Hs : Hid (bytesE n width = 10) := by unfold Hid bytesE; rw [if_pos hW, if_pos h2]
    clear h
    go_enter Try.func90, Try.ntmps90
    go_wp2_with (first | (go_at_call 84; refine (isWidth_any _ _).mono ?_; rintro e w' ⟨rfl, rfl⟩) | (go_at_call 101; refine (len64_any _ _ (by omega) (by omega)).mono ?_; rintro e w' ⟨rfl, rfl⟩))
    go_ret2
    rw [Hs.out]; exact ⟨rfl, rfl⟩
  · have Hs : Hid (bytesE n width = 1) := by unfold Hid bytesE; rw [if_neg hW]
    clear h
    have hW' : widthB width = false := by simpa using hW
    clear hW
    go_enter Try.func90, Try.ntmps90
    go_wp2_with (go_at_call 84; refine (isWidth_any _ _).mono ?_; rintro e w' ⟨rfl, rfl⟩)
    go_ret2
    rw [Hs.out]; exact ⟨rfl, rfl⟩

set_option maxHeartbeats 1000000 in
theorem bytes_little (n W : Nat) (w : World) (hn : n < 18446744073709551616) (hW : widthB W = true) (hfit : ¬ 8 * (W : Int) < Lib.bitLen n) :
    Calls Try.prog 90 #[.int .u64 n, .int .i64 W, .bool false] w fun e w' => e = .returned (.tuple #[.string (bytesS n W false), .int .i64 0]) ∧ Below w.heap.size w w' := by
  have hW' := widthB_iff.1 hW
  have hW8 : W ≤ 8 := by omega
  have hW1 : 1 ≤ W := by omega
  clear hW'
  have hmk := mk_bytes n W false hW8
  have Hfit := hid hfit
  clear hfit
  go_enter Try.func90, Try.ntmps90
  go_wp2_with (first | (go_at_call 84; refine (isWidth_any _ _).mono ?_; rintro e w' ⟨rfl, rfl⟩) | (go_at_call 101; refine (len64_any _ _ (by omega) (by omega)).mono ?_; rintro e w' ⟨rfl, rfl⟩) | (go_at_call 85; refine (order_little _ _).mono ?_; rintro e w' ⟨rfl, rfl⟩))
  · exact absurd ‹8 * (W : Int) < (Lib.bitLen n : Int)› (by have := Hfit.out; omega)
  clear hmk
  go_loopw [10, 26] (fun _ v26 wr => ∃ k : Nat, k ≤ W ∧ v26 = .int .i64 k ∧ Blk wr (w.heap.size + 1) (.cells (bytesArr n W false k) 5) ∧ Blk wr w.heap.size (.cells #[.int .i64 W] 3) ∧ Below w.heap.size w wr) (fun _ v26 _ => W - (intOf v26).toNat)
  case atStart =>
    refine ⟨0, by omega, rfl, ?_, (Blk.new w _).alloc _, ((Below.refl _ _).alloc (Nat.le_refl _) _).alloc (by simp) _⟩
    have := Blk.new (w.alloc (.cells #[.int .i64 W] 3)) (.cells (bytesArr n W false 0) 5)
    simpa using this
  case round =>
    obtain ⟨k, hk, rfl, hblk, hbox, hbel⟩ := hrel
    by_cases hlt : k < W
    · obtain ⟨j, hj⟩ : ∃ j, ordP W false k = j := ⟨_, rfl⟩
      have hjW : j < W := hj ▸ ordP_lt _ hlt
      have hjk : k = j := by rw [← hj]; rfl
      have Hjk := hid hjk
      clear hjk
      have hc := hblk.cell j
      have hf := hblk.frozen j
      have hget := bytesArr_get (n := n) false hlt
      rw [hj] at hget
      rw [hget] at hc
      have hset := hblk.setCell_same j (.int .u8 (byteAt n k : Nat))
      have hset2 := bytesArr_set (n := n) false hlt
      rw [hj] at hset2
      rw [hset2] at hset
      clear hget hset2 hj
      have e8 : IntKind.i64.wrap (8 * (k : Int)) = 8 * k := IntWalk.i64_in _ (by omega)
      have p8 : 0 ≤ 8 * (k : Int) := by omega
      have hsh := fun w => run_shr_u64 (P := Try.prog) (n : Int) (8 * k) (by omega) (by omega) (by omega) w
      have hb := byte_shift n k
      have hset' := hid hset
      clear hset
      go_wp2
      go_region_with (go_at_call 99; refine (order2_at k j _ Hjk.out).mono ?_; rintro e w' ⟨rfl, rfl⟩)
      go_wp2
      go_roundw
      case rel => exact ⟨k + 1, by omega, by go_num, hset'.out.drew, (hbox.setCell_other _ (by simp)).drew, (hbel.setCell (by simp) _).drew⟩
      case measure => simp [intOf]; omega
    · have hk' : k = W := by omega
      subst hk'
      have hcv := bytes_conv false hblk
      go_wp2
      go_ret2
      exact ⟨rfl, hbel⟩

set_option maxHeartbeats 1000000 in
theorem bytes_big (n W : Nat) (w : World) (hn : n < 18446744073709551616) (hW : widthB W = true) (hfit : ¬ 8 * (W : Int) < Lib.bitLen n) :
    Calls Try.prog 90 #[.int .u64 n, .int .i64 W, .bool true] w fun e w' => e = .returned (.tuple #[.string (bytesS n W true), .int .i64 0]) ∧ Below w.heap.size w w' := by
  have hW' := widthB_iff.1 hW
  have hW8 : W ≤ 8 := by omega
  have hW1 : 1 ≤ W := by omega
  clear hW'
  have hmk := mk_bytes n W true hW8
  have Hfit := hid hfit
  clear hfit
  go_enter Try.func90, Try.ntmps90
  go_wp2_with (first | (go_at_call 84; refine (isWidth_any _ _).mono ?_; rintro e w' ⟨rfl, rfl⟩) | (go_at_call 101; refine (len64_any _ _ (by omega) (by omega)).mono ?_; rintro e w' ⟨rfl, rfl⟩) | (go_at_call 85; refine (order_big _ _).mono ?_; rintro e w' ⟨rfl, rfl⟩))
  · exact absurd ‹8 * (W : Int) < (Lib.bitLen n : Int)› (by have := Hfit.out; omega)
  clear hmk
  go_loopw [10, 26] (fun _ v26 wr => ∃ k : Nat, k ≤ W ∧ v26 = .int .i64 k ∧ Blk wr (w.heap.size + 1) (.cells (bytesArr n W true k) 5) ∧ Blk wr w.heap.size (.cells #[.int .i64 W] 3) ∧ Below w.heap.size w wr) (fun _ v26 _ => W - (intOf v26).toNat)
  case atStart =>
    refine ⟨0, by omega, rfl, ?_, (Blk.new w _).alloc _, ((Below.refl _ _).alloc (Nat.le_refl _) _).alloc (by simp) _⟩
    have := Blk.new (w.alloc (.cells #[.int .i64 W] 3)) (.cells (bytesArr n W true 0) 5)
    simpa using this
  case round =>
    obtain ⟨k, hk, rfl, hblk, hbox, hbel⟩ := hrel
    by_cases hlt : k < W
    · obtain ⟨j, hj⟩ : ∃ j, ordP W true k = j := ⟨_, rfl⟩
      have hjW : j < W := hj ▸ ordP_lt _ hlt
      have hjk : (W : Int) - 1 - k = (j : Int) := by rw [← hj]; simp only [ordP]; simp only [if_true]; omega
      have Hjk := hid hjk
      clear hjk
      have hcb : wr.cell? ⟨w.heap.size, 0, none⟩ = some (.int .i64 W) := by rw [hbox.cell]; rfl
      have hc := hblk.cell j
      have hf := hblk.frozen j
      have hget := bytesArr_get (n := n) true hlt
      rw [hj] at hget
      rw [hget] at hc
      have hset := hblk.setCell_same j (.int .u8 (byteAt n k : Nat))
      have hset2 := bytesArr_set (n := n) true hlt
      rw [hj] at hset2
      rw [hset2] at hset
      clear hget hset2 hj
      have e8 : IntKind.i64.wrap (8 * (k : Int)) = 8 * k := IntWalk.i64_in _ (by omega)
      have p8 : 0 ≤ 8 * (k : Int) := by omega
      have hsh := fun w => run_shr_u64 (P := Try.prog) (n : Int) (8 * k) (by omega) (by omega) (by omega) w
      have hb := byte_shift n k
      have hset' := hid hset
      clear hset
      go_wp2
      go_region_with (go_at_call 98; refine (order1_at _ W j _ _ hlt hW8 Hjk.out (by exact hcb)).mono ?_; rintro e w' ⟨rfl, rfl⟩)
      go_wp2
      go_roundw
      case rel => exact ⟨k + 1, by omega, by go_num, hset'.out.drew, (hbox.setCell_other _ (by simp)).drew, (hbel.setCell (by simp) _).drew⟩
      case measure => simp [intOf]; omega
    · have hk' : k = W := by omega
      subst hk'
      have hcv := bytes_conv true hblk
      go_wp2
      go_ret2
      exact ⟨rfl, hbel⟩

end Go.Proofs.Ytmkbigaofhionaa
