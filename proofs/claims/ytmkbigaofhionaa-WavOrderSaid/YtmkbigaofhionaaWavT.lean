/- What a type is: wav.isType and mortiseref19.Type. -/
import Derived.Test.YtmkbigaofhionaaWavP
import Derived.Lib.ConvBytes
import Derived.Lib.Walk
import Derived.Deep.DeepCutAuto
namespace Go.Proofs.Ytmkbigaofhionaa
open Go.RowKit
set_option linter.unusedVariables false
set_option linter.unusedSimpArgs false

theorem bytes_below (w : World) (e : TypeId) (s : ByteArray) : Below w.heap.size w (Lib.bytesWorld w e s) := by
  refine ⟨rfl, rfl, rfl, by rw [Lib.bytesWorld_size]; omega, fun k hk => Lib.bytesWorld_at_old w e s k hk⟩

theorem getD_at (s : ByteArray) (k : Nat) (h : k < s.size) : s.data.toList.getD k 0 = s.data.toList[k]'(by simpa using h) := by
  rw [List.getD_eq_getElem?_getD, List.getElem?_eq_getElem (by simpa using h)]; rfl
theorem bget_list (s : ByteArray) (k : Nat) (h : k < s.size) : bget s k = (s.data.toList[k]'(by simpa using h)).toNat := by
  unfold bget; rw [Array.getD_eq_getD_getElem?, Array.getElem?_eq_getElem (by simpa using h)]; rfl

theorem all_seen {s : ByteArray} : (s.data.toList.all fun b => seenB b.toNat) = true ↔ ∀ k, k < s.size → seenB (bget s k) = true := by
  rw [List.all_eq_true]
  constructor
  · intro h k hk
    rw [bget_list s k hk]
    exact h _ (List.getElem_mem _)
  · intro h b hb
    obtain ⟨k, hk, rfl⟩ := List.mem_iff_getElem.1 hb
    have := h k (by simpa using hk)
    rwa [bget_list s k (by simpa using hk)] at this
theorem typeB_no {s : ByteArray} {k : Nat} (hk : k < s.size) (h : seenB (bget s k) = false) : typeB s = false := by
  unfold typeB
  cases ha : s.data.toList.all fun b => seenB b.toNat
  · simp
  · have := all_seen.1 ha k hk; rw [h] at this; cases this
theorem typeB_all {s : ByteArray} (h : ∀ k, k < s.size → seenB (bget s k) = true) : typeB s = decide (s.size = 4) := by
  unfold typeB
  rw [all_seen.2 h, Bool.and_true]

theorem size_four (s : ByteArray) : ((s.size : Int) == 4) = decide (s.size = 4) := by
  rw [Bool.eq_iff_iff]; simp; omega

set_option maxHeartbeats 1000000 in
theorem isType_any (s : ByteArray) (w : World) (hs : s.size ≤ 140737488351232) :
    Calls Try.prog 57 #[.string s] w fun e w' => e = .returned (.bool (typeB s)) ∧ Below w.heap.size w w' := by
  have hB := bel_refl w
  have hcv := fun w => Lib.run_convert_string_bytes (P := Try.prog) w 9 102 5 s Try.underlying9 Try.underlying102 Try.underlying5
  have hbw := bytes_below w 5 s
  go_enter Try.func57, Try.ntmps57
  go_wp2
  have hcell : ∀ k, k < s.size → (Lib.bytesWorld w 5 s).cell? ⟨w.heap.size, k, none⟩ = some (.int .u8 ((bget s k : Nat) : Int)) := fun k hk => by
    rw [Lib.bytesWorld_cell w _ s k hk, getD_at s k hk, ← bget_list s k hk]
  have Hcell := hid hcell
  clear hcell hcv
  generalize Lib.bytesWorld w 5 s = wb at *
  go_loop [8] (fun v8 => ∃ k : Nat, k ≤ s.size ∧ v8 = .int .i64 k ∧ Hid (∀ i, i < k → seenB (bget s i) = true)) (fun v8 => s.size - (RowKit.intOf v8).toNat)
  case atStart => exact ⟨0, by omega, rfl, hid (fun i hi => by omega)⟩
  case round =>
    obtain ⟨k, hk, rfl, hse⟩ := hrel
    by_cases hlt : k < s.size
    · have hc := Hcell.out k hlt
      have hbl := bget_lt s k
      obtain ⟨b, hb⟩ : ∃ b, bget s k = b := ⟨_, rfl⟩
      rw [hb] at hc hbl
      have Hb := hid hb
      clear hb
      by_cases h1 : b < 32
      · have Ht := hid (typeB_no hlt (by rw [Hb.out]; simp [seenB]; omega))
        clear hse
        go_wp2
        go_ret
        exact ⟨by rw [Ht.out]; rfl, hbw⟩
      · by_cases h2 : 126 < b
        · have Ht := hid (typeB_no hlt (by rw [Hb.out]; simp [seenB]; omega))
          clear hse
          go_wp2
          go_ret
          exact ⟨by rw [Ht.out]; rfl, hbw⟩
        · go_wp2
          go_round
          case rel =>
            refine ⟨k + 1, by omega, by go_num, hid (fun i hi => ?_)⟩
            by_cases hik : i = k
            · subst hik; rw [Hb.out]; simp [seenB]; omega
            · exact hse.out i (by omega)
          case measure => simp [RowKit.intOf]; omega
    · obtain rfl : k = s.size := by omega
      have Ht := hid (typeB_all hse.out)
      clear hse
      go_wp2
      go_ret
      rw [Ht.out]
      exact ⟨by simp [size_four], hbw⟩

set_option maxHeartbeats 1000000 in
theorem refType_any (s : ByteArray) (w : World) (hs : s.size ≤ 140737488351232) :
    Calls Try.prog 61 #[.string s] w fun e w' => e = .returned (.bool (typeB s)) ∧ w = w' := by
  go_enter Try.func61, Try.ntmps61
  go_wp2
  go_loop [3] (fun v3 => ∃ k : Nat, k ≤ s.size ∧ v3 = .int .i64 k ∧ Hid (∀ i, i < k → seenB (bget s i) = true)) (fun v3 => s.size - (RowKit.intOf v3).toNat)
  case atStart => exact ⟨0, by omega, rfl, hid (fun i hi => by omega)⟩
  case round =>
    obtain ⟨k, hk, rfl, hse⟩ := hrel
    by_cases hlt : k < s.size
    · have hix := index_str s k hlt
      have hbl := bget_lt s k
      obtain ⟨b, hb⟩ : ∃ b, bget s k = b := ⟨_, rfl⟩
      rw [hb] at hix hbl
      have Hb := hid hb
      clear hb
      by_cases h1 : b < 32
      · have Ht := hid (typeB_no hlt (by rw [Hb.out]; simp [seenB]; omega))
        clear hse
        go_wp2
        go_ret
        exact ⟨by rw [Ht.out]; rfl, rfl⟩
      · by_cases h2 : 126 < b
        · have Ht := hid (typeB_no hlt (by rw [Hb.out]; simp [seenB]; omega))
          clear hse
          go_wp2
          go_ret
          exact ⟨by rw [Ht.out]; rfl, rfl⟩
        · go_wp2
          go_round
          case rel =>
            refine ⟨k + 1, by omega, by go_num, hid (fun i hi => ?_)⟩
            by_cases hik : i = k
            · subst hik; rw [Hb.out]; simp [seenB]; omega
            · exact hse.out i (by omega)
          case measure => simp [RowKit.intOf]; omega
    · obtain rfl : k = s.size := by omega
      have Ht := hid (typeB_all hse.out)
      clear hse
      go_wp2
      go_ret
      rw [Ht.out]
      exact ⟨by simp [size_four], rfl⟩
end Go.Proofs.Ytmkbigaofhionaa
