/- The file of some chunks: wav.Join, by the abstract machine. -/
import Derived.Test.YtmkbigaofhionaaWavJ
import Derived.Test.YtmkbigaofhionaaBldS
namespace Go.Proofs.Ytmkbigaofhionaa
open Go.RowKit
set_option linter.unusedVariables false
set_option linter.unusedSimpArgs false

theorem sOf_ne {s : ByteArray} (h : 0 < s.size) : bList s ≠ [] := by
  intro e
  have := bList_length s
  rw [e] at this; simp at this; omega

set_option maxHeartbeats 2000000 in
theorem wjoin_l : LocalOK Try.prog (mkC tt [eLong, eIsType, eContains, eNumber, eWS, eWB, eStr]) 37 joinL := by
  refine ⟨Try.f37, _, Try.func37, rfl, fun n0 args p K Z h => ?_⟩
  unfold joinL at h; split at h
  · rename_i form xs
    refine ⟨rfl, ?_⟩
    obtain ⟨⟨hf, hsm, hlen⟩, h⟩ := h
    have hB : joinOK form xs = false → K (.tup [.v (.string ⟨#[]⟩), .v (.int .i64 1)], []) := fun e => h.2 e
    have hG : ∀ n r, longF 12 xs = some n → typeB form = true → typesF xs = true → r = fileF form n xs → K (.tup [.v (.string r), .v (.int .i64 0)], []) := fun n r e1 e2 e3 e4 => by
      have := h.1 (by unfold joinOK; rw [e1, e2, e3]; rfl)
      change K _ at this
      rw [e1] at this
      rw [e4]; exact this
    clear h
    cases hn : longF 12 xs with
    | none =>
      have hb : joinOK form xs = false := by unfold joinOK; rw [hn]; rfl
      (repeat' (first | refine And.intro ?_ ?_ | (intro h'; first | (exfalso; revert h'; decide) | (simp only [decide_eq_true_eq, decide_eq_false_iff_not, Bool.not_eq_true', Bool.not_eq_false', bne_iff_ne, beq_iff_eq, ne_eq, bne_eq_false_iff_eq, beq_eq_false_iff_ne, Int.reduceToNat, Int.toNat_natCast, Int.reduceAdd, Int.reduceSub, ByteArray.size_extract, hn, Option.isSome_none, Option.getD_none, Bool.false_eq_true] at h'; first | (guard_hyp h' : True; clear h') | (exfalso; omega) | skip) | skip)))
      all_goals first | omega | exact hf | exact hB hb
    | some n =>
      have hge := longF_ge hn
      have hnm : n ≤ 2147483647 := longF_le hn (by decide)
      by_cases ht : typeB form = true
      case neg =>
        have hb : joinOK form xs = false := by unfold joinOK; simp [ht]
        (repeat' (first | refine And.intro ?_ ?_ | (intro h'; first | (exfalso; revert h'; decide) | (simp only [decide_eq_true_eq, decide_eq_false_iff_not, Bool.not_eq_true', Bool.not_eq_false', bne_iff_ne, beq_iff_eq, ne_eq, bne_eq_false_iff_eq, beq_eq_false_iff_ne, Int.reduceToNat, Int.toNat_natCast, Int.reduceAdd, Int.reduceSub, ByteArray.size_extract, hn, Option.isSome_some, Option.getD_some, ht, Bool.true_eq_false] at h'; first | (guard_hyp h' : True; clear h') | (exfalso; omega) | skip) | skip)))
        all_goals first | omega | exact hf | exact hB hb | (simp_all; done)
      by_cases hty : typesF xs = true
      case neg =>
        have hb : joinOK form xs = false := by unfold joinOK; simp [hty]
        (repeat' (first | refine And.intro ?_ ?_ | (intro h'; first | (exfalso; revert h'; decide) | (simp only [decide_eq_true_eq, decide_eq_false_iff_not, Bool.not_eq_true', Bool.not_eq_false', bne_iff_ne, beq_iff_eq, ne_eq, bne_eq_false_iff_eq, beq_eq_false_iff_ne, Int.reduceToNat, Int.toNat_natCast, Int.reduceAdd, Int.reduceSub, ByteArray.size_extract, hn, Option.isSome_some, Option.getD_some, ht, hty, Bool.true_eq_false] at h'; first | (guard_hyp h' : True; clear h') | (exfalso; omega) | skip) | skip)))
        all_goals first | omega | exact hf | exact hsm | exact hB hb | (simp_all; done)
      have w1 : IntKind.i64.wrap ((n : Int) - 8) = ((n - 8 : Nat) : Int) := by rw [IntWalk.i64_in _ (by omega)]; omega
      have hr4 : (⟨#[82, 73, 70, 70]⟩ : ByteArray).size = 4 := rfl
      have hf4 := typeB_size ht
      have hb4 := bytesT_size (n - 8) 4 false
      (repeat' (first | refine And.intro ?_ ?_ | (intro h'; first | (exfalso; revert h'; decide) | (simp only [decide_eq_true_eq, decide_eq_false_iff_not, Bool.not_eq_true', Bool.not_eq_false', bne_iff_ne, beq_iff_eq, ne_eq, bne_eq_false_iff_eq, beq_eq_false_iff_ne, Int.reduceToNat, Int.toNat_natCast, Int.reduceAdd, Int.reduceSub, ByteArray.size_extract, hn, Option.isSome_some, Option.getD_some, ht, hty, Bool.true_eq_false] at h'; first | (guard_hyp h' : True; clear h') | (exfalso; omega) | skip) | skip)))
      all_goals first | omega | exact hf | exact hsm | (simp only [hn, Option.getD_some, w1]; omega) | (simp only [hn, Option.getD_some, w1, Int.toNat_natCast, ByteArray.size_append, hr4]; omega) | (simp_all; done) | skip
      refine ⟨List Int × Int, [8, 34, 35, 36], [], fun | (l, k) => ⟨[(8, .ptr 0 0), (34, .ro tCh xs), (35, .v (.int .i64 ((xs).length : Nat))), (36, .v (.int .i64 k))], [(0, some (.cells 104 [.ptr 0 0, .own 1])), (1, some (.row 5 (.int .u8) l))], 0 + 2⟩,
        fun x => ∃ (k : Nat) (s : ByteArray), x.1 = bList s ∧ x.2 = k ∧ k ≤ (xs).length ∧ 0 < s.size ∧ longF s.size ((xs).drop k) = some n ∧ typesF ((xs).drop k) = true ∧ fileF form n xs = bodyF s ((xs).drop k), fun x => (xs).length - x.2.toNat, ⟨(_, _), rfl, 0, (riffT ++ bytesT (n - 8) 4 false) ++ form, ?_, rfl, Nat.zero_le _, ?_, ?_, hty, rfl⟩, fun x hx => ?_⟩
      · simp only [hn, Option.getD_some, w1, Int.toNat_natCast]; rfl
      · rw [ByteArray.size_append, ByteArray.size_append, hf4]; omega
      · have e : ((riffT ++ bytesT (n - 8) 4 false) ++ form).size = 12 := by
          rw [ByteArray.size_append, ByteArray.size_append, bytesT4 _ (by omega), hf4]; rfl
        rw [e, List.drop_zero]; exact hn
      obtain ⟨l, x2⟩ := x
      obtain ⟨k, s, e1, e2, hk, hs0, hl, hty', hfi⟩ := hx
      change l = _ at e1
      change x2 = _ at e2
      subst e1 e2
      have a4 : IntKind.i64.wrap ((k : Int) + 1) = ((k + 1 : Nat) : Int) := by rw [IntWalk.i64_in _ (by omega)]; omega
      by_cases hlt : k < (xs).length
      · have hs := smallT_get hsm k hlt
        rw [drop_get (Ty.dflt tCh) hlt] at hl hty' hfi
        obtain ⟨c, hc⟩ : ∃ c, (xs).getD k (Ty.dflt tCh) = c := ⟨_, rfl⟩
        rw [hc] at hl hty' hfi hs
        obtain ⟨h1, h2, h3⟩ := longF_cons hl
        rw [typesF, Bool.and_eq_true] at hty'
        obtain ⟨hct, hty'⟩ := hty'
        obtain ⟨m, hm⟩ : ∃ m, ByteArray.size c.2.1 = m := ⟨_, rfl⟩
        rw [hm] at h1 h2 h3
        have hc4 := typeB_size hct
        have hb5 := bytesT4 m (by omega)
        have v2 : bits .and .i64 (m : Int) 1 = ((m % 2 : Nat) : Int) := and1 m (by omega)
        have hpc : pieceF c = ((c.1 : ByteArray) ++ bytesT m 4 false) ++ (c.2.1 : ByteArray) := by unfold pieceF; rw [hm]
        have hps : (pieceF c).size = 8 + m := by rw [hpc, ByteArray.size_append, ByteArray.size_append, hb5]; omega
        (repeat' (first | refine And.intro ?_ ?_ | (intro h'; first | (exfalso; revert h'; decide) | (simp only [decide_eq_true_eq, decide_eq_false_iff_not, Bool.not_eq_true', Bool.not_eq_false', bne_iff_ne, beq_iff_eq, ne_eq, bne_eq_false_iff_eq, beq_eq_false_iff_ne, Int.reduceToNat, Int.toNat_natCast, Int.reduceAdd, Int.reduceSub, ByteArray.size_extract, hc, hct, hm, v2] at h'; first | (guard_hyp h' : True; clear h') | (exfalso; omega) | skip) | skip)))
        all_goals first | omega | kernel_rfl | (simp only [Int.toNat_natCast, hc, hm, ByteArray.size_append, bList_length]; omega) | skip
        · change List.length (List.append (bList s) (bList _)) + 1 ≤ 140737488355328
          rw [show List.append (bList s) (bList _) = bList s ++ bList _ from rfl, List.length_append, bList_length, bList_length]
          simp only [Int.toNat_natCast, hc, hm, ByteArray.size_append]; omega
        · refine ⟨(_, _), rfl, ⟨k + 1, (s ++ pieceF c) ++ ⟨#[0]⟩, ?_, a4, by omega, ?_, ?_, hty', ?_⟩, ?_⟩
          · change List.append (List.append (bList s) (bList _)) [0] = _
            simp only [Int.toNat_natCast, hc, hm]
            rw [hpc]
            simp only [bList_append, bList_zero]; rfl
          · rw [ByteArray.size_append, ByteArray.size_append]; omega
          · rw [ByteArray.size_append, ByteArray.size_append, hps, show s.size + (8 + m) + ByteArray.size ⟨#[0]⟩ = s.size + (8 + m + m % 2) by change s.size + (8 + m) + 1 = _; omega]; exact h3
          · rw [hfi, bodyF, hm, if_pos (by omega)]
          · simp only [a4, Int.toNat_natCast]; omega
        · refine ⟨(_, _), rfl, ⟨k + 1, s ++ pieceF c, ?_, a4, by omega, ?_, ?_, hty', ?_⟩, ?_⟩
          · change List.append (bList s) (bList _) = _
            simp only [Int.toNat_natCast, hc, hm]
            rw [hpc]
            simp only [bList_append]; rfl
          · rw [ByteArray.size_append]; omega
          · rw [ByteArray.size_append, hps, show s.size + (8 + m) = s.size + (8 + m + m % 2) by omega]; exact h3
          · rw [hfi, bodyF, hm, if_neg (by omega)]
          · simp only [a4, Int.toNat_natCast]; omega
      · (repeat' (first | refine And.intro ?_ ?_ | (intro h'; first | (exfalso; revert h'; decide) | (simp only [decide_eq_true_eq, decide_eq_false_iff_not, Bool.not_eq_true', Bool.not_eq_false', bne_iff_ne, beq_iff_eq, ne_eq, bne_eq_false_iff_eq, beq_eq_false_iff_ne, Int.reduceToNat, Int.toNat_natCast, Int.reduceAdd, Int.reduceSub, ByteArray.size_extract] at h'; first | (guard_hyp h' : True; clear h') | (exfalso; omega) | skip) | skip)))
        · exact (bytesIn_bList s _ (by assumption)).1
        · exact (bytesIn_bList s _ (by assumption)).2
        · exact sOf_ne hs0 (by assumption)
        · refine hG n _ hn ht hty ?_
          rw [hfi, List.drop_eq_nil_of_le (by omega), sOf_bList]; rfl
  · rename_i form T xs
    refine ⟨rfl, ?_⟩
    obtain ⟨⟨hf, hsm, hlen⟩, h⟩ := h
    have hB : joinOK form xs = false → K (.tup [.v (.string ⟨#[]⟩), .v (.int .i64 1)], [(0, some (.row T tCh xs))]) := fun e => h.2 e
    have hG : ∀ n r, longF 12 xs = some n → typeB form = true → typesF xs = true → r = fileF form n xs → K (.tup [.v (.string r), .v (.int .i64 0)], [(0, some (.row T tCh xs))]) := fun n r e1 e2 e3 e4 => by
      have := h.1 (by unfold joinOK; rw [e1, e2, e3]; rfl)
      change K _ at this
      rw [e1] at this
      rw [e4]; exact this
    clear h
    cases hn : longF 12 xs with
    | none =>
      have hb : joinOK form xs = false := by unfold joinOK; rw [hn]; rfl
      (repeat' (first | refine And.intro ?_ ?_ | (intro h'; first | (exfalso; revert h'; decide) | (simp only [decide_eq_true_eq, decide_eq_false_iff_not, Bool.not_eq_true', Bool.not_eq_false', bne_iff_ne, beq_iff_eq, ne_eq, bne_eq_false_iff_eq, beq_eq_false_iff_ne, Int.reduceToNat, Int.toNat_natCast, Int.reduceAdd, Int.reduceSub, ByteArray.size_extract, hn, Option.isSome_none, Option.getD_none, Bool.false_eq_true] at h'; first | (guard_hyp h' : True; clear h') | (exfalso; omega) | skip) | skip)))
      all_goals first | omega | exact hf | exact hB hb
    | some n =>
      have hge := longF_ge hn
      have hnm : n ≤ 2147483647 := longF_le hn (by decide)
      by_cases ht : typeB form = true
      case neg =>
        have hb : joinOK form xs = false := by unfold joinOK; simp [ht]
        (repeat' (first | refine And.intro ?_ ?_ | (intro h'; first | (exfalso; revert h'; decide) | (simp only [decide_eq_true_eq, decide_eq_false_iff_not, Bool.not_eq_true', Bool.not_eq_false', bne_iff_ne, beq_iff_eq, ne_eq, bne_eq_false_iff_eq, beq_eq_false_iff_ne, Int.reduceToNat, Int.toNat_natCast, Int.reduceAdd, Int.reduceSub, ByteArray.size_extract, hn, Option.isSome_some, Option.getD_some, ht, Bool.true_eq_false] at h'; first | (guard_hyp h' : True; clear h') | (exfalso; omega) | skip) | skip)))
        all_goals first | omega | exact hf | exact hB hb | (simp_all; done)
      by_cases hty : typesF xs = true
      case neg =>
        have hb : joinOK form xs = false := by unfold joinOK; simp [hty]
        (repeat' (first | refine And.intro ?_ ?_ | (intro h'; first | (exfalso; revert h'; decide) | (simp only [decide_eq_true_eq, decide_eq_false_iff_not, Bool.not_eq_true', Bool.not_eq_false', bne_iff_ne, beq_iff_eq, ne_eq, bne_eq_false_iff_eq, beq_eq_false_iff_ne, Int.reduceToNat, Int.toNat_natCast, Int.reduceAdd, Int.reduceSub, ByteArray.size_extract, hn, Option.isSome_some, Option.getD_some, ht, hty, Bool.true_eq_false] at h'; first | (guard_hyp h' : True; clear h') | (exfalso; omega) | skip) | skip)))
        all_goals first | omega | exact hf | exact hsm | exact hB hb | (simp_all; done)
      have w1 : IntKind.i64.wrap ((n : Int) - 8) = ((n - 8 : Nat) : Int) := by rw [IntWalk.i64_in _ (by omega)]; omega
      have hr4 : (⟨#[82, 73, 70, 70]⟩ : ByteArray).size = 4 := rfl
      have hf4 := typeB_size ht
      have hb4 := bytesT_size (n - 8) 4 false
      (repeat' (first | refine And.intro ?_ ?_ | (intro h'; first | (exfalso; revert h'; decide) | (simp only [decide_eq_true_eq, decide_eq_false_iff_not, Bool.not_eq_true', Bool.not_eq_false', bne_iff_ne, beq_iff_eq, ne_eq, bne_eq_false_iff_eq, beq_eq_false_iff_ne, Int.reduceToNat, Int.toNat_natCast, Int.reduceAdd, Int.reduceSub, ByteArray.size_extract, hn, Option.isSome_some, Option.getD_some, ht, hty, Bool.true_eq_false] at h'; first | (guard_hyp h' : True; clear h') | (exfalso; omega) | skip) | skip)))
      all_goals first | omega | exact hf | exact hsm | (simp only [hn, Option.getD_some, w1]; omega) | (simp only [hn, Option.getD_some, w1, Int.toNat_natCast, ByteArray.size_append, hr4]; omega) | (simp_all; done) | skip
      refine ⟨List Int × Int, [8, 34, 35, 36], [], fun | (l, k) => ⟨[(8, .ptr 1 0), (34, .own 0), (35, .v (.int .i64 ((xs).length : Nat))), (36, .v (.int .i64 k))], [(0, some (.row T tCh xs)), (1, some (.cells 104 [.ptr 1 0, .own 2])), (2, some (.row 5 (.int .u8) l))], 1 + 2⟩,
        fun x => ∃ (k : Nat) (s : ByteArray), x.1 = bList s ∧ x.2 = k ∧ k ≤ (xs).length ∧ 0 < s.size ∧ longF s.size ((xs).drop k) = some n ∧ typesF ((xs).drop k) = true ∧ fileF form n xs = bodyF s ((xs).drop k), fun x => (xs).length - x.2.toNat, ⟨(_, _), rfl, 0, (riffT ++ bytesT (n - 8) 4 false) ++ form, ?_, rfl, Nat.zero_le _, ?_, ?_, hty, rfl⟩, fun x hx => ?_⟩
      · simp only [hn, Option.getD_some, w1, Int.toNat_natCast]; rfl
      · rw [ByteArray.size_append, ByteArray.size_append, hf4]; omega
      · have e : ((riffT ++ bytesT (n - 8) 4 false) ++ form).size = 12 := by
          rw [ByteArray.size_append, ByteArray.size_append, bytesT4 _ (by omega), hf4]; rfl
        rw [e, List.drop_zero]; exact hn
      obtain ⟨l, x2⟩ := x
      obtain ⟨k, s, e1, e2, hk, hs0, hl, hty', hfi⟩ := hx
      change l = _ at e1
      change x2 = _ at e2
      subst e1 e2
      have a4 : IntKind.i64.wrap ((k : Int) + 1) = ((k + 1 : Nat) : Int) := by rw [IntWalk.i64_in _ (by omega)]; omega
      by_cases hlt : k < (xs).length
      · have hs := smallT_get hsm k hlt
        rw [drop_get (Ty.dflt tCh) hlt] at hl hty' hfi
        obtain ⟨c, hc⟩ : ∃ c, (xs).getD k (Ty.dflt tCh) = c := ⟨_, rfl⟩
        rw [hc] at hl hty' hfi hs
        obtain ⟨h1, h2, h3⟩ := longF_cons hl
        rw [typesF, Bool.and_eq_true] at hty'
        obtain ⟨hct, hty'⟩ := hty'
        obtain ⟨m, hm⟩ : ∃ m, ByteArray.size c.2.1 = m := ⟨_, rfl⟩
        rw [hm] at h1 h2 h3
        have hc4 := typeB_size hct
        have hb5 := bytesT4 m (by omega)
        have v2 : bits .and .i64 (m : Int) 1 = ((m % 2 : Nat) : Int) := and1 m (by omega)
        have hpc : pieceF c = ((c.1 : ByteArray) ++ bytesT m 4 false) ++ (c.2.1 : ByteArray) := by unfold pieceF; rw [hm]
        have hps : (pieceF c).size = 8 + m := by rw [hpc, ByteArray.size_append, ByteArray.size_append, hb5]; omega
        (repeat' (first | refine And.intro ?_ ?_ | (intro h'; first | (exfalso; revert h'; decide) | (simp only [decide_eq_true_eq, decide_eq_false_iff_not, Bool.not_eq_true', Bool.not_eq_false', bne_iff_ne, beq_iff_eq, ne_eq, bne_eq_false_iff_eq, beq_eq_false_iff_ne, Int.reduceToNat, Int.toNat_natCast, Int.reduceAdd, Int.reduceSub, ByteArray.size_extract, hc, hct, hm, v2] at h'; first | (guard_hyp h' : True; clear h') | (exfalso; omega) | skip) | skip)))
        all_goals first | omega | kernel_rfl | (simp only [Int.toNat_natCast, hc, hm, ByteArray.size_append, bList_length]; omega) | skip
        · change List.length (List.append (bList s) (bList _)) + 1 ≤ 140737488355328
          rw [show List.append (bList s) (bList _) = bList s ++ bList _ from rfl, List.length_append, bList_length, bList_length]
          simp only [Int.toNat_natCast, hc, hm, ByteArray.size_append]; omega
        · refine ⟨(_, _), rfl, ⟨k + 1, (s ++ pieceF c) ++ ⟨#[0]⟩, ?_, a4, by omega, ?_, ?_, hty', ?_⟩, ?_⟩
          · change List.append (List.append (bList s) (bList _)) [0] = _
            simp only [Int.toNat_natCast, hc, hm]
            rw [hpc]
            simp only [bList_append, bList_zero]; rfl
          · rw [ByteArray.size_append, ByteArray.size_append]; omega
          · rw [ByteArray.size_append, ByteArray.size_append, hps, show s.size + (8 + m) + ByteArray.size ⟨#[0]⟩ = s.size + (8 + m + m % 2) by change s.size + (8 + m) + 1 = _; omega]; exact h3
          · rw [hfi, bodyF, hm, if_pos (by omega)]
          · simp only [a4, Int.toNat_natCast]; omega
        · refine ⟨(_, _), rfl, ⟨k + 1, s ++ pieceF c, ?_, a4, by omega, ?_, ?_, hty', ?_⟩, ?_⟩
          · change List.append (bList s) (bList _) = _
            simp only [Int.toNat_natCast, hc, hm]
            rw [hpc]
            simp only [bList_append]; rfl
          · rw [ByteArray.size_append]; omega
          · rw [ByteArray.size_append, hps, show s.size + (8 + m) = s.size + (8 + m + m % 2) by omega]; exact h3
          · rw [hfi, bodyF, hm, if_neg (by omega)]
          · simp only [a4, Int.toNat_natCast]; omega
      · (repeat' (first | refine And.intro ?_ ?_ | (intro h'; first | (exfalso; revert h'; decide) | (simp only [decide_eq_true_eq, decide_eq_false_iff_not, Bool.not_eq_true', Bool.not_eq_false', bne_iff_ne, beq_iff_eq, ne_eq, bne_eq_false_iff_eq, beq_eq_false_iff_ne, Int.reduceToNat, Int.toNat_natCast, Int.reduceAdd, Int.reduceSub, ByteArray.size_extract] at h'; first | (guard_hyp h' : True; clear h') | (exfalso; omega) | skip) | skip)))
        · exact (bytesIn_bList s _ (by assumption)).1
        · exact (bytesIn_bList s _ (by assumption)).2
        · exact sOf_ne hs0 (by assumption)
        · refine hG n _ hn ht hty ?_
          rw [hfi, List.drop_eq_nil_of_le (by omega), sOf_bList]; rfl
  · rename_i form
    refine ⟨rfl, ?_⟩
    obtain ⟨⟨hf, _, _⟩, h⟩ := h
    have hn : longF 12 ([] : List tCh.Val) = some 12 := rfl
    by_cases ht : typeB form = true
    case neg =>
      have hb : joinOK form [] = false := by unfold joinOK; simp [ht]
      have hB : K (.tup [.v (.string ⟨#[]⟩), .v (.int .i64 1)], []) := h.2 hb
      clear h
      (repeat' (first | refine And.intro ?_ ?_ | (intro h'; first | (exfalso; revert h'; decide) | (simp only [decide_eq_true_eq, decide_eq_false_iff_not, Bool.not_eq_true', Bool.not_eq_false', bne_iff_ne, beq_iff_eq, ne_eq, bne_eq_false_iff_eq, beq_eq_false_iff_ne, Int.reduceToNat, Int.toNat_natCast, Int.reduceAdd, Int.reduceSub, ByteArray.size_extract, ht, Bool.true_eq_false] at h'; first | (guard_hyp h' : True; clear h') | (exfalso; omega) | skip) | skip)))
      all_goals first | omega | exact hf | exact hB | (simp_all; done) | skip
    have hb : joinOK form [] = true := by unfold joinOK; rw [hn, ht]; rfl
    have hG : K (.tup [.v (.string (fileF form 12 [])), .v (.int .i64 0)], []) := h.1 hb
    clear h
    have hf4 := typeB_size ht
    have hb4 := bytesT4 4 (by decide)
    have w1 : IntKind.i64.wrap (((longF 12 ([] : List tCh.Val)).getD 0 : Nat) - 8) = ((4 : Nat) : Int) := by decide +kernel
    have hr4 : (⟨#[82, 73, 70, 70]⟩ : ByteArray).size = 4 := rfl
    (repeat' (first | refine And.intro ?_ ?_ | (intro h'; first | (exfalso; revert h'; decide) | (simp only [decide_eq_true_eq, decide_eq_false_iff_not, Bool.not_eq_true', Bool.not_eq_false', bne_iff_ne, beq_iff_eq, ne_eq, bne_eq_false_iff_eq, beq_eq_false_iff_ne, Int.reduceToNat, Int.toNat_natCast, Int.reduceAdd, Int.reduceSub, ByteArray.size_extract, ht, Bool.true_eq_false] at h'; first | (guard_hyp h' : True; clear h') | (exfalso; omega) | skip) | skip)))
    all_goals first | omega | exact hf | (simp only [w1]; omega) | (simp only [w1, Int.toNat_natCast, ByteArray.size_append, hr4]; omega) | (simp_all; done) | skip
    refine ⟨Unit, [8, 34, 35, 36], [], fun _ => ⟨[(8, .ptr 0 0), (34, .v (.slice none 0 0)), (35, .v (.int .i64 0)), (36, .v (.int .i64 0))], [(0, some (.cells 104 [.ptr 0 0, .own 1])), (1, some (.row 5 (.int .u8) (bList ((riffT ++ bytesT (Int.toNat (IntKind.i64.wrap (((longF 12 ([] : List tCh.Val)).getD 0 : Nat) - 8))) 4 false) ++ form))))], 2⟩, fun _ => True, fun _ => 0, ⟨(), rfl, trivial⟩, fun _ _ => ?_⟩
    (repeat' (first | refine And.intro ?_ ?_ | (intro h'; first | (exfalso; revert h'; decide) | (simp only [decide_eq_true_eq, decide_eq_false_iff_not, Bool.not_eq_true', Bool.not_eq_false', bne_iff_ne, beq_iff_eq, ne_eq, bne_eq_false_iff_eq, beq_eq_false_iff_ne, Int.reduceToNat, Int.toNat_natCast, Int.reduceAdd, Int.reduceSub, ByteArray.size_extract] at h'; first | (guard_hyp h' : True; clear h') | (exfalso; omega) | skip) | skip)))
    · exact (bytesIn_bList _ _ (by assumption)).1
    · exact (bytesIn_bList _ _ (by assumption)).2
    · refine sOf_ne ?_ (by assumption)
      rw [ByteArray.size_append, ByteArray.size_append, hf4]; omega
    · refine K_of (K := K) hG ?_
      rw [sOf_bList, w1]; rfl
  · exact h.elim
noncomputable def eJoin : Ent Try.prog := Ent.of tt_ok mixed wjoin_l (by kernel_rfl)
end Go.Proofs.Ytmkbigaofhionaa
