/- The laws of chapter 19, as specs. -/
import Derived.Test.YtmkbigaofhionaaWavZ
import Derived.Test.YtmkbigaofhionaaLawP
namespace Go.Proofs.Ytmkbigaofhionaa
open Go.RowKit
set_option linter.unusedVariables false
set_option linter.unusedSimpArgs false

theorem sameF_rfl (xs : List tCh.Val) : sameF xs xs = true := sameF_iff.2 rfl
theorem sameS_rfl (a b c : Int) (d : ByteArray) (xs : List tCh.Val) : sameS a b c d xs a b c d xs = true := by unfold sameS; simp [sameF_rfl]
def splitsL : LSpec := fun n0 args p => match n0, args, p with
  | 0, [.v (.string s)], [] => .ok (.v (.bool true), [])
  | _, _, _ => .bad
set_option maxHeartbeats 1000000 in
theorem splits_l : LocalOK Try.prog (mkC tt [eLive, eSplit, eRSplit, eSameCh]) 8 splitsL := by
  refine ⟨Try.f8, _, Try.func8, rfl, fun n0 args p K Z h => ?_⟩
  unfold splitsL at h; split at h
  · rename_i s
    refine ⟨rfl, ?_⟩
    change K _ at h
    have hr := sameF_rfl
    (repeat' (first | refine And.intro ?_ ?_ | (intro h'; first | (exfalso; revert h'; decide) | (simp only [decide_eq_true_eq, decide_eq_false_iff_not, Bool.not_eq_true', Bool.not_eq_false', bne_iff_ne, beq_iff_eq, ne_eq, bne_eq_false_iff_eq, beq_eq_false_iff_ne, Int.reduceToNat, Int.toNat_natCast, Int.reduceAdd, Int.reduceSub, ByteArray.size_extract, not_true_eq_false, not_false_eq_true, hr, Bool.true_eq_false] at h'; first | (guard_hyp h' : True; clear h') | (exfalso; omega) | skip) | skip)))
    all_goals first | omega | exact h | skip
    exact Nat.le_trans (split_facts s).1 (by omega)
  · exact h.elim
noncomputable def eSplits : Ent Try.prog := Ent.of tt_ok mixed splits_l (by kernel_rfl)

def joinsL : LSpec := fun n0 args p => match n0, args, p with
  | 0, [.v (.string form), .ro (.pair .str (.pair .str .unit)) xs], [] => .need (form.size ≤ 140737488351232 ∧ smallT xs) (.ok (.v (.bool true), []))
  | _, _, _ => .bad
set_option maxHeartbeats 2000000 in
theorem joins_l : LocalOK Try.prog (mkC tt [eLive, eSmall, eJoin, eRJoin, eSameCh]) 9 joinsL := by
  refine ⟨Try.f9, _, Try.func9, rfl, fun n0 args p K Z h => ?_⟩
  unfold joinsL at h; split at h
  · rename_i form xs
    refine ⟨rfl, ?_⟩
    obtain ⟨⟨hf, hsm⟩, h⟩ := h
    change K _ at h
    have hr := sameF_rfl
    cases hs : smallS xs with
    | false =>
      (repeat' (first | refine And.intro ?_ ?_ | (intro h'; first | (exfalso; revert h'; decide) | (simp only [decide_eq_true_eq, decide_eq_false_iff_not, Bool.not_eq_true', Bool.not_eq_false', bne_iff_ne, beq_iff_eq, ne_eq, bne_eq_false_iff_eq, beq_eq_false_iff_ne, Int.reduceToNat, Int.toNat_natCast, Int.reduceAdd, Int.reduceSub, ByteArray.size_extract, not_true_eq_false, not_false_eq_true, hs, Bool.false_eq_true, Bool.true_eq_false] at h'; first | (guard_hyp h' : True; clear h') | (exfalso; omega) | skip) | skip)))
      all_goals first | omega | exact h | skip
      all_goals trace_state
    | true =>
      obtain ⟨hl, _⟩ := small_len hs
      cases hj : joinOK form xs <;>
      ((repeat' (first | refine And.intro ?_ ?_ | (intro h'; first | (exfalso; revert h'; decide) | (simp only [decide_eq_true_eq, decide_eq_false_iff_not, Bool.not_eq_true', Bool.not_eq_false', bne_iff_ne, beq_iff_eq, ne_eq, bne_eq_false_iff_eq, beq_eq_false_iff_ne, Int.reduceToNat, Int.toNat_natCast, Int.reduceAdd, Int.reduceSub, ByteArray.size_extract, not_true_eq_false, not_false_eq_true, hs, hr, hj, Bool.false_eq_true, Bool.true_eq_false] at h'; first | (guard_hyp h' : True; clear h') | (exfalso; omega) | skip) | skip)))
       all_goals first | omega | exact hf | exact hsm | (change (xs : List tCh.Val).length ≤ 1000000000; omega) | (change (xs : List tCh.Val).length * 32 ≤ 140737488355328; omega) | exact h | skip)
  · exact h.elim
noncomputable def eJoins : Ent Try.prog := Ent.of tt_ok mixed joins_l (by kernel_rfl)

def writesL : LSpec := fun n0 args p => match n0, args, p with
  | 0, [.agg [.v (.int .i64 a), .v (.int .i64 b), .v (.int .i64 c), .v (.string d), .ro (.pair .str (.pair .str .unit)) xs]], [] => .need (smallT xs) (.ok (.v (.bool true), []))
  | _, _, _ => .bad
set_option maxHeartbeats 2000000 in
theorem writes_l : LocalOK Try.prog (mkC tt [eLive, eSmall, eWriteL, eRWriteL]) 10 writesL := by
  refine ⟨Try.f10, _, Try.func10, rfl, fun n0 args p K Z h => ?_⟩
  unfold writesL at h; split at h
  · rename_i a b c d xs
    refine ⟨rfl, ?_⟩
    obtain ⟨hsm, h⟩ := h
    change K _ at h
    cases hs : smallS xs with
    | false =>
      (repeat' (first | refine And.intro ?_ ?_ | (intro h'; first | (exfalso; revert h'; decide) | (simp only [decide_eq_true_eq, decide_eq_false_iff_not, Bool.not_eq_true', Bool.not_eq_false', bne_iff_ne, beq_iff_eq, ne_eq, bne_eq_false_iff_eq, beq_eq_false_iff_ne, Int.reduceToNat, Int.toNat_natCast, Int.reduceAdd, Int.reduceSub, ByteArray.size_extract, not_true_eq_false, not_false_eq_true, hs, Bool.false_eq_true, Bool.true_eq_false] at h'; first | (guard_hyp h' : True; clear h') | (exfalso; omega) | skip) | skip)))
      all_goals first | omega | exact h | skip
    | true =>
      obtain ⟨hl, _⟩ := small_len hs
      cases hj : mayB a b c d xs <;>
      ((repeat' (first | refine And.intro ?_ ?_ | (intro h'; first | (exfalso; revert h'; decide) | (simp only [decide_eq_true_eq, decide_eq_false_iff_not, Bool.not_eq_true', Bool.not_eq_false', bne_iff_ne, beq_iff_eq, ne_eq, bne_eq_false_iff_eq, beq_eq_false_iff_ne, Int.reduceToNat, Int.toNat_natCast, Int.reduceAdd, Int.reduceSub, ByteArray.size_extract, not_true_eq_false, not_false_eq_true, hs, hj, Bool.false_eq_true, Bool.true_eq_false] at h'; first | (guard_hyp h' : True; clear h') | (exfalso; omega) | skip) | skip)))
       all_goals first | omega | exact hsm | exact h | skip)
  · exact h.elim
noncomputable def eWrites : Ent Try.prog := Ent.of tt_ok mixed writes_l (by kernel_rfl)

set_option maxHeartbeats 2000000 in
theorem back_l : LocalOK Try.prog (mkC tt [eLive, eSmall, eWriteL, eRead, eSame]) 11 writesL := by
  refine ⟨Try.f11, _, Try.func11, rfl, fun n0 args p K Z h => ?_⟩
  unfold writesL at h; split at h
  · rename_i a b c d xs
    refine ⟨rfl, ?_⟩
    obtain ⟨hsm, h⟩ := h
    change K _ at h
    cases hs : smallS xs with
    | false =>
      (repeat' (first | refine And.intro ?_ ?_ | (intro h'; first | (exfalso; revert h'; decide) | (simp only [decide_eq_true_eq, decide_eq_false_iff_not, Bool.not_eq_true', Bool.not_eq_false', bne_iff_ne, beq_iff_eq, ne_eq, bne_eq_false_iff_eq, beq_eq_false_iff_ne, Int.reduceToNat, Int.toNat_natCast, Int.reduceAdd, Int.reduceSub, ByteArray.size_extract, not_true_eq_false, not_false_eq_true, hs, Bool.false_eq_true, Bool.true_eq_false] at h'; first | (guard_hyp h' : True; clear h') | (exfalso; omega) | skip) | skip)))
      all_goals first | omega | exact h | skip
    | true =>
      obtain ⟨hl, _⟩ := small_len hs
      cases hj : mayB a b c d xs with
      | false =>
        (repeat' (first | refine And.intro ?_ ?_ | (intro h'; first | (exfalso; revert h'; decide) | (simp only [decide_eq_true_eq, decide_eq_false_iff_not, Bool.not_eq_true', Bool.not_eq_false', bne_iff_ne, beq_iff_eq, ne_eq, bne_eq_false_iff_eq, beq_eq_false_iff_ne, Int.reduceToNat, Int.toNat_natCast, Int.reduceAdd, Int.reduceSub, ByteArray.size_extract, not_true_eq_false, not_false_eq_true, hs, hj, Bool.false_eq_true, Bool.true_eq_false] at h'; first | (guard_hyp h' : True; clear h') | (exfalso; omega) | skip) | skip)))
        all_goals first | omega | exact hsm | exact h | skip
      | true =>
        obtain ⟨n, hn, _⟩ := join_parts (may_parts hj).2.2.2.2
        have hrd := read_write hj hn
        have hfs := file_size (may_parts hj).2.2.2.2 hn
        by_cases hd : d.size ≤ 20000
        case neg =>
          (repeat' (first | refine And.intro ?_ ?_ | (intro h'; first | (exfalso; revert h'; decide) | (simp only [decide_eq_true_eq, decide_eq_false_iff_not, Bool.not_eq_true', Bool.not_eq_false', bne_iff_ne, beq_iff_eq, ne_eq, bne_eq_false_iff_eq, beq_eq_false_iff_ne, Int.reduceToNat, Int.toNat_natCast, Int.reduceAdd, Int.reduceSub, ByteArray.size_extract, not_true_eq_false, not_false_eq_true, hs, hj, Bool.false_eq_true, Bool.true_eq_false] at h'; first | (guard_hyp h' : True; clear h') | (exfalso; omega) | skip) | skip)))
          all_goals first | omega | exact hsm | exact h | skip
        have hws := write_size hj hn hs hd
        (repeat' (first | refine And.intro ?_ ?_ | (intro h'; first | (exfalso; revert h'; decide) | (simp only [decide_eq_true_eq, decide_eq_false_iff_not, Bool.not_eq_true', Bool.not_eq_false', bne_iff_ne, beq_iff_eq, ne_eq, bne_eq_false_iff_eq, beq_eq_false_iff_ne, Int.reduceToNat, Int.toNat_natCast, Int.reduceAdd, Int.reduceSub, ByteArray.size_extract, not_true_eq_false, not_false_eq_true, hs, hj, hn, hrd, Option.getD_some, Bool.false_eq_true, Bool.true_eq_false] at h'; first | (guard_hyp h' : True; clear h') | (exfalso; omega) | skip) | skip)))
        all_goals first | omega | exact hsm | exact h | skip
        · rw [hn, Option.getD_some]; omega
        · exfalso
          have e := moreA_isNone xs (by assumption)
          subst e
          rw [sameS_rfl] at h'; cases h'
        · exfalso
          rw [moreA_getD, sameS_rfl] at h'; cases h'
  · exact h.elim
noncomputable def eBack : Ent Try.prog := Ent.of tt_ok mixed back_l (by kernel_rfl)

def joinedL : LSpec := fun n0 args p => match n0, args, p with
  | 0, [.v (.string form), .ro (.pair .str (.pair .str .unit)) xs, .v (.int .i64 cut)], [] => .need (form.size ≤ 140737488351232 ∧ smallT xs ∧ (-9223372036854775808 ≤ cut ∧ cut ≤ 9223372036854775807)) (.ok (.v (.bool true), []))
  | _, _, _ => .bad
set_option maxHeartbeats 2000000 in
theorem joined_l : LocalOK Try.prog (mkC tt [eLive, eSmall, eJoin, eSplit, eSameCh]) 12 joinedL := by
  refine ⟨Try.f12, _, Try.func12, rfl, fun n0 args p K Z h => ?_⟩
  unfold joinedL at h; split at h
  · rename_i form xs cut
    refine ⟨rfl, ?_⟩
    obtain ⟨⟨hf, hsm, hcut⟩, h⟩ := h
    change K _ at h
    cases hs : smallS xs with
    | false =>
      (repeat' (first | refine And.intro ?_ ?_ | (intro h'; first | (exfalso; revert h'; decide) | (simp only [decide_eq_true_eq, decide_eq_false_iff_not, Bool.not_eq_true', Bool.not_eq_false', bne_iff_ne, beq_iff_eq, ne_eq, bne_eq_false_iff_eq, beq_eq_false_iff_ne, Int.reduceToNat, Int.toNat_natCast, Int.reduceAdd, Int.reduceSub, ByteArray.size_extract, not_true_eq_false, not_false_eq_true, hs, Bool.false_eq_true, Bool.true_eq_false] at h'; first | (guard_hyp h' : True; clear h') | (exfalso; omega) | skip) | skip)))
      all_goals first | omega | exact h | skip
    | true =>
      obtain ⟨hl, hlt⟩ := small_len hs
      cases hj : joinOK form xs with
      | false =>
        (repeat' (first | refine And.intro ?_ ?_ | (intro h'; first | (exfalso; revert h'; decide) | (simp only [decide_eq_true_eq, decide_eq_false_iff_not, Bool.not_eq_true', Bool.not_eq_false', bne_iff_ne, beq_iff_eq, ne_eq, bne_eq_false_iff_eq, beq_eq_false_iff_ne, Int.reduceToNat, Int.toNat_natCast, Int.reduceAdd, Int.reduceSub, ByteArray.size_extract, not_true_eq_false, not_false_eq_true, hs, hj, Bool.false_eq_true, Bool.true_eq_false] at h'; first | (guard_hyp h' : True; clear h') | (exfalso; omega) | skip) | skip)))
        all_goals first | omega | exact hf | exact hsm | (change (xs : List tCh.Val).length ≤ 1000000000; omega) | exact h | skip
      | true =>
        obtain ⟨n, hn, ht, hty, hnn, hn2⟩ := join_parts hj
        have hsp := split_file hj hn
        have hfs := file_size hj hn
        have hr := sameF_rfl
        have hch := chu_tuC xs
        have hn8 : n ≤ 100000000 := by
          have : xs.length * 5009 ≤ 40 * 5009 := Nat.mul_le_mul_right _ hl
          omega
        obtain ⟨q, hq0, hq1, hq2⟩ : ∃ q : Nat, (cut < 0 → IntKind.i64.wrap (0 - IntKind.i64.wrap (cut + 1)) = q) ∧ (¬ cut < 0 → cut = q) ∧ (q : Int) ≤ 9223372036854775807 := by
          by_cases hc : cut < 0
          · refine ⟨(-cut - 1).toNat, fun _ => ?_, fun h => absurd hc h, by omega⟩
            rw [IntWalk.i64_in (cut + 1) (by omega), IntWalk.i64_in _ (by omega)]; omega
          · exact ⟨cut.toNat, fun h => absurd h hc, fun _ => by omega, by omega⟩
        obtain ⟨k, hk, hkn⟩ : ∃ k : Nat, (q : Int).tmod (n : Int) = k ∧ k < n := ⟨q % n, by rw [Int.tmod_eq_emod_of_nonneg (by omega)]; omega, Nat.mod_lt _ (by omega)⟩
        have hct := split_cut hj hn hkn
        by_cases hc : cut < 0
        · have e1 := hq0 hc
          (repeat' (first | refine And.intro ?_ ?_ | (intro h'; first | (exfalso; revert h'; decide) | (simp only [decide_eq_true_eq, decide_eq_false_iff_not, Bool.not_eq_true', Bool.not_eq_false', bne_iff_ne, beq_iff_eq, ne_eq, bne_eq_false_iff_eq, beq_eq_false_iff_ne, Int.reduceToNat, Int.toNat_natCast, Int.reduceAdd, Int.reduceSub, ByteArray.size_extract, not_true_eq_false, not_false_eq_true, hs, hj, hn, hsp, hfs, hch, hr, hc, e1, hk, hct, Option.getD_some, Bool.false_eq_true, Bool.true_eq_false] at h'; first | (guard_hyp h' : True; clear h') | (exfalso; omega) | skip) | skip)))
          all_goals first | omega | exact hf | exact hsm | (change (xs : List tCh.Val).length ≤ 1000000000; omega) | exact h | skip
          all_goals simp only [hn, Option.getD_some, hfs, e1, hk, Int.toNat_natCast, Int.reduceToNat, ByteArray.size_extract]; omega
        · have e1 := hq1 hc
          subst e1
          (repeat' (first | refine And.intro ?_ ?_ | (intro h'; first | (exfalso; revert h'; decide) | (simp only [decide_eq_true_eq, decide_eq_false_iff_not, Bool.not_eq_true', Bool.not_eq_false', bne_iff_ne, beq_iff_eq, ne_eq, bne_eq_false_iff_eq, beq_eq_false_iff_ne, Int.reduceToNat, Int.toNat_natCast, Int.reduceAdd, Int.reduceSub, ByteArray.size_extract, not_true_eq_false, not_false_eq_true, hs, hj, hn, hsp, hfs, hch, hr, hc, hk, hct, Option.getD_some, Bool.false_eq_true, Bool.true_eq_false] at h'; first | (guard_hyp h' : True; clear h') | (exfalso; omega) | skip) | skip)))
          all_goals first | omega | exact hf | exact hsm | (change (xs : List tCh.Val).length ≤ 1000000000; omega) | exact h | skip
          all_goals simp only [hn, Option.getD_some, hfs, hk, Int.toNat_natCast, Int.reduceToNat, ByteArray.size_extract]; omega
  · exact h.elim
noncomputable def eJoined : Ent Try.prog := Ent.of tt_ok mixed joined_l (by kernel_rfl)

def orderL : LSpec := fun n0 args p => match n0, args, p with
  | 0, [.agg [.v (.int .i64 a), .v (.int .i64 b), .v (.int .i64 c), .v (.string d), .ro (.pair .str (.pair .str .unit)) xs], .v (.int .i64 ahead)], [] => .need (smallT xs ∧ (-9223372036854775808 ≤ ahead ∧ ahead ≤ 9223372036854775807)) (.ok (.v (.bool true), []))
  | _, _, _ => .bad
theorem cast_self {t : Ty} (h : t = t) (xs : List t.Val) : (h ▸ xs : List t.Val) = xs := rfl
theorem turn_eq {a b c : Int} {d : ByteArray} {xs : List tCh.Val} {k : Nat} : (List.drop 0 (List.take k xs) ++ [(((allF a b c d xs).getD 0 (Ty.dflt tCh)).1, ((allF a b c d xs).getD 0 (Ty.dflt tCh)).2.1, ())] ++ List.drop k (List.take xs.length xs) ++ [(((allF a b c d xs).getD 1 (Ty.dflt tCh)).1, ((allF a b c d xs).getD 1 (Ty.dflt tCh)).2.1, ())] : List tCh.Val) = turnF a b c d xs k := by
  rw [List.drop_zero, List.take_length, List.append_assoc, List.append_assoc]; rfl
theorem split_empty : (splitS ⟨#[]⟩).2.2 = 2 := by decide +kernel
set_option maxHeartbeats 4000000 in
theorem order_l : LocalOK Try.prog (mkC tt [eLive, eSmall, eWriteL, eSplit, eJoin, eRead, eSame]) 13 orderL := by
  refine ⟨Try.f13, _, Try.func13, rfl, fun n0 args p K Z h => ?_⟩
  unfold orderL at h; split at h
  · rename_i a b c d xs ahead
    refine ⟨rfl, ?_⟩
    obtain ⟨⟨hsm, hah⟩, h⟩ := h
    change K _ at h
    have hse := split_empty
    cases hs : smallS xs with
    | false =>
      (repeat' (first | refine And.intro ?_ ?_ | (intro h'; first | (exfalso; revert h'; decide) | (simp only [decide_eq_true_eq, decide_eq_false_iff_not, Bool.not_eq_true', Bool.not_eq_false', bne_iff_ne, beq_iff_eq, ne_eq, bne_eq_false_iff_eq, beq_eq_false_iff_ne, Int.reduceToNat, Int.toNat_natCast, Int.reduceAdd, Int.reduceSub, ByteArray.size_extract, not_true_eq_false, not_false_eq_true, hs, Bool.false_eq_true, Bool.true_eq_false] at h'; first | (guard_hyp h' : True; clear h') | (exfalso; omega) | skip) | skip)))
      all_goals first | omega | exact h | skip
    | true =>
      obtain ⟨hl, hlt⟩ := small_len hs
      by_cases hd : d.size ≤ 20000
      case neg =>
        (repeat' (first | refine And.intro ?_ ?_ | (intro h'; first | (exfalso; revert h'; decide) | (simp only [decide_eq_true_eq, decide_eq_false_iff_not, Bool.not_eq_true', Bool.not_eq_false', bne_iff_ne, beq_iff_eq, ne_eq, bne_eq_false_iff_eq, beq_eq_false_iff_ne, Int.reduceToNat, Int.toNat_natCast, Int.reduceAdd, Int.reduceSub, ByteArray.size_extract, not_true_eq_false, not_false_eq_true, hs, Bool.false_eq_true, Bool.true_eq_false] at h'; first | (guard_hyp h' : True; clear h') | (exfalso; omega) | skip) | skip)))
        all_goals first | omega | exact hsm | exact h | skip
      cases hj : mayB a b c d xs with
      | false =>
        (repeat' (first | refine And.intro ?_ ?_ | (intro h'; first | (exfalso; revert h'; decide) | (simp only [decide_eq_true_eq, decide_eq_false_iff_not, Bool.not_eq_true', Bool.not_eq_false', bne_iff_ne, beq_iff_eq, ne_eq, bne_eq_false_iff_eq, beq_eq_false_iff_ne, Int.reduceToNat, Int.toNat_natCast, Int.reduceAdd, Int.reduceSub, ByteArray.size_extract, not_true_eq_false, not_false_eq_true, hs, hj, hse, Bool.false_eq_true, Bool.true_eq_false] at h'; first | (guard_hyp h' : True; clear h') | (exfalso; omega) | skip) | skip)))
        all_goals first | omega | exact hsm | exact h | (decide; done) | skip
      | true =>
        obtain ⟨n, hn, hn'⟩ := join_parts (may_parts hj).2.2.2.2
        have hws := write_size hj hn hs hd
        have hsp := split_file (may_parts hj).2.2.2.2 hn
        have hfs := file_size (may_parts hj).2.2.2.2 hn
        have hch := chu_tuC (allF a b c d xs)
        have hal : (allF a b c d xs).length = xs.length + 2 := rfl
        obtain ⟨q, hq0, hq1, hq2⟩ : ∃ q : Nat, (ahead < 0 → IntKind.i64.wrap (0 - IntKind.i64.wrap (ahead + 1)) = q) ∧ (¬ ahead < 0 → ahead = q) ∧ (q : Int) ≤ 9223372036854775807 := by
          by_cases hc : ahead < 0
          · refine ⟨(-ahead - 1).toNat, fun _ => ?_, fun h => absurd hc h, by omega⟩
            rw [IntWalk.i64_in (ahead + 1) (by omega), IntWalk.i64_in _ (by omega)]; omega
          · exact ⟨ahead.toNat, fun h => absurd h hc, fun _ => by omega, by omega⟩
        have hx1 : IntKind.i64.wrap ((xs.length : Int) + 1) = ((xs.length + 1 : Nat) : Int) := by rw [IntWalk.i64_in _ (by omega)]; omega
        have hx2 : IntKind.i64.wrap (2 + (xs.length : Int)) = ((xs.length + 2 : Nat) : Int) := by rw [IntWalk.i64_in _ (by omega)]; omega
        obtain ⟨k, hk, hkn⟩ : ∃ k : Nat, (q : Int).tmod ((xs.length + 1 : Nat) : Int) = k ∧ k ≤ xs.length := ⟨q % (xs.length + 1), by rw [Int.tmod_eq_emod_of_nonneg (by omega)]; omega, by have := Nat.mod_lt q (show 0 < xs.length + 1 by omega); omega⟩
        have hte := turn_eq (a := a) (b := b) (c := c) (d := d) (xs := xs) (k := k)
        obtain ⟨htj, htl⟩ := turn_join (k := k) hj
        have htj' : joinOK ⟨#[87, 65, 86, 69]⟩ (turnF a b c d xs k) = true := htj
        have htn := htl.trans hn
        obtain ⟨mo, hrd, hmo⟩ := read_turn hj htn
        have hrd' : readS (fileF ⟨#[87, 65, 86, 69]⟩ n (turnF a b c d xs k)) = (0, (a, b, c), d, mo) := hrd
        have hts : (fileF ⟨#[87, 65, 86, 69]⟩ n (turnF a b c d xs k)).size = n := file_size htj htn
        have hsr := sameS_rfl a b c d xs
        have htln : (turnF a b c d xs k).length = xs.length + 2 := by
          unfold turnF
          simp only [List.length_append, List.length_take, List.length_cons, List.length_drop, List.length_nil]; omega
        have hsmt : smallT (turnF a b c d xs k) := by
          have happ : ∀ l r : List tCh.Val, smallT l → smallT r → smallT (l ++ r) := fun l r h1 h2 => by
            induction l with
            | nil => exact h2
            | cons c l ih => exact ⟨h1.1, ih h1.2⟩
          have htk : ∀ (l : List tCh.Val) (j : Nat), smallT l → smallT (l.take j) ∧ smallT (l.drop j) := fun l => by
            induction l with
            | nil => intro j h; simp [smallT]
            | cons c l ih =>
              intro j h
              cases j with
              | zero => exact ⟨trivial, h⟩
              | succ j => exact ⟨⟨h.1, (ih j h.2).1⟩, (ih j h.2).2⟩
          unfold turnF
          exact happ _ _ (htk xs k hsm).1 ⟨(by decide : ByteArray.size fmtT ≤ 140737488351232), happ _ _ (htk xs k hsm).2 ⟨(by decide : ByteArray.size datT ≤ 140737488351232), trivial⟩⟩
        have hmn : mo.isNone = true → xs = [] := fun e => by
          cases mo with
          | none => exact hmo.symm
          | some _ => cases e
        by_cases hc : ahead < 0
        · have e1 := hq0 hc
          (repeat' (first | refine And.intro ?_ ?_ | (intro h'; first | (exfalso; revert h'; decide) | (simp only [decide_eq_true_eq, decide_eq_false_iff_not, Bool.not_eq_true', Bool.not_eq_false', bne_iff_ne, beq_iff_eq, ne_eq, bne_eq_false_iff_eq, beq_eq_false_iff_ne, Int.reduceToNat, Int.toNat_natCast, Int.reduceAdd, Int.reduceSub, ByteArray.size_extract, not_true_eq_false, not_false_eq_true, hs, hj, hn, hsp, hfs, hch, hal, hx1, hx2, hc, e1, hk, hte, htj', htn, hrd', hmo, hsr, Option.getD_some, Bool.false_eq_true, Bool.true_eq_false] at h'; first | (guard_hyp h' : True; clear h') | (exfalso; omega) | skip) | skip)))
          all_goals first | omega | exact hsm | exact h | (decide; done) | skip
          all_goals simp only [cast_self, hn, hsp, hfs, hch, hal, hx1, hx2, e1, hk, hte, htln, hts, htn, Option.getD_some, Int.toNat_natCast, Int.reduceToNat, List.length_append, List.length_drop, List.length_take, List.length_cons, List.length_nil, show ti68.bytes = 32 from rfl]
          all_goals first | omega | exact hsmt | skip
          all_goals
            exfalso
            rw [show xs = [] from hmn (by assumption), sameS_rfl] at h'
            cases h'
        · have e1 := hq1 hc
          subst e1
          (repeat' (first | refine And.intro ?_ ?_ | (intro h'; first | (exfalso; revert h'; decide) | (simp only [decide_eq_true_eq, decide_eq_false_iff_not, Bool.not_eq_true', Bool.not_eq_false', bne_iff_ne, beq_iff_eq, ne_eq, bne_eq_false_iff_eq, beq_eq_false_iff_ne, Int.reduceToNat, Int.toNat_natCast, Int.reduceAdd, Int.reduceSub, ByteArray.size_extract, not_true_eq_false, not_false_eq_true, hs, hj, hn, hsp, hfs, hch, hal, hx1, hx2, hc, hk, hte, htj', htn, hrd', hmo, hsr, Option.getD_some, Bool.false_eq_true, Bool.true_eq_false] at h'; first | (guard_hyp h' : True; clear h') | (exfalso; omega) | skip) | skip)))
          all_goals first | omega | exact hsm | exact h | (decide; done) | skip
          all_goals simp only [cast_self, hn, hsp, hfs, hch, hal, hx1, hx2, hk, hte, htln, hts, htn, Option.getD_some, Int.toNat_natCast, Int.reduceToNat, List.length_append, List.length_drop, List.length_take, List.length_cons, List.length_nil, show ti68.bytes = 32 from rfl]
          all_goals first | omega | exact hsmt | skip
          all_goals
            exfalso
            rw [show xs = [] from hmn (by assumption), sameS_rfl] at h'
            cases h'
  · exact h.elim
noncomputable def eOrder : Ent Try.prog := Ent.of tt_ok mixed order_l (by kernel_rfl)

/-- From a law as a spec to its contract. -/
theorem law_of {f : FuncId} {S : LSpec} (e : SpecOK Try.prog f (specOf S)) {w : World} {args : List AV} {cargs : List Value} (hv : VRels (gS w) w args cargs) (h : (specOf S args noHp 0).wp (fun r => r.1 = .v (.bool true)) (fun _ _ => False)) :
    Calls Try.prog f cargs.toArray w fun e w' => e = .returned (.bool true) ∧ Below w.heap.size w w' := law_by e hv h

theorem rep_small {w : World} : ∀ {xs : List tCh.Val} {n : Nat} {a : Option Addr} {cap : Nat}, Rep w (.slice n tCh) xs [.slice a xs.length cap] → smallT xs := fun {xs n a cap} h => by
  obtain ⟨_, _, _, _, _, _, h5⟩ := h
  have : ∀ l : List tCh.Val, (∀ c ∈ l, ByteArray.size c.1 ≤ 140737488351232) → smallT l := fun l => by
    induction l with
    | nil => intro _; trivial
    | cons c l ih => intro hl; exact ⟨hl c (by simp), ih (fun c hc => hl c (by simp [hc]))⟩
  refine this xs (fun c hc => ?_)
  obtain ⟨i, hi, rfl⟩ := List.mem_iff_getElem.1 hc
  obtain ⟨b, o, _, l, _, _, _, h10⟩ := h5 i hi
  obtain ⟨l1, l2, _, _, h11, _⟩ := h10
  exact h11.2
theorem rep_small' {w : World} {xs : List tCh.Val} {n : Nat} {cs : List Value} (h : Rep w (.slice n tCh) xs cs) : smallT xs := by
  have h' := h
  obtain ⟨a, cap, rfl, _⟩ := h'
  exact rep_small h
theorem sound_small {w : World} {n : Nat} {a b c : Int} {d : ByteArray} {xs : List tCh.Val} {u : Unit} {cs : List Value} (h : Rep w (.pair (.int .i64) (.pair (.int .i64) (.pair (.int .i64) (.pair .str (.pair (.slice n tCh) .unit))))) (a, b, c, d, xs, u) cs) : smallT xs := by
  obtain ⟨_, _, _, _, _, h⟩ := h
  obtain ⟨_, _, _, _, _, h⟩ := h
  obtain ⟨_, _, _, _, _, h⟩ := h
  obtain ⟨_, _, _, _, _, h⟩ := h
  obtain ⟨_, _, _, _, h, _⟩ := h
  exact rep_small' h
end Go.Proofs.Ytmkbigaofhionaa
