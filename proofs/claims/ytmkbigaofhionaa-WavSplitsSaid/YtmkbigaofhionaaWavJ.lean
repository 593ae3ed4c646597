/- The file of some chunks: ref19.Join, by the abstract machine. -/
import Derived.Test.YtmkbigaofhionaaWavH
import Derived.Test.YtmkbigaofhionaaAbsG
namespace Go.Proofs.Ytmkbigaofhionaa
open Go.RowKit
set_option linter.unusedVariables false
set_option linter.unusedSimpArgs false

def riffT : ByteArray := ⟨#[82, 73, 70, 70]⟩
def pieceF (c : tCh.Val) : ByteArray := ((c.1 : ByteArray) ++ bytesT (ByteArray.size c.2.1) 4 false) ++ (c.2.1 : ByteArray)
def bodyF (s : ByteArray) : List tCh.Val → ByteArray
  | [] => s
  | c :: l => bodyF (if ByteArray.size c.2.1 % 2 = 1 then (s ++ pieceF c) ++ ⟨#[0]⟩ else s ++ pieceF c) l
def fileF (form : ByteArray) (n : Nat) (xs : List tCh.Val) : ByteArray := bodyF ((riffT ++ bytesT (n - 8) 4 false) ++ form) xs
def joinOK (form : ByteArray) (xs : List tCh.Val) : Bool := (longF 12 xs).isSome && (typeB form && typesF xs)
def joinR (form : ByteArray) (xs : List tCh.Val) (p : Pat) : R (AV × Pat) := .need (form.size ≤ 140737488351232 ∧ smallT xs ∧ xs.length ≤ 1000000000) (.br (joinOK form xs)
  (.ok (.tup [.v (.string (fileF form ((longF 12 xs).getD 0) xs)), .v (.int .i64 0)], p)) (.ok (.tup [.v (.string ⟨#[]⟩), .v (.int .i64 1)], p)))
def joinL : LSpec := fun n0 args p => match n0, args, p with
  | 0, [.v (.string form), .ro (.pair .str (.pair .str .unit)) xs], [] => joinR form xs []
  | 1, [.v (.string form), .own 0], [(0, some (.row T (.pair .str (.pair .str .unit)) xs))] => joinR form xs [(0, some (.row T (.pair .str (.pair .str .unit)) xs))]
  | 0, [.v (.string form), .v (.slice none 0 0)], [] => joinR form [] []
  | _, _, _ => .bad
theorem typeB_size {s : ByteArray} (h : typeB s = true) : s.size = 4 := by
  unfold typeB at h
  simp only [Bool.and_eq_true, decide_eq_true_eq] at h
  exact h.1
theorem longF_cons {m n : Nat} {c : tCh.Val} {l : List tCh.Val} (h : longF m (c :: l) = some n) : ByteArray.size c.2.1 ≤ 2147483647 ∧ m + (8 + ByteArray.size c.2.1 + ByteArray.size c.2.1 % 2) ≤ 2147483647 ∧ longF (m + (8 + ByteArray.size c.2.1 + ByteArray.size c.2.1 % 2)) l = some n := by
  rw [longF] at h
  split at h
  · cases h
  · split at h
    · cases h
    · exact ⟨by omega, by omega, h⟩
theorem longF_ge : ∀ {l : List tCh.Val} {m n : Nat}, longF m l = some n → m ≤ n
  | [], m, n, h => by simp only [longF, Option.some.injEq] at h; omega
  | c :: l, m, n, h => by
    obtain ⟨h1, h2, h3⟩ := longF_cons h
    have := longF_ge h3
    omega

theorem bytesT4 (n : Nat) (h : n < 4294967296) : (bytesT n 4 false).size = 4 := by
  have e : bytesE n 4 = 0 := by
    unfold bytesE
    rw [if_pos (by decide), if_neg]
    intro h1
    have := (bitLen_pow n 4 (by omega)).1 (by exact_mod_cast h1)
    rw [Nat.div_eq_of_lt (by omega)] at this
    omega
  unfold bytesT
  rw [if_pos e, size_bytesS]; rfl
theorem longF_le : ∀ {l : List tCh.Val} {m n : Nat}, longF m l = some n → m ≤ 2147483647 → n ≤ 2147483647
  | [], m, n, h, hm => by simp only [longF, Option.some.injEq] at h; omega
  | c :: l, m, n, h, hm => by
    obtain ⟨h1, h2, h3⟩ := longF_cons h
    exact longF_le h3 h2

set_option maxHeartbeats 2000000 in
theorem rjoin_l : LocalOK Try.prog (mkC tt [eSize, eRType, eRBytes]) 38 joinL := by
  refine ⟨Try.f38, _, Try.func38, rfl, fun n0 args p K Z h => ?_⟩
  unfold joinL at h; split at h
  · rename_i form xs
    refine ⟨rfl, ?_⟩
    obtain ⟨⟨hf, hsm, hlen⟩, h⟩ := h
    have hB : joinOK form xs = false → K (.tup [.v (.string ⟨#[]⟩), .v (.int .i64 1)], []) := fun e => h.2 e
    have hG : ∀ n r, longF 12 xs = some n → typeB form = true → typesF xs = true → r = fileF form n xs → K (.tup [.v (.string r), .v (.int .i64 0)], []) := fun n r e1 e2 e3 e4 => by
      have := h.1 (by unfold joinOK; rw [e1, e2, e3]; rfl)
      change K _ at this
      rw [e1] at this
      rw [e4]; exact this
    clear h
    cases hn : longF 12 xs with
    | none =>
      have hb : joinOK form xs = false := by unfold joinOK; rw [hn]; rfl
      (repeat' (first | refine And.intro ?_ ?_ | (intro h'; first | (exfalso; revert h'; decide) | (simp only [decide_eq_true_eq, decide_eq_false_iff_not, Bool.not_eq_true', Bool.not_eq_false', bne_iff_ne, beq_iff_eq, ne_eq, bne_eq_false_iff_eq, beq_eq_false_iff_ne, Int.reduceToNat, Int.toNat_natCast, Int.reduceAdd, Int.reduceSub, ByteArray.size_extract, hn, Option.isSome_none, Option.getD_none, Bool.false_eq_true] at h'; first | (guard_hyp h' : True; clear h') | (exfalso; omega) | skip) | skip)))
      all_goals first | omega | exact hf | exact hB hb
    | some n =>
      have hge := longF_ge hn
      have hnm : n ≤ 2147483647 := longF_le hn (by decide)
      by_cases ht : typeB form = true
      case neg =>
        have hb : joinOK form xs = false := by unfold joinOK; simp [ht]
        (repeat' (first | refine And.intro ?_ ?_ | (intro h'; first | (exfalso; revert h'; decide) | (simp only [decide_eq_true_eq, decide_eq_false_iff_not, Bool.not_eq_true', Bool.not_eq_false', bne_iff_ne, beq_iff_eq, ne_eq, bne_eq_false_iff_eq, beq_eq_false_iff_ne, Int.reduceToNat, Int.toNat_natCast, Int.reduceAdd, Int.reduceSub, ByteArray.size_extract, hn, Option.isSome_some, Option.getD_some, ht, Bool.true_eq_false] at h'; first | (guard_hyp h' : True; clear h') | (exfalso; omega) | skip) | skip)))
        all_goals first | omega | exact hf | exact hB hb | (simp_all; done)
      have w1 : IntKind.i64.wrap ((n : Int) - 8) = ((n - 8 : Nat) : Int) := by rw [IntWalk.i64_in _ (by omega)]; omega
      have w2 : IntKind.u64.wrap ((n - 8 : Nat) : Int) = ((n - 8 : Nat) : Int) := by rw [IntKind.wrap_u64]; omega
      have hr4 : (⟨#[82, 73, 70, 70]⟩ : ByteArray).size = 4 := rfl
      have hf4 := typeB_size ht
      have hb4 := bytesT_size (n - 8) 4 false
      (repeat' (first | refine And.intro ?_ ?_ | (intro h'; first | (exfalso; revert h'; decide) | (simp only [decide_eq_true_eq, decide_eq_false_iff_not, Bool.not_eq_true', Bool.not_eq_false', bne_iff_ne, beq_iff_eq, ne_eq, bne_eq_false_iff_eq, beq_eq_false_iff_ne, Int.reduceToNat, Int.toNat_natCast, Int.reduceAdd, Int.reduceSub, ByteArray.size_extract, hn, Option.isSome_some, Option.getD_some, ht, Bool.true_eq_false] at h'; first | (guard_hyp h' : True; clear h') | (exfalso; omega) | skip) | skip)))
      all_goals first | omega | exact hf | (simp only [hn, Option.getD_some, w1, w2]; omega) | (simp only [hn, Option.getD_some, w1, w2, Int.toNat_natCast, ByteArray.size_append, hr4]; omega) | skip
      refine ⟨List Int × Int, [1, 9, 10], [], fun | (l, k) => ⟨[(1, .ro tCh xs), (9, .own 0), (10, .v (.int .i64 k))], [(0, some (.row 5 (.int .u8) l))], 0 + 1⟩,
        fun x => ∃ (k : Nat) (s : ByteArray), x.1 = bList s ∧ x.2 = k ∧ k ≤ (xs).length ∧ longF s.size ((xs).drop k) = some n ∧ typesF xs = typesF ((xs).drop k) ∧ fileF form n xs = bodyF s ((xs).drop k), fun x => (xs).length - x.2.toNat, ⟨(_, _), rfl, 0, (riffT ++ bytesT (n - 8) 4 false) ++ form, ?_, rfl, Nat.zero_le _, ?_, rfl, rfl⟩, fun x hx => ?_⟩
      · simp only [hn, Option.getD_some, w1, w2, Int.toNat_natCast]; rfl
      · have e : ((riffT ++ bytesT (n - 8) 4 false) ++ form).size = 12 := by
          rw [ByteArray.size_append, ByteArray.size_append, bytesT4 _ (by omega), hf4]; rfl
        rw [e, List.drop_zero]; exact hn
      obtain ⟨l, x2⟩ := x
      obtain ⟨k, s, e1, e2, hk, hl, hty, hfi⟩ := hx
      change l = _ at e1
      change x2 = _ at e2
      subst e1 e2
      have a4 : IntKind.i64.wrap ((k : Int) + 1) = ((k + 1 : Nat) : Int) := by rw [IntWalk.i64_in _ (by omega)]; omega
      by_cases hlt : k < (xs).length
      · have hs := smallT_get hsm k hlt
        rw [drop_get (Ty.dflt tCh) hlt] at hl hty hfi
        obtain ⟨c, hc⟩ : ∃ c, (xs).getD k (Ty.dflt tCh) = c := ⟨_, rfl⟩
        rw [hc] at hl hty hfi hs
        obtain ⟨h1, h2, h3⟩ := longF_cons hl
        by_cases hct : typeB c.1 = true
        case neg =>
          have hb : joinOK form xs = false := by
            unfold joinOK; rw [hty, typesF]; simp [hct]
          (repeat' (first | refine And.intro ?_ ?_ | (intro h'; first | (exfalso; revert h'; decide) | (simp only [decide_eq_true_eq, decide_eq_false_iff_not, Bool.not_eq_true', Bool.not_eq_false', bne_iff_ne, beq_iff_eq, ne_eq, bne_eq_false_iff_eq, beq_eq_false_iff_ne, Int.reduceToNat, Int.toNat_natCast, Int.reduceAdd, Int.reduceSub, ByteArray.size_extract, hc, hct, Bool.true_eq_false] at h'; first | (guard_hyp h' : True; clear h') | (exfalso; omega) | skip) | skip)))
          all_goals first | omega | (rw [Int.toNat_natCast, hc]; exact hs) | exact hB hb | (simp_all; done) | skip
        obtain ⟨m, hm⟩ : ∃ m, ByteArray.size c.2.1 = m := ⟨_, rfl⟩
        rw [hm] at h1 h2 h3
        have hc4 := typeB_size hct
        have hb5 := bytesT4 m (by omega)
        have v1 : IntKind.u64.wrap (m : Int) = (m : Int) := by rw [IntKind.wrap_u64]; omega
        have v2 : (m : Int).tmod 2 = ((m % 2 : Nat) : Int) := by rw [Int.tmod_eq_emod_of_nonneg (by omega)]; omega
        have hpc : pieceF c = ((c.1 : ByteArray) ++ bytesT m 4 false) ++ (c.2.1 : ByteArray) := by unfold pieceF; rw [hm]
        have hps : (pieceF c).size = 8 + m := by rw [hpc, ByteArray.size_append, ByteArray.size_append, hb5]; omega
        (repeat' (first | refine And.intro ?_ ?_ | (intro h'; first | (exfalso; revert h'; decide) | (simp only [decide_eq_true_eq, decide_eq_false_iff_not, Bool.not_eq_true', Bool.not_eq_false', bne_iff_ne, beq_iff_eq, ne_eq, bne_eq_false_iff_eq, beq_eq_false_iff_ne, Int.reduceToNat, Int.toNat_natCast, Int.reduceAdd, Int.reduceSub, ByteArray.size_extract, hc, hct, hm, v1, v2, Bool.true_eq_false] at h'; first | (guard_hyp h' : True; clear h') | (exfalso; omega) | skip) | skip)))
        all_goals first | omega | (rw [Int.toNat_natCast, hc]; exact hs) | kernel_rfl | (simp only [Int.toNat_natCast, hc, hm, v1, ByteArray.size_append, bList_length]; omega) | skip
        · change (List.length (bList s ++ bList _) + 1) * 1 ≤ 140737488355328
          rw [List.length_append, bList_length, bList_length]
          simp only [Int.toNat_natCast, hc, hm, v1, ByteArray.size_append]; omega
        · refine ⟨(_, _), rfl, ⟨k + 1, (s ++ pieceF c) ++ ⟨#[0]⟩, ?_, a4, by omega, ?_, ?_, ?_⟩, ?_⟩
          · change List.append (List.append (bList s) (bList _)) [0] = _
            simp only [Int.toNat_natCast, hc, hm, v1]
            rw [hpc]
            simp only [bList_append, bList_zero]; rfl
          · rw [ByteArray.size_append, ByteArray.size_append, hps, show s.size + (8 + m) + ByteArray.size ⟨#[0]⟩ = s.size + (8 + m + m % 2) by change s.size + (8 + m) + 1 = _; omega]; exact h3
          · rw [hty, typesF, hct, Bool.true_and]
          · rw [hfi, bodyF, hm, if_pos (by omega)]
          · simp only [a4, Int.toNat_natCast]; omega
        · refine ⟨(_, _), rfl, ⟨k + 1, s ++ pieceF c, ?_, a4, by omega, ?_, ?_, ?_⟩, ?_⟩
          · change List.append (bList s) (bList _) = _
            simp only [Int.toNat_natCast, hc, hm, v1]
            rw [hpc]
            simp only [bList_append]; rfl
          · rw [ByteArray.size_append, hps, show s.size + (8 + m) = s.size + (8 + m + m % 2) by omega]; exact h3
          · rw [hty, typesF, hct, Bool.true_and]
          · rw [hfi, bodyF, hm, if_neg (by omega)]
          · simp only [a4, Int.toNat_natCast]; omega
      · (repeat' (first | refine And.intro ?_ ?_ | (intro h'; first | (exfalso; revert h'; decide) | (simp only [decide_eq_true_eq, decide_eq_false_iff_not, Bool.not_eq_true', Bool.not_eq_false', bne_iff_ne, beq_iff_eq, ne_eq, bne_eq_false_iff_eq, beq_eq_false_iff_ne, Int.reduceToNat, Int.toNat_natCast, Int.reduceAdd, Int.reduceSub, ByteArray.size_extract] at h'; first | (guard_hyp h' : True; clear h') | (exfalso; omega) | skip) | skip)))
        · exact (bytesIn_bList s _ (by assumption)).1
        · exact (bytesIn_bList s _ (by assumption)).2
        · refine hG n _ hn ht ?_ ?_
          · rw [hty, List.drop_eq_nil_of_le (by omega)]; rfl
          · rw [hfi, List.drop_eq_nil_of_le (by omega), sOf_bList]; rfl
  · rename_i form T xs
    refine ⟨rfl, ?_⟩
    obtain ⟨⟨hf, hsm, hlen⟩, h⟩ := h
    have hB : joinOK form xs = false → K (.tup [.v (.string ⟨#[]⟩), .v (.int .i64 1)], [(0, some (.row T tCh xs))]) := fun e => h.2 e
    have hG : ∀ n r, longF 12 xs = some n → typeB form = true → typesF xs = true → r = fileF form n xs → K (.tup [.v (.string r), .v (.int .i64 0)], [(0, some (.row T tCh xs))]) := fun n r e1 e2 e3 e4 => by
      have := h.1 (by unfold joinOK; rw [e1, e2, e3]; rfl)
      change K _ at this
      rw [e1] at this
      rw [e4]; exact this
    clear h
    cases hn : longF 12 xs with
    | none =>
      have hb : joinOK form xs = false := by unfold joinOK; rw [hn]; rfl
      (repeat' (first | refine And.intro ?_ ?_ | (intro h'; first | (exfalso; revert h'; decide) | (simp only [decide_eq_true_eq, decide_eq_false_iff_not, Bool.not_eq_true', Bool.not_eq_false', bne_iff_ne, beq_iff_eq, ne_eq, bne_eq_false_iff_eq, beq_eq_false_iff_ne, Int.reduceToNat, Int.toNat_natCast, Int.reduceAdd, Int.reduceSub, ByteArray.size_extract, hn, Option.isSome_none, Option.getD_none, Bool.false_eq_true] at h'; first | (guard_hyp h' : True; clear h') | (exfalso; omega) | skip) | skip)))
      all_goals first | omega | exact hf | exact hB hb
    | some n =>
      have hge := longF_ge hn
      have hnm : n ≤ 2147483647 := longF_le hn (by decide)
      by_cases ht : typeB form = true
      case neg =>
        have hb : joinOK form xs = false := by unfold joinOK; simp [ht]
        (repeat' (first | refine And.intro ?_ ?_ | (intro h'; first | (exfalso; revert h'; decide) | (simp only [decide_eq_true_eq, decide_eq_false_iff_not, Bool.not_eq_true', Bool.not_eq_false', bne_iff_ne, beq_iff_eq, ne_eq, bne_eq_false_iff_eq, beq_eq_false_iff_ne, Int.reduceToNat, Int.toNat_natCast, Int.reduceAdd, Int.reduceSub, ByteArray.size_extract, hn, Option.isSome_some, Option.getD_some, ht, Bool.true_eq_false] at h'; first | (guard_hyp h' : True; clear h') | (exfalso; omega) | skip) | skip)))
        all_goals first | omega | exact hf | exact hB hb | (simp_all; done)
      have w1 : IntKind.i64.wrap ((n : Int) - 8) = ((n - 8 : Nat) : Int) := by rw [IntWalk.i64_in _ (by omega)]; omega
      have w2 : IntKind.u64.wrap ((n - 8 : Nat) : Int) = ((n - 8 : Nat) : Int) := by rw [IntKind.wrap_u64]; omega
      have hr4 : (⟨#[82, 73, 70, 70]⟩ : ByteArray).size = 4 := rfl
      have hf4 := typeB_size ht
      have hb4 := bytesT_size (n - 8) 4 false
      (repeat' (first | refine And.intro ?_ ?_ | (intro h'; first | (exfalso; revert h'; decide) | (simp only [decide_eq_true_eq, decide_eq_false_iff_not, Bool.not_eq_true', Bool.not_eq_false', bne_iff_ne, beq_iff_eq, ne_eq, bne_eq_false_iff_eq, beq_eq_false_iff_ne, Int.reduceToNat, Int.toNat_natCast, Int.reduceAdd, Int.reduceSub, ByteArray.size_extract, hn, Option.isSome_some, Option.getD_some, ht, Bool.true_eq_false] at h'; first | (guard_hyp h' : True; clear h') | (exfalso; omega) | skip) | skip)))
      all_goals first | omega | exact hf | (simp only [hn, Option.getD_some, w1, w2]; omega) | (simp only [hn, Option.getD_some, w1, w2, Int.toNat_natCast, ByteArray.size_append, hr4]; omega) | skip
      refine ⟨List Int × Int, [1, 9, 10], [], fun | (l, k) => ⟨[(1, .own 0), (9, .own 1), (10, .v (.int .i64 k))], [(0, some (.row T tCh xs)), (1, some (.row 5 (.int .u8) l))], 1 + 1⟩,
        fun x => ∃ (k : Nat) (s : ByteArray), x.1 = bList s ∧ x.2 = k ∧ k ≤ (xs).length ∧ longF s.size ((xs).drop k) = some n ∧ typesF xs = typesF ((xs).drop k) ∧ fileF form n xs = bodyF s ((xs).drop k), fun x => (xs).length - x.2.toNat, ⟨(_, _), rfl, 0, (riffT ++ bytesT (n - 8) 4 false) ++ form, ?_, rfl, Nat.zero_le _, ?_, rfl, rfl⟩, fun x hx => ?_⟩
      · simp only [hn, Option.getD_some, w1, w2, Int.toNat_natCast]; rfl
      · have e : ((riffT ++ bytesT (n - 8) 4 false) ++ form).size = 12 := by
          rw [ByteArray.size_append, ByteArray.size_append, bytesT4 _ (by omega), hf4]; rfl
        rw [e, List.drop_zero]; exact hn
      obtain ⟨l, x2⟩ := x
      obtain ⟨k, s, e1, e2, hk, hl, hty, hfi⟩ := hx
      change l = _ at e1
      change x2 = _ at e2
      subst e1 e2
      have a4 : IntKind.i64.wrap ((k : Int) + 1) = ((k + 1 : Nat) : Int) := by rw [IntWalk.i64_in _ (by omega)]; omega
      by_cases hlt : k < (xs).length
      · have hs := smallT_get hsm k hlt
        rw [drop_get (Ty.dflt tCh) hlt] at hl hty hfi
        obtain ⟨c, hc⟩ : ∃ c, (xs).getD k (Ty.dflt tCh) = c := ⟨_, rfl⟩
        rw [hc] at hl hty hfi hs
        obtain ⟨h1, h2, h3⟩ := longF_cons hl
        by_cases hct : typeB c.1 = true
        case neg =>
          have hb : joinOK form xs = false := by
            unfold joinOK; rw [hty, typesF]; simp [hct]
          (repeat' (first | refine And.intro ?_ ?_ | (intro h'; first | (exfalso; revert h'; decide) | (simp only [decide_eq_true_eq, decide_eq_false_iff_not, Bool.not_eq_true', Bool.not_eq_false', bne_iff_ne, beq_iff_eq, ne_eq, bne_eq_false_iff_eq, beq_eq_false_iff_ne, Int.reduceToNat, Int.toNat_natCast, Int.reduceAdd, Int.reduceSub, ByteArray.size_extract, hc, hct, Bool.true_eq_false] at h'; first | (guard_hyp h' : True; clear h') | (exfalso; omega) | skip) | skip)))
          all_goals first | omega | (rw [Int.toNat_natCast, hc]; exact hs) | exact hB hb | (simp_all; done) | skip
        obtain ⟨m, hm⟩ : ∃ m, ByteArray.size c.2.1 = m := ⟨_, rfl⟩
        rw [hm] at h1 h2 h3
        have hc4 := typeB_size hct
        have hb5 := bytesT4 m (by omega)
        have v1 : IntKind.u64.wrap (m : Int) = (m : Int) := by rw [IntKind.wrap_u64]; omega
        have v2 : (m : Int).tmod 2 = ((m % 2 : Nat) : Int) := by rw [Int.tmod_eq_emod_of_nonneg (by omega)]; omega
        have hpc : pieceF c = ((c.1 : ByteArray) ++ bytesT m 4 false) ++ (c.2.1 : ByteArray) := by unfold pieceF; rw [hm]
        have hps : (pieceF c).size = 8 + m := by rw [hpc, ByteArray.size_append, ByteArray.size_append, hb5]; omega
        (repeat' (first | refine And.intro ?_ ?_ | (intro h'; first | (exfalso; revert h'; decide) | (simp only [decide_eq_true_eq, decide_eq_false_iff_not, Bool.not_eq_true', Bool.not_eq_false', bne_iff_ne, beq_iff_eq, ne_eq, bne_eq_false_iff_eq, beq_eq_false_iff_ne, Int.reduceToNat, Int.toNat_natCast, Int.reduceAdd, Int.reduceSub, ByteArray.size_extract, hc, hct, hm, v1, v2, Bool.true_eq_false] at h'; first | (guard_hyp h' : True; clear h') | (exfalso; omega) | skip) | skip)))
        all_goals first | omega | (rw [Int.toNat_natCast, hc]; exact hs) | kernel_rfl | (simp only [Int.toNat_natCast, hc, hm, v1, ByteArray.size_append, bList_length]; omega) | skip
        · change (List.length (bList s ++ bList _) + 1) * 1 ≤ 140737488355328
          rw [List.length_append, bList_length, bList_length]
          simp only [Int.toNat_natCast, hc, hm, v1, ByteArray.size_append]; omega
        · refine ⟨(_, _), rfl, ⟨k + 1, (s ++ pieceF c) ++ ⟨#[0]⟩, ?_, a4, by omega, ?_, ?_, ?_⟩, ?_⟩
          · change List.append (List.append (bList s) (bList _)) [0] = _
            simp only [Int.toNat_natCast, hc, hm, v1]
            rw [hpc]
            simp only [bList_append, bList_zero]; rfl
          · rw [ByteArray.size_append, ByteArray.size_append, hps, show s.size + (8 + m) + ByteArray.size ⟨#[0]⟩ = s.size + (8 + m + m % 2) by change s.size + (8 + m) + 1 = _; omega]; exact h3
          · rw [hty, typesF, hct, Bool.true_and]
          · rw [hfi, bodyF, hm, if_pos (by omega)]
          · simp only [a4, Int.toNat_natCast]; omega
        · refine ⟨(_, _), rfl, ⟨k + 1, s ++ pieceF c, ?_, a4, by omega, ?_, ?_, ?_⟩, ?_⟩
          · change List.append (bList s) (bList _) = _
            simp only [Int.toNat_natCast, hc, hm, v1]
            rw [hpc]
            simp only [bList_append]; rfl
          · rw [ByteArray.size_append, hps, show s.size + (8 + m) = s.size + (8 + m + m % 2) by omega]; exact h3
          · rw [hty, typesF, hct, Bool.true_and]
          · rw [hfi, bodyF, hm, if_neg (by omega)]
          · simp only [a4, Int.toNat_natCast]; omega
      · (repeat' (first | refine And.intro ?_ ?_ | (intro h'; first | (exfalso; revert h'; decide) | (simp only [decide_eq_true_eq, decide_eq_false_iff_not, Bool.not_eq_true', Bool.not_eq_false', bne_iff_ne, beq_iff_eq, ne_eq, bne_eq_false_iff_eq, beq_eq_false_iff_ne, Int.reduceToNat, Int.toNat_natCast, Int.reduceAdd, Int.reduceSub, ByteArray.size_extract] at h'; first | (guard_hyp h' : True; clear h') | (exfalso; omega) | skip) | skip)))
        · exact (bytesIn_bList s _ (by assumption)).1
        · exact (bytesIn_bList s _ (by assumption)).2
        · refine hG n _ hn ht ?_ ?_
          · rw [hty, List.drop_eq_nil_of_le (by omega)]; rfl
          · rw [hfi, List.drop_eq_nil_of_le (by omega), sOf_bList]; rfl
  · rename_i form
    refine ⟨rfl, ?_⟩
    obtain ⟨⟨hf, _, _⟩, h⟩ := h
    have hn : longF 12 ([] : List tCh.Val) = some 12 := rfl
    by_cases ht : typeB form = true
    case neg =>
      have hb : joinOK form [] = false := by unfold joinOK; simp [ht]
      have hB : K (.tup [.v (.string ⟨#[]⟩), .v (.int .i64 1)], []) := h.2 hb
      clear h
      (repeat' (first | refine And.intro ?_ ?_ | (intro h'; first | (exfalso; revert h'; decide) | (simp only [decide_eq_true_eq, decide_eq_false_iff_not, Bool.not_eq_true', Bool.not_eq_false', bne_iff_ne, beq_iff_eq, ne_eq, bne_eq_false_iff_eq, beq_eq_false_iff_ne, Int.reduceToNat, Int.toNat_natCast, Int.reduceAdd, Int.reduceSub, ByteArray.size_extract, ht, Bool.true_eq_false] at h'; first | (guard_hyp h' : True; clear h') | (exfalso; omega) | skip) | skip)))
      all_goals first | omega | exact hf | exact hB | (simp_all; done) | skip
    have hb : joinOK form [] = true := by unfold joinOK; rw [hn, ht]; rfl
    have hG : K (.tup [.v (.string (fileF form 12 [])), .v (.int .i64 0)], []) := h.1 hb
    clear h
    have hf4 := typeB_size ht
    have hb4 := bytesT4 4 (by decide)
    have w1 : IntKind.u64.wrap (IntKind.i64.wrap (((longF 12 ([] : List tCh.Val)).getD 0 : Nat) - 8)) = ((4 : Nat) : Int) := by decide +kernel
    have hr4 : (⟨#[82, 73, 70, 70]⟩ : ByteArray).size = 4 := rfl
    (repeat' (first | refine And.intro ?_ ?_ | (intro h'; first | (exfalso; revert h'; decide) | (simp only [decide_eq_true_eq, decide_eq_false_iff_not, Bool.not_eq_true', Bool.not_eq_false', bne_iff_ne, beq_iff_eq, ne_eq, bne_eq_false_iff_eq, beq_eq_false_iff_ne, Int.reduceToNat, Int.toNat_natCast, Int.reduceAdd, Int.reduceSub, ByteArray.size_extract, ht, Bool.true_eq_false] at h'; first | (guard_hyp h' : True; clear h') | (exfalso; omega) | skip) | skip)))
    all_goals first | omega | exact hf | (simp only [w1]; omega) | (simp only [w1, Int.toNat_natCast, ByteArray.size_append, hr4]; omega) | skip
    refine ⟨Unit, [1, 9, 10], [], fun _ => ⟨[(1, .v (.slice none 0 0)), (9, .own 0), (10, .v (.int .i64 0))], [(0, some (.row 5 (.int .u8) (bList ((riffT ++ bytesT (Int.toNat (IntKind.u64.wrap (IntKind.i64.wrap (((longF 12 ([] : List tCh.Val)).getD 0 : Nat) - 8)))) 4 false) ++ form))))], 1⟩, fun _ => True, fun _ => 0, ⟨(), rfl, trivial⟩, fun _ _ => ?_⟩
    (repeat' (first | refine And.intro ?_ ?_ | (intro h'; first | (exfalso; revert h'; decide) | (simp only [decide_eq_true_eq, decide_eq_false_iff_not, Bool.not_eq_true', Bool.not_eq_false', bne_iff_ne, beq_iff_eq, ne_eq, bne_eq_false_iff_eq, beq_eq_false_iff_ne, Int.reduceToNat, Int.toNat_natCast, Int.reduceAdd, Int.reduceSub, ByteArray.size_extract] at h'; first | (guard_hyp h' : True; clear h') | (exfalso; omega) | skip) | skip)))
    · exact (bytesIn_bList _ _ (by assumption)).1
    · exact (bytesIn_bList _ _ (by assumption)).2
    · refine K_of (K := K) hG ?_
      rw [sOf_bList, w1]; rfl
  · exact h.elim
noncomputable def eRJoin : Ent Try.prog := Ent.of tt_ok mixed rjoin_l (by kernel_rfl)

def refUintA : List AV → R AV
  | [.v (.string s), .v (.int .i64 at_), .v (.int .i64 n), .v (.bool big)] => .need (s.size ≤ maxLen) (.ok (.tup [.v (.int .u64 (uintV s at_ n big : Nat)), .v (.int .i64 (uintE s.size at_ n))]))
  | _ => .bad
theorem refUintA_ok : PureOK Try.prog 87 refUintA := by
  intro g w args cargs K Z hv h
  unfold refUintA at h
  split at h
  · rename_i s at_ n big
    obtain ⟨r3, e3, hr3⟩ := hv.v1
    obtain ⟨r4, e4, hr4⟩ := hr3.v1
    obtain ⟨r5, e5, hr5⟩ := hr4.v1
    obtain ⟨r6, e6, hr6⟩ := hr5.v1
    obtain e7 := VRels.nil.1 hr6
    subst e3 e4 e5 e6 e7
    exact (refUint_any s at_ n big w h.1).mono fun e w' he => ⟨_, _, he.1, he.2 ▸ bel_refl w, h.2, vr_tup (vrs_cons vr_v (vrs_cons vr_v vrs_nil))⟩
  · exact h.elim
noncomputable def eRUint : Ent Try.prog := Ent.pure refUintA_ok (by kernel_rfl)

def rnumberL : LSpec := fun n0 args p => match n0, args, p with
  | 0, [.v (.string s), .v (.int .i64 at_), .v (.int .i64 width)], [] => .need (s.size ≤ maxLen) (.ok (.v (.int .i64 (IntKind.i64.wrap (uintV s at_ width false : Nat))), []))
  | _, _, _ => .bad
theorem rnumber_l : LocalOK Try.prog (mkC tt [eRUint]) 62 rnumberL := by
  refine ⟨Try.f62, _, Try.func62, rfl, fun n0 args p K Z h => ?_⟩
  unfold rnumberL at h; split at h
  · rename_i s at_ width; refine ⟨rfl, ?_⟩
    obtain ⟨hs, h⟩ := h
    (repeat' (first | refine And.intro ?_ ?_ | (intro h'; first | (exfalso; revert h'; decide) | (simp only [decide_eq_true_eq, decide_eq_false_iff_not, Bool.not_eq_true', Bool.not_eq_false', bne_iff_ne, beq_iff_eq, ne_eq, bne_eq_false_iff_eq, beq_eq_false_iff_ne, Int.reduceToNat, Int.toNat_natCast, Int.reduceAdd, Int.reduceSub, ByteArray.size_extract] at h'; first | (guard_hyp h' : True; clear h') | (exfalso; omega) | skip) | skip)))
    all_goals first | exact hs | exact h
  · exact h.elim
noncomputable def eRNumber : Ent Try.prog := Ent.of tt_ok mixed rnumber_l (by kernel_rfl)
end Go.Proofs.Ytmkbigaofhionaa
