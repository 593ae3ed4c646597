/- Lists of chunks gone through, by the abstract machine: long, Size, small, SameChunks. -/
import Derived.Test.YtmkbigaofhionaaWavM
namespace Go.Proofs.Ytmkbigaofhionaa
open Go.RowKit
set_option linter.unusedVariables false
set_option linter.unusedSimpArgs false


theorem drop_get {α : Type} {xs : List α} {k : Nat} (d : α) (h : k < xs.length) : xs.drop k = xs.getD k d :: xs.drop (k + 1) := by
  rw [List.getD_eq_getElem?_getD, List.getElem?_eq_getElem h, Option.getD_some, ← List.drop_eq_getElem_cons h]

/-- How many bytes a file of some chunks has, where n are there; none: too many. -/
def longF (n : Nat) : List tCh.Val → Option Nat
  | [] => some n
  | c :: l => if 2147483647 < c.2.1.size then none else if 2147483647 < n + (8 + c.2.1.size + c.2.1.size % 2) then none else longF (n + (8 + c.2.1.size + c.2.1.size % 2)) l

def longR (xs : List tCh.Val) (p : Pat) : R (AV × Pat) := .need (xs.length ≤ 1000000000) (.br (longF 12 xs).isSome (.ok (.tup [.v (.int .i64 ((longF 12 xs).getD 0 : Nat)), .v (.bool true)], p)) (.ok (.tup [.v (.int .i64 0), .v (.bool false)], p)))
def longL : LSpec := fun n0 args p => match n0, args, p with
  | 0, [.ro (.pair .str (.pair .str .unit)) xs], [] => longR xs []
  | 1, [.own 0], [(0, some (.row T (.pair .str (.pair .str .unit)) xs))] => longR xs [(0, some (.row T (.pair .str (.pair .str .unit)) xs))]
  | 0, [.v (.slice none 0 0)], [] => longR [] []
  | _, _, _ => .bad


set_option maxHeartbeats 1000000 in
theorem long_l : LocalOK Try.prog (mkC tt ga0) 63 longL := by
  refine ⟨Try.f63, _, Try.func63, rfl, fun n0 args p K Z h => ?_⟩
  unfold longL at h
  split at h
  · rename_i xs
    refine ⟨rfl, ?_⟩
    obtain ⟨hlen, h⟩ := h
    have hB : longF 12 xs = none → K (.tup [.v (.int .i64 0), .v (.bool false)], []) := fun e => by
      have := h.2 (by rw [e]; rfl)
      exact this
    have hG : ∀ n : Nat, longF 12 xs = some n → K (.tup [.v (.int .i64 (n : Int)), .v (.bool true)], []) := fun n e => by
      have := h.1 (by rw [e]; rfl)
      change K _ at this
      rw [e] at this; exact this
    clear h
    (repeat' (first | refine And.intro ?_ ?_ | (intro h'; first | (exfalso; revert h'; decide) | (simp only [decide_eq_true_eq, decide_eq_false_iff_not, Bool.not_eq_true', Bool.not_eq_false', bne_iff_ne, beq_iff_eq, ne_eq, bne_eq_false_iff_eq, beq_eq_false_iff_ne, Int.reduceToNat, Int.toNat_natCast, Int.reduceAdd, Int.reduceSub, ByteArray.size_extract] at h'; first | (guard_hyp h' : True; clear h') | (exfalso; omega) | skip) | skip)))
    refine ⟨Int × Int, [4, 7, 8, 9], [], fun | (n, k) => ⟨[(4, .v (.int .i64 n)), (7, .ro tCh xs), (8, .v (.int .i64 ((xs).length : Nat))), (9, .v (.int .i64 k))], [], 0⟩,
      fun x => ∃ n k : Nat, x.1 = n ∧ x.2 = k ∧ k ≤ (xs).length ∧ n ≤ 2147483647 ∧ longF 12 xs = longF n ((xs).drop k), fun x => (xs).length - x.2.toNat, ⟨(12, 0), rfl, 12, 0, rfl, rfl, Nat.zero_le _, by decide, rfl⟩, fun x hx => ?_⟩
    obtain ⟨x1, x2⟩ := x
    obtain ⟨n, k, e1, e2, hk, hn, hl⟩ := hx
    change x1 = _ at e1
    change x2 = _ at e2
    subst e1 e2
    by_cases hlt : k < (xs).length
    · rw [drop_get (Ty.dflt tCh) hlt] at hl
      obtain ⟨c, hc⟩ : ∃ c, (xs).getD k (Ty.dflt tCh) = c := ⟨_, rfl⟩
      rw [hc] at hl
      obtain ⟨m, hm⟩ : ∃ m, c.2.1.size = m := ⟨_, rfl⟩
      simp only [longF, hm] at hl
      have a4 : IntKind.i64.wrap ((k : Int) + 1) = ((k + 1 : Nat) : Int) := by rw [IntWalk.i64_in _ (by omega)]; omega
      by_cases hbig : 2147483647 < m
      · rw [if_pos hbig] at hl
        (repeat' (first | refine And.intro ?_ ?_ | (intro h'; first | (exfalso; revert h'; decide) | (simp only [decide_eq_true_eq, decide_eq_false_iff_not, Bool.not_eq_true', Bool.not_eq_false', bne_iff_ne, beq_iff_eq, ne_eq, bne_eq_false_iff_eq, beq_eq_false_iff_ne, Int.reduceToNat, Int.toNat_natCast, Int.reduceAdd, Int.reduceSub, ByteArray.size_extract, hc, hm] at h'; first | (guard_hyp h' : True; clear h') | (exfalso; omega) | skip) | skip)))
        all_goals first | omega | skip
        exact hB hl
      · rw [if_neg hbig] at hl
        have a1 := and1 m (by omega)
        have a2 : IntKind.i64.wrap (8 + (m : Int)) = ((8 + m : Nat) : Int) := by rw [IntWalk.i64_in _ (by omega)]; omega
        have a3 : IntKind.i64.wrap (((8 + m : Nat) : Int) + ((m % 2 : Nat) : Int)) = ((8 + m + m % 2 : Nat) : Int) := by rw [IntWalk.i64_in _ (by omega)]; omega
        have a5 : IntKind.i64.wrap ((n : Int) + ((8 + m + m % 2 : Nat) : Int)) = ((n + (8 + m + m % 2) : Nat) : Int) := by rw [IntWalk.i64_in _ (by omega)]; omega
        (repeat' (first | refine And.intro ?_ ?_ | (intro h'; first | (exfalso; revert h'; decide) | (simp only [decide_eq_true_eq, decide_eq_false_iff_not, Bool.not_eq_true', Bool.not_eq_false', bne_iff_ne, beq_iff_eq, ne_eq, bne_eq_false_iff_eq, beq_eq_false_iff_ne, Int.reduceToNat, Int.toNat_natCast, Int.reduceAdd, Int.reduceSub, ByteArray.size_extract, hc, hm, a1, a2, a3, a5] at h'; first | (guard_hyp h' : True; clear h') | (exfalso; omega) | skip) | skip)))
        all_goals first | omega | skip
        · exact hB (by rw [hl, if_pos (by omega)])
        · refine ⟨(_, _), rfl, ⟨n + (8 + m + m % 2), k + 1, ?_, ?_, by omega, by omega, ?_⟩, ?_⟩
          · simp only [Int.toNat_natCast, hc, hm, a1, a2, a3, a5]
          · exact a4
          · rw [hl, if_neg (by omega)]
          · simp only [a4, Int.toNat_natCast]; omega
    · (repeat' (first | refine And.intro ?_ ?_ | (intro h'; first | (exfalso; revert h'; decide) | (simp only [decide_eq_true_eq, decide_eq_false_iff_not, Bool.not_eq_true', Bool.not_eq_false', bne_iff_ne, beq_iff_eq, ne_eq, bne_eq_false_iff_eq, beq_eq_false_iff_ne, Int.reduceToNat, Int.toNat_natCast, Int.reduceAdd, Int.reduceSub, ByteArray.size_extract] at h'; first | (guard_hyp h' : True; clear h') | (exfalso; omega) | skip) | skip)))
      all_goals first | omega | skip
      exact hG n (by rw [hl, List.drop_eq_nil_of_le (by omega)]; rfl)
  · rename_i T xs
    refine ⟨rfl, ?_⟩
    obtain ⟨hlen, h⟩ := h
    have hB : longF 12 xs = none → K (.tup [.v (.int .i64 0), .v (.bool false)], [(0, some (.row T tCh xs))]) := fun e => by
      have := h.2 (by rw [e]; rfl)
      exact this
    have hG : ∀ n : Nat, longF 12 xs = some n → K (.tup [.v (.int .i64 (n : Int)), .v (.bool true)], [(0, some (.row T tCh xs))]) := fun n e => by
      have := h.1 (by rw [e]; rfl)
      change K _ at this
      rw [e] at this; exact this
    clear h
    (repeat' (first | refine And.intro ?_ ?_ | (intro h'; first | (exfalso; revert h'; decide) | (simp only [decide_eq_true_eq, decide_eq_false_iff_not, Bool.not_eq_true', Bool.not_eq_false', bne_iff_ne, beq_iff_eq, ne_eq, bne_eq_false_iff_eq, beq_eq_false_iff_ne, Int.reduceToNat, Int.toNat_natCast, Int.reduceAdd, Int.reduceSub, ByteArray.size_extract] at h'; first | (guard_hyp h' : True; clear h') | (exfalso; omega) | skip) | skip)))
    refine ⟨Int × Int, [4, 7, 8, 9], [], fun | (n, k) => ⟨[(4, .v (.int .i64 n)), (7, .own 0), (8, .v (.int .i64 ((xs).length : Nat))), (9, .v (.int .i64 k))], [(0, some (.row T tCh xs))], 1⟩,
      fun x => ∃ n k : Nat, x.1 = n ∧ x.2 = k ∧ k ≤ (xs).length ∧ n ≤ 2147483647 ∧ longF 12 xs = longF n ((xs).drop k), fun x => (xs).length - x.2.toNat, ⟨(12, 0), rfl, 12, 0, rfl, rfl, Nat.zero_le _, by decide, rfl⟩, fun x hx => ?_⟩
    obtain ⟨x1, x2⟩ := x
    obtain ⟨n, k, e1, e2, hk, hn, hl⟩ := hx
    change x1 = _ at e1
    change x2 = _ at e2
    subst e1 e2
    by_cases hlt : k < (xs).length
    · rw [drop_get (Ty.dflt tCh) hlt] at hl
      obtain ⟨c, hc⟩ : ∃ c, (xs).getD k (Ty.dflt tCh) = c := ⟨_, rfl⟩
      rw [hc] at hl
      obtain ⟨m, hm⟩ : ∃ m, c.2.1.size = m := ⟨_, rfl⟩
      simp only [longF, hm] at hl
      have a4 : IntKind.i64.wrap ((k : Int) + 1) = ((k + 1 : Nat) : Int) := by rw [IntWalk.i64_in _ (by omega)]; omega
      by_cases hbig : 2147483647 < m
      · rw [if_pos hbig] at hl
        (repeat' (first | refine And.intro ?_ ?_ | (intro h'; first | (exfalso; revert h'; decide) | (simp only [decide_eq_true_eq, decide_eq_false_iff_not, Bool.not_eq_true', Bool.not_eq_false', bne_iff_ne, beq_iff_eq, ne_eq, bne_eq_false_iff_eq, beq_eq_false_iff_ne, Int.reduceToNat, Int.toNat_natCast, Int.reduceAdd, Int.reduceSub, ByteArray.size_extract, hc, hm] at h'; first | (guard_hyp h' : True; clear h') | (exfalso; omega) | skip) | skip)))
        all_goals first | omega | skip
        exact hB hl
      · rw [if_neg hbig] at hl
        have a1 := and1 m (by omega)
        have a2 : IntKind.i64.wrap (8 + (m : Int)) = ((8 + m : Nat) : Int) := by rw [IntWalk.i64_in _ (by omega)]; omega
        have a3 : IntKind.i64.wrap (((8 + m : Nat) : Int) + ((m % 2 : Nat) : Int)) = ((8 + m + m % 2 : Nat) : Int) := by rw [IntWalk.i64_in _ (by omega)]; omega
        have a5 : IntKind.i64.wrap ((n : Int) + ((8 + m + m % 2 : Nat) : Int)) = ((n + (8 + m + m % 2) : Nat) : Int) := by rw [IntWalk.i64_in _ (by omega)]; omega
        (repeat' (first | refine And.intro ?_ ?_ | (intro h'; first | (exfalso; revert h'; decide) | (simp only [decide_eq_true_eq, decide_eq_false_iff_not, Bool.not_eq_true', Bool.not_eq_false', bne_iff_ne, beq_iff_eq, ne_eq, bne_eq_false_iff_eq, beq_eq_false_iff_ne, Int.reduceToNat, Int.toNat_natCast, Int.reduceAdd, Int.reduceSub, ByteArray.size_extract, hc, hm, a1, a2, a3, a5] at h'; first | (guard_hyp h' : True; clear h') | (exfalso; omega) | skip) | skip)))
        all_goals first | omega | skip
        · exact hB (by rw [hl, if_pos (by omega)])
        · refine ⟨(_, _), rfl, ⟨n + (8 + m + m % 2), k + 1, ?_, ?_, by omega, by omega, ?_⟩, ?_⟩
          · simp only [Int.toNat_natCast, hc, hm, a1, a2, a3, a5]
          · exact a4
          · rw [hl, if_neg (by omega)]
          · simp only [a4, Int.toNat_natCast]; omega
    · (repeat' (first | refine And.intro ?_ ?_ | (intro h'; first | (exfalso; revert h'; decide) | (simp only [decide_eq_true_eq, decide_eq_false_iff_not, Bool.not_eq_true', Bool.not_eq_false', bne_iff_ne, beq_iff_eq, ne_eq, bne_eq_false_iff_eq, beq_eq_false_iff_ne, Int.reduceToNat, Int.toNat_natCast, Int.reduceAdd, Int.reduceSub, ByteArray.size_extract] at h'; first | (guard_hyp h' : True; clear h') | (exfalso; omega) | skip) | skip)))
      all_goals first | omega | skip
      exact hG n (by rw [hl, List.drop_eq_nil_of_le (by omega)]; rfl)
  · refine ⟨rfl, ?_⟩
    have hG : K (.tup [.v (.int .i64 12), .v (.bool true)], []) := h.2.1 rfl
    clear h
    (repeat' (first | refine And.intro ?_ ?_ | (intro h'; first | (exfalso; revert h'; decide) | (simp only [decide_eq_true_eq, decide_eq_false_iff_not, Bool.not_eq_true', Bool.not_eq_false', bne_iff_ne, beq_iff_eq, ne_eq, bne_eq_false_iff_eq, beq_eq_false_iff_ne, Int.reduceToNat, Int.toNat_natCast, Int.reduceAdd, Int.reduceSub, ByteArray.size_extract] at h'; first | (guard_hyp h' : True; clear h') | (exfalso; omega) | skip) | skip)))
    refine ⟨Unit, [4, 7, 8, 9], [], fun _ => ⟨[(4, .v (.int .i64 12)), (7, .v (.slice none 0 0)), (8, .v (.int .i64 0)), (9, .v (.int .i64 0))], [], 0⟩, fun _ => True, fun _ => 0, ⟨(), rfl, trivial⟩, fun _ _ => ?_⟩
    (repeat' (first | refine And.intro ?_ ?_ | (intro h'; first | (exfalso; revert h'; decide) | (simp only [decide_eq_true_eq, decide_eq_false_iff_not, Bool.not_eq_true', Bool.not_eq_false', bne_iff_ne, beq_iff_eq, ne_eq, bne_eq_false_iff_eq, beq_eq_false_iff_ne, Int.reduceToNat, Int.toNat_natCast, Int.reduceAdd, Int.reduceSub, ByteArray.size_extract] at h'; first | (guard_hyp h' : True; clear h') | (exfalso; omega) | skip) | skip)))
    exact hG
  · exact h.elim
noncomputable def eLong : Ent Try.prog := Ent.of tt_ok mixed long_l (by kernel_rfl)

def sizeR (xs : List tCh.Val) (p : Pat) : R (AV × Pat) := .need (xs.length ≤ 1000000000) (.br (longF 12 xs).isSome (.ok (.v (.int .i64 ((longF 12 xs).getD 0 : Nat)), p)) (.ok (.v (.int .i64 (-1)), p)))
def sizeL : LSpec := fun n0 args p => match n0, args, p with
  | 0, [.ro (.pair .str (.pair .str .unit)) xs], [] => sizeR xs []
  | 1, [.own 0], [(0, some (.row T (.pair .str (.pair .str .unit)) xs))] => sizeR xs [(0, some (.row T (.pair .str (.pair .str .unit)) xs))]
  | 0, [.v (.slice none 0 0)], [] => sizeR [] []
  | _, _, _ => .bad


set_option maxHeartbeats 1000000 in
theorem size_l : LocalOK Try.prog (mkC tt ga0) 70 sizeL := by
  refine ⟨Try.f70, _, Try.func70, rfl, fun n0 args p K Z h => ?_⟩
  unfold sizeL at h
  split at h
  · rename_i xs
    refine ⟨rfl, ?_⟩
    obtain ⟨hlen, h⟩ := h
    have hB : longF 12 xs = none → K (.v (.int .i64 (-1)), []) := fun e => by
      have := h.2 (by rw [e]; rfl)
      exact this
    have hG : ∀ n : Nat, longF 12 xs = some n → K (.v (.int .i64 (n : Int)), []) := fun n e => by
      have := h.1 (by rw [e]; rfl)
      change K _ at this
      rw [e] at this; exact this
    clear h
    (repeat' (first | refine And.intro ?_ ?_ | (intro h'; first | (exfalso; revert h'; decide) | (simp only [decide_eq_true_eq, decide_eq_false_iff_not, Bool.not_eq_true', Bool.not_eq_false', bne_iff_ne, beq_iff_eq, ne_eq, bne_eq_false_iff_eq, beq_eq_false_iff_ne, Int.reduceToNat, Int.toNat_natCast, Int.reduceAdd, Int.reduceSub, ByteArray.size_extract] at h'; first | (guard_hyp h' : True; clear h') | (exfalso; omega) | skip) | skip)))
    refine ⟨Int × Int, [0, 3, 4], [], fun | (n, k) => ⟨[(0, .ro tCh xs), (3, .v (.int .i64 n)), (4, .v (.int .i64 k))], [], 0⟩,
      fun x => ∃ n k : Nat, x.1 = n ∧ x.2 = k ∧ k ≤ (xs).length ∧ n ≤ 2147483647 ∧ longF 12 xs = longF n ((xs).drop k), fun x => (xs).length - x.2.toNat, ⟨(12, 0), rfl, 12, 0, rfl, rfl, Nat.zero_le _, by decide, rfl⟩, fun x hx => ?_⟩
    obtain ⟨x1, x2⟩ := x
    obtain ⟨n, k, e1, e2, hk, hn, hl⟩ := hx
    change x1 = _ at e1
    change x2 = _ at e2
    subst e1 e2
    by_cases hlt : k < (xs).length
    · rw [drop_get (Ty.dflt tCh) hlt] at hl
      obtain ⟨c, hc⟩ : ∃ c, (xs).getD k (Ty.dflt tCh) = c := ⟨_, rfl⟩
      rw [hc] at hl
      obtain ⟨m, hm⟩ : ∃ m, c.2.1.size = m := ⟨_, rfl⟩
      simp only [longF, hm] at hl
      have a4 : IntKind.i64.wrap ((k : Int) + 1) = ((k + 1 : Nat) : Int) := by rw [IntWalk.i64_in _ (by omega)]; omega
      have a6 : IntKind.i64.wrap (2147483647 - (n : Int)) = 2147483647 - (n : Int) := by rw [IntWalk.i64_in _ (by omega)]
      by_cases hbig : 2147483647 < m + n
      · have hl2 : longF 12 xs = none := by
          by_cases h0 : 2147483647 < m
          · rw [hl, if_pos h0]
          · rw [hl, if_neg h0, if_pos (by omega)]
        (repeat' (first | refine And.intro ?_ ?_ | (intro h'; first | (exfalso; revert h'; decide) | (simp only [decide_eq_true_eq, decide_eq_false_iff_not, Bool.not_eq_true', Bool.not_eq_false', bne_iff_ne, beq_iff_eq, ne_eq, bne_eq_false_iff_eq, beq_eq_false_iff_ne, Int.reduceToNat, Int.toNat_natCast, Int.reduceAdd, Int.reduceSub, ByteArray.size_extract, hc, hm, a6] at h'; first | (guard_hyp h' : True; clear h') | (exfalso; omega) | skip) | skip)))
        all_goals first | omega | skip
        exact hB hl2
      · rw [if_neg (by omega)] at hl
        have a1 : (m : Int).tmod 2 = ((m % 2 : Nat) : Int) := by rw [Int.tmod_eq_emod_of_nonneg (by omega)]; omega
        have a2 : IntKind.i64.wrap ((n : Int) + 8) = ((n + 8 : Nat) : Int) := by rw [IntWalk.i64_in _ (by omega)]; omega
        have a3 : IntKind.i64.wrap (((n + 8 : Nat) : Int) + (m : Int)) = ((n + 8 + m : Nat) : Int) := by rw [IntWalk.i64_in _ (by omega)]; omega
        have a5 : IntKind.i64.wrap (((n + 8 + m : Nat) : Int) + ((m % 2 : Nat) : Int)) = ((n + (8 + m + m % 2) : Nat) : Int) := by rw [IntWalk.i64_in _ (by omega)]; omega
        (repeat' (first | refine And.intro ?_ ?_ | (intro h'; first | (exfalso; revert h'; decide) | (simp only [decide_eq_true_eq, decide_eq_false_iff_not, Bool.not_eq_true', Bool.not_eq_false', bne_iff_ne, beq_iff_eq, ne_eq, bne_eq_false_iff_eq, beq_eq_false_iff_ne, Int.reduceToNat, Int.toNat_natCast, Int.reduceAdd, Int.reduceSub, ByteArray.size_extract, hc, hm, a1, a2, a3, a5, a6] at h'; first | (guard_hyp h' : True; clear h') | (exfalso; omega) | skip) | skip)))
        all_goals first | omega | kernel_rfl | skip
        · exact hB (by rw [hl, if_pos (by omega)])
        · refine ⟨(_, _), rfl, ⟨n + (8 + m + m % 2), k + 1, ?_, ?_, by omega, by omega, ?_⟩, ?_⟩
          · simp only [Int.toNat_natCast, hc, hm, a1, a2, a3, a5]
          · exact a4
          · rw [hl, if_neg (by omega)]
          · simp only [a4, Int.toNat_natCast]; omega
    · (repeat' (first | refine And.intro ?_ ?_ | (intro h'; first | (exfalso; revert h'; decide) | (simp only [decide_eq_true_eq, decide_eq_false_iff_not, Bool.not_eq_true', Bool.not_eq_false', bne_iff_ne, beq_iff_eq, ne_eq, bne_eq_false_iff_eq, beq_eq_false_iff_ne, Int.reduceToNat, Int.toNat_natCast, Int.reduceAdd, Int.reduceSub, ByteArray.size_extract] at h'; first | (guard_hyp h' : True; clear h') | (exfalso; omega) | skip) | skip)))
      all_goals first | omega | skip
      exact hG n (by rw [hl, List.drop_eq_nil_of_le (by omega)]; rfl)
  · rename_i T xs
    refine ⟨rfl, ?_⟩
    obtain ⟨hlen, h⟩ := h
    have hB : longF 12 xs = none → K (.v (.int .i64 (-1)), [(0, some (.row T tCh xs))]) := fun e => by
      have := h.2 (by rw [e]; rfl)
      exact this
    have hG : ∀ n : Nat, longF 12 xs = some n → K (.v (.int .i64 (n : Int)), [(0, some (.row T tCh xs))]) := fun n e => by
      have := h.1 (by rw [e]; rfl)
      change K _ at this
      rw [e] at this; exact this
    clear h
    (repeat' (first | refine And.intro ?_ ?_ | (intro h'; first | (exfalso; revert h'; decide) | (simp only [decide_eq_true_eq, decide_eq_false_iff_not, Bool.not_eq_true', Bool.not_eq_false', bne_iff_ne, beq_iff_eq, ne_eq, bne_eq_false_iff_eq, beq_eq_false_iff_ne, Int.reduceToNat, Int.toNat_natCast, Int.reduceAdd, Int.reduceSub, ByteArray.size_extract] at h'; first | (guard_hyp h' : True; clear h') | (exfalso; omega) | skip) | skip)))
    refine ⟨Int × Int, [0, 3, 4], [], fun | (n, k) => ⟨[(0, .own 0), (3, .v (.int .i64 n)), (4, .v (.int .i64 k))], [(0, some (.row T tCh xs))], 1⟩,
      fun x => ∃ n k : Nat, x.1 = n ∧ x.2 = k ∧ k ≤ (xs).length ∧ n ≤ 2147483647 ∧ longF 12 xs = longF n ((xs).drop k), fun x => (xs).length - x.2.toNat, ⟨(12, 0), rfl, 12, 0, rfl, rfl, Nat.zero_le _, by decide, rfl⟩, fun x hx => ?_⟩
    obtain ⟨x1, x2⟩ := x
    obtain ⟨n, k, e1, e2, hk, hn, hl⟩ := hx
    change x1 = _ at e1
    change x2 = _ at e2
    subst e1 e2
    by_cases hlt : k < (xs).length
    · rw [drop_get (Ty.dflt tCh) hlt] at hl
      obtain ⟨c, hc⟩ : ∃ c, (xs).getD k (Ty.dflt tCh) = c := ⟨_, rfl⟩
      rw [hc] at hl
      obtain ⟨m, hm⟩ : ∃ m, c.2.1.size = m := ⟨_, rfl⟩
      simp only [longF, hm] at hl
      have a4 : IntKind.i64.wrap ((k : Int) + 1) = ((k + 1 : Nat) : Int) := by rw [IntWalk.i64_in _ (by omega)]; omega
      have a6 : IntKind.i64.wrap (2147483647 - (n : Int)) = 2147483647 - (n : Int) := by rw [IntWalk.i64_in _ (by omega)]
      by_cases hbig : 2147483647 < m + n
      · have hl2 : longF 12 xs = none := by
          by_cases h0 : 2147483647 < m
          · rw [hl, if_pos h0]
          · rw [hl, if_neg h0, if_pos (by omega)]
        (repeat' (first | refine And.intro ?_ ?_ | (intro h'; first | (exfalso; revert h'; decide) | (simp only [decide_eq_true_eq, decide_eq_false_iff_not, Bool.not_eq_true', Bool.not_eq_false', bne_iff_ne, beq_iff_eq, ne_eq, bne_eq_false_iff_eq, beq_eq_false_iff_ne, Int.reduceToNat, Int.toNat_natCast, Int.reduceAdd, Int.reduceSub, ByteArray.size_extract, hc, hm, a6] at h'; first | (guard_hyp h' : True; clear h') | (exfalso; omega) | skip) | skip)))
        all_goals first | omega | skip
        exact hB hl2
      · rw [if_neg (by omega)] at hl
        have a1 : (m : Int).tmod 2 = ((m % 2 : Nat) : Int) := by rw [Int.tmod_eq_emod_of_nonneg (by omega)]; omega
        have a2 : IntKind.i64.wrap ((n : Int) + 8) = ((n + 8 : Nat) : Int) := by rw [IntWalk.i64_in _ (by omega)]; omega
        have a3 : IntKind.i64.wrap (((n + 8 : Nat) : Int) + (m : Int)) = ((n + 8 + m : Nat) : Int) := by rw [IntWalk.i64_in _ (by omega)]; omega
        have a5 : IntKind.i64.wrap (((n + 8 + m : Nat) : Int) + ((m % 2 : Nat) : Int)) = ((n + (8 + m + m % 2) : Nat) : Int) := by rw [IntWalk.i64_in _ (by omega)]; omega
        (repeat' (first | refine And.intro ?_ ?_ | (intro h'; first | (exfalso; revert h'; decide) | (simp only [decide_eq_true_eq, decide_eq_false_iff_not, Bool.not_eq_true', Bool.not_eq_false', bne_iff_ne, beq_iff_eq, ne_eq, bne_eq_false_iff_eq, beq_eq_false_iff_ne, Int.reduceToNat, Int.toNat_natCast, Int.reduceAdd, Int.reduceSub, ByteArray.size_extract, hc, hm, a1, a2, a3, a5, a6] at h'; first | (guard_hyp h' : True; clear h') | (exfalso; omega) | skip) | skip)))
        all_goals first | omega | kernel_rfl | skip
        · exact hB (by rw [hl, if_pos (by omega)])
        · refine ⟨(_, _), rfl, ⟨n + (8 + m + m % 2), k + 1, ?_, ?_, by omega, by omega, ?_⟩, ?_⟩
          · simp only [Int.toNat_natCast, hc, hm, a1, a2, a3, a5]
          · exact a4
          · rw [hl, if_neg (by omega)]
          · simp only [a4, Int.toNat_natCast]; omega
    · (repeat' (first | refine And.intro ?_ ?_ | (intro h'; first | (exfalso; revert h'; decide) | (simp only [decide_eq_true_eq, decide_eq_false_iff_not, Bool.not_eq_true', Bool.not_eq_false', bne_iff_ne, beq_iff_eq, ne_eq, bne_eq_false_iff_eq, beq_eq_false_iff_ne, Int.reduceToNat, Int.toNat_natCast, Int.reduceAdd, Int.reduceSub, ByteArray.size_extract] at h'; first | (guard_hyp h' : True; clear h') | (exfalso; omega) | skip) | skip)))
      all_goals first | omega | skip
      exact hG n (by rw [hl, List.drop_eq_nil_of_le (by omega)]; rfl)
  · refine ⟨rfl, ?_⟩
    have hG : K (.v (.int .i64 12), []) := h.2.1 rfl
    clear h
    (repeat' (first | refine And.intro ?_ ?_ | (intro h'; first | (exfalso; revert h'; decide) | (simp only [decide_eq_true_eq, decide_eq_false_iff_not, Bool.not_eq_true', Bool.not_eq_false', bne_iff_ne, beq_iff_eq, ne_eq, bne_eq_false_iff_eq, beq_eq_false_iff_ne, Int.reduceToNat, Int.toNat_natCast, Int.reduceAdd, Int.reduceSub, ByteArray.size_extract] at h'; first | (guard_hyp h' : True; clear h') | (exfalso; omega) | skip) | skip)))
    refine ⟨Unit, [0, 3, 4], [], fun _ => ⟨[(0, .v (.slice none 0 0)), (3, .v (.int .i64 12)), (4, .v (.int .i64 0))], [], 0⟩, fun _ => True, fun _ => 0, ⟨(), rfl, trivial⟩, fun _ _ => ?_⟩
    (repeat' (first | refine And.intro ?_ ?_ | (intro h'; first | (exfalso; revert h'; decide) | (simp only [decide_eq_true_eq, decide_eq_false_iff_not, Bool.not_eq_true', Bool.not_eq_false', bne_iff_ne, beq_iff_eq, ne_eq, bne_eq_false_iff_eq, beq_eq_false_iff_ne, Int.reduceToNat, Int.toNat_natCast, Int.reduceAdd, Int.reduceSub, ByteArray.size_extract] at h'; first | (guard_hyp h' : True; clear h') | (exfalso; omega) | skip) | skip)))
    exact hG
  · exact h.elim
noncomputable def eSize : Ent Try.prog := Ent.of tt_ok mixed size_l (by kernel_rfl)

/-- Are chunks not too much? -/
def smallF : List tCh.Val → Bool
  | [] => true
  | c :: l => decide (c.2.1.size ≤ 5000) && smallF l
def smallS (xs : List tCh.Val) : Bool := decide (xs.length ≤ 40) && smallF xs
def smallL : LSpec := fun n0 args p => match n0, args, p with
  | 0, [.ro (.pair .str (.pair .str .unit)) xs], [] => .ok (.v (.bool (smallS xs)), [])
  | _, _, _ => .bad
set_option maxHeartbeats 1000000 in
theorem small_l : LocalOK Try.prog (mkC tt ga0) 36 smallL := by
  refine ⟨Try.f36, _, Try.func36, rfl, fun n0 args p K Z h => ?_⟩
  unfold smallL at h
  split at h
  · rename_i xs
    refine ⟨rfl, ?_⟩
    change K _ at h
    have hN : smallS xs = false → K (.v (.bool false), []) := fun e => by rw [e] at h; exact h
    have hY : smallS xs = true → K (.v (.bool true), []) := fun e => by rw [e] at h; exact h
    clear h
    by_cases h40 : 40 < xs.length
    · have h40i : (40 : Int) < (xs.length : Nat) := by omega
      (repeat' (first | refine And.intro ?_ ?_ | (intro h'; first | (exfalso; revert h'; decide) | (simp only [decide_eq_true_eq, decide_eq_false_iff_not, Bool.not_eq_true', Bool.not_eq_false', bne_iff_ne, beq_iff_eq, ne_eq, bne_eq_false_iff_eq, beq_eq_false_iff_ne, Int.reduceToNat, Int.toNat_natCast, Int.reduceAdd, Int.reduceSub, ByteArray.size_extract] at h'; first | (guard_hyp h' : True; clear h') | (exfalso; omega) | skip) | skip)))
      exact hN (by unfold smallS; rw [decide_eq_false (by omega)]; rfl)
    (repeat' (first | refine And.intro ?_ ?_ | (intro h'; first | (exfalso; revert h'; decide) | (simp only [decide_eq_true_eq, decide_eq_false_iff_not, Bool.not_eq_true', Bool.not_eq_false', bne_iff_ne, beq_iff_eq, ne_eq, bne_eq_false_iff_eq, beq_eq_false_iff_ne, Int.reduceToNat, Int.toNat_natCast, Int.reduceAdd, Int.reduceSub, ByteArray.size_extract] at h'; first | (guard_hyp h' : True; clear h') | (exfalso; omega) | skip) | skip)))
    all_goals first | omega | skip
    have hS : smallS xs = smallF xs := by unfold smallS; rw [decide_eq_true (by omega)]; rfl
    refine ⟨Int, [0, 3], [], fun k => ⟨[(0, .ro tCh xs), (3, .v (.int .i64 k))], [], 0⟩, fun x => ∃ k : Nat, x = k ∧ k ≤ xs.length ∧ smallF xs = smallF (xs.drop k), fun x => xs.length - x.toNat, ⟨0, rfl, 0, rfl, Nat.zero_le _, rfl⟩, fun x hx => ?_⟩
    obtain ⟨k, rfl, hk, hl⟩ := hx
    have a4 : IntKind.i64.wrap ((k : Int) + 1) = ((k + 1 : Nat) : Int) := by rw [IntWalk.i64_in _ (by omega)]; omega
    by_cases hlt : k < xs.length
    · rw [drop_get (Ty.dflt tCh) hlt] at hl
      obtain ⟨c, hc⟩ : ∃ c, xs.getD k (Ty.dflt tCh) = c := ⟨_, rfl⟩
      rw [hc] at hl
      obtain ⟨m, hm⟩ : ∃ m, c.2.1.size = m := ⟨_, rfl⟩
      simp only [smallF, hm] at hl
      (repeat' (first | refine And.intro ?_ ?_ | (intro h'; first | (exfalso; revert h'; decide) | (simp only [decide_eq_true_eq, decide_eq_false_iff_not, Bool.not_eq_true', Bool.not_eq_false', bne_iff_ne, beq_iff_eq, ne_eq, bne_eq_false_iff_eq, beq_eq_false_iff_ne, Int.reduceToNat, Int.toNat_natCast, Int.reduceAdd, Int.reduceSub, ByteArray.size_extract, hc, hm] at h'; first | (guard_hyp h' : True; clear h') | (exfalso; omega) | skip) | skip)))
      all_goals first | omega | skip
      · exact hN (by rw [hS, hl, decide_eq_false (by omega)]; rfl)
      · refine ⟨_, rfl, ⟨k + 1, a4, by omega, ?_⟩, ?_⟩
        · rw [hl, decide_eq_true (by omega)]; rfl
        · simp only [a4, Int.toNat_natCast]; omega
    · (repeat' (first | refine And.intro ?_ ?_ | (intro h'; first | (exfalso; revert h'; decide) | (simp only [decide_eq_true_eq, decide_eq_false_iff_not, Bool.not_eq_true', Bool.not_eq_false', bne_iff_ne, beq_iff_eq, ne_eq, bne_eq_false_iff_eq, beq_eq_false_iff_ne, Int.reduceToNat, Int.toNat_natCast, Int.reduceAdd, Int.reduceSub, ByteArray.size_extract] at h'; first | (guard_hyp h' : True; clear h') | (exfalso; omega) | skip) | skip)))
      all_goals first | omega | skip
      exact hY (by rw [hS, hl, List.drop_eq_nil_of_le (by omega)]; rfl)
  · exact h.elim
noncomputable def eSmall : Ent Try.prog := Ent.of tt_ok mixed small_l (by kernel_rfl)
end Go.Proofs.Ytmkbigaofhionaa
