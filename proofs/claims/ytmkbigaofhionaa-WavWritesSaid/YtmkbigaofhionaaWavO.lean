/- Are two lists of chunks the same: SameChunks, by the abstract machine. -/
import Derived.Test.YtmkbigaofhionaaWavN
namespace Go.Proofs.Ytmkbigaofhionaa
open Go.RowKit
set_option linter.unusedVariables false
set_option linter.unusedSimpArgs false

def sameF : List tCh.Val → List tCh.Val → Bool
  | [], [] => true
  | x :: xs, y :: ys => decide (x.1 = y.1) && (decide (x.2.1 = y.2.1) && sameF xs ys)
  | _, _ => false
theorem sameF_iff : ∀ {xs ys : List tCh.Val}, sameF xs ys = true ↔ xs = ys
  | [], [] => by simp [sameF]
  | [], y :: ys => by simp [sameF]
  | x :: xs, [] => by simp [sameF]
  | (a, b, u) :: xs, (c, d, v) :: ys => by
    simp only [sameF, Bool.and_eq_true, decide_eq_true_eq, sameF_iff, List.cons.injEq]
    constructor
    · rintro ⟨rfl, rfl, rfl⟩; exact ⟨rfl, rfl⟩
    · rintro ⟨h, h'⟩; injection h with h1 h2; injection h2 with h2 h3; exact ⟨h1, h2, h'⟩
theorem sameF_len : ∀ {xs ys : List tCh.Val}, xs.length ≠ ys.length → sameF xs ys = false := fun {xs ys} h => by
  cases e : sameF xs ys with
  | false => rfl
  | true => rw [sameF_iff.1 e] at h; exact absurd rfl h

def sameChR (xs ys : List tCh.Val) (p : Pat) : R (AV × Pat) := .need (xs.length ≤ 1000000000) (.ok (.v (.bool (sameF xs ys)), p))
def sameChL : LSpec := fun n0 args p => match n0, args, p with
  | 0, [.ro (.pair .str (.pair .str .unit)) xs, .ro (.pair .str (.pair .str .unit)) ys], [] => sameChR xs ys []
  | 1, [.own 0, .ro (.pair .str (.pair .str .unit)) ys], [(0, some (.row T (.pair .str (.pair .str .unit)) xs))] => sameChR xs ys [(0, some (.row T (.pair .str (.pair .str .unit)) xs))]
  | 1, [.ro (.pair .str (.pair .str .unit)) xs, .own 0], [(0, some (.row T (.pair .str (.pair .str .unit)) ys))] => sameChR xs ys [(0, some (.row T (.pair .str (.pair .str .unit)) ys))]
  | 2, [.own 0, .own 1], [(0, some (.row T (.pair .str (.pair .str .unit)) xs)), (1, some (.row T' (.pair .str (.pair .str .unit)) ys))] =>
    sameChR xs ys [(0, some (.row T (.pair .str (.pair .str .unit)) xs)), (1, some (.row T' (.pair .str (.pair .str .unit)) ys))]
  | 0, [.v (.slice none 0 0), .v (.slice none 0 0)], [] => .ok (.v (.bool true), [])
  | _, _, _ => .bad


set_option maxHeartbeats 2000000 in
theorem sameCh_l : LocalOK Try.prog (mkC tt ga0) 35 sameChL := by
  refine ⟨Try.f35, _, Try.func35, rfl, fun n0 args p K Z h => ?_⟩
  unfold sameChL at h
  split at h
  · rename_i xs ys
    refine ⟨rfl, ?_⟩
    obtain ⟨hlen, h⟩ := h
    have hN : sameF xs ys = false → K (.v (.bool false), []) := fun e => by
      change K _ at h; rw [e] at h; exact h
    have hY : sameF xs ys = true → K (.v (.bool true), []) := fun e => by
      change K _ at h; rw [e] at h; exact h
    clear h
    by_cases hl : xs.length = ys.length
    case neg =>
      (repeat' (first | refine And.intro ?_ ?_ | (intro h'; first | (exfalso; revert h'; decide) | (simp only [decide_eq_true_eq, decide_eq_false_iff_not, Bool.not_eq_true', Bool.not_eq_false', bne_iff_ne, beq_iff_eq, ne_eq, bne_eq_false_iff_eq, beq_eq_false_iff_ne, Int.reduceToNat, Int.toNat_natCast, Int.reduceAdd, Int.reduceSub, ByteArray.size_extract] at h'; first | (guard_hyp h' : True; clear h') | (exfalso; omega) | skip) | skip)))
      all_goals first | omega | skip
      exact hN (sameF_len hl)
    (repeat' (first | refine And.intro ?_ ?_ | (intro h'; first | (exfalso; revert h'; decide) | (simp only [decide_eq_true_eq, decide_eq_false_iff_not, Bool.not_eq_true', Bool.not_eq_false', bne_iff_ne, beq_iff_eq, ne_eq, bne_eq_false_iff_eq, beq_eq_false_iff_ne, Int.reduceToNat, Int.toNat_natCast, Int.reduceAdd, Int.reduceSub, ByteArray.size_extract] at h'; first | (guard_hyp h' : True; clear h') | (exfalso; omega) | skip) | skip)))
    all_goals first | omega | skip
    refine ⟨Int, [0, 1, 5], [], fun k => ⟨[(0, .ro tCh xs), (1, .ro tCh ys), (5, .v (.int .i64 k))], [], 0⟩, fun x => ∃ k : Nat, x = k ∧ k ≤ xs.length ∧ sameF xs ys = sameF (xs.drop k) (ys.drop k), fun x => xs.length - x.toNat, ⟨0, rfl, 0, rfl, Nat.zero_le _, rfl⟩, fun x hx => ?_⟩
    obtain ⟨k, rfl, hk, hs⟩ := hx
    have a4 : IntKind.i64.wrap ((k : Int) + 1) = ((k + 1 : Nat) : Int) := by rw [IntWalk.i64_in _ (by omega)]; omega
    by_cases hlt : k < xs.length
    · rw [drop_get (Ty.dflt tCh) hlt, drop_get (xs := ys) (Ty.dflt tCh) (by omega)] at hs
      obtain ⟨c, hc⟩ : ∃ c, xs.getD k (Ty.dflt tCh) = c := ⟨_, rfl⟩
      obtain ⟨d, hd⟩ : ∃ d, ys.getD k (Ty.dflt tCh) = d := ⟨_, rfl⟩
      rw [hc, hd] at hs
      simp only [sameF] at hs
      (repeat' (first | refine And.intro ?_ ?_ | (intro h'; first | (exfalso; revert h'; decide) | (simp only [decide_eq_true_eq, decide_eq_false_iff_not, Bool.not_eq_true', Bool.not_eq_false', bne_iff_ne, beq_iff_eq, ne_eq, bne_eq_false_iff_eq, beq_eq_false_iff_ne, Int.reduceToNat, Int.toNat_natCast, Int.reduceAdd, Int.reduceSub, ByteArray.size_extract, hc, hd, Bool.and_true] at h'; first | (guard_hyp h' : True; clear h') | (exfalso; omega) | skip) | skip)))
      all_goals first | omega | kernel_rfl | skip
      · refine hN ?_
        rw [hs]
        cases e1 : decide (c.1 = d.1) <;> cases e2 : decide (c.2.1 = d.2.1) <;> simp_all
      · refine ⟨_, rfl, ⟨k + 1, a4, by omega, ?_⟩, ?_⟩
        · rw [hs]
          cases e1 : decide (c.1 = d.1) <;> cases e2 : decide (c.2.1 = d.2.1) <;> simp_all
        · simp only [a4, Int.toNat_natCast]; omega
    · (repeat' (first | refine And.intro ?_ ?_ | (intro h'; first | (exfalso; revert h'; decide) | (simp only [decide_eq_true_eq, decide_eq_false_iff_not, Bool.not_eq_true', Bool.not_eq_false', bne_iff_ne, beq_iff_eq, ne_eq, bne_eq_false_iff_eq, beq_eq_false_iff_ne, Int.reduceToNat, Int.toNat_natCast, Int.reduceAdd, Int.reduceSub, ByteArray.size_extract] at h'; first | (guard_hyp h' : True; clear h') | (exfalso; omega) | skip) | skip)))
      all_goals first | omega | skip
      refine hY ?_
      rw [hs, List.drop_eq_nil_of_le (by omega), List.drop_eq_nil_of_le (by omega)]; rfl
  · rename_i ys T xs
    refine ⟨rfl, ?_⟩
    obtain ⟨hlen, h⟩ := h
    have hN : sameF xs ys = false → K (.v (.bool false), [(0, some (.row T tCh xs))]) := fun e => by
      change K _ at h; rw [e] at h; exact h
    have hY : sameF xs ys = true → K (.v (.bool true), [(0, some (.row T tCh xs))]) := fun e => by
      change K _ at h; rw [e] at h; exact h
    clear h
    by_cases hl : xs.length = ys.length
    case neg =>
      (repeat' (first | refine And.intro ?_ ?_ | (intro h'; first | (exfalso; revert h'; decide) | (simp only [decide_eq_true_eq, decide_eq_false_iff_not, Bool.not_eq_true', Bool.not_eq_false', bne_iff_ne, beq_iff_eq, ne_eq, bne_eq_false_iff_eq, beq_eq_false_iff_ne, Int.reduceToNat, Int.toNat_natCast, Int.reduceAdd, Int.reduceSub, ByteArray.size_extract] at h'; first | (guard_hyp h' : True; clear h') | (exfalso; omega) | skip) | skip)))
      all_goals first | omega | skip
      exact hN (sameF_len hl)
    (repeat' (first | refine And.intro ?_ ?_ | (intro h'; first | (exfalso; revert h'; decide) | (simp only [decide_eq_true_eq, decide_eq_false_iff_not, Bool.not_eq_true', Bool.not_eq_false', bne_iff_ne, beq_iff_eq, ne_eq, bne_eq_false_iff_eq, beq_eq_false_iff_ne, Int.reduceToNat, Int.toNat_natCast, Int.reduceAdd, Int.reduceSub, ByteArray.size_extract] at h'; first | (guard_hyp h' : True; clear h') | (exfalso; omega) | skip) | skip)))
    all_goals first | omega | skip
    refine ⟨Int, [0, 1, 5], [], fun k => ⟨[(0, .own 0), (1, .ro tCh ys), (5, .v (.int .i64 k))], [(0, some (.row T tCh xs))], 1⟩, fun x => ∃ k : Nat, x = k ∧ k ≤ xs.length ∧ sameF xs ys = sameF (xs.drop k) (ys.drop k), fun x => xs.length - x.toNat, ⟨0, rfl, 0, rfl, Nat.zero_le _, rfl⟩, fun x hx => ?_⟩
    obtain ⟨k, rfl, hk, hs⟩ := hx
    have a4 : IntKind.i64.wrap ((k : Int) + 1) = ((k + 1 : Nat) : Int) := by rw [IntWalk.i64_in _ (by omega)]; omega
    by_cases hlt : k < xs.length
    · rw [drop_get (Ty.dflt tCh) hlt, drop_get (xs := ys) (Ty.dflt tCh) (by omega)] at hs
      obtain ⟨c, hc⟩ : ∃ c, xs.getD k (Ty.dflt tCh) = c := ⟨_, rfl⟩
      obtain ⟨d, hd⟩ : ∃ d, ys.getD k (Ty.dflt tCh) = d := ⟨_, rfl⟩
      rw [hc, hd] at hs
      simp only [sameF] at hs
      (repeat' (first | refine And.intro ?_ ?_ | (intro h'; first | (exfalso; revert h'; decide) | (simp only [decide_eq_true_eq, decide_eq_false_iff_not, Bool.not_eq_true', Bool.not_eq_false', bne_iff_ne, beq_iff_eq, ne_eq, bne_eq_false_iff_eq, beq_eq_false_iff_ne, Int.reduceToNat, Int.toNat_natCast, Int.reduceAdd, Int.reduceSub, ByteArray.size_extract, hc, hd, Bool.and_true] at h'; first | (guard_hyp h' : True; clear h') | (exfalso; omega) | skip) | skip)))
      all_goals first | omega | kernel_rfl | skip
      · refine hN ?_
        rw [hs]
        cases e1 : decide (c.1 = d.1) <;> cases e2 : decide (c.2.1 = d.2.1) <;> simp_all
      · refine ⟨_, rfl, ⟨k + 1, a4, by omega, ?_⟩, ?_⟩
        · rw [hs]
          cases e1 : decide (c.1 = d.1) <;> cases e2 : decide (c.2.1 = d.2.1) <;> simp_all
        · simp only [a4, Int.toNat_natCast]; omega
    · (repeat' (first | refine And.intro ?_ ?_ | (intro h'; first | (exfalso; revert h'; decide) | (simp only [decide_eq_true_eq, decide_eq_false_iff_not, Bool.not_eq_true', Bool.not_eq_false', bne_iff_ne, beq_iff_eq, ne_eq, bne_eq_false_iff_eq, beq_eq_false_iff_ne, Int.reduceToNat, Int.toNat_natCast, Int.reduceAdd, Int.reduceSub, ByteArray.size_extract] at h'; first | (guard_hyp h' : True; clear h') | (exfalso; omega) | skip) | skip)))
      all_goals first | omega | skip
      refine hY ?_
      rw [hs, List.drop_eq_nil_of_le (by omega), List.drop_eq_nil_of_le (by omega)]; rfl
  · rename_i xs T ys
    refine ⟨rfl, ?_⟩
    obtain ⟨hlen, h⟩ := h
    have hN : sameF xs ys = false → K (.v (.bool false), [(0, some (.row T tCh ys))]) := fun e => by
      change K _ at h; rw [e] at h; exact h
    have hY : sameF xs ys = true → K (.v (.bool true), [(0, some (.row T tCh ys))]) := fun e => by
      change K _ at h; rw [e] at h; exact h
    clear h
    by_cases hl : xs.length = ys.length
    case neg =>
      (repeat' (first | refine And.intro ?_ ?_ | (intro h'; first | (exfalso; revert h'; decide) | (simp only [decide_eq_true_eq, decide_eq_false_iff_not, Bool.not_eq_true', Bool.not_eq_false', bne_iff_ne, beq_iff_eq, ne_eq, bne_eq_false_iff_eq, beq_eq_false_iff_ne, Int.reduceToNat, Int.toNat_natCast, Int.reduceAdd, Int.reduceSub, ByteArray.size_extract] at h'; first | (guard_hyp h' : True; clear h') | (exfalso; omega) | skip) | skip)))
      all_goals first | omega | skip
      exact hN (sameF_len hl)
    (repeat' (first | refine And.intro ?_ ?_ | (intro h'; first | (exfalso; revert h'; decide) | (simp only [decide_eq_true_eq, decide_eq_false_iff_not, Bool.not_eq_true', Bool.not_eq_false', bne_iff_ne, beq_iff_eq, ne_eq, bne_eq_false_iff_eq, beq_eq_false_iff_ne, Int.reduceToNat, Int.toNat_natCast, Int.reduceAdd, Int.reduceSub, ByteArray.size_extract] at h'; first | (guard_hyp h' : True; clear h') | (exfalso; omega) | skip) | skip)))
    all_goals first | omega | skip
    refine ⟨Int, [0, 1, 5], [], fun k => ⟨[(0, .ro tCh xs), (1, .own 0), (5, .v (.int .i64 k))], [(0, some (.row T tCh ys))], 1⟩, fun x => ∃ k : Nat, x = k ∧ k ≤ xs.length ∧ sameF xs ys = sameF (xs.drop k) (ys.drop k), fun x => xs.length - x.toNat, ⟨0, rfl, 0, rfl, Nat.zero_le _, rfl⟩, fun x hx => ?_⟩
    obtain ⟨k, rfl, hk, hs⟩ := hx
    have a4 : IntKind.i64.wrap ((k : Int) + 1) = ((k + 1 : Nat) : Int) := by rw [IntWalk.i64_in _ (by omega)]; omega
    by_cases hlt : k < xs.length
    · rw [drop_get (Ty.dflt tCh) hlt, drop_get (xs := ys) (Ty.dflt tCh) (by omega)] at hs
      obtain ⟨c, hc⟩ : ∃ c, xs.getD k (Ty.dflt tCh) = c := ⟨_, rfl⟩
      obtain ⟨d, hd⟩ : ∃ d, ys.getD k (Ty.dflt tCh) = d := ⟨_, rfl⟩
      rw [hc, hd] at hs
      simp only [sameF] at hs
      (repeat' (first | refine And.intro ?_ ?_ | (intro h'; first | (exfalso; revert h'; decide) | (simp only [decide_eq_true_eq, decide_eq_false_iff_not, Bool.not_eq_true', Bool.not_eq_false', bne_iff_ne, beq_iff_eq, ne_eq, bne_eq_false_iff_eq, beq_eq_false_iff_ne, Int.reduceToNat, Int.toNat_natCast, Int.reduceAdd, Int.reduceSub, ByteArray.size_extract, hc, hd, Bool.and_true] at h'; first | (guard_hyp h' : True; clear h') | (exfalso; omega) | skip) | skip)))
      all_goals first | omega | kernel_rfl | skip
      · refine hN ?_
        rw [hs]
        cases e1 : decide (c.1 = d.1) <;> cases e2 : decide (c.2.1 = d.2.1) <;> simp_all
      · refine ⟨_, rfl, ⟨k + 1, a4, by omega, ?_⟩, ?_⟩
        · rw [hs]
          cases e1 : decide (c.1 = d.1) <;> cases e2 : decide (c.2.1 = d.2.1) <;> simp_all
        · simp only [a4, Int.toNat_natCast]; omega
    · (repeat' (first | refine And.intro ?_ ?_ | (intro h'; first | (exfalso; revert h'; decide) | (simp only [decide_eq_true_eq, decide_eq_false_iff_not, Bool.not_eq_true', Bool.not_eq_false', bne_iff_ne, beq_iff_eq, ne_eq, bne_eq_false_iff_eq, beq_eq_false_iff_ne, Int.reduceToNat, Int.toNat_natCast, Int.reduceAdd, Int.reduceSub, ByteArray.size_extract] at h'; first | (guard_hyp h' : True; clear h') | (exfalso; omega) | skip) | skip)))
      all_goals first | omega | skip
      refine hY ?_
      rw [hs, List.drop_eq_nil_of_le (by omega), List.drop_eq_nil_of_le (by omega)]; rfl
  · rename_i T xs T' ys
    refine ⟨rfl, ?_⟩
    obtain ⟨hlen, h⟩ := h
    have hN : sameF xs ys = false → K (.v (.bool false), [(0, some (.row T tCh xs)), (1, some (.row T' tCh ys))]) := fun e => by
      change K _ at h; rw [e] at h; exact h
    have hY : sameF xs ys = true → K (.v (.bool true), [(0, some (.row T tCh xs)), (1, some (.row T' tCh ys))]) := fun e => by
      change K _ at h; rw [e] at h; exact h
    clear h
    by_cases hl : xs.length = ys.length
    case neg =>
      (repeat' (first | refine And.intro ?_ ?_ | (intro h'; first | (exfalso; revert h'; decide) | (simp only [decide_eq_true_eq, decide_eq_false_iff_not, Bool.not_eq_true', Bool.not_eq_false', bne_iff_ne, beq_iff_eq, ne_eq, bne_eq_false_iff_eq, beq_eq_false_iff_ne, Int.reduceToNat, Int.toNat_natCast, Int.reduceAdd, Int.reduceSub, ByteArray.size_extract] at h'; first | (guard_hyp h' : True; clear h') | (exfalso; omega) | skip) | skip)))
      all_goals first | omega | skip
      exact hN (sameF_len hl)
    (repeat' (first | refine And.intro ?_ ?_ | (intro h'; first | (exfalso; revert h'; decide) | (simp only [decide_eq_true_eq, decide_eq_false_iff_not, Bool.not_eq_true', Bool.not_eq_false', bne_iff_ne, beq_iff_eq, ne_eq, bne_eq_false_iff_eq, beq_eq_false_iff_ne, Int.reduceToNat, Int.toNat_natCast, Int.reduceAdd, Int.reduceSub, ByteArray.size_extract] at h'; first | (guard_hyp h' : True; clear h') | (exfalso; omega) | skip) | skip)))
    all_goals first | omega | skip
    refine ⟨Int, [0, 1, 5], [], fun k => ⟨[(0, .own 0), (1, .own 1), (5, .v (.int .i64 k))], [(0, some (.row T tCh xs)), (1, some (.row T' tCh ys))], 2⟩, fun x => ∃ k : Nat, x = k ∧ k ≤ xs.length ∧ sameF xs ys = sameF (xs.drop k) (ys.drop k), fun x => xs.length - x.toNat, ⟨0, rfl, 0, rfl, Nat.zero_le _, rfl⟩, fun x hx => ?_⟩
    obtain ⟨k, rfl, hk, hs⟩ := hx
    have a4 : IntKind.i64.wrap ((k : Int) + 1) = ((k + 1 : Nat) : Int) := by rw [IntWalk.i64_in _ (by omega)]; omega
    by_cases hlt : k < xs.length
    · rw [drop_get (Ty.dflt tCh) hlt, drop_get (xs := ys) (Ty.dflt tCh) (by omega)] at hs
      obtain ⟨c, hc⟩ : ∃ c, xs.getD k (Ty.dflt tCh) = c := ⟨_, rfl⟩
      obtain ⟨d, hd⟩ : ∃ d, ys.getD k (Ty.dflt tCh) = d := ⟨_, rfl⟩
      rw [hc, hd] at hs
      simp only [sameF] at hs
      (repeat' (first | refine And.intro ?_ ?_ | (intro h'; first | (exfalso; revert h'; decide) | (simp only [decide_eq_true_eq, decide_eq_false_iff_not, Bool.not_eq_true', Bool.not_eq_false', bne_iff_ne, beq_iff_eq, ne_eq, bne_eq_false_iff_eq, beq_eq_false_iff_ne, Int.reduceToNat, Int.toNat_natCast, Int.reduceAdd, Int.reduceSub, ByteArray.size_extract, hc, hd, Bool.and_true] at h'; first | (guard_hyp h' : True; clear h') | (exfalso; omega) | skip) | skip)))
      all_goals first | omega | kernel_rfl | skip
      · refine hN ?_
        rw [hs]
        cases e1 : decide (c.1 = d.1) <;> cases e2 : decide (c.2.1 = d.2.1) <;> simp_all
      · refine ⟨_, rfl, ⟨k + 1, a4, by omega, ?_⟩, ?_⟩
        · rw [hs]
          cases e1 : decide (c.1 = d.1) <;> cases e2 : decide (c.2.1 = d.2.1) <;> simp_all
        · simp only [a4, Int.toNat_natCast]; omega
    · (repeat' (first | refine And.intro ?_ ?_ | (intro h'; first | (exfalso; revert h'; decide) | (simp only [decide_eq_true_eq, decide_eq_false_iff_not, Bool.not_eq_true', Bool.not_eq_false', bne_iff_ne, beq_iff_eq, ne_eq, bne_eq_false_iff_eq, beq_eq_false_iff_ne, Int.reduceToNat, Int.toNat_natCast, Int.reduceAdd, Int.reduceSub, ByteArray.size_extract] at h'; first | (guard_hyp h' : True; clear h') | (exfalso; omega) | skip) | skip)))
      all_goals first | omega | skip
      refine hY ?_
      rw [hs, List.drop_eq_nil_of_le (by omega), List.drop_eq_nil_of_le (by omega)]; rfl
  · refine ⟨rfl, ?_⟩
    change K _ at h
    (repeat' (first | refine And.intro ?_ ?_ | (intro h'; first | (exfalso; revert h'; decide) | (simp only [decide_eq_true_eq, decide_eq_false_iff_not, Bool.not_eq_true', Bool.not_eq_false', bne_iff_ne, beq_iff_eq, ne_eq, bne_eq_false_iff_eq, beq_eq_false_iff_ne, Int.reduceToNat, Int.toNat_natCast, Int.reduceAdd, Int.reduceSub, ByteArray.size_extract] at h'; first | (guard_hyp h' : True; clear h') | (exfalso; omega) | skip) | skip)))
    refine ⟨Unit, [0, 1, 5], [], fun _ => ⟨[(0, .v (.slice none 0 0)), (1, .v (.slice none 0 0)), (5, .v (.int .i64 0))], [], 0⟩, fun _ => True, fun _ => 0, ⟨(), rfl, trivial⟩, fun _ _ => ?_⟩
    (repeat' (first | refine And.intro ?_ ?_ | (intro h'; first | (exfalso; revert h'; decide) | (simp only [decide_eq_true_eq, decide_eq_false_iff_not, Bool.not_eq_true', Bool.not_eq_false', bne_iff_ne, beq_iff_eq, ne_eq, bne_eq_false_iff_eq, beq_eq_false_iff_ne, Int.reduceToNat, Int.toNat_natCast, Int.reduceAdd, Int.reduceSub, ByteArray.size_extract] at h'; first | (guard_hyp h' : True; clear h') | (exfalso; omega) | skip) | skip)))
    exact h
  · exact h.elim
noncomputable def eSameCh : Ent Try.prog := Ent.of tt_ok mixed sameCh_l (by kernel_rfl)
end Go.Proofs.Ytmkbigaofhionaa
