/- The reference's All; IndexFunc over types; by the abstract machine. -/
import Derived.Test.YtmkbigaofhionaaWavG
namespace Go.Proofs.Ytmkbigaofhionaa
open Go.RowKit
set_option linter.unusedVariables false
set_option linter.unusedSimpArgs false

def fmtT : ByteArray := ⟨#[102, 109, 116, 32]⟩
def datT : ByteArray := ⟨#[100, 97, 116, 97]⟩
def allF (a b c : Int) (d : ByteArray) (xs : List tCh.Val) : List tCh.Val := (fmtT, formatS a b c, ()) :: (datT, d, ()) :: xs
def allL : LSpec := fun n0 args p => match n0, args, p with
  | 0, [.agg [.v (.int .i64 a), .v (.int .i64 b), .v (.int .i64 c), .v (.string d), .ro (.pair .str (.pair .str .unit)) xs]], [] => .need (shapeB a b c = true ∧ xs.length ≤ 1000000000) (.ok (.own 0, [(0, some (.row 68 tCh (allF a b c d xs)))]))
  | 1, [.agg [.v (.int .i64 a), .v (.int .i64 b), .v (.int .i64 c), .v (.string d), .own 0]], [(0, some (.row T (.pair .str (.pair .str .unit)) xs))] => .need (shapeB a b c = true ∧ xs.length ≤ 1000000000) (.ok (.own 1, [(0, some (.row T (.pair .str (.pair .str .unit)) xs)), (1, some (.row 68 tCh (allF a b c d xs)))]))
  | 0, [.agg [.v (.int .i64 a), .v (.int .i64 b), .v (.int .i64 c), .v (.string d), .v (.slice none 0 0)]], [] => .need (shapeB a b c = true) (.ok (.own 0, [(0, some (.row 68 tCh (allF a b c d [])))]))
  | _, _, _ => .bad
set_option maxHeartbeats 1000000 in
theorem all_l : LocalOK Try.prog (mkC tt [eRFormat]) 76 allL := by
  refine ⟨Try.f76, _, Try.func76, rfl, fun n0 args p K Z h => ?_⟩
  unfold allL at h; split at h
  · rename_i a b c d xs
    refine ⟨rfl, ?_⟩
    obtain ⟨⟨hsh, hlen⟩, h⟩ := h
    (repeat' (first | refine And.intro ?_ ?_ | (intro h'; first | (exfalso; revert h'; decide) | (simp only [decide_eq_true_eq, decide_eq_false_iff_not, Bool.not_eq_true', Bool.not_eq_false', bne_iff_ne, beq_iff_eq, ne_eq, bne_eq_false_iff_eq, beq_eq_false_iff_ne, Int.reduceToNat, Int.toNat_natCast, Int.reduceAdd, Int.reduceSub, ByteArray.size_extract] at h'; first | (guard_hyp h' : True; clear h') | (exfalso; omega) | skip) | skip)))
    all_goals first | exact hsh | kernel_rfl | decide | skip
    all_goals first | (change 2 * 32 ≤ 140737488355328; omega) | (change (2 + xs.length) * 32 ≤ 140737488355328; omega) | exact h
  · rename_i a b c d T xs
    refine ⟨rfl, ?_⟩
    obtain ⟨⟨hsh, hlen⟩, h⟩ := h
    (repeat' (first | refine And.intro ?_ ?_ | (intro h'; first | (exfalso; revert h'; decide) | (simp only [decide_eq_true_eq, decide_eq_false_iff_not, Bool.not_eq_true', Bool.not_eq_false', bne_iff_ne, beq_iff_eq, ne_eq, bne_eq_false_iff_eq, beq_eq_false_iff_ne, Int.reduceToNat, Int.toNat_natCast, Int.reduceAdd, Int.reduceSub, ByteArray.size_extract] at h'; first | (guard_hyp h' : True; clear h') | (exfalso; omega) | skip) | skip)))
    all_goals first | exact hsh | kernel_rfl | decide | skip
    all_goals first | (change 2 * 32 ≤ 140737488355328; omega) | (change (2 + xs.length) * 32 ≤ 140737488355328; omega) | exact h
  · rename_i a b c d
    refine ⟨rfl, ?_⟩
    obtain ⟨hsh, h⟩ := h
    (repeat' (first | refine And.intro ?_ ?_ | (intro h'; first | (exfalso; revert h'; decide) | (simp only [decide_eq_true_eq, decide_eq_false_iff_not, Bool.not_eq_true', Bool.not_eq_false', bne_iff_ne, beq_iff_eq, ne_eq, bne_eq_false_iff_eq, beq_eq_false_iff_ne, Int.reduceToNat, Int.toNat_natCast, Int.reduceAdd, Int.reduceSub, ByteArray.size_extract] at h'; first | (guard_hyp h' : True; clear h') | (exfalso; omega) | skip) | skip)))
    all_goals first | exact hsh | kernel_rfl | decide | skip
    all_goals first | (change 2 * 32 ≤ 140737488355328; omega) | (change (2 + 0) * 32 ≤ 140737488355328; omega) | exact h
  · exact h.elim
noncomputable def eAll : Ent Try.prog := Ent.of tt_ok mixed all_l (by kernel_rfl)

theorem refTypeA_ok : PureOK Try.prog 61 isTypeA := by
  intro g w args cargs K Z hv h
  unfold isTypeA at h
  split at h
  · rename_i s
    obtain ⟨r, rfl, hr⟩ := hv.v1
    obtain rfl := VRels.nil.1 hr
    exact (refType_any s w h.1).mono fun e w' he => ⟨_, _, he.1, he.2 ▸ bel_refl w, h.2, vr_v⟩
  · exact h.elim
noncomputable def eRType : Ent Try.prog := Ent.pure refTypeA_ok (by kernel_rfl)

/-- Join's function: is a chunk's type none? -/
def noTypeL : LSpec := fun n0 args p => match n0, args, p with
  | 0, [.agg [.v (.string a), .v (.string b)]], [] => .need (a.size ≤ 140737488351232) (.ok (.v (.bool (!typeB a)), []))
  | _, _, _ => .bad
theorem noType_l : LocalOK Try.prog (mkC tt [eIsType]) 65 noTypeL := by
  refine ⟨Try.f65, _, Try.func65, rfl, fun n0 args p K Z h => ?_⟩
  unfold noTypeL at h; split at h
  · rename_i a b
    refine ⟨rfl, ?_⟩
    obtain ⟨hs, h⟩ := h
    (repeat' (first | refine And.intro ?_ ?_ | (intro h'; first | (exfalso; revert h'; decide) | (simp only [decide_eq_true_eq, decide_eq_false_iff_not, Bool.not_eq_true', Bool.not_eq_false', bne_iff_ne, beq_iff_eq, ne_eq, bne_eq_false_iff_eq, beq_eq_false_iff_ne, Int.reduceToNat, Int.toNat_natCast, Int.reduceAdd, Int.reduceSub, ByteArray.size_extract] at h'; first | (guard_hyp h' : True; clear h') | (exfalso; omega) | skip) | skip)))
    all_goals first | exact hs | exact h
  · exact h.elim
noncomputable def eNoType : Ent Try.prog := Ent.of tt_ok mixed noType_l (by kernel_rfl)

/-- Have all chunks a type? -/
def typesF : List tCh.Val → Bool
  | [] => true
  | c :: l => typeB c.1 && typesF l
def smallT : List tCh.Val → Prop
  | [] => True
  | c :: l => ByteArray.size c.1 ≤ 140737488351232 ∧ smallT l
theorem smallT_get {xs : List tCh.Val} (h : smallT xs) (k : Nat) (hk : k < xs.length) : ByteArray.size (xs.getD k (Ty.dflt tCh)).1 ≤ 140737488351232 := by
  induction xs generalizing k with
  | nil => simp at hk
  | cons c l ih =>
    cases k with
    | zero => exact h.1
    | succ k => exact ih h.2 k (by simpa using hk)

def indexR (xs : List tCh.Val) (p : Pat) : R (AV × Pat) := .need (smallT xs ∧ xs.length ≤ 1000000000) (.br (typesF xs) (.ok (.v (.bool false), p)) (.ok (.v (.bool true), p)))
/-- ContainsFunc with Join's function. -/
def containsL : LSpec := fun n0 args p => match n0, args, p with
  | 0, [.ro (.pair .str (.pair .str .unit)) xs, .clo (.func 65) []], [] => indexR xs []
  | 1, [.own 0, .clo (.func 65) []], [(0, some (.row T (.pair .str (.pair .str .unit)) xs))] => indexR xs [(0, some (.row T (.pair .str (.pair .str .unit)) xs))]
  | 0, [.v (.slice none 0 0), .clo (.func 65) []], [] => .ok (.v (.bool false), [])
  | _, _, _ => .bad
/-- IndexFunc with Join's function: not below zero where some chunk has no type. -/
def idxF (k : Nat) : List tCh.Val → Int
  | [] => -1
  | c :: l => if typeB c.1 = true then idxF (k + 1) l else k
theorem idxF_iff : ∀ (l : List tCh.Val) (k : Nat), 0 ≤ idxF k l ↔ typesF l = false
  | [], k => by simp [idxF, typesF]
  | c :: l, k => by
    by_cases h : typeB c.1 = true
    · have e1 : idxF k (c :: l) = idxF (k + 1) l := by rw [idxF, if_pos h]
      have e2 : typesF (c :: l) = typesF l := by rw [typesF, h, Bool.true_and]
      rw [e1, e2]; exact idxF_iff l (k + 1)
    · have e1 : idxF k (c :: l) = k := by rw [idxF, if_neg h]
      have h' : typeB c.1 = false := by simpa using h
      have e2 : typesF (c :: l) = false := by rw [typesF, h', Bool.false_and]
      rw [e1, e2]; simp
theorem idxF_types (l : List tCh.Val) (k : Nat) : decide (idxF k l ≥ 0) = !typesF l := by
  have := idxF_iff l k
  cases h : typesF l with
  | true => rw [h] at this; exact decide_eq_false (fun e => by have := this.1 e; cases this)
  | false => rw [h] at this; exact decide_eq_true (this.2 rfl)
def idxR (xs : List tCh.Val) (p : Pat) : R (AV × Pat) := .need (smallT xs ∧ xs.length ≤ 1000000000) (.ok (.v (.int .i64 (idxF 0 xs)), p))
def idxL : LSpec := fun n0 args p => match n0, args, p with
  | 0, [.ro (.pair .str (.pair .str .unit)) xs, .clo (.func 65) []], [] => idxR xs []
  | 1, [.own 0, .clo (.func 65) []], [(0, some (.row T (.pair .str (.pair .str .unit)) xs))] => idxR xs [(0, some (.row T (.pair .str (.pair .str .unit)) xs))]
  | 0, [.v (.slice none 0 0), .clo (.func 65) []], [] => .ok (.v (.int .i64 (-1)), [])
  | _, _, _ => .bad
set_option maxHeartbeats 1000000 in
theorem idx_l : LocalOK Try.prog (mkC tt [eNoType]) 88 idxL := by
  refine ⟨Try.f88, _, Try.func88, rfl, fun n0 args p K Z h => ?_⟩
  unfold idxL at h; split at h
  · rename_i xs
    refine ⟨rfl, ?_⟩
    obtain ⟨⟨hsm, hlen⟩, h⟩ := h
    change K _ at h
    (repeat' (first | refine And.intro ?_ ?_ | (intro h'; first | (exfalso; revert h'; decide) | (simp only [decide_eq_true_eq, decide_eq_false_iff_not, Bool.not_eq_true', Bool.not_eq_false', bne_iff_ne, beq_iff_eq, ne_eq, bne_eq_false_iff_eq, beq_eq_false_iff_ne, Int.reduceToNat, Int.toNat_natCast, Int.reduceAdd, Int.reduceSub, ByteArray.size_extract] at h'; first | (guard_hyp h' : True; clear h') | (exfalso; omega) | skip) | skip)))
    refine ⟨Int, [0, 1, 7, 8], [], fun k => ⟨[(0, .ro tCh xs), (1, .clo (.func 65) []), (7, .v (.int .i64 (xs.length : Nat))), (8, .v (.int .i64 k))], [], 0⟩, fun x => ∃ k : Nat, x = k ∧ k ≤ xs.length ∧ idxF 0 xs = idxF k (xs.drop k), fun x => xs.length - x.toNat, ⟨0, rfl, 0, rfl, Nat.zero_le _, rfl⟩, fun x hx => ?_⟩
    obtain ⟨k, rfl, hk, hl⟩ := hx
    have a4 : IntKind.i64.wrap ((k : Int) + 1) = ((k + 1 : Nat) : Int) := by rw [IntWalk.i64_in _ (by omega)]; omega
    by_cases hlt : k < xs.length
    · have hs := smallT_get hsm k hlt
      rw [drop_get (Ty.dflt tCh) hlt] at hl
      obtain ⟨c, hc⟩ : ∃ c, xs.getD k (Ty.dflt tCh) = c := ⟨_, rfl⟩
      rw [hc] at hl hs
      simp only [idxF] at hl
      (repeat' (first | refine And.intro ?_ ?_ | (intro h'; first | (exfalso; revert h'; decide) | (simp only [decide_eq_true_eq, decide_eq_false_iff_not, Bool.not_eq_true', Bool.not_eq_false', bne_iff_ne, beq_iff_eq, ne_eq, bne_eq_false_iff_eq, beq_eq_false_iff_ne, Int.reduceToNat, Int.toNat_natCast, Int.reduceAdd, Int.reduceSub, ByteArray.size_extract, hc] at h'; first | (guard_hyp h' : True; clear h') | (exfalso; omega) | skip) | skip)))
      all_goals first | omega | (rw [Int.toNat_natCast, hc]; exact hs) | kernel_rfl | skip
      · rename_i ht
        have e : idxF 0 xs = k := by rw [hl, if_neg (by simp_all)]
        rw [e] at h
        exact h
      · refine ⟨_, rfl, ⟨k + 1, a4, by omega, ?_⟩, ?_⟩
        · rw [hl, if_pos (by simp_all)]
        · simp only [a4, Int.toNat_natCast]; omega
    · (repeat' (first | refine And.intro ?_ ?_ | (intro h'; first | (exfalso; revert h'; decide) | (simp only [decide_eq_true_eq, decide_eq_false_iff_not, Bool.not_eq_true', Bool.not_eq_false', bne_iff_ne, beq_iff_eq, ne_eq, bne_eq_false_iff_eq, beq_eq_false_iff_ne, Int.reduceToNat, Int.toNat_natCast, Int.reduceAdd, Int.reduceSub, ByteArray.size_extract] at h'; first | (guard_hyp h' : True; clear h') | (exfalso; omega) | skip) | skip)))
      all_goals first | omega | skip
      rw [hl, List.drop_eq_nil_of_le (by omega)] at h
      exact h
  · rename_i T xs
    refine ⟨rfl, ?_⟩
    obtain ⟨⟨hsm, hlen⟩, h⟩ := h
    change K _ at h
    (repeat' (first | refine And.intro ?_ ?_ | (intro h'; first | (exfalso; revert h'; decide) | (simp only [decide_eq_true_eq, decide_eq_false_iff_not, Bool.not_eq_true', Bool.not_eq_false', bne_iff_ne, beq_iff_eq, ne_eq, bne_eq_false_iff_eq, beq_eq_false_iff_ne, Int.reduceToNat, Int.toNat_natCast, Int.reduceAdd, Int.reduceSub, ByteArray.size_extract] at h'; first | (guard_hyp h' : True; clear h') | (exfalso; omega) | skip) | skip)))
    refine ⟨Int, [0, 1, 7, 8], [], fun k => ⟨[(0, .own 0), (1, .clo (.func 65) []), (7, .v (.int .i64 (xs.length : Nat))), (8, .v (.int .i64 k))], [(0, some (.row T tCh xs))], 1⟩, fun x => ∃ k : Nat, x = k ∧ k ≤ xs.length ∧ idxF 0 xs = idxF k (xs.drop k), fun x => xs.length - x.toNat, ⟨0, rfl, 0, rfl, Nat.zero_le _, rfl⟩, fun x hx => ?_⟩
    obtain ⟨k, rfl, hk, hl⟩ := hx
    have a4 : IntKind.i64.wrap ((k : Int) + 1) = ((k + 1 : Nat) : Int) := by rw [IntWalk.i64_in _ (by omega)]; omega
    by_cases hlt : k < xs.length
    · have hs := smallT_get hsm k hlt
      rw [drop_get (Ty.dflt tCh) hlt] at hl
      obtain ⟨c, hc⟩ : ∃ c, xs.getD k (Ty.dflt tCh) = c := ⟨_, rfl⟩
      rw [hc] at hl hs
      simp only [idxF] at hl
      (repeat' (first | refine And.intro ?_ ?_ | (intro h'; first | (exfalso; revert h'; decide) | (simp only [decide_eq_true_eq, decide_eq_false_iff_not, Bool.not_eq_true', Bool.not_eq_false', bne_iff_ne, beq_iff_eq, ne_eq, bne_eq_false_iff_eq, beq_eq_false_iff_ne, Int.reduceToNat, Int.toNat_natCast, Int.reduceAdd, Int.reduceSub, ByteArray.size_extract, hc] at h'; first | (guard_hyp h' : True; clear h') | (exfalso; omega) | skip) | skip)))
      all_goals first | omega | (rw [Int.toNat_natCast, hc]; exact hs) | kernel_rfl | skip
      · rename_i ht
        have e : idxF 0 xs = k := by rw [hl, if_neg (by simp_all)]
        rw [e] at h
        exact h
      · refine ⟨_, rfl, ⟨k + 1, a4, by omega, ?_⟩, ?_⟩
        · rw [hl, if_pos (by simp_all)]
        · simp only [a4, Int.toNat_natCast]; omega
    · (repeat' (first | refine And.intro ?_ ?_ | (intro h'; first | (exfalso; revert h'; decide) | (simp only [decide_eq_true_eq, decide_eq_false_iff_not, Bool.not_eq_true', Bool.not_eq_false', bne_iff_ne, beq_iff_eq, ne_eq, bne_eq_false_iff_eq, beq_eq_false_iff_ne, Int.reduceToNat, Int.toNat_natCast, Int.reduceAdd, Int.reduceSub, ByteArray.size_extract] at h'; first | (guard_hyp h' : True; clear h') | (exfalso; omega) | skip) | skip)))
      all_goals first | omega | skip
      rw [hl, List.drop_eq_nil_of_le (by omega)] at h
      exact h
  · refine ⟨rfl, ?_⟩
    change K _ at h
    (repeat' (first | refine And.intro ?_ ?_ | (intro h'; first | (exfalso; revert h'; decide) | (simp only [decide_eq_true_eq, decide_eq_false_iff_not, Bool.not_eq_true', Bool.not_eq_false', bne_iff_ne, beq_iff_eq, ne_eq, bne_eq_false_iff_eq, beq_eq_false_iff_ne, Int.reduceToNat, Int.toNat_natCast, Int.reduceAdd, Int.reduceSub, ByteArray.size_extract] at h'; first | (guard_hyp h' : True; clear h') | (exfalso; omega) | skip) | skip)))
    refine ⟨Unit, [0, 1, 7, 8], [], fun _ => ⟨[(0, .v (.slice none 0 0)), (1, .clo (.func 65) []), (7, .v (.int .i64 0)), (8, .v (.int .i64 0))], [], 0⟩, fun _ => True, fun _ => 0, ⟨(), rfl, trivial⟩, fun _ _ => ?_⟩
    (repeat' (first | refine And.intro ?_ ?_ | (intro h'; first | (exfalso; revert h'; decide) | (simp only [decide_eq_true_eq, decide_eq_false_iff_not, Bool.not_eq_true', Bool.not_eq_false', bne_iff_ne, beq_iff_eq, ne_eq, bne_eq_false_iff_eq, beq_eq_false_iff_ne, Int.reduceToNat, Int.toNat_natCast, Int.reduceAdd, Int.reduceSub, ByteArray.size_extract] at h'; first | (guard_hyp h' : True; clear h') | (exfalso; omega) | skip) | skip)))
    exact h
  · exact h.elim
noncomputable def eIdx : Ent Try.prog := Ent.of tt_ok mixed idx_l (by kernel_rfl)
set_option maxHeartbeats 1000000 in
theorem contains_l : LocalOK Try.prog (mkC tt [eIdx]) 64 containsL := by
  refine ⟨Try.f64, _, Try.func64, rfl, fun n0 args p K Z h => ?_⟩
  unfold containsL at h; split at h
  · rename_i xs
    refine ⟨rfl, ?_⟩
    obtain ⟨hneed, h⟩ := h
    have hN : typesF xs = true → K (.v (.bool false), _) := fun e => h.1 e
    have hY : typesF xs = false → K (.v (.bool true), _) := fun e => h.2 e
    clear h
    have hi := idxF_types xs 0
    (repeat' (first | refine And.intro ?_ ?_ | (intro h'; first | (exfalso; revert h'; decide) | (simp only [decide_eq_true_eq, decide_eq_false_iff_not, Bool.not_eq_true', Bool.not_eq_false', bne_iff_ne, beq_iff_eq, ne_eq, bne_eq_false_iff_eq, beq_eq_false_iff_ne, Int.reduceToNat, Int.toNat_natCast, Int.reduceAdd, Int.reduceSub, ByteArray.size_extract, hi] at h'; first | (guard_hyp h' : True; clear h') | (exfalso; omega) | skip) | skip)))
    · exact hneed.1
    · exact hneed.2
    all_goals
      cases ht : typesF xs with
      | true =>
        have := hN ht
        rw [ht] at hi
        refine K_of (K := K) this ?_
        rw [hi]; rfl
      | false =>
        have := hY ht
        rw [ht] at hi
        refine K_of (K := K) this ?_
        rw [hi]; rfl
  · rename_i T xs
    refine ⟨rfl, ?_⟩
    obtain ⟨hneed, h⟩ := h
    have hN : typesF xs = true → K (.v (.bool false), _) := fun e => h.1 e
    have hY : typesF xs = false → K (.v (.bool true), _) := fun e => h.2 e
    clear h
    have hi := idxF_types xs 0
    (repeat' (first | refine And.intro ?_ ?_ | (intro h'; first | (exfalso; revert h'; decide) | (simp only [decide_eq_true_eq, decide_eq_false_iff_not, Bool.not_eq_true', Bool.not_eq_false', bne_iff_ne, beq_iff_eq, ne_eq, bne_eq_false_iff_eq, beq_eq_false_iff_ne, Int.reduceToNat, Int.toNat_natCast, Int.reduceAdd, Int.reduceSub, ByteArray.size_extract, hi] at h'; first | (guard_hyp h' : True; clear h') | (exfalso; omega) | skip) | skip)))
    · exact hneed.1
    · exact hneed.2
    all_goals
      cases ht : typesF xs with
      | true =>
        have := hN ht
        rw [ht] at hi
        refine K_of (K := K) this ?_
        rw [hi]; rfl
      | false =>
        have := hY ht
        rw [ht] at hi
        refine K_of (K := K) this ?_
        rw [hi]; rfl
  · refine ⟨rfl, ?_⟩
    change K _ at h
    (repeat' (first | refine And.intro ?_ ?_ | (intro h'; first | (exfalso; revert h'; decide) | (simp only [decide_eq_true_eq, decide_eq_false_iff_not, Bool.not_eq_true', Bool.not_eq_false', bne_iff_ne, beq_iff_eq, ne_eq, bne_eq_false_iff_eq, beq_eq_false_iff_ne, Int.reduceToNat, Int.toNat_natCast, Int.reduceAdd, Int.reduceSub, ByteArray.size_extract] at h'; first | (guard_hyp h' : True; clear h') | (exfalso; omega) | skip) | skip)))
    exact h
  · exact h.elim
noncomputable def eContains : Ent Try.prog := Ent.of tt_ok mixed contains_l (by kernel_rfl)
end Go.Proofs.Ytmkbigaofhionaa
