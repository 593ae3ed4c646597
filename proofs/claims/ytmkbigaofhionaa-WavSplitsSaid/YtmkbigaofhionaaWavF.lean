/- A sound's format: formatOf, by the abstract machine. -/
import Derived.Test.YtmkbigaofhionaaWavR
namespace Go.Proofs.Ytmkbigaofhionaa
open Go.RowKit
set_option linter.unusedVariables false
set_option linter.unusedSimpArgs false

theorem bytesT_size (n : Nat) (w : Int) (big : Bool) : (bytesT n w big).size ≤ 8 := by
  unfold bytesT
  split
  · rename_i h
    rw [size_bytesS]
    unfold bytesE at h
    split at h
    · rename_i hw
      have := widthB_iff.1 hw
      omega
    · omega
  · exact Nat.zero_le _

def catP (s : ByteArray) : List tPart.Val → ByteArray
  | [] => s
  | p :: l => catP (s ++ bytesT (Int.toNat p.1) p.2.1 false) l
def formatS (a b c : Int) : ByteArray := catP ⟨#[]⟩ (partsF a b c)

theorem shape_frame {a b c : Int} (h : shapeB a b c = true) : 0 ≤ frameF a c ∧ frameF a c ≤ 64 := by
  unfold shapeB at h
  have h := of_decide_eq_true h
  unfold frameF
  obtain ⟨h1, h2, _, _, h5⟩ := h
  have e : ∃ m : Int, a * c = 8 * m ∧ 0 ≤ m ∧ m ≤ 64 := by
    rcases h5 with rfl | rfl | rfl | rfl
    · exact ⟨a, by omega, by omega, by omega⟩
    · exact ⟨2 * a, by omega, by omega, by omega⟩
    · exact ⟨3 * a, by omega, by omega, by omega⟩
    · exact ⟨4 * a, by omega, by omega, by omega⟩
  obtain ⟨m, e, h6, h7⟩ := e
  have e2 : IntKind.i64.wrap (8 * m) = 8 * m := IntWalk.i64_in _ (by omega)
  rw [e, e2, Int.tdiv_eq_ediv_of_nonneg (by omega), show 8 * m / 8 = m by omega, IntWalk.i64_in _ (by omega)]
  exact ⟨h6, h7⟩
theorem parts_pos {a b c : Int} (h : shapeB a b c = true) : ∀ p ∈ partsF a b c, 0 ≤ p.1 ∧ p.1 ≤ (9223372036854775807 : Int) := by
  obtain ⟨h1, h2⟩ := shape_frame h
  have h := of_decide_eq_true (by unfold shapeB at h; exact h)
  have h3 : 0 ≤ IntKind.i64.wrap (b * frameF a c) ∧ IntKind.i64.wrap (b * frameF a c) ≤ 9223372036854775807 := by
    have e1 : 0 ≤ b * frameF a c := Int.mul_nonneg (by omega) h1
    have e2 : b * frameF a c ≤ 16777216 * 64 := Int.mul_le_mul (by omega) h2 h1 (by omega)
    rw [IntWalk.i64_in _ (by omega)]; omega
  intro p hp
  simp only [partsF, List.mem_cons, List.not_mem_nil, or_false] at hp
  rcases hp with rfl | rfl | rfl | rfl | rfl | rfl
  · exact ⟨(by omega : (0 : Int) ≤ 1), (by omega : (1 : Int) ≤ 9223372036854775807)⟩
  · exact ⟨(by omega : (0 : Int) ≤ a), (by omega : a ≤ 9223372036854775807)⟩
  · exact ⟨(by omega : (0 : Int) ≤ b), (by omega : b ≤ 9223372036854775807)⟩
  · exact h3
  · exact ⟨h1, (by omega : frameF a c ≤ 9223372036854775807)⟩
  · exact ⟨(by omega : (0 : Int) ≤ c), (by omega : c ≤ 9223372036854775807)⟩

noncomputable def formatL : LSpec := soundL fun a b c d xs => .need (shapeB a b c = true) (.ok (.v (.string (formatS a b c))))
set_option maxHeartbeats 1000000 in
theorem format_l : LocalOK Try.prog (mkC tt [eParts, eNumber]) 74 formatL := by
  refine ⟨Try.f74, _, Try.func74, rfl, fun n0 args p K Z h => ?_⟩
  unfold formatL soundL at h; split at h
  · rename_i a b c d xs
    refine ⟨rfl, ?_⟩
    obtain ⟨hsh, h⟩ := h
    change K _ at h
    have hpos := parts_pos hsh
    (repeat' (first | refine And.intro ?_ ?_ | (intro h'; first | (exfalso; revert h'; decide) | (simp only [decide_eq_true_eq, decide_eq_false_iff_not, Bool.not_eq_true', Bool.not_eq_false', bne_iff_ne, beq_iff_eq, ne_eq, bne_eq_false_iff_eq, beq_eq_false_iff_ne, Int.reduceToNat, Int.toNat_natCast, Int.reduceAdd, Int.reduceSub, ByteArray.size_extract] at h'; first | (guard_hyp h' : True; clear h') | (exfalso; omega) | skip) | skip)))
    refine ⟨ByteArray × Int, [3, 7, 8, 9], [], fun | (s, k) => ⟨[(3, .v (.string s)), (7, .own 0), (8, .v (.int .i64 6)), (9, .v (.int .i64 k))], [(0, some (.row 132 tPart (partsF a b c)))], 1⟩,
      fun x => ∃ k : Nat, x.2 = k ∧ k ≤ 6 ∧ x.1.size ≤ 8 * k ∧ formatS a b c = catP x.1 ((partsF a b c).drop k), fun x => 6 - x.2.toNat, ⟨(⟨#[]⟩, 0), rfl, 0, rfl, by omega, Nat.zero_le _, rfl⟩, fun x hx => ?_⟩
    obtain ⟨s, x2⟩ := x
    obtain ⟨k, e2, hk, hsz, hl⟩ := hx
    change x2 = _ at e2
    change s.size ≤ _ at hsz
    change _ = catP s _ at hl
    subst e2
    have hL : (partsF a b c).length = 6 := rfl
    have a4 : IntKind.i64.wrap ((k : Int) + 1) = ((k + 1 : Nat) : Int) := by rw [IntWalk.i64_in _ (by omega)]; omega
    by_cases hlt : k < 6
    · rw [drop_get (Ty.dflt tPart) (by omega)] at hl
      have hp := hpos ((partsF a b c).getD k (Ty.dflt tPart)) (by rw [List.getD_eq_getElem?_getD, List.getElem?_eq_getElem (by omega), Option.getD_some]; exact List.getElem_mem _)
      obtain ⟨q, hq⟩ : ∃ q, (partsF a b c).getD k (Ty.dflt tPart) = q := ⟨_, rfl⟩
      rw [hq] at hl hp
      have hb := bytesT_size (Int.toNat q.1) q.2.1 false
      simp only [catP] at hl
      (repeat' (first | refine And.intro ?_ ?_ | (intro h'; first | (exfalso; revert h'; decide) | (simp only [decide_eq_true_eq, decide_eq_false_iff_not, Bool.not_eq_true', Bool.not_eq_false', bne_iff_ne, beq_iff_eq, ne_eq, bne_eq_false_iff_eq, beq_eq_false_iff_ne, Int.reduceToNat, Int.toNat_natCast, Int.reduceAdd, Int.reduceSub, ByteArray.size_extract, hq] at h'; first | (guard_hyp h' : True; clear h') | (exfalso; omega) | skip) | skip)))
      all_goals first | omega | (simp only [Int.toNat_natCast, hq]; first | exact hp.1 | exact hp.2 | omega) | skip
      refine ⟨(_, _), rfl, ⟨k + 1, a4, by omega, ?_, ?_⟩, ?_⟩
      · simp only [Int.toNat_natCast, hq, ByteArray.size_append]; omega
      · simp only [Int.toNat_natCast, hq]; exact hl
      · simp only [a4, Int.toNat_natCast]; omega
    · (repeat' (first | refine And.intro ?_ ?_ | (intro h'; first | (exfalso; revert h'; decide) | (simp only [decide_eq_true_eq, decide_eq_false_iff_not, Bool.not_eq_true', Bool.not_eq_false', bne_iff_ne, beq_iff_eq, ne_eq, bne_eq_false_iff_eq, beq_eq_false_iff_ne, Int.reduceToNat, Int.toNat_natCast, Int.reduceAdd, Int.reduceSub, ByteArray.size_extract] at h'; first | (guard_hyp h' : True; clear h') | (exfalso; omega) | skip) | skip)))
      all_goals first | omega | skip
      rw [hl, List.drop_eq_nil_of_le (by omega)] at h
      exact h
  · rename_i a b c d T xs
    refine ⟨rfl, ?_⟩
    obtain ⟨hsh, h⟩ := h
    change K _ at h
    have hpos := parts_pos hsh
    (repeat' (first | refine And.intro ?_ ?_ | (intro h'; first | (exfalso; revert h'; decide) | (simp only [decide_eq_true_eq, decide_eq_false_iff_not, Bool.not_eq_true', Bool.not_eq_false', bne_iff_ne, beq_iff_eq, ne_eq, bne_eq_false_iff_eq, beq_eq_false_iff_ne, Int.reduceToNat, Int.toNat_natCast, Int.reduceAdd, Int.reduceSub, ByteArray.size_extract] at h'; first | (guard_hyp h' : True; clear h') | (exfalso; omega) | skip) | skip)))
    refine ⟨ByteArray × Int, [3, 7, 8, 9], [], fun | (s, k) => ⟨[(3, .v (.string s)), (7, .own 1), (8, .v (.int .i64 6)), (9, .v (.int .i64 k))], [(0, some (.row T tCh xs)), (1, some (.row 132 tPart (partsF a b c)))], 2⟩,
      fun x => ∃ k : Nat, x.2 = k ∧ k ≤ 6 ∧ x.1.size ≤ 8 * k ∧ formatS a b c = catP x.1 ((partsF a b c).drop k), fun x => 6 - x.2.toNat, ⟨(⟨#[]⟩, 0), rfl, 0, rfl, by omega, Nat.zero_le _, rfl⟩, fun x hx => ?_⟩
    obtain ⟨s, x2⟩ := x
    obtain ⟨k, e2, hk, hsz, hl⟩ := hx
    change x2 = _ at e2
    change s.size ≤ _ at hsz
    change _ = catP s _ at hl
    subst e2
    have hL : (partsF a b c).length = 6 := rfl
    have a4 : IntKind.i64.wrap ((k : Int) + 1) = ((k + 1 : Nat) : Int) := by rw [IntWalk.i64_in _ (by omega)]; omega
    by_cases hlt : k < 6
    · rw [drop_get (Ty.dflt tPart) (by omega)] at hl
      have hp := hpos ((partsF a b c).getD k (Ty.dflt tPart)) (by rw [List.getD_eq_getElem?_getD, List.getElem?_eq_getElem (by omega), Option.getD_some]; exact List.getElem_mem _)
      obtain ⟨q, hq⟩ : ∃ q, (partsF a b c).getD k (Ty.dflt tPart) = q := ⟨_, rfl⟩
      rw [hq] at hl hp
      have hb := bytesT_size (Int.toNat q.1) q.2.1 false
      simp only [catP] at hl
      (repeat' (first | refine And.intro ?_ ?_ | (intro h'; first | (exfalso; revert h'; decide) | (simp only [decide_eq_true_eq, decide_eq_false_iff_not, Bool.not_eq_true', Bool.not_eq_false', bne_iff_ne, beq_iff_eq, ne_eq, bne_eq_false_iff_eq, beq_eq_false_iff_ne, Int.reduceToNat, Int.toNat_natCast, Int.reduceAdd, Int.reduceSub, ByteArray.size_extract, hq] at h'; first | (guard_hyp h' : True; clear h') | (exfalso; omega) | skip) | skip)))
      all_goals first | omega | (simp only [Int.toNat_natCast, hq]; first | exact hp.1 | exact hp.2 | omega) | skip
      refine ⟨(_, _), rfl, ⟨k + 1, a4, by omega, ?_, ?_⟩, ?_⟩
      · simp only [Int.toNat_natCast, hq, ByteArray.size_append]; omega
      · simp only [Int.toNat_natCast, hq]; exact hl
      · simp only [a4, Int.toNat_natCast]; omega
    · (repeat' (first | refine And.intro ?_ ?_ | (intro h'; first | (exfalso; revert h'; decide) | (simp only [decide_eq_true_eq, decide_eq_false_iff_not, Bool.not_eq_true', Bool.not_eq_false', bne_iff_ne, beq_iff_eq, ne_eq, bne_eq_false_iff_eq, beq_eq_false_iff_ne, Int.reduceToNat, Int.toNat_natCast, Int.reduceAdd, Int.reduceSub, ByteArray.size_extract] at h'; first | (guard_hyp h' : True; clear h') | (exfalso; omega) | skip) | skip)))
      all_goals first | omega | skip
      rw [hl, List.drop_eq_nil_of_le (by omega)] at h
      exact h
  · rename_i a b c d
    refine ⟨rfl, ?_⟩
    obtain ⟨hsh, h⟩ := h
    change K _ at h
    have hpos := parts_pos hsh
    (repeat' (first | refine And.intro ?_ ?_ | (intro h'; first | (exfalso; revert h'; decide) | (simp only [decide_eq_true_eq, decide_eq_false_iff_not, Bool.not_eq_true', Bool.not_eq_false', bne_iff_ne, beq_iff_eq, ne_eq, bne_eq_false_iff_eq, beq_eq_false_iff_ne, Int.reduceToNat, Int.toNat_natCast, Int.reduceAdd, Int.reduceSub, ByteArray.size_extract] at h'; first | (guard_hyp h' : True; clear h') | (exfalso; omega) | skip) | skip)))
    refine ⟨ByteArray × Int, [3, 7, 8, 9], [], fun | (s, k) => ⟨[(3, .v (.string s)), (7, .own 0), (8, .v (.int .i64 6)), (9, .v (.int .i64 k))], [(0, some (.row 132 tPart (partsF a b c)))], 1⟩,
      fun x => ∃ k : Nat, x.2 = k ∧ k ≤ 6 ∧ x.1.size ≤ 8 * k ∧ formatS a b c = catP x.1 ((partsF a b c).drop k), fun x => 6 - x.2.toNat, ⟨(⟨#[]⟩, 0), rfl, 0, rfl, by omega, Nat.zero_le _, rfl⟩, fun x hx => ?_⟩
    obtain ⟨s, x2⟩ := x
    obtain ⟨k, e2, hk, hsz, hl⟩ := hx
    change x2 = _ at e2
    change s.size ≤ _ at hsz
    change _ = catP s _ at hl
    subst e2
    have hL : (partsF a b c).length = 6 := rfl
    have a4 : IntKind.i64.wrap ((k : Int) + 1) = ((k + 1 : Nat) : Int) := by rw [IntWalk.i64_in _ (by omega)]; omega
    by_cases hlt : k < 6
    · rw [drop_get (Ty.dflt tPart) (by omega)] at hl
      have hp := hpos ((partsF a b c).getD k (Ty.dflt tPart)) (by rw [List.getD_eq_getElem?_getD, List.getElem?_eq_getElem (by omega), Option.getD_some]; exact List.getElem_mem _)
      obtain ⟨q, hq⟩ : ∃ q, (partsF a b c).getD k (Ty.dflt tPart) = q := ⟨_, rfl⟩
      rw [hq] at hl hp
      have hb := bytesT_size (Int.toNat q.1) q.2.1 false
      simp only [catP] at hl
      (repeat' (first | refine And.intro ?_ ?_ | (intro h'; first | (exfalso; revert h'; decide) | (simp only [decide_eq_true_eq, decide_eq_false_iff_not, Bool.not_eq_true', Bool.not_eq_false', bne_iff_ne, beq_iff_eq, ne_eq, bne_eq_false_iff_eq, beq_eq_false_iff_ne, Int.reduceToNat, Int.toNat_natCast, Int.reduceAdd, Int.reduceSub, ByteArray.size_extract, hq] at h'; first | (guard_hyp h' : True; clear h') | (exfalso; omega) | skip) | skip)))
      all_goals first | omega | (simp only [Int.toNat_natCast, hq]; first | exact hp.1 | exact hp.2 | omega) | skip
      refine ⟨(_, _), rfl, ⟨k + 1, a4, by omega, ?_, ?_⟩, ?_⟩
      · simp only [Int.toNat_natCast, hq, ByteArray.size_append]; omega
      · simp only [Int.toNat_natCast, hq]; exact hl
      · simp only [a4, Int.toNat_natCast]; omega
    · (repeat' (first | refine And.intro ?_ ?_ | (intro h'; first | (exfalso; revert h'; decide) | (simp only [decide_eq_true_eq, decide_eq_false_iff_not, Bool.not_eq_true', Bool.not_eq_false', bne_iff_ne, beq_iff_eq, ne_eq, bne_eq_false_iff_eq, beq_eq_false_iff_ne, Int.reduceToNat, Int.toNat_natCast, Int.reduceAdd, Int.reduceSub, ByteArray.size_extract] at h'; first | (guard_hyp h' : True; clear h') | (exfalso; omega) | skip) | skip)))
      all_goals first | omega | skip
      rw [hl, List.drop_eq_nil_of_le (by omega)] at h
      exact h
  · exact h.elim
noncomputable def eFormat : Ent Try.prog := Ent.of tt_ok mixed format_l (by kernel_rfl)
end Go.Proofs.Ytmkbigaofhionaa
