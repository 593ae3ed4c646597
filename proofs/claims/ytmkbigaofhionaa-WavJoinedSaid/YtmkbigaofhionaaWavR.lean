/- A sound's shape, frame, format, by the abstract machine. -/
import Derived.Test.YtmkbigaofhionaaWavO
namespace Go.Proofs.Ytmkbigaofhionaa
open Go.RowKit
set_option linter.unusedVariables false
set_option linter.unusedSimpArgs false

def bytesA : List AV → R AV
  | [.v (.int .u64 n), .v (.int .i64 width), .v (.bool big)] => .need (0 ≤ n ∧ n < 18446744073709551616) (.ok (.tup [.v (.string (bytesT n.toNat width big)), .v (.int .i64 (bytesE n.toNat width))]))
  | _ => .bad
theorem bytesA_ok : PureOK Try.prog 90 bytesA := by
  intro g w args cargs K Z hv h
  unfold bytesA at h
  split at h
  · rename_i n width big
    obtain ⟨⟨h0, h1⟩, h⟩ := h
    obtain ⟨r3, e3, hr3⟩ := hv.v1
    obtain ⟨r4, e4, hr4⟩ := hr3.v1
    obtain ⟨r5, e5, hr5⟩ := hr4.v1
    obtain e6 := VRels.nil.1 hr5
    subst e3 e4 e5 e6
    have := bytes_any n.toNat width big w (by omega)
    rw [Int.toNat_of_nonneg h0] at this
    exact this.mono fun e w' he => ⟨_, _, he.1, he.2, h, vr_tup (vrs_cons vr_v (vrs_cons vr_v vrs_nil))⟩
  · exact h.elim
noncomputable def eBytes : Ent Try.prog := Ent.pure bytesA_ok (by kernel_rfl)

/-- wav.number. -/
def numberL : LSpec := fun n0 args p => match n0, args, p with
  | 0, [.v (.int .i64 n), .v (.int .i64 width)], [] => .need (0 ≤ n ∧ n ≤ 9223372036854775807) (.ok (.v (.string (bytesT n.toNat width false)), []))
  | _, _, _ => .bad
theorem number_l : LocalOK Try.prog (mkC tt [eBytes]) 67 numberL := by
  refine ⟨Try.f67, _, Try.func67, rfl, fun n0 args p K Z h => ?_⟩
  unfold numberL at h; split at h
  · rename_i n width; refine ⟨rfl, ?_⟩
    obtain ⟨⟨h0, h1⟩, h⟩ := h
    have e1 : IntKind.u64.wrap n = n := by rw [IntKind.wrap_u64]; omega
    (repeat' (first | refine And.intro ?_ ?_ | (intro h'; first | (exfalso; revert h'; decide) | (simp only [decide_eq_true_eq, decide_eq_false_iff_not, Bool.not_eq_true', Bool.not_eq_false', bne_iff_ne, beq_iff_eq, ne_eq, bne_eq_false_iff_eq, beq_eq_false_iff_ne, Int.reduceToNat, Int.toNat_natCast, Int.reduceAdd, Int.reduceSub, ByteArray.size_extract] at h'; first | (guard_hyp h' : True; clear h') | (exfalso; omega) | skip) | skip)))
    all_goals first | (rw [e1]; omega) | skip
    rw [← e1] at h
    exact h
  · exact h.elim
noncomputable def eNumber : Ent Try.prog := Ent.of tt_ok mixed number_l (by kernel_rfl)

/-- A sound's shape is right. -/
def shapeB (ch rate bits : Int) : Bool := decide (1 ≤ ch ∧ ch ≤ 16 ∧ 1 ≤ rate ∧ rate ≤ 16777216 ∧ (bits = 8 ∨ bits = 16 ∨ bits = 24 ∨ bits = 32))
theorem and7 : ∀ n : Nat, n ≤ 32 → (bits .and .i64 (n : Int) 7 == 0) = decide (n % 8 = 0) := by decide +kernel
/-- A sound as an argument, its More seen in three ways. -/
noncomputable def soundL (F : Int → Int → Int → ByteArray → List tCh.Val → R AV) : LSpec := fun n0 args p => match n0, args, p with
  | 0, [.agg [.v (.int .i64 a), .v (.int .i64 b), .v (.int .i64 c), .v (.string d), .ro (.pair .str (.pair .str .unit)) xs]], [] => (F a b c d xs).bind fun r => .ok (r, [])
  | 1, [.agg [.v (.int .i64 a), .v (.int .i64 b), .v (.int .i64 c), .v (.string d), .own 0]], [(0, some (.row T (.pair .str (.pair .str .unit)) xs))] => (F a b c d xs).bind fun r => .ok (r, [(0, some (.row T (.pair .str (.pair .str .unit)) xs))])
  | 0, [.agg [.v (.int .i64 a), .v (.int .i64 b), .v (.int .i64 c), .v (.string d), .v (.slice none 0 0)]], [] => (F a b c d []).bind fun r => .ok (r, [])
  | _, _, _ => .bad

noncomputable def shapedL : LSpec := soundL fun a b c d xs => .ok (.v (.bool (shapeB a b c)))
set_option maxHeartbeats 1000000 in
theorem shaped_l : LocalOK Try.prog (mkC tt ga0) 72 shapedL := by
  refine ⟨Try.f72, _, Try.func72, rfl, fun n0 args p K Z h => ?_⟩
  unfold shapedL soundL at h; split at h
  · rename_i a b c d xs
    refine ⟨rfl, ?_⟩
    change K _ at h
    have hN : shapeB a b c = false → K (.v (.bool false), []) := fun e => by rw [e] at h; exact h
    have hQ : ∀ q, q = shapeB a b c → K (.v (.bool q), []) := fun q e => by rw [← e] at h; exact h
    clear h
    (repeat' (first | refine And.intro ?_ ?_ | (intro h'; first | (exfalso; revert h'; decide) | (simp only [decide_eq_true_eq, decide_eq_false_iff_not, Bool.not_eq_true', Bool.not_eq_false', bne_iff_ne, beq_iff_eq, ne_eq, bne_eq_false_iff_eq, beq_eq_false_iff_ne, Int.reduceToNat, Int.toNat_natCast, Int.reduceAdd, Int.reduceSub, ByteArray.size_extract] at h'; first | (guard_hyp h' : True; clear h') | (exfalso; omega) | skip) | skip)))
    · refine hQ _ ?_
      obtain ⟨n, rfl⟩ : ∃ n : Nat, c = n := ⟨c.toNat, by omega⟩
      rw [and7 n (by omega)]
      unfold shapeB
      rw [decide_eq_decide]; omega
    all_goals exact hN (by unfold shapeB; exact decide_eq_false (by omega))
  · rename_i a b c d T xs
    refine ⟨rfl, ?_⟩
    change K _ at h
    have hN : shapeB a b c = false → K (.v (.bool false), [(0, some (.row T tCh xs))]) := fun e => by rw [e] at h; exact h
    have hQ : ∀ q, q = shapeB a b c → K (.v (.bool q), [(0, some (.row T tCh xs))]) := fun q e => by rw [← e] at h; exact h
    clear h
    (repeat' (first | refine And.intro ?_ ?_ | (intro h'; first | (exfalso; revert h'; decide) | (simp only [decide_eq_true_eq, decide_eq_false_iff_not, Bool.not_eq_true', Bool.not_eq_false', bne_iff_ne, beq_iff_eq, ne_eq, bne_eq_false_iff_eq, beq_eq_false_iff_ne, Int.reduceToNat, Int.toNat_natCast, Int.reduceAdd, Int.reduceSub, ByteArray.size_extract] at h'; first | (guard_hyp h' : True; clear h') | (exfalso; omega) | skip) | skip)))
    · refine hQ _ ?_
      obtain ⟨n, rfl⟩ : ∃ n : Nat, c = n := ⟨c.toNat, by omega⟩
      rw [and7 n (by omega)]
      unfold shapeB
      rw [decide_eq_decide]; omega
    all_goals exact hN (by unfold shapeB; exact decide_eq_false (by omega))
  · rename_i a b c d
    refine ⟨rfl, ?_⟩
    change K _ at h
    have hN : shapeB a b c = false → K (.v (.bool false), []) := fun e => by rw [e] at h; exact h
    have hQ : ∀ q, q = shapeB a b c → K (.v (.bool q), []) := fun q e => by rw [← e] at h; exact h
    clear h
    (repeat' (first | refine And.intro ?_ ?_ | (intro h'; first | (exfalso; revert h'; decide) | (simp only [decide_eq_true_eq, decide_eq_false_iff_not, Bool.not_eq_true', Bool.not_eq_false', bne_iff_ne, beq_iff_eq, ne_eq, bne_eq_false_iff_eq, beq_eq_false_iff_ne, Int.reduceToNat, Int.toNat_natCast, Int.reduceAdd, Int.reduceSub, ByteArray.size_extract] at h'; first | (guard_hyp h' : True; clear h') | (exfalso; omega) | skip) | skip)))
    · refine hQ _ ?_
      obtain ⟨n, rfl⟩ : ∃ n : Nat, c = n := ⟨c.toNat, by omega⟩
      rw [and7 n (by omega)]
      unfold shapeB
      rw [decide_eq_decide]; omega
    all_goals exact hN (by unfold shapeB; exact decide_eq_false (by omega))
  · exact h.elim
noncomputable def eShaped : Ent Try.prog := Ent.of tt_ok mixed shaped_l (by kernel_rfl)

/-- The bytes of a frame. -/
def frameF (ch bits : Int) : Int := IntKind.i64.wrap ((IntKind.i64.wrap (ch * bits)).tdiv 8)
noncomputable def frameL : LSpec := soundL fun a b c d xs => .ok (.v (.int .i64 (frameF a c)))
theorem frame_l : LocalOK Try.prog (mkC tt ga0) 73 frameL := by
  refine ⟨Try.f73, _, Try.func73, rfl, fun n0 args p K Z h => ?_⟩
  unfold frameL soundL at h; split at h
  · rename_i a b c d xs
    refine ⟨rfl, ?_⟩
    change K _ at h
    (repeat' (first | refine And.intro ?_ ?_ | (intro h'; first | (exfalso; revert h'; decide) | (simp only [decide_eq_true_eq, decide_eq_false_iff_not, Bool.not_eq_true', Bool.not_eq_false', bne_iff_ne, beq_iff_eq, ne_eq, bne_eq_false_iff_eq, beq_eq_false_iff_ne, Int.reduceToNat, Int.toNat_natCast, Int.reduceAdd, Int.reduceSub, ByteArray.size_extract] at h'; first | (guard_hyp h' : True; clear h') | (exfalso; omega) | skip) | skip)))
    all_goals first | decide | exact h
  · rename_i a b c d T xs
    refine ⟨rfl, ?_⟩
    change K _ at h
    (repeat' (first | refine And.intro ?_ ?_ | (intro h'; first | (exfalso; revert h'; decide) | (simp only [decide_eq_true_eq, decide_eq_false_iff_not, Bool.not_eq_true', Bool.not_eq_false', bne_iff_ne, beq_iff_eq, ne_eq, bne_eq_false_iff_eq, beq_eq_false_iff_ne, Int.reduceToNat, Int.toNat_natCast, Int.reduceAdd, Int.reduceSub, ByteArray.size_extract] at h'; first | (guard_hyp h' : True; clear h') | (exfalso; omega) | skip) | skip)))
    all_goals first | decide | exact h
  · rename_i a b c d
    refine ⟨rfl, ?_⟩
    change K _ at h
    (repeat' (first | refine And.intro ?_ ?_ | (intro h'; first | (exfalso; revert h'; decide) | (simp only [decide_eq_true_eq, decide_eq_false_iff_not, Bool.not_eq_true', Bool.not_eq_false', bne_iff_ne, beq_iff_eq, ne_eq, bne_eq_false_iff_eq, beq_eq_false_iff_ne, Int.reduceToNat, Int.toNat_natCast, Int.reduceAdd, Int.reduceSub, ByteArray.size_extract] at h'; first | (guard_hyp h' : True; clear h') | (exfalso; omega) | skip) | skip)))
    all_goals first | decide | exact h
  · exact h.elim
noncomputable def eFrame : Ent Try.prog := Ent.of tt_ok mixed frame_l (by kernel_rfl)

abbrev tPart : Ty := ty132
def partsF (a b c : Int) : List tPart.Val := [(1, 2, ()), (a, 2, ()), (b, 4, ()), (IntKind.i64.wrap (b * frameF a c), 4, ()), (frameF a c, 2, ()), (c, 2, ())]
/-- parts: a new row of six. -/
def partsL : LSpec := fun n0 args p => match n0, args, p with
  | 0, [.agg [.v (.int .i64 a), .v (.int .i64 b), .v (.int .i64 c), .v (.string d), .ro (.pair .str (.pair .str .unit)) xs]], [] => .ok (.own 0, [(0, some (.row 132 tPart (partsF a b c)))])
  | 1, [.agg [.v (.int .i64 a), .v (.int .i64 b), .v (.int .i64 c), .v (.string d), .own 0]], [(0, some (.row T (.pair .str (.pair .str .unit)) xs))] => .ok (.own 1, [(0, some (.row T (.pair .str (.pair .str .unit)) xs)), (1, some (.row 132 tPart (partsF a b c)))])
  | 0, [.agg [.v (.int .i64 a), .v (.int .i64 b), .v (.int .i64 c), .v (.string d), .v (.slice none 0 0)]], [] => .ok (.own 0, [(0, some (.row 132 tPart (partsF a b c)))])
  | _, _, _ => .bad
set_option maxHeartbeats 1000000 in
theorem parts_l : LocalOK Try.prog (mkC tt [eFrame]) 92 partsL := by
  refine ⟨Try.f92, _, Try.func92, rfl, fun n0 args p K Z h => ?_⟩
  unfold partsL at h; split at h
  · rename_i a b c d xs
    refine ⟨rfl, ?_⟩
    change K _ at h
    (repeat' (first | refine And.intro ?_ ?_ | (intro h'; first | (exfalso; revert h'; decide) | (simp only [decide_eq_true_eq, decide_eq_false_iff_not, Bool.not_eq_true', Bool.not_eq_false', bne_iff_ne, beq_iff_eq, ne_eq, bne_eq_false_iff_eq, beq_eq_false_iff_ne, Int.reduceToNat, Int.toNat_natCast, Int.reduceAdd, Int.reduceSub, ByteArray.size_extract] at h'; first | (guard_hyp h' : True; clear h') | (exfalso; omega) | skip) | skip)))
    all_goals first | kernel_rfl | decide | exact h
  · rename_i a b c d T xs
    refine ⟨rfl, ?_⟩
    change K _ at h
    (repeat' (first | refine And.intro ?_ ?_ | (intro h'; first | (exfalso; revert h'; decide) | (simp only [decide_eq_true_eq, decide_eq_false_iff_not, Bool.not_eq_true', Bool.not_eq_false', bne_iff_ne, beq_iff_eq, ne_eq, bne_eq_false_iff_eq, beq_eq_false_iff_ne, Int.reduceToNat, Int.toNat_natCast, Int.reduceAdd, Int.reduceSub, ByteArray.size_extract] at h'; first | (guard_hyp h' : True; clear h') | (exfalso; omega) | skip) | skip)))
    all_goals first | kernel_rfl | decide | exact h
  · rename_i a b c d
    refine ⟨rfl, ?_⟩
    change K _ at h
    (repeat' (first | refine And.intro ?_ ?_ | (intro h'; first | (exfalso; revert h'; decide) | (simp only [decide_eq_true_eq, decide_eq_false_iff_not, Bool.not_eq_true', Bool.not_eq_false', bne_iff_ne, beq_iff_eq, ne_eq, bne_eq_false_iff_eq, beq_eq_false_iff_ne, Int.reduceToNat, Int.toNat_natCast, Int.reduceAdd, Int.reduceSub, ByteArray.size_extract] at h'; first | (guard_hyp h' : True; clear h') | (exfalso; omega) | skip) | skip)))
    all_goals first | kernel_rfl | decide | exact h
  · exact h.elim
noncomputable def eParts : Ent Try.prog := Ent.of tt_ok mixed parts_l (by kernel_rfl)
end Go.Proofs.Ytmkbigaofhionaa
