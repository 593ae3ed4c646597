/- mortiselaw19.live: a sound goes there and back. -/
import Derived.Test.YtmkbigaofhionaaWavY
namespace Go.Proofs.Ytmkbigaofhionaa
open Go.RowKit
set_option linter.unusedVariables false
set_option linter.unusedSimpArgs false

noncomputable def eWriteL : Ent Try.prog := eWrite.lend [shS]
noncomputable def eRWriteL : Ent Try.prog := eRWrite.lend [shS]

def abcT : ByteArray := ⟨#[97, 98, 99]⟩
def liveT : ByteArray := fileF waveT ((longF 12 (allF 1 8000 8 abcT [])).getD 0) (allF 1 8000 8 abcT [])
theorem live_1 : mayB 1 8000 8 abcT [] = true := by decide +kernel
theorem live_2 : liveT.size = 48 := by decide +kernel
theorem live_3 : readS liveT = (0, (1, 8000, 8), abcT, none) := by kernel_rfl
theorem live_4 : (splitS liveT).2.2 = 0 := by decide +kernel
theorem live_5 : (splitS liveT).1 = ⟨#[87, 65, 86, 69]⟩ := by decide +kernel
theorem live_6 : ((splitS liveT).2.1.map tuC).length = 2 := by decide +kernel
theorem live_7 : joinOK abcT [] = false := by decide +kernel

def liveL : LSpec := fun n0 args p => match n0, args, p with
  | 0, [], [] => .ok (.v (.bool true), [])
  | _, _, _ => .bad
set_option maxHeartbeats 1000000 in
theorem live_l : LocalOK Try.prog (mkC tt [eWriteL, eRead, eSplit, eJoin, eSame]) 32 liveL := by
  refine ⟨Try.f32, _, Try.func32, rfl, fun n0 args p K Z h => ?_⟩
  unfold liveL at h; split at h
  · refine ⟨rfl, ?_⟩
    change K _ at h
    have l1 : mayB 1 8000 8 ⟨#[97, 98, 99]⟩ [] = true := live_1
    have l7 : joinOK ⟨#[97, 98, 99]⟩ [] = false := live_7
    have l2 : (fileF waveT ((longF 12 (allF 1 8000 8 ⟨#[97, 98, 99]⟩ [])).getD 0) (allF 1 8000 8 ⟨#[97, 98, 99]⟩ [])).size = 48 := live_2
    have l3 : readS (fileF waveT ((longF 12 (allF 1 8000 8 ⟨#[97, 98, 99]⟩ [])).getD 0) (allF 1 8000 8 ⟨#[97, 98, 99]⟩ [])) = (0, (1, 8000, 8), ⟨#[97, 98, 99]⟩, none) := live_3
    have l4 : (splitS (fileF waveT ((longF 12 (allF 1 8000 8 ⟨#[97, 98, 99]⟩ [])).getD 0) (allF 1 8000 8 ⟨#[97, 98, 99]⟩ []))).2.2 = 0 := live_4
    have l5 : (splitS (fileF waveT ((longF 12 (allF 1 8000 8 ⟨#[97, 98, 99]⟩ [])).getD 0) (allF 1 8000 8 ⟨#[97, 98, 99]⟩ []))).1 = ⟨#[87, 65, 86, 69]⟩ := live_5
    have l6 : ((splitS (fileF waveT ((longF 12 (allF 1 8000 8 ⟨#[97, 98, 99]⟩ [])).getD 0) (allF 1 8000 8 ⟨#[97, 98, 99]⟩ []))).2.1.map tuC).length = 2 := live_6
    (repeat' (first | refine And.intro ?_ ?_ | (intro h'; first | (exfalso; revert h'; decide) | (simp only [decide_eq_true_eq, decide_eq_false_iff_not, Bool.not_eq_true', Bool.not_eq_false', bne_iff_ne, beq_iff_eq, ne_eq, bne_eq_false_iff_eq, beq_eq_false_iff_ne, Int.reduceToNat, Int.toNat_natCast, Int.reduceAdd, Int.reduceSub, ByteArray.size_extract, not_true_eq_false, not_false_eq_true, l1, l2, l3, l4, l5, l6, l7, Bool.true_eq_false, Bool.false_eq_true, Option.isNone_none] at h'; first | (guard_hyp h' : True; clear h') | (exfalso; omega) | skip) | skip)))
    all_goals first | exact (trivial : smallT []) | omega | (decide; done) | skip
    · exact h
    · exact absurd h' (by decide +kernel)
  · exact h.elim
noncomputable def eLive : Ent Try.prog := Ent.of tt_ok mixed live_l (by kernel_rfl)
end Go.Proofs.Ytmkbigaofhionaa
