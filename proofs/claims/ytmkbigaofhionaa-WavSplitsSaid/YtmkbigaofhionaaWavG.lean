/- The reference's shape and format, by the abstract machine. -/
import Derived.Test.YtmkbigaofhionaaWavF
import Derived.Test.YtmkbigaofhionaaRefB
namespace Go.Proofs.Ytmkbigaofhionaa
open Go.RowKit
set_option linter.unusedVariables false
set_option linter.unusedSimpArgs false

noncomputable def rshapeL : LSpec := soundL fun a b c d xs => .ok (.v (.bool (shapeB a b c)))
set_option maxHeartbeats 1000000 in
theorem rshape_l : LocalOK Try.prog (mkC tt ga0) 93 rshapeL := by
  refine ⟨Try.f93, _, Try.func93, rfl, fun n0 args p K Z h => ?_⟩
  unfold rshapeL soundL at h; split at h
  · rename_i a b c d xs
    refine ⟨rfl, ?_⟩
    change K _ at h
    have hQ : ∀ q, q = shapeB a b c → K (.v (.bool q), []) := fun q e => by rw [← e] at h; exact h
    clear h
    (repeat' (first | refine And.intro ?_ ?_ | (intro h'; first | (exfalso; revert h'; decide) | (simp only [decide_eq_true_eq, decide_eq_false_iff_not, Bool.not_eq_true', Bool.not_eq_false', bne_iff_ne, beq_iff_eq, ne_eq, bne_eq_false_iff_eq, beq_eq_false_iff_ne, Int.reduceToNat, Int.toNat_natCast, Int.reduceAdd, Int.reduceSub, ByteArray.size_extract] at h'; first | (guard_hyp h' : True; clear h') | (exfalso; omega) | skip) | skip)))
    all_goals
      refine hQ _ ?_
      unfold shapeB
      first
      | (symm; exact decide_eq_false (by omega))
      | (symm; exact decide_eq_true (by omega))
      | (rw [Bool.eq_iff_iff]; simp; omega)
  · rename_i a b c d T xs
    refine ⟨rfl, ?_⟩
    change K _ at h
    have hQ : ∀ q, q = shapeB a b c → K (.v (.bool q), [(0, some (.row T tCh xs))]) := fun q e => by rw [← e] at h; exact h
    clear h
    (repeat' (first | refine And.intro ?_ ?_ | (intro h'; first | (exfalso; revert h'; decide) | (simp only [decide_eq_true_eq, decide_eq_false_iff_not, Bool.not_eq_true', Bool.not_eq_false', bne_iff_ne, beq_iff_eq, ne_eq, bne_eq_false_iff_eq, beq_eq_false_iff_ne, Int.reduceToNat, Int.toNat_natCast, Int.reduceAdd, Int.reduceSub, ByteArray.size_extract] at h'; first | (guard_hyp h' : True; clear h') | (exfalso; omega) | skip) | skip)))
    all_goals
      refine hQ _ ?_
      unfold shapeB
      first
      | (symm; exact decide_eq_false (by omega))
      | (symm; exact decide_eq_true (by omega))
      | (rw [Bool.eq_iff_iff]; simp; omega)
  · rename_i a b c d
    refine ⟨rfl, ?_⟩
    change K _ at h
    have hQ : ∀ q, q = shapeB a b c → K (.v (.bool q), []) := fun q e => by rw [← e] at h; exact h
    clear h
    (repeat' (first | refine And.intro ?_ ?_ | (intro h'; first | (exfalso; revert h'; decide) | (simp only [decide_eq_true_eq, decide_eq_false_iff_not, Bool.not_eq_true', Bool.not_eq_false', bne_iff_ne, beq_iff_eq, ne_eq, bne_eq_false_iff_eq, beq_eq_false_iff_ne, Int.reduceToNat, Int.toNat_natCast, Int.reduceAdd, Int.reduceSub, ByteArray.size_extract] at h'; first | (guard_hyp h' : True; clear h') | (exfalso; omega) | skip) | skip)))
    all_goals
      refine hQ _ ?_
      unfold shapeB
      first
      | (symm; exact decide_eq_false (by omega))
      | (symm; exact decide_eq_true (by omega))
      | (rw [Bool.eq_iff_iff]; simp; omega)
  · exact h.elim
noncomputable def eRShape : Ent Try.prog := Ent.of tt_ok mixed rshape_l (by kernel_rfl)
theorem refBytesA_ok : PureOK Try.prog 71 bytesA := by
  intro g w args cargs K Z hv h
  unfold bytesA at h
  split at h
  · rename_i n width big
    obtain ⟨⟨h0, h1⟩, h⟩ := h
    obtain ⟨r3, e3, hr3⟩ := hv.v1
    obtain ⟨r4, e4, hr4⟩ := hr3.v1
    obtain ⟨r5, e5, hr5⟩ := hr4.v1
    obtain e6 := VRels.nil.1 hr5
    subst e3 e4 e5 e6
    have := refBytes_any n.toNat width big w (by omega)
    rw [Int.toNat_of_nonneg h0] at this
    exact this.mono fun e w' he => ⟨_, _, he.1, he.2, h, vr_tup (vrs_cons vr_v (vrs_cons vr_v vrs_nil))⟩
  · exact h.elim
noncomputable def eRBytes : Ent Try.prog := Ent.pure refBytesA_ok (by kernel_rfl)

theorem format_parts (a b c : Int) : formatS a b c = (((((⟨#[1, 0]⟩ : ByteArray) ++ bytesT (Int.toNat a) 2 false) ++ bytesT (Int.toNat b) 4 false) ++ bytesT (Int.toNat (IntKind.i64.wrap (b * frameF a c))) 4 false) ++ bytesT (Int.toNat (frameF a c)) 2 false) ++ bytesT (Int.toNat c) 2 false := by
  have e : (⟨#[]⟩ : ByteArray) ++ bytesT (Int.toNat 1) 2 false = ⟨#[1, 0]⟩ := by decide +kernel
  rw [← e]
  rfl

set_option maxHeartbeats 1000000 in
theorem rformat_l : LocalOK Try.prog (mkC tt [eRBytes]) 94 formatL := by
  refine ⟨Try.f94, _, Try.func94, rfl, fun n0 args p K Z h => ?_⟩
  unfold formatL soundL at h; split at h
  · rename_i a b c d xs
    refine ⟨rfl, ?_⟩
    obtain ⟨hsh, h⟩ := h
    change K _ at h
    have hpos := parts_pos hsh
    have p1 := hpos (a, 2, ()) (by simp [partsF])
    have p2 := hpos (b, 4, ()) (by simp [partsF])
    have p3 := hpos (IntKind.i64.wrap (b * frameF a c), 4, ()) (by simp [partsF])
    have p4 := hpos (frameF a c, 2, ()) (by simp [partsF])
    have p5 := hpos (c, 2, ()) (by simp [partsF])
    clear hpos
    have u1 : IntKind.u64.wrap a = a := by rw [IntKind.wrap_u64]; change (0 : Int) ≤ a ∧ a ≤ _ at p1; omega
    have u2 : IntKind.u64.wrap b = b := by rw [IntKind.wrap_u64]; change (0 : Int) ≤ b ∧ b ≤ _ at p2; omega
    have u4 : IntKind.u64.wrap (frameF a c) = frameF a c := by rw [IntKind.wrap_u64]; change (0 : Int) ≤ frameF a c ∧ frameF a c ≤ _ at p4; omega
    have u5 : IntKind.u64.wrap c = c := by rw [IntKind.wrap_u64]; change (0 : Int) ≤ c ∧ c ≤ _ at p5; omega
    have u3 : IntKind.u64.wrap (IntKind.i64.wrap (b * frameF a c)) = IntKind.i64.wrap (b * frameF a c) := by
      change (0 : Int) ≤ IntKind.i64.wrap (b * frameF a c) ∧ IntKind.i64.wrap (b * frameF a c) ≤ _ at p3
      generalize IntKind.i64.wrap (b * frameF a c) = q at p3
      rw [IntKind.wrap_u64]; omega
    have z1 := bytesT_size (Int.toNat (IntKind.u64.wrap a)) 2 false
    have z2 := bytesT_size (Int.toNat (IntKind.u64.wrap b)) 4 false
    have z3 := bytesT_size (Int.toNat (IntKind.u64.wrap (IntKind.i64.wrap (b * frameF a c)))) 4 false
    have z4 := bytesT_size (Int.toNat (IntKind.u64.wrap (frameF a c))) 2 false
    have z5 := bytesT_size (Int.toNat (IntKind.u64.wrap c)) 2 false
    have hfr : IntKind.i64.wrap ((IntKind.i64.wrap (a * c)).tdiv 8) = frameF a c := rfl
    have h2 : (⟨#[1, 0]⟩ : ByteArray).size = 2 := rfl
    (repeat' (first | refine And.intro ?_ ?_ | (intro h'; first | (exfalso; revert h'; decide) | (simp only [decide_eq_true_eq, decide_eq_false_iff_not, Bool.not_eq_true', Bool.not_eq_false', bne_iff_ne, beq_iff_eq, ne_eq, bne_eq_false_iff_eq, beq_eq_false_iff_ne, Int.reduceToNat, Int.toNat_natCast, Int.reduceAdd, Int.reduceSub, ByteArray.size_extract] at h'; first | (guard_hyp h' : True; clear h') | (exfalso; omega) | skip) | skip)))
    all_goals first | (rw [IntKind.wrap_u64]; omega) | (simp only [hfr, ByteArray.size_append, h2]; omega) | skip
    refine K_of (K := K) h ?_
    simp only [hfr, u1, u2, u3, u4, u5]
    rw [format_parts]
  · rename_i a b c d T xs
    refine ⟨rfl, ?_⟩
    obtain ⟨hsh, h⟩ := h
    change K _ at h
    have hpos := parts_pos hsh
    have p1 := hpos (a, 2, ()) (by simp [partsF])
    have p2 := hpos (b, 4, ()) (by simp [partsF])
    have p3 := hpos (IntKind.i64.wrap (b * frameF a c), 4, ()) (by simp [partsF])
    have p4 := hpos (frameF a c, 2, ()) (by simp [partsF])
    have p5 := hpos (c, 2, ()) (by simp [partsF])
    clear hpos
    have u1 : IntKind.u64.wrap a = a := by rw [IntKind.wrap_u64]; change (0 : Int) ≤ a ∧ a ≤ _ at p1; omega
    have u2 : IntKind.u64.wrap b = b := by rw [IntKind.wrap_u64]; change (0 : Int) ≤ b ∧ b ≤ _ at p2; omega
    have u4 : IntKind.u64.wrap (frameF a c) = frameF a c := by rw [IntKind.wrap_u64]; change (0 : Int) ≤ frameF a c ∧ frameF a c ≤ _ at p4; omega
    have u5 : IntKind.u64.wrap c = c := by rw [IntKind.wrap_u64]; change (0 : Int) ≤ c ∧ c ≤ _ at p5; omega
    have u3 : IntKind.u64.wrap (IntKind.i64.wrap (b * frameF a c)) = IntKind.i64.wrap (b * frameF a c) := by
      change (0 : Int) ≤ IntKind.i64.wrap (b * frameF a c) ∧ IntKind.i64.wrap (b * frameF a c) ≤ _ at p3
      generalize IntKind.i64.wrap (b * frameF a c) = q at p3
      rw [IntKind.wrap_u64]; omega
    have z1 := bytesT_size (Int.toNat (IntKind.u64.wrap a)) 2 false
    have z2 := bytesT_size (Int.toNat (IntKind.u64.wrap b)) 4 false
    have z3 := bytesT_size (Int.toNat (IntKind.u64.wrap (IntKind.i64.wrap (b * frameF a c)))) 4 false
    have z4 := bytesT_size (Int.toNat (IntKind.u64.wrap (frameF a c))) 2 false
    have z5 := bytesT_size (Int.toNat (IntKind.u64.wrap c)) 2 false
    have hfr : IntKind.i64.wrap ((IntKind.i64.wrap (a * c)).tdiv 8) = frameF a c := rfl
    have h2 : (⟨#[1, 0]⟩ : ByteArray).size = 2 := rfl
    (repeat' (first | refine And.intro ?_ ?_ | (intro h'; first | (exfalso; revert h'; decide) | (simp only [decide_eq_true_eq, decide_eq_false_iff_not, Bool.not_eq_true', Bool.not_eq_false', bne_iff_ne, beq_iff_eq, ne_eq, bne_eq_false_iff_eq, beq_eq_false_iff_ne, Int.reduceToNat, Int.toNat_natCast, Int.reduceAdd, Int.reduceSub, ByteArray.size_extract] at h'; first | (guard_hyp h' : True; clear h') | (exfalso; omega) | skip) | skip)))
    all_goals first | (rw [IntKind.wrap_u64]; omega) | (simp only [hfr, ByteArray.size_append, h2]; omega) | skip
    refine K_of (K := K) h ?_
    simp only [hfr, u1, u2, u3, u4, u5]
    rw [format_parts]
  · rename_i a b c d
    refine ⟨rfl, ?_⟩
    obtain ⟨hsh, h⟩ := h
    change K _ at h
    have hpos := parts_pos hsh
    have p1 := hpos (a, 2, ()) (by simp [partsF])
    have p2 := hpos (b, 4, ()) (by simp [partsF])
    have p3 := hpos (IntKind.i64.wrap (b * frameF a c), 4, ()) (by simp [partsF])
    have p4 := hpos (frameF a c, 2, ()) (by simp [partsF])
    have p5 := hpos (c, 2, ()) (by simp [partsF])
    clear hpos
    have u1 : IntKind.u64.wrap a = a := by rw [IntKind.wrap_u64]; change (0 : Int) ≤ a ∧ a ≤ _ at p1; omega
    have u2 : IntKind.u64.wrap b = b := by rw [IntKind.wrap_u64]; change (0 : Int) ≤ b ∧ b ≤ _ at p2; omega
    have u4 : IntKind.u64.wrap (frameF a c) = frameF a c := by rw [IntKind.wrap_u64]; change (0 : Int) ≤ frameF a c ∧ frameF a c ≤ _ at p4; omega
    have u5 : IntKind.u64.wrap c = c := by rw [IntKind.wrap_u64]; change (0 : Int) ≤ c ∧ c ≤ _ at p5; omega
    have u3 : IntKind.u64.wrap (IntKind.i64.wrap (b * frameF a c)) = IntKind.i64.wrap (b * frameF a c) := by
      change (0 : Int) ≤ IntKind.i64.wrap (b * frameF a c) ∧ IntKind.i64.wrap (b * frameF a c) ≤ _ at p3
      generalize IntKind.i64.wrap (b * frameF a c) = q at p3
      rw [IntKind.wrap_u64]; omega
    have z1 := bytesT_size (Int.toNat (IntKind.u64.wrap a)) 2 false
    have z2 := bytesT_size (Int.toNat (IntKind.u64.wrap b)) 4 false
    have z3 := bytesT_size (Int.toNat (IntKind.u64.wrap (IntKind.i64.wrap (b * frameF a c)))) 4 false
    have z4 := bytesT_size (Int.toNat (IntKind.u64.wrap (frameF a c))) 2 false
    have z5 := bytesT_size (Int.toNat (IntKind.u64.wrap c)) 2 false
    have hfr : IntKind.i64.wrap ((IntKind.i64.wrap (a * c)).tdiv 8) = frameF a c := rfl
    have h2 : (⟨#[1, 0]⟩ : ByteArray).size = 2 := rfl
    (repeat' (first | refine And.intro ?_ ?_ | (intro h'; first | (exfalso; revert h'; decide) | (simp only [decide_eq_true_eq, decide_eq_false_iff_not, Bool.not_eq_true', Bool.not_eq_false', bne_iff_ne, beq_iff_eq, ne_eq, bne_eq_false_iff_eq, beq_eq_false_iff_ne, Int.reduceToNat, Int.toNat_natCast, Int.reduceAdd, Int.reduceSub, ByteArray.size_extract] at h'; first | (guard_hyp h' : True; clear h') | (exfalso; omega) | skip) | skip)))
    all_goals first | (rw [IntKind.wrap_u64]; omega) | (simp only [hfr, ByteArray.size_append, h2]; omega) | skip
    refine K_of (K := K) h ?_
    simp only [hfr, u1, u2, u3, u4, u5]
    rw [format_parts]
  · exact h.elim
noncomputable def eRFormat : Ent Try.prog := Ent.of tt_ok mixed rformat_l (by kernel_rfl)
end Go.Proofs.Ytmkbigaofhionaa
