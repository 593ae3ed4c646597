/- The reference's Split, by the abstract machine. -/
import Derived.Test.YtmkbigaofhionaaWavL
import Derived.Test.YtmkbigaofhionaaAbsH
namespace Go.Proofs.Ytmkbigaofhionaa
open Go.RowKit
set_option linter.unusedVariables false
set_option linter.unusedSimpArgs false

theorem uintV4 (s : ByteArray) (a : Nat) (h : a + 4 ≤ s.size) : uintV s a 4 false = u32 s a := by
  have e : uintE s.size a 4 = 0 := by
    unfold uintE
    rw [if_pos (by decide)]
    unfold subE
    rw [if_neg (by omega), if_neg (by omega)]
  unfold uintV
  rw [if_pos e]
  unfold u32
  rw [show ((a : Int)).toNat = a by omega, show ((a : Int) + 4).toNat = a + 4 by omega]
  rfl
theorem u32_ext (s : ByteArray) (p q a : Nat) (h : p + a + 4 ≤ q) : u32 (s.extract p q) a = u32 s (p + a) := by
  unfold u32
  rw [extract2 s p q a (a + 4) (by omega)]
  rfl
theorem num4 (s : ByteArray) (a : Nat) (h : a + 4 ≤ s.size) : IntKind.i64.wrap (uintV s a 4 false : Nat) = (u32 s a : Nat) := by
  have := u32_lt s a
  rw [uintV4 s a h, IntWalk.i64_in _ (by omega)]

set_option maxHeartbeats 2000000 in
theorem rsplit_l : LocalOK Try.prog (mkC tt [eRType, eRNumber]) 34 splitL := by
  refine ⟨Try.f34, _, Try.func34, rfl, fun n0 args p K Z h => ?_⟩
  unfold splitL at h; split at h
  · rename_i s; refine ⟨rfl, ?_⟩
    obtain ⟨hs, h⟩ := h
    have hB : ∀ e : Int, e ≠ 0 → (splitS s).2.2 = e → K (.tup [.v (.string ⟨#[]⟩), .v (.slice none 0 0), .v (.int .i64 e)], []) := fun e h0 he => by
      have := h.2 (by rw [he]; exact decide_eq_false h0)
      rw [he] at this; exact this
    have hG : ∀ l : List tCh.Val, (splitS s).2.2 = 0 → (splitS s).1 = s.extract 8 12 → (splitS s).2.1.map tuC = l → K (.tup [.v (.string (s.extract 8 12)), .own 0, .v (.int .i64 0)], [(0, some (.row 68 tCh l))]) := fun l h0 h1 h2 => by
      have := h.1 (by rw [h0]; rfl)
      change K _ at this
      rw [h1, h2] at this; exact this
    clear h
    have hu := u32_lt s 4
    by_cases hz : s.size < 12
    · have hzi : (s.size : Int) < 12 := by omega
      have hd : decide ((s.size : Int) < 12) = true := decide_eq_true hzi
      (repeat' (first | refine And.intro ?_ ?_ | (intro h'; first | (exfalso; revert h'; decide) | (simp only [decide_eq_true_eq, decide_eq_false_iff_not, Bool.not_eq_true', Bool.not_eq_false', bne_iff_ne, beq_iff_eq, ne_eq, bne_eq_false_iff_eq, beq_eq_false_iff_ne, Int.reduceToNat, Int.toNat_natCast, Int.reduceAdd, Int.reduceSub, ByteArray.size_extract] at h'; first | (guard_hyp h' : True; clear h') | (exfalso; omega) | skip) | skip)))
      all_goals first | omega | skip
      exact hB 2 (by decide) (splitS_1 hz)
    have ru : IntKind.i64.wrap (uintV s 4 4 false : Nat) = (u32 s 4 : Nat) := num4 s 4 (by omega)
    have rr : ∀ b, decide (s.extract 0 4 = ⟨#[82, 73, 70, 70]⟩) = b → riffB s = b := fun b e => e
    have w8 : IntKind.i64.wrap ((s.size : Int) - 8) = ((s.size - 8 : Nat) : Int) := by rw [IntWalk.i64_in _ (by omega)]; omega
    (repeat' (first | refine And.intro ?_ ?_ | (intro h'; first | (exfalso; revert h'; decide) | (simp only [decide_eq_true_eq, decide_eq_false_iff_not, Bool.not_eq_true', Bool.not_eq_false', bne_iff_ne, beq_iff_eq, ne_eq, bne_eq_false_iff_eq, beq_eq_false_iff_ne, Int.reduceToNat, Int.toNat_natCast, Int.reduceAdd, Int.reduceSub, ByteArray.size_extract, ru, w8] at h'; first | (guard_hyp h' : True; clear h') | (exfalso; omega) | skip) | skip)))
    all_goals first | omega | (unfold maxLen; omega) | skip
    · exact hB 3 (by decide) (splitS_2 hz (.inl (by unfold riffB; exact decide_eq_false (by assumption))))
    · rw [ByteArray.size_extract]; omega
    · exact hB 3 (by decide) (splitS_2 hz (.inr (by assumption)))
    · exact hB 2 (by decide) (splitS_3 hz (by unfold riffB; exact decide_eq_true (by assumption)) (by assumption) (by omega))
    · exact hB 3 (by decide) (splitS_4 hz (by unfold riffB; exact decide_eq_true (by assumption)) (by assumption) (by omega))
    have h5 := splitS_5 hz (by unfold riffB; exact decide_eq_true (by assumption)) (by assumption) (show u32 s 4 = s.size - 8 by omega)
    have hT : ∀ r : List Chunk × Int, chunksS s (s.size + 1) 12 = r → r.2 ≠ 0 → (splitS s).2.2 = r.2 := fun r e h => by
      rw [h5, e, if_neg h]
    have hO : ∀ os : List Chunk, chunksS s (s.size + 1) 12 = (os, 0) → splitS s = (s.extract 8 12, os, 0) := fun os e => by
      rw [h5, e, if_pos rfl]
    clear h5
    rename_i a1 a2 a3 a4
    clear a1 a2 a3 a4 h' ru rr hu w8
    refine ⟨List tCh.Val × ByteArray, [0, 5, 7], [(7, 68, tCh)], fun | (l, t) => ⟨[(0, .v (.string t)), (5, .v (.string (s.extract 8 12))), (7, .own 0)], [(0, some (.row 68 tCh l))], 1⟩,
      fun x => ∃ (f p : Nat) (os : List Chunk), x.2 = s.extract p s.size ∧ 12 ≤ p ∧ p ≤ s.size ∧ s.size < p + f ∧ chunksS s (s.size + 1) 12 = gathS os (chunksS s f p) ∧ x.1 = os.map tuC ∧ 8 * os.length + 12 ≤ p, fun x => x.2.size, ⟨([], s.extract 12 s.size), rfl, ?_⟩, fun x hx => ?_⟩
    · exact ⟨s.size + 1, 12, [], rfl, by omega, by omega, by omega, (gathS_nil _ (chunksS_nil s _ _)).symm, rfl, by simp⟩
    · obtain ⟨l, t⟩ := x
      obtain ⟨f, p, os, ha, hp1, hp2, hf, hch, hl, hlen⟩ := hx
      change t = _ at ha
      change l = _ at hl
      subst hl
      have hts : t.size = s.size - p := by rw [ha, ByteArray.size_extract]; omega
      obtain ⟨f, rfl⟩ : ∃ g, f = g + 1 := ⟨f - 1, by omega⟩
      obtain ⟨N, hN⟩ : ∃ N, u32 s (p + 4) = N := ⟨_, rfl⟩
      have hNl := u32_lt s (p + 4)
      rw [hN] at hNl
      have x1 : 4 ≤ t.size → t.extract 0 4 = s.extract p (p + 4) := fun h => by rw [ha]; exact extract2 s p s.size 0 4 (by omega)
      have x3 : 8 ≤ t.size → IntKind.i64.wrap (uintV t 4 4 false : Nat) = (N : Int) := fun h => (num4 t 4 (by omega)).trans (by rw [ha, u32_ext s p s.size 4 (by omega), hN])
      have x5 : (N : Int).tmod 2 = ((N % 2 : Nat) : Int) := by rw [Int.tmod_eq_emod_of_nonneg (by omega)]; omega
      have x6 : IntKind.i64.wrap ((N : Int) + ((N % 2 : Nat) : Int)) = ((N + N % 2 : Nat) : Int) := by rw [IntWalk.i64_in _ (by omega)]; omega
      have x7 : IntKind.i64.wrap (8 + (N : Int)) = ((8 + N : Nat) : Int) := by rw [IntWalk.i64_in _ (by omega)]; omega
      have x8 : IntKind.i64.wrap (8 + ((N + N % 2 : Nat) : Int)) = ((8 + (N + N % 2) : Nat) : Int) := by rw [IntWalk.i64_in _ (by omega)]; omega
      by_cases ht8 : t.size < 8
      · (repeat' (first | refine And.intro ?_ ?_ | (intro h'; first | (exfalso; revert h'; decide) | (simp only [decide_eq_true_eq, decide_eq_false_iff_not, Bool.not_eq_true', Bool.not_eq_false', bne_iff_ne, beq_iff_eq, ne_eq, bne_eq_false_iff_eq, beq_eq_false_iff_ne, Int.reduceToNat, Int.toNat_natCast, Int.reduceAdd, Int.reduceSub, ByteArray.size_extract] at h'; first | (guard_hyp h' : True; clear h') | (exfalso; omega) | skip) | skip)))
        all_goals first | omega | skip
        · exact hB 2 (by decide) (hT _ (hch.trans (gathS_cut os (by omega) (by omega))) (by decide))
        · have hend := hO os (hch.trans (gathS_end (s := s) (p := p) (f := f) os (by omega)))
          exact hG (os.map tuC) (by rw [hend]) (by rw [hend]) (by rw [hend])
      have x1 := x1 (by omega)
      have x3 := x3 (by omega)
      have x2 : IntKind.i64.wrap ((t.size : Int) - 8) = ((t.size - 8 : Nat) : Int) := by rw [IntWalk.i64_in _ (by omega)]; omega
      have x9 : 8 + N ≤ t.size → t.extract 8 (8 + N) = s.extract (p + 8) (p + 8 + N) := fun h => by rw [ha, extract2 s p s.size 8 (8 + N) (by omega), show p + (8 + N) = p + 8 + N by omega]
      have x10 : t.extract (8 + (N + N % 2)) t.size = s.extract (p + 8 + (N + N % 2)) s.size := by
        rw [hts, ha, extract2 s p s.size _ _ (by omega), show p + (8 + (N + N % 2)) = p + 8 + (N + N % 2) by omega, show p + (s.size - p) = s.size by omega]
      have x11 : 8 + N < t.size → bAt t (8 + N) = (bget s (p + 8 + N) : Nat) := fun h => by
        rw [ha, bAt_extract s p s.size (8 + N) (by omega) (by omega), show p + (8 + N) = p + 8 + N by omega]
      (repeat' (first | refine And.intro ?_ ?_ | (intro h'; first | (exfalso; revert h'; decide) | (simp only [decide_eq_true_eq, decide_eq_false_iff_not, Bool.not_eq_true', Bool.not_eq_false', bne_iff_ne, beq_iff_eq, ne_eq, bne_eq_false_iff_eq, beq_eq_false_iff_ne, Int.reduceToNat, Int.toNat_natCast, Int.reduceAdd, Int.reduceSub, ByteArray.size_extract, x1, x2, x3, x5, x6, x7, x8] at h'; first | (guard_hyp h' : True; clear h') | (exfalso; omega) | skip) | skip)))
      all_goals first | omega | (unfold maxLen; omega) | skip
      all_goals first | (simp only [Int.reduceToNat, Int.toNat_natCast, Int.reduceAdd, x1, x2, x3, x5, x6, x7, x8, maxLen, ByteArray.size_extract]; omega) | skip
      · exact hB 3 (by decide) (hT _ (hch.trans (gathS_type os (by omega) (by omega) (by assumption))) (by decide))
      · exact hB 2 (by decide) (hT _ (hch.trans (gathS_long os (by omega) (by omega) (by assumption) (by rw [hN]; omega))) (by decide))
      · refine hB 3 (by decide) (hT _ (hch.trans (gathS_pad os (by omega) (by omega) (by assumption) (by rw [hN]; omega) ⟨by rw [hN]; omega, fun h => ?_⟩)) (by decide))
        refine h' ?_
        rw [x11 (by omega), ← hN, h]; rfl
      · change ((os.map tuC).length + 1) * 32 ≤ 140737488355328
        rw [List.length_map]; omega
      · have hst := gathS_step (s := s) (p := p) (f := f) os (by omega) (by omega) (by assumption) (by rw [hN]; omega) (fun h => h.2 (by rw [hN]; have h9 := x11 (by omega); rw [h'] at h9; omega))
        rw [hN] at hst
        refine ⟨(_, _), rfl, ⟨f, p + 8 + (N + N % 2), os ++ [(s.extract p (p + 4), s.extract (p + 8) (p + 8 + N))], ?_, by omega, by omega, by omega, hch.trans hst, ?_, by rw [List.length_append, List.length_singleton]; omega⟩, ?_⟩
        · simp only [Int.reduceToNat, Int.toNat_natCast, x3, x5, x6, x8]
          exact x10
        · change List.append (os.map tuC) [((_, _, ()) : ByteArray × ByteArray × Unit)] = _
          simp only [Int.reduceToNat, Int.toNat_natCast, Int.reduceAdd, x1, x3, x5, x6, x7, x8, x9 (by omega), List.map_append]
          rfl
        · simp only [Int.reduceToNat, Int.toNat_natCast, x3, x5, x6, x8, ByteArray.size_extract]
          omega
      · change ((os.map tuC).length + 1) * 32 ≤ 140737488355328
        rw [List.length_map]; omega
      · have hst := gathS_step (s := s) (p := p) (f := f) os (by omega) (by omega) (by assumption) (by rw [hN]; omega) (fun h => by have := h.1; rw [hN] at this; omega)
        rw [hN] at hst
        refine ⟨(_, _), rfl, ⟨f, p + 8 + (N + N % 2), os ++ [(s.extract p (p + 4), s.extract (p + 8) (p + 8 + N))], ?_, by omega, by omega, by omega, hch.trans hst, ?_, by rw [List.length_append, List.length_singleton]; omega⟩, ?_⟩
        · simp only [Int.reduceToNat, Int.toNat_natCast, x3, x5, x6, x8]
          exact x10
        · change List.append (os.map tuC) [((_, _, ()) : ByteArray × ByteArray × Unit)] = _
          simp only [Int.reduceToNat, Int.toNat_natCast, Int.reduceAdd, x1, x3, x5, x6, x7, x8, x9 (by omega), List.map_append]
          rfl
        · simp only [Int.reduceToNat, Int.toNat_natCast, x3, x5, x6, x8, ByteArray.size_extract]
          omega
  · exact h.elim
noncomputable def eRSplit : Ent Try.prog := Ent.of tt_ok mixed rsplit_l (by kernel_rfl)

/-- May other chunks be? -/
def moreOK : List tCh.Val → Bool
  | [] => true
  | c :: l => (typeB c.1 && (!decide ((c.1 : ByteArray) = fmtT) && !decide ((c.1 : ByteArray) = datT))) && moreOK l
/-- None bears the name of another kind. -/
def noneOK : List tCh.Val → Bool
  | [] => true
  | c :: l => (!decide ((c.1 : ByteArray) = fmtT) && !decide ((c.1 : ByteArray) = datT)) && noneOK l
theorem moreOK_eq : ∀ l : List tCh.Val, moreOK l = (typesF l && noneOK l)
  | [] => rfl
  | c :: l => by
    simp only [moreOK, typesF, noneOK, moreOK_eq l]
    cases typeB c.1 <;> cases decide ((c.1 : ByteArray) = fmtT) <;> cases decide ((c.1 : ByteArray) = datT) <;> cases typesF l <;> rfl
def mayB (a b c : Int) (d : ByteArray) (xs : List tCh.Val) : Bool := (shapeB a b c && (decide ((d.size : Int).tmod (frameF a c) = 0) && (longF 12 (allF a b c d xs)).isSome)) && moreOK xs

theorem frame_ne {a b c : Int} (h : shapeB a b c = true) : frameF a c ≠ 0 := by
  unfold shapeB at h
  have h := of_decide_eq_true h
  unfold frameF
  obtain ⟨h1, h2, _, _, h5⟩ := h
  have e : ∃ m : Int, a * c = 8 * m ∧ 1 ≤ m ∧ m ≤ 64 := by
    rcases h5 with rfl | rfl | rfl | rfl
    · exact ⟨a, by omega, by omega, by omega⟩
    · exact ⟨2 * a, by omega, by omega, by omega⟩
    · exact ⟨3 * a, by omega, by omega, by omega⟩
    · exact ⟨4 * a, by omega, by omega, by omega⟩
  obtain ⟨m, e, h6, h7⟩ := e
  have e2 : IntKind.i64.wrap (8 * m) = 8 * m := IntWalk.i64_in _ (by omega)
  rw [e, e2, Int.tdiv_eq_ediv_of_nonneg (by omega), show 8 * m / 8 = m by omega, IntWalk.i64_in _ (by omega)]
  omega

def mayL : LSpec := fun n0 args p => match n0, args, p with
  | 0, [.agg [.v (.int .i64 a), .v (.int .i64 b), .v (.int .i64 c), .v (.string d), .ro (.pair .str (.pair .str .unit)) xs]], [] => .need (smallT xs ∧ xs.length ≤ 100000000) (.ok (.v (.bool (mayB a b c d xs)), []))
  | _, _, _ => .bad
set_option maxHeartbeats 2000000 in
theorem may_l : LocalOK Try.prog (mkC tt [eRShape, eAll, eSize, eRType]) 75 mayL := by
  refine ⟨Try.f75, _, Try.func75, rfl, fun n0 args p K Z h => ?_⟩
  unfold mayL at h; split at h
  · rename_i a b c d xs
    refine ⟨rfl, ?_⟩
    obtain ⟨⟨hsm, hlen⟩, h⟩ := h
    have hQ : ∀ q, mayB a b c d xs = q → K (.v (.bool q), []) := fun q e => by subst e; exact h
    clear h
    have hal : (allF a b c d xs).length = xs.length + 2 := rfl
    cases hsh : shapeB a b c with
    | false =>
      (repeat' (first | refine And.intro ?_ ?_ | (intro h'; first | (exfalso; revert h'; decide) | (simp only [decide_eq_true_eq, decide_eq_false_iff_not, Bool.not_eq_true', Bool.not_eq_false', bne_iff_ne, beq_iff_eq, ne_eq, bne_eq_false_iff_eq, beq_eq_false_iff_ne, Int.reduceToNat, Int.toNat_natCast, Int.reduceAdd, Int.reduceSub, ByteArray.size_extract, hsh, Bool.false_eq_true] at h'; first | (guard_hyp h' : True; clear h') | (exfalso; omega) | skip) | skip)))
      all_goals first | omega | (simp_all; done) | skip
      exact hQ false (by unfold mayB; rw [hsh]; rfl)
    | true =>
    have hfn := frame_ne hsh
    have hfr : IntKind.i64.wrap ((IntKind.i64.wrap (a * c)).tdiv 8) = frameF a c := rfl
    by_cases hd : (d.size : Int).tmod (frameF a c) = 0
    case neg =>
      (repeat' (first | refine And.intro ?_ ?_ | (intro h'; first | (exfalso; revert h'; decide) | (simp only [decide_eq_true_eq, decide_eq_false_iff_not, Bool.not_eq_true', Bool.not_eq_false', bne_iff_ne, beq_iff_eq, ne_eq, bne_eq_false_iff_eq, beq_eq_false_iff_ne, Int.reduceToNat, Int.toNat_natCast, Int.reduceAdd, Int.reduceSub, ByteArray.size_extract, hsh, hfr, hd, Bool.true_eq_false] at h'; first | (guard_hyp h' : True; clear h') | (exfalso; omega) | skip) | skip)))
      all_goals first | omega | exact hfn | (simp_all; done) | skip
      exact hQ false (by unfold mayB; rw [hsh, decide_eq_false hd]; rfl)
    cases hl : longF 12 (allF a b c d xs) with
    | none =>
      (repeat' (first | refine And.intro ?_ ?_ | (intro h'; first | (exfalso; revert h'; decide) | (simp only [decide_eq_true_eq, decide_eq_false_iff_not, Bool.not_eq_true', Bool.not_eq_false', bne_iff_ne, beq_iff_eq, ne_eq, bne_eq_false_iff_eq, beq_eq_false_iff_ne, Int.reduceToNat, Int.toNat_natCast, Int.reduceAdd, Int.reduceSub, ByteArray.size_extract, hsh, hfr, hd, hl, Bool.true_eq_false] at h'; first | (guard_hyp h' : True; clear h') | (exfalso; omega) | skip) | skip)))
      all_goals first | omega | exact hfn | (simp_all; done) | skip
      exact hQ false (by unfold mayB; rw [hsh, decide_eq_true hd, hl]; rfl)
    | some n =>
    have hm : ∀ q, moreOK xs = q → mayB a b c d xs = q := fun q e => by unfold mayB; rw [hsh, decide_eq_true hd, hl, e]; rfl
    (repeat' (first | refine And.intro ?_ ?_ | (intro h'; first | (exfalso; revert h'; decide) | (simp only [decide_eq_true_eq, decide_eq_false_iff_not, Bool.not_eq_true', Bool.not_eq_false', bne_iff_ne, beq_iff_eq, ne_eq, bne_eq_false_iff_eq, beq_eq_false_iff_ne, Int.reduceToNat, Int.toNat_natCast, Int.reduceAdd, Int.reduceSub, ByteArray.size_extract, hsh, hfr, hd, hl, Bool.true_eq_false] at h'; first | (guard_hyp h' : True; clear h') | (exfalso; omega) | skip) | skip)))
    all_goals first | omega | exact hfn | (simp_all; done) | skip
    refine ⟨Int, [1, 3], [], fun k => ⟨[(1, .ptr 0 0), (3, .v (.int .i64 k))], [(0, some (.cells 60 [.v (.int .i64 a), .v (.int .i64 b), .v (.int .i64 c), .v (.string d), .ro tCh xs]))], 1⟩, fun x => ∃ k : Nat, x = k ∧ k ≤ xs.length ∧ moreOK xs = moreOK (xs.drop k), fun x => xs.length - x.toNat, ⟨0, rfl, 0, rfl, Nat.zero_le _, rfl⟩, fun x hx => ?_⟩
    obtain ⟨k, rfl, hk, hmo⟩ := hx
    have a4 : IntKind.i64.wrap ((k : Int) + 1) = ((k + 1 : Nat) : Int) := by rw [IntWalk.i64_in _ (by omega)]; omega
    by_cases hlt : k < xs.length
    · have hs := smallT_get hsm k hlt
      rw [drop_get (Ty.dflt tCh) hlt] at hmo
      obtain ⟨e, he⟩ : ∃ e, xs.getD k (Ty.dflt tCh) = e := ⟨_, rfl⟩
      rw [he] at hmo hs
      simp only [moreOK] at hmo
      (repeat' (first | refine And.intro ?_ ?_ | (intro h'; first | (exfalso; revert h'; decide) | (simp only [decide_eq_true_eq, decide_eq_false_iff_not, Bool.not_eq_true', Bool.not_eq_false', bne_iff_ne, beq_iff_eq, ne_eq, bne_eq_false_iff_eq, beq_eq_false_iff_ne, Int.reduceToNat, Int.toNat_natCast, Int.reduceAdd, Int.reduceSub, ByteArray.size_extract, he, Bool.true_eq_false] at h'; first | (guard_hyp h' : True; clear h') | (exfalso; omega) | skip) | skip)))
      all_goals first | omega | (rw [Int.toNat_natCast, he]; exact hs) | (simp_all; done) | skip
      · exact hQ false (hm false (by rw [hmo]; simp_all))
      · exact hQ false (hm false (by rw [hmo, decide_eq_true (show (e.1 : ByteArray) = fmtT by assumption)]; simp))
      · exact hQ false (hm false (by rw [hmo, decide_eq_true (show (e.1 : ByteArray) = datT by assumption)]; simp))
      · refine ⟨_, rfl, ⟨k + 1, a4, by omega, ?_⟩, ?_⟩
        · rw [hmo, decide_eq_false (show ¬ (e.1 : ByteArray) = fmtT by assumption), decide_eq_false (show ¬ (e.1 : ByteArray) = datT by assumption), show typeB e.1 = true by assumption]; rfl
        · simp only [a4, Int.toNat_natCast]; omega
    · (repeat' (first | refine And.intro ?_ ?_ | (intro h'; first | (exfalso; revert h'; decide) | (simp only [decide_eq_true_eq, decide_eq_false_iff_not, Bool.not_eq_true', Bool.not_eq_false', bne_iff_ne, beq_iff_eq, ne_eq, bne_eq_false_iff_eq, beq_eq_false_iff_ne, Int.reduceToNat, Int.toNat_natCast, Int.reduceAdd, Int.reduceSub, ByteArray.size_extract] at h'; first | (guard_hyp h' : True; clear h') | (exfalso; omega) | skip) | skip)))
      all_goals first | omega | skip
      exact hQ true (hm true (by rw [hmo, List.drop_eq_nil_of_le (by omega)]; rfl))
  · exact h.elim
noncomputable def eMay : Ent Try.prog := Ent.of tt_ok mixed may_l (by kernel_rfl)

def waveT : ByteArray := ⟨#[87, 65, 86, 69]⟩
def writeL : LSpec := fun n0 args p => match n0, args, p with
  | 0, [.agg [.v (.int .i64 a), .v (.int .i64 b), .v (.int .i64 c), .v (.string d), .ro (.pair .str (.pair .str .unit)) xs]], [] => .need (d.size ≤ 1000000000 ∧ smallT xs ∧ xs.length ≤ 100000000) (.br (mayB a b c d xs)
    (.ok (.tup [.v (.string (fileF waveT ((longF 12 (allF a b c d xs)).getD 0) (allF a b c d xs))), .v (.int .i64 0)], [])) (.ok (.tup [.v (.string ⟨#[]⟩), .v (.int .i64 1)], [])))
  | _, _, _ => .bad
theorem types_all {a b c : Int} {d : ByteArray} {xs : List tCh.Val} : typesF (allF a b c d xs) = typesF xs := by
  change (typeB fmtT && (typeB datT && typesF xs)) = _
  rw [show typeB fmtT = true by decide +kernel, show typeB datT = true by decide +kernel]; simp
theorem small_all {a b c : Int} {d : ByteArray} {xs : List tCh.Val} (h : smallT xs) : smallT (allF a b c d xs) := ⟨(by decide : ByteArray.size fmtT ≤ 140737488351232), (by decide : ByteArray.size datT ≤ 140737488351232), h⟩
theorem may_join {a b c : Int} {d : ByteArray} {xs : List tCh.Val} (h : mayB a b c d xs = true) : shapeB a b c = true ∧ joinOK waveT (allF a b c d xs) = true := by
  unfold mayB at h
  rw [moreOK_eq] at h
  simp only [Bool.and_eq_true] at h
  refine ⟨h.1.1, ?_⟩
  unfold joinOK
  rw [types_all, h.1.2.2, h.2.1]; rfl
set_option maxHeartbeats 1000000 in
theorem rwrite_l : LocalOK Try.prog (mkC tt [eMay, eAll, eRJoin]) 40 writeL := by
  refine ⟨Try.f40, _, Try.func40, rfl, fun n0 args p K Z h => ?_⟩
  unfold writeL at h; split at h
  · rename_i a b c d xs
    refine ⟨rfl, ?_⟩
    obtain ⟨⟨hd, hsm, hlen⟩, h⟩ := h
    have hB : mayB a b c d xs = false → K (.tup [.v (.string ⟨#[]⟩), .v (.int .i64 1)], []) := fun e => h.2 e
    have hG : mayB a b c d xs = true → K (.tup [.v (.string (fileF waveT ((longF 12 (allF a b c d xs)).getD 0) (allF a b c d xs))), .v (.int .i64 0)], []) := fun e => h.1 e
    clear h
    have hal : (allF a b c d xs).length = xs.length + 2 := rfl
    have hsa := small_all (a := a) (b := b) (c := c) (d := d) hsm
    cases hm : mayB a b c d xs with
    | false =>
      (repeat' (first | refine And.intro ?_ ?_ | (intro h'; first | (exfalso; revert h'; decide) | (simp only [decide_eq_true_eq, decide_eq_false_iff_not, Bool.not_eq_true', Bool.not_eq_false', bne_iff_ne, beq_iff_eq, ne_eq, bne_eq_false_iff_eq, beq_eq_false_iff_ne, Int.reduceToNat, Int.toNat_natCast, Int.reduceAdd, Int.reduceSub, ByteArray.size_extract, hm, Bool.false_eq_true] at h'; first | (guard_hyp h' : True; clear h') | (exfalso; omega) | skip) | skip)))
      all_goals first | exact hsm | omega | (simp_all; done) | exact hB hm
    | true =>
      obtain ⟨hsh, hj⟩ := may_join hm
      have hj' : joinOK ⟨#[87, 65, 86, 69]⟩ (allF a b c d xs) = true := hj
      (repeat' (first | refine And.intro ?_ ?_ | (intro h'; first | (exfalso; revert h'; decide) | (simp only [decide_eq_true_eq, decide_eq_false_iff_not, Bool.not_eq_true', Bool.not_eq_false', bne_iff_ne, beq_iff_eq, ne_eq, bne_eq_false_iff_eq, beq_eq_false_iff_ne, Int.reduceToNat, Int.toNat_natCast, Int.reduceAdd, Int.reduceSub, ByteArray.size_extract, hm, hj', Bool.true_eq_false] at h'; first | (guard_hyp h' : True; clear h') | (exfalso; omega) | skip) | skip)))
      all_goals first | exact hsm | exact hsh | exact hsa | exact hsa.1 | exact hsa.2.1 | decide | omega | (simp_all; done) | exact hG hm
  · exact h.elim
noncomputable def eRWrite : Ent Try.prog := Ent.of tt_ok mixed rwrite_l (by kernel_rfl)

theorem none_of {a b c : Int} {d : ByteArray} {xs : List tCh.Val} (h : noneOK xs = false) : mayB a b c d xs = false := by
  unfold mayB; rw [moreOK_eq, h]; simp
theorem may_eq {a b c : Int} {d : ByteArray} {xs : List tCh.Val} (h1 : shapeB a b c = true) (h2 : (d.size : Int).tmod (frameF a c) = 0) (h3 : noneOK xs = true) : mayB a b c d xs = joinOK waveT (allF a b c d xs) := by
  unfold mayB joinOK
  rw [moreOK_eq, h1, decide_eq_true h2, h3, types_all, show typeB waveT = true by decide +kernel]; simp
set_option maxHeartbeats 2000000 in
theorem wwrite_l : LocalOK Try.prog (mkC tt [eShaped, eFrame, eFormat, eJoin]) 39 writeL := by
  refine ⟨Try.f39, _, Try.func39, rfl, fun n0 args p K Z h => ?_⟩
  unfold writeL at h; split at h
  · rename_i a b c d xs
    refine ⟨rfl, ?_⟩
    obtain ⟨⟨hds, hsm, hlen⟩, h⟩ := h
    have hB : mayB a b c d xs = false → K (.tup [.v (.string ⟨#[]⟩), .v (.int .i64 1)], []) := fun e => h.2 e
    have hG : mayB a b c d xs = true → K (.tup [.v (.string (fileF waveT ((longF 12 (allF a b c d xs)).getD 0) (allF a b c d xs))), .v (.int .i64 0)], []) := fun e => h.1 e
    clear h
    have hal : (allF a b c d xs).length = xs.length + 2 := rfl
    have hsa := small_all (a := a) (b := b) (c := c) (d := d) hsm
    cases hsh : shapeB a b c with
    | false =>
      (repeat' (first | refine And.intro ?_ ?_ | (intro h'; first | (exfalso; revert h'; decide) | (simp only [decide_eq_true_eq, decide_eq_false_iff_not, Bool.not_eq_true', Bool.not_eq_false', bne_iff_ne, beq_iff_eq, ne_eq, bne_eq_false_iff_eq, beq_eq_false_iff_ne, Int.reduceToNat, Int.toNat_natCast, Int.reduceAdd, Int.reduceSub, ByteArray.size_extract, hsh, Bool.false_eq_true] at h'; first | (guard_hyp h' : True; clear h') | (exfalso; omega) | skip) | skip)))
      all_goals first | omega | (simp_all; done) | kernel_rfl | skip
      all_goals exact hB (by unfold mayB; rw [hsh]; rfl)
    | true =>
    have hfn := frame_ne hsh
    by_cases hd : (d.size : Int).tmod (frameF a c) = 0
    case neg =>
      (repeat' (first | refine And.intro ?_ ?_ | (intro h'; first | (exfalso; revert h'; decide) | (simp only [decide_eq_true_eq, decide_eq_false_iff_not, Bool.not_eq_true', Bool.not_eq_false', bne_iff_ne, beq_iff_eq, ne_eq, bne_eq_false_iff_eq, beq_eq_false_iff_ne, Int.reduceToNat, Int.toNat_natCast, Int.reduceAdd, Int.reduceSub, ByteArray.size_extract, hsh, hd, Bool.true_eq_false] at h'; first | (guard_hyp h' : True; clear h') | (exfalso; omega) | skip) | skip)))
      all_goals first | omega | exact hfn | (simp_all; done) | kernel_rfl | skip
      all_goals exact hB (by unfold mayB; rw [hsh, decide_eq_false hd]; rfl)
    (repeat' (first | refine And.intro ?_ ?_ | (intro h'; first | (exfalso; revert h'; decide) | (simp only [decide_eq_true_eq, decide_eq_false_iff_not, Bool.not_eq_true', Bool.not_eq_false', bne_iff_ne, beq_iff_eq, ne_eq, bne_eq_false_iff_eq, beq_eq_false_iff_ne, Int.reduceToNat, Int.toNat_natCast, Int.reduceAdd, Int.reduceSub, ByteArray.size_extract, hsh, hd, Bool.true_eq_false] at h'; first | (guard_hyp h' : True; clear h') | (exfalso; omega) | skip) | skip)))
    all_goals first | omega | exact hfn | exact hsh | (simp_all; done) | kernel_rfl | skip
    all_goals
      refine ⟨List tCh.Val × Int, [4, 27, 28, 29], [], fun | (l, k) => ⟨[(4, .own 0), (27, .ro tCh xs), (28, .v (.int .i64 (xs.length : Nat))), (29, .v (.int .i64 k))], [(0, some (.row 68 tCh l))], 1⟩,
        fun x => ∃ k : Nat, x.1 = (allF a b c d xs).take (k + 2) ∧ x.2 = k ∧ k ≤ xs.length ∧ noneOK xs = noneOK (xs.drop k), fun x => xs.length - x.2.toNat, ⟨(_, _), rfl, 0, rfl, rfl, Nat.zero_le _, rfl⟩, fun x hx => ?_⟩
      obtain ⟨l, x2⟩ := x
      obtain ⟨k, e1, e2, hk, hno⟩ := hx
      change l = _ at e1
      change x2 = _ at e2
      subst e1 e2
      have a4 : IntKind.i64.wrap ((k : Int) + 1) = ((k + 1 : Nat) : Int) := by rw [IntWalk.i64_in _ (by omega)]; omega
      by_cases hlt : k < xs.length
      · have htk : (allF a b c d xs).take (k + 1 + 2) = (allF a b c d xs).take (k + 2) ++ [xs.getD k (Ty.dflt tCh)] := by
          rw [show k + 1 + 2 = (k + 2) + 1 by omega, List.take_add_one, show (allF a b c d xs)[k + 2]? = some (xs.getD k (Ty.dflt tCh)) from by
            rw [show (allF a b c d xs)[k + 2]? = xs[k]? from rfl, List.getElem?_eq_getElem hlt, List.getD_eq_getElem?_getD, List.getElem?_eq_getElem hlt]; rfl]
          rfl
        rw [drop_get (Ty.dflt tCh) hlt] at hno
        obtain ⟨e, he⟩ : ∃ e, xs.getD k (Ty.dflt tCh) = e := ⟨_, rfl⟩
        rw [he] at hno htk
        simp only [noneOK] at hno
        have hln : ((allF a b c d xs).take (k + 2)).length = k + 2 := by rw [List.length_take, hal]; omega
        (repeat' (first | refine And.intro ?_ ?_ | (intro h'; first | (exfalso; revert h'; decide) | (simp only [decide_eq_true_eq, decide_eq_false_iff_not, Bool.not_eq_true', Bool.not_eq_false', bne_iff_ne, beq_iff_eq, ne_eq, bne_eq_false_iff_eq, beq_eq_false_iff_ne, Int.reduceToNat, Int.toNat_natCast, Int.reduceAdd, Int.reduceSub, ByteArray.size_extract, he] at h'; first | (guard_hyp h' : True; clear h') | (exfalso; omega) | skip) | skip)))
        all_goals first | omega | (simp_all; done) | kernel_rfl | skip
        · exact hB (none_of (by rw [hno, decide_eq_true (show (e.1 : ByteArray) = fmtT by assumption)]; simp))
        · exact hB (none_of (by rw [hno, decide_eq_true (show (e.1 : ByteArray) = datT by assumption)]; simp))
        · change (((allF a b c d xs).take (k + 2)).length + 1) * 32 ≤ 140737488355328
          omega
        · refine ⟨(_, _), rfl, ⟨k + 1, ?_, a4, by omega, ?_⟩, ?_⟩
          · rw [htk]
            change List.append ((allF a b c d xs).take (k + 2)) [((_, _, ()) : ByteArray × ByteArray × Unit)] = _
            simp only [Int.toNat_natCast, he]; rfl
          · rw [hno, decide_eq_false (show ¬ (e.1 : ByteArray) = fmtT by assumption), decide_eq_false (show ¬ (e.1 : ByteArray) = datT by assumption)]; rfl
          · simp only [a4, Int.toNat_natCast]; omega
      · have hnn : noneOK xs = true := by rw [hno, List.drop_eq_nil_of_le (by omega)]; rfl
        rw [List.take_of_length_le (show (allF a b c d xs).length ≤ k + 2 by omega)]
        have hme := may_eq hsh hd hnn
        cases hj : joinOK waveT (allF a b c d xs) with
        | true =>
          have hj' : joinOK ⟨#[87, 65, 86, 69]⟩ (allF a b c d xs) = true := hj
          (repeat' (first | refine And.intro ?_ ?_ | (intro h'; first | (exfalso; revert h'; decide) | (simp only [decide_eq_true_eq, decide_eq_false_iff_not, Bool.not_eq_true', Bool.not_eq_false', bne_iff_ne, beq_iff_eq, ne_eq, bne_eq_false_iff_eq, beq_eq_false_iff_ne, Int.reduceToNat, Int.toNat_natCast, Int.reduceAdd, Int.reduceSub, ByteArray.size_extract, hj', Bool.true_eq_false] at h'; first | (guard_hyp h' : True; clear h') | (exfalso; omega) | skip) | skip)))
          all_goals first | exact hsa | exact hsa.1 | exact hsa.2.1 | exact hsm | decide | omega | (simp_all; done) | exact hG (hme.trans hj)
        | false =>
          have hj' : joinOK ⟨#[87, 65, 86, 69]⟩ (allF a b c d xs) = false := hj
          (repeat' (first | refine And.intro ?_ ?_ | (intro h'; first | (exfalso; revert h'; decide) | (simp only [decide_eq_true_eq, decide_eq_false_iff_not, Bool.not_eq_true', Bool.not_eq_false', bne_iff_ne, beq_iff_eq, ne_eq, bne_eq_false_iff_eq, beq_eq_false_iff_ne, Int.reduceToNat, Int.toNat_natCast, Int.reduceAdd, Int.reduceSub, ByteArray.size_extract, hj', Bool.false_eq_true] at h'; first | (guard_hyp h' : True; clear h') | (exfalso; omega) | skip) | skip)))
          all_goals first | exact hsa | exact hsa.1 | exact hsa.2.1 | exact hsm | decide | omega | (simp_all; done) | exact hB (hme.trans hj)
  · exact h.elim
noncomputable def eWrite : Ent Try.prog := Ent.of tt_ok mixed wwrite_l (by kernel_rfl)

def sameS (a b c : Int) (d : ByteArray) (xs : List tCh.Val) (a' b' c' : Int) (d' : ByteArray) (ys : List tCh.Val) : Bool := decide (a = a') && (decide (b = b') && (decide (c = c') && (decide (d = d') && sameF xs ys)))
def sameL : LSpec := fun n0 args p => match n0, args, p with
  | 0, [.agg [.v (.int .i64 a), .v (.int .i64 b), .v (.int .i64 c), .v (.string d), .ro (.pair .str (.pair .str .unit)) xs], .agg [.v (.int .i64 a'), .v (.int .i64 b'), .v (.int .i64 c'), .v (.string d'), .ro (.pair .str (.pair .str .unit)) ys]], [] =>
    .need (xs.length ≤ 100000000) (.ok (.v (.bool (sameS a b c d xs a' b' c' d' ys)), []))
  | _, _, _ => .bad
set_option maxHeartbeats 2000000 in
theorem same_l : LocalOK Try.prog (mkC tt ga0) 42 sameL := by
  refine ⟨Try.f42, _, Try.func42, rfl, fun n0 args p K Z h => ?_⟩
  unfold sameL at h; split at h
  · rename_i a b c d xs a' b' c' d' ys
    refine ⟨rfl, ?_⟩
    obtain ⟨hlen, h⟩ := h
    have hQ : ∀ q, sameS a b c d xs a' b' c' d' ys = q → K (.v (.bool q), []) := fun q e => by subst e; exact h
    clear h
    have h1 : ∀ p : Prop, [Decidable p] → ¬ p → decide p = false := fun p _ h => decide_eq_false h
    (repeat' (first | refine And.intro ?_ ?_ | (intro h'; first | (exfalso; revert h'; decide) | (simp only [decide_eq_true_eq, decide_eq_false_iff_not, Bool.not_eq_true', Bool.not_eq_false', bne_iff_ne, beq_iff_eq, ne_eq, bne_eq_false_iff_eq, beq_eq_false_iff_ne, Int.reduceToNat, Int.toNat_natCast, Int.reduceAdd, Int.reduceSub, ByteArray.size_extract] at h'; first | (guard_hyp h' : True; clear h') | (exfalso; omega) | skip) | skip)))
    all_goals first | omega | skip
    · exact hQ false (by unfold sameS; simp_all)
    · exact hQ false (by unfold sameS; simp_all)
    · exact hQ false (by unfold sameS; simp_all)
    · exact hQ false (by unfold sameS; simp_all)
    · exact hQ false (by unfold sameS; rw [sameF_len (by omega)]; simp)
    have hll : xs.length = ys.length := by omega
    have hsf : ∀ q, sameF xs ys = q → sameS a b c d xs a' b' c' d' ys = q := fun q e => by unfold sameS; simp_all
    refine ⟨Int, [2, 3, 5], [], fun k => ⟨[(2, .ptr 0 0), (3, .ptr 1 0), (5, .v (.int .i64 k))], [(0, some (.cells 60 [.v (.int .i64 a), .v (.int .i64 b), .v (.int .i64 c), .v (.string d), .ro tCh xs])), (1, some (.cells 60 [.v (.int .i64 a'), .v (.int .i64 b'), .v (.int .i64 c'), .v (.string d'), .ro tCh ys]))], 2⟩, fun x => ∃ k : Nat, x = k ∧ k ≤ xs.length ∧ sameF xs ys = sameF (xs.drop k) (ys.drop k), fun x => xs.length - x.toNat, ⟨0, rfl, 0, rfl, Nat.zero_le _, rfl⟩, fun x hx => ?_⟩
    obtain ⟨k, rfl, hk, hs⟩ := hx
    have a4 : IntKind.i64.wrap ((k : Int) + 1) = ((k + 1 : Nat) : Int) := by rw [IntWalk.i64_in _ (by omega)]; omega
    by_cases hlt : k < xs.length
    · rw [drop_get (Ty.dflt tCh) hlt, drop_get (xs := ys) (Ty.dflt tCh) (by omega)] at hs
      obtain ⟨e, he⟩ : ∃ e, xs.getD k (Ty.dflt tCh) = e := ⟨_, rfl⟩
      obtain ⟨f, hf⟩ : ∃ f, ys.getD k (Ty.dflt tCh) = f := ⟨_, rfl⟩
      rw [he, hf] at hs
      simp only [sameF] at hs
      (repeat' (first | refine And.intro ?_ ?_ | (intro h'; first | (exfalso; revert h'; decide) | (simp only [decide_eq_true_eq, decide_eq_false_iff_not, Bool.not_eq_true', Bool.not_eq_false', bne_iff_ne, beq_iff_eq, ne_eq, bne_eq_false_iff_eq, beq_eq_false_iff_ne, Int.reduceToNat, Int.toNat_natCast, Int.reduceAdd, Int.reduceSub, ByteArray.size_extract, he, hf, Bool.and_true] at h'; first | (guard_hyp h' : True; clear h') | (exfalso; omega) | skip) | skip)))
      all_goals first | omega | kernel_rfl | skip
      · refine hQ false (hsf false ?_)
        rw [hs]
        cases e1 : decide (e.1 = f.1) <;> cases e2 : decide (e.2.1 = f.2.1) <;> simp_all
      · refine ⟨_, rfl, ⟨k + 1, a4, by omega, ?_⟩, ?_⟩
        · rw [hs]
          cases e1 : decide (e.1 = f.1) <;> cases e2 : decide (e.2.1 = f.2.1) <;> simp_all
        · simp only [a4, Int.toNat_natCast]; omega
    · (repeat' (first | refine And.intro ?_ ?_ | (intro h'; first | (exfalso; revert h'; decide) | (simp only [decide_eq_true_eq, decide_eq_false_iff_not, Bool.not_eq_true', Bool.not_eq_false', bne_iff_ne, beq_iff_eq, ne_eq, bne_eq_false_iff_eq, beq_eq_false_iff_ne, Int.reduceToNat, Int.toNat_natCast, Int.reduceAdd, Int.reduceSub, ByteArray.size_extract] at h'; first | (guard_hyp h' : True; clear h') | (exfalso; omega) | skip) | skip)))
      all_goals first | omega | skip
      refine hQ true (hsf true ?_)
      rw [hs, List.drop_eq_nil_of_le (by omega), List.drop_eq_nil_of_le (by omega)]; rfl
  · exact h.elim
noncomputable def eSameS : Ent Try.prog := Ent.of tt_ok mixed same_l (by kernel_rfl)
/-- What is lent: a sound's chunks. -/
abbrev shS : Sh := .ag [.any, .any, .any, .any, .ls tCh]
noncomputable def eSame : Ent Try.prog := eSameS.lend [shS, shS]
end Go.Proofs.Ytmkbigaofhionaa
