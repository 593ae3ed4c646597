/- wav.Read, by the abstract machine. -/
import Derived.Test.YtmkbigaofhionaaWavX
namespace Go.Proofs.Ytmkbigaofhionaa
open Go.RowKit
set_option linter.unusedVariables false
set_option linter.unusedSimpArgs false

def numbersL : LSpec := fun n0 args p => match n0, args, p with
  | 0, [.v (.string s)], [] => .ok (.clo (.func 95) [.ptr 0 0], [(0, some (.cells 9 [.v (.string s)]))])
  | _, _, _ => .bad
theorem numbers_l : LocalOK Try.prog (mkC tt ga0) 77 numbersL := by
  refine ⟨Try.f77, _, Try.func77, rfl, fun n0 args p K Z h => ?_⟩
  unfold numbersL at h; split at h
  · refine ⟨rfl, ?_⟩
    change K _ at h
    (repeat' (first | refine And.intro ?_ ?_ | (intro h'; first | (exfalso; revert h'; decide) | (simp only [decide_eq_true_eq, decide_eq_false_iff_not, Bool.not_eq_true', Bool.not_eq_false', bne_iff_ne, beq_iff_eq, ne_eq, bne_eq_false_iff_eq, beq_eq_false_iff_ne, Int.reduceToNat, Int.toNat_natCast, Int.reduceAdd, Int.reduceSub, ByteArray.size_extract] at h'; first | (guard_hyp h' : True; clear h') | (exfalso; omega) | skip) | skip)))
    exact h
  · exact h.elim
noncomputable def eNumbers : Ent Try.prog := Ent.of tt_ok mixed numbers_l (by kernel_rfl)

abbrev Num3 := Int × Int × Int
def fmtOK (c : tCh.Val) (t : Num3) : Bool := shapeB (numsT c.2.1 t).1 (numsT c.2.1 t).2.1 (numsT c.2.1 t).2.2 && decide ((c.2.1 : ByteArray) = formatS (numsT c.2.1 t).1 (numsT c.2.1 t).2.1 (numsT c.2.1 t).2.2)
/-- What some chunks make of a sound; none: there is none. -/
def readF : List tCh.Val → Num3 → ByteArray → Option (List tCh.Val) → Nat → Nat → Option (Num3 × ByteArray × Option (List tCh.Val) × Nat × Nat)
  | [], t, d, mo, nf, nd => some (t, d, mo, nf, nd)
  | c :: l, t, d, mo, nf, nd => if (c.1 : ByteArray) = fmtT then (if fmtOK c t = true then readF l (numsT c.2.1 t) d mo (nf + 1) nd else none)
    else if (c.1 : ByteArray) = datT then (if nf = 1 ∧ ((ByteArray.size c.2.1 : Nat) : Int).tmod (frameF t.1 t.2.2) = 0 then readF l t c.2.1 mo nf (nd + 1) else none)
    else readF l t d (some (mo.getD [] ++ [c])) nf nd
/-- Read's answer: why there is none, or a sound. -/
def readS (s : ByteArray) : Int × Num3 × ByteArray × Option (List tCh.Val) :=
  if (splitS s).2.2 ≠ 0 then ((splitS s).2.2, (0, 0, 0), ⟨#[]⟩, none)
  else match readF ((splitS s).2.1.map tuC) (0, 0, 0) ⟨#[]⟩ none 0 0 with
    | some (t, d, mo, nf, nd) => if (splitS s).1 = waveT ∧ nf = 1 ∧ nd = 1 then (0, t, d, mo) else (3, (0, 0, 0), ⟨#[]⟩, none)
    | none => (3, (0, 0, 0), ⟨#[]⟩, none)
def zeroSo : AV := .agg [.v (.int .i64 0), .v (.int .i64 0), .v (.int .i64 0), .v (.string ⟨#[]⟩), .v (.slice none 0 0)]
def readL : LSpec := fun n0 args p => match n0, args, p with
  | 0, [.v (.string s)], [] => .need (s.size ≤ 100000000) (.br (decide ((readS s).1 = 0))
    (.br (readS s).2.2.2.isNone (.ok (.tup [.agg [.v (.int .i64 (readS s).2.1.1), .v (.int .i64 (readS s).2.1.2.1), .v (.int .i64 (readS s).2.1.2.2), .v (.string (readS s).2.2.1), .v (.slice none 0 0)], .v (.int .i64 0)], []))
      (.ok (.tup [.agg [.v (.int .i64 (readS s).2.1.1), .v (.int .i64 (readS s).2.1.2.1), .v (.int .i64 (readS s).2.1.2.2), .v (.string (readS s).2.2.1), .own 0], .v (.int .i64 0)], [(0, some (.row 68 tCh ((readS s).2.2.2.getD [])))])))
    (.ok (.tup [zeroSo, .v (.int .i64 (readS s).1)], [])))
  | _, _, _ => .bad

theorem readS_1 {s : ByteArray} (h : (splitS s).2.2 ≠ 0) : readS s = ((splitS s).2.2, (0, 0, 0), ⟨#[]⟩, none) := by unfold readS; rw [if_pos h]
theorem readS_2 {s : ByteArray} (h : (splitS s).2.2 = 0) (h1 : readF ((splitS s).2.1.map tuC) (0, 0, 0) ⟨#[]⟩ none 0 0 = none) : readS s = (3, (0, 0, 0), ⟨#[]⟩, none) := by
  unfold readS; rw [if_neg (by simp [h]), h1]
theorem readS_3 {s : ByteArray} {t : Num3} {d : ByteArray} {mo : Option (List tCh.Val)} {nf nd : Nat} (h : (splitS s).2.2 = 0) (h1 : readF ((splitS s).2.1.map tuC) (0, 0, 0) ⟨#[]⟩ none 0 0 = some (t, d, mo, nf, nd)) :
    readS s = if (splitS s).1 = waveT ∧ nf = 1 ∧ nd = 1 then (0, t, d, mo) else (3, (0, 0, 0), ⟨#[]⟩, none) := by
  unfold readS; rw [if_neg (by simp [h]), h1]

/-- Reading with what has been put. -/
theorem get_put_same {kt et : Ty} (hk : ∀ a b : kt.Val, keyEq kt a b = true ↔ a = b) (k : kt.Val) (x : et.Val) : ∀ l : List (kt.Val × et.Val), mapGet (et := et) k (mapPut k x l) = some x
  | [] => by unfold mapPut mapGet; rw [(hk k k).2 rfl]
  | p :: l => by
    unfold mapPut
    cases h1 : keyEq kt k p.1 with
    | true => simp only; unfold mapGet; rw [(hk k k).2 rfl]
    | false => simp only; unfold mapGet; rw [h1]; exact get_put_same hk k x l
theorem get_put_other {kt et : Ty} (hk : ∀ a b : kt.Val, keyEq kt a b = true ↔ a = b) {k k' : kt.Val} (hne : k' ≠ k) (x : et.Val) : ∀ l : List (kt.Val × et.Val), mapGet (et := et) k' (mapPut k x l) = mapGet k' l
  | [] => by
    unfold mapPut mapGet
    cases h : keyEq kt k' k with
    | true => exact absurd ((hk k' k).1 h) hne
    | false => rfl
  | p :: l => by
    unfold mapPut
    cases h1 : keyEq kt k p.1 with
    | true =>
      have e1 := (hk k p.1).1 h1
      simp only
      unfold mapGet
      have e2 : keyEq kt k' k = false := by
        cases h : keyEq kt k' k with
        | true => exact absurd ((hk k' k).1 h) hne
        | false => rfl
      rw [show ((k, x) : kt.Val × et.Val).1 = k from rfl, e2, ← e1, e2]
    | false =>
      simp only
      unfold mapGet
      cases h : keyEq kt k' p.1 with
      | true => rfl
      | false => exact get_put_other hk hne x l
theorem keyStr (a b : ByteArray) : keyEq .str a b = true ↔ a = b := by unfold keyEq; simp
def cntM (k : ByteArray) (l : List (Ty.str.Val × (Ty.int .i64).Val)) : Int := (mapGet (kt := .str) (et := .int .i64) k l).getD (0 : Int)
theorem cnt_put (k k' : ByteArray) (x : Int) (l : List (Ty.str.Val × (Ty.int .i64).Val)) : cntM k' (mapPut (kt := .str) (et := .int .i64) k x l) = if k' = k then x else cntM k' l := by
  unfold cntM
  by_cases e : k' = k
  · subst e; rw [if_pos rfl, get_put_same (kt := .str) (et := .int .i64) keyStr]; rfl
  · rw [if_neg e, get_put_other (kt := .str) (et := .int .i64) keyStr e]

theorem chunks_facts (s : ByteArray) : ∀ f p, p ≤ s.size → 8 * (chunksS s f p).1.length + p ≤ s.size ∧ ∀ c ∈ (chunksS s f p).1, c.2.size ≤ s.size
  | 0, p, h => ⟨by simpa [chunksS] using h, fun c hc => by simp [chunksS] at hc⟩
  | f + 1, p, h => by
    simp only [chunksS]
    split
    · exact ⟨by simpa using h, fun c hc => by simp at hc⟩
    split
    · exact ⟨by simpa using h, fun c hc => by simp at hc⟩
    split
    · exact ⟨by simpa using h, fun c hc => by simp at hc⟩
    split
    · exact ⟨by simpa using h, fun c hc => by simp at hc⟩
    split
    · exact ⟨by simpa using h, fun c hc => by simp at hc⟩
    split
    · obtain ⟨h1, h2⟩ := chunks_facts s f (p + 8 + (u32 s (p + 4) + u32 s (p + 4) % 2)) (by omega)
      refine ⟨by rw [List.length_cons]; omega, fun c hc => ?_⟩
      rcases List.mem_cons.1 hc with rfl | hc
      · simp only [ByteArray.size_extract]; omega
      · exact h2 c hc
    · exact ⟨by simpa using h, fun c hc => by simp at hc⟩
theorem split_facts (s : ByteArray) : ((splitS s).2.1.map tuC).length ≤ s.size ∧ ∀ c ∈ (splitS s).2.1.map tuC, ByteArray.size c.2.1 ≤ s.size := by
  unfold splitS
  repeat' split
  all_goals first | exact ⟨Nat.zero_le _, fun c hc => by simp at hc⟩ | skip
  obtain ⟨h1, h2⟩ := chunks_facts s (s.size + 1) 12 (by omega)
  refine ⟨by rw [List.length_map]; simp only; omega, fun c hc => ?_⟩
  obtain ⟨c', h3, rfl⟩ := List.mem_map.1 hc
  exact h2 c' h3

abbrev MapL := List (Ty.str.Val × (Ty.int .i64).Val)
def famR (form : ByteArray) (xs : List tCh.Val) : MapL × Num3 × ByteArray × Option (List tCh.Val) × Int → AS
  | (ml, t, d, none, k) => ⟨[(2, .ptr 0 0), (4, .v (.string form)), (7, .ptr 1 0), (8, .mp 2), (24, .own 3), (25, .v (.int .i64 (xs.length : Nat))), (26, .v (.int .i64 k))],
    [(0, some (.cells 60 [.v (.int .i64 0), .v (.int .i64 0), .v (.int .i64 0), .v (.string ⟨#[]⟩), .v (.slice none 0 0)])), (1, some (.cells 60 [.v (.int .i64 t.1), .v (.int .i64 t.2.1), .v (.int .i64 t.2.2), .v (.string d), .v (.slice none 0 0)])),
     (2, some (.map false .str (.int .i64) ml)), (3, some (.row 68 tCh xs))], 4⟩
  | (ml, t, d, some l, k) => ⟨[(2, .ptr 0 0), (4, .v (.string form)), (7, .ptr 1 0), (8, .mp 2), (24, .own 3), (25, .v (.int .i64 (xs.length : Nat))), (26, .v (.int .i64 k))],
    [(0, some (.cells 60 [.v (.int .i64 0), .v (.int .i64 0), .v (.int .i64 0), .v (.string ⟨#[]⟩), .v (.slice none 0 0)])), (1, some (.cells 60 [.v (.int .i64 t.1), .v (.int .i64 t.2.1), .v (.int .i64 t.2.2), .v (.string d), .own 4])),
     (2, some (.map false .str (.int .i64) ml)), (3, some (.row 68 tCh xs)), (4, some (.row 68 tCh l))], 5⟩

set_option maxHeartbeats 4000000 in
theorem read_l : LocalOKN Try.prog (mkCR tt [eSplit, eNumbers, eShaped, eFormat, eFrame] (rfNode, rfS)) 41 readL := by
  refine ⟨Try.f41, _, Try.func41, rfl, fun n0 args p K Z h => ?_⟩
  unfold readL at h; split at h
  · rename_i s; refine ⟨rfl, ?_⟩
    obtain ⟨hs, h⟩ := h
    have hB : ∀ e t d, e ≠ 0 → readS s = (e, t, d, none) → K (.tup [zeroSo, .v (.int .i64 e)], []) := fun e t d h0 he => by
      rw [he] at h; exact h.2 (decide_eq_false h0)
    have hG0 : ∀ t d, readS s = (0, t, d, none) → K (.tup [.agg [.v (.int .i64 t.1), .v (.int .i64 t.2.1), .v (.int .i64 t.2.2), .v (.string d), .v (.slice none 0 0)], .v (.int .i64 0)], []) := fun t d he => by
      rw [he] at h; exact (h.1 rfl).1 rfl
    have hG1 : ∀ t d l, readS s = (0, t, d, some l) → K (.tup [.agg [.v (.int .i64 t.1), .v (.int .i64 t.2.1), .v (.int .i64 t.2.2), .v (.string d), .own 0], .v (.int .i64 0)], [(0, some (.row 68 tCh l))]) := fun t d l he => by
      rw [he] at h; exact (h.1 rfl).2 rfl
    clear h
    by_cases he : (splitS s).2.2 = 0
    case neg =>
      (repeat' (first | refine And.intro ?_ ?_ | (intro h'; first | (exfalso; revert h'; decide) | (simp only [decide_eq_true_eq, decide_eq_false_iff_not, Bool.not_eq_true', Bool.not_eq_false', bne_iff_ne, beq_iff_eq, ne_eq, bne_eq_false_iff_eq, beq_eq_false_iff_ne, Int.reduceToNat, Int.toNat_natCast, Int.reduceAdd, Int.reduceSub, ByteArray.size_extract, not_true_eq_false, not_false_eq_true, he] at h'; first | (guard_hyp h' : True; clear h') | (exfalso; omega) | skip) | skip)))
      all_goals first | omega | skip
      exact hB _ _ _ he (readS_1 he)
    obtain ⟨form, hform⟩ : ∃ form, (splitS s).1 = form := ⟨_, rfl⟩
    obtain ⟨xs, hxs⟩ : ∃ xs, (splitS s).2.1.map tuC = xs := ⟨_, rfl⟩
    have hB2 := fun h1 => hB 3 _ _ (by decide) (readS_2 he (by rw [hxs]; exact h1))
    have hEnd : ∀ t d mo nf nd, readF xs (0, 0, 0) ⟨#[]⟩ none 0 0 = some (t, d, mo, nf, nd) → readS s = if form = waveT ∧ nf = 1 ∧ nd = 1 then (0, t, d, mo) else (3, (0, 0, 0), ⟨#[]⟩, none) := fun t d mo nf nd h1 => by
      rw [← hform]; exact readS_3 he (by rw [hxs]; exact h1)
    have hlen : xs.length ≤ 100000000 := by
      rw [← hxs]; exact Nat.le_trans (split_facts s).1 hs
    have hsz : ∀ c ∈ xs, ByteArray.size c.2.1 ≤ 100000000 := fun c hc => by
      rw [← hxs] at hc; exact Nat.le_trans ((split_facts s).2 c hc) hs
    (repeat' (first | refine And.intro ?_ ?_ | (intro h'; first | (exfalso; revert h'; decide) | (simp only [decide_eq_true_eq, decide_eq_false_iff_not, Bool.not_eq_true', Bool.not_eq_false', bne_iff_ne, beq_iff_eq, ne_eq, bne_eq_false_iff_eq, beq_eq_false_iff_ne, Int.reduceToNat, Int.toNat_natCast, Int.reduceAdd, Int.reduceSub, ByteArray.size_extract, not_true_eq_false, not_false_eq_true, he] at h'; first | (guard_hyp h' : True; clear h') | (exfalso; omega) | skip) | skip)))
    all_goals first | omega | skip
    refine ⟨MapL × Num3 × ByteArray × Option (List tCh.Val) × Int, [2, 4, 7, 8, 24, 25, 26], [], famR form xs,
      fun x => ∃ k nf nd : Nat, x.2.2.2.2 = k ∧ k ≤ xs.length ∧ cntM fmtT x.1 = nf ∧ cntM datT x.1 = nd ∧ (nf ≠ 0 → shapeB x.2.1.1 x.2.1.2.1 x.2.1.2.2 = true) ∧ nf ≤ k ∧ nd ≤ k ∧ (x.2.2.2.1.getD []).length ≤ k ∧
        readF xs (0, 0, 0) ⟨#[]⟩ none 0 0 = readF (xs.drop k) x.2.1 x.2.2.1 x.2.2.2.1 nf nd, fun x => xs.length - x.2.2.2.2.toNat, ⟨([], (0, 0, 0), ⟨#[]⟩, none, 0), ?_, 0, 0, 0, rfl, Nat.zero_le _, rfl, rfl, fun h => absurd rfl h, Nat.le_refl _, Nat.le_refl _, Nat.le_refl _, rfl⟩, fun x hx => ?_⟩
    · rw [hform, hxs]
      rfl
    obtain ⟨ml, t, d, mo, k0⟩ := x
    obtain ⟨k, nf, nd, e1, hk, hnf, hnd, hsh, hnfk, hndk, hmo, hrd⟩ := hx
    change k0 = _ at e1
    subst e1
    simp only at hnf hnd hsh hmo hrd
    cases mo with
    | none =>
      have a4 : IntKind.i64.wrap ((k : Int) + 1) = ((k + 1 : Nat) : Int) := by rw [IntWalk.i64_in _ (by omega)]; omega
      by_cases hlt : k < xs.length
      · rw [drop_get (Ty.dflt tCh) hlt] at hrd
        obtain ⟨c, hc⟩ : ∃ c, xs.getD k (Ty.dflt tCh) = c := ⟨_, rfl⟩
        have hcs : ByteArray.size c.2.1 ≤ 100000000 := hsz c (by rw [← hc, List.getD_eq_getElem?_getD, List.getElem?_eq_getElem hlt]; exact List.getElem_mem _)
        rw [hc] at hrd
        by_cases hcf : (c.1 : ByteArray) = ⟨#[102, 109, 116, 32]⟩
        · -- a format
          have hcf' : (c.1 : ByteArray) = fmtT := hcf
          simp only [readF, if_pos hcf'] at hrd
          cases hsb : shapeB (numsT c.2.1 t).1 (numsT c.2.1 t).2.1 (numsT c.2.1 t).2.2 with
          | false =>
            rw [show fmtOK c t = false by unfold fmtOK; rw [hsb]; rfl] at hrd
            (repeat' (first | refine And.intro ?_ ?_ | (intro h'; first | (exfalso; revert h'; decide) | (simp only [decide_eq_true_eq, decide_eq_false_iff_not, Bool.not_eq_true', Bool.not_eq_false', bne_iff_ne, beq_iff_eq, ne_eq, bne_eq_false_iff_eq, beq_eq_false_iff_ne, Int.reduceToNat, Int.toNat_natCast, Int.reduceAdd, Int.reduceSub, ByteArray.size_extract, not_true_eq_false, not_false_eq_true, hc, hcf, hsb, Bool.false_eq_true] at h'; first | (guard_hyp h' : True; clear h') | (exfalso; omega) | skip) | skip)))
            all_goals first | omega | exact (rfl : rfNode = _) | (simp only [Int.toNat_natCast, hc]; unfold maxLen; omega) | (simp only [Int.toNat_natCast, hc, hsb, Bool.not_true, Bool.not_false]; done) | kernel_rfl | skip
            all_goals exact hB2 hrd
          | true =>
            by_cases hfo : (c.2.1 : ByteArray) = formatS (numsT c.2.1 t).1 (numsT c.2.1 t).2.1 (numsT c.2.1 t).2.2
            · rw [show fmtOK c t = true by unfold fmtOK; rw [hsb, decide_eq_true hfo]; rfl] at hrd
              (repeat' (first | refine And.intro ?_ ?_ | (intro h'; first | (exfalso; revert h'; decide) | (simp only [decide_eq_true_eq, decide_eq_false_iff_not, Bool.not_eq_true', Bool.not_eq_false', bne_iff_ne, beq_iff_eq, ne_eq, bne_eq_false_iff_eq, beq_eq_false_iff_ne, Int.reduceToNat, Int.toNat_natCast, Int.reduceAdd, Int.reduceSub, ByteArray.size_extract, not_true_eq_false, not_false_eq_true, hc, hcf, hsb, Bool.true_eq_false] at h'; first | (guard_hyp h' : True; clear h') | (exfalso; omega) | skip) | skip)))
              all_goals first | omega | exact (rfl : rfNode = _) | (simp only [Int.toNat_natCast, hc]; unfold maxLen; omega) | (simp only [Int.toNat_natCast, hc, hsb, Bool.not_true, Bool.not_false]; done) | skip
              · kernel_rfl
              · kernel_rfl
              · exact absurd hfo h'
              · refine ⟨(_, numsT (xs.getD ((k : Int)).toNat (Ty.dflt tCh)).2.1 t, d, none, _), rfl, ⟨k + 1, nf + 1, nd, a4, by omega, ?_, ?_, ?_, by omega, by omega, ?_, ?_⟩, ?_⟩
                · simp only [Int.toNat_natCast, hc]
                  rw [cnt_put, if_pos hcf'.symm]
                  change IntKind.i64.wrap (cntM c.1 ml + 1) = _
                  rw [hcf', hnf, IntWalk.i64_in _ (by omega)]; omega
                · simp only [Int.toNat_natCast, hc]
                  rw [cnt_put, if_neg (by rw [hcf']; decide)]; exact hnd
                · intro _
                  simp only [Int.toNat_natCast, hc]; exact hsb
                · simp only at hmo ⊢; omega
                · simp only [Int.toNat_natCast, hc]; exact hrd
                · simp only [a4, Int.toNat_natCast]; omega
            · rw [show fmtOK c t = false by unfold fmtOK; rw [hsb, decide_eq_false hfo]; rfl] at hrd
              (repeat' (first | refine And.intro ?_ ?_ | (intro h'; first | (exfalso; revert h'; decide) | (simp only [decide_eq_true_eq, decide_eq_false_iff_not, Bool.not_eq_true', Bool.not_eq_false', bne_iff_ne, beq_iff_eq, ne_eq, bne_eq_false_iff_eq, beq_eq_false_iff_ne, Int.reduceToNat, Int.toNat_natCast, Int.reduceAdd, Int.reduceSub, ByteArray.size_extract, not_true_eq_false, not_false_eq_true, hc, hcf, hsb, Bool.true_eq_false] at h'; first | (guard_hyp h' : True; clear h') | (exfalso; omega) | skip) | skip)))
              all_goals first | omega | exact (rfl : rfNode = _) | (simp only [Int.toNat_natCast, hc]; unfold maxLen; omega) | (simp only [Int.toNat_natCast, hc, hsb, Bool.not_true, Bool.not_false]; done) | skip
              · kernel_rfl
              · kernel_rfl
              · exact hB2 hrd
              · exact absurd h' hfo
        have hcf' : ¬ (c.1 : ByteArray) = fmtT := hcf
        have hqf : ∀ v : Int, Option.getD (mapGet (kt := .str) (et := .int .i64) (⟨#[102, 109, 116, 32]⟩ : ByteArray) (mapPut (c.1 : ByteArray) v ml)) (Int.ofNat 0) = (nf : Int) := fun v => by
          have := cnt_put c.1 fmtT v ml
          rw [if_neg (fun e => hcf' e.symm), hnf] at this
          exact this
        by_cases hcd : (c.1 : ByteArray) = ⟨#[100, 97, 116, 97]⟩
        · -- data
          have hcd' : (c.1 : ByteArray) = datT := hcd
          simp only [readF, if_neg hcf', if_pos hcd'] at hrd
          have hdf : ((⟨#[100, 97, 116, 97]⟩ : ByteArray) = ⟨#[102, 109, 116, 32]⟩) ↔ False := ⟨by decide, fun h => h.elim⟩
          rw [hcd] at hqf
          by_cases hn1 : nf = 1
          case neg =>
            rw [if_neg (fun h => hn1 h.1)] at hrd
            have hgt : ∀ v : Int, (Option.getD (mapGet (kt := .str) (et := .int .i64) (⟨#[102, 109, 116, 32]⟩ : ByteArray) (mapPut (⟨#[100, 97, 116, 97]⟩ : ByteArray) v ml)) (Int.ofNat 0) != (1 : Int)) = true := fun v => by
              rw [hqf v]; exact bne_iff_ne.2 (show ¬ ((nf : Int) = (1 : Int)) by omega)
            (repeat' (first | refine And.intro ?_ ?_ | (intro h'; first | (exfalso; revert h'; decide) | (simp only [decide_eq_true_eq, decide_eq_false_iff_not, Bool.not_eq_true', Bool.not_eq_false', bne_iff_ne, beq_iff_eq, ne_eq, bne_eq_false_iff_eq, beq_eq_false_iff_ne, Int.reduceToNat, Int.toNat_natCast, Int.reduceAdd, Int.reduceSub, ByteArray.size_extract, not_true_eq_false, not_false_eq_true, hc, hdf, hcd, hqf] at h'; first | (guard_hyp h' : True; clear h') | (exfalso; omega) | skip) | skip)))
            all_goals first | omega | (simp only [Int.toNat_natCast, hc, hcd]; exact hgt _) | skip
            · kernel_rfl
            · kernel_rfl
            · exact hB2 hrd
          have hfn := frame_ne (hsh (by omega))
          have hgt : ∀ v : Int, (Option.getD (mapGet (kt := .str) (et := .int .i64) (⟨#[102, 109, 116, 32]⟩ : ByteArray) (mapPut (⟨#[100, 97, 116, 97]⟩ : ByteArray) v ml)) (Int.ofNat 0) != (1 : Int)) = false := fun v => by
            rw [hqf v, hn1]; rfl
          by_cases hmd : ((ByteArray.size c.2.1 : Nat) : Int).tmod (frameF t.1 t.2.2) = 0
          case neg =>
            rw [if_neg (fun h => hmd h.2)] at hrd
            (repeat' (first | refine And.intro ?_ ?_ | (intro h'; first | (exfalso; revert h'; decide) | (simp only [decide_eq_true_eq, decide_eq_false_iff_not, Bool.not_eq_true', Bool.not_eq_false', bne_iff_ne, beq_iff_eq, ne_eq, bne_eq_false_iff_eq, beq_eq_false_iff_ne, Int.reduceToNat, Int.toNat_natCast, Int.reduceAdd, Int.reduceSub, ByteArray.size_extract, not_true_eq_false, not_false_eq_true, hc, hdf, hcd, hqf, hmd] at h'; first | (guard_hyp h' : True; clear h') | (exfalso; omega) | skip) | skip)))
            all_goals first | omega | exact hfn (by assumption) | (simp only [Int.toNat_natCast, hc, hcd]; exact hgt _) | skip
            · kernel_rfl
            · kernel_rfl
            · exact hB2 hrd
          rw [if_pos ⟨hn1, hmd⟩] at hrd
          (repeat' (first | refine And.intro ?_ ?_ | (intro h'; first | (exfalso; revert h'; decide) | (simp only [decide_eq_true_eq, decide_eq_false_iff_not, Bool.not_eq_true', Bool.not_eq_false', bne_iff_ne, beq_iff_eq, ne_eq, bne_eq_false_iff_eq, beq_eq_false_iff_ne, Int.reduceToNat, Int.toNat_natCast, Int.reduceAdd, Int.reduceSub, ByteArray.size_extract, not_true_eq_false, not_false_eq_true, hc, hdf, hcd, hqf, hmd] at h'; first | (guard_hyp h' : True; clear h') | (exfalso; omega) | skip) | skip)))
          all_goals first | omega | exact hfn (by assumption) | (simp only [Int.toNat_natCast, hc, hcd]; exact hgt _) | skip
          · kernel_rfl
          · kernel_rfl
          · refine ⟨(_, t, (xs.getD ((k : Int)).toNat (Ty.dflt tCh)).2.1, none, _), rfl, ⟨k + 1, nf, nd + 1, a4, by omega, ?_, ?_, hsh, by omega, by omega, ?_, ?_⟩, ?_⟩
            · simp only [Int.toNat_natCast, hc]
              rw [cnt_put, if_neg (fun e => hcf' e.symm)]; exact hnf
            · simp only [Int.toNat_natCast, hc]
              rw [cnt_put, if_pos hcd'.symm]
              change IntKind.i64.wrap (cntM c.1 ml + 1) = _
              rw [hcd', hnd, IntWalk.i64_in _ (by omega)]; omega
            · simp only at hmo ⊢; omega
            · simp only [Int.toNat_natCast, hc]; exact hrd
            · simp only [a4, Int.toNat_natCast]; omega
        · -- another chunk
          have hcd' : ¬ (c.1 : ByteArray) = datT := hcd
          simp only [readF, if_neg hcf', if_neg hcd'] at hrd
          have hln : ([] : List tCh.Val).length ≤ k := hmo
          (repeat' (first | refine And.intro ?_ ?_ | (intro h'; first | (exfalso; revert h'; decide) | (simp only [decide_eq_true_eq, decide_eq_false_iff_not, Bool.not_eq_true', Bool.not_eq_false', bne_iff_ne, beq_iff_eq, ne_eq, bne_eq_false_iff_eq, beq_eq_false_iff_ne, Int.reduceToNat, Int.toNat_natCast, Int.reduceAdd, Int.reduceSub, ByteArray.size_extract, not_true_eq_false, not_false_eq_true, hc, hcf, hcd] at h'; first | (guard_hyp h' : True; clear h') | (exfalso; omega) | skip) | skip)))
          all_goals first | omega | skip
          · change (([] : List tCh.Val).length + 1) * 32 ≤ 140737488355328
            omega
          · refine ⟨(_, t, d, some _, _), rfl, ⟨k + 1, nf, nd, a4, by omega, ?_, ?_, hsh, by omega, by omega, ?_, ?_⟩, ?_⟩
            · simp only [Int.toNat_natCast, hc]
              rw [cnt_put, if_neg (fun e => hcf' e.symm)]; exact hnf
            · simp only [Int.toNat_natCast, hc]
              rw [cnt_put, if_neg (fun e => hcd' e.symm)]; exact hnd
            · change (List.append ([] : List tCh.Val) [_]).length ≤ k + 1
              rw [show List.append ([] : List tCh.Val) [_] = [] ++ [_] from rfl, List.length_append, List.length_singleton]; omega
            · simp only [Int.toNat_natCast, hc]; exact hrd
            · simp only [a4, Int.toNat_natCast]; omega
      · have hnf' : Option.getD (mapGet (kt := .str) (et := .int .i64) (⟨#[102, 109, 116, 32]⟩ : ByteArray) ml) (Int.ofNat 0) = (nf : Int) := hnf
        have hnd' : Option.getD (mapGet (kt := .str) (et := .int .i64) (⟨#[100, 97, 116, 97]⟩ : ByteArray) ml) (Int.ofNat 0) = (nd : Int) := hnd
        rw [List.drop_eq_nil_of_le (by omega)] at hrd
        have hE := hEnd _ _ _ _ _ hrd
        (repeat' (first | refine And.intro ?_ ?_ | (intro h'; first | (exfalso; revert h'; decide) | (simp only [decide_eq_true_eq, decide_eq_false_iff_not, Bool.not_eq_true', Bool.not_eq_false', bne_iff_ne, beq_iff_eq, ne_eq, bne_eq_false_iff_eq, beq_eq_false_iff_ne, Int.reduceToNat, Int.toNat_natCast, Int.reduceAdd, Int.reduceSub, ByteArray.size_extract, not_true_eq_false, not_false_eq_true, hnf', hnd'] at h'; first | (guard_hyp h' : True; clear h') | (exfalso; omega) | skip) | skip)))
        all_goals first | omega | skip
        · rw [if_neg (fun h => by have := h.1; exact absurd this (by assumption))] at hE
          exact hB 3 _ _ (by decide) hE
        · rw [if_neg (fun h => by have := h.2.1; omega)] at hE
          exact hB 3 _ _ (by decide) hE
        · rw [if_neg (fun h => by have := h.2.2; omega)] at hE
          exact hB 3 _ _ (by decide) hE
        · rw [if_pos ⟨by assumption, by omega, by omega⟩] at hE
          exact hG0 _ _ hE
    | some l =>
      have a4 : IntKind.i64.wrap ((k : Int) + 1) = ((k + 1 : Nat) : Int) := by rw [IntWalk.i64_in _ (by omega)]; omega
      by_cases hlt : k < xs.length
      · rw [drop_get (Ty.dflt tCh) hlt] at hrd
        obtain ⟨c, hc⟩ : ∃ c, xs.getD k (Ty.dflt tCh) = c := ⟨_, rfl⟩
        have hcs : ByteArray.size c.2.1 ≤ 100000000 := hsz c (by rw [← hc, List.getD_eq_getElem?_getD, List.getElem?_eq_getElem hlt]; exact List.getElem_mem _)
        rw [hc] at hrd
        by_cases hcf : (c.1 : ByteArray) = ⟨#[102, 109, 116, 32]⟩
        · -- a format
          have hcf' : (c.1 : ByteArray) = fmtT := hcf
          simp only [readF, if_pos hcf'] at hrd
          cases hsb : shapeB (numsT c.2.1 t).1 (numsT c.2.1 t).2.1 (numsT c.2.1 t).2.2 with
          | false =>
            rw [show fmtOK c t = false by unfold fmtOK; rw [hsb]; rfl] at hrd
            (repeat' (first | refine And.intro ?_ ?_ | (intro h'; first | (exfalso; revert h'; decide) | (simp only [decide_eq_true_eq, decide_eq_false_iff_not, Bool.not_eq_true', Bool.not_eq_false', bne_iff_ne, beq_iff_eq, ne_eq, bne_eq_false_iff_eq, beq_eq_false_iff_ne, Int.reduceToNat, Int.toNat_natCast, Int.reduceAdd, Int.reduceSub, ByteArray.size_extract, not_true_eq_false, not_false_eq_true, hc, hcf, hsb, Bool.false_eq_true] at h'; first | (guard_hyp h' : True; clear h') | (exfalso; omega) | skip) | skip)))
            all_goals first | omega | exact (rfl : rfNode = _) | (simp only [Int.toNat_natCast, hc]; unfold maxLen; omega) | (simp only [Int.toNat_natCast, hc, hsb, Bool.not_true, Bool.not_false]; done) | kernel_rfl | skip
            all_goals exact hB2 hrd
          | true =>
            by_cases hfo : (c.2.1 : ByteArray) = formatS (numsT c.2.1 t).1 (numsT c.2.1 t).2.1 (numsT c.2.1 t).2.2
            · rw [show fmtOK c t = true by unfold fmtOK; rw [hsb, decide_eq_true hfo]; rfl] at hrd
              (repeat' (first | refine And.intro ?_ ?_ | (intro h'; first | (exfalso; revert h'; decide) | (simp only [decide_eq_true_eq, decide_eq_false_iff_not, Bool.not_eq_true', Bool.not_eq_false', bne_iff_ne, beq_iff_eq, ne_eq, bne_eq_false_iff_eq, beq_eq_false_iff_ne, Int.reduceToNat, Int.toNat_natCast, Int.reduceAdd, Int.reduceSub, ByteArray.size_extract, not_true_eq_false, not_false_eq_true, hc, hcf, hsb, Bool.true_eq_false] at h'; first | (guard_hyp h' : True; clear h') | (exfalso; omega) | skip) | skip)))
              all_goals first | omega | exact (rfl : rfNode = _) | (simp only [Int.toNat_natCast, hc]; unfold maxLen; omega) | (simp only [Int.toNat_natCast, hc, hsb, Bool.not_true, Bool.not_false]; done) | skip
              · kernel_rfl
              · kernel_rfl
              · exact absurd hfo h'
              · refine ⟨(_, numsT (xs.getD ((k : Int)).toNat (Ty.dflt tCh)).2.1 t, d, (some l), _), rfl, ⟨k + 1, nf + 1, nd, a4, by omega, ?_, ?_, ?_, by omega, by omega, ?_, ?_⟩, ?_⟩
                · simp only [Int.toNat_natCast, hc]
                  rw [cnt_put, if_pos hcf'.symm]
                  change IntKind.i64.wrap (cntM c.1 ml + 1) = _
                  rw [hcf', hnf, IntWalk.i64_in _ (by omega)]; omega
                · simp only [Int.toNat_natCast, hc]
                  rw [cnt_put, if_neg (by rw [hcf']; decide)]; exact hnd
                · intro _
                  simp only [Int.toNat_natCast, hc]; exact hsb
                · simp only at hmo ⊢; omega
                · simp only [Int.toNat_natCast, hc]; exact hrd
                · simp only [a4, Int.toNat_natCast]; omega
            · rw [show fmtOK c t = false by unfold fmtOK; rw [hsb, decide_eq_false hfo]; rfl] at hrd
              (repeat' (first | refine And.intro ?_ ?_ | (intro h'; first | (exfalso; revert h'; decide) | (simp only [decide_eq_true_eq, decide_eq_false_iff_not, Bool.not_eq_true', Bool.not_eq_false', bne_iff_ne, beq_iff_eq, ne_eq, bne_eq_false_iff_eq, beq_eq_false_iff_ne, Int.reduceToNat, Int.toNat_natCast, Int.reduceAdd, Int.reduceSub, ByteArray.size_extract, not_true_eq_false, not_false_eq_true, hc, hcf, hsb, Bool.true_eq_false] at h'; first | (guard_hyp h' : True; clear h') | (exfalso; omega) | skip) | skip)))
              all_goals first | omega | exact (rfl : rfNode = _) | (simp only [Int.toNat_natCast, hc]; unfold maxLen; omega) | (simp only [Int.toNat_natCast, hc, hsb, Bool.not_true, Bool.not_false]; done) | skip
              · kernel_rfl
              · kernel_rfl
              · exact hB2 hrd
              · exact absurd h' hfo
        have hcf' : ¬ (c.1 : ByteArray) = fmtT := hcf
        have hqf : ∀ v : Int, Option.getD (mapGet (kt := .str) (et := .int .i64) (⟨#[102, 109, 116, 32]⟩ : ByteArray) (mapPut (c.1 : ByteArray) v ml)) (Int.ofNat 0) = (nf : Int) := fun v => by
          have := cnt_put c.1 fmtT v ml
          rw [if_neg (fun e => hcf' e.symm), hnf] at this
          exact this
        by_cases hcd : (c.1 : ByteArray) = ⟨#[100, 97, 116, 97]⟩
        · -- data
          have hcd' : (c.1 : ByteArray) = datT := hcd
          simp only [readF, if_neg hcf', if_pos hcd'] at hrd
          have hdf : ((⟨#[100, 97, 116, 97]⟩ : ByteArray) = ⟨#[102, 109, 116, 32]⟩) ↔ False := ⟨by decide, fun h => h.elim⟩
          rw [hcd] at hqf
          by_cases hn1 : nf = 1
          case neg =>
            rw [if_neg (fun h => hn1 h.1)] at hrd
            have hgt : ∀ v : Int, (Option.getD (mapGet (kt := .str) (et := .int .i64) (⟨#[102, 109, 116, 32]⟩ : ByteArray) (mapPut (⟨#[100, 97, 116, 97]⟩ : ByteArray) v ml)) (Int.ofNat 0) != (1 : Int)) = true := fun v => by
              rw [hqf v]; exact bne_iff_ne.2 (show ¬ ((nf : Int) = (1 : Int)) by omega)
            (repeat' (first | refine And.intro ?_ ?_ | (intro h'; first | (exfalso; revert h'; decide) | (simp only [decide_eq_true_eq, decide_eq_false_iff_not, Bool.not_eq_true', Bool.not_eq_false', bne_iff_ne, beq_iff_eq, ne_eq, bne_eq_false_iff_eq, beq_eq_false_iff_ne, Int.reduceToNat, Int.toNat_natCast, Int.reduceAdd, Int.reduceSub, ByteArray.size_extract, not_true_eq_false, not_false_eq_true, hc, hdf, hcd, hqf] at h'; first | (guard_hyp h' : True; clear h') | (exfalso; omega) | skip) | skip)))
            all_goals first | omega | (simp only [Int.toNat_natCast, hc, hcd]; exact hgt _) | skip
            · kernel_rfl
            · kernel_rfl
            · exact hB2 hrd
          have hfn := frame_ne (hsh (by omega))
          have hgt : ∀ v : Int, (Option.getD (mapGet (kt := .str) (et := .int .i64) (⟨#[102, 109, 116, 32]⟩ : ByteArray) (mapPut (⟨#[100, 97, 116, 97]⟩ : ByteArray) v ml)) (Int.ofNat 0) != (1 : Int)) = false := fun v => by
            rw [hqf v, hn1]; rfl
          by_cases hmd : ((ByteArray.size c.2.1 : Nat) : Int).tmod (frameF t.1 t.2.2) = 0
          case neg =>
            rw [if_neg (fun h => hmd h.2)] at hrd
            (repeat' (first | refine And.intro ?_ ?_ | (intro h'; first | (exfalso; revert h'; decide) | (simp only [decide_eq_true_eq, decide_eq_false_iff_not, Bool.not_eq_true', Bool.not_eq_false', bne_iff_ne, beq_iff_eq, ne_eq, bne_eq_false_iff_eq, beq_eq_false_iff_ne, Int.reduceToNat, Int.toNat_natCast, Int.reduceAdd, Int.reduceSub, ByteArray.size_extract, not_true_eq_false, not_false_eq_true, hc, hdf, hcd, hqf, hmd] at h'; first | (guard_hyp h' : True; clear h') | (exfalso; omega) | skip) | skip)))
            all_goals first | omega | exact hfn (by assumption) | (simp only [Int.toNat_natCast, hc, hcd]; exact hgt _) | skip
            · kernel_rfl
            · kernel_rfl
            · exact hB2 hrd
          rw [if_pos ⟨hn1, hmd⟩] at hrd
          (repeat' (first | refine And.intro ?_ ?_ | (intro h'; first | (exfalso; revert h'; decide) | (simp only [decide_eq_true_eq, decide_eq_false_iff_not, Bool.not_eq_true', Bool.not_eq_false', bne_iff_ne, beq_iff_eq, ne_eq, bne_eq_false_iff_eq, beq_eq_false_iff_ne, Int.reduceToNat, Int.toNat_natCast, Int.reduceAdd, Int.reduceSub, ByteArray.size_extract, not_true_eq_false, not_false_eq_true, hc, hdf, hcd, hqf, hmd] at h'; first | (guard_hyp h' : True; clear h') | (exfalso; omega) | skip) | skip)))
          all_goals first | omega | exact hfn (by assumption) | (simp only [Int.toNat_natCast, hc, hcd]; exact hgt _) | skip
          · kernel_rfl
          · kernel_rfl
          · refine ⟨(_, t, (xs.getD ((k : Int)).toNat (Ty.dflt tCh)).2.1, (some l), _), rfl, ⟨k + 1, nf, nd + 1, a4, by omega, ?_, ?_, hsh, by omega, by omega, ?_, ?_⟩, ?_⟩
            · simp only [Int.toNat_natCast, hc]
              rw [cnt_put, if_neg (fun e => hcf' e.symm)]; exact hnf
            · simp only [Int.toNat_natCast, hc]
              rw [cnt_put, if_pos hcd'.symm]
              change IntKind.i64.wrap (cntM c.1 ml + 1) = _
              rw [hcd', hnd, IntWalk.i64_in _ (by omega)]; omega
            · simp only at hmo ⊢; omega
            · simp only [Int.toNat_natCast, hc]; exact hrd
            · simp only [a4, Int.toNat_natCast]; omega
        · -- another chunk
          have hcd' : ¬ (c.1 : ByteArray) = datT := hcd
          simp only [readF, if_neg hcf', if_neg hcd'] at hrd
          have hln : (l : List tCh.Val).length ≤ k := hmo
          (repeat' (first | refine And.intro ?_ ?_ | (intro h'; first | (exfalso; revert h'; decide) | (simp only [decide_eq_true_eq, decide_eq_false_iff_not, Bool.not_eq_true', Bool.not_eq_false', bne_iff_ne, beq_iff_eq, ne_eq, bne_eq_false_iff_eq, beq_eq_false_iff_ne, Int.reduceToNat, Int.toNat_natCast, Int.reduceAdd, Int.reduceSub, ByteArray.size_extract, not_true_eq_false, not_false_eq_true, hc, hcf, hcd] at h'; first | (guard_hyp h' : True; clear h') | (exfalso; omega) | skip) | skip)))
          all_goals first | omega | skip
          · change ((l : List tCh.Val).length + 1) * 32 ≤ 140737488355328
            omega
          · refine ⟨(_, t, d, some _, _), rfl, ⟨k + 1, nf, nd, a4, by omega, ?_, ?_, hsh, by omega, by omega, ?_, ?_⟩, ?_⟩
            · simp only [Int.toNat_natCast, hc]
              rw [cnt_put, if_neg (fun e => hcf' e.symm)]; exact hnf
            · simp only [Int.toNat_natCast, hc]
              rw [cnt_put, if_neg (fun e => hcd' e.symm)]; exact hnd
            · change (List.append (l : List tCh.Val) [_]).length ≤ k + 1
              rw [show List.append (l : List tCh.Val) [_] = l ++ [_] from rfl, List.length_append, List.length_singleton]; omega
            · simp only [Int.toNat_natCast, hc]; exact hrd
            · simp only [a4, Int.toNat_natCast]; omega
      · have hnf' : Option.getD (mapGet (kt := .str) (et := .int .i64) (⟨#[102, 109, 116, 32]⟩ : ByteArray) ml) (Int.ofNat 0) = (nf : Int) := hnf
        have hnd' : Option.getD (mapGet (kt := .str) (et := .int .i64) (⟨#[100, 97, 116, 97]⟩ : ByteArray) ml) (Int.ofNat 0) = (nd : Int) := hnd
        rw [List.drop_eq_nil_of_le (by omega)] at hrd
        have hE := hEnd _ _ _ _ _ hrd
        (repeat' (first | refine And.intro ?_ ?_ | (intro h'; first | (exfalso; revert h'; decide) | (simp only [decide_eq_true_eq, decide_eq_false_iff_not, Bool.not_eq_true', Bool.not_eq_false', bne_iff_ne, beq_iff_eq, ne_eq, bne_eq_false_iff_eq, beq_eq_false_iff_ne, Int.reduceToNat, Int.toNat_natCast, Int.reduceAdd, Int.reduceSub, ByteArray.size_extract, not_true_eq_false, not_false_eq_true, hnf', hnd'] at h'; first | (guard_hyp h' : True; clear h') | (exfalso; omega) | skip) | skip)))
        all_goals first | omega | skip
        · rw [if_neg (fun h => by have := h.1; exact absurd this (by assumption))] at hE
          exact hB 3 _ _ (by decide) hE
        · rw [if_neg (fun h => by have := h.2.1; omega)] at hE
          exact hB 3 _ _ (by decide) hE
        · rw [if_neg (fun h => by have := h.2.2; omega)] at hE
          exact hB 3 _ _ (by decide) hE
        · rw [if_pos ⟨by assumption, by omega, by omega⟩] at hE
          exact hG1 _ _ _ hE
  · exact h.elim
noncomputable def eRead : Ent Try.prog := Ent.ofN tt_ok mixed (rf := (rfNode, rfS)) rf_ok (by kernel_rfl) read_l (by kernel_rfl)
end Go.Proofs.Ytmkbigaofhionaa
