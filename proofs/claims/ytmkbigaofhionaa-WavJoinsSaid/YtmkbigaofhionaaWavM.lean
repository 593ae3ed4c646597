/- Package wav by the abstract machine: what is said of win's functions, of isType and of Split. -/
import Derived.Test.YtmkbigaofhionaaAbsG
import Derived.Test.YtmkbigaofhionaaStrP
import Derived.Test.YtmkbigaofhionaaWavT
namespace Go.Proofs.Ytmkbigaofhionaa
open Go.RowKit
set_option linter.unusedVariables false
set_option linter.unusedSimpArgs false


theorem VRels.ag {g : G} {w : World} {l r : List AV} {cs : List Value} (h : VRels g w (.agg l :: r) cs) : ∃ c r', cs = .agg c :: r' ∧ VRels g w l c.toList ∧ VRels g w r r' := by
  obtain ⟨c, r', h1, h2, h3⟩ := VRels.cons.1 h
  simp only [VRel] at h2
  obtain ⟨cs, h4, rfl⟩ := h2
  exact ⟨cs.toArray, r', h1, by simpa using h4, h3⟩
theorem vr_v {g : G} {w : World} {x : Value} : VRel g w (.v x) x := VRel.v_iff.2 rfl
theorem vr_agg {g : G} {w : World} {l : List AV} {cs : List Value} (h : VRels g w l cs) : VRel g w (.agg l) (.agg cs.toArray) := by simp only [VRel]; exact ⟨cs, h, rfl⟩
theorem vr_tup {g : G} {w : World} {l : List AV} {cs : List Value} (h : VRels g w l cs) : VRel g w (.tup l) (.tuple cs.toArray) := by simp only [VRel]; exact ⟨cs, h, rfl⟩
theorem vrs_nil {g : G} {w : World} : VRels g w [] [] := VRels.nil.2 rfl
theorem vrs_cons {g : G} {w : World} {a : AV} {c : Value} {l : List AV} {cs : List Value} (h : VRel g w a c) (h' : VRels g w l cs) : VRels g w (a :: l) (c :: cs) := VRels.cons.2 ⟨c, cs, rfl, h, h'⟩

def ofA : List AV → R AV
  | [.v (.string s)] => .ok (.agg [.v (.string s), .v (.int .i64 0)])
  | _ => .bad
theorem ofA_ok : PureOK Try.prog 54 ofA := by
  intro g w args cargs K Z hv h
  unfold ofA at h
  split at h
  · rename_i s
    obtain ⟨r, rfl, hr⟩ := hv.v1
    obtain rfl := VRels.nil.1 hr
    exact (of_any s w).mono fun e w' he => ⟨_, _, he.1, he.2, h, vr_agg (vrs_cons vr_v (vrs_cons vr_v vrs_nil))⟩
  · exact h.elim

def textA : List AV → R AV
  | [.agg [.v (.string s), .v (.int .i64 b)]] => .ok (.v (.string s))
  | _ => .bad
theorem textA_ok : PureOK Try.prog 59 textA := by
  intro g w args cargs K Z hv h
  unfold textA at h
  split at h
  · rename_i s b
    obtain ⟨c, r, rfl, hc, hr⟩ := hv.ag
    obtain rfl := VRels.nil.1 hr
    obtain ⟨r1, h1, hc⟩ := hc.v1
    obtain ⟨r2, h2, hc⟩ := hc.v1
    obtain rfl := VRels.nil.1 hc
    obtain rfl : c = #[.string s, .int .i64 b] := by apply Array.ext'; rw [h1, h2]
    exact (text_any s b w).mono fun e w' he => ⟨_, _, he.1, he.2, h, vr_v⟩
  · exact h.elim

def lenA' : List AV → R AV
  | [.agg [.v (.string s), .v (.int .i64 b)]] => .need (s.size ≤ maxLen) (.ok (.v (.int .i64 s.size)))
  | _ => .bad
theorem lenA_ok : PureOK Try.prog 60 lenA' := by
  intro g w args cargs K Z hv h
  unfold lenA' at h
  split at h
  · rename_i s b
    obtain ⟨c, r, rfl, hc, hr⟩ := hv.ag
    obtain rfl := VRels.nil.1 hr
    obtain ⟨r1, h1, hc⟩ := hc.v1
    obtain ⟨r2, h2, hc⟩ := hc.v1
    obtain rfl := VRels.nil.1 hc
    obtain rfl : c = #[.string s, .int .i64 b] := by apply Array.ext'; rw [h1, h2]
    exact (len_any s b w h.1).mono fun e w' he => ⟨_, _, he.1, he.2, h.2, vr_v⟩
  · exact h.elim

def subA : List AV → R AV
  | [.agg [.v (.string s), .v (.int .i64 b)], .v (.int .i64 at_), .v (.int .i64 n)] => .need (s.size ≤ maxLen) (.br (decide (at_ < 0 ∨ n < 0)) (.ok (.tup [.agg [.v (.string ⟨#[]⟩), .v (.int .i64 0)], .v (.int .i64 1)]))
      (.br (decide ((s.size : Int) < at_ ∨ s.size - at_ < n)) (.ok (.tup [.agg [.v (.string ⟨#[]⟩), .v (.int .i64 0)], .v (.int .i64 2)])) (.ok (.tup [.agg [.v (.string (s.extract at_.toNat (at_ + n).toNat)), .v (.int .i64 (wrap64 (b + at_)))], .v (.int .i64 0)]))))
  | _ => .bad
theorem subA_ok : PureOK Try.prog 58 subA := by
  intro g w args cargs K Z hv h
  unfold subA at h
  split at h
  · rename_i s b at_ n
    obtain ⟨c, r, rfl, hc, hr⟩ := hv.ag
    obtain ⟨r3, e3, hr3⟩ := hr.v1
    obtain ⟨r4, e4, hr4⟩ := hr3.v1
    obtain e6 := VRels.nil.1 hr4
    subst e3 e4 e6
    obtain ⟨r1, h1, hc⟩ := hc.v1
    obtain ⟨r2, h2, hc⟩ := hc.v1
    obtain rfl := VRels.nil.1 hc
    obtain rfl : c = #[.string s, .int .i64 b] := by apply Array.ext'; rw [h1, h2]
    refine (sub_any s b at_ n w h.1).mono fun e w' he => ?_
    have key : K (.tup [.agg [.v (.string (subS s at_ n)), .v (.int .i64 (subB s b at_ n))], .v (.int .i64 (subE s.size at_ n))]) := by
      have h2 := h.2
      unfold subS subB
      by_cases h3 : at_ < 0 ∨ n < 0
      · have e : subE s.size at_ n = 1 := by unfold subE; rw [if_pos h3]
        simp only [e]
        exact h2.1 (decide_eq_true h3)
      · by_cases h4 : (s.size : Int) < at_ ∨ s.size - at_ < n
        · have e : subE s.size at_ n = 2 := by unfold subE; rw [if_neg h3, if_pos h4]
          simp only [e]
          exact (h2.2 (decide_eq_false h3)).1 (decide_eq_true h4)
        · have e : subE s.size at_ n = 0 := by unfold subE; rw [if_neg h3, if_neg h4]
          simp only [e]
          exact (h2.2 (decide_eq_false h3)).2 (decide_eq_false h4)
    exact ⟨_, _, he.1, he.2, key, vr_tup (vrs_cons (vr_agg (vrs_cons vr_v (vrs_cons vr_v vrs_nil))) (vrs_cons vr_v vrs_nil))⟩
  · exact h.elim

/-- How great a number of n bytes may be. -/
def valB (n : Int) (v : Nat) : Prop := v < 18446744073709551616 ∧ (n ≤ 4 → v < 4294967296) ∧ (n ≤ 2 → v < 65536) ∧ (n ≤ 1 → v < 256)
theorem valB_of {n : Int} (h : n = 1 ∨ n = 2 ∨ n = 4 ∨ n = 8) (t : ByteArray) (big : Bool) : valB n (valF t n.toNat big n.toNat) := by
  have := valF_lt t n.toNat big n.toNat
  unfold valB
  generalize valF t n.toNat big n.toNat = v at this
  rcases h with rfl | rfl | rfl | rfl
  · have this : v < 256 := this
    omega
  · have this : v < 65536 := this
    omega
  · have this : v < 4294967296 := this
    omega
  · have this : v < 18446744073709551616 := this
    omega
def uintA : List AV → R AV
  | [.agg [.v (.string s), .v (.int .i64 b)], .v (.int .i64 at_), .v (.int .i64 n), .v (.bool big)] => .need (s.size ≤ maxLen) (.br (widthB n) (.br (decide (at_ < 0)) (.ok (.tup [.v (.int .u64 0), .v (.int .i64 1)]))
      (.br (decide ((s.size : Int) < at_ ∨ s.size - at_ < n)) (.ok (.tup [.v (.int .u64 0), .v (.int .i64 2)])) (.fact (valB n (valF (s.extract at_.toNat (at_ + n).toNat) n.toNat big n.toNat)) (.ok (.tup [.v (.int .u64 (valF (s.extract at_.toNat (at_ + n).toNat) n.toNat big n.toNat : Nat)), .v (.int .i64 0)])))))
      (.ok (.tup [.v (.int .u64 0), .v (.int .i64 1)])))
  | _ => .bad
theorem uintA_ok : PureOK Try.prog 55 uintA := by
  intro g w args cargs K Z hv h
  unfold uintA at h
  split at h
  · rename_i s b at_ n big
    obtain ⟨c, r, rfl, hc, hr⟩ := hv.ag
    obtain ⟨r3, e3, hr3⟩ := hr.v1
    obtain ⟨r4, e4, hr4⟩ := hr3.v1
    obtain ⟨r5, e5, hr5⟩ := hr4.v1
    obtain e6 := VRels.nil.1 hr5
    subst e3 e4 e5 e6
    obtain ⟨r1, h1, hc⟩ := hc.v1
    obtain ⟨r2, h2, hc⟩ := hc.v1
    obtain rfl := VRels.nil.1 hc
    obtain rfl : c = #[.string s, .int .i64 b] := by apply Array.ext'; rw [h1, h2]
    refine (uint_any s b at_ n big w h.1).mono fun e w' he => ?_
    have key : K (.tup [.v (.int .u64 (uintV s at_ n big : Nat)), .v (.int .i64 (uintE s.size at_ n))]) := by
      have h2 := h.2
      unfold uintV
      by_cases hW : widthB n = true
      · have hn := widthB_iff.1 hW
        have h2 := h2.1 hW
        have e0 : uintE s.size at_ n = subE s.size at_ n := by unfold uintE; rw [if_pos hW]
        by_cases h3 : at_ < 0
        · have e : subE s.size at_ n = 1 := by unfold subE; rw [if_pos (.inl h3)]
          simp only [e0, e]
          exact h2.1 (decide_eq_true h3)
        · have h3' : ¬ (at_ < 0 ∨ n < 0) := by omega
          by_cases h4 : (s.size : Int) < at_ ∨ s.size - at_ < n
          · have e : subE s.size at_ n = 2 := by unfold subE; rw [if_neg h3', if_pos h4]
            simp only [e0, e]
            exact (h2.2 (decide_eq_false h3)).1 (decide_eq_true h4)
          · have e : subE s.size at_ n = 0 := by unfold subE; rw [if_neg h3', if_neg h4]
            simp only [e0, e]
            exact (h2.2 (decide_eq_false h3)).2 (decide_eq_false h4) (valB_of hn _ _)
      · have e : uintE s.size at_ n = 1 := by unfold uintE; rw [if_neg hW]
        simp only [e]
        exact h2.2 (by simpa using hW)
    exact ⟨_, _, he.1, he.2, key, vr_tup (vrs_cons vr_v (vrs_cons vr_v vrs_nil))⟩
  · exact h.elim

def isTypeA : List AV → R AV
  | [.v (.string s)] => .need (s.size ≤ 140737488351232) (.ok (.v (.bool (typeB s))))
  | _ => .bad
theorem isTypeA_ok : PureOK Try.prog 57 isTypeA := by
  intro g w args cargs K Z hv h
  unfold isTypeA at h
  split at h
  · rename_i s
    obtain ⟨r, rfl, hr⟩ := hv.v1
    obtain rfl := VRels.nil.1 hr
    exact (isType_any s w h.1).mono fun e w' he => ⟨_, _, he.1, he.2, h.2, vr_v⟩
  · exact h.elim

noncomputable def eOf : Ent Try.prog := Ent.pure ofA_ok (by kernel_rfl)
noncomputable def eText : Ent Try.prog := Ent.pure textA_ok (by kernel_rfl)
noncomputable def eLen : Ent Try.prog := Ent.pure lenA_ok (by kernel_rfl)
noncomputable def eSub : Ent Try.prog := Ent.pure subA_ok (by kernel_rfl)
noncomputable def eUint : Ent Try.prog := Ent.pure uintA_ok (by kernel_rfl)
noncomputable def eIsType : Ent Try.prog := Ent.pure isTypeA_ok (by kernel_rfl)


abbrev tCh : Ty := ty68
def tuC (c : Chunk) : tCh.Val := (c.1, c.2, ())
def splitL : LSpec := fun n0 args p => match n0, args, p with
  | 0, [.v (.string s)], [] => .need (s.size ≤ 100000000) (.br (decide ((splitS s).2.2 = 0))
      (.ok (.tup [.v (.string (splitS s).1), .own 0, .v (.int .i64 0)], [(0, some (.row 68 tCh ((splitS s).2.1.map tuC)))]))
      (.ok (.tup [.v (.string ⟨#[]⟩), .v (.slice none 0 0), .v (.int .i64 (splitS s).2.2)], [])))
  | _, _, _ => .bad

noncomputable def gaW : List (Ent Try.prog) := [eOf, eText, eLen, eSub, eUint, eIsType, eHasP]

theorem splitS_1 {s : ByteArray} (h : s.size < 12) : (splitS s).2.2 = 2 := by unfold splitS; rw [if_pos h]
theorem splitS_2 {s : ByteArray} (h1 : ¬ s.size < 12) (h2 : riffB s = false ∨ typeB (s.extract 8 12) = false) : (splitS s).2.2 = 3 := by unfold splitS; rw [if_neg h1, if_pos h2]
theorem splitS_3 {s : ByteArray} (h1 : ¬ s.size < 12) (h2 : riffB s = true) (h3 : typeB (s.extract 8 12) = true) (h4 : s.size - 8 < u32 s 4) : (splitS s).2.2 = 2 := by
  unfold splitS; rw [if_neg h1, if_neg (by rw [h2, h3]; decide), if_pos h4]
theorem splitS_4 {s : ByteArray} (h1 : ¬ s.size < 12) (h2 : riffB s = true) (h3 : typeB (s.extract 8 12) = true) (h4 : u32 s 4 < s.size - 8) : (splitS s).2.2 = 3 := by
  unfold splitS; rw [if_neg h1, if_neg (by rw [h2, h3]; decide), if_neg (by omega), if_pos h4]
theorem splitS_5 {s : ByteArray} (h1 : ¬ s.size < 12) (h2 : riffB s = true) (h3 : typeB (s.extract 8 12) = true) (h4 : u32 s 4 = s.size - 8) : splitS s = if (chunksS s (s.size + 1) 12).2 = 0 then (s.extract 8 12, (chunksS s (s.size + 1) 12).1, 0) else (⟨#[]⟩, [], (chunksS s (s.size + 1) 12).2) := by
  unfold splitS; rw [if_neg h1, if_neg (by rw [h2, h3]; decide), if_neg (by omega), if_neg (by omega)]
theorem prefix_riff (s : ByteArray) (h : 4 ≤ s.size) : prefB s ⟨#[82, 73, 70, 70]⟩ = riffB s := by
  unfold prefB riffB
  have : (⟨#[82, 73, 70, 70]⟩ : ByteArray).size = 4 := rfl
  rw [this, decide_eq_true h, Bool.true_and]

theorem and1 (n : Nat) (h : n < 9223372036854775808) : bits .and .i64 (n : Int) 1 = ((n % 2 : Nat) : Int) := by
  have h1 : (BitVec.ofInt 64 1).toNat = 2 ^ 1 - 1 := by decide
  have key : (BitVec.ofInt 64 (n : Int) &&& BitVec.ofInt 64 1).toNat = ((n : Int) % ((2 ^ 64 : Nat) : Int)).toNat % 2 ^ 1 := by
    rw [BitVec.toNat_and, BitVec.toNat_ofInt, h1, Nat.and_two_pow_sub_one_eq_mod]
  show IntKind.i64.wrap ((BitVec.ofInt 64 (n : Int) &&& BitVec.ofInt 64 1).toNat : Nat) = _
  rw [key, IntKind.wrap_i64]
  omega
theorem bAt_extract (s : ByteArray) (a b i : Nat) (h : a + i < b) (hb : b ≤ s.size) : bAt (s.extract a b) i = (bget s (a + i) : Nat) := by
  unfold bAt bget
  have hs : s.size = s.data.size := rfl
  rw [ByteArray.data_extract, List.getD_eq_getElem?_getD, Array.getElem?_toList, Array.getElem?_extract, if_pos (by omega), Array.getD_eq_getD_getElem?]
theorem extract2 (s : ByteArray) (a b i j : Nat) (h : a + j ≤ b) : (s.extract a b).extract i j = s.extract (a + i) (a + j) := by
  apply ByteArray.ext
  simp only [ByteArray.data_extract, Array.extract_extract]
  congr 1
  omega

set_option maxHeartbeats 1000000 in
theorem split_l : LocalOK Try.prog (mkC tt gaW) 33 splitL := by
  refine ⟨Try.f33, _, Try.func33, rfl, fun n0 args p K Z h => ?_⟩
  unfold splitL at h; split at h
  · rename_i s; refine ⟨rfl, ?_⟩
    obtain ⟨hs, h⟩ := h
    have hB : ∀ e : Int, e ≠ 0 → (splitS s).2.2 = e → K (.tup [.v (.string ⟨#[]⟩), .v (.slice none 0 0), .v (.int .i64 e)], []) := fun e h0 he => by
      have := h.2 (by rw [he]; exact decide_eq_false h0)
      rw [he] at this; exact this
    have hG : ∀ l : List tCh.Val, (splitS s).2.2 = 0 → (splitS s).1 = s.extract 8 12 → (splitS s).2.1.map tuC = l → K (.tup [.v (.string (s.extract 8 12)), .own 0, .v (.int .i64 0)], [(0, some (.row 68 tCh l))]) := fun l h0 h1 h2 => by
      have := h.1 (by rw [h0]; rfl)
      change K _ at this
      rw [h1, h2] at this; exact this
    clear h
    have ru : valF (s.extract 4 8) 4 false 4 = u32 s 4 := rfl
    have hu := u32_lt s 4
    by_cases hz : s.size < 12
    · have hzi : (s.size : Int) < 12 := by omega
      have hd : decide ((s.size : Int) < 12) = true := decide_eq_true hzi
      (repeat' (first | refine And.intro ?_ ?_ | (intro h'; first | (exfalso; revert h'; decide) | (simp only [decide_eq_true_eq, decide_eq_false_iff_not, Bool.not_eq_true', Bool.not_eq_false', bne_iff_ne, beq_iff_eq, ne_eq, bne_eq_false_iff_eq, beq_eq_false_iff_ne, Int.reduceToNat, Int.toNat_natCast, Int.reduceAdd, Int.reduceSub, ByteArray.size_extract] at h'; first | (guard_hyp h' : True; clear h') | (exfalso; omega) | skip) | skip)))
      all_goals first | omega | skip
      exact hB 2 (by decide) (splitS_1 hz)
    have hr := prefix_riff s (by omega)
    (repeat' (first | refine And.intro ?_ ?_ | (intro h'; first | (exfalso; revert h'; decide) | (simp only [decide_eq_true_eq, decide_eq_false_iff_not, Bool.not_eq_true', Bool.not_eq_false', bne_iff_ne, beq_iff_eq, ne_eq, bne_eq_false_iff_eq, beq_eq_false_iff_ne, Int.reduceToNat, Int.toNat_natCast, Int.reduceAdd, Int.reduceSub, ByteArray.size_extract, ru, hr, IntKind.wrap_i64] at h'; first | (guard_hyp h' : True; clear h') | (exfalso; omega) | skip) | skip)))
    all_goals first | omega | (unfold maxLen; omega) | skip
    · exact hB 3 (by decide) (splitS_2 hz (.inl (by assumption)))
    · rw [ByteArray.size_extract]; omega
    · exact hB 3 (by decide) (splitS_2 hz (.inr (by assumption)))
    · exact hB 2 (by decide) (splitS_3 hz (by assumption) (by assumption) (by omega))
    · exact hB 3 (by decide) (splitS_4 hz (by assumption) (by assumption) (by omega))
    have h5 := splitS_5 hz (by assumption) (by assumption) (show u32 s 4 = s.size - 8 by omega)
    have hT : ∀ r : List Chunk × Int, chunksS s (s.size + 1) 12 = r → r.2 ≠ 0 → (splitS s).2.2 = r.2 := fun r e h => by
      rw [h5, e, if_neg h]
    have hO : ∀ os : List Chunk, chunksS s (s.size + 1) 12 = (os, 0) → splitS s = (s.extract 8 12, os, 0) := fun os e => by
      rw [h5, e, if_pos rfl]
    clear h5
    rename_i a1 a2 a3 a4 a5 a6 a7 a8
    clear a1 a2 a3 a4 a5 a6 a7 a8 h' hr ru hu
    refine ⟨List tCh.Val × Int, [0, 5, 8, 9, 10], [(9, 68, tCh)], fun | (l, a) => ⟨[(0, .v (.string s)), (5, .ptr 0 0), (8, .v (.string (s.extract 8 12))), (9, .own 1), (10, .v (.int .i64 a))], [(0, some (.cells 88 [.v (.string s), .v (.int .i64 0)])), (1, some (.row 68 tCh l))], 2⟩,
      fun x => ∃ (f p : Nat) (os : List Chunk), x.2 = p ∧ 12 ≤ p ∧ p ≤ s.size ∧ s.size < p + f ∧ chunksS s (s.size + 1) 12 = gathS os (chunksS s f p) ∧ x.1 = os.map tuC ∧ 8 * os.length + 12 ≤ p, fun x => s.size - x.2.toNat, ⟨([], 12), rfl, ?_⟩, fun x hx => ?_⟩
    · exact ⟨s.size + 1, 12, [], rfl, by omega, by omega, by omega, (gathS_nil _ (chunksS_nil s _ _)).symm, rfl, by simp⟩
    · obtain ⟨l, a⟩ := x
      obtain ⟨f, p, os, ha, hp1, hp2, hf, hch, hl, hlen⟩ := hx
      change a = _ at ha
      change l = _ at hl
      subst ha hl
      obtain ⟨f, rfl⟩ : ∃ g, f = g + 1 := ⟨f - 1, by omega⟩
      have tp8 : ((p : Int) + 8).toNat = p + 8 := by omega
      have x1 : (s.extract p (p + 8)).extract 0 4 = s.extract p (p + 4) := extract2 s p (p + 8) 0 4 (by omega)
      have x2 : (s.extract p (p + 8)).extract 4 8 = s.extract (p + 4) (p + 8) := extract2 s p (p + 8) 4 8 (by omega)
      obtain ⟨N, hN⟩ : ∃ N, u32 s (p + 4) = N := ⟨_, rfl⟩
      have hNl := u32_lt s (p + 4)
      rw [hN] at hNl
      have x3 : valF (s.extract (p + 4) (p + 8)) 4 false 4 = N := hN
      have x4 : IntKind.i64.wrap (N : Int) = N := IntWalk.i64_in _ (by omega)
      have x5 := and1 N (by omega)
      have x6 : IntKind.i64.wrap ((N : Int) + ((N % 2 : Nat) : Int)) = ((N + N % 2 : Nat) : Int) := by rw [IntWalk.i64_in _ (by omega)]; omega
      have x7 : IntKind.i64.wrap ((p : Int) + 8) = ((p + 8 : Nat) : Int) := by rw [IntWalk.i64_in _ (by omega)]; omega
      have x8 : (((p + 8 : Nat) : Int) + ((N + N % 2 : Nat) : Int)).toNat = p + 8 + (N + N % 2) := by omega
      have x9 : (s.extract (p + 8) (p + 8 + (N + N % 2))).extract 0 N = s.extract (p + 8) (p + 8 + N) := extract2 s (p + 8) (p + 8 + (N + N % 2)) 0 N (by omega)
      have x10 : p + 8 + (N + N % 2) ≤ s.size → IntKind.i64.wrap ((p : Int) + IntKind.i64.wrap (8 + ((min (p + 8 + (N + N % 2)) s.size - (p + 8) : Nat) : Int))) = ((p + 8 + (N + N % 2) : Nat) : Int) := fun h => by
        have e2 : IntKind.i64.wrap (8 + ((N + N % 2 : Nat) : Int)) = ((8 + (N + N % 2) : Nat) : Int) := by rw [IntWalk.i64_in _ (by omega)]; omega
        rw [show min (p + 8 + (N + N % 2)) s.size - (p + 8) = N + N % 2 by omega, e2, IntWalk.i64_in _ (by omega)]; omega
      (repeat' (first | refine And.intro ?_ ?_ | (intro h'; first | (exfalso; revert h'; decide) | (simp only [decide_eq_true_eq, decide_eq_false_iff_not, Bool.not_eq_true', Bool.not_eq_false', bne_iff_ne, beq_iff_eq, ne_eq, bne_eq_false_iff_eq, beq_eq_false_iff_ne, Int.reduceToNat, Int.toNat_natCast, Int.reduceAdd, Int.reduceSub, ByteArray.size_extract, tp8, x1, x2, x3, x4, x5, x6, x7, x8] at h'; first | (guard_hyp h' : True; clear h') | (exfalso; omega) | skip) | skip)))
      all_goals first | omega | (unfold maxLen; omega) | skip
      all_goals first | (simp only [Int.reduceToNat, Int.toNat_natCast, Int.reduceAdd, tp8, x1, x2, x3, x4, x5, x6, x7, x8, maxLen, ByteArray.size_extract]; omega) | skip
      · exact hB 2 (by decide) (hT _ (hch.trans (gathS_cut os (by omega) (by omega))) (by decide))
      · exact hB 3 (by decide) (hT _ (hch.trans (gathS_type os (by omega) (by omega) (by assumption))) (by decide))
      · exact hB 2 (by decide) (hT _ (hch.trans (gathS_long os (by omega) (by omega) (by assumption) (by rw [hN]; omega))) (by decide))
      · refine hB 3 (by decide) (hT _ (hch.trans (gathS_pad os (by omega) (by omega) (by assumption) (by rw [hN]; omega) ⟨by rw [hN]; omega, fun h => ?_⟩)) (by decide))
        refine h' ?_
        rw [bAt_extract s _ _ _ (by omega) (by omega), ← hN, h]; rfl
      · kernel_rfl
      · change ((os.map tuC).length + 1) * 32 ≤ 140737488355328
        rw [List.length_map]; omega
      · kernel_rfl
      · have hle : p + 8 + (N + N % 2) ≤ s.size := by omega
        have hst := gathS_step (s := s) (p := p) (f := f) os (by omega) (by omega) (by assumption) (by rw [hN]; omega) (fun h => h.2 (by rw [hN]; have h9 := bAt_extract s (p + 8) (p + 8 + (N + N % 2)) N (by omega) (by omega); rw [h'] at h9; omega))
        rw [hN] at hst
        refine ⟨(_, _), rfl, ⟨f, p + 8 + (N + N % 2), os ++ [(s.extract p (p + 4), s.extract (p + 8) (p + 8 + N))], ?_, by omega, by omega, by omega, hch.trans hst, ?_, by rw [List.length_append, List.length_singleton]; omega⟩, ?_⟩
        · simp only [Int.reduceToNat, Int.toNat_natCast, Int.reduceAdd, tp8, x1, x2, x3, x4, x5, x6, x7, x8, ByteArray.size_extract]
          exact x10 (by omega)
        · change List.append (os.map tuC) [((_, _, ()) : ByteArray × ByteArray × Unit)] = _
          simp only [Int.reduceToNat, Int.toNat_natCast, Int.reduceAdd, tp8, x1, x2, x3, x4, x5, x6, x7, x8, x9, List.map_append]
          rfl
        · simp only [Int.reduceToNat, Int.toNat_natCast, Int.reduceAdd, tp8, x1, x2, x3, x4, x5, x6, x7, x8, ByteArray.size_extract, x10 hle]
          omega
      · kernel_rfl
      · change ((os.map tuC).length + 1) * 32 ≤ 140737488355328
        rw [List.length_map]; omega
      · kernel_rfl
      · have hle : p + 8 + (N + N % 2) ≤ s.size := by omega
        have hst := gathS_step (s := s) (p := p) (f := f) os (by omega) (by omega) (by assumption) (by rw [hN]; omega) (fun h => by have := h.1; rw [hN] at this; omega)
        rw [hN] at hst
        refine ⟨(_, _), rfl, ⟨f, p + 8 + (N + N % 2), os ++ [(s.extract p (p + 4), s.extract (p + 8) (p + 8 + N))], ?_, by omega, by omega, by omega, hch.trans hst, ?_, by rw [List.length_append, List.length_singleton]; omega⟩, ?_⟩
        · simp only [Int.reduceToNat, Int.toNat_natCast, Int.reduceAdd, tp8, x1, x2, x3, x4, x5, x6, x7, x8, ByteArray.size_extract]
          exact x10 (by omega)
        · change List.append (os.map tuC) [((_, _, ()) : ByteArray × ByteArray × Unit)] = _
          simp only [Int.reduceToNat, Int.toNat_natCast, Int.reduceAdd, tp8, x1, x2, x3, x4, x5, x6, x7, x8, x9, List.map_append]
          rfl
        · simp only [Int.reduceToNat, Int.toNat_natCast, Int.reduceAdd, tp8, x1, x2, x3, x4, x5, x6, x7, x8, ByteArray.size_extract, x10 hle]
          omega
      · have hend := hO os (hch.trans (gathS_end (s := s) (p := p) (f := f) os (by omega)))
        exact hG (os.map tuC) (by rw [hend]) (by rw [hend]) (by rw [hend])
  · exact h.elim
noncomputable def eSplit : Ent Try.prog := Ent.of tt_ok mixed split_l (by kernel_rfl)
end Go.Proofs.Ytmkbigaofhionaa
