/- A format's numbers, one by one: wav.numbers' function, for a caller that owns one block. -/
import Derived.Test.YtmkbigaofhionaaWavU
import Derived.Test.YtmkbigaofhionaaAbsI
namespace Go.Proofs.Ytmkbigaofhionaa
open Go.RowKit
set_option linter.unusedVariables false
set_option linter.unusedSimpArgs false

def atK (k : Nat) : Nat := [0, 2, 4, 8, 12, 14, 16].getD k 0
def wdK (k : Nat) : Nat := [2, 2, 4, 4, 2, 2].getD k 0
def valK (s : ByteArray) (k : Nat) : Nat := valF (s.extract (atK k) (atK k + wdK k)) (wdK k) false (wdK k)
def yF (s : ByteArray) (k : Nat) : Int × Int := ((k : Int), (valK s k : Int))
/-- How many there are. -/
def cntF (s : ByteArray) : Nat := if s.size < 2 then 0 else if s.size < 4 then 1 else if s.size < 8 then 2 else if s.size < 12 then 3 else if s.size < 14 then 4 else if s.size < 16 then 5 else 6
def ysF (s : ByteArray) : List (Int × Int) := (upN (cntF s)).map (yF s)
theorem cntF_iff (s : ByteArray) (k : Nat) (hk : k < 6) : k < cntF s ↔ atK k + wdK k ≤ s.size := by
  unfold cntF
  match k, hk with
  | 0, _ => simp only [show atK 0 = 0 from rfl, show wdK 0 = 2 from rfl]; (repeat' split) <;> omega
  | 1, _ => simp only [show atK 1 = 2 from rfl, show wdK 1 = 2 from rfl]; (repeat' split) <;> omega
  | 2, _ => simp only [show atK 2 = 4 from rfl, show wdK 2 = 4 from rfl]; (repeat' split) <;> omega
  | 3, _ => simp only [show atK 3 = 8 from rfl, show wdK 3 = 4 from rfl]; (repeat' split) <;> omega
  | 4, _ => simp only [show atK 4 = 12 from rfl, show wdK 4 = 2 from rfl]; (repeat' split) <;> omega
  | 5, _ => simp only [show atK 5 = 14 from rfl, show wdK 5 = 2 from rfl]; (repeat' split) <;> omega
theorem cntF_le (s : ByteArray) : cntF s ≤ 6 := by unfold cntF; (repeat' split) <;> omega
theorem upN_len : ∀ n, (upN n).length = n
  | 0 => rfl
  | n + 1 => by simp [upN, upN_len n]

noncomputable def cxN : Cx := mkC tt [eParts, eOf, eUint] 0
theorem cxN_ok : CxOK Try.prog cxN := mkC_ok tt_ok _ 0
def fr0 (y : Value) (s : ByteArray) : Fra := [(0, .v y), (1, .el .str s 0)]
/-- What is known when a round begins. -/
def frK (y : Value) (s : ByteArray) (k : Nat) : Fra := [(0, .v y), (1, .el .str s 0), (3, .v (.int .i64 (atK k : Nat))), (9, .ro tPart (partsF 0 0 0)), (10, .v (.int .i64 6)), (11, .v (.int .i64 (k : Nat)))]
/-- .. and when a number has been asked for. -/
def frM (y : Value) (s : ByteArray) (k : Nat) (v : Int) (e : Int) : Fra := frK y s k ++ [(4, .v (.int .i64 (k : Nat))), (5, .el tPart ((partsF 0 0 0).getD k (Ty.dflt tPart)) 0), (6, .v (.int .u64 v)), (7, .v (.int .i64 e))]

theorem parts0 : partsF 0 0 0 = [(1, 2, ()), (0, 2, ()), (0, 4, ()), (0, 4, ()), (0, 2, ()), (0, 2, ())] := by decide +kernel

theorem stS_v {t : Ty} {hp : Heap} {x : AV} {v : Value} {g : G} {w : World} {c : Value} (h : stS t hp x = some (.v v)) (hv : VRel g w x c) : c = v := by
  unfold stS at h
  split at h
  · injection h with h; injection h with h; subst h; exact VRel.v_iff.1 hv
  · injection h with h; injection h with h; subst h; simp only [VRel] at hv; exact hv.1
  · injection h with h; cases h
  · injection h with h; cases h
  · split at h
    · split at h
      · injection h with h; cases h
      · cases h
    · cases h
  · split at h
    · injection h with h; cases h
    · cases h
  · cases h
theorem look_app {α : Type} {k : Nat} {x : α} : ∀ {l r : List (Nat × α)}, look k l = some x → look k (l ++ r) = some x
  | [], r, h => by simp [look] at h
  | (i, a) :: l, r, h => by
    simp only [List.cons_append, look] at h ⊢
    split at h
    · exact h
    · exact look_app h
set_option maxHeartbeats 2000000 in
theorem numbers_it (s : ByteArray) (hs : s.size ≤ maxLen) (b1 bm l m : Nat) (J Jx : List (Int × Int) → World → Prop) (W : World)
    (hJ : ∀ pre A B, J pre A → A.grownBy B none → J pre B) (hJx : ∀ pre A B, Jx pre A → A.grownBy B none → Jx pre B) (hb1 : b1 < W.heap.size) (hne : b1 ≠ bm) (hbm : bm < W.heap.size) (hc : W.cell? ⟨b1, 0, none⟩ = some (.string s))
    (hY : ∀ pre x W1, J pre W1 → pre.length < 6 → YieldAt (WR none) m Try.prog l #[.int .i64 x.1, .int .i64 x.2] W1 fun e W' => (e = .returned (.bool true) ∧ J (pre ++ [x]) W' ∧ KpB bm W1 W') ∨ (e = .returned (.bool false) ∧ Jx (pre ++ [x]) W'))
    (h0 : J [] W) : CallsIn (WR none) (m + 1) Try.prog 95 #[.func (.yield l) #[] #[], .pointer (some ⟨b1, 0, none⟩)] W fun e W' => (∃ v, e = .returned v) ∧ (J (ysF s) W' ∨ ∃ pre, Jx pre W') := by
  refine callsIn_of_wp Try.func95 rfl trivial ?_ rfl
  rw [Try.ntmps95]
  obtain ⟨a0, ha0⟩ : ∃ a0 : Act, a0 = { tmps := #[.func (.yield l) #[] #[], .pointer (some ⟨b1, 0, none⟩)] ++ Array.replicate (40 - (#[.func (.yield l) #[] #[], .pointer (some ⟨b1, 0, none⟩)] : Array Value).size) undef, defers := [] } := ⟨_, rfl⟩
  have h0' : StI bm 40 (fr0 (.func (.yield l) #[] #[]) s) a0 W := by
    refine ⟨hbm, by rw [ha0]; simp, by rw [ha0], fun t x hx => ?_⟩
    unfold fr0 at hx
    rcases look_cons hx with ⟨rfl, rfl⟩ | hx
    · exact ⟨.func (.yield l) #[] #[], by rw [ha0]; simp, rfl, VRel.v_iff.2 rfl⟩
    rcases look_cons hx with ⟨rfl, rfl⟩ | hx
    · refine ⟨.pointer (some ⟨b1, 0, none⟩), by rw [ha0]; simp, rfl, ?_⟩
      simp only [VRel]
      refine ⟨b1, 0, [.string s], rfl, ⟨hb1, hne⟩, fun j v hj => ?_, rfl⟩
      match j, hj with
      | 0, hj => simp at hj; subst hj; exact hc
    · simp [look] at hx
  rw [← ha0]
  clear ha0
  -- the beginning
  refine wpIn_seq (wpIn_mono (seg cxN_ok mixed rfl (t := tPart) (L := [0, 1, 3]) (K := fun e fr => e = .normal ∧ fr = fr0 (.func (.yield l) #[] #[]) s ++ [(3, .v (.int .i64 0))]) h0' ?_) ?_)
  · (repeat' (first | refine And.intro ?_ ?_ | (intro h'; first | (exfalso; revert h'; decide) | (simp only [decide_eq_true_eq, decide_eq_false_iff_not, Bool.not_eq_true', Bool.not_eq_false', bne_iff_ne, beq_iff_eq, ne_eq, bne_eq_false_iff_eq, beq_eq_false_iff_ne, Int.reduceToNat, Int.toNat_natCast, Int.reduceAdd, Int.reduceSub, ByteArray.size_extract] at h'; first | (guard_hyp h' : True; clear h') | (exfalso; omega) | skip) | skip)))
    exact ⟨_, rfl, rfl, rfl⟩
  rintro e a1 W1 ⟨_, ⟨rfl, rfl⟩, h1, g1⟩
  refine wpIn_seq (wpIn_mono (seg cxN_ok mixed rfl (t := tPart) (L := [0, 1, 3, 9, 10, 11]) (K := fun e fr => e = .normal ∧ fr = frK (.func (.yield l) #[] #[]) s 0) h1 ?_) ?_)
  · (repeat' (first | refine And.intro ?_ ?_ | (intro h'; first | (exfalso; revert h'; decide) | (simp only [decide_eq_true_eq, decide_eq_false_iff_not, Bool.not_eq_true', Bool.not_eq_false', bne_iff_ne, beq_iff_eq, ne_eq, bne_eq_false_iff_eq, beq_eq_false_iff_ne, Int.reduceToNat, Int.toNat_natCast, Int.reduceAdd, Int.reduceSub, ByteArray.size_extract] at h'; first | (guard_hyp h' : True; clear h') | (exfalso; omega) | skip) | skip)))
    exact ⟨_, rfl, rfl, rfl⟩
  rintro e a2 W2 ⟨_, ⟨rfl, rfl⟩, h2, g2⟩
  have j2 : J [] W2 := hJ _ _ _ (hJ _ _ _ h0 g1) g2
  clear h1 h0' g1 g2
  -- the rounds
  refine wpIn_block (wpIn_loop (fun a W => ∃ k, k ≤ cntF s ∧ StI bm 40 (frK (.func (.yield l) #[] #[]) s k) a W ∧ J ((upN k).map (yF s)) W) (fun a _ => 7 - (match a.tmps.getD 11 undef with | .int _ n => n.toNat | _ => 0)) ⟨0, Nat.zero_le _, h2, j2⟩ ?_)
  rintro a W ⟨k, hk, hst, hj⟩
  have hc6 := cntF_le s
  have m11 : (match a.tmps.getD 11 undef with | .int _ n => n.toNat | _ => 0) = k := by
    obtain ⟨c, c1, _, c2⟩ := hst.fr 11 (.v (.int .i64 (k : Nat))) rfl
    rw [VRel.v_iff.1 c2] at c1
    rw [Array.getD_eq_getD_getElem?, c1]; simp
  -- is there one more?
  refine wpIn_seq (wpIn_mono (seg cxN_ok mixed rfl (t := tPart) (L := [0, 1, 3, 9, 10, 11, 12]) (K := fun e fr => e = .normal ∧ fr = frK (.func (.yield l) #[] #[]) s k ++ [(12, .v (.bool (decide ((k : Int) < 6))))]) hst ?_) ?_)
  · (repeat' (first | refine And.intro ?_ ?_ | (intro h'; first | (exfalso; revert h'; decide) | (simp only [decide_eq_true_eq, decide_eq_false_iff_not, Bool.not_eq_true', Bool.not_eq_false', bne_iff_ne, beq_iff_eq, ne_eq, bne_eq_false_iff_eq, beq_eq_false_iff_ne, Int.reduceToNat, Int.toNat_natCast, Int.reduceAdd, Int.reduceSub, ByteArray.size_extract] at h'; first | (guard_hyp h' : True; clear h') | (exfalso; omega) | skip) | skip)))
    exact ⟨_, rfl, rfl, rfl⟩
  rintro e a1 W1 ⟨_, ⟨rfl, rfl⟩, h1, g1⟩
  have j1 := hJ _ _ _ hj g1
  clear hst hj g1
  have c12 : a1.eval (.tmp 12) = .bool (decide ((k : Int) < 6)) := by
    obtain ⟨c, c1, _, c2⟩ := h1.fr 12 (.v (.bool (decide ((k : Int) < 6)))) rfl
    rw [VRel.v_iff.1 c2] at c1
    simp [Act.eval, c1]
  by_cases hk6 : k < 6
  case neg =>
    have hk6' : k = 6 := by omega
    have hcn : cntF s = 6 := by omega
    rw [decide_eq_false (by omega)] at c12
    refine wpIn_seq (wpIn_cond_false c12 (wpIn_exit ?_))
    refine ⟨h1.dn, .tuple #[], results_none rfl _ _ _, ⟨_, rfl⟩, ?_⟩
    refine .inl ?_
    unfold ysF; rw [hcn, ← hk6']; exact j1
  rw [decide_eq_true (by omega)] at c12
  refine wpIn_seq (wpIn_cond_true c12 (wpIn_skip ?_))
  refine wpIn_seq (wpIn_block ?_)
  -- facts on the round's number
  obtain ⟨hw, hwb, hsz, hat, hw4⟩ : (((partsF 0 0 0).getD k (Ty.dflt tPart)).2.1 : Int) = (wdK k : Nat) ∧ widthB (wdK k : Nat) = true ∧ atK k ≤ 16 ∧ atK (k + 1) = atK k + wdK k ∧ wdK k ≤ 4 := by
    rw [parts0]
    match k, hk6 with
    | 0, _ => exact ⟨rfl, by decide, by decide, rfl, by decide⟩
    | 1, _ => exact ⟨rfl, by decide, by decide, rfl, by decide⟩
    | 2, _ => exact ⟨rfl, by decide, by decide, rfl, by decide⟩
    | 3, _ => exact ⟨rfl, by decide, by decide, rfl, by decide⟩
    | 4, _ => exact ⟨rfl, by decide, by decide, rfl, by decide⟩
    | 5, _ => exact ⟨rfl, by decide, by decide, rfl, by decide⟩
  have hlen : (partsF 0 0 0).length = 6 := rfl
  -- the number
  have h3 : StI bm 40 (frK (.func (.yield l) #[] #[]) s k) a1 W1 := ⟨h1.lt, h1.sz, h1.dn, fun t x hx => h1.fr t x (look_app hx)⟩
  refine wpIn_seq (wpIn_mono (seg cxN_ok mixed rfl (t := tPart) (L := [0, 1, 3, 9, 10, 11, 4, 5]) (K := fun e fr => e = .normal ∧ fr = frK (.func (.yield l) #[] #[]) s k ++ [(4, .v (.int .i64 (k : Nat))), (5, .el tPart ((partsF 0 0 0).getD k (Ty.dflt tPart)) 0)]) h3 ?_) ?_)
  · (repeat' (first | refine And.intro ?_ ?_ | (intro h'; first | (exfalso; revert h'; decide) | (simp only [decide_eq_true_eq, decide_eq_false_iff_not, Bool.not_eq_true', Bool.not_eq_false', bne_iff_ne, beq_iff_eq, ne_eq, bne_eq_false_iff_eq, beq_eq_false_iff_ne, Int.reduceToNat, Int.toNat_natCast, Int.reduceAdd, Int.reduceSub, ByteArray.size_extract, hw] at h'; first | (guard_hyp h' : True; clear h') | (exfalso; omega) | skip) | skip)))
    all_goals first | omega | skip
    exact ⟨_, rfl, rfl, rfl⟩
  rintro e a2 W2 ⟨_, ⟨rfl, rfl⟩, h4, g2⟩
  have j2 := hJ _ _ _ j1 g2
  clear h1 h3 j1 g2 c12
  have key := cntF_iff s k hk6
  have hvb := valB_of (n := (wdK k : Int)) (by match k, hk6 with
    | 0, _ => exact .inr (.inl rfl)
    | 1, _ => exact .inr (.inl rfl)
    | 2, _ => exact .inr (.inr (.inl rfl))
    | 3, _ => exact .inr (.inr (.inl rfl))
    | 4, _ => exact .inr (.inl rfl)
    | 5, _ => exact .inr (.inl rfl)) (s.extract ((atK k : Int)).toNat ((atK k : Int) + (wdK k : Int)).toNat) false
  have hvl : IntKind.i64.wrap (valK s k : Int) = valK s k := by
    have := hvb.2.1 (by
      match k, hk6 with
      | 0, _ => decide
      | 1, _ => decide
      | 2, _ => decide
      | 3, _ => decide
      | 4, _ => decide
      | 5, _ => decide)
    rw [show ((atK k : Int) + (wdK k : Int)).toNat = atK k + wdK k by omega] at this
    exact IntWalk.i64_in _ (by change (valK s k : Nat) < 4294967296 at this; omega)
  have tn : ((atK k : Int) + (wdK k : Int)).toNat = atK k + wdK k := by omega
  refine wpIn_seq (wpIn_mono (seg cxN_ok mixed rfl (t := tPart) (L := [0, 1, 3, 9, 10, 11, 4, 5, 6, 7]) (K := fun e fr => e = .normal ∧ fr = frM (.func (.yield l) #[] #[]) s k (if k < cntF s then (valK s k : Int) else 0) (if k < cntF s then 0 else 2)) h4 ?_) ?_)
  · (repeat' (first | refine And.intro ?_ ?_ | (intro h'; first | (exfalso; revert h'; decide) | (simp only [decide_eq_true_eq, decide_eq_false_iff_not, Bool.not_eq_true', Bool.not_eq_false', bne_iff_ne, beq_iff_eq, ne_eq, bne_eq_false_iff_eq, beq_eq_false_iff_ne, Int.reduceToNat, Int.toNat_natCast, Int.reduceAdd, Int.reduceSub, ByteArray.size_extract, hw, hwb, Bool.true_eq_false] at h'; first | (guard_hyp h' : True; clear h') | (exfalso; omega) | skip) | skip)))
    all_goals first | omega | kernel_rfl | skip
    · refine ⟨_, rfl, rfl, ?_⟩
      rw [if_neg (by omega), if_neg (by omega)]; rfl
    · rw [hw]; exact hvb.1
    · rw [hw]; exact hvb.2.1 (by assumption)
    · rw [hw]; exact hvb.2.2.1 (by assumption)
    · rw [hw]; exact hvb.2.2.2 (by assumption)
    · refine ⟨_, rfl, rfl, ?_⟩
      rw [if_pos (by omega), if_pos (by omega)]
      simp only [hw, tn, Int.toNat_natCast]; rfl
  rintro e a3 W3 ⟨_, ⟨rfl, rfl⟩, h5, g3⟩
  have j3 := hJ _ _ _ j2 g3
  clear h4 j2 g3
  refine wpIn_seq (wpIn_seq ?_)
  by_cases hkc : k < cntF s
  case neg =>
    -- none is left
    rw [if_neg hkc, if_neg hkc] at h5
    refine wpIn_mono (seg cxN_ok mixed rfl (t := tPart) (L := [34]) (K := fun e fr => e = .normal ∧ fr = [(34, .v (.bool true))]) h5 ?_) ?_
    · (repeat' (first | refine And.intro ?_ ?_ | (intro h'; first | (exfalso; revert h'; decide) | (simp only [decide_eq_true_eq, decide_eq_false_iff_not, Bool.not_eq_true', Bool.not_eq_false', bne_iff_ne, beq_iff_eq, ne_eq, bne_eq_false_iff_eq, beq_eq_false_iff_ne, Int.reduceToNat, Int.toNat_natCast, Int.reduceAdd, Int.reduceSub, ByteArray.size_extract] at h'; first | (guard_hyp h' : True; clear h') | (exfalso; omega) | skip) | skip)))
      all_goals first | exact ⟨_, rfl, rfl, rfl⟩ | (simp_all; done)
    rintro e a4 W4 ⟨_, ⟨rfl, rfl⟩, h6, g4⟩
    have j4 := hJ _ _ _ j3 g4
    have c34 : a4.eval (.tmp 34) = .bool true := by
      obtain ⟨c, c1, _, c2⟩ := h6.fr 34 (.v (.bool true)) rfl
      rw [VRel.v_iff.1 c2] at c1
      simp [Act.eval, c1]
    refine wpIn_cond_true c34 (wpIn_ret ?_)
    refine ⟨h6.dn, .tuple #[], results_none rfl _ _ _, ⟨_, rfl⟩, ?_⟩
    refine .inl ?_
    unfold ysF; rw [show cntF s = k by omega]; exact j4
  rw [if_pos hkc, if_pos hkc] at h5
  have hr : Rel 40 (fun _ => False) W3 ⟨gB W3 bm, False⟩ (gB W3 bm) (frM (.func (.yield l) #[] #[]) s k (valK s k) 0) (hpOf []) 0 a3 W3 := ⟨inv_gB W3, fun k x hx => by
    obtain ⟨c, h1, _, h2⟩ := h5.fr k x hx
    exact ⟨c, h1, h2⟩, by rw [h5.dn]; exact Marks.nil, .inl h5.dn, h5.sz, fun _ _ => ⟨rfl, rfl⟩, fun _ h => h, fun _ h => .inl h, fun _ _ h => h⟩
  refine wpIn_region_list ?_
  rw [← List.take_append_drop 7 (Array.toList _)]
  refine runA_part (Z := fun _ _ => False) (cx := cxN) (K := fun st => stFr tPart [0, 1, 3, 9, 10, 11, 5, 27, 28, 29, 31] st = some (frK (.func (.yield l) #[] #[]) s k ++ [(5, .el tPart ((partsF 0 0 0).getD k (Ty.dflt tPart)) 0), (27, .v (.bool false)), (28, .v (.func (.yield l) #[] #[])), (29, .v (.int .i64 (k : Nat))), (31, .v (.int .i64 (valK s k : Int)))])) cxN_ok (Array.toArray_toList) (fun g st a W hK hr => ?_) (fun ch a w _ hb => by obtain ⟨_, _, _, _, h1, _⟩ := hb; exact h1.elim) _ 0 _ [] _ a3 W3 rfl ?_ hr
  rotate_left
  · (repeat' (first | refine And.intro ?_ ?_ | (intro h'; first | (exfalso; revert h'; decide) | (simp only [decide_eq_true_eq, decide_eq_false_iff_not, Bool.not_eq_true', Bool.not_eq_false', bne_iff_ne, beq_iff_eq, ne_eq, bne_eq_false_iff_eq, beq_eq_false_iff_ne, Int.reduceToNat, Int.toNat_natCast, Int.reduceAdd, Int.reduceSub, ByteArray.size_extract] at h'; first | (guard_hyp h' : True; clear h') | (exfalso; omega) | skip) | skip)))
    refine Eq.trans (b := some (frK (.func (.yield l) #[] #[]) s k ++ [(5, .el tPart ((partsF 0 0 0).getD k (Ty.dflt tPart)) 0), (27, .v (.bool false)), (28, .v (.func (.yield l) #[] #[])), (29, .v (.int .i64 (k : Nat))), (31, .v (.int .i64 (IntKind.i64.wrap (valK s k : Int))))])) rfl ?_
    rw [hvl]
  obtain ⟨h6, g4⟩ := StI.of_rel h5.lt hr hK
  have j4 := hJ _ _ _ j3 g4
  clear h5 hr j3 g4 hK
  -- the number is yielded
  have hy := hY _ (yF s k) _ j4 (by rw [List.length_map, upN_len]; exact hk6)
  obtain ⟨fn, tmps, assign, body, hrun, hround⟩ := hy
  have cs : ∀ t v, look t (frK (.func (.yield l) #[] #[]) s k ++ [(5, .el tPart ((partsF 0 0 0).getD k (Ty.dflt tPart)) 0), (27, .v (.bool false)), (28, .v (.func (.yield l) #[] #[])), (29, .v (.int .i64 (k : Nat))), (31, .v (.int .i64 (valK s k : Int)))]) = some (.v v) → a.tmps[t]? = some v := fun t v hv => by
    obtain ⟨c, c1, _, c2⟩ := h6.fr t _ hv
    rw [VRel.v_iff.1 c2] at c1
    exact c1
  have c27 := cs 27 (.bool false) rfl
  have c28 := cs 28 (.func (.yield l) #[] #[]) rfl
  have c29 := cs 29 (.int .i64 (k : Nat)) rfl
  have c31 := cs 31 (.int .i64 (valK s k : Int)) rfl
  clear cs
  change wpListIn (WR none) (m + 1) Try.prog _ _ (_ :: _) _ _
  unfold wpListIn
  rw [if_pos (by simp [Region.wanted, yielded, c27])]
  refine ⟨fun _ _ => trivial, ?_⟩
  have hrun' : ∀ o : Oper, o.op = .call { callee := .value (.tmp 28), args := #[.tmp 29, .tmp 31], argTypes := #[3, 3] } → (o.semAt (WR none).round a.eval).run Try.prog W = .ok (.round l fn tmps assign body) W := fun o ho => by
    rw [show o.semAt (WR none).round a.eval = execOp a.eval o from rfl]
    unfold execOp
    rw [ho]
    simp [resolve, invoke, Act.eval, c28, c29, c31, go_sem]
    exact hrun
  rw [hrun' _ rfl]
  refine ⟨fun h => absurd (h : false = true) (by decide), hround.mono (fun e W' hq => ?_)⟩
  rcases hq with ⟨rfl, j5, k5⟩ | ⟨rfl, jx⟩
  rotate_left
  · -- the caller has left
    have hsz32 : 32 < a.tmps.size := by rw [h6.sz]; decide
    have hr : Rel 40 (fun _ => False) W' ⟨{ m := fun _ => none, S := fun _ => False, β := fun _ => none }, False⟩ { m := fun _ => none, S := fun _ => False, β := fun _ => none } [(32, .v (.bool false)), (27, .v (.bool false))] (hpOf []) 0 (a.put (some 32) (.bool false)) W' := ⟨⟨⟨fun _ _ _ => rfl, rfl, rfl, rfl, Nat.le_refl _⟩, fun _ _ h => by simp [hpOf, patch, look] at h, fun _ _ _ _ _ h => by simp [hpOf, patch, look] at h, fun b h => h.elim, fun _ _ _ h => by simp [hpOf, patch, look] at h, fun _ _ _ h => by simp [hpOf, patch, look] at h⟩, fun t x hx => by
      rcases look_cons hx with ⟨rfl, rfl⟩ | hx
      · exact ⟨.bool false, by simp [Act.put, hsz32], VRel.v_iff.2 rfl⟩
      rcases look_cons hx with ⟨rfl, rfl⟩ | hx
      · exact ⟨.bool false, by simp [Act.put, Array.getElem?_setIfInBounds_ne (show 32 ≠ 27 by decide), c27], VRel.v_iff.2 rfl⟩
      · simp [look] at hx, by rw [(put_size _ _ _).2, h6.dn]; exact Marks.nil, .inl (by rw [(put_size _ _ _).2]; exact h6.dn), by rw [(put_size _ _ _).1]; exact h6.sz, fun _ _ => ⟨rfl, rfl⟩, fun _ h => h, fun _ h => .inl h, fun _ _ h => h⟩
    change wpListIn (WR none) (m + 1) Try.prog _ _ ([_, _] ++ []) _ _
    refine runA_part (Z := fun _ _ => False) (cx := cxN) (K := fun st => stFr tPart [34] st = some [(34, .v (.bool true))]) cxN_ok (Array.toArray_toList) (fun g st a W hK hr => ?_) (fun ch a w _ hb => by obtain ⟨_, _, _, _, h1, _⟩ := hb; exact h1.elim) _ 0 _ [] _ _ W' rfl ?_ hr
    rotate_left
    · (repeat' (first | refine And.intro ?_ ?_ | (intro h'; first | (exfalso; revert h'; decide) | (simp only [decide_eq_true_eq, decide_eq_false_iff_not, Bool.not_eq_true', Bool.not_eq_false', bne_iff_ne, beq_iff_eq, ne_eq, bne_eq_false_iff_eq, beq_eq_false_iff_ne, Int.reduceToNat, Int.toNat_natCast, Int.reduceAdd, Int.reduceSub, ByteArray.size_extract] at h'; first | (guard_hyp h' : True; clear h') | (exfalso; omega) | skip) | skip)))
      exact rfl
    unfold wpListIn
    have c34 : a.eval (.tmp 34) = .bool true := by
      obtain ⟨x, hx1, hx2⟩ := stSs_ok (show stSs tPart (hpOf st.hp) st.fr [34] = some [(34, .v (.bool true))] from hK) 34 _ rfl
      obtain ⟨c, c1, c2⟩ := hr.fr 34 _ hx1
      rw [stS_v hx2 c2] at c1
      simp [Act.eval, c1]
    refine wpIn_cond_true c34 (wpIn_ret ?_)
    exact ⟨hr.dz.resolve_right (fun h => h), .tuple #[], results_none rfl _ _ _, ⟨_, rfl⟩, .inr ⟨_, hJx _ _ _ jx ⟨hr.inv.os, hr.inv.tape, hr.inv.output, hr.inv.size, fun b hb _ => hr.inv.frame b hb (fun h => h)⟩⟩⟩
  have h7 := h6.keep k5
  have h8 : StI bm 40 ([(32, .v (.bool true))] ++ (frK (.func (.yield l) #[] #[]) s k ++ [(5, .el tPart ((partsF 0 0 0).getD k (Ty.dflt tPart)) 0), (27, .v (.bool false))])) (a.put (some 32) (.bool true)) W' := by
    refine ⟨h7.lt, by rw [(put_size _ _ _).1]; exact h7.sz, by rw [(put_size _ _ _).2]; exact h7.dn, fun t x hx => ?_⟩
    have hsz32 : 32 < a.tmps.size := by rw [h7.sz]; decide
    rcases look_cons hx with ⟨rfl, rfl⟩ | hx
    · exact ⟨.bool true, by simp [Act.put, hsz32], rfl, VRel.v_iff.2 rfl⟩
    · have hx' : look t (frK (.func (.yield l) #[] #[]) s k ++ [(5, .el tPart ((partsF 0 0 0).getD k (Ty.dflt tPart)) 0), (27, .v (.bool false))]) = some x := hx
      have hx2 := look_app (r := [(28, .v (.func (.yield l) #[] #[])), (29, .v (.int .i64 (k : Nat))), (31, .v (.int .i64 (valK s k : Int)))]) hx'
      rw [List.append_assoc] at hx2
      obtain ⟨c, c1, c2, c3⟩ := h7.fr t x hx2
      by_cases e : t = 32
      · subst e; cases hx'
      · exact ⟨c, by simp [Act.put, Array.getElem?_setIfInBounds_ne (Ne.symm e), c1], c2, c3⟩
  clear h7 h6 k5 hround hrun hrun' c27 c28 c29 c31
  have hr : Rel 40 (fun _ => False) W' ⟨gB W' bm, False⟩ (gB W' bm) ([(32, .v (.bool true))] ++ (frK (.func (.yield l) #[] #[]) s k ++ [(5, .el tPart ((partsF 0 0 0).getD k (Ty.dflt tPart)) 0), (27, .v (.bool false))])) (hpOf []) 0 (a.put (some 32) (.bool true)) W' := ⟨inv_gB W', fun k x hx => by
    obtain ⟨c, h1, _, h2⟩ := h8.fr k x hx
    exact ⟨c, h1, h2⟩, by rw [h8.dn]; exact Marks.nil, .inl h8.dn, h8.sz, fun _ _ => ⟨rfl, rfl⟩, fun _ h => h, fun _ h => .inl h, fun _ _ h => h⟩
  change wpListIn (WR none) (m + 1) Try.prog _ _ ([_, _] ++ []) _ _
  refine runA_part (Z := fun _ _ => False) (cx := cxN) (K := fun st => stFr tPart [0, 1, 3, 9, 10, 11, 5, 34] st = some (frK (.func (.yield l) #[] #[]) s k ++ [(5, .el tPart ((partsF 0 0 0).getD k (Ty.dflt tPart)) 0), (34, .v (.bool false))])) cxN_ok (Array.toArray_toList) (fun g st a W hK hr => ?_) (fun ch a w _ hb => by obtain ⟨_, _, _, _, h1, _⟩ := hb; exact h1.elim) _ 0 _ [] _ _ W' rfl ?_ hr
  rotate_left
  · (repeat' (first | refine And.intro ?_ ?_ | (intro h'; first | (exfalso; revert h'; decide) | (simp only [decide_eq_true_eq, decide_eq_false_iff_not, Bool.not_eq_true', Bool.not_eq_false', bne_iff_ne, beq_iff_eq, ne_eq, bne_eq_false_iff_eq, beq_eq_false_iff_ne, Int.reduceToNat, Int.toNat_natCast, Int.reduceAdd, Int.reduceSub, ByteArray.size_extract] at h'; first | (guard_hyp h' : True; clear h') | (exfalso; omega) | skip) | skip)))
    exact rfl
  obtain ⟨h9, g5⟩ := StI.of_rel h8.lt hr hK
  have j6 := hJ _ _ _ j5 g5
  clear h8 hr j5 g5 hK
  unfold wpListIn
  have c34 : a.eval (.tmp 34) = .bool false := by
    obtain ⟨c, c1, _, c2⟩ := h9.fr 34 (.v (.bool false)) rfl
    rw [VRel.v_iff.1 c2] at c1
    simp [Act.eval, c1]
  refine wpIn_cond_false c34 (wpIn_skip ?_)
  have hat' : IntKind.i64.wrap ((atK k : Int) + (wdK k : Int)) = (atK (k + 1) : Nat) := by rw [hat, IntWalk.i64_in _ (by omega)]; omega
  refine wpIn_mono (seg cxN_ok mixed rfl (t := tPart) (L := [0, 1, 3, 9, 10, 11]) (K := fun e fr => e = .normal ∧ fr = [(0, .v (.func (.yield l) #[] #[])), (1, .el .str s 0), (3, .v (.int .i64 (atK (k + 1) : Nat))), (9, .ro tPart (partsF 0 0 0)), (10, .v (.int .i64 6)), (11, .v (.int .i64 (k : Nat)))]) h9 ?_) ?_
  · (repeat' (first | refine And.intro ?_ ?_ | (intro h'; first | (exfalso; revert h'; decide) | (simp only [decide_eq_true_eq, decide_eq_false_iff_not, Bool.not_eq_true', Bool.not_eq_false', bne_iff_ne, beq_iff_eq, ne_eq, bne_eq_false_iff_eq, beq_eq_false_iff_ne, Int.reduceToNat, Int.toNat_natCast, Int.reduceAdd, Int.reduceSub, ByteArray.size_extract] at h'; first | (guard_hyp h' : True; clear h') | (exfalso; omega) | skip) | skip)))
    refine ⟨_, rfl, rfl, ?_⟩
    rw [hw, hat']
  rintro e a5 W5 ⟨_, ⟨rfl, rfl⟩, h10, g6⟩
  have j7 := hJ _ _ _ j6 g6
  have hk1 : IntKind.i64.wrap ((k : Int) + 1) = ((k + 1 : Nat) : Int) := by rw [IntWalk.i64_in _ (by omega)]; omega
  refine wpIn_mono (seg cxN_ok mixed rfl (t := tPart) (L := [0, 1, 3, 9, 10, 11]) (K := fun e fr => e = .normal ∧ fr = frK (.func (.yield l) #[] #[]) s (k + 1)) h10 ?_) ?_
  · (repeat' (first | refine And.intro ?_ ?_ | (intro h'; first | (exfalso; revert h'; decide) | (simp only [decide_eq_true_eq, decide_eq_false_iff_not, Bool.not_eq_true', Bool.not_eq_false', bne_iff_ne, beq_iff_eq, ne_eq, bne_eq_false_iff_eq, beq_eq_false_iff_ne, Int.reduceToNat, Int.toNat_natCast, Int.reduceAdd, Int.reduceSub, ByteArray.size_extract] at h'; first | (guard_hyp h' : True; clear h') | (exfalso; omega) | skip) | skip)))
    refine ⟨_, rfl, rfl, ?_⟩
    rw [hk1]; rfl
  rintro e a6 W6 ⟨_, ⟨rfl, rfl⟩, h11, g7⟩
  refine ⟨⟨k + 1, hkc, h11, hJ _ _ _ (by rw [show upN (k + 1) = upN k ++ [k] from rfl, List.map_append]; exact j7) g7⟩, ?_⟩
  have e1 : (match a6.tmps.getD 11 undef with | .int _ n => n.toNat | _ => 0) = k + 1 := by
    obtain ⟨c, c1, _, c2⟩ := h11.fr 11 (.v (.int .i64 ((k + 1 : Nat) : Int))) rfl
    rw [VRel.v_iff.1 c2] at c1
    rw [Array.getD_eq_getD_getElem?, c1]; simp only [Option.getD_some, Int.toNat_natCast]
  exact (show ∀ x y : Nat, x = k + 1 → y = k → 7 - x < 7 - y from fun x y hx hy => by omega) _ _ e1 m11
end Go.Proofs.Ytmkbigaofhionaa
