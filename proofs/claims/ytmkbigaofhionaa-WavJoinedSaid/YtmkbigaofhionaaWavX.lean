/- wav.Read's range over a format's numbers: which fields it sets. -/
import Derived.Test.YtmkbigaofhionaaWavW
import Derived.BigFrameIn
namespace Go.Proofs.Ytmkbigaofhionaa
open Go.RowKit
set_option linter.unusedVariables false
set_option linter.unusedSimpArgs false

def findRf : Code → Option (Code × Code)
  | .rangeFunc _ _ a b => some (a, b)
  | .seq x y => match findRf x with
    | some r => some r
    | none => findRf y
  | .cond _ x y => match findRf x with
    | some r => some r
    | none => findRf y
  | .block _ c => findRf c
  | .loop c => findRf c
  | .scope c => findRf c
  | _ => none
noncomputable def rfP : Code × Code := match Try.f41.body with
  | some c => (findRf c).getD (.skip, .skip)
  | none => (.skip, .skip)
noncomputable def rfNode : Code := .rangeFunc (.tmp 47) #[48, 49] rfP.1 rfP.2

def upd (x : Int × Int) (t : Int × Int × Int) : Int × Int × Int := if x.1 = 1 then (x.2, t.2.1, t.2.2) else if x.1 = 2 then (t.1, x.2, t.2.2) else if x.1 = 5 then (t.1, t.2.1, x.2) else t
def updL (l : List (Int × Int)) (t : Int × Int × Int) : Int × Int × Int := l.foldl (fun t x => upd x t) t
/-- What a sound's numbers are when a format has been gone through. -/
def numsT (s : ByteArray) (t : Int × Int × Int) : Int × Int × Int := updL (ysF s) t

/-- What the range does: m's three numbers. -/
noncomputable def rfS : Fra → Pat → Nat → R AS := fun fr hp nx => match look 47 fr, look 7 fr with
  | some (.clo (.func 95) [.ptr kb 0]), some (.ptr km 0) => match hpOf hp kb, hpOf hp km with
    | some (.cells T1 [.v (.string s)]), some (.cells T2 [.v (.int .i64 a), .v (.int .i64 b), .v (.int .i64 c), x, y]) =>
      .need (s.size ≤ maxLen) (.need (T2 = 60) (.ok ⟨fr, (km, some (.cells T2 [.v (.int .i64 (numsT s (a, b, c)).1), .v (.int .i64 (numsT s (a, b, c)).2.1), .v (.int .i64 (numsT s (a, b, c)).2.2), x, y])) :: hp, nx⟩))
    | _, _ => .bad
  | _, _ => .bad

/-- The owner's world while the range is under way. -/
structure RfI (w : World) (bm : Nat) (T2 : TypeId) (t : Int × Int × Int) (x y : Value) (pre : List (Int × Int)) (W : World) : Prop where
  os : W.os = w.os
  tape : W.tape = w.tape
  output : W.output = w.output
  size : w.heap.size ≤ W.heap.size
  same : ∀ b, b < w.heap.size → b ≠ bm → W.heap[b]? = w.heap[b]?
  cell : W.heap[bm]? = some (.cells #[.int .i64 (updL pre t).1, .int .i64 (updL pre t).2.1, .int .i64 (updL pre t).2.2, x, y] T2 (0, 0))

def rfBase (a : Act) (x : Int × Int) : Act := { tmps := ((#[48, 49] : Array Tmp).zip #[.int .i64 x.1, .int .i64 x.2]).foldl (fun t (p, v) => t.setIfInBounds p v) a.tmps, defers := [] }
def rfAct (a : Act) (x : Int × Int) : Act := ((rfBase a x).put (some 11) ((rfBase a x).eval (.tmp 48))).put (some 12) (((rfBase a x).put (some 11) ((rfBase a x).eval (.tmp 48))).eval (.tmp 49))
theorem rfAct_facts (a : Act) (x : Int × Int) (h : a.tmps.size = 107) : (rfAct a x).tmps.size = 107 ∧ (rfAct a x).defers = [] ∧ (rfAct a x).tmps[11]? = some (.int .i64 x.1) ∧ (rfAct a x).tmps[12]? = some (.int .i64 x.2) ∧ (rfAct a x).tmps[7]? = a.tmps[7]? := by
  have e : (rfBase a x).tmps = (a.tmps.setIfInBounds 48 (.int .i64 x.1)).setIfInBounds 49 (.int .i64 x.2) := by simp [rfBase]
  have e48 : (rfBase a x).eval (.tmp 48) = .int .i64 x.1 := by simp [Act.eval, e, h]
  have e49 : ((rfBase a x).put (some 11) ((rfBase a x).eval (.tmp 48))).eval (.tmp 49) = .int .i64 x.2 := by simp [Act.eval, Act.put, e, h]
  refine ⟨by unfold rfAct; rw [(put_size _ _ _).1, (put_size _ _ _).1, e]; simpa using h, rfl, ?_, ?_, ?_⟩
  · unfold rfAct; rw [e49, e48]; simp [Act.put, e, h]
  · unfold rfAct; rw [e49, e48]; simp [Act.put, e, h]
  · unfold rfAct; rw [e49, e48]; simp [Act.put, e, h]

noncomputable def cx0 : Cx := mkC (P := Try.prog) tt [] 1
theorem cx0_ok : CxOK Try.prog cx0 := mkC_ok tt_ok _ 1

set_option maxHeartbeats 1000000 in
theorem rf_body (l m bm : Nat) (T2 : TypeId) (a b c : Int) (x y : Value) (i v : Int) (act : Act) (W : World) (hsz : act.tmps.size = 107) (hd : act.defers = [])
    (h7 : act.tmps[7]? = some (.pointer (some ⟨bm, 0, none⟩))) (h11 : act.tmps[11]? = some (.int .i64 i)) (h12 : act.tmps[12]? = some (.int .i64 v)) (hT : T2 = 60)
    (hW : W.heap[bm]? = some (.cells #[.int .i64 a, .int .i64 b, .int .i64 c, x, y] T2 (0, 0))) :
    rfP.2.wpIn (WR (some l)) m Try.prog (fun e _ W' => e = .normal ∧ (W'.os = W.os ∧ W'.tape = W.tape ∧ W'.output = W.output ∧ W.heap.size ≤ W'.heap.size) ∧ (∀ b, b < W.heap.size → b ≠ bm → W'.heap[b]? = W.heap[b]?) ∧
      W'.heap[bm]? = some (.cells #[.int .i64 (upd (i, v) (a, b, c)).1, .int .i64 (upd (i, v) (a, b, c)).2.1, .int .i64 (upd (i, v) (a, b, c)).2.2, x, y] T2 (0, 0))) act W := by
  subst hT
  let g1 : G := { m := fun k => if k = 0 then some (.pointer (some ⟨bm, 0, none⟩)) else none, S := fun _ => False, β := fun _ => none }
  have hpE : ∀ k ob, hpOf [(0, some (.cells 60 [.v (.int .i64 a), .v (.int .i64 b), .v (.int .i64 c), .v x, .v y]))] k = some ob → k = 0 ∧ ob = .cells 60 [.v (.int .i64 a), .v (.int .i64 b), .v (.int .i64 c), .v x, .v y] := fun k ob h => by
    simp only [hpOf, patch, look] at h
    split at h
    · rename_i x hx
      split at hx
      · rename_i hb
        injection hx with hx; subst hx
        injection h with h
        exact ⟨(beq_eq hb).symm, h.symm⟩
      · cases hx
    · cases h
  have hk0 : ∀ k, hpOf [(0, some (.cells 60 [.v (.int .i64 a), .v (.int .i64 b), .v (.int .i64 c), .v x, .v y]))] k ≠ none → k = 0 := fun k h => by
    cases e : hpOf [(0, some (.cells 60 [.v (.int .i64 a), .v (.int .i64 b), .v (.int .i64 c), .v x, .v y]))] k with
    | none => exact absurd e h
    | some ob => exact (hpE k ob e).1
  have hm0 : ∀ c, g1.m 0 = some c → c = .pointer (some ⟨bm, 0, none⟩) := fun c h => by simp only [g1, if_true, Option.some.injEq] at h; exact h.symm
  have hblk : ∀ c b, c = .pointer (some ⟨bm, 0, none⟩) → blkOf c = some b → b = bm := fun c b h1 h2 => by subst h1; simp [blkOf] at h2; exact h2.symm
  have hI : Inv (fun b => b = bm) W g1 (hpOf [(0, some (.cells 60 [.v (.int .i64 a), .v (.int .i64 b), .v (.int .i64 c), .v x, .v y]))]) W := by
    refine ⟨⟨fun _ _ _ => rfl, rfl, rfl, rfl, Nat.le_refl _⟩, fun k ob h => ?_, fun k k' c c' b h h' _ _ _ _ => by rw [hk0 k h, hk0 k' h'], fun b h => h.elim, fun _ _ _ _ _ _ h => h, fun k c b h hc hb => ?_⟩
    · obtain ⟨rfl, rfl⟩ := hpE k ob h
      refine ⟨.pointer (some ⟨bm, 0, none⟩), by simp only [g1, if_true], bm, [.int .i64 a, .int .i64 b, .int .i64 c, x, y], rfl, hW, ?_⟩
      exact VRels.cons.2 ⟨_, _, rfl, VRel.v_iff.2 rfl, VRels.cons.2 ⟨_, _, rfl, VRel.v_iff.2 rfl, VRels.cons.2 ⟨_, _, rfl, VRel.v_iff.2 rfl, VRels.cons.2 ⟨_, _, rfl, VRel.v_iff.2 rfl, VRels.cons.2 ⟨_, _, rfl, VRel.v_iff.2 rfl, VRels.nil.2 rfl⟩⟩⟩⟩⟩
    · have := hk0 k h; subst this
      exact .inl (hblk c b (hm0 c hc) hb)
  have hr : Rel 107 (fun b => b = bm) W ⟨g1, False⟩ g1 [(7, .ptr 0 0), (11, .v (.int .i64 i)), (12, .v (.int .i64 v))] (hpOf [(0, some (.cells 60 [.v (.int .i64 a), .v (.int .i64 b), .v (.int .i64 c), .v x, .v y]))]) 1 act W := by
    refine ⟨hI, fun t z hz => ?_, by rw [hd]; exact Marks.nil, .inl hd, hsz, fun k hk => ⟨by simp only [g1]; rw [if_neg (by omega)], rfl⟩, fun _ h => h, fun _ h => .inl h, fun _ _ h => h⟩
    rcases look_cons hz with ⟨rfl, rfl⟩ | hz
    · exact ⟨_, h7, by simp only [VRel]; exact ⟨bm, by simp only [g1, if_true], rfl⟩⟩
    rcases look_cons hz with ⟨rfl, rfl⟩ | hz
    · exact ⟨_, h11, VRel.v_iff.2 rfl⟩
    rcases look_cons hz with ⟨rfl, rfl⟩ | hz
    · exact ⟨_, h12, VRel.v_iff.2 rfl⟩
    · simp [look] at hz
  refine wpIn_mono (awpR_ok (cx := cx0) (r := some l) (m := m) cx0_ok rfP.2 (fun e st => e = .normal ∧ hpOf st.hp 0 = some (.cells 60 [.v (.int .i64 (upd (i, v) (a, b, c)).1), .v (.int .i64 (upd (i, v) (a, b, c)).2.1), .v (.int .i64 (upd (i, v) (a, b, c)).2.2), .v x, .v y])) ⟨_, _, 1⟩ g1 act W (by kernel_rfl) ?_ hr) (fun e a' W' hq => ?_)
  · (repeat' (first | refine And.intro ?_ ?_ | (intro h'; first | (exfalso; revert h'; decide) | (simp only [decide_eq_true_eq, decide_eq_false_iff_not, Bool.not_eq_true', Bool.not_eq_false', bne_iff_ne, beq_iff_eq, ne_eq, bne_eq_false_iff_eq, beq_eq_false_iff_ne, Int.reduceToNat, Int.toNat_natCast, Int.reduceAdd, Int.reduceSub, ByteArray.size_extract] at h'; first | (guard_hyp h' : True; clear h') | (exfalso; omega) | skip) | skip)))
    all_goals first | exact (rfl : Exit.normal = Exit.normal) | skip
    · have e : upd (i, v) (a, b, c) = (v, b, c) := by unfold upd; rw [if_pos (by assumption)]
      rw [e]; rfl
    · have e : upd (i, v) (a, b, c) = (a, v, c) := by unfold upd; rw [if_neg (by assumption), if_pos (by assumption)]
      rw [e]; rfl
    · have e : upd (i, v) (a, b, c) = (a, b, v) := by unfold upd; rw [if_neg (by assumption), if_neg (by assumption), if_pos (by assumption)]
      rw [e]; rfl
    · have e : upd (i, v) (a, b, c) = (a, b, c) := by unfold upd; rw [if_neg (by assumption), if_neg (by assumption), if_neg (by assumption)]
      rw [e]; rfl
  · obtain ⟨g', st, ⟨rfl, hst⟩, hr'⟩ := hq
    obtain ⟨c', h1, b', cvs, rfl, h2, h3⟩ := hr'.inv.sat 0 _ hst
    have hp := hr'.pin 0 (.pointer (some ⟨bm, 0, none⟩)) (by simp only [g1, if_true])
    rw [hp] at h1; injection h1 with h1; injection h1 with h1; injection h1 with h1; injection h1 with h1; subst h1
    obtain ⟨_, _, rfl, v1, h3⟩ := VRels.cons.1 h3
    obtain ⟨_, _, rfl, v2, h3⟩ := VRels.cons.1 h3
    obtain ⟨_, _, rfl, v3, h3⟩ := VRels.cons.1 h3
    obtain ⟨_, _, rfl, v4, h3⟩ := VRels.cons.1 h3
    obtain ⟨_, _, rfl, v5, h3⟩ := VRels.cons.1 h3
    obtain rfl := VRels.nil.1 h3
    rw [VRel.v_iff] at v1 v2 v3 v4 v5
    subst v1 v2 v3 v4 v5
    exact ⟨rfl, ⟨hr'.inv.os, hr'.inv.tape, hr'.inv.output, hr'.inv.size⟩, fun b hb hne => hr'.inv.frame b hb hne, h2⟩

theorem updL_snoc (l : List (Int × Int)) (x : Int × Int) (t : Int × Int × Int) : updL (l ++ [x]) t = upd x (updL l t) := by unfold updL; rw [List.foldl_append]; rfl

set_option maxHeartbeats 1000000 in
theorem rf_ok : RfOK Try.prog 107 rfNode rfS := by
  intro O w0 S0 g fr hp nx a w K hr hnz h
  unfold rfS at h
  split at h
  rotate_left
  · exact h.elim
  rename_i kb km h47 h7
  split at h
  rotate_left
  · exact h.elim
  rename_i T1 s T2 i0 j0 k0 x y hkb hkm
  obtain ⟨hs, hT2, h⟩ := h
  -- the box and the sound in memory
  obtain ⟨c47, e47, v47⟩ := hr.fr 47 _ h47
  simp only [VRel] at v47
  obtain ⟨cs, v47, rfl⟩ := v47
  obtain ⟨cb, _, rfl, vb, v47⟩ := VRels.cons.1 v47
  obtain rfl := VRels.nil.1 v47
  simp only [VRel] at vb
  obtain ⟨b1, mb, rfl⟩ := vb
  obtain ⟨c', hc1, b1', cvs, h1, h2, h3⟩ := hr.inv.sat kb _ hkb
  rw [mb] at hc1; injection hc1 with hc1; subst hc1
  injection h1 with h1; injection h1 with h1; injection h1 with h1; subst h1
  obtain ⟨_, _, rfl, v1, h3⟩ := VRels.cons.1 h3
  obtain rfl := VRels.nil.1 h3
  rw [VRel.v_iff] at v1; subst v1
  obtain ⟨c7, e7, v7⟩ := hr.fr 7 _ h7
  simp only [VRel] at v7
  obtain ⟨bm, mm, rfl⟩ := v7
  obtain ⟨c', hc1, bm', cvm, h1, h4, h5⟩ := hr.inv.sat km _ hkm
  rw [mm] at hc1; injection hc1 with hc1; subst hc1
  injection h1 with h1; injection h1 with h1; injection h1 with h1; subst h1
  obtain ⟨_, _, rfl, v1, h5⟩ := VRels.cons.1 h5
  obtain ⟨_, _, rfl, v2, h5⟩ := VRels.cons.1 h5
  obtain ⟨_, _, rfl, v3, h5⟩ := VRels.cons.1 h5
  obtain ⟨x', _, rfl, v4, h5⟩ := VRels.cons.1 h5
  obtain ⟨y', _, rfl, v5, h5⟩ := VRels.cons.1 h5
  obtain rfl := VRels.nil.1 h5
  rw [VRel.v_iff] at v1 v2 v3
  subst v1 v2 v3
  have hb1 : b1 < w.heap.size := (Array.getElem?_eq_some_iff.1 h2).1
  have hbm : bm < w.heap.size := (Array.getElem?_eq_some_iff.1 h4).1
  have hne : b1 ≠ bm := by
    intro e; subst e
    have := hr.inv.inj kb km _ _ b1 (by rw [hkb]; simp) (by rw [hkm]; simp) mb mm rfl rfl
    subst this
    rw [hkb] at hkm; injection hkm with hkm; injection hkm with _ hkm; cases hkm
  have hcell : w.cell? ⟨b1, 0, none⟩ = some (.string s) := by simp [World.cell?, h2]
  refine wpIn_wide (n := 3).1 ?_
  refine wpIn_rangeFunc_ownF (F := Fence.wide) (n := 3) (α := Int × Int) (gf := 95) (lb := #[.pointer (some ⟨b1, 0, none⟩)]) rfl (by decide) (by simp [Act.eval, e47]) trivial ?_
    (encs := fun x => #[.int .i64 x.1, .int .i64 x.2]) (Kp := KpB bm) (S := fun xs => xs = ysF s) (Sp := fun _ => True) (N := 6) (w0 := w) (fun l J Jx W hW hJ hJx hY h0 => ?_) (fun h k => h.trans k) (fun W l o o' _ h ho _ => KpB.put o' h ho) (Below.refl _ w) (fun x => rfl)
    (RfI w bm T2 (i0, j0, k0) x' y') (fun _ _ _ => False) ?_ (fun _ _ _ _ _ h _ _ => h) ⟨rfl, rfl, rfl, Nat.le_refl _, fun _ _ _ => rfl, h4⟩ (rfAct a) (fun l x W K hK => ?_) (fun l pre x W hI hlen => ?_) (fun D xs W hD hxs hI hd => ?_) (fun D c pre W _ _ h _ => h.elim)
  · intro args w'
    exact run_callFunc' ⟨_, Try.func95, by kernel_rfl, by kernel_rfl⟩ args w'
  · refine (numbers_it s hs b1 bm l 1 J Jx W (fun pre A B hA hg => hJ pre A B none hA hg (by simp)) (fun pre A B hA hg => hJx pre A B none hA hg (by simp)) (Nat.lt_of_lt_of_le hb1 hW.size) hne (Nat.lt_of_lt_of_le hbm hW.size) ((hW.cell (p := ⟨b1, 0, none⟩) hb1).trans hcell) hY h0).mono (fun e W' he => ?_)
    refine ⟨he.1, ?_⟩
    rcases he.2 with h | ⟨pre, h⟩
    · exact .inl ⟨_, rfl, h⟩
    · exact .inr ⟨pre, trivial, h⟩
  · intro pre W W' row hI hg hrow
    refine ⟨hg.os.trans hI.os, hg.tape.trans hI.tape, hg.output.trans hI.output, Nat.le_trans hI.size hg.size, fun b hb hne => ?_, ?_⟩
    · rw [hg.block b (Nat.lt_of_lt_of_le hb hI.size) (fun e => by have := (hrow b e.symm).1; omega)]
      exact hI.same b hb hne
    · rw [hg.block bm (Nat.lt_of_lt_of_le hbm hI.size) (fun e => by have := (hrow bm e.symm).1; omega)]
      exact hI.cell
  · refine wpIn_seq (wpIn_region_list ?_)
    change wpListIn _ _ _ _ _ [_] _ _
    unfold wpListIn
    rw [if_pos (by simp [Region.wanted])]
    refine BigFrame.wpIn_assign (.tmp 48) rfl ?_
    unfold wpListIn
    refine wpIn_region_list ?_
    change wpListIn _ _ _ _ _ [_] _ _
    unfold wpListIn
    rw [if_pos (by simp [Region.wanted])]
    refine BigFrame.wpIn_assign (.tmp 49) rfl ?_
    unfold wpListIn
    exact hK
  · obtain ⟨f1, f2, f3, f4, f5⟩ := rfAct_facts a x hr.sz
    have hb := rf_body l 1 bm T2 (updL pre (i0, j0, k0)).1 (updL pre (i0, j0, k0)).2.1 (updL pre (i0, j0, k0)).2.2 x' y' x.1 x.2 (rfAct a x) W f1 f2 (by rw [f5]; exact e7) f3 f4 hT2 hI.cell
    refine wpIn_mono hb (fun e a' W' hq => ?_)
    obtain ⟨rfl, ⟨q1, q2, q3, q4⟩, q5, q6⟩ := hq
    have hko : ∀ b, b < W.heap.size → (∃ o : Obj, W.heap[b]? = some o ∧ o.isCells = false) → W'.heap[b]? = W.heap[b]? := fun b hb ⟨o, h1, h2⟩ => q5 b hb (fun e => by
      subst e; rw [hI.cell] at h1; injection h1 with h1; subst h1; cases h2)
    refine ⟨⟨q4, fun k o hk ho => ?_⟩, ⟨q4, fun b hb => .inl (q5 b hb.1 hb.2)⟩, ⟨q1.trans hI.os, q2.trans hI.tape, q3.trans hI.output, Nat.le_trans hI.size q4, fun b hb hn => ?_, ?_⟩⟩
    · rw [hko k (Array.getElem?_eq_some_iff.1 hk).1 ⟨o, hk, ho⟩]; exact hk
    · rw [q5 b (Nat.lt_of_lt_of_le hb hI.size) hn]; exact hI.same b hb hn
    · rw [updL_snoc]; exact q6
  · -- behind the range
    subst hxs
    have hst : Stay g.S w W := fun b hb => hI.same b (hr.inv.stab b hb) (fun e => by subst e; exact hr.inv.apart km _ _ (by rw [hkm]; simp) mm rfl hb)
    have hDW : D < W.heap.size := (Array.getElem?_eq_some_iff.1 hd).1
    obtain ⟨i1, i2⟩ := hr.inv.step (w' := W) (g' := g) (hp' := patch [(km, some (.cells T2 [.v (.int .i64 (numsT s (i0, j0, k0)).1), .v (.int .i64 (numsT s (i0, j0, k0)).2.1), .v (.int .i64 (numsT s (i0, j0, k0)).2.2), x, y]))] (hpOf hp)) (fun k => k = km) (G.le.refl g) (fun _ h => h) hI.os hI.tape hI.output hI.size
      (fun b hb h => hI.same b hb (fun e => h km _ rfl (by rw [hkm]; simp) mm (by rw [e]; rfl)))
      (fun k hk => by simp only [patch, look, beq_ne (fun e => hk e.symm : km ≠ k)])
      (fun k ob hk ho => by
        subst hk
        have hb : Nat.beq k k = true := by simp
        simp only [patch, look, hb] at ho
        injection ho with ho; subst ho
        refine ⟨_, mm, ⟨bm, _, rfl, hI.cell, VRels.cons.2 ⟨_, _, rfl, VRel.v_iff.2 rfl, VRels.cons.2 ⟨_, _, rfl, VRel.v_iff.2 rfl, VRels.cons.2 ⟨_, _, rfl, VRel.v_iff.2 rfl, VRels.cons.2 ⟨_, _, rfl, v4.stay (G.le.refl g) hst, VRels.cons.2 ⟨_, _, rfl, v5.stay (G.le.refl g) hst, VRels.nil.2 rfl⟩⟩⟩⟩⟩⟩, fun b hb => .inr ⟨k, _, rfl, by rw [hkm]; simp, mm, hb⟩⟩)
      (fun k k' _ _ _ hk hk' _ _ _ _ _ _ => by rw [hk, hk'])
    let g2 : G := { g with S := fun b => g.S b ∨ b = D }
    have hle : g.le g2 := ⟨fun _ _ h => h, fun _ h => .inl h, fun _ _ h => h⟩
    have hnew : ∀ k c b, hpOf hp k ≠ none → g.m k = some c → blkOf c = some b → b ≠ D := fun k c b h1 h2 h3 e => by
      cases e' : hpOf hp k with
      | none => exact h1 e'
      | some ob =>
        obtain ⟨c', h4, h5⟩ := hr.inv.sat k ob e'
        rw [h2] at h4; injection h4 with h4; subst h4
        have := h5.lt h3; omega
    have hkeys : ∀ k, patch [(km, some (.cells T2 [.v (.int .i64 (numsT s (i0, j0, k0)).1), .v (.int .i64 (numsT s (i0, j0, k0)).2.1), .v (.int .i64 (numsT s (i0, j0, k0)).2.2), x, y]))] (hpOf hp) k ≠ none → hpOf hp k ≠ none := fun k hk => by
      by_cases e : k = km
      · subst e; rw [hkm]; simp
      · simp only [patch, look, beq_ne (fun e' => e e'.symm : km ≠ k)] at hk; exact hk
    have i3 : Inv O w0 g2 (patch [(km, some (.cells T2 [.v (.int .i64 (numsT s (i0, j0, k0)).1), .v (.int .i64 (numsT s (i0, j0, k0)).2.1), .v (.int .i64 (numsT s (i0, j0, k0)).2.2), x, y]))] (hpOf hp)) W := by
      refine ⟨i1.toFrW, fun k ob hk => ?_, i1.inj, fun b hb => ?_, fun k c b hk hc hb hS => ?_, i1.mine⟩
      · obtain ⟨c, h1, h2⟩ := i1.sat k ob hk
        exact ⟨c, h1, h2.stay hle (Stay.refl _ _) (fun _ _ => rfl)⟩
      · rcases hb with hb | rfl
        · exact i1.stab b hb
        · exact hDW
      · rcases hS with hS | hS
        · exact i1.apart k c b hk hc hb hS
        · exact hnew k c b (hkeys k hk) hc hb hS
    refine ⟨rfl, g2, _, h, ⟨by rw [show ((km, some (OB.cells T2 [.v (.int .i64 (numsT s (i0, j0, k0)).1), .v (.int .i64 (numsT s (i0, j0, k0)).2.1), .v (.int .i64 (numsT s (i0, j0, k0)).2.2), x, y])) :: hp) = [(km, some (OB.cells T2 [.v (.int .i64 (numsT s (i0, j0, k0)).1), .v (.int .i64 (numsT s (i0, j0, k0)).2.1), .v (.int .i64 (numsT s (i0, j0, k0)).2.2), x, y]))] ++ hp from rfl, hpOf_append]; exact i3,
      fun t z hz => ?_, ?_, .inr hnz, hr.sz, hr.fresh, fun b hb => .inl (hr.sb b hb), fun b hb => ?_, hr.pin⟩⟩
    · obtain ⟨c, h1, h2⟩ := hr.fr t z hz
      exact ⟨c, h1, h2.stay hle hst⟩
    · obtain ⟨Ds, d1, d2, d3⟩ := hr.dn
      refine ⟨D :: Ds, by rw [d1]; rfl, List.nodup_cons.2 ⟨fun hm => ?_, d2⟩, fun E hE => ?_⟩
      · have := hr.inv.stab D (d3 D hm).1; omega
      · rcases List.mem_cons.1 hE with rfl | hE
        · exact ⟨.inr rfl, Nat.le_trans hr.inv.size hD, hd⟩
        · obtain ⟨k1, k2, k3⟩ := d3 E hE
          exact ⟨.inl k1, k2, (hst E k1).trans k3⟩
    · rcases hb with hb | rfl
      · exact hr.sn b hb
      · exact .inr (.inr (Nat.le_trans hr.inv.size hD))
end Go.Proofs.Ytmkbigaofhionaa
