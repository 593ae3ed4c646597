/- strings.Builder, by the abstract machine: its methods as specs. -/
import Derived.Test.YtmkbigaofhionaaAbsG
import Derived.Test.YtmkbigaofhionaaTT
import Derived.Test.YtmkbigaofhionaaBld
import Derived.Test.YtmkbigaofhionaaStrP
import Derived.Lib.UnsafeStr
import Derived.Shelf.Strings.BuilderF
namespace Go.Proofs.Ytmkbigaofhionaa
open Go.RowKit
set_option linter.unusedVariables false
set_option linter.unusedSimpArgs false

theorem inv_set {O : Nat → Prop} {w0 w : World} {g : G} {hp : Heap} (hI : Inv O w0 g hp w) {k : Nat} {c : Value} {b : Nat} {ob ob' : OB} (hk : hp k = some ob) (hm : g.m k = some c) (hb : blkOf c = some b) {cur cur' : Array Value} {T : TypeId} {fz : Nat × Nat} (hw : w.heap[b]? = some (.cells cur T fz))
    (hob : Stay g.S w (w.setRow b cur') → (w.setRow b cur').heap[b]? = some (.cells cur' T fz) → OBSat g (w.setRow b cur') c ob') :
    Inv O w0 g (patch [(k, some ob')] hp) (w.setRow b cur') ∧ Stay g.S w (w.setRow b cur') := by
  have hblt : b < w.heap.size := (Array.getElem?_eq_some_iff.1 hw).1
  have hnS : ¬ g.S b := hI.apart k c b (by rw [hk]; simp) hm hb
  have hst : Stay g.S w (w.setRow b cur') := fun b' hb' => setRow_other w b b' cur' (fun e => hnS (e ▸ hb'))
  refine ⟨(hI.step (w' := w.setRow b cur') (hp' := patch [(k, some ob')] hp) (fun i => i = k) (G.le.refl g) (fun _ h => h) rfl rfl rfl (by simp) (fun b' hb' h => ?_) ?_ ?_ ?_).1, hst⟩
  · exact setRow_other w b b' cur' (fun e => h k c rfl (by rw [hk]; simp) hm (by rw [hb, e]))
  · intro i hi
    have : Nat.beq k i = false := beq_ne (fun e => hi e.symm)
    simp only [patch, look, this]
  · rintro i ob1 rfl h1
    have : Nat.beq i i = true := by simp
    simp only [patch, look, this] at h1
    injection h1 with h1; subst h1
    exact ⟨c, hm, hob hst (setRow_heap w b cur cur' T fz hw), fun b' hb' => .inr ⟨i, c, rfl, by rw [hk]; simp, hm, hb'⟩⟩
  · rintro i i' _ _ _ rfl rfl; intros; rfl

def copyS : Spec := fun args hp nx => match args with
  | [.ptr k off] => match Nat.beq off 0, hp k with
    | true, some (.cells T [x, b]) => match Nat.beq T 104, x with
      | true, .v (.pointer none) => .ok (.tup [], [(k, some (.cells T [.ptr k 0, b]))])
      | true, .ptr j 0 => match Nat.beq j k with
        | true => .ok (.tup [], [])
        | false => .bad
      | _, _ => .bad
    | _, _ => .bad
  | _ => .bad

theorem copyS_ok : SpecOK Try.prog 89 copyS := by
  intro O w0 w g hp nx args cargs K Z hI hf hv h
  unfold copyS at h
  split at h
  · rename_i k off
    obtain ⟨c, r, e1, hc, hr⟩ := VRels.cons.1 hv
    rw [VRels.nil.1 hr] at e1
    subst e1
    simp only [VRel] at hc
    obtain ⟨b, hm, rfl⟩ := hc
    split at h
    · rename_i T x y h0 hk
      have h0 := beq_eq h0
      subst h0
      obtain ⟨c', hc', b', cvs, h1, h2, h3⟩ := hI.sat k _ hk
      rw [hm] at hc'; injection hc' with hc'; subst hc'
      injection h1 with h1; injection h1 with h1; injection h1 with h1; subst h1
      obtain ⟨c0, r0, rfl, hx, hr0⟩ := VRels.cons.1 h3
      obtain ⟨c1, r1, rfl, hy, hr1⟩ := VRels.cons.1 hr0
      obtain rfl := VRels.nil.1 hr1
      split at h
      · rename_i hT
        have hT := beq_eq hT
        subst hT
        rw [VRel.v_iff] at hx; subst hx
        have g0 : w.cell? ⟨b, 0, none⟩ = some (.pointer none) := by simp [World.cell?, h2]
        have g1 : w.shape? b = some (104, 2) := by simp [World.shape?, h2]
        have g2 : w.frozen? ⟨b, 0, none⟩ = false := by simp [World.frozen?, h2]
        refine (check_fresh b w g0 g1 g2).mono fun e w' he => ?_
        obtain ⟨rfl, rfl⟩ := he
        rw [setCell_eq_setRow w b 0 _ _ _ _ h2]
        obtain ⟨i1, i2⟩ := inv_set (ob' := .cells 104 [.ptr k 0, y]) (cur' := (#[.pointer none, c1] : Array Value).setIfInBounds 0 (.pointer (some ⟨b, 0, none⟩))) hI hk hm rfl h2 (fun hst hh => ⟨b, [.pointer (some ⟨b, 0, none⟩), c1], rfl, hh, VRels.cons.2 ⟨_, _, rfl, by simp only [VRel]; exact ⟨b, hm, rfl⟩, VRels.cons.2 ⟨_, [], rfl, VRel.stay (G.le.refl g) hst hy, VRels.nil.2 rfl⟩⟩⟩)
        exact ⟨.tup [], _, g, h, G.le.refl g, NewIn.refl O w0 g nx, rfl, i1, i2, by simp only [VRel]; exact ⟨[], VRels.nil.2 rfl, rfl⟩⟩
      · rename_i j hT
        split at h
        · rename_i hj
          have hj := beq_eq hj
          subst hj
          simp only [VRel] at hx
          obtain ⟨b2, hm2, rfl⟩ := hx
          rw [hm] at hm2; injection hm2 with hm2; injection hm2 with hm2; injection hm2 with hm2; injection hm2 with hm2; subst hm2
          have g0 : w.cell? ⟨b, 0, none⟩ = some (.pointer (some ⟨b, 0, none⟩)) := by simp [World.cell?, h2]
          refine (check_used b w g0).mono fun e w' he => ?_
          obtain ⟨rfl, rfl⟩ := he
          exact ⟨.tup [], [], g, h, G.le.refl g, NewIn.refl O w0 g nx, rfl, hI, Stay.refl _ _, by simp only [VRel]; exact ⟨[], VRels.nil.2 rfl, rfl⟩⟩
        · exact h.elim
      · exact h.elim
    · exact h.elim
  · exact h.elim
noncomputable def eCopy : Ent Try.prog := ⟨89, copyS, copyS_ok, ⟨_, Try.func89, by kernel_rfl, by kernel_rfl⟩⟩

abbrev tB : TypeId := 104
/-- A builder that holds bytes (0 of them: no row yet), and what is written. -/
def wsL : LSpec := fun n0 args p => match n0, args, p with
  | 1, [.ptr 0 0, .v (.string s)], [(0, some (.cells 104 [.v (.pointer none), .v (.slice none 0 0)]))] => .need (s.size ≤ 140737488355328) (.ok (.tup [.v (.int .i64 s.size), .v .nilIface], [(0, some (.cells 104 [.ptr 0 0, .own 1])), (1, some (.row 5 (.int .u8) (bList s)))]))
  | 2, [.ptr 0 0, .v (.string s)], [(0, some (.cells 104 [.ptr 0 0, .own 1])), (1, some (.row 5 (.int .u8) xs))] => .need ((xs : List Int).length + s.size ≤ 140737488355328) (.ok (.tup [.v (.int .i64 s.size), .v .nilIface], [(0, some (.cells 104 [.ptr 0 0, .own 2])), (2, some (.row 5 (.int .u8) ((xs : List Int) ++ bList s)))]))
  | _, _, _ => .bad
theorem ws_l : LocalOK Try.prog (mkC tt [eCopy]) 66 wsL := by
  refine ⟨Try.f66, _, Try.func66, rfl, fun n0 args p K Z h => ?_⟩
  unfold wsL at h; split at h
  · rename_i s
    refine ⟨rfl, ?_⟩
    obtain ⟨hs, h⟩ := h
    (repeat' (first | refine And.intro ?_ ?_ | (intro h'; first | (exfalso; revert h'; decide) | (simp only [decide_eq_true_eq, decide_eq_false_iff_not, Bool.not_eq_true', Bool.not_eq_false', bne_iff_ne, beq_iff_eq, ne_eq, bne_eq_false_iff_eq, beq_eq_false_iff_ne, Int.reduceToNat, Int.toNat_natCast, Int.reduceAdd, Int.reduceSub, ByteArray.size_extract] at h'; first | (guard_hyp h' : True; clear h') | (exfalso; omega) | skip) | skip)))
    all_goals first | exact hs | exact h | skip
  · rename_i s xs
    refine ⟨rfl, ?_⟩
    obtain ⟨hs, h⟩ := h
    (repeat' (first | refine And.intro ?_ ?_ | (intro h'; first | (exfalso; revert h'; decide) | (simp only [decide_eq_true_eq, decide_eq_false_iff_not, Bool.not_eq_true', Bool.not_eq_false', bne_iff_ne, beq_iff_eq, ne_eq, bne_eq_false_iff_eq, beq_eq_false_iff_ne, Int.reduceToNat, Int.toNat_natCast, Int.reduceAdd, Int.reduceSub, ByteArray.size_extract] at h'; first | (guard_hyp h' : True; clear h') | (exfalso; omega) | skip) | skip)))
    all_goals first | exact hs | exact h | skip
  · exact h.elim
noncomputable def eWS : Ent Try.prog := Ent.of tt_ok mixed ws_l (by kernel_rfl)
/-- One byte more. -/
def wbL : LSpec := fun n0 args p => match n0, args, p with
  | 2, [.ptr 0 0, .v (.int .u8 c)], [(0, some (.cells 104 [.ptr 0 0, .own 1])), (1, some (.row 5 (.int .u8) xs))] => .need ((xs : List Int).length + 1 ≤ 140737488355328) (.ok (.v .nilIface, [(0, some (.cells 104 [.ptr 0 0, .own 2])), (2, some (.row 5 (.int .u8) ((xs : List Int) ++ [c])))]))
  | _, _, _ => .bad
theorem wb_l : LocalOK Try.prog (mkC tt [eCopy]) 68 wbL := by
  refine ⟨Try.f68, _, Try.func68, rfl, fun n0 args p K Z h => ?_⟩
  unfold wbL at h; split at h
  · rename_i c xs
    refine ⟨rfl, ?_⟩
    obtain ⟨hs, h⟩ := h
    (repeat' (first | refine And.intro ?_ ?_ | (intro h'; first | (exfalso; revert h'; decide) | (simp only [decide_eq_true_eq, decide_eq_false_iff_not, Bool.not_eq_true', Bool.not_eq_false', bne_iff_ne, beq_iff_eq, ne_eq, bne_eq_false_iff_eq, beq_eq_false_iff_ne, Int.reduceToNat, Int.toNat_natCast, Int.reduceAdd, Int.reduceSub, ByteArray.size_extract] at h'; first | (guard_hyp h' : True; clear h') | (exfalso; omega) | skip) | skip)))
    all_goals first | exact h | (change (xs.length + 1) * 1 ≤ 140737488355328; omega)
  · exact h.elim
noncomputable def eWB : Ent Try.prog := Ent.of tt_ok mixed wb_l (by kernel_rfl)

open Go.RowKit Go.Shelf
theorem cellsOf_byte : Try.prog.cellsOf 5 = 1 := by kernel_rfl

set_option maxHeartbeats 1000000 in
set_option maxRecDepth 100000 in
theorem string_calls (b g cap : Nat) (cur : Array Value) (fz : Nat × Nat) (l : List UInt8) (w : World) (hl0 : l ≠ [])
    (hbk : w.heap[b]? = some (.cells #[.pointer (some ⟨b, 0, none⟩), .slice (some ⟨g, 0, none⟩) l.length cap] 104 (0, 0)))
    (hg : w.heap[g]? = some (.cells cur 5 fz)) (hnc : l.length ≤ cap) (hcm : cap ≤ maxLen) (hcs : cur.size = cap) (ht : cur.toList.take l.length = Lib.byteCells l) :
    Calls Try.prog 69 #[.pointer (some ⟨b, 0, none⟩)] w fun e w' => e = .returned (.string ⟨l.toArray⟩) ∧ w' = w.drew.freeze ⟨g, 0, none⟩ l.length := by
  have hl1 : l.length ≠ 0 := by simpa using hl0
  have c1 : w.drew.cell? ⟨b, 1, none⟩ = some (.slice (some ⟨g, 0, none⟩) l.length cap) := by
    have : w.drew.heap[b]? = some (.cells #[.pointer (some ⟨b, 0, none⟩), .slice (some ⟨g, 0, none⟩) l.length cap] 104 (0, 0)) := hbk
    rw [Lib.cell_of_heap this]; rfl
  have hSD : (Builtin.unsafeSliceData_ #[102] 128 #[.slice (some ⟨g, 0, none⟩) l.length cap]).run Try.prog w.drew = .ok (.pointer (some ⟨g, 0, none⟩)) w.drew :=
    Lib.run_unsafeSliceData_row _ _ _ _ _ _ (by omega)
  have hUS : (Builtin.unsafeString_ #[128, 3] 9 #[.pointer (some ⟨g, 0, none⟩), .int .i64 l.length]).run Try.prog w.drew = .ok (.string ⟨l.toArray⟩) (w.drew.freeze ⟨g, 0, none⟩ l.length) := by
    refine Lib.run_unsafeString_row w.drew 128 3 9 5 Try.underlying128 cellsOf_byte g cur.size (by have hg' : w.drew.heap[g]? = some (.cells cur 5 fz) := hg; simp [World.shape?, hg']) l hl0 (by omega) (by unfold maxLen at hcm; omega) ?_
    intro j x hx
    have hj : j < l.length := (List.getElem?_eq_some_iff.1 hx).1
    have h1 : (cur.toList.take l.length)[j]? = some (.int .u8 x.toNat) := by rw [ht]; simp [Lib.byteCells, hx]
    rw [List.getElem?_take, if_pos hj] at h1
    have hg' : w.drew.heap[g]? = some (.cells cur 5 fz) := hg
    have hadd : (⟨g, 0, none⟩ : Addr).add j = ⟨g, j, none⟩ := by unfold Addr.add; split <;> simp_all
    rw [hadd, Lib.cell_of_heap hg']
    simpa using h1
  have mixed := mixed
  go_enter Try.func69, Try.ntmps69
  go_wp2
  go_region_o
  all_goals (go_wp2; go_ret; exact ⟨rfl, rfl⟩)

theorem freeze_facts (w : World) (g n : Nat) : (w.freeze ⟨g, 0, none⟩ n).os = w.os ∧ (w.freeze ⟨g, 0, none⟩ n).tape = w.tape ∧ (w.freeze ⟨g, 0, none⟩ n).output = w.output ∧ (w.freeze ⟨g, 0, none⟩ n).heap.size = w.heap.size ∧ ∀ b, b ≠ g → (w.freeze ⟨g, 0, none⟩ n).heap[b]? = w.heap[b]? := by
  unfold World.freeze
  split
  · exact ⟨rfl, rfl, rfl, rfl, fun _ _ => rfl⟩
  · refine ⟨rfl, rfl, rfl, by simp, fun b hb => ?_⟩
    simp only [Array.getElem?_modify]
    rw [if_neg (fun e => hb e.symm)]

theorem RepL_int {S : Nat → Prop} {w : World} {k : IntKind} : ∀ {xs : List (Ty.int k).Val} {cs : List Value}, RepL S w (.int k) xs cs → cs = xs.map fun n => Value.int k n
  | [], cs, h => h
  | x :: xs, cs, h => by
    obtain ⟨l, r, rfl, h2, h3⟩ := h
    simp only [RepS] at h2
    rw [h2, RepL_int h3]; rfl

theorem patch2 {k j i : Nat} {hp : Heap} (h : i = k ∨ i = j) : patch [(k, none), (j, none)] hp i = none := by
  unfold patch look
  cases e : Nat.beq k i with
  | true => rfl
  | false =>
    rcases h with rfl | rfl
    · simp at e
    · have b : Nat.beq i i = true := by simp
      simp only [look, b]
/-- The builder's text; what it held is given away. -/
noncomputable def strS : Spec := fun args hp nx => match args with
  | [.ptr k 0] => match hp k with
    | some (.cells T [.ptr k' 0, .own j]) => match Nat.beq T 104, Nat.beq k' k, hp j with
      | true, true, some (.row E (.int .u8) xs) => match Nat.beq E 5 with
        | true => .need (bytesIn xs) (.need ((xs : List Int) ≠ []) (.ok (.v (.string (sOf xs)), [(k, none), (j, none)])))
        | false => .bad
      | _, _, _ => .bad
    | _ => .bad
  | _ => .bad
theorem sOf_cells {xs : List Int} (h : bytesIn xs) : (xs.map fun n => Value.int .u8 n) = Lib.byteCells (xs.map fun n => UInt8.ofNat n.toNat) := by
  unfold Lib.byteCells
  rw [List.map_map]
  refine List.map_congr_left (fun n hn => ?_)
  have := h n hn
  simp only [Function.comp, UInt8.toNat_ofNat']
  congr 1; omega
theorem strS_ok : SpecOK Try.prog 69 strS := by
  intro O w0 w g hp nx args cargs K Z hI hf hv h
  unfold strS at h
  split at h
  · rename_i k
    obtain ⟨c, r, e1, hc, hr⟩ := VRels.cons.1 hv
    rw [VRels.nil.1 hr] at e1
    subst e1
    simp only [VRel] at hc
    obtain ⟨b, hm, rfl⟩ := hc
    split at h
    · rename_i T k' j hk
      split at h
      · rename_i E xs hT hkk hj
        have hT := beq_eq hT; have hkk := beq_eq hkk
        subst hT hkk
        split at h
        · rename_i hE
          have hE := beq_eq hE
          subst hE
          obtain ⟨hx, hne, h⟩ := h
          obtain ⟨c', hc', b', cvs, h1, h2, h3⟩ := hI.sat _ _ hk
          rw [hm] at hc'; injection hc' with hc'; subst hc'
          injection h1 with h1; injection h1 with h1; injection h1 with h1; subst h1
          obtain ⟨c0, r0, rfl, hx0, hr0⟩ := VRels.cons.1 h3
          obtain ⟨c1, r1, rfl, hy, hr1⟩ := VRels.cons.1 hr0
          obtain rfl := VRels.nil.1 hr1
          simp only [VRel] at hx0 hy
          obtain ⟨b2, hm2, rfl⟩ := hx0
          rw [hm] at hm2; injection hm2 with hm2; injection hm2 with hm2; injection hm2 with hm2; injection hm2 with hm2; subst hm2
          obtain ⟨hmj, _⟩ := hy
          obtain ⟨cj, hcj, cells, ho, hrl⟩ := hI.sat _ _ hj
          rw [hmj] at hcj; injection hcj with hcj; subst hcj
          have hcells := RepL_int hrl
          have hlen : (xs : List Int).length ≠ 0 := by
            intro e; exact hne (List.length_eq_zero_iff.1 e)
          obtain ⟨hol, ho⟩ := ho
          rcases ho with ⟨_, h0⟩ | ⟨gg, cap, cur, fz, rfl, hfz, hgg, hnc, hcm, hcs, htk⟩
          · exact absurd h0 hlen
          have hll : ((xs : List Int).map fun n => UInt8.ofNat n.toNat).length = (xs : List Int).length := by simp
          have hcall := string_calls b gg cap cur fz ((xs : List Int).map fun n => UInt8.ofNat n.toNat) w (by intro e; exact hne (List.map_eq_nil_iff.1 e)) (by rw [hll]; exact h2) hgg (by rw [hll]; exact hnc) hcm (by simpa [Ty.cells] using hcs)
            (by rw [hll, ← sOf_cells hx, ← hcells]; simpa [Ty.cells] using htk)
          refine hcall.mono fun e w' he => ?_
          obtain ⟨rfl, rfl⟩ := he
          have hkj : ∀ i, (i = k' ∨ i = j) → hp i ≠ none := fun i hi => by rcases hi with rfl | rfl <;> simp [hk, hj]
          have hst : Inv O w0 g (patch [(k', none), (j, none)] hp) (w.drew.freeze ⟨gg, 0, none⟩ ((xs : List Int).map fun n => UInt8.ofNat n.toNat).length) ∧ Stay g.S w (w.drew.freeze ⟨gg, 0, none⟩ ((xs : List Int).map fun n => UInt8.ofNat n.toNat).length) := by
           refine hI.step (w' := w.drew.freeze ⟨gg, 0, none⟩ ((xs : List Int).map fun n => UInt8.ofNat n.toNat).length) (hp' := patch [(k', none), (j, none)] hp) (fun i => i = k' ∨ i = j) (G.le.refl g) (fun _ h => h)
            (freeze_facts w.drew gg _).1 (freeze_facts w.drew gg _).2.1 (freeze_facts w.drew gg _).2.2.1 (Nat.le_of_eq (freeze_facts w.drew gg _).2.2.2.1.symm) (fun b' hb' h' => ?_) (fun i hi => ?_) (fun i ob hi ho => ?_) (fun i i' c c' b' hi hi' hne' => ?_)
           · have : b' ≠ gg := fun e => h' j _ (.inr rfl) (by rw [hj]; simp) hmj (by rw [e]; rfl)
             exact (freeze_facts w.drew gg _).2.2.2.2 b' this
           · have n1 : Nat.beq k' i = false := beq_ne (fun e => hi (.inl e.symm))
             have n2 : Nat.beq j i = false := beq_ne (fun e => hi (.inr e.symm))
             simp only [patch, look, n1, n2]
           · rw [patch2 hi] at ho; cases ho
           · exact absurd (patch2 hi) hne'
          obtain ⟨i1, i2⟩ := hst
          exact ⟨_, _, g, h, G.le.refl g, NewIn.refl O w0 g nx, rfl, i1, i2, VRel.v_iff.2 rfl⟩
        · exact h.elim
      · exact h.elim
    · exact h.elim
  · exact h.elim
noncomputable def eStr : Ent Try.prog := ⟨69, strS, strS_ok, ⟨_, Try.func69, by kernel_rfl, by kernel_rfl⟩⟩
end Go.Proofs.Ytmkbigaofhionaa
