/- The abstract machine's stores, new blocks and appends are what the model does; no program. -/
import Derived.Test.YtmkbigaofhionaaAbsN
namespace Go.Proofs.Ytmkbigaofhionaa
open Go.RowKit
set_option linter.unusedVariables false
set_option linter.unusedSimpArgs false

section
variable {P : Program} {O : Nat → Prop} {w0 w : World} {g : G} {hp : Heap} {nx : Nat} {Z : TypeId → AV → Prop}

theorem good_le {g1 : G} {K : Out → Prop} {c : Value} {w' : World} (hle : g.le g1) (hm : g1.m = g.m) (hβ : g1.β = g.β) (hSn : ∀ b, g1.S b → g.S b ∨ O b ∨ w0.heap.size ≤ b) (h : Good O w0 g1 hp nx w K c w') : Good O w0 g hp nx w K c w' := by
  obtain ⟨a, p, g', h1, h2, h3, h4, h5, h6⟩ := h
  exact ⟨a, p, g', h1, hle.trans h2, ⟨fun k hk => by rw [← hm]; exact h3.m k hk, fun k hk => by rw [← hβ]; exact h3.β k hk, fun b hb => by
    rcases h3.S b hb with h7 | h7
    · exact hSn b h7
    · exact .inr h7⟩, h4, fun b hb => h5 b (hle.S b hb), h6⟩

theorem list_seg {α : Type} (A vs : List α) (p off sz N : Nat) (h1 : off + vs.length ≤ sz) (h2 : p + sz ≤ N) (h3 : N ≤ A.length) :
    (A.take (p + off) ++ vs ++ A.drop (p + off + vs.length)).take N =
      (A.take N).take p ++ ((((A.take N).drop p).take sz).take off ++ vs ++ (((A.take N).drop p).take sz).drop (off + vs.length)) ++ (A.take N).drop (p + sz) := by
  apply List.ext_getElem?
  intro j
  simp only [List.getElem?_take, List.getElem?_append, List.getElem?_drop, List.length_append, List.length_take, List.length_drop]
  by_cases hj : j < N
  · rw [if_pos hj]
    by_cases c1 : j < p
    · rw [if_pos (by omega), if_pos (by omega), if_pos (by omega), if_pos (by omega), if_pos (by omega), if_pos (by omega), if_pos (by omega)]
    · by_cases c2 : j < p + off
      · rw [if_pos (by omega), if_pos (by omega), if_pos (by omega), if_pos (by omega), if_neg (by omega), if_pos (by omega), if_pos (by omega), if_pos (by omega), if_pos (by omega), if_pos (by omega)]
        congr 1; omega
      · by_cases c3 : j < p + off + vs.length
        · rw [if_pos (by omega), if_neg (by omega), if_pos (by omega), if_neg (by omega), if_pos (by omega), if_neg (by omega)]
          congr 1; omega
        · by_cases c4 : j < p + sz
          · rw [if_neg (by omega), if_pos (by omega), if_neg (by omega), if_neg (by omega), if_pos (by omega), if_pos (by omega)]
            congr 1; omega
          · rw [if_neg (by omega), if_neg (by omega), if_pos (by omega)]
            congr 1; omega
  · rw [if_neg hj]
    split
    · omega
    · rw [if_neg (by omega)]

theorem store_ok (hI : Inv O w0 g hp w) {K : Out → Prop} {T : TypeId} {i : TInf} {tt : TypeId → Option TInf} (htt : TTok P tt) (hT : tt T = some i) {a x : AV} {ca cx : Value} (ha : VRel g w a ca) (hx : VRel g w x cx) (h : (storeA hp i.size x a).wp K Z) :
    ∃ w', (Instr.storeAt T ca cx).run P w = .ok () w' ∧ Good O w0 g hp nx w K undef w' := by
  obtain ⟨hu, ⟨j, hj, hs, _, _⟩, _⟩ := htt T i hT
  have hxc := hx.cells
  have hxl := hxc.len
  unfold storeA at h
  split at h
  · rename_i k off
    simp only [VRel] at ha
    obtain ⟨b, hm, rfl⟩ := ha
    rw [force_eq] at h
    split at h
    · rename_i T' cs xc hk hxe
      injection hxe with hxe; subst hxe
      split at h
      · rename_i hb
        simp only [Bool.and_eq_true, Bool.not_eq_true'] at hb
        obtain ⟨⟨hb1, hb2⟩, hb3⟩ := hb
        have hb1 := beq_eq hb1
        have hb2 := Nat.le_of_ble_eq_true hb2
        unfold setAtF at h
        rw [force_eq] at h
        simp only [R.wpE1, R.wpE2, R.wpE3, R.wpE4, R.wpE5, R.wpE6] at h
        obtain ⟨c, hc, hs1⟩ := hI.sat k _ hk
        rw [hm] at hc; injection hc with hc; subst hc
        obtain ⟨b', cvs, h1, h2, h3⟩ := hs1
        injection h1 with h1; injection h1 with h1; injection h1 with h1; subst h1
        have hlen := h3.len
        have hones := hxc.ones hb3
        have hrun := run_storeCells_at P b off T' cx.cells.toList 0 cvs.toArray w h2 (by simp at hxl ⊢; omega) hones
        refine ⟨_, ?_, good_set (cur' := (cvs.take off ++ cx.cells.toList ++ cvs.drop (off + cx.cells.toList.length)).toArray) hI hk hm rfl h2 (fun hst hh => ?_) h⟩
        · simp only [Instr.storeAt, Instr.sureAddr, Sem.run_bind, Sem.run_pure, Result.andThen_ok, storeVar, run_sizeOf' hj hs]
          rw [if_neg (by simp at hxl ⊢; omega)]
          exact hrun
        · exact ⟨b, _, rfl, hh, (h3.setAt hxc off).stay (G.le.refl g) hst⟩
      · exact h.elim
    · exact h.elim
  · rename_i k idx sz off
    simp only [VRel] at ha
    obtain ⟨b, n, cap, hm, hidx, rfl⟩ := ha
    rw [force_eq] at h
    split at h
    · rename_i E t xs xc hk hxe
      injection hxe with hxe; subst hxe
      split at h
      · rename_i hb
        simp only [Bool.and_eq_true, Bool.not_eq_true'] at hb
        obtain ⟨⟨⟨hb1, hb2⟩, hb4⟩, hb3⟩ := hb
        have hb1 := beq_eq hb1
        have hb2 := Nat.le_of_ble_eq_true hb2
        have hb4 := beq_eq hb4
        subst hb4
        split at h
        · rename_i xc' hst'
          obtain ⟨g1, hle, hgm, hgβ, hI1, hxc1, _, hSn⟩ := stills_ok hI hst' hxc
          rw [patch_nil] at hI1
          split at h
          · rename_i y hdec
            simp only [R.wpE1, R.wpE2, R.wpE3, R.wpE4, R.wpE5, R.wpE6] at h
            have hm1 : g1.m k = some (.slice (some ⟨b, 0, none⟩) n cap) := by rw [hgm]; exact hm
            obtain ⟨rfl, cells, cur, fz, h2, hfz, hr, hsz, htake, hcap, hcm⟩ := own_row hI1 hk hm1
            have hre := hr.get idx hidx
            have hv := hre.cells.setAt hxc1 off
            rw [← getD_mem xs idx t.dflt hidx] at hv
            obtain ⟨c1, c2, e1, e2, e3⟩ := dec_ok hdec hv
            have := VRels.nil.1 e3
            subst this
            rw [List.append_nil] at e1
            subst e1
            have hones := hxc.ones hb3
            have hmul : (idx + 1) * t.cells ≤ xs.length * t.cells := Nat.mul_le_mul_right _ hidx
            have hmul2 : xs.length * t.cells ≤ cap * t.cells := Nat.mul_le_mul_right _ hcap
            rw [Nat.add_mul, Nat.one_mul] at hmul
            have hrun := storeCells_Z P b (idx * t.cells + off) E fz cx.cells.toList 0 cur w h2 hfz (by simp at hxl ⊢; omega) hones
            refine ⟨_, ?_, good_le hle hgm hgβ hSn (good_set (cur' := (cur.toList.take (idx * t.cells + off) ++ cx.cells.toList ++ cur.toList.drop (idx * t.cells + off + cx.cells.toList.length)).toArray) hI1 hk hm1 rfl h2 (fun hst hh => ?_) h)⟩
            · simp only [Instr.storeAt, Instr.sureAddr, Sem.run_bind, Sem.run_pure, Result.andThen_ok, storeVar, run_sizeOf' hj hs]
              rw [if_neg (by simp at hxl ⊢; omega)]
              exact hrun
            have hset := hr.set idx hidx e2
            refine ⟨_, ?_, hset.stay (fun _ h => h) hst⟩
            refine ⟨?_, .inr ⟨b, cap, _, fz, by simp, ?_, hh, by simpa using hcap, hcm, ?_, ?_⟩⟩
            · exact hset.len
            · simp only [List.length_append, List.size_toArray, List.length_take, List.length_drop, Array.length_toList]
              simp at hxl; omega
            · simp only [List.length_append, List.size_toArray, List.length_take, List.length_drop, Array.length_toList]
              simp at hxl; omega
            · simp only [List.length_set]
              have := list_seg cur.toList cx.cells.toList (idx * t.cells) off t.cells (xs.length * t.cells) (by simp at hxl ⊢; omega) hmul (by simp; omega)
              rw [htake] at this
              rw [Nat.add_mul, Nat.one_mul]
              exact this
          · exact h.elim
        · exact h.elim
      · exact h.elim
    · exact h.elim
  · exact h.elim

theorem zero_rel {i : TInf} : VRels g w (zeroCells i) i.zero.cells.toList := by
  unfold zeroCells
  generalize i.zero.cells.toList = l
  induction l with
  | nil => exact VRels.nil.2 rfl
  | cons x l ih => exact VRels.cons.2 ⟨x, l, rfl, VRel.v_iff.2 rfl, ih⟩

theorem alloc_ok (hI : Inv O w0 g hp w) (hf : ∀ k, nx ≤ k → k < nx + 64 → g.m k = none ∧ g.β k = none) {K : Out → Prop} {T : TypeId} {i : TInf} {tt : TypeId → Option TInf} (htt : TTok P tt) (hT : tt T = some i) (h : K (.ptr nx 0, [(nx, some (.cells T (zeroCells i)))])) :
    ∃ c w', (Instr.alloc T true (.tuple #[])).run P w = .ok c w' ∧ Good O w0 g hp nx w K c w' := by
  obtain ⟨hu, ⟨j, hj, hs, _, hz⟩, _⟩ := htt T i hT
  refine ⟨.pointer (some ⟨w.heap.size, 0, none⟩), w.alloc (.cells i.zero.cells T), ?_, ?_⟩
  · simp [Instr.alloc, run_zero' hj hz, newVar, newRow]
  · refine good_new hI hf _ _ rfl w rfl rfl rfl rfl h (fun g' hg' => ?_) (fun g' hle hg' hst => ?_)
    · simp only [VRel]; exact ⟨_, hg', rfl⟩
    · exact ⟨_, i.zero.cells.toList, rfl, heap_alloc_new w _, zero_rel⟩

theorem box_ok (hI : Inv O w0 g hp w) (hf : ∀ k, nx ≤ k → k < nx + 64 → g.m k = none ∧ g.β k = none) {K : Out → Prop} {T : TypeId} {a : AV} {ca : Value} (ha : VRel g w a ca) (h : K (.ptr nx 0, [(nx, some (.cells T (avCells a)))])) :
    ∃ c w', (Instr.box T ca).run P w = .ok c w' ∧ Good O w0 g hp nx w K c w' := by
  refine ⟨.pointer (some ⟨w.heap.size, 0, none⟩), w.alloc (.cells ca.cells T), ?_, ?_⟩
  · simp [Instr.box, newVar, newRow]
  · refine good_new hI hf _ _ rfl w rfl rfl rfl rfl h (fun g' hg' => ?_) (fun g' hle hg' hst => ?_)
    · simp only [VRel]; exact ⟨_, hg', rfl⟩
    · exact ⟨_, ca.cells.toList, rfl, heap_alloc_new w _, ha.cells.stay hle hst⟩

theorem plsOf_ok {tt : TypeId → Option TInf} (htt : TTok P tt) : ∀ {fs : List Field} {pl : List (Nat × Nat)}, plsOf tt fs = some pl → fs.mapM (fun f => (P.info? f.type).map fun i => (f.offset, i.size)) = some pl
  | [], pl, h => by simp only [plsOf, Option.some.injEq] at h; subst h; rfl
  | f :: r, pl, h => by
    simp only [plsOf] at h
    split at h
    · rename_i j l hj hl
      injection h with h; subst h
      obtain ⟨_, ⟨jj, hjj, hs, _⟩, _⟩ := htt f.type j hj
      simp [List.mapM_cons, hjj, hs, plsOf_ok htt hl]
    · cases h

theorem foldl_seg (off : Nat) (l : List Value) (cs : Array Value) (h : off + l.length ≤ cs.size) :
    ((l.zipIdx 0).foldl (fun cs (x : Value × Nat) => cs.setIfInBounds (off + x.2) x.1) cs).toList = cs.toList.take off ++ l ++ cs.toList.drop (off + l.length) := by
  obtain ⟨h1, h2⟩ := Great.foldl_set off l 0 cs
  apply List.ext_getElem?
  intro k
  have := h2 k
  rw [← Array.getElem?_toList] at this
  rw [this]
  simp only [List.getElem?_append, List.length_append, List.length_take, Array.length_toList, List.getElem?_take, List.getElem?_drop, Nat.add_zero]
  by_cases c1 : k < off
  · rw [if_neg (by omega), if_pos (by omega), if_pos (by omega), if_pos (by omega)]; simp
  · by_cases c2 : k < off + l.length
    · rw [if_pos (by omega), if_pos (by omega), if_neg (by omega)]
      congr 1; omega
    · rw [if_neg (by omega), if_neg (by omega)]
      simp
      congr 1; omega

theorem fill_ok {ev : Operand → Option AV} {ρ : Operand → Value} (hev : ∀ x a, ev x = some a → VRel g w a (ρ x)) (place : Nat → Option (Nat × Nat)) :
    ∀ (parts : List (Nat × Operand)) (l : List (Nat × Nat × List AV)) (cells r : List AV) (cvs : Array Value),
      (∀ q ∈ parts.zip l, ∃ o n a, place q.1.1 = some (o, n) ∧ ev q.1.2 = some a ∧ q.2 = (o, n, avCells a)) → parts.length = l.length →
      fillA cells l = some r → VRels g w cells cvs.toList →
      ∃ rv, Instr.fill place cvs (parts.map fun q => (q.1, ρ q.2)) = some rv ∧ VRels g w r rv.toList
  | [], l, cells, r, cvs, hq, hl, h, hv => by
    have : l = [] := List.eq_nil_of_length_eq_zero hl.symm
    subst this
    simp only [fillA, Option.some.injEq] at h
    subst h
    exact ⟨cvs, rfl, hv⟩
  | (i, x) :: parts, [], _, _, _, _, hl, _, _ => by simp at hl
  | (i, x) :: parts, (off, n, xs) :: l, cells, r, cvs, hq, hl, h, hv => by
    obtain ⟨o, n', a, h1, h2, h3⟩ := hq ((i, x), (off, n, xs)) (by simp)
    simp only [Prod.mk.injEq] at h3
    obtain ⟨rfl, rfl, rfl⟩ := h3
    simp only [fillA] at h
    split at h
    · rename_i hb
      simp only [Bool.and_eq_true] at hb
      have hb1 := beq_eq hb.1
      have hb2 := Nat.le_of_ble_eq_true hb.2
      unfold setAtF at h
      rw [force_eq] at h
      have hxc := (hev x a h2).cells
      have hxl := hxc.len
      have hvl := hv.len
      simp only at h1 h2
      have hfit : off + (ρ x).cells.toList.length ≤ cvs.size := by simp at hxl hvl ⊢; omega
      have hseg := foldl_seg off (ρ x).cells.toList cvs hfit
      have hv' : VRels g w (setAt cells off (avCells a)) (((ρ x).cells.toList.zipIdx 0).foldl (fun cs (x : Value × Nat) => cs.setIfInBounds (off + x.2) x.1) cvs).toList := by
        rw [hseg]; exact hv.setAt hxc off
      obtain ⟨rv, g1, g2⟩ := fill_ok hev place parts l _ r _ (fun q hqm => hq q (by simp [hqm])) (by simpa using hl) h hv'
      refine ⟨rv, ?_, g2⟩
      simp only [List.map_cons]
      unfold Instr.fill
      simp only [h1]
      rw [if_neg (by simp at hxl hvl ⊢; omega)]
      rw [← g1]
      congr 1
      rw [← Array.foldl_toList, Array.toList_zipIdx]
    · cases h
end
end Go.Proofs.Ytmkbigaofhionaa
