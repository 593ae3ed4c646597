/- The abstract machine's operations on memory are what the model does; no program. -/
import Derived.Test.YtmkbigaofhionaaAbsO
import Derived.Laws.Slices
import Derived.Laws.Strings2
namespace Go.Proofs.Ytmkbigaofhionaa
open Go.RowKit
set_option linter.unusedVariables false
set_option linter.unusedSimpArgs false

theorem addN (b o j : Nat) : (⟨b, o, none⟩ : Addr).add j = ⟨b, o + j, none⟩ := by unfold Addr.add; split <;> simp_all

theorem cut_some {l r : List AV} {off n : Nat} (h : cut l off n = some r) : r = (l.drop off).take n ∧ r.length = n := by
  unfold cut at h
  rw [force_eq] at h
  split at h
  · rename_i r' hr
    injection hr with hr; subst hr
    split at h
    · rename_i hb
      injection h with h; subst h
      exact ⟨rfl, beq_eq hb⟩
    · cases h
  · cases h

theorem VRel.cells {g : G} {w : World} {a : AV} {c : Value} (h : VRel g w a c) : VRels g w (avCells a) c.cells.toList := by
  have one : ∀ (a : AV) (c : Value), VRel g w a c → (avCells a = [a]) → c.cells = #[c] → VRels g w (avCells a) c.cells.toList := fun a c h h1 h2 => by
    rw [h1, h2]; exact VRels.cons.2 ⟨c, [], rfl, h, VRels.nil.2 rfl⟩
  cases a with
  | v x =>
    have hx := VRel.v_iff.1 h
    subst hx
    cases c with
    | agg cs =>
      simp only [avCells, Value.cells]
      generalize cs.toList = l
      induction l with
      | nil => exact VRels.nil.2 rfl
      | cons x l ih => exact VRels.cons.2 ⟨x, l, rfl, VRel.v_iff.2 rfl, ih⟩
    | _ => exact one _ _ (VRel.v_iff.2 rfl) rfl rfl
  | bv i b =>
    simp only [VRel] at h
    rw [h.1]
    exact VRels.cons.2 ⟨_, [], rfl, VRel.v_iff.2 rfl, VRels.nil.2 rfl⟩
  | agg l =>
    simp only [VRel] at h
    obtain ⟨cs, h1, rfl⟩ := h
    simpa [avCells, Value.cells] using h1
  | ro t xs => have h0 := h; simp only [VRel] at h0; obtain ⟨_, _, h1, _⟩ := h0; injection h1 with h1; subst h1; exact one _ _ h rfl rfl
  | el t x off => have h0 := h; simp only [VRel] at h0; obtain ⟨_, _, _, rfl, _⟩ := h0; exact one _ _ h rfl rfl
  | own k => have h0 := h; simp only [VRel] at h0; obtain ⟨_, _, _, _, rfl⟩ := h0; exact one _ _ h rfl rfl
  | oel k i sz off => have h0 := h; simp only [VRel] at h0; obtain ⟨_, _, _, _, _, rfl⟩ := h0; exact one _ _ h rfl rfl
  | ptr k off => have h0 := h; simp only [VRel] at h0; obtain ⟨_, _, rfl⟩ := h0; exact one _ _ h rfl rfl
  | mp k => have h0 := h; simp only [VRel] at h0; obtain ⟨_, _, rfl⟩ := h0; exact one _ _ h rfl rfl
  | clo fn cap => have h0 := h; simp only [VRel] at h0; obtain ⟨_, _, rfl⟩ := h0; exact one _ _ h rfl rfl
  | tup l => have h0 := h; simp only [VRel] at h0; obtain ⟨_, _, rfl⟩ := h0; exact one _ _ h rfl rfl
  | ifc T x => have h0 := h; simp only [VRel] at h0; obtain ⟨_, _, rfl⟩ := h0; exact one _ _ h rfl rfl

theorem VRel.one {g : G} {w : World} {a : AV} {c : Value} (h : VRel g w a c) (ha : isAggV a = false) : c.oneCell' = true := by
  cases a with
  | v x =>
    have hx := VRel.v_iff.1 h
    subst hx
    cases c <;> first | rfl | cases ha
  | bv i b => simp only [VRel] at h; rw [h.1]; rfl
  | agg l => cases ha
  | tup l => cases ha
  | ro t xs => simp only [VRel] at h; obtain ⟨_, _, h1, _⟩ := h; injection h1 with h1; subst h1; rfl
  | el t x off => simp only [VRel] at h; obtain ⟨_, _, _, rfl, _⟩ := h; rfl
  | own k => simp only [VRel] at h; obtain ⟨_, _, _, _, rfl⟩ := h; rfl
  | oel k i sz off => simp only [VRel] at h; obtain ⟨_, _, _, _, _, rfl⟩ := h; rfl
  | ptr k off => simp only [VRel] at h; obtain ⟨_, _, rfl⟩ := h; rfl
  | mp k => simp only [VRel] at h; obtain ⟨_, _, rfl⟩ := h; rfl
  | clo fn cap => simp only [VRel] at h; obtain ⟨_, _, rfl⟩ := h; rfl
  | ifc T x => simp only [VRel] at h; obtain ⟨_, _, rfl⟩ := h; rfl

theorem VRels.ones {g : G} {w : World} : ∀ {l : List AV} {cs : List Value}, VRels g w l cs → l.any isAggV = false → ∀ c ∈ cs, c.oneCell' = true
  | [], cs, h, _, c, hc => by rw [VRels.nil.1 h] at hc; cases hc
  | a :: l, cs, h, ha, c, hc => by
    obtain ⟨d, r, rfl, h2, h3⟩ := VRels.cons.1 h
    simp only [List.any_cons, Bool.or_eq_false_iff] at ha
    rcases List.mem_cons.1 hc with rfl | hc
    · exact h2.one ha.1
    · exact h3.ones ha.2 c hc

section
variable {P : Program} {O : Nat → Prop} {w0 w : World} {g : G} {hp : Heap} {nx : Nat} {Z : TypeId → AV → Prop}

/-- Cells that are read give a value. -/
theorem head_ok {K : AV → Prop} {T : TypeId} {i : TInf} {tt : TypeId → Option TInf} (htt : TTok P tt) (hT : tt T = some i) {l : List AV} {cs : List Value} (hl : VRels g w l cs) (hn : l.length = i.size) {b o : Nat} (hc : CellsAt w b o cs) (h : (headOr (isAggT i.u) l).wp K Z) :
    Same P g w (loadVar T ⟨b, o, none⟩) K := by
  obtain ⟨hu, ⟨j, hj, hs, _, _⟩, _⟩ := htt T i hT
  have hlen := hl.len
  unfold headOr at h
  cases hagg : isAggT i.u
  · rw [hagg] at h
    simp only at h
    split at h
    · rename_i a
      obtain ⟨c, r, rfl, h2, h3⟩ := VRels.cons.1 hl
      have := VRels.nil.1 h3
      subst this
      refine ⟨c, a, ?_, h2, h⟩
      have hc0 := hc 0 c rfl
      simp only [loadVar, Sem.run_bind, run_isAgg' hu, hagg, Result.andThen_ok, Bool.false_eq_true, if_false, run_load]
      rw [Nat.add_zero] at hc0
      simp [hc0]
    · exact h.elim
  · rw [hagg] at h
    simp only [R.wpE1, R.wpE2, R.wpE3, R.wpE4, R.wpE5, R.wpE6] at h
    refine ⟨.agg cs.toArray, _, ?_, by simp only [VRel]; exact ⟨cs, hl, rfl⟩, h⟩
    have := run_loadCells_list (P := P) w ⟨b, o, none⟩ cs (fun j v hj => by rw [addN]; exact hc j v hj)
    rw [hlen, hn] at this
    simp [loadVar, Sem.run_bind, run_isAgg' hu, hagg, run_sizeOf' hj hs, this]

theorem cellsAt_sub {b o : Nat} {cs : List Value} (h : CellsAt w b o cs) (off n : Nat) : CellsAt w b (o + off) ((cs.drop off).take n) := by
  intro j v hj
  rw [List.getElem?_take] at hj
  split at hj
  · rw [List.getElem?_drop] at hj
    have := h (off + j) v hj
    rwa [← Nat.add_assoc] at this
  · cases hj

theorem own_row {k : Nat} {E : TypeId} {t : Ty} {xs : List t.Val} (hI : Inv O w0 g hp w) (hk : hp k = some (.row E t xs)) {b n cap : Nat} (hm : g.m k = some (.slice (some ⟨b, 0, none⟩) n cap)) :
    n = xs.length ∧ ∃ cells cur fz, w.heap[b]? = some (.cells cur E fz) ∧ (fz.2 = 0 ∨ cur.size ≤ fz.1) ∧ RepL g.S w t xs cells ∧ cur.size = cap * t.cells ∧ cur.toList.take (n * t.cells) = cells ∧ n ≤ cap ∧ cap ≤ maxLen := by
  obtain ⟨c, hc, hs⟩ := hI.sat k _ hk
  rw [hm] at hc; injection hc with hc; subst hc
  obtain ⟨cells, ho, hr⟩ := hs
  rcases ho.2 with ⟨h1, _⟩ | ⟨g', cap', cur, fz, h1, hz, h2, h3, hm', h4, h5⟩
  · cases h1
  · injection h1 with e1 e2 e3
    injection e1 with e1; injection e1 with e1
    subst e1 e2 e3
    exact ⟨rfl, cells, cur, fz, h2, hz, hr, h4, h5, h3, hm'⟩

theorem getD_mem {α : Type} (xs : List α) (i : Nat) (d : α) (h : i < xs.length) : xs.getD i d = xs[i] := by simp [List.getD, h]

theorem loadA_ok {K : AV → Prop} (hI : Inv O w0 g hp w) {T : TypeId} {i : TInf} {tt : TypeId → Option TInf} (htt : TTok P tt) (hT : tt T = some i) {a : AV} {ca : Value} (ha : VRel g w a ca) (h : (loadA hp (isAggT i.u) i.size a).wp K Z) :
    Same P g w (Instr.loadAt T ca) K := by
  have key : ∀ (b o : Nat), ca = .pointer (some ⟨b, o, none⟩) → Same P g w (loadVar T ⟨b, o, none⟩) K → Same P g w (Instr.loadAt T ca) K := fun b o he hs => by
    subst he
    obtain ⟨c, a, h1, h2⟩ := hs
    exact ⟨c, a, by simp [Instr.loadAt, Instr.sureAddr, h1], h2⟩
  unfold loadA at h
  split at h
  · rename_i k off
    simp only [VRel] at ha
    obtain ⟨b, hm, rfl⟩ := ha
    split at h
    · rename_i T' cs hk
      obtain ⟨c, hc, hs⟩ := hI.sat k _ hk
      rw [hm] at hc; injection hc with hc; subst hc
      obtain ⟨b', cvs, h1, h2, h3⟩ := hs
      injection h1 with h1; injection h1 with h1; injection h1 with h1; subst h1
      split at h
      · rename_i l hl
        obtain ⟨rfl, hn⟩ := cut_some hl
        have hat : CellsAt w b 0 cvs := fun j v hj => by rw [cell_of_row w b _ _ _ _ h2]; simpa using hj
        have := cellsAt_sub hat off i.size
        rw [Nat.zero_add] at this
        exact key b off rfl (head_ok htt hT ((h3.drop off).take _) hn this h)
      · exact h.elim
    · exact h.elim
  · rename_i t x off
    simp only [VRel] at ha
    obtain ⟨b, o, l0, rfl, hS, hc, hr⟩ := ha
    split at h
    · rename_i l hl
      obtain ⟨rfl, hn⟩ := cut_some hl
      exact key b _ rfl (head_ok htt hT ((hr.cells.drop off).take _) hn (cellsAt_sub hc off i.size) h)
    · exact h.elim
  · rename_i k idx sz off
    simp only [VRel] at ha
    obtain ⟨b, n, cap, hm, hidx, rfl⟩ := ha
    split at h
    · rename_i E t xs hk
      obtain ⟨rfl, cells, cur, fz, h2, hfz, hr, hsz, htake, hcap, _⟩ := own_row hI hk hm
      split at h
      · rename_i hb
        have := beq_eq hb
        subst this
        split at h
        · rename_i l hl
          obtain ⟨rfl, hn⟩ := cut_some hl
          rw [getD_mem xs idx _ hidx] at h hn
          have hre := (hr.get idx hidx).cells
          have hat : CellsAt w b 0 cells := fun j v hj => by
            rw [cell_of_row w b _ _ _ _ h2]
            rw [← htake, List.getElem?_take] at hj
            split at hj
            · simpa using hj
            · cases hj
          have h6 := cellsAt_sub (cellsAt_sub hat (idx * t.cells) t.cells) off i.size
          rw [Nat.zero_add] at h6
          exact key b _ rfl (head_ok htt hT ((hre.drop off).take _) hn h6 h)
        · exact h.elim
      · exact h.elim
    · exact h.elim
  · exact h.elim

theorem fieldOf_ok {T : TypeId} {f : Nat} {tt : TypeId → Option TInf} (htt : TTok P tt) {p : Nat × Nat × Bool} (h : fieldOf tt T f = some p) :
    ∃ (fs : Array Field) (fd : Field) (u : TypeDesc), P.underlying T = some (.struct fs) ∧ fs[f]? = some fd ∧ p.1 = fd.offset ∧ P.underlying fd.type = some u ∧ isAggT u = p.2.2 ∧ 0 < p.2.1 ∧ (∀ w, (sizeOf fd.type).run P w = .ok p.2.1 w) := by
  unfold fieldOf at h
  split at h
  · cases h
  · rename_i i hi
    obtain ⟨hu, _⟩ := htt T i hi
    split at h
    · rename_i fs hfs
      rw [hfs] at hu
      split at h
      · rename_i fd hfd
        split at h
        · rename_i j hj
          obtain ⟨hu2, ⟨jj, hjj, hs, _⟩, _⟩ := htt fd.type j hj
          split at h
          · cases h
          · rename_i n hn
            injection h with h; subst h
            refine ⟨fs, fd, j.u, hu, by simpa using hfd, rfl, hu2, rfl, by simp, fun w => run_sizeOf' hjj (hs.trans hn) w⟩
        · cases h
      · cases h
    · cases h

theorem moved_ok {K : AV → Prop} {T : TypeId} {f : Nat} {tt : TypeId → Option TInf} (htt : TTok P tt) {p : Nat × Nat × Bool} (hf : fieldOf tt T f = some p) {a : AV} {ca : Value} (ha : VRel g w a ca) (h : (moved p.1 a).wp K Z) :
    Same P g w (Instr.fieldAt T ca f) K := by
  obtain ⟨fs, fd, u, h1, h2, h3, _, _, h4, h5⟩ := fieldOf_ok htt hf
  have key : ∀ (b o : Nat) (a' : AV), ca = .pointer (some ⟨b, o, none⟩) → VRel g w a' (.pointer (some ⟨b, o + p.1, none⟩)) → K a' → Same P g w (Instr.fieldAt T ca f) K := fun b o a' he hv hk => by
    subst he
    refine ⟨_, a', ?_, hv, hk⟩
    simp only [Instr.fieldAt, Instr.sureAddr, Sem.run_bind, run_underlying h1, Result.andThen_ok, h2, Sem.run_pure, fieldPlace, h5]
    rw [if_neg (by omega)]
    simp [addN, h3]
  unfold moved at h
  split at h
  · simp only [VRel] at ha
    obtain ⟨b, hm, rfl⟩ := ha
    simp only [R.wpE1, R.wpE2, R.wpE3, R.wpE4, R.wpE5, R.wpE6] at h
    exact key b _ _ rfl (by simp only [VRel]; exact ⟨b, hm, rfl⟩) h
  · simp only [VRel] at ha
    obtain ⟨b, o, l0, rfl, hS, hc, hr⟩ := ha
    simp only [R.wpE1, R.wpE2, R.wpE3, R.wpE4, R.wpE5, R.wpE6] at h
    exact key b _ _ rfl (by simp only [VRel]; exact ⟨b, o, l0, by rw [Nat.add_assoc], hS, hc, hr⟩) h
  · simp only [VRel] at ha
    obtain ⟨b, n, cap, hm, hidx, rfl⟩ := ha
    simp only [R.wpE1, R.wpE2, R.wpE3, R.wpE4, R.wpE5, R.wpE6] at h
    exact key b _ _ rfl (by simp only [VRel]; exact ⟨b, n, cap, hm, hidx, by rw [Nat.add_assoc]⟩) h
  · exact h.elim

theorem str_agg {a : AV} {ca : Value} (ha : VRel g w a ca) (h : isStr a = true) : ∃ cs : Array Value, ca = .agg cs ∧ VRels g w (avCells a) cs.toList := by
  have hc := ha.cells
  cases a with
  | agg l => simp only [VRel] at ha; obtain ⟨cs, _, rfl⟩ := ha; exact ⟨_, rfl, hc⟩
  | v x =>
    have hx := VRel.v_iff.1 ha
    subst hx
    cases ca <;> first | exact ⟨_, rfl, hc⟩ | cases h
  | _ => cases h

theorem field_ok {K : AV → Prop} {T : TypeId} {f : Nat} {tt : TypeId → Option TInf} (htt : TTok P tt) {p : Nat × Nat × Bool} (hf : fieldOf tt T f = some p) {a : AV} {ca : Value} (ha : VRel g w a ca) (hagg : isStr a = true) {l : List AV} (hl : cut (avCells a) p.1 p.2.1 = some l)
    (h : (headOr p.2.2 l).wp K Z) : Same P g w (Instr.field T ca f) K := by
  obtain ⟨fs, fd, u, h1, h2, h3, hu, h3', h4, h5⟩ := fieldOf_ok htt hf
  obtain ⟨cs, rfl, hcs⟩ := str_agg ha hagg
  obtain ⟨rfl, hn⟩ := cut_some hl
  have hv := (hcs.drop p.1).take p.2.1
  have e : (Instr.field T (.agg cs) f).run P w = (part fd.type cs fd.offset).run P w := by
    simp [Instr.field, run_underlying h1, h2, asAgg]
  unfold Same
  rw [e]
  unfold headOr at h
  cases hb : p.2.2
  · rw [hb] at h h3'
    simp only at h
    split at h
    · rename_i x hx
      rw [hx] at hv
      obtain ⟨c, r, he, h6, h7⟩ := VRels.cons.1 hv
      have h8 : cs[fd.offset]? = some c := by
        have : ((cs.toList.drop p.1).take p.2.1)[0]? = some c := by rw [he]; rfl
        rw [List.getElem?_take, if_pos h4, List.getElem?_drop] at this
        simpa [h3] using this
      exact ⟨c, x, by simp [part, run_isAgg' hu, h3', h8], h6, h⟩
    · exact h.elim
  · rw [hb] at h h3'
    simp only [R.wpE1, R.wpE2, R.wpE3, R.wpE4, R.wpE5, R.wpE6] at h
    refine ⟨_, _, by simp [part, run_isAgg' hu, h3', h5]; rfl, ?_, h⟩
    simp only [VRel]
    refine ⟨_, hv, ?_⟩
    congr 1
    apply Array.ext'
    rw [← h3]
    simp [List.drop_take, Nat.add_sub_cancel_left]
end
end Go.Proofs.Ytmkbigaofhionaa
