/- Marks of ranges over functions: a block that is no cells may turn; no program. -/
import Derived.Test.YtmkbigaofhionaaAbsC
import Derived.RangeFuncLeaves
import Derived.RangeFuncFrom
namespace Go.Proofs.Ytmkbigaofhionaa
open Go.RowKit
set_option linter.unusedVariables false
set_option linter.unusedSimpArgs false

/-- A block of deferred calls, or nothing, turned. -/
def NcEq (w w' : World) : Prop := ∀ b : Nat, w'.heap[b]? = w.heap[b]? ∨ ∃ x, w.heap[b]? = some (Obj.deferred x)

theorem CellsAt.nc {w w' : World} {b o : Nat} {cs : List Value} (h : CellsAt w b o cs) (hn : NcEq w w') : CellsAt w' b o cs := fun j v hj => by
  rcases hn b with h1 | ⟨x, h1⟩
  · exact (World.cell?_of_block (a := ⟨b, o + j, none⟩) h1).trans (h j v hj)
  · have := h j v hj
    simp [World.cell?, h1] at this

theorem RepS.nc {S : Nat → Prop} {w w' : World} (hn : NcEq w w') : ∀ {t : Ty} {x : t.Val} {cs : List Value}, RepS S w t x cs → RepS S w' t x cs
  | .int _, _, _, h => h
  | .bool, _, _, h => h
  | .str, _, _, h => h
  | .slice _ e, xs, cs, h => by
    obtain ⟨a, cap, h1, h2, h5⟩ := h
    refine ⟨a, cap, h1, h2, fun i hi => ?_⟩
    obtain ⟨b, o, h6, hS, l, h7, h8, h10⟩ := h5 i hi
    exact ⟨b, o, h6, hS, l, h7, h8.nc hn, RepS.nc hn h10⟩
  | .unit, _, _, h => h
  | .pair a b, x, cs, h => by
    obtain ⟨l, r, h1, h2, h3, h4⟩ := h
    exact ⟨l, r, h1, h2, RepS.nc hn h3, RepS.nc hn h4⟩

mutual
theorem VRel.nc {g : G} {w w' : World} (hn : NcEq w w') : ∀ {a : AV} {c : Value}, VRel g w a c → VRel g w' a c
  | .v x, c, h => by simpa only [VRel] using h
  | .bv i b, c, h => by simpa only [VRel] using h
  | .ro t xs, c, h => by simp only [VRel] at h ⊢; exact h.nc hn
  | .el t x off, c, h => by
    simp only [VRel] at h ⊢
    obtain ⟨b, o, l, h1, h2, h3, h4⟩ := h
    exact ⟨b, o, l, h1, h2, h3.nc hn, h4.nc hn⟩
  | .own k, c, h => by simpa only [VRel] using h
  | .oel k i sz off, c, h => by simpa only [VRel] using h
  | .ptr k off, c, h => by simpa only [VRel] using h
  | .mp k, c, h => by simpa only [VRel] using h
  | .clo fn cap, c, h => by
    simp only [VRel] at h ⊢
    obtain ⟨cs, h1, h2⟩ := h
    exact ⟨cs, VRels.nc hn h1, h2⟩
  | .agg l, c, h => by
    simp only [VRel] at h ⊢
    obtain ⟨cs, h1, h2⟩ := h
    exact ⟨cs, VRels.nc hn h1, h2⟩
  | .tup l, c, h => by
    simp only [VRel] at h ⊢
    obtain ⟨cs, h1, h2⟩ := h
    exact ⟨cs, VRels.nc hn h1, h2⟩
  | .ifc T x, c, h => by
    simp only [VRel] at h ⊢
    obtain ⟨d, h1, h2⟩ := h
    exact ⟨d, VRel.nc hn h1, h2⟩
theorem VRels.nc {g : G} {w w' : World} (hn : NcEq w w') : ∀ {l : List AV} {cs : List Value}, VRels g w l cs → VRels g w' l cs
  | [], cs, h => by simpa only [VRels] using h
  | a :: l, cs, h => by
    simp only [VRels] at h ⊢
    obtain ⟨c, r, h1, h2, h3⟩ := h
    exact ⟨c, r, h1, VRel.nc hn h2, VRels.nc hn h3⟩
end
theorem RepL.nc {S : Nat → Prop} {w w' : World} (hn : NcEq w w') {t : Ty} : ∀ {xs : List t.Val} {cs : List Value}, RepL S w t xs cs → RepL S w' t xs cs
  | [], _, h => h
  | x :: xs, cs, h => by
    obtain ⟨l, r, h1, h2, h3⟩ := h
    exact ⟨l, r, h1, h2.nc hn, RepL.nc hn h3⟩
theorem ValS.nc {S : Nat → Prop} {w w' : World} (hn : NcEq w w') {ag : Bool} {t : Ty} {x : t.Val} {v : Value} (h : ValS S w ag t x v) : ValS S w' ag t x v := by
  cases ag with
  | true => obtain ⟨cs, h1, h2⟩ := h; exact ⟨cs, h1, h2.nc hn⟩
  | false => exact RepS.nc hn h
theorem RepM.nc {S : Nat → Prop} {w w' : World} (hn : NcEq w w') {ag : Bool} {kt et : Ty} : ∀ {l : List (kt.Val × et.Val)} {es : List MapEntry}, RepM S w ag kt et l es → RepM S w' ag kt et l es
  | [], _, h => h
  | p :: l, es, h => by
    obtain ⟨e, r, h1, h2, h3, h4⟩ := h
    exact ⟨e, r, h1, h2, h3.nc hn, RepM.nc hn h4⟩
theorem OBSat.nc {g : G} {w w' : World} (hn : NcEq w w') {c : Value} {ob : OB} (h : OBSat g w c ob) : OBSat g w' c ob := by
  have hb : ∀ {b : Nat} {o : Obj}, w.heap[b]? = some o → (∀ x, o ≠ .deferred x) → w'.heap[b]? = some o := fun {b o} h1 h2 => by
    rcases hn b with h3 | ⟨x, h3⟩
    · rw [h3]; exact h1
    · rw [h1] at h3; injection h3 with h3; exact (h2 x h3).elim
  cases ob with
  | cells T cs =>
    obtain ⟨b', cvs, rfl, h1, h2⟩ := h
    exact ⟨b', cvs, rfl, hb h1 (fun x => by simp), h2.nc hn⟩
  | row E t xs =>
    obtain ⟨cells, ho, hr⟩ := h
    refine ⟨cells, ⟨ho.1, ?_⟩, hr.nc hn⟩
    rcases ho.2 with h3 | ⟨g', cap, cur, fz, rfl, h4, hh, h5⟩
    · exact .inl h3
    · exact .inr ⟨g', cap, cur, fz, rfl, h4, hb hh (fun x => by simp), h5⟩
  | map ag kt et l =>
    obtain ⟨b', es, clock, rfl, h1, h2⟩ := h
    exact ⟨b', es, clock, rfl, hb h1 (fun x => by simp), h2.nc hn⟩

/-- A mark's block is shut. -/
theorem Inv.shut {O : Nat → Prop} {w0 w : World} {g : G} {hp : Heap} (h : Inv O w0 g hp w) {D : Nat} {x : Option (List Deferred)} (hD : w0.heap.size ≤ D) (hw : w.heap[D]? = some (Obj.deferred x)) (o : Obj) : Inv O w0 g hp (w.putObj D o) ∧ NcEq w (w.putObj D o) := by
  have hn : NcEq w (w.putObj D o) := fun b => by
    by_cases e : b = D
    · subst e; exact .inr ⟨x, hw⟩
    · exact .inl (World.putObj_heap_other e)
  refine ⟨⟨⟨fun b hb hO => ?_, h.os, h.tape, h.output, by simpa using h.size⟩, fun k ob hk => ?_, h.inj, fun b hb => by simpa using h.stab b hb, h.apart, h.mine⟩, hn⟩
  · rw [World.putObj_heap_other (by omega)]; exact h.frame b hb hO
  · obtain ⟨c, h1, h2⟩ := h.sat k ob hk
    exact ⟨c, h1, h2.nc hn⟩

theorem marks_leave {P : Program} {fn : Func} {tmps : Array Value} {O : Nat → Prop} {w0 : World} {g : G} {hp : Heap} {R : Ending → World → Prop} {J : World → Prop} (hJ : ∀ w w', NcEq w w' → J w → J w')
    (hR : ∀ w, Inv O w0 g hp w → J w → ∃ v, (results fn tmps).run P w = .ok v w ∧ R (.returned v) w) :
    ∀ (Ds : List Nat) (w : World), Ds.Nodup → (∀ D ∈ Ds, g.S D ∧ w0.heap.size ≤ D ∧ w.heap[D]? = some (.deferred (some []))) → Inv O w0 g hp w → J w → LeavesInM Fence.wide 0 P fn tmps R (Ds.map markOf) .returning w
  | [], w, _, _, hI, hV => hR w hI hV
  | D :: Ds, w, hn, hm, hI, hV => by
    obtain ⟨h1, h2, h3⟩ := hm D (by simp)
    refine ⟨by simp, .inl ⟨D, _, rfl, run_takeDeferred h3, ?_⟩⟩
    obtain ⟨i1, i2⟩ := hI.shut h2 h3 (.deferred none)
    rw [List.nodup_cons] at hn
    refine marks_leave hJ hR Ds _ hn.2 (fun E hE => ?_) i1 (hJ _ _ i2 hV)
    obtain ⟨k1, k2, k3⟩ := hm E (by simp [hE])
    refine ⟨k1, k2, ?_⟩
    rw [World.putObj_heap_other (fun (e : E = D) => hn.1 (e ▸ hE))]
    exact k3
end Go.Proofs.Ytmkbigaofhionaa
