/- The source and the reference's, side by side in one memory. -/
import Derived.Test.YtekinbeiljmddaaReads
namespace Go.Proofs.Ytekinbeiljmddaa
open Go.RowKit Go.Conc Go.Lib
set_option linter.unusedVariables false
set_option linter.unusedSimpArgs false

structure Both (w0 wr : World) (B C R : Nat) (rv sv rv2 : Value) (s : ByteArray) (st : List TStep.Val) (rd : List (Int × Int)) : Prop where
  src : SrcInv wr B C rv s st rd
  ref : RefInv wr R sv rv2 s st rd
  apart : ∀ k, rv.ownBlock = some k → rv2.ownBlock ≠ some k
  below : Below w0.heap.size w0 wr
  lo : w0.heap.size ≤ C
  loR : w0.heap.size ≤ R

section
variable {w0 wr : World} {B C R : Nat} {rv sv rv2 : Value} {s : ByteArray} {st : List TStep.Val} {rd : List (Int × Int)}

theorem blk_ne {w : World} {a b : Nat} {o p : Obj} (ha : Blk w a o) (hb : Blk w b p) (h : o ≠ p) : a ≠ b := by
  intro e
  subst e
  unfold Blk at ha hb
  rw [ha] at hb
  exact h (Option.some.inj hb)

theorem RefInv.keep {w w' : World} (h : RefInv w R sv rv2 s st rd) {F : Nat → Prop} (hf : Fr F w w') (hR : ¬ F R) (hr : ∀ k, rv2.ownBlock = some k → ¬ F k) (hG : ∀ G cur, R < G → Blk w G (.cells cur 63 (0, 0)) → ¬ F G) :
    RefInv w' R sv rv2 s st rd :=
  ⟨hf.blk h.obj hR, h.scr.fr hf hG, own_fr h.row hf hr⟩

theorem Both.ref_after {w2 : World} (h : Both w0 wr B C R rv sv rv2 s st rd) (hf : Fr (SrcF B C rv) wr w2) : RefInv w2 R sv rv2 s st rd := by
  obtain ⟨cap, sent, rcvd, hch⟩ := h.src.chan
  refine h.ref.keep hf ?_ ?_ ?_
  · rintro (e | e | e)
    · exact blk_ne h.ref.obj h.src.obj (by simp) e
    · exact blk_ne h.ref.obj hch (by simp) e
    · exact own_blk_ne h.src.row h.ref.obj (by intro c hc; simp at hc) e
  · rintro k hk (e | e | e)
    · exact own_blk_ne h.ref.row h.src.obj (by intro c hc; simp at hc) (e ▸ hk)
    · exact own_blk_ne h.ref.row hch (by intro c hc; simp at hc) (e ▸ hk)
    · exact h.apart k e hk
  · rintro G cur _ hG (e | e | e)
    · exact blk_ne hG h.src.obj (by simp) e
    · exact blk_ne hG hch (by simp) e
    · exact own_blk_ne h.src.row hG (by intro c hc; simp at hc) e

theorem Both.next {w2 w3 : World} {rv' sv' rv2' : Value} {st' : List TStep.Val} {rd' : List (Int × Int)} (h : Both w0 wr B C R rv sv rv2 s st rd) (hs : SrcInv w2 B C rv' s st' rd') (hf : Fr (SrcF B C rv) wr w2)
    (ho : ∀ k, rv'.ownBlock = some k → rv.ownBlock = some k ∨ wr.heap.size ≤ k) (hr : RefInv w3 R sv' rv2' s st' rd') (hf2 : Fr (RefF R rv2) w2 w3) (ho2 : ∀ k, rv2'.ownBlock = some k → rv2.ownBlock = some k ∨ w2.heap.size ≤ k) :
    Both w0 w3 B C R rv' sv' rv2' s st' rd' := by
  have href := h.ref_after hf
  obtain ⟨cap, sent, rcvd, hch⟩ := hs.chan
  have hrl := hs.row.lt
  have hrl2 := h.ref.row.lt
  have hap : ∀ k, rv'.ownBlock = some k → rv2.ownBlock ≠ some k := by
    intro k hk hk2
    rcases ho k hk with h1 | h1
    · exact h.apart k h1 hk2
    · have := (hrl2 k hk2).2; omega
  refine ⟨hs.keep hf2 ?_ ?_ ?_, hr, ?_, ?_, h.lo, h.loR⟩
  · rintro (e | e)
    · exact blk_ne href.obj hs.obj (by simp) e.symm
    · exact own_blk_ne href.row hs.obj (by intro c hc; simp at hc) e
  · rintro (e | e)
    · exact blk_ne href.obj hch (by simp) e.symm
    · exact own_blk_ne href.row hch (by intro c hc; simp at hc) e
  · rintro k hk (e | e)
    · exact own_blk_ne hs.row href.obj (by intro c hc; simp at hc) (e ▸ hk)
    · exact hap k hk e
  · intro k hk hk2
    rcases ho2 k hk2 with h1 | h1
    · exact hap k hk h1
    · have := (hrl k hk).2; omega
  · have hlt := h.src.lt
    have hz := h.below.size
    refine (h.below.trans (fr_below hf (srcF_ge h.lo hlt ?_) (by omega))).trans (fr_below hf2 ?_ (by have := hf.size; omega))
    · intro k hk; have := (h.src.row.lt k hk).1; have := h.lo; omega
    · rintro k (e | e)
      · have := h.loR; omega
      · have := (hrl2 k e).1; have := h.loR; omega

theorem Both.after {w' : World} (h : Both w0 wr B C R rv sv rv2 s st rd) (hb : Below wr.heap.size wr w') : Both w0 w' B C R rv sv rv2 s st rd := by
  refine ⟨h.src.keep (F := fun _ => False) (Fr.of_below hb) (fun h => h) (fun h => h) (fun _ _ h => h), h.ref.keep (F := fun _ => False) (Fr.of_below hb) (fun h => h) (fun _ _ h => h) (fun _ _ _ _ h => h), h.apart, ?_, h.lo, h.loR⟩
  exact h.below.trans (hb.mono h.below.size)
end

/-- A store into a row of the call's own. -/
theorem own_set {w : World} {base size n c g : Nat} {T : TypeId} {l : List Value} (h : w.ownsRow base T size (.slice (some ⟨g, 0, none⟩) n c) n l) (j : Nat) (v : Value) :
    ∃ l', (w.setCell ⟨g, j, none⟩ v).ownsRow base T size (.slice (some ⟨g, 0, none⟩) n c) n l' := by
  rcases h.2 with ⟨h1, _⟩ | ⟨g', cap, cur, h1, h2, h3, h4, h5, h6, h7⟩
  · cases h1
  · simp only [Value.slice.injEq, Option.some.injEq, Addr.mk.injEq] at h1
    obtain ⟨⟨rfl, _⟩, _, rfl⟩ := h1
    have hb : Blk w g (.cells cur T (0, 0)) := h3
    have hl := h.1
    have hk : n * size ≤ cur.size := by rw [h6]; exact Nat.mul_le_mul_right _ h4
    refine ⟨_, ?_, .inr ⟨g, c, _, rfl, h2, hb.setCell_same j v, h4, h5, ?_, rfl⟩⟩
    · rw [List.length_take, Array.length_toList, Array.size_setIfInBounds]; omega
    · rw [Array.size_setIfInBounds]; exact h6
theorem own_cell_some {w : World} {base size n c g : Nat} {T : TypeId} {l : List Value} (h : w.ownsRow base T size (.slice (some ⟨g, 0, none⟩) n c) n l) {j : Nat} (hj : j < n * size) :
    (∃ v, w.cell? ⟨g, j, none⟩ = some v) ∧ w.frozen? ⟨g, j, none⟩ = false := by
  rcases h.2 with ⟨h1, _⟩ | ⟨g', cap, cur, h1, h2, h3, h4, h5, h6, h7⟩
  · cases h1
  · simp only [Value.slice.injEq, Option.some.injEq, Addr.mk.injEq] at h1
    obtain ⟨⟨rfl, _⟩, _, rfl⟩ := h1
    have hb : Blk w g (.cells cur T (0, 0)) := h3
    have hk : n * size ≤ cur.size := by rw [h6]; exact Nat.mul_le_mul_right _ h4
    exact ⟨⟨_, by rw [hb.cell]; exact Array.getElem?_eq_getElem (by omega)⟩, hb.frozen j⟩

theorem srcF_ne {w : World} {B C : Nat} {rv : Value} {s : ByteArray} {st : List TStep.Val} {rd : List (Int × Int)} (h : SrcInv w B C rv s st rd) {k : Nat} {cur : Array Value} {T : TypeId} (hb : Blk w k (.cells cur T (0, 0)))
    (h1 : T ≠ 83) (h2 : T ≠ 77) : ¬ SrcF B C rv k := by
  obtain ⟨cap, sent, rcvd, hch⟩ := h.chan
  rintro (e | e | e)
  · exact blk_ne hb h.obj (by intro h; simp at h; exact h1 h.2) e
  · exact blk_ne hb hch (by simp) e
  · exact own_blk_ne h.row hb (by intro c hc; simp at hc; exact h2 hc.2) e

/-- A row with something in it has its block. -/
theorem own_some {w : World} {base size n c : Nat} {T : TypeId} {a : Option Addr} {l : List Value} (h : w.ownsRow base T size (.slice a n c) n l) (hn : 0 < n) : ∃ g, a = some ⟨g, 0, none⟩ ∧ base ≤ g ∧ g < w.heap.size := by
  rcases h.2 with ⟨_, h2⟩ | ⟨g, cap, cur, h1, h2, h3, _⟩
  · omega
  · simp only [Value.slice.injEq] at h1
    exact ⟨g, h1.1, h2, (show Blk w g _ from h3).lt⟩

theorem fullS_left {len at_ n : Nat} : ∀ (st : List TStep.Val) (g : Nat) (rd : List (Int × Int)), (fullS len at_ n st g rd).2.1.length ≤ st.length
  | [], g, rd => Nat.le_refl _
  | y :: r, g, rd => by
    unfold fullS
    split
    · simp
    · split
      · simp
      · have := fullS_left (len := len) (at_ := at_) (n := n) r (g + rdLen len y (at_ + g) (n - g)) (addSpan rd (at_ + g) (rdLen len y (at_ + g) (n - g)))
        simp only [List.length_cons]; omega

/-- A store outside of both. -/
theorem Both.set {w0 wr : World} {B C R : Nat} {rv sv rv2 : Value} {s : ByteArray} {st : List TStep.Val} {rd : List (Int × Int)} (h : Both w0 wr B C R rv sv rv2 s st rd) {g : Nat} (hg : w0.heap.size ≤ g) (hC : g < C) (hR : g < R) (j : Nat) (v : Value) :
    Both w0 (wr.setCell ⟨g, j, none⟩ v) B C R rv sv rv2 s st rd := by
  have hF : Fr (fun k => k = g) wr (wr.setCell ⟨g, j, none⟩ v) := Fr.setCell (F := fun k => k = g) (Fr.refl _ wr) (p := ⟨g, j, none⟩) (.inl rfl) v
  have hlt := h.src.lt
  refine ⟨h.src.keep hF (by omega) (by omega) (fun k hk => ?_), h.ref.keep hF (by omega) (fun k hk => ?_) (fun G _ hG _ => by omega), h.apart, h.below.trans (fr_below hF (fun k hk => by omega) h.below.size), h.lo, h.loR⟩
  · have := (h.src.row.lt k hk).1; omega
  · have := (h.ref.row.lt k hk).1; omega

theorem fullS_sub {len at_ n : Nat} : ∀ (st : List TStep.Val) (g : Nat) (rd : List (Int × Int)), (∀ x ∈ (fullS len at_ n st g rd).2.1, x ∈ st) ∧ (fullS len at_ n st g rd).2.2.length + (fullS len at_ n st g rd).2.1.length ≤ rd.length + st.length + 1
  | [], g, rd => by
    unfold fullS
    exact ⟨fun x hx => hx, by have := addSpan_length rd (at_ + g) (rdLen len (0, 0, ()) (at_ + g) (n - g)); simp; exact this⟩
  | y :: r, g, rd => by
    have hl := addSpan_length rd (at_ + g) (rdLen len y (at_ + g) (n - g))
    unfold fullS
    split
    · exact ⟨fun x hx => List.mem_cons_of_mem _ hx, by simp; omega⟩
    · split
      · exact ⟨fun x hx => List.mem_cons_of_mem _ hx, by simp; omega⟩
      · have ih := fullS_sub (len := len) (at_ := at_) (n := n) r (g + rdLen len y (at_ + g) (n - g)) (addSpan rd (at_ + g) (rdLen len y (at_ + g) (n - g)))
        exact ⟨fun x hx => List.mem_cons_of_mem _ (ih.1 x hx), by simp only [List.length_cons]; omega⟩
end Go.Proofs.Ytekinbeiljmddaa
