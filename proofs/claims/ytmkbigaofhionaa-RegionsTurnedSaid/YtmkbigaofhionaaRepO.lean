/- Elements of a slice off its reading; an own row as plain data; no program. -/
import Derived.Test.YtmkbigaofhionaaRep
import Derived.Test.YtmkbigaofhionaaFr
namespace Go.Proofs.Ytmkbigaofhionaa
open Go.RowKit
set_option linter.unusedVariables false
set_option linter.unusedSimpArgs false

/-- An element of a slice, off its reading. -/
theorem slice_at {w : World} {n : Nat} {e : Ty} {xs : (Ty.slice n e).Val} {a : Option Addr} {len cap : Nat} (h : Rep w (.slice n e) xs [.slice a len cap]) {k : Nat} (hk : k < xs.length) :
    ∃ b o, a = some ⟨b, o, none⟩ ∧ ∃ l, l.length = e.cells ∧ CellsAt w b (o + k * e.cells) l ∧ b < w.heap.size ∧ Rep w e xs[k] l := by
  obtain ⟨a', cap', h1, h2, h3, h4, h5⟩ := h
  simp at h1
  obtain ⟨rfl, _, _⟩ := h1
  exact h5 k hk
theorem slice_len {w : World} {n : Nat} {e : Ty} {xs : (Ty.slice n e).Val} {a : Option Addr} {len cap : Nat} (h : Rep w (.slice n e) xs [.slice a len cap]) : xs.length = len ∧ len ≤ cap ∧ len * n ≤ 140737488351232 := by
  obtain ⟨a', cap', h1, h2, h3, h4, h5⟩ := h
  simp at h1
  obtain ⟨_, h6, rfl⟩ := h1
  exact ⟨h6.symm, by omega, h6 ▸ h2⟩

theorem rep_own {w : World} {base : Nat} {E : TypeId} {k n : Nat} {e : Ty} {v : Value} {xs : List e.Val} {f : e.Val → List Value} (h : w.ownsRow base E k v xs.length (xs.flatMap f)) (hk : e.cells = k) (hf : ∀ x, (f x).length = k)
    (hx : ∀ x ∈ xs, Rep w e x (f x)) (hl : xs.length * n ≤ 140737488351232) : ∃ a cap, v = .slice a xs.length cap ∧ Rep w (.slice n e) xs [.slice a xs.length cap] := by
  subst hk
  rcases h.2 with ⟨h1, h2⟩ | ⟨g, cap, cur, h5, h6, h7, h8, h9, _⟩
  · exact ⟨none, 0, by rw [h1, h2], none, 0, rfl, hl, by omega, fun _ => rfl, fun i hi => by omega⟩
  · refine ⟨some ⟨g, 0, none⟩, cap, h5, some ⟨g, 0, none⟩, cap, rfl, hl, h8, (by simp), fun i hi => ?_⟩
    have hb : Blk w g (.cells cur E (0, 0)) := h7
    refine ⟨g, 0, rfl, f xs[i], hf _, fun j u hj => ?_, hb.lt, hx _ (List.getElem_mem hi)⟩
    have hjk : j < e.cells := by rw [← hf xs[i]]; exact (List.getElem?_eq_some_iff.1 hj).1
    have := h.cells (g := g) (by rw [h5]; rfl) (i * e.cells + j) u (by rw [flat_get hf xs i hi j hjk]; exact hj)
    rw [← this, Addr.add_lit]
    congr 2
    omega
end Go.Proofs.Ytmkbigaofhionaa
