/- What Gaps and Covered tell: the program's way and the reference's; the shape of Gaps' result. -/
import Derived.Test.YtmkbigaofhionaaRegP
import Derived.Test.YtmkbigaofhionaaSpan
namespace Go.Proofs.Ytmkbigaofhionaa
open Go.RowKit
set_option linter.unusedVariables false

/-- What Gaps tells. -/
def gapsOf {α : Type} (lo hi : Int) (l : List (Item α)) : List (Int × Int) := if spanB lo hi = true then gapsS hi lo (l.drop (fromS lo l)) else []

def SpansPost (gs : List (Int × Int)) (w : World) (e : Ending) (w' : World) : Prop :=
  ∃ v, e = .returned v ∧ w'.ownsRow w.heap.size 32 2 v gs.length (gs.flatMap spanV) ∧ Below w.heap.size w w'

/-- How many bytes Covered tells. -/
def covOf {α : Type} (lo hi : Int) (l : List (Item α)) : Int := if spanB lo hi = true then covS lo hi l else 0

theorem covOf_gaps {α : Type} {lo hi : Int} {l : List (Item α)} (hr : Rises l) (hs : spanB lo hi = true) : hi - lo - lenS (gapsOf lo hi l) = covOf lo hi l := by
  unfold covOf gapsOf
  rw [if_pos hs, if_pos hs]
  have h1 := gaps_len (hi := hi) (hr.drop (fromS lo l)) (drop_ends (p := lo) hr)
  have h2 := cov_drop (lo := lo) (hi := hi) hr
  have h3 := (spanB_iff.1 hs).2.1
  rw [h2] at h1
  omega
theorem gapsOf_in {α : Type} {lo hi : Int} {l : List (Item α)} (hr : Rises l) : ∀ g ∈ gapsOf lo hi l, lo ≤ g.1 ∧ g.1 < g.2 ∧ g.2 ≤ hi := by
  unfold gapsOf
  split
  · exact gaps_in (hr.drop _) (drop_ends hr)
  · intro g hg; cases hg
theorem lenS_take {lo hi : Int} {gs : List (Int × Int)} (hin : ∀ g ∈ gs, lo ≤ g.1 ∧ g.1 < g.2 ∧ g.2 ≤ hi) : ∀ (k : Nat), 0 ≤ lenS (gs.take k) ∧ lenS (gs.take k) ≤ lenS gs := by
  induction gs with
  | nil => intro k; simp [lenS]
  | cons x r ih =>
    intro k
    have hx := hin x List.mem_cons_self
    have ih := ih (fun g hg => hin g (List.mem_cons_of_mem _ hg))
    cases k with
    | zero =>
      have := ih r.length
      rw [List.take_length] at this
      simp only [List.take_zero, lenS]; omega
    | succ k =>
      have := ih k
      simp only [List.take_succ_cons, lenS]; omega
theorem lenS_snoc (gs : List (Int × Int)) (x : Int × Int) : lenS (gs ++ [x]) = lenS gs + (x.2 - x.1) := by
  induction gs with
  | nil => simp [lenS]
  | cons y r ih => simp only [List.cons_append, lenS, ih]; omega
theorem gapsS_length {α : Type} (hi : Int) : ∀ (l : List (Item α)) (lo : Int), (gapsS hi lo l).length ≤ l.length + 1
  | [], lo => by simp only [gapsS]; split <;> simp
  | x :: r, lo => by
    simp only [gapsS]
    have := gapsS_length hi r x.2.1
    split
    · split <;> simp
    · split <;> simp <;> omega
theorem gapsOf_length {α : Type} (lo hi : Int) (l : List (Item α)) : (gapsOf lo hi l).length ≤ l.length + 1 := by
  unfold gapsOf
  split
  · have := gapsS_length hi (l.drop (fromS lo l)) lo
    rw [List.length_drop] at this
    omega
  · simp


/-- The reference's way: all spans are gone through, those that lie outside are left. -/
def refGaps {α : Type} (lo hi : Int) : Int → List (Item α) → List (Int × Int)
  | p, [] => if p < hi then [(p, hi)] else []
  | p, x :: r => if x.2.1 ≤ lo ∨ hi ≤ x.1 then refGaps lo hi p r else if p < x.1 then (p, x.1) :: refGaps lo hi x.2.1 r else refGaps lo hi x.2.1 r
def refGapsO (os r : List (Int × Int)) : List (Int × Int) := os ++ r

theorem refGaps_past {α : Type} {lo hi p : Int} : ∀ {l : List (Item α)}, Rises l → (∀ x ∈ l, hi ≤ x.1) → refGaps lo hi p l = if p < hi then [(p, hi)] else []
  | [], _, _ => rfl
  | x :: r, hr, h => by
    simp only [refGaps]
    rw [if_pos (.inr (h x List.mem_cons_self)), refGaps_past hr.2.2 (fun y hy => h y (List.mem_cons_of_mem _ hy))]
theorem refGaps_from {α : Type} {lo hi : Int} : ∀ {l : List (Item α)} {p : Int}, Rises l → (∀ x ∈ l, lo < x.2.1) → refGaps lo hi p l = gapsS hi p l
  | [], p, _, _ => rfl
  | x :: r, p, hr, h => by
    have h1 := h x List.mem_cons_self
    simp only [refGaps, gapsS]
    by_cases hx : hi ≤ x.1
    · rw [if_pos (.inr hx), if_pos hx, refGaps_past hr.2.2 (fun y hy => by have := hr.2.1 y hy; have := hr.1.2.1; omega)]
    · rw [if_neg (by omega), if_neg hx, refGaps_from hr.2.2 (fun y hy => h y (List.mem_cons_of_mem _ hy))]
theorem refGaps_drop {α : Type} {lo hi p : Int} : ∀ {l : List (Item α)}, Rises l → refGaps lo hi p l = refGaps lo hi p (l.drop (fromS lo l))
  | [], _ => rfl
  | x :: r, hr => by
    simp only [fromS]
    split
    · rename_i h
      rw [List.drop_succ_cons, ← refGaps_drop hr.2.2]
      simp only [refGaps]
      rw [if_pos (.inl h)]
    · rfl
theorem refGaps_of {α : Type} {lo hi : Int} {l : List (Item α)} (hr : Rises l) (hs : spanB lo hi = true) : gapsOf lo hi l = refGaps lo hi lo l := by
  unfold gapsOf
  rw [if_pos hs, refGaps_drop hr, refGaps_from (hr.drop _) (drop_ends hr)]
theorem Rises.take {α : Type} {l : List (Item α)} (h : Rises l) (k : Nat) : Rises (l.take k) := by
  induction l generalizing k with
  | nil => simp [Rises]
  | cons y r ih => cases k with
    | zero => simp [Rises]
    | succ k => exact ⟨h.1, fun x hx => h.2.1 x (List.mem_of_mem_take hx), ih h.2.2 k⟩
theorem cov_bound {α : Type} {lo hi : Int} {l : List (Item α)} (hr : Rises l) (hlh : lo ≤ hi) : 0 ≤ covS lo hi l ∧ covS lo hi l ≤ hi - lo := by
  refine ⟨cov_nonneg _ _ _, ?_⟩
  have h1 := gaps_len (hi := hi) (hr.drop (fromS lo l)) (drop_ends (p := lo) hr)
  rw [cov_drop hr] at h1
  have h2 := gaps_in (hi := hi) (hr.drop (fromS lo l)) (drop_ends (p := lo) hr)
  have h3 := (lenS_take (lo := lo) (hi := hi) (gs := gapsS hi lo (l.drop (fromS lo l))) h2 0)
  simp [lenS] at h3
  omega
theorem cov_snoc {α : Type} {lo hi : Int} {l : List (Item α)} {k : Nat} (hk : k < l.length) : covS lo hi (l.take (k + 1)) = covS lo hi (l.take k) + part lo hi (l[k].1, l[k].2.1) := by
  have app : ∀ a b : List (Item α), covS lo hi (a ++ b) = covS lo hi a + covS lo hi b := by
    intro a b
    induction a with
    | nil => simp [covS]
    | cons x r ih => simp only [List.cons_append, covS, ih]; omega
  rw [← List.take_append_getElem hk, app]
  simp [covS]
end Go.Proofs.Ytmkbigaofhionaa
