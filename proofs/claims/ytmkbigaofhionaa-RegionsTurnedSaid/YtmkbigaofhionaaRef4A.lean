/- mortiseref04's Add. -/
import Derived.Test.YtmkbigaofhionaaRef4
import Derived.Test.YtmkbigaofhionaaRegE
namespace Go.Proofs.Ytmkbigaofhionaa
open Go.RowKit
set_option linter.unusedVariables false
set_option linter.unusedSimpArgs false

theorem info_int : (Try.prog.info? 3).map (fun i => (i.zero, i.size, i.bytes)) = some (some (.int .i64 0), 1, 8) := by kernel_rfl

/-- Blocks of the reference's set. -/
def RefF (R : Nat) (lv xv : Value) (k : Nat) : Prop := k = R ∨ lv.ownBlock = some k ∨ xv.ownBlock = some k

def RefAdd (R : Nat) (lv xv : Value) (l : List (Item Int)) (lo hi x : Int) (w : World) (e : Ending) (w' : World) : Prop :=
  e = .returned (.int .i64 (addE lo hi l)) ∧ ∃ lv' xv', RefSet w' R lv' xv' (addL lo hi x l) ∧ Fr (fun k => k = R) w w' ∧
    (∀ k, lv'.ownBlock = some k → lv.ownBlock = some k ∨ w.heap.size ≤ k) ∧ (∀ k, xv'.ownBlock = some k → xv.ownBlock = some k ∨ w.heap.size ≤ k)

/-- What the loop has gathered: k old ones are behind it, the new one among them if it is put. -/
def Gathered (n : Item Int) (l : List (Item Int)) (k : Nat) (put : Bool) (os : List (Item Int)) : Prop :=
  (put = false ∧ os = l.take k ∧ (∀ x ∈ l.take k, x.1 ≤ n.1)) ∨ (put = true ∧ insS n l = os ++ l.drop k)

theorem gath_end {n : Item Int} {l : List (Item Int)} {os : List (Item Int)} (hr : Rises l) (hn : n.1 < n.2.1) (hm : ∀ x ∈ l, x.2.1 ≤ n.1 ∨ n.2.1 ≤ x.1) : (Gathered n l l.length true os → os = insS n l) ∧ (Gathered n l l.length false os → os ++ [n] = insS n l) := by
  constructor
  · rintro (⟨h, _⟩ | ⟨_, h⟩)
    · cases h
    · rw [List.drop_length, List.append_nil] at h; exact h.symm
  · rintro (⟨_, h, h2⟩ | ⟨h, _⟩)
    · rw [List.take_length] at h h2
      subst h
      clear hr
      induction os with
      | nil => rfl
      | cons y r ih =>
        have h1 := hm y List.mem_cons_self
        have h3 := h2 y List.mem_cons_self
        simp only [insS]
        rw [if_pos (by omega), ← ih (fun x hx => hm x (List.mem_cons_of_mem _ hx)) (fun x hx => h2 x (List.mem_cons_of_mem _ hx))]
        rfl
    · cases h

theorem gath_skip {n : Item Int} {l os : List (Item Int)} {k : Nat} (hk : k < l.length) (h : Gathered n l k false os) (hx : ¬ n.1 < l[k].1) : Gathered n l (k + 1) false (os ++ [l[k]]) := by
  rcases h with ⟨_, h, h2⟩ | ⟨h, _⟩
  · refine .inl ⟨rfl, ?_, ?_⟩
    · rw [h, List.take_append_getElem hk]
    · intro x hx'
      rw [← List.take_append_getElem hk, List.mem_append] at hx'
      rcases hx' with hx' | hx'
      · exact h2 x hx'
      · simp at hx'; subst hx'; omega
  · cases h
theorem gath_more {n : Item Int} {l os : List (Item Int)} {k : Nat} (hk : k < l.length) (h : Gathered n l k true os) : Gathered n l (k + 1) true (os ++ [l[k]]) := by
  rcases h with ⟨h, _⟩ | ⟨_, h⟩
  · cases h
  · exact .inr ⟨rfl, by rw [h, List.append_assoc, List.singleton_append, ← List.drop_eq_getElem_cons hk]⟩
theorem gath_put {n : Item Int} {l os : List (Item Int)} {k : Nat} (hk : k < l.length) (hr : Rises l) (hn : n.1 < n.2.1) (hm : ∀ x ∈ l, x.2.1 ≤ n.1 ∨ n.2.1 ≤ x.1) (h : Gathered n l k false os) (hx : n.1 < l[k].1) :
    Gathered n l (k + 1) true (os ++ [n] ++ [l[k]]) := by
  rcases h with ⟨_, h, h2⟩ | ⟨h, _⟩
  · refine .inr ⟨rfl, ?_⟩
    have e1 : fromS n.1 l = k := by
      refine fromS_unique hr (by omega) (fun i hi hik => ?_) (fun i hi hki => ?_)
      · have h3 := h2 l[i] (List.mem_take_iff_getElem.2 ⟨i, by omega, rfl⟩)
        have h4 := hm _ (List.getElem_mem hi)
        have h5 := (hr.at i hi).2.1
        omega
      · have h4 := (hr.at i hi).2.1
        rcases Nat.lt_or_ge k i with h6 | h6
        · have := hr.lt k i hi h6
          have := (hr.at k hk).2.1
          omega
        · have : i = k := by omega
          subst this; omega
    rw [insS_eq, e1, h, List.append_assoc, List.append_assoc, List.singleton_append, List.singleton_append, ← List.drop_eq_getElem_cons hk]
  · cases h
theorem gath_len {n : Item Int} {l os : List (Item Int)} {k : Nat} {p : Bool} (hk : k ≤ l.length) (h : Gathered n l k p os) : os.length = k + (if p then 1 else 0) := by
  rcases h with ⟨rfl, h, _⟩ | ⟨rfl, h⟩
  · rw [h, List.length_take]; simp; omega
  · have := congrArg List.length h
    rw [insS_length, List.length_append, List.length_drop] at this
    simp; omega

theorem own_weaken {w : World} {b b' s n : Nat} {e : TypeId} {v : Value} {xs : List Value} (h : w.ownsRow b e s v n xs) (hb : b' ≤ b) : w.ownsRow b' e s v n xs := by
  refine ⟨h.1, ?_⟩
  rcases h.2 with h2 | ⟨g, cap, cur, h3, h4, h5⟩
  · exact .inl h2
  · exact .inr ⟨g, cap, cur, h3, Nat.le_trans hb h4, h5⟩
theorem refAdd_end {w W : World} {R : Nat} {p q a b : Value} {os : List (Item Int)} (hobj : Blk w R (.cells #[p, q] 28 (0, 0))) (hB : Below w.heap.size w W)
    (hS : W.ownsRow w.heap.size 32 2 a os.length (os.flatMap spanOf)) (hN : W.ownsRow w.heap.size 3 1 b os.length (os.flatMap numOf)) :
    RefSet ((W.setCell ⟨R, 0, none⟩ a).setCell ⟨R, 1, none⟩ b) R a b os ∧ Fr (fun k => k = R) w ((W.setCell ⟨R, 0, none⟩ a).setCell ⟨R, 1, none⟩ b) ∧ (∀ k, a.ownBlock = some k → w.heap.size ≤ k) ∧ (∀ k, b.ownBlock = some k → w.heap.size ≤ k) := by
  have hRl := hobj.lt
  have hb := hobj.below hB hRl
  refine ⟨⟨(hb.setCell_same 0 a).setCell_same 1 b, ?_, ?_⟩, ?_, fun k hk => (hS.lt k hk).1, fun k hk => (hN.lt k hk).1⟩
  · exact own_weaken (ownsRow_setCell_below (ownsRow_setCell_below hS (a := ⟨R, 0, none⟩) hRl a) (a := ⟨R, 1, none⟩) hRl b) hRl
  · exact own_weaken (ownsRow_setCell_below (ownsRow_setCell_below hN (a := ⟨R, 0, none⟩) hRl a) (a := ⟨R, 1, none⟩) hRl b) hRl
  · exact ((Fr.of_below hB).setCell (F := fun k => k = R) (p := ⟨R, 0, none⟩) (.inl rfl) a).setCell (p := ⟨R, 1, none⟩) (.inl rfl) b
end Go.Proofs.Ytmkbigaofhionaa
