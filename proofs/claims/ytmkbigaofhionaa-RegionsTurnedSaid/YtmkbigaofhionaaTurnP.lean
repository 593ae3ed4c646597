/- Spans put in in either order are the same list; no program. -/
import Derived.Test.YtmkbigaofhionaaRegE
namespace Go.Proofs.Ytmkbigaofhionaa
set_option linter.unusedVariables false
set_option linter.unusedSimpArgs false

/-- All are put in, the first one first. -/
def putAll {α : Type} : List (Item α) → List (Item α) → List (Item α)
  | [], L => L
  | x :: r, L => putAll r (addL x.1 x.2.1 x.2.2 L)
/-- Does each go in? -/
def allIn {α : Type} : List (Item α) → List (Item α) → Bool
  | [], _ => true
  | x :: r, L => decide (addE x.1 x.2.1 L = 0) && allIn r (addL x.1 x.2.1 x.2.2 L)

section
variable {α : Type}
theorem addE_ok {lo hi : Int} {L : List (Item α)} : addE lo hi L = 0 ↔ spanB lo hi = true ∧ meets lo hi L = false := by
  unfold addE
  cases spanB lo hi <;> cases meets lo hi L <;> simp
theorem putAll_snoc (xs : List (Item α)) (x : Item α) (L : List (Item α)) : putAll (xs ++ [x]) L = addL x.1 x.2.1 x.2.2 (putAll xs L) := by
  induction xs generalizing L with
  | nil => rfl
  | cons y r ih => simp only [List.cons_append, putAll, ih]
theorem allIn_snoc (xs : List (Item α)) (x : Item α) (L : List (Item α)) : allIn (xs ++ [x]) L = (allIn xs L && decide (addE x.1 x.2.1 (putAll xs L) = 0)) := by
  induction xs generalizing L with
  | nil => show (decide (addE x.1 x.2.1 L = 0) && true) = (true && decide (addE x.1 x.2.1 L = 0)); rw [Bool.and_true, Bool.true_and]
  | cons y r ih =>
    show (decide (addE y.1 y.2.1 L = 0) && allIn (r ++ [x]) (addL y.1 y.2.1 y.2.2 L)) = ((decide (addE y.1 y.2.1 L = 0) && allIn r (addL y.1 y.2.1 y.2.2 L)) && _)
    rw [ih, Bool.and_assoc]; rfl
theorem putAll_rises {xs L : List (Item α)} (hr : Rises L) : Rises (putAll xs L) := by
  induction xs generalizing L with
  | nil => exact hr
  | cons y r ih => exact ih (addL_rises hr)
theorem putAll_length (xs L : List (Item α)) : (putAll xs L).length ≤ L.length + xs.length := by
  induction xs generalizing L with
  | nil => simp [putAll]
  | cons y r ih => simp only [putAll, List.length_cons]; have := ih (addL y.1 y.2.1 y.2.2 L); have := addL_length y.1 y.2.1 y.2.2 L; omega
/-- What all are that go in: spans, apart from each other and from those that are in. -/
theorem allIn_apart {xs L : List (Item α)} (h : allIn xs L = true) : (∀ x ∈ xs, spanB x.1 x.2.1 = true ∧ ∀ y ∈ L, y.2.1 ≤ x.1 ∨ x.2.1 ≤ y.1) ∧ xs.Pairwise (fun a b => a.2.1 ≤ b.1 ∨ b.2.1 ≤ a.1) := by
  induction xs generalizing L with
  | nil => exact ⟨fun x hx => (by cases hx), List.Pairwise.nil⟩
  | cons x r ih =>
    simp only [allIn, Bool.and_eq_true, decide_eq_true_eq] at h
    obtain ⟨h1, h2⟩ := h
    obtain ⟨h3, h4⟩ := addE_ok.1 h1
    have e : addL x.1 x.2.1 x.2.2 L = insS x L := by unfold addL; rw [if_pos ⟨h3, h4⟩]
    rw [e] at h2
    obtain ⟨h5, h6⟩ := ih h2
    rw [meets_false] at h4
    refine ⟨fun y hy => ?_, List.pairwise_cons.2 ⟨fun y hy => ?_, h6⟩⟩
    · rcases List.mem_cons.1 hy with rfl | hy
      · exact ⟨h3, h4⟩
      · exact ⟨(h5 y hy).1, fun z hz => (h5 y hy).2 z (insS_mem.2 (.inr hz))⟩
    · exact (h5 y hy).2 x (insS_mem.2 (.inl rfl))
theorem putAll_ins {xs L : List (Item α)} (h : (∀ x ∈ xs, spanB x.1 x.2.1 = true ∧ ∀ y ∈ L, y.2.1 ≤ x.1 ∨ x.2.1 ≤ y.1) ∧ xs.Pairwise (fun a b => a.2.1 ≤ b.1 ∨ b.2.1 ≤ a.1)) : allIn xs L = true ∧ putAll xs L = xs.foldl (fun L x => insS x L) L := by
  induction xs generalizing L with
  | nil => exact ⟨rfl, rfl⟩
  | cons x r ih =>
    obtain ⟨h1, h2⟩ := h
    have hx := h1 x List.mem_cons_self
    have hp := List.pairwise_cons.1 h2
    have e : addL x.1 x.2.1 x.2.2 L = insS x L := by unfold addL; rw [if_pos ⟨hx.1, meets_false.2 hx.2⟩]
    have ih := ih (L := insS x L) ⟨fun y hy => ⟨(h1 y (List.mem_cons_of_mem _ hy)).1, fun z hz => by
      rcases insS_mem.1 hz with rfl | hz
      · have := hp.1 y hy; omega
      · exact (h1 y (List.mem_cons_of_mem _ hy)).2 z hz⟩, hp.2⟩
    refine ⟨?_, ?_⟩
    · simp only [allIn, e, ih.1, Bool.and_true, decide_eq_true_eq]
      exact addE_ok.2 ⟨hx.1, meets_false.2 hx.2⟩
    · simp only [putAll, e, ih.2, List.foldl_cons]
theorem fold_ins_comm {xs L : List (Item α)} {x : Item α} (hx : x.1 < x.2.1) (h : ∀ y ∈ xs, y.1 < y.2.1 ∧ (y.2.1 ≤ x.1 ∨ x.2.1 ≤ y.1)) (hp : xs.Pairwise (fun a b => a.2.1 ≤ b.1 ∨ b.2.1 ≤ a.1))
    (hL : ∀ z ∈ L, z.1 < z.2.1 ∧ (z.2.1 ≤ x.1 ∨ x.2.1 ≤ z.1) ∧ ∀ y ∈ xs, z.2.1 ≤ y.1 ∨ y.2.1 ≤ z.1) : xs.foldl (fun L x => insS x L) (insS x L) = insS x (xs.foldl (fun L x => insS x L) L) := by
  induction xs generalizing L with
  | nil => rfl
  | cons y r ih =>
    have hy := h y List.mem_cons_self
    have hpp := List.pairwise_cons.1 hp
    simp only [List.foldl_cons]
    rw [insS_comm hy.1 hx hy.2 (fun z hz => ⟨(hL z hz).1, (hL z hz).2.2 y List.mem_cons_self, (hL z hz).2.1⟩)]
    refine ih (fun z hz => h z (List.mem_cons_of_mem _ hz)) hpp.2 (fun z hz => ?_)
    rcases insS_mem.1 hz with rfl | hz
    · exact ⟨hy.1, hy.2, fun q hq => hpp.1 q hq⟩
    · exact ⟨(hL z hz).1, (hL z hz).2.1, fun q hq => (hL z hz).2.2 q (List.mem_cons_of_mem _ hq)⟩
/-- Turned round they are the same. -/
theorem fold_reverse {xs : List (Item α)} (h1 : ∀ x ∈ xs, x.1 < x.2.1) (hp : xs.Pairwise (fun a b => a.2.1 ≤ b.1 ∨ b.2.1 ≤ a.1)) : xs.reverse.foldl (fun L x => insS x L) [] = xs.foldl (fun L x => insS x L) [] := by
  induction xs with
  | nil => rfl
  | cons x r ih =>
    have hpp := List.pairwise_cons.1 hp
    rw [List.reverse_cons, List.foldl_append, ih (fun y hy => h1 y (List.mem_cons_of_mem _ hy)) hpp.2]
    simp only [List.foldl_cons, List.foldl_nil]
    rw [fold_ins_comm (h1 x List.mem_cons_self) (fun y hy => ⟨h1 y (List.mem_cons_of_mem _ hy), by have := hpp.1 y hy; omega⟩) hpp.2 (fun z hz => by cases hz)]
theorem turned_all {xs : List (Item α)} (h : allIn xs [] = true) : allIn xs.reverse [] = true ∧ putAll xs.reverse [] = putAll xs [] ∧ (putAll xs []).length = xs.length := by
  have h1 := allIn_apart h
  have h2 := putAll_ins h1
  have hs : ∀ x ∈ xs, x.1 < x.2.1 := fun x hx => (spanB_iff.1 (h1.1 x hx).1).2.1
  have h3 : (∀ x ∈ xs.reverse, spanB x.1 x.2.1 = true ∧ ∀ y ∈ ([] : List (Item α)), y.2.1 ≤ x.1 ∨ x.2.1 ≤ y.1) ∧ xs.reverse.Pairwise (fun a b => a.2.1 ≤ b.1 ∨ b.2.1 ≤ a.1) :=
    ⟨fun x hx => ⟨(h1.1 x (List.mem_reverse.1 hx)).1, fun y hy => by cases hy⟩, List.pairwise_reverse.2 (h1.2.imp (fun h => by omega))⟩
  have h4 := putAll_ins h3
  refine ⟨h4.1, by rw [h4.2, h2.2, fold_reverse hs h1.2], ?_⟩
  rw [h2.2]
  have len : ∀ (l L : List (Item α)), (l.foldl (fun L x => insS x L) L).length = L.length + l.length := by
    intro l
    induction l with
    | nil => intro L; simp
    | cons x r ih => intro L; simp only [List.foldl_cons, ih, insS_length, List.length_cons]; omega
  rw [len]; simp
end
end Go.Proofs.Ytmkbigaofhionaa
