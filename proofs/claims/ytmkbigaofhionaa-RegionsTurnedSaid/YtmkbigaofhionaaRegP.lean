/- Plain facts on rising lists of spans: where a byte's place is, what a span meets, what is put in, gaps, and what is covered; no program. -/
namespace Go.Proofs.Ytmkbigaofhionaa
set_option linter.unusedVariables false
set_option linter.unusedSimpArgs false

abbrev Item (α : Type) := Int × Int × α

/-- Is it a span? -/
def spanB (lo hi : Int) : Bool := decide (0 ≤ lo ∧ lo < hi ∧ hi ≤ 4611686018427387904)

/-- Spans that rise, none meets another one. -/
def Rises {α : Type} : List (Item α) → Prop
  | [] => True
  | x :: r => (0 ≤ x.1 ∧ x.1 < x.2.1 ∧ x.2.1 ≤ 4611686018427387904) ∧ (∀ y ∈ r, x.2.1 ≤ y.1) ∧ Rises r

/-- How many end ahead of a place. -/
def fromS {α : Type} (p : Int) : List (Item α) → Nat
  | [] => 0
  | x :: r => if x.2.1 ≤ p then fromS p r + 1 else 0

/-- Does a span meet one of them? -/
def meets {α : Type} (lo hi : Int) (l : List (Item α)) : Bool := l.any fun x => decide (lo < x.2.1 ∧ x.1 < hi)

/-- One more put in. -/
def insS {α : Type} (n : Item α) : List (Item α) → List (Item α)
  | [] => [n]
  | x :: r => if x.2.1 ≤ n.1 then x :: insS n r else n :: x :: r

/-- What the one has in which a place lies. -/
def findS {α : Type} (p : Int) : List (Item α) → Option α
  | [] => none
  | x :: r => if x.1 ≤ p ∧ p < x.2.1 then some x.2.2 else findS p r

/-- What no span covers, from lo on up to hi. -/
def gapsS {α : Type} (hi : Int) : Int → List (Item α) → List (Int × Int)
  | lo, [] => if lo < hi then [(lo, hi)] else []
  | lo, x :: r => if hi ≤ x.1 then (if lo < hi then [(lo, hi)] else []) else if lo < x.1 then (lo, x.1) :: gapsS hi x.2.1 r else gapsS hi x.2.1 r

/-- How many bytes of lo up to hi one covers. -/
def part (lo hi : Int) (x : Int × Int) : Int := max 0 (min hi x.2 - max lo x.1)
def covS {α : Type} (lo hi : Int) : List (Item α) → Int
  | [] => 0
  | x :: r => part lo hi (x.1, x.2.1) + covS lo hi r
def lenS : List (Int × Int) → Int
  | [] => 0
  | x :: r => (x.2 - x.1) + lenS r

section
variable {α : Type}

theorem spanB_iff {lo hi : Int} : spanB lo hi = true ↔ 0 ≤ lo ∧ lo < hi ∧ hi ≤ 4611686018427387904 := by simp [spanB]
theorem spanB_no {lo hi : Int} (h : spanB lo hi = false) : ¬ (0 ≤ lo ∧ lo < hi ∧ hi ≤ 4611686018427387904) := by simpa [spanB] using h

theorem Rises.mem {l : List (Item α)} (h : Rises l) : ∀ x ∈ l, 0 ≤ x.1 ∧ x.1 < x.2.1 ∧ x.2.1 ≤ 4611686018427387904 := by
  induction l with
  | nil => intro x hx; cases hx
  | cons y r ih =>
    intro x hx
    rcases List.mem_cons.1 hx with rfl | hx
    · exact h.1
    · exact ih h.2.2 x hx

theorem Rises.at {l : List (Item α)} (h : Rises l) (i : Nat) (hi : i < l.length) : 0 ≤ l[i].1 ∧ l[i].1 < l[i].2.1 ∧ l[i].2.1 ≤ 4611686018427387904 := h.mem _ (List.getElem_mem hi)

theorem Rises.lt {l : List (Item α)} (h : Rises l) : ∀ (i j : Nat) (hj : j < l.length) (hij : i < j), (l[i]'(by omega)).2.1 ≤ l[j].1 := by
  induction l with
  | nil => intro i j hj; simp at hj
  | cons y r ih =>
    intro i j hj hij
    obtain ⟨j, rfl⟩ : ∃ k, j = k + 1 := ⟨j - 1, by omega⟩
    cases i with
    | zero => exact h.2.1 _ (List.getElem_mem _)
    | succ i => exact ih h.2.2 i j (by simpa using hj) (by omega)

theorem ends_mono {l : List (Item α)} {p : Int} (h : Rises l) {m : Nat} {hm : m < l.length} (i : Nat) (hi : i < l.length) (hmi : m ≤ i) (hp : p < l[m].2.1) : p < l[i].2.1 := by
  rcases Nat.lt_or_ge m i with h1 | h1
  · have := h.lt m i hi h1
    have := (h.at i hi).2.1
    omega
  · have : i = m := by omega
    subst this; exact hp
theorem begins_mono {l : List (Item α)} {p : Int} (h : Rises l) (i m : Nat) (hm : m < l.length) (hi : i ≤ m) (hp : l[m].2.1 ≤ p) : (l[i]'(by omega)).2.1 ≤ p := by
  rcases Nat.lt_or_ge i m with h1 | h1
  · have := h.lt i m hm h1
    have := (h.at m hm).2.1
    omega
  · have : i = m := by omega
    subst this; exact hp

theorem Rises.drop {l : List (Item α)} (h : Rises l) (k : Nat) : Rises (l.drop k) := by
  induction l generalizing k with
  | nil => simp [Rises]
  | cons y r ih => cases k with
    | zero => exact h
    | succ k => exact ih h.2.2 k

theorem fromS_le (p : Int) (l : List (Item α)) : fromS p l ≤ l.length := by
  induction l with
  | nil => simp [fromS]
  | cons x r ih => simp only [fromS]; split <;> simp <;> omega
theorem fromS_below (p : Int) : ∀ (l : List (Item α)) (i : Nat) (h : i < fromS p l), (l[i]'(Nat.lt_of_lt_of_le h (fromS_le p l))).2.1 ≤ p
  | [], i, h => by simp [fromS] at h
  | x :: r, i, h => by
    simp only [fromS] at h
    split at h
    · rename_i hx
      cases i with
      | zero => exact hx
      | succ i => exact fromS_below p r i (by omega)
    · omega
theorem fromS_above (p : Int) : ∀ (l : List (Item α)), Rises l → ∀ (i : Nat) (h : i < l.length), fromS p l ≤ i → p < l[i].2.1
  | [], _, i, h, _ => by simp at h
  | x :: r, hr, i, h, hf => by
    simp only [fromS] at hf
    split at hf
    · cases i with
      | zero => omega
      | succ i => exact fromS_above p r hr.2.2 i (by simpa using h) (by omega)
    · rename_i hx
      cases i with
      | zero => simp; omega
      | succ i =>
        have h1 := hr.2.1 _ (List.getElem_mem (by simpa using h : i < r.length))
        have h2 := (hr.2.2.at i (by simpa using h)).2.1
        simp only [List.getElem_cons_succ]
        omega
/-- The place is the only one. -/
theorem fromS_unique {p : Int} {l : List (Item α)} (hr : Rises l) {k : Nat} (hk : k ≤ l.length) (h1 : ∀ (i : Nat) (h : i < l.length), i < k → l[i].2.1 ≤ p) (h2 : ∀ (i : Nat) (h : i < l.length), k ≤ i → p < l[i].2.1) : fromS p l = k := by
  have hle := fromS_le p l
  rcases Nat.lt_trichotomy (fromS p l) k with h | h | h
  · have a := h1 (fromS p l) (by omega) h
    have b := fromS_above p l hr (fromS p l) (by omega) (Nat.le_refl _)
    omega
  · exact h
  · have a := h2 k (by omega) (Nat.le_refl _)
    have b := fromS_below p l k h
    omega

theorem meets_false {lo hi : Int} {l : List (Item α)} : meets lo hi l = false ↔ ∀ x ∈ l, x.2.1 ≤ lo ∨ hi ≤ x.1 := by
  unfold meets
  rw [List.any_eq_false]
  constructor
  · intro h x hx
    have := h x hx
    simp at this
    omega
  · intro h x hx
    have := h x hx
    simp
    omega
theorem meets_true {lo hi : Int} {l : List (Item α)} : meets lo hi l = true ↔ ∃ x ∈ l, lo < x.2.1 ∧ x.1 < hi := by
  unfold meets
  rw [List.any_eq_true]
  simp
/-- It is asked at one place alone. -/
theorem meets_at {lo hi : Int} {l : List (Item α)} (hr : Rises l) : meets lo hi l = (if h : fromS lo l < l.length then decide (l[fromS lo l].1 < hi) else false) := by
  split
  · rename_i h
    by_cases hx : l[fromS lo l].1 < hi
    · rw [decide_eq_true hx, meets_true]
      exact ⟨_, List.getElem_mem h, fromS_above lo l hr _ h (Nat.le_refl _), hx⟩
    · rw [decide_eq_false hx, meets_false]
      intro x hx'
      obtain ⟨i, hi, rfl⟩ := List.mem_iff_getElem.1 hx'
      rcases Nat.lt_trichotomy i (fromS lo l) with h1 | h1 | h1
      · exact .inl (fromS_below lo l i h1)
      · subst h1; right; omega
      · have := hr.lt _ i hi h1
        have := (hr.at _ h).2.1
        right; omega
  · rename_i h
    rw [meets_false]
    intro x hx
    obtain ⟨i, hi, rfl⟩ := List.mem_iff_getElem.1 hx
    exact .inl (fromS_below lo l i (by have := fromS_le lo l; omega))

theorem insS_eq (n : Item α) (l : List (Item α)) : insS n l = l.take (fromS n.1 l) ++ n :: l.drop (fromS n.1 l) := by
  induction l with
  | nil => rfl
  | cons x r ih =>
    simp only [insS, fromS]
    split
    · rw [ih]; simp
    · simp
theorem insS_length (n : Item α) (l : List (Item α)) : (insS n l).length = l.length + 1 := by
  induction l with
  | nil => rfl
  | cons x r ih => simp only [insS]; split <;> simp [ih]
theorem insS_mem {n x : Item α} {l : List (Item α)} : x ∈ insS n l ↔ x = n ∨ x ∈ l := by
  induction l with
  | nil => simp [insS]
  | cons y r ih =>
    simp only [insS]
    split
    · rw [List.mem_cons, ih, List.mem_cons]; constructor <;> (rintro (h | h | h) <;> simp [h])
    · simp
theorem insS_rises {n : Item α} {l : List (Item α)} (hr : Rises l) (hn : spanB n.1 n.2.1 = true) (hm : meets n.1 n.2.1 l = false) : Rises (insS n l) := by
  rw [spanB_iff] at hn
  rw [meets_false] at hm
  induction l with
  | nil => exact ⟨hn, by simp, trivial⟩
  | cons x r ih =>
    simp only [insS]
    split
    · rename_i hx
      refine ⟨hr.1, fun y hy => ?_, ih hr.2.2 (fun y hy => hm y (List.mem_cons_of_mem _ hy))⟩
      rcases insS_mem.1 hy with rfl | hy
      · exact hx
      · exact hr.2.1 y hy
    · rename_i hx
      refine ⟨hn, fun y hy => ?_, hr⟩
      rcases List.mem_cons.1 hy with rfl | hy
      · have := hm y List.mem_cons_self; omega
      · have := hm y (List.mem_cons_of_mem _ hy)
        have h1 := hr.2.1 y hy
        have h2 := hr.1.2.1
        have h3 := (hr.2.2.mem y hy).2.1
        omega
theorem meets_ins {lo hi : Int} {n : Item α} {l : List (Item α)} : meets lo hi (insS n l) = (decide (lo < n.2.1 ∧ n.1 < hi) || meets lo hi l) := by
  rw [Bool.eq_iff_iff, Bool.or_eq_true, meets_true, meets_true, decide_eq_true_iff]
  constructor
  · rintro ⟨x, hx, h⟩
    rcases insS_mem.1 hx with rfl | hx
    · exact .inl h
    · exact .inr ⟨x, hx, h⟩
  · rintro (h | ⟨x, hx, h⟩)
    · exact ⟨n, insS_mem.2 (.inl rfl), h⟩
    · exact ⟨x, insS_mem.2 (.inr hx), h⟩

/-- The reference puts it ahead of the first one that begins behind it. -/
theorem insS_step {n x : Item α} (hx : x.1 < x.2.1) (hn : n.1 < n.2.1) (hm : x.2.1 ≤ n.1 ∨ n.2.1 ≤ x.1) : (x.2.1 ≤ n.1) ↔ ¬ n.1 < x.1 := by omega

theorem insS_comm {a b : Item α} {l : List (Item α)} (ha : a.1 < a.2.1) (hb : b.1 < b.2.1) (hab : a.2.1 ≤ b.1 ∨ b.2.1 ≤ a.1) (hl : ∀ x ∈ l, x.1 < x.2.1 ∧ (x.2.1 ≤ a.1 ∨ a.2.1 ≤ x.1) ∧ (x.2.1 ≤ b.1 ∨ b.2.1 ≤ x.1)) :
    insS a (insS b l) = insS b (insS a l) := by
  induction l with
  | nil =>
    simp only [insS]
    split <;> split <;> first | rfl | omega
  | cons x r ih =>
    have hx := hl x List.mem_cons_self
    have ih := ih (fun y hy => hl y (List.mem_cons_of_mem _ hy))
    simp only [insS]
    by_cases h1 : x.2.1 ≤ b.1 <;> by_cases h2 : x.2.1 ≤ a.1
    · simp only [if_pos h1, if_pos h2, insS]; rw [ih]
    · simp only [if_pos h1, if_neg h2, insS]
      rw [if_pos (by omega)]
    · simp only [if_neg h1, if_pos h2, insS]
      rw [if_pos (by omega)]
    · simp only [if_neg h1, if_neg h2, insS]
      rcases hab with h | h
      · rw [if_neg (show ¬ b.2.1 ≤ a.1 by omega), if_pos h]
      · rw [if_pos h, if_neg (show ¬ a.2.1 ≤ b.1 by omega)]

theorem find_none {p q : Int} {r : List (Item α)} (hy : ∀ y ∈ r, q ≤ y.1) (hp : p < q) : findS p r = none := by
  induction r with
  | nil => rfl
  | cons y t ih =>
    simp only [findS]
    have h3 := hy y List.mem_cons_self
    rw [if_neg (by omega)]
    exact ih (fun z hz => hy z (List.mem_cons_of_mem _ hz))
theorem find_at {p : Int} {l : List (Item α)} (hr : Rises l) : findS p l = (if h : fromS p l < l.length then (if l[fromS p l].1 ≤ p then some l[fromS p l].2.2 else none) else none) := by
  induction l with
  | nil => simp [findS, fromS]
  | cons x r ih =>
    have ih := ih hr.2.2
    simp only [findS, fromS]
    by_cases h1 : x.2.1 ≤ p
    · rw [if_neg (by omega), ih]
      simp only [if_pos h1, List.length_cons, Nat.add_lt_add_iff_right, List.getElem_cons_succ]
    · by_cases h2 : x.1 ≤ p
      · simp only [if_neg h1]
        rw [if_pos ⟨h2, by omega⟩]
        simp [h2]
      · simp only [if_neg h1]
        rw [if_neg (by omega)]
        have : findS p r = none := find_none hr.2.1 (by have := hr.1.2.1; omega)
        rw [this]
        simp [h2]

theorem part_out {lo hi : Int} {x : Int × Int} (h : x.2 ≤ lo ∨ hi ≤ x.1 ∨ hi ≤ lo) (hx : x.1 < x.2) : part lo hi x = 0 := by unfold part; omega
theorem part_in {lo hi : Int} {x : Int × Int} (h : lo ≤ x.1) (h2 : x.2 ≤ hi) (hx : x.1 < x.2) : part lo hi x = x.2 - x.1 := by unfold part; omega
theorem part_nonneg (lo hi : Int) (x : Int × Int) : 0 ≤ part lo hi x := by unfold part; omega
theorem cov_out {lo hi : Int} : ∀ {l : List (Item α)}, Rises l → (∀ x ∈ l, hi ≤ x.1 ∨ x.2.1 ≤ lo ∨ hi ≤ lo) → covS lo hi l = 0
  | [], _, _ => rfl
  | x :: r, hr, h => by
    have h1 := h x List.mem_cons_self
    have h2 := hr.1.2.1
    simp only [covS, cov_out hr.2.2 (fun y hy => h y (List.mem_cons_of_mem _ hy))]
    rw [part_out (by simp; omega) h2]
    rfl
theorem cov_from {lo hi p : Int} {r : List (Item α)} (hy : ∀ y ∈ r, p ≤ y.1) (hp : lo ≤ p) : covS lo hi r = covS p hi r := by
  induction r with
  | nil => rfl
  | cons y t ih =>
    have h4 := hy y List.mem_cons_self
    simp only [covS]
    rw [ih (fun z hz => hy z (List.mem_cons_of_mem _ hz))]
    congr 1
    unfold part
    simp only
    omega
/-- Gaps and what is covered are all bytes. -/
theorem gaps_len {hi : Int} : ∀ {l : List (Item α)} {lo : Int}, Rises l → (∀ x ∈ l, lo < x.2.1) → lenS (gapsS hi lo l) + covS lo hi l = max 0 (hi - lo)
  | [], lo, _, _ => by
    simp only [gapsS, covS]
    split <;> simp [lenS] <;> omega
  | x :: r, lo, hr, h => by
    have h1 := h x List.mem_cons_self
    have h2 := hr.1.2.1
    simp only [gapsS]
    split
    · rename_i hx
      rw [cov_out hr (fun y hy => by
        rcases List.mem_cons.1 hy with rfl | hy
        · exact .inl hx
        · have := hr.2.1 y hy; left; omega)]
      split <;> simp [lenS] <;> omega
    · rename_i hx
      have hc : covS lo hi r = covS x.2.1 hi r := cov_from hr.2.1 (by omega)
      have ih := gaps_len (hi := hi) (l := r) (lo := x.2.1) hr.2.2 (fun y hy => by have := hr.2.1 y hy; have := (hr.2.2.mem y hy).2.1; omega)
      simp only [covS, hc]
      split
      · simp only [lenS]
        unfold part
        simp only
        omega
      · unfold part
        simp only
        omega
theorem gaps_in {hi : Int} : ∀ {l : List (Item α)} {lo : Int}, Rises l → (∀ x ∈ l, lo < x.2.1) → ∀ g ∈ gapsS hi lo l, lo ≤ g.1 ∧ g.1 < g.2 ∧ g.2 ≤ hi
  | [], lo, _, _, g, hg => by
    simp only [gapsS] at hg
    split at hg
    · simp at hg; subst hg; simp; omega
    · cases hg
  | x :: r, lo, hr, hl, g, hg => by
    have h1 := hl x List.mem_cons_self
    have h2 := hr.1.2.1
    simp only [gapsS] at hg
    split at hg
    · split at hg
      · simp at hg; subst hg; simp; omega
      · cases hg
    · have ih := gaps_in (hi := hi) (l := r) (lo := x.2.1) hr.2.2 (fun y hy => by have := hr.2.1 y hy; have := (hr.2.2.mem y hy).2.1; omega)
      split at hg
      · rcases List.mem_cons.1 hg with rfl | hg
        · simp; omega
        · have := ih g hg; omega
      · have := ih g hg; omega
/-- Gaps rise. -/
theorem gaps_rise {hi : Int} : ∀ {l : List (Item α)} {lo : Int}, Rises l → (∀ x ∈ l, lo < x.2.1) → (gapsS hi lo l).Pairwise (fun a b => a.2 ≤ b.1)
  | [], lo, _, _ => by simp only [gapsS]; split <;> simp
  | x :: r, lo, hr, hl => by
    have hl2 : ∀ y ∈ r, x.2.1 < y.2.1 := fun y hy => by have := hr.2.1 y hy; have := (hr.2.2.mem y hy).2.1; omega
    have h2 := hr.1.2.1
    simp only [gapsS]
    split
    · split <;> simp
    · split
      · refine List.pairwise_cons.2 ⟨fun g hg => ?_, gaps_rise hr.2.2 hl2⟩
        have := gaps_in hr.2.2 hl2 g hg
        simp; omega
      · exact gaps_rise hr.2.2 hl2
/-- A gap meets none. -/
theorem gaps_free {hi : Int} : ∀ {l : List (Item α)} {lo : Int}, Rises l → (∀ x ∈ l, lo < x.2.1) → ∀ g ∈ gapsS hi lo l, ∀ x ∈ l, x.2.1 ≤ g.1 ∨ g.2 ≤ x.1
  | [], lo, _, _, g, hg, x, hx => by cases hx
  | y :: r, lo, hr, hl, g, hg, x, hx => by
    have hl2 : ∀ z ∈ r, y.2.1 < z.2.1 := fun z hz => by have := hr.2.1 z hz; have := (hr.2.2.mem z hz).2.1; omega
    have h2 := hr.1.2.1
    have hall : ∀ z ∈ y :: r, y.1 ≤ z.1 := fun z hz => by
      rcases List.mem_cons.1 hz with rfl | hz
      · omega
      · have := hr.2.1 z hz; omega
    have hxx := hall x hx
    simp only [gapsS] at hg
    split at hg
    · split at hg
      · simp at hg; subst hg; simp; omega
      · cases hg
    · have ihin := gaps_in (hi := hi) hr.2.2 hl2
      have ih := gaps_free (hi := hi) hr.2.2 hl2
      have step : g ∈ gapsS hi y.2.1 r → x.2.1 ≤ g.1 ∨ g.2 ≤ x.1 := fun hg => by
        rcases List.mem_cons.1 hx with rfl | hx
        · have := ihin g hg; omega
        · exact ih g hg x hx
      split at hg
      · rcases List.mem_cons.1 hg with rfl | hg
        · simp; omega
        · exact step hg
      · exact step hg

theorem cov_ins {lo hi : Int} (n : Item α) (l : List (Item α)) : covS lo hi (insS n l) = part lo hi (n.1, n.2.1) + covS lo hi l := by
  induction l with
  | nil => rfl
  | cons x r ih => simp only [insS]; split <;> simp only [covS] <;> omega
theorem len_nil {g : List (Int × Int)} (h : ∀ x ∈ g, x.1 < x.2) (h0 : lenS g ≤ 0) : g = [] := by
  have nonneg : ∀ l : List (Int × Int), (∀ x ∈ l, x.1 < x.2) → 0 ≤ lenS l := by
    intro l hl
    induction l with
    | nil => simp [lenS]
    | cons x r ih =>
      have := hl x List.mem_cons_self
      have := ih (fun y hy => hl y (List.mem_cons_of_mem _ hy))
      simp only [lenS]; omega
  cases g with
  | nil => rfl
  | cons x r =>
    have := h x List.mem_cons_self
    have := nonneg r (fun y hy => h y (List.mem_cons_of_mem _ hy))
    simp only [lenS] at h0; omega
theorem cov_nonneg (lo hi : Int) (l : List (Item α)) : 0 ≤ covS lo hi l := by
  induction l with
  | nil => simp [covS]
  | cons x r ih => simp only [covS]; have := part_nonneg lo hi (x.1, x.2.1); omega
/-- What ends ahead of lo covers nothing. -/
theorem cov_drop {lo hi : Int} {l : List (Item α)} (hr : Rises l) : covS lo hi (l.drop (fromS lo l)) = covS lo hi l := by
  induction l with
  | nil => rfl
  | cons x r ih =>
    simp only [fromS]
    split
    · rename_i h
      simp only [List.drop_succ_cons, covS, ih hr.2.2]
      rw [part_out (.inl h) hr.1.2.1]; omega
    · rfl
theorem drop_ends {p : Int} {l : List (Item α)} (hr : Rises l) : ∀ x ∈ l.drop (fromS p l), p < x.2.1 := by
  intro x hx
  obtain ⟨i, hi, rfl⟩ := List.mem_iff_getElem.1 hx
  rw [List.getElem_drop]
  exact fromS_above p l hr _ _ (by omega)
/-- Each byte that is covered is found. -/
theorem cov_step {m : Int} (hm : 0 ≤ m) {l : List (Item α)} (hr : Rises l) : covS 0 (m + 1) l = covS 0 m l + (if (findS m l).isSome then 1 else 0) := by
  induction l with
  | nil => simp [covS, findS]
  | cons x r ih =>
    have ih := ih hr.2.2
    have hx := hr.1
    by_cases h : x.1 ≤ m ∧ m < x.2.1
    · have h0 : covS 0 (m + 1) r = 0 := cov_out hr.2.2 (fun y hy => by have := hr.2.1 y hy; left; omega)
      have h1 : covS 0 m r = 0 := cov_out hr.2.2 (fun y hy => by have := hr.2.1 y hy; left; omega)
      have hf : findS m (x :: r) = some x.2.2 := by rw [findS, if_pos h]
      simp only [covS, hf, h0, h1]
      unfold part
      simp
      omega
    · have hf : findS m (x :: r) = findS m r := by rw [findS, if_neg h]
      simp only [covS, hf, ih]
      unfold part
      simp only
      omega
theorem findS_some {p : Int} {l : List (Item α)} {x : α} (h : findS p l = some x) : ∃ y ∈ l, y.2.2 = x ∧ y.1 ≤ p ∧ p < y.2.1 := by
  induction l with
  | nil => cases h
  | cons y r ih =>
    simp only [findS] at h
    split at h
    · rename_i hy
      exact ⟨y, List.mem_cons_self, Option.some.inj h, hy.1, hy.2⟩
    · obtain ⟨z, hz, h⟩ := ih h
      exact ⟨z, List.mem_cons_of_mem _ hz, h⟩
end
end Go.Proofs.Ytmkbigaofhionaa
