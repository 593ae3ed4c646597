/- The plain law of SrcFull: where no step fails, all is told that is there; rows of the call's own as plain data. -/
import Derived.Test.YtekinbeiljmddaaFull
namespace Go.Proofs.Ytekinbeiljmddaa
open Go.RowKit Go.Conc Go.Lib
set_option linter.unusedVariables false
set_option linter.unusedSimpArgs false

theorem rd_short {len p m : Nat} {x : TStep.Val} (hx : (x.1 : Int) = 1) (hx2 : (0 : Int) ≤ x.2.1) :
    (rdErr len x p m = 0 ∧ rdLen len x p m < rdMost len p m) ∨ (rdErr len x p m = (if rdMost len p m < m then 2 else 0) ∧ rdLen len x p m = rdMost len p m) := by
  obtain ⟨kd, nn, u⟩ := x
  change Int at kd
  change Int at nn
  change kd = 1 at hx
  change 0 ≤ nn at hx2
  have h0 : ¬ ((kd, nn, u) : TStep.Val).1 = (2 : Int) := by show ¬ kd = 2; omega
  unfold rdErr rdLen
  rw [if_neg h0, if_neg h0]
  by_cases h : rdShort (kd, nn, u) (rdMost len p m) = true
  · rw [if_pos h, if_pos h]
    unfold rdShort at h
    simp only [Bool.and_eq_true, decide_eq_true_eq] at h
    have h4 : nn < (rdMost len p m : Int) := h.2
    exact .inl ⟨rfl, by show nn.toNat < _; omega⟩
  · rw [if_neg h, if_neg h]
    exact .inr ⟨rfl, rfl⟩
theorem rd_nil {len p m : Nat} : rdErr len (0, 0, ()) p m = (if rdMost len p m < m then 2 else 0) ∧ rdLen len (0, 0, ()) p m = rdMost len p m := by
  have h0 : ¬ ((0, 0, ()) : TStep.Val).1 = (2 : Int) := by decide
  have hs : rdShort (0, 0, ()) (rdMost len p m) = false := rfl
  unfold rdErr rdLen
  rw [if_neg h0, if_neg h0, hs]
  exact ⟨rfl, rfl⟩

theorem full_in {len at_ n : Nat} : ∀ (st : List TStep.Val) (g : Nat) (rd : List (Int × Int)), (∀ x ∈ st, (x.1 : Int) = 1 ∧ (0 : Int) ≤ x.2.1) → g ≤ n → at_ + n ≤ len → (fullS len at_ n st g rd).1 = 0
  | [], g, rd, _, hg, ha => by
    have hm : ¬ rdMost len (at_ + g) (n - g) < n - g := by unfold rdMost; omega
    unfold fullS
    show rdErr len (0, 0, ()) (at_ + g) (n - g) = 0
    rw [rd_nil.1, if_neg hm]
  | x :: r, g, rd, hx, hg, ha => by
    have hm : ¬ rdMost len (at_ + g) (n - g) < n - g := by unfold rdMost; omega
    have hE : rdErr len x (at_ + g) (n - g) = 0 := by
      rcases rd_short (len := len) (p := at_ + g) (m := n - g) (hx x (by simp)).1 (hx x (by simp)).2 with h | h
      · exact h.1
      · rw [h.1, if_neg hm]
    have hL := rdLen_le (len := len) (x := x) (at_ := at_ + g) (n := n - g)
    unfold fullS
    rw [if_neg (fun h => h hE)]
    split
    · rfl
    · exact full_in r _ _ (fun y hy => hx y (by simp [hy])) (by omega) ha
theorem full_out {len at_ n : Nat} : ∀ (st : List TStep.Val) (g : Nat) (rd : List (Int × Int)), (∀ x ∈ st, (x.1 : Int) = 1 ∧ (0 : Int) ≤ x.2.1) → g ≤ n → (0 < g → at_ + g ≤ len) → len < at_ + n →
    (fullS len at_ n st g rd).1 = 2 ∨ n = 0 ∧ (fullS len at_ n st g rd).1 = 0
  | [], g, rd, _, hg, hgl, ha => by
    unfold fullS
    show rdErr len (0, 0, ()) (at_ + g) (n - g) = 2 ∨ n = 0 ∧ rdErr len (0, 0, ()) (at_ + g) (n - g) = 0
    rw [rd_nil.1]
    split
    · exact .inl rfl
    · rename_i h
      unfold rdMost at h
      exact .inr ⟨by omega, rfl⟩
  | x :: r, g, rd, hx, hg, hgl, ha => by
    have hL := rdLen_le (len := len) (x := x) (at_ := at_ + g) (n := n - g)
    have hm : rdMost len (at_ + g) (n - g) = min (n - g) (len - (at_ + g)) := rfl
    unfold fullS
    rcases rd_short (len := len) (p := at_ + g) (m := n - g) (hx x (by simp)).1 (hx x (by simp)).2 with h | h
    · rw [if_neg (fun h3 => h3 h.1), if_neg (by omega)]
      exact full_out r _ _ (fun y hy => hx y (by simp [hy])) (by omega) (by omega) ha
    · by_cases h2 : rdMost len (at_ + g) (n - g) < n - g
      · rw [if_pos h2] at h
        rw [if_pos (by rw [h.1]; decide)]
        exact .inl h.1
      · rw [if_neg h2] at h
        rw [if_neg (fun h3 => h3 h.1), if_pos (by omega)]
        exact .inr ⟨by omega, rfl⟩

theorem flat_get {α : Type} {f : α → List Value} {k : Nat} (hf : ∀ x, (f x).length = k) : ∀ (xs : List α) (i : Nat) (hi : i < xs.length) (j : Nat), j < k → (xs.flatMap f)[i * k + j]? = (f xs[i])[j]?
  | x :: r, 0, _, j, hj => by
    rw [List.flatMap_cons, Nat.zero_mul, Nat.zero_add, List.getElem?_append_left (by rw [hf]; exact hj)]; rfl
  | x :: r, i + 1, hi, j, hj => by
    rw [List.flatMap_cons, List.getElem?_append_right (by rw [hf, Nat.add_mul]; omega), hf]
    have : (i + 1) * k + j - k = i * k + j := by rw [Nat.add_mul]; omega
    rw [this, flat_get hf r i (by simpa using hi) j hj]
    rfl

theorem rep_own {w : World} {base : Nat} {E : TypeId} {k n : Nat} {e : Ty} {v : Value} {xs : List e.Val} {f : e.Val → List Value} (h : w.ownsRow base E k v xs.length (xs.flatMap f)) (hk : e.cells = k) (hf : ∀ x, (f x).length = k)
    (hx : ∀ x ∈ xs, Rep w e x (f x)) (hl : xs.length * n ≤ 140737488351232) : ∃ a cap, v = .slice a xs.length cap ∧ Rep w (.slice n e) xs [.slice a xs.length cap] := by
  subst hk
  rcases h.2 with ⟨h1, h2⟩ | ⟨g, cap, cur, h5, h6, h7, h8, h9, _⟩
  · exact ⟨none, 0, by rw [h1, h2], none, 0, rfl, hl, by omega, fun _ => rfl, fun i hi => by omega⟩
  · refine ⟨some ⟨g, 0, none⟩, cap, h5, some ⟨g, 0, none⟩, cap, rfl, hl, h8, (by simp), fun i hi => ?_⟩
    have hb : Blk w g (.cells cur E (0, 0)) := h7
    refine ⟨g, 0, rfl, f xs[i], hf _, fun j u hj => ?_, hb.lt, hx _ (List.getElem_mem hi)⟩
    have hjk : j < e.cells := by rw [← hf xs[i]]; exact (List.getElem?_eq_some_iff.1 hj).1
    have := h.cells (g := g) (by rw [h5]; rfl) (i * e.cells + j) u (by rw [flat_get hf xs i hi j hjk]; exact hj)
    rw [← this, Addr.add_lit]
    congr 2
    omega

theorem wf_i64 {n : Int} (h1 : -9223372036854775808 ≤ n) (h2 : n ≤ 9223372036854775807) : (Lit.int .i64 n).wf = true := by
  simp only [Lit.wf, Bool.and_eq_true, decide_eq_true_eq, i64_min, i64_max]
  exact ⟨decide_eq_true h1, decide_eq_true h2⟩

def stepCells (x : TStep.Val) : List Value := [.int .i64 x.1, .int .i64 x.2.1]
theorem rep_own_steps {w : World} {base : Nat} {v : Value} {xs : List TStep.Val} (h : w.ownsRow base 63 2 v xs.length (xs.flatMap stepCells)) (hx : ∀ x ∈ xs, (x.1 : Int) = 1 ∧ (0 : Int) ≤ x.2.1 ∧ (x.2.1 : Int) ≤ 9223372036854775807)
    (hl : xs.length ≤ 1000) : ∃ a cap, v = .slice a xs.length cap ∧ Rep w TSteps xs [.slice a xs.length cap] := by
  refine rep_own h rfl (fun _ => rfl) (fun x hm => ?_) (by omega)
  obtain ⟨h1, h2, h3⟩ := hx x hm
  obtain ⟨kd, nn, u⟩ := x
  change Int at kd
  change Int at nn
  change kd = 1 at h1
  change 0 ≤ nn at h2
  change nn ≤ 9223372036854775807 at h3
  show Rep w (.pair (.int .i64) (.pair (.int .i64) .unit)) (kd, nn, u) [.int .i64 kd, .int .i64 nn]
  refine ⟨[.int .i64 kd], [.int .i64 nn], rfl, rfl, ⟨rfl, ?_⟩, [.int .i64 nn], [], rfl, rfl, ⟨rfl, ?_⟩, rfl⟩
  · exact wf_i64 (n := kd) (by omega) (by omega)
  · exact wf_i64 (n := nn) (by omega) (by omega)
end Go.Proofs.Ytekinbeiljmddaa
