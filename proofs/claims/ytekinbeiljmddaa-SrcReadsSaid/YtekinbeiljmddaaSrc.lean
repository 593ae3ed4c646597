/- Contracts of package src: what a step is, New. -/
import Derived.Test.YtekinbeiljmddaaComm
import Derived.Test.YtekinbeiljmddaaRep
import Derived.Test.YtekinbeiljmddaaShelf
import Derived.Deep.QuietTactic
import Derived.BigQuiet
namespace Go.Proofs.Ytekinbeiljmddaa
open Go.RowKit Go.Conc
set_option linter.unusedVariables false
set_option linter.unusedSimpArgs false

abbrev TStep : Ty := .pair (.int .i64) (.pair (.int .i64) .unit)
abbrev TSteps : Ty := .slice 16 TStep

/-- An element of a slice, off its reading. -/
theorem slice_at {w : World} {n : Nat} {e : Ty} {xs : (Ty.slice n e).Val} {a : Option Addr} {len cap : Nat} (h : Rep w (.slice n e) xs [.slice a len cap]) {k : Nat} (hk : k < xs.length) :
    ∃ b o, a = some ⟨b, o, none⟩ ∧ ∃ l, l.length = e.cells ∧ CellsAt w b (o + k * e.cells) l ∧ b < w.heap.size ∧ Rep w e xs[k] l := by
  obtain ⟨a', cap', h1, h2, h3, h4, h5⟩ := h
  simp at h1
  obtain ⟨rfl, _, _⟩ := h1
  exact h5 k hk
theorem slice_len {w : World} {n : Nat} {e : Ty} {xs : (Ty.slice n e).Val} {a : Option Addr} {len cap : Nat} (h : Rep w (.slice n e) xs [.slice a len cap]) : xs.length = len ∧ len ≤ cap ∧ len * n ≤ 140737488351232 := by
  obtain ⟨a', cap', h1, h2, h3, h4, h5⟩ := h
  simp at h1
  obtain ⟨_, h6, rfl⟩ := h1
  exact ⟨h6.symm, by omega, h6 ▸ h2⟩

/-- The cells of a step in a slice. -/
theorem step_cells {w : World} {xs : TSteps.Val} {a : Option Addr} {len cap : Nat} (h : Rep w TSteps xs [.slice a len cap]) {k : Nat} (hk : k < xs.length) :
    ∃ b o, a = some ⟨b, o, none⟩ ∧ b < w.heap.size ∧ w.cell? ⟨b, o + k * 2, none⟩ = some (.int .i64 xs[k].1) ∧ w.cell? ⟨b, o + k * 2 + 1, none⟩ = some (.int .i64 xs[k].2.1) := by
  obtain ⟨b, o, ha, l, h1, h2, h3, h4⟩ := slice_at h hk
  obtain ⟨r1, rfl, _, _, h5⟩ := rep_int h4
  obtain ⟨r2, rfl, _, _, h6⟩ := rep_int h5
  refine ⟨b, o, ha, h3, ?_, ?_⟩
  · exact h2 0 _ rfl
  · exact h2 1 _ rfl

/-- May a step be? -/
def fineB (x : TStep.Val) : Bool := (x.1 == 0 || x.1 == 2) && x.2.1 == 0 || x.1 == 1 && decide (0 ≤ x.2.1)

set_option maxHeartbeats 400000 in
theorem fine_any (x : TStep.Val) (w : World) :
    Calls Try.prog 43 #[.agg #[.int .i64 x.1, .int .i64 x.2.1]] w fun e w' => e = .returned (.bool (fineB x)) ∧ Below w.heap.size w w' := by
  obtain ⟨k, n, u⟩ := x
  simp only
  have hB := bel_refl w
  by_cases h0 : k = 0
  · subst h0
    go_enter Try.func43, Try.ntmps43
    go_wp2
    go_ret
    exact ⟨by simp [fineB], bel_alloc hB _⟩
  by_cases h2 : k = 2
  · subst h2
    go_enter Try.func43, Try.ntmps43
    go_wp2
    go_ret
    exact ⟨by simp [fineB], bel_alloc hB _⟩
  by_cases h1 : k = 1
  · subst h1
    go_enter Try.func43, Try.ntmps43
    go_wp2
    go_ret
    exact ⟨by simp [fineB], bel_alloc hB _⟩
  have g0 : (k == 0) = false := beq_eq_false_iff_ne.2 h0
  have g1 : (k == 1) = false := beq_eq_false_iff_ne.2 h1
  have g2 : (k == 2) = false := beq_eq_false_iff_ne.2 h2
  have Hs : Hid (fineB (k, n, u) = false) := by unfold Hid fineB; simp [g0, g1, g2]
  clear h0 h1 h2
  go_enter Try.func43, Try.ntmps43
  go_wp2
  go_ret
  rw [Hs.out]
  exact ⟨rfl, bel_alloc hB _⟩

theorem notFine_any (x : TStep.Val) (w : World) :
    Calls Try.prog 42 #[.agg #[.int .i64 x.1, .int .i64 x.2.1]] w fun e w' => e = .returned (.bool (!fineB x)) ∧ Below w.heap.size w w' := by
  have hB := bel_refl w
  go_enter Try.func42, Try.ntmps42
  go_wp2_with (go_at_call 43; with_reducible refine (fine_any x _).mono ?_; rintro e w1 ⟨rfl, hb⟩; have hB : Below w.heap.size w w1 := bel_trans (by repeat (first | exact hB | refine bel_alloc ?_ _ | refine below_drewN ?_ _ | refine Below.drew ?_ | refine bel_set ?_ (by simp; omega) _)) hb; have hc := (bcell hb).1; have hs0 := hb.size; (try simp only [heap_size_alloc', heap_size_drewN', heap_size_drew'] at hs0))
  go_ret
  exact ⟨rfl, hB⟩

/-- The first place from k on of which p holds; -1. -/
def idxFrom {α : Type} (p : α → Bool) : List α → Nat → Int
  | [], _ => -1
  | x :: r, k => if p x then (k : Int) else idxFrom p r (k + 1)
theorem idxFrom_yes {α : Type} {p : α → Bool} {x : α} {r : List α} {k : Nat} (h : p x = true) : idxFrom p (x :: r) k = k := by simp [idxFrom, h]
theorem idxFrom_no {α : Type} {p : α → Bool} {x : α} {r : List α} {k : Nat} (h : p x = false) : idxFrom p (x :: r) k = idxFrom p r (k + 1) := by simp [idxFrom, h]
theorem idxFrom_any {α : Type} (p : α → Bool) : ∀ (l : List α) (k : Nat), decide (0 ≤ idxFrom p l k) = l.any p
  | [], _ => rfl
  | x :: r, k => by
    by_cases h : p x = true
    · simp [idxFrom, h]
    · simp only [idxFrom, h, List.any_cons]
      have := idxFrom_any p r (k + 1)
      simp at this ⊢
      simp [this]

set_option maxHeartbeats 1000000 in
theorem indexBad_any (xs : TSteps.Val) (a : Option Addr) (cap : Nat) (w : World) (h : Rep w TSteps xs [.slice a xs.length cap]) :
    Calls Try.prog 56 #[.slice a xs.length cap, .func (.func 42) #[] #[]] w fun e w' => e = .returned (.int .i64 (idxFrom (fun x => !fineB x) xs 0)) ∧ Below w.heap.size w w' := by
  have hl := slice_len h
  go_enter Try.func56, Try.ntmps56
  go_wp2
  go_loopw [5, 8] (fun _ v8 wr => ∃ k : Nat, k ≤ xs.length ∧ v8 = .int .i64 k ∧ Hid (idxFrom (fun x => !fineB x) xs 0 = idxFrom (fun x => !fineB x) (xs.drop k) k) ∧ Below w.heap.size w wr) (fun _ v8 _ => xs.length - (intOf v8).toNat)
  case atStart => exact ⟨0, by omega, rfl, rfl, bel_refl w⟩
  case round =>
    obtain ⟨k, hk, rfl, hix, hB⟩ := hrel
    by_cases hlt : k < xs.length
    · have hr := Rep.below hB h
      obtain ⟨b, o, rfl, hb, hc1, hc2⟩ := step_cells hr hlt
      have hd : xs.drop k = xs[k] :: xs.drop (k + 1) := List.drop_eq_getElem_cons hlt
      obtain ⟨x, hx⟩ : ∃ x, xs[k] = x := ⟨_, rfl⟩
      rw [hx] at hc1 hc2 hd
      have hix' := hix.out
      rw [hd] at hix'
      clear hix hd hx hr
      cases hp : (!fineB x)
      · rw [idxFrom_no (p := fun x => !fineB x) hp] at hix'
        have Hix := hid hix'
        clear hix'
        have hnf := fun w => notFine_any x w
        rw [hp] at hnf
        clear hp
        go_wp2_with (go_at_call 42; with_reducible refine (hnf _).mono ?_; rintro e w1 ⟨rfl, hb⟩; have hB : Below w.heap.size w w1 := bel_trans (by repeat (first | exact hB | refine bel_alloc ?_ _ | refine below_drewN ?_ _ | refine Below.drew ?_ | refine bel_set ?_ (by simp; omega) _)) hb; have hc := (bcell hb).1; have hs0 := hb.size; (try simp only [heap_size_alloc', heap_size_drewN', heap_size_drew'] at hs0))
        go_roundw
        case rel => exact ⟨k + 1, by omega, by go_num, Hix, hB⟩
        case measure => simp [intOf]; omega
      · rw [idxFrom_yes (p := fun x => !fineB x) hp] at hix'
        have Hix := hid hix'
        clear hix'
        have hnf := fun w => notFine_any x w
        rw [hp] at hnf
        clear hp
        go_wp2_with (go_at_call 42; with_reducible refine (hnf _).mono ?_; rintro e w1 ⟨rfl, hb⟩; have hB : Below w.heap.size w w1 := bel_trans (by repeat (first | exact hB | refine bel_alloc ?_ _ | refine below_drewN ?_ _ | refine Below.drew ?_ | refine bel_set ?_ (by simp; omega) _)) hb; have hc := (bcell hb).1; have hs0 := hb.size; (try simp only [heap_size_alloc', heap_size_drewN', heap_size_drew'] at hs0))
        go_ret
        exact ⟨by rw [Hix.out]; rfl, hB⟩
    · have hk' : k = xs.length := by omega
      subst hk'
      have hix' : Hid (idxFrom (fun x => !fineB x) xs 0 = -1) := by unfold Hid; rw [hix.out, List.drop_length]; rfl
      clear hix
      go_wp2
      go_ret
      exact ⟨by rw [hix'.out]; rfl, hB⟩

theorem anyBad_any (xs : TSteps.Val) (a : Option Addr) (cap : Nat) (w : World) (h : Rep w TSteps xs [.slice a xs.length cap]) :
    Calls Try.prog 41 #[.slice a xs.length cap, .func (.func 42) #[] #[]] w fun e w' => e = .returned (.bool (xs.any fun x => !fineB x)) ∧ Below w.heap.size w w' := by
  have hB := bel_refl w
  have hl := slice_len h
  have Hs := hid (idxFrom_any (fun x => !fineB x) xs 0)
  go_enter Try.func41, Try.ntmps41
  go_wp2_with (go_at_call 56; with_reducible refine (indexBad_any xs a cap _ h).mono ?_; rintro e w1 ⟨rfl, hb⟩; have hB : Below w.heap.size w w1 := bel_trans (by repeat (first | exact hB | refine bel_alloc ?_ _ | refine below_drewN ?_ _ | refine Below.drew ?_ | refine bel_set ?_ (by simp; omega) _)) hb; have hc := (bcell hb).1; have hs0 := hb.size; (try simp only [heap_size_alloc', heap_size_drewN', heap_size_drew'] at hs0))
  go_ret
  exact ⟨by rw [← Hs.out]; rfl, hB⟩

end Go.Proofs.Ytekinbeiljmddaa
