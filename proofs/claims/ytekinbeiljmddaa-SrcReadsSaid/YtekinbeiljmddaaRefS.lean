/- Contracts of mortiseref02: asks, May, New. -/
import Derived.Test.YtekinbeiljmddaaFullS
namespace Go.Proofs.Ytekinbeiljmddaa
open Go.RowKit Go.Conc Go.Lib
set_option linter.unusedVariables false
set_option linter.unusedSimpArgs false

theorem asks_any (at_ n : Int) (w : World) : Calls Try.prog 54 #[.int .i64 at_, .int .i64 n] w fun e w' => e = .returned (.bool (!refB at_ n)) ∧ w = w' := by
  by_cases h1 : at_ < 0
  · have Hs : Hid (refB at_ n = true) := by unfold Hid refB; simp [h1]
    go_enter Try.func54, Try.ntmps54
    go_wp2
    go_ret
    rw [Hs.out]; exact ⟨rfl, rfl⟩
  by_cases h2 : n < 0
  · have Hs : Hid (refB at_ n = true) := by unfold Hid refB; simp [h2]
    go_enter Try.func54, Try.ntmps54
    go_wp2
    go_ret
    rw [Hs.out]; exact ⟨rfl, rfl⟩
  by_cases h3 : 1048576 < n
  · have Hs : Hid (refB at_ n = true) := by unfold Hid refB; simp [h3]
    go_enter Try.func54, Try.ntmps54
    go_wp2
    go_ret
    rw [Hs.out]; first | exact ⟨rfl, rfl⟩ | exact ⟨by simp; omega, rfl⟩
  have Hs : Hid (refB at_ n = false) := by unfold Hid refB; simp; omega
  go_enter Try.func54, Try.ntmps54
  go_wp2
  go_ret
  rw [Hs.out]; first | exact ⟨rfl, rfl⟩ | exact ⟨by simp; omega, rfl⟩

theorem fine_cases (kd nn : Int) : (fineB (kd, nn, ()) = true ∧ (kd = 0 ∧ nn = 0 ∨ kd = 2 ∧ nn = 0 ∨ kd = 1 ∧ 0 ≤ nn)) ∨ (fineB (kd, nn, ()) = false ∧ (kd < 0 ∨ (0 ≤ kd ∧ 2 < kd) ∨ (0 ≤ kd ∧ kd ≤ 2 ∧ nn < 0) ∨ (kd = 0 ∧ 0 < nn) ∨ (kd = 2 ∧ 0 < nn))) := by
  unfold fineB
  by_cases h0 : kd = 0
  · subst h0
    by_cases h : nn = 0
    · exact .inl ⟨by simp [h], .inl ⟨rfl, h⟩⟩
    · exact .inr ⟨by simp [h], by omega⟩
  by_cases h2 : kd = 2
  · subst h2
    by_cases h : nn = 0
    · exact .inl ⟨by simp [h], by omega⟩
    · exact .inr ⟨by simp [h], by omega⟩
  by_cases h1 : kd = 1
  · subst h1
    by_cases h : 0 ≤ nn
    · exact .inl ⟨by simp [h], by omega⟩
    · exact .inr ⟨by simp [h], by omega⟩
  · exact .inr ⟨by simp [h0, h1, h2], by omega⟩

/-- May all of these be? -/
def mayS (xs : List TStep.Val) : Bool := decide (xs.length ≤ 1000) && xs.all fineB

set_option maxRecDepth 100000 in
set_option maxHeartbeats 2000000 in
theorem may_any (xs : TSteps.Val) (a : Option Addr) (cap : Nat) (w : World) (h : Rep w TSteps xs [.slice a xs.length cap]) :
    Calls Try.prog 53 #[.slice a xs.length cap] w fun e w' => e = .returned (.bool (mayS xs)) ∧ Below w.heap.size w w' := by
  change List TStep.Val at xs
  have hl := slice_len h
  go_enter Try.func53, Try.ntmps53
  go_wp2
  go_loopw [3] (fun v3 wr => ∃ k : Nat, k ≤ xs.length ∧ v3 = .int .i64 k ∧ Hid (∀ (i : Nat) (hi : i < xs.length), i < k → fineB xs[i] = true) ∧ Below w.heap.size w wr) (fun v3 _ => xs.length - (RowKit.intOf v3).toNat)
  case atStart => exact ⟨0, by omega, rfl, hid (fun i _ hi => by omega), bel_refl w⟩
  case round =>
    obtain ⟨k, hk, rfl, hfi, hB⟩ := hrel
    by_cases hlt : k < xs.length
    · have hr := Rep.below hB h
      obtain ⟨b, o, rfl, hb, hc1, hc2⟩ := step_cells hr hlt
      obtain ⟨⟨kd, nn, u⟩, hx⟩ : ∃ x, xs[k] = x := ⟨_, rfl⟩
      change Int at kd
      change Int at nn
      cases u
      have hcx1 : wr.cell? ⟨b, o + k * 2, none⟩ = some (.int .i64 kd) := by rw [hc1, hx]
      have hcx2 : wr.cell? ⟨b, o + k * 2 + 1, none⟩ = some (.int .i64 nn) := by rw [hc2, hx]
      have Hx := hid hx
      clear hc1 hc2 hr hx
      rcases fine_cases kd nn with ⟨hf, hc⟩ | ⟨hf, hc⟩
      · have Hf := hid hf
        clear hf
        rcases hc with ⟨rfl, rfl⟩ | ⟨rfl, rfl⟩ | ⟨rfl, hc⟩
        all_goals
          go_wp2
          go_roundw
          case rel =>
            refine ⟨k + 1, by omega, by go_num, hid (fun i hi hik => ?_), (by repeat (first | exact hB | refine bel_alloc ?_ _ | refine below_drewN ?_ _ | refine Below.drew ?_ | refine bel_set ?_ (by simp; omega) _))⟩
            by_cases hie : i = k
            · subst hie; rw [Hx.out]; exact Hf.out
            · exact hfi.out i hi (by omega)
          case measure => simp [RowKit.intOf]; omega
      · have Hm : Hid (mayS xs = false) := by
          unfold Hid mayS
          rw [Bool.and_eq_false_iff]; right
          rw [List.all_eq_false]
          exact ⟨xs[k], List.getElem_mem hlt, by rw [Hx.out, hf]; simp⟩
        clear hf hfi
        rcases hc with hc | ⟨hc, hc'⟩ | ⟨hc, hc', hc''⟩ | ⟨rfl, hc⟩ | ⟨rfl, hc⟩
        all_goals
          try (have hne : (nn != 0) = true := by rw [bne_iff_ne]; omega)
          go_wp2
          go_ret
          rw [Hm.out]
          exact ⟨rfl, (by repeat (first | exact hB | refine bel_alloc ?_ _ | refine below_drewN ?_ _ | refine Below.drew ?_ | refine bel_set ?_ (by simp; omega) _))⟩
    · have hall : xs.all fineB = true := by
        rw [List.all_eq_true]
        intro x hx
        obtain ⟨i, hi, rfl⟩ := List.mem_iff_getElem.1 hx
        exact hfi.out i hi (by omega)
      have Hm : Hid (mayS xs = decide (xs.length ≤ 1000)) := by unfold Hid mayS; rw [hall, Bool.and_true]
      clear hall hfi
      go_wp2
      go_ret
      rw [Hm.out]
      exact ⟨by simp; try omega, hB⟩

theorem mayS_yes {xs : List TStep.Val} (h : mayS xs = true) : xs.length ≤ 1000 ∧ (∀ x ∈ xs, fineB x = true) ∧ (xs.any fun x => !fineB x) = false := by
  unfold mayS at h
  rw [Bool.and_eq_true] at h
  have h2 := List.all_eq_true.1 h.2
  refine ⟨of_decide_eq_true h.1, h2, ?_⟩
  rw [List.any_eq_false]
  intro x hx
  simp [h2 x hx]
theorem mayS_no {xs : List TStep.Val} (h : mayS xs = false) : 1000 < xs.length ∨ (xs.any fun x => !fineB x) = true := by
  unfold mayS at h
  rw [Bool.and_eq_false_iff] at h
  rcases h with h | h
  · have := of_decide_eq_false h; omega
  · rw [List.all_eq_false] at h
    obtain ⟨x, hx, hf⟩ := h
    exact .inr (List.any_eq_true.2 ⟨x, hx, by simpa using hf⟩)

/-- The reference's script: a part of a row of steps that lies behind block R. -/
def Scr (w : World) (R : Nat) (sv : Value) (steps : List TStep.Val) : Prop :=
  ∃ a cap, sv = .slice a steps.length cap ∧ steps.length ≤ cap ∧ ((hs : 0 < steps.length) → ∃ G o cur, a = some ⟨G, o, none⟩ ∧ R < G ∧ Blk w G (.cells cur 63 (0, 0)) ∧
    ∀ (i : Nat) (h : i < steps.length), cur[o + i * 2]? = some (.int .i64 steps[i].1) ∧ cur[o + i * 2 + 1]? = some (.int .i64 steps[i].2.1))

/-- The reference's source in memory: its struct at block R, its script's slice sv, its spans' slice rv. -/
structure RefInv (w : World) (R : Nat) (sv rv : Value) (s : ByteArray) (steps : List TStep.Val) (reads : List (Int × Int)) : Prop where
  obj : Blk w R (.cells #[.string s, sv, rv] 73 (0, 0))
  scr : Scr w R sv steps
  row : w.ownsRow (R + 1) 77 2 rv reads.length (reads.flatMap spanV)

theorem Scr.fr {w w' : World} {R : Nat} {sv : Value} {steps : List TStep.Val} {F : Nat → Prop} (h : Scr w R sv steps) (hf : Fr F w w') (hG : ∀ G cur, R < G → Blk w G (.cells cur 63 (0, 0)) → ¬ F G) : Scr w' R sv steps := by
  obtain ⟨a, cap, h1, h2, h3⟩ := h
  refine ⟨a, cap, h1, h2, fun hs => ?_⟩
  obtain ⟨G, o, cur, h4, h5, h6, h7⟩ := h3 hs
  exact ⟨G, o, cur, h4, h5, hf.blk h6 (hG G cur h5 h6), h7⟩

theorem rep_step_cells {w : World} {xs : List TStep.Val} {b o len cap : Nat} (h : Rep w TSteps xs [.slice (some ⟨b, o, none⟩) len cap]) : ∀ (j : Nat) (u : Value), (xs.flatMap stepCells)[j]? = some u → w.cell? ((⟨b, o, none⟩ : Addr).add j) = some u := by
  intro j u hu
  have hlen : (xs.flatMap stepCells).length = xs.length * 2 := by
    clear h hu
    induction xs with
    | nil => rfl
    | cons x r ih => rw [List.flatMap_cons, List.length_append, ih, List.length_cons]; simp [stepCells]; omega
  have hj : j < xs.length * 2 := by rw [← hlen]; exact (List.getElem?_eq_some_iff.1 hu).1
  have hi : j / 2 < xs.length := by omega
  obtain ⟨b', o', ha, hb, hc1, hc2⟩ := step_cells h hi
  simp only [Option.some.injEq, Addr.mk.injEq] at ha
  obtain ⟨rfl, rfl, _⟩ := ha
  have hadd : (⟨b, o, none⟩ : Addr).add j = ⟨b, o + j, none⟩ := by unfold Addr.add; split <;> simp_all
  rw [hadd]
  have hg := flat_get (f := stepCells) (k := 2) (fun _ => rfl) xs (j / 2) hi (j % 2) (by omega)
  rw [show j / 2 * 2 + j % 2 = j by omega, hu] at hg
  rcases (show j % 2 = 0 ∨ j % 2 = 1 by omega) with h0 | h0
  · rw [h0] at hg
    rw [show o + j = o + j / 2 * 2 by omega, hc1]
    exact hg.symm
  · rw [h0] at hg
    rw [show o + j = o + j / 2 * 2 + 1 by omega, hc2]
    exact hg.symm
end Go.Proofs.Ytekinbeiljmddaa
