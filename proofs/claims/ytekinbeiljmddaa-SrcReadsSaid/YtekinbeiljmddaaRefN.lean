/- Contract of mortiseref02.New. -/
import Derived.Test.YtekinbeiljmddaaRefS
namespace Go.Proofs.Ytekinbeiljmddaa
open Go.RowKit Go.Conc Go.Lib
set_option linter.unusedVariables false
set_option linter.unusedSimpArgs false

def RefNewPost (s : ByteArray) (xs : TSteps.Val) (w : World) (e : Ending) (w' : World) : Prop :=
  ∃ R sv, e = .returned (.tuple #[.pointer (some ⟨R, 0, none⟩), .int .i64 0]) ∧ w.heap.size ≤ R ∧ RefInv w' R sv (.slice none 0 0) s xs [] ∧ Below w.heap.size w w'

theorem refNew_no (s : ByteArray) (xs : TSteps.Val) (a : Option Addr) (cap : Nat) (w : World) (h : Rep w TSteps xs [.slice a xs.length cap]) (hm : mayS xs = false) :
    Calls Try.prog 34 #[.string s, .slice a xs.length cap] w fun e w' => e = .returned (.tuple #[.pointer none, .int .i64 1]) ∧ Below w.heap.size w w' := by
  have hB := bel_refl w
  have hmay := may_any xs a cap w h
  rw [hm] at hmay
  go_enter Try.func34, Try.ntmps34
  go_wp2_with (go_at_call 53; with_reducible refine (hmay).mono ?_; rintro e w1 ⟨rfl, hb⟩; have hB : Below w.heap.size w w1 := bel_trans (by repeat (first | exact hB | refine bel_alloc ?_ _ | refine below_drewN ?_ _ | refine Below.drew ?_ | refine bel_set ?_ (by simp; omega) _)) hb; have hc := (bcell hb).1; have hs0 := hb.size; (try simp only [heap_size_alloc', heap_size_drewN', heap_size_drew'] at hs0))
  go_ret2
  exact ⟨rfl, hB⟩

theorem steps_len (xs : List TStep.Val) : (xs.flatMap stepCells).length = xs.length * 2 := by
  induction xs with
  | nil => rfl
  | cons x r ih => rw [List.flatMap_cons, List.length_append, ih, List.length_cons]; simp [stepCells]; omega
theorem steps_one (xs : List TStep.Val) : ∀ u ∈ xs.flatMap stepCells, u.oneCell' = true := by
  intro u hu
  rw [List.mem_flatMap] at hu
  obtain ⟨x, _, hx⟩ := hu
  simp only [stepCells, List.mem_cons, List.not_mem_nil, or_false] at hx
  rcases hx with rfl | rfl <;> rfl

/-- An own row of steps as the reference's script. -/
theorem scr_of_own {w : World} {R : Nat} {v : Value} {xs : List TStep.Val} (h : w.ownsRow (R + 1) 63 2 v xs.length (xs.flatMap stepCells)) :
    Scr w R v xs := by
  rcases h.2 with ⟨h1, h2⟩ | ⟨g, cap, cur, h5, h6, h7, h8, h9, h10, h11⟩
  · exact ⟨none, 0, by rw [h1, h2], by omega, fun hs => by omega⟩
  · refine ⟨_, cap, h5, h8, fun _ => ⟨g, 0, cur, rfl, by omega, h7, fun i hi => ?_⟩⟩
    have hg : ∀ j, j < xs.length * 2 → cur[j]? = (xs.flatMap stepCells)[j]? := by
      intro j hj
      rw [← h11, List.getElem?_take_of_lt hj, Array.getElem?_toList]
    have f0 := flat_get (f := stepCells) (k := 2) (fun _ => rfl) xs i hi 0 (by omega)
    have f1 := flat_get (f := stepCells) (k := 2) (fun _ => rfl) xs i hi 1 (by omega)
    refine ⟨?_, ?_⟩
    · rw [show 0 + i * 2 = i * 2 + 0 by omega, hg _ (by omega), f0]; rfl
    · rw [show 0 + i * 2 + 1 = i * 2 + 1 by omega, hg _ (by omega), f1]; rfl

theorem rep_step_cells' {w : World} {xs : List TStep.Val} {ad : Addr} {len cap : Nat} (h : Rep w TSteps xs [.slice (some ad) len cap]) : ∀ (j : Nat) (u : Value), (xs.flatMap stepCells)[j]? = some u → w.cell? (ad.add j) = some u := by
  cases hxs : xs with
  | nil => intro j u hu; simp at hu
  | cons x r =>
    obtain ⟨b, o, ha, _⟩ := step_cells h (k := 0) (by rw [hxs]; simp)
    simp only [Option.some.injEq] at ha
    subst ha
    rw [← hxs]
    exact rep_step_cells h

set_option maxHeartbeats 1000000 in
theorem refNew_ok (s : ByteArray) (xs : TSteps.Val) (a : Option Addr) (cap : Nat) (w : World) (h : Rep w TSteps xs [.slice a xs.length cap]) (hm : mayS xs = true) :
    Calls Try.prog 34 #[.string s, .slice a xs.length cap] w (RefNewPost s xs w) := by
  have hB := bel_refl w
  have hmay := may_any xs a cap w h
  rw [hm] at hmay
  obtain ⟨hlen, _, _⟩ := mayS_yes hm
  have hlc := slice_len h
  obtain ⟨i0, hi0, hz0, hz1, hz2⟩ := info_parts info_step
  change List TStep.Val at xs
  obtain ⟨k, hk⟩ : ∃ k, xs.length = k := ⟨_, rfl⟩
  rw [hk] at hmay hlen h
  cases a with
  | none =>
    have hk0 : k = 0 := by
      rcases Nat.eq_zero_or_pos k with h0 | h0
      · exact h0
      · obtain ⟨b, o, ha, _⟩ := step_cells h (k := 0) (by omega)
        cases ha
    have hx0 : xs = [] := List.eq_nil_of_length_eq_zero (hk.trans hk0)
    subst hx0
    subst hk0
    clear hk
    go_enter Try.func34, Try.ntmps34
    go_wp2_with (go_at_call 53; with_reducible refine (hmay).mono ?_; rintro e w1 ⟨rfl, hb⟩; have hB : Below w.heap.size w w1 := bel_trans (by repeat (first | exact hB | refine bel_alloc ?_ _ | refine below_drewN ?_ _ | refine Below.drew ?_ | refine bel_set ?_ (by simp; omega) _)) hb; have hc := (bcell hb).1; have hs0 := hb.size; (try simp only [heap_size_alloc', heap_size_drewN', heap_size_drew'] at hs0))
    go_ret2
    exact ⟨_, _, rfl, by omega, ⟨Blk.new w1 _, ⟨none, 0, rfl, by simp, fun hs => by simp at hs⟩, World.ownsRow_nil _ _ _ _⟩, bel_alloc hB _⟩
  | some ad =>
    go_enter Try.func34, Try.ntmps34
    go_wp2_with (first
      | (go_at_call 53; with_reducible refine (hmay).mono ?_; rintro e w1 ⟨rfl, hb⟩; have hB : Below w.heap.size w w1 := bel_trans (by repeat (first | exact hB | refine bel_alloc ?_ _ | refine below_drewN ?_ _ | refine Below.drew ?_ | refine bel_set ?_ (by simp; omega) _)) hb; have hc := (bcell hb).1; have hs0 := hb.size; (try simp only [heap_size_alloc', heap_size_drewN', heap_size_drew'] at hs0))
      | (have hr := Rep.below (bel_alloc hB (.cells #[.string s, .slice none 0 0, .slice none 0 0] 73)) h; at_builtin; refine wpList_append_own_at _ rfl _ _ 22 rfl (w1.heap.size + 1) 63 i0 (.agg #[.int .i64 0, .int .i64 0]) 2 16 Try.underlying22 hi0 hz0 hz1 hz2 rfl (by decide) (.slice none 0 0) 0 [] rfl (World.ownsRow_nil _ _ _ _) ad k cap (xs.flatMap stepCells) rfl (by rw [steps_len, hk]) (rep_step_cells' hr) (steps_one xs) (by unfold maxLen; omega) (by omega) (by simp) ?_; intro v3 w3 hown3 hgrow _ _; rw [List.nil_append, Nat.zero_add] at hown3; obtain ⟨a9, c9, rfl⟩ := owns_slice hown3; have hbR := blk_grown (Blk.new w1 (.cells #[.string s, .slice none 0 0, .slice none 0 0] 73)) hgrow (by simp [Value.ownBlock]); have hcR := hbR.cell 1; have hfR := hbR.frozen 1; have hB3 : Below w.heap.size w w3 := (bel_alloc hB _).grown hgrow (by simp; omega) (by simp [Value.ownBlock])))
    go_ret2
    have hlt : w1.heap.size < w3.heap.size := hbR.lt
    refine ⟨_, .slice a9 k c9, rfl, by omega, ⟨hbR.setCell_same 1 _, scr_of_own (R := w1.heap.size) ?_, World.ownsRow_nil _ _ _ _⟩, bel_set hB3 (by simp; omega) _⟩
    rw [hk]
    exact ownsRow_setCell_below hown3 (a := ⟨w1.heap.size, 1, none⟩) (Nat.lt_succ_self _) (.slice a9 k c9)
end Go.Proofs.Ytekinbeiljmddaa
