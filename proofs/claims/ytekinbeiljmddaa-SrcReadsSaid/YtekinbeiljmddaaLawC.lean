/- The law SrcFull of mortiselaw02. -/
import Derived.Test.YtekinbeiljmddaaFullS
import Derived.Test.YtekinbeiljmddaaLawB
namespace Go.Proofs.Ytekinbeiljmddaa
open Go.RowKit Go.Conc Go.Lib
set_option linter.unusedVariables false
set_option linter.unusedSimpArgs false

theorem full_ref (p : Addr) (at_ n : Int) (w : World) (hr : refB at_ n = true) :
    Calls Try.prog 28 #[.pointer (some p), .int .i64 at_, .int .i64 n] w fun e w' => e = .returned (.tuple #[.string ⟨#[]⟩, .int .i64 1]) ∧ w = w' := by
  go_enter Try.func28, Try.ntmps28
  go_wp2_with (go_at_call 44; with_reducible refine (refuses_some _ _ _ _).mono ?_; rintro e w1 ⟨rfl, rfl⟩)
  go_ret2
  exact ⟨rfl, rfl⟩

def shortSteps (l : List Int) : List TStep.Val := l.map fun y => (1, y, ())
abbrev TInts : Ty := .slice 8 (.int .i64)
theorem int_cells {w : World} {xs : TInts.Val} {a : Option Addr} {len cap : Nat} (h : Rep w TInts xs [.slice a len cap]) {k : Nat} (hk : k < xs.length) :
    ∃ b o, a = some ⟨b, o, none⟩ ∧ b < w.heap.size ∧ w.cell? ⟨b, o + k, none⟩ = some (.int .i64 xs[k]) ∧ (xs[k] : Int) ≤ 9223372036854775807 := by
  obtain ⟨b, o, ha, l, h1, h2, h3, h4⟩ := slice_at h hk
  obtain ⟨rfl, h5⟩ := h4
  have h6 := h2 0 _ rfl
  simp only [Ty.cells, Nat.mul_one, Nat.add_zero] at h6
  simp only [Lit.wf, Bool.and_eq_true, decide_eq_true_eq, i64_min, i64_max] at h5
  exact ⟨b, o, ha, h3, h6, of_decide_eq_true h5.2⟩

theorem short_length (l : List Int) : (shortSteps l).length = l.length := by simp [shortSteps]
theorem short_fine {l : List Int} (h : ∀ y ∈ l, 0 ≤ y ∧ y ≤ 9223372036854775807) : ∀ x ∈ shortSteps l, (x.1 : Int) = 1 ∧ (0 : Int) ≤ x.2.1 ∧ (x.2.1 : Int) ≤ 9223372036854775807 := by
  intro x hx
  simp only [shortSteps, List.mem_map] at hx
  obtain ⟨y, hy, rfl⟩ := hx
  exact ⟨rfl, (h y hy).1, (h y hy).2⟩
theorem short_fineB {l : List Int} (h : ∀ y ∈ l, 0 ≤ y ∧ y ≤ 9223372036854775807) : ∀ x ∈ shortSteps l, fineB x = true := by
  intro x hx
  simp only [shortSteps, List.mem_map] at hx
  obtain ⟨y, hy, rfl⟩ := hx
  have := (h y hy).1
  simp [fineB, this]
theorem short_more (l : List Int) (k : Nat) (h : k < l.length) : (shortSteps (l.take (k + 1))).flatMap stepCells = (shortSteps (l.take k)).flatMap stepCells ++ [.int .i64 1, .int .i64 (l[k])] := by
  rw [← List.take_append_getElem h]
  simp only [shortSteps, List.map_append, List.flatMap_append]
  rfl

theorem any_not_fine {xs : List TStep.Val} (h : ∀ x ∈ xs, fineB x = true) : (xs.any fun x => !fineB x) = false := by
  rw [List.any_eq_false]
  intro x hx
  simp [h x hx]

/-- The loop that gathers the script, at its head. -/
def GathRel (ys : List Int) (w : World) (v7 v8 : Value) (wr : World) : Prop :=
  ∃ k : Nat, k ≤ ys.length ∧ k ≤ 200 ∧ v8 = .int .i64 k ∧ wr.ownsRow w.heap.size 63 2 v7 k ((shortSteps (ys.take k)).flatMap stepCells) ∧ Below w.heap.size w wr ∧ (∀ y ∈ ys.take k, 0 ≤ y ∧ y ≤ 9223372036854775807)

set_option maxRecDepth 100000 in
set_option maxHeartbeats 4000000 in
theorem srcFull_calls (s : ByteArray) (ys : TInts.Val) (a : Option Addr) (cap : Nat) (at_ n : Int) (w : World) (h : Rep w TInts ys [.slice a ys.length cap]) (hs : s.size ≤ 140737488351232) (ha : at_ ≤ 9223372036854775807) :
    Calls Try.prog 9 #[.agg #[.string s, .slice a ys.length cap, .int .i64 at_, .int .i64 n]] w fun e w' => e = .returned (.bool true) ∧ Below w.heap.size w w' := by
  have hB := bel_refl w
  obtain ⟨i0, hi0, hz0, hz1, hz2⟩ := info_parts info_step
  change List Int at ys
  go_enter Try.func9, Try.ntmps9
  go_wp2
  go_quiet (fail)
  go_wp2
  go_loopw [7, 8] (fun v7 v8 wr => GathRel ys w v7 v8 wr) (fun _ v8 _ => ys.length - (RowKit.intOf v8).toNat)
  case atStart => exact ⟨0, by omega, by omega, rfl, World.ownsRow_nil _ _ _ _, (by repeat (first | exact hB | refine bel_alloc ?_ _ | refine below_drewN ?_ _ | refine Below.drew ?_ | refine bel_set ?_ (by simp; omega) _)), by simp⟩
  case round =>
    obtain ⟨k, hk, hk2, rfl, hown, hB, hys⟩ := hrel
    rcases (show (k < ys.length ∧ k < 200) ∨ (¬ k < ys.length) ∨ (k < ys.length ∧ ¬ k < 200) by omega) with ⟨hlt, hlt2⟩ | hex
    · have hr := Rep.below hB h
      obtain ⟨b, o, rfl, hb, hc1, hc2⟩ := int_cells hr hlt
      have hcw : wr.cell? ⟨b, o + k, none⟩ = some (.int .i64 (ys[k])) := hc1
      have hc2' : ys[k] ≤ 9223372036854775807 := hc2
      by_cases hneg : ys[k] < 0
      · go_wp2_with (go_at_call 14; with_reducible refine (live2_any _).mono ?_; rintro e w3 ⟨rfl, hb⟩; have hB : Below w.heap.size w w3 := bel_trans (by repeat (first | exact hB | refine bel_alloc ?_ _ | refine below_drewN ?_ _ | refine Below.drew ?_ | refine bel_set ?_ (by simp; omega) _)) hb; have hc := (bcell hb).1; have hs0 := hb.size; (try simp only [heap_size_alloc', heap_size_drewN', heap_size_drew'] at hs0))
        go_ret
        exact ⟨rfl, hB⟩
      · have hrow := fun k' hk' => (own_block hown (k := k') hk').choose_spec.2
        obtain ⟨a7, c7, rfl⟩ := owns_slice hown
        have hwb := hB.size
        go_wp2_with (at_builtin; refine wpList_append_own_at _ rfl _ _ 22 rfl w.heap.size 63 i0 (.agg #[.int .i64 0, .int .i64 0]) 2 16 Try.underlying22 hi0 hz0 hz1 hz2 rfl (by decide) (.slice a7 k c7) k _ rfl (hown.alloc _) ⟨wr.heap.size, 0, none⟩ 1 1 [.int .i64 1, .int .i64 (ys[k])] rfl rfl (two_new _ _ _ _ _ (by simp)) (by intro u hu; simp at hu; rcases hu with rfl | rfl <;> rfl) (by unfold maxLen; omega) (by omega) (by simp; omega) ?_; intro v' w3 hown' hgrow hnil hat; have hB3 : Below w.heap.size w w3 := (bel_alloc hB _).grown hgrow (by simp; omega) hrow)
        go_roundw
        case rel =>
          rw [← short_more ys k hlt] at hown'
          refine ⟨k + 1, by omega, by omega, by go_num, hown', hB3, fun y hy => ?_⟩
          rw [← List.take_append_getElem hlt, List.mem_append] at hy
          rcases hy with hy | hy
          · exact hys y hy
          · simp at hy; subst hy; exact ⟨by omega, hc2'⟩
        case measure => simp [RowKit.intOf]; omega
    · have hlen : (shortSteps (ys.take k)).length = k := by rw [short_length, List.length_take]; omega
      obtain ⟨a7, c7, rfl, hrep⟩ := rep_own_steps (xs := shortSteps (ys.take k)) (by rw [hlen]; exact hown) (short_fine hys) (by rw [hlen]; omega)
      have hnew := new_ok s _ a7 c7 wr hrep (by rw [hlen]; omega) (any_not_fine (short_fineB hys))
      have hfi := short_fineB hys
      have hfs := short_fine hys
      rw [hlen] at hnew
      generalize shortSteps (ys.take k) = st at hnew hfi hfs hlen
      have hfull := fun (m1 m2 : Nat) (w' : World) (B C : Nat) (rv : Value) (h' : SrcInv w' B C rv s st []) (hr : refB m1 m2 = false) (hm : m1 ≤ 9223372036854775807) => full_any m1 m2 w' h' hr hfi hs (by simp; omega) hm
      have hst2 : ∀ x ∈ st, (x.1 : Int) = 1 ∧ (0 : Int) ≤ x.2.1 := fun x hx => ⟨(hfs x hx).1, (hfs x hx).2.1⟩
      clear hfs hfi hys hown hrep h
      rcases hex with hex | ⟨hex, hex2⟩
      all_goals
        cases hr : refB at_ n
        case true =>
          have hfr := fun p w' => full_ref p at_ n w' hr
          unfold refB at hr
          simp only [decide_eq_true_eq] at hr
          by_cases hr1 : at_ < 0
          · go_wp2_with (first
              | (go_at_call 13; refine hnew.mono ?_; rintro e w1 ⟨B, C, rfl, hC, hi, hb⟩; have hwb := hB.size; have hB : Below w.heap.size w w1 := bel_trans hB hb)
              | (go_at_call 28; with_reducible refine (hfr _ _).mono ?_; rintro e w1 ⟨rfl, rfl⟩)
              | (go_at_call 14; with_reducible refine (live2_any _).mono ?_; rintro e w3 ⟨rfl, hb⟩; have hB : Below w.heap.size w w3 := bel_trans (by repeat (first | exact hB | refine bel_alloc ?_ _ | refine below_drewN ?_ _ | refine Below.drew ?_ | refine bel_set ?_ (by simp; omega) _)) hb; have hc := (bcell hb).1; have hs0 := hb.size; (try simp only [heap_size_alloc', heap_size_drewN', heap_size_drew'] at hs0)))
            go_ret
            exact ⟨rfl, hB⟩
          by_cases hr2 : n < 0
          · go_wp2_with (first
              | (go_at_call 13; refine hnew.mono ?_; rintro e w1 ⟨B, C, rfl, hC, hi, hb⟩; have hwb := hB.size; have hB : Below w.heap.size w w1 := bel_trans hB hb)
              | (go_at_call 28; with_reducible refine (hfr _ _).mono ?_; rintro e w1 ⟨rfl, rfl⟩)
              | (go_at_call 14; with_reducible refine (live2_any _).mono ?_; rintro e w3 ⟨rfl, hb⟩; have hB : Below w.heap.size w w3 := bel_trans (by repeat (first | exact hB | refine bel_alloc ?_ _ | refine below_drewN ?_ _ | refine Below.drew ?_ | refine bel_set ?_ (by simp; omega) _)) hb; have hc := (bcell hb).1; have hs0 := hb.size; (try simp only [heap_size_alloc', heap_size_drewN', heap_size_drew'] at hs0)))
            go_ret
            exact ⟨rfl, hB⟩
          by_cases hr3 : 1048576 < n
          · go_wp2_with (first
              | (go_at_call 13; refine hnew.mono ?_; rintro e w1 ⟨B, C, rfl, hC, hi, hb⟩; have hwb := hB.size; have hB : Below w.heap.size w w1 := bel_trans hB hb)
              | (go_at_call 28; with_reducible refine (hfr _ _).mono ?_; rintro e w1 ⟨rfl, rfl⟩)
              | (go_at_call 14; with_reducible refine (live2_any _).mono ?_; rintro e w3 ⟨rfl, hb⟩; have hB : Below w.heap.size w w3 := bel_trans (by repeat (first | exact hB | refine bel_alloc ?_ _ | refine below_drewN ?_ _ | refine Below.drew ?_ | refine bel_set ?_ (by simp; omega) _)) hb; have hc := (bcell hb).1; have hs0 := hb.size; (try simp only [heap_size_alloc', heap_size_drewN', heap_size_drew'] at hs0)))
            go_ret
            exact ⟨rfl, hB⟩
          omega
        case false =>
          have hr0 := hr
          unfold refB at hr0
          simp only [decide_eq_false_iff_not] at hr0
          obtain ⟨m1, rfl⟩ := Int.eq_ofNat_of_zero_le (show 0 ≤ at_ by omega)
          obtain ⟨m2, rfl⟩ := Int.eq_ofNat_of_zero_le (show 0 ≤ n by omega)
          have hm2 : m2 ≤ 1048576 := by omega
          clear hr0
          have hfull2 := fun w' B C rv h' => hfull m1 m2 w' B C rv h' hr (by omega)
          clear hfull
          unfold FullOut at hfull2
          by_cases hin : m1 + m2 ≤ s.size
          · have h0 := full_in st 0 [] hst2 (by omega) hin
            rw [h0] at hfull2
            generalize fullS s.size m1 m2 st 0 [] = R at hfull2
            have hfull' := hfull2
            rw [if_pos rfl] at hfull'
            clear hfull2 h0
            go_wp2_with (first
              | (go_at_call 13; refine hnew.mono ?_; rintro e w1 ⟨B, C, rfl, hC, hi, hb⟩; have hwb := hB.size; have hB : Below w.heap.size w w1 := bel_trans hB hb)
              | (go_at_call 28; refine (hfull' _ _ _ _ hi).mono ?_; rintro e w2 ⟨rfl, rv2, hi2, hF2, hO2⟩; have hB : Below w.heap.size w w2 := hB.trans (fr_below hF2 (srcF_ge (by omega) hi.lt (by intro k hk; simp [Value.ownBlock] at hk)) (by have := hb.size; omega)))
              | (go_at_call 14; with_reducible refine (live2_any _).mono ?_; rintro e w3 ⟨rfl, hb⟩; have hB : Below w.heap.size w w3 := bel_trans (by repeat (first | exact hB | refine bel_alloc ?_ _ | refine below_drewN ?_ _ | refine Below.drew ?_ | refine bel_set ?_ (by simp; omega) _)) hb; have hc := (bcell hb).1; have hs0 := hb.size; (try simp only [heap_size_alloc', heap_size_drewN', heap_size_drew'] at hs0)))
            go_ret
            exact ⟨rfl, hB⟩
          · have h0 := full_out st 0 [] hst2 (by omega) (by omega) (show s.size < m1 + m2 by omega)
            generalize fullS s.size m1 m2 st 0 [] = R at hfull2 h0
            rcases h0 with h0 | ⟨hz, h0⟩
            · rw [h0, if_neg (by decide)] at hfull2
              have hfull' := hfull2
              clear hfull2 h0
              by_cases hg : s.size < m1
              · go_wp2_with (first
                  | (go_at_call 13; refine hnew.mono ?_; rintro e w1 ⟨B, C, rfl, hC, hi, hb⟩; have hwb := hB.size; have hB : Below w.heap.size w w1 := bel_trans hB hb)
                  | (go_at_call 28; refine (hfull' _ _ _ _ hi).mono ?_; rintro e w2 ⟨rfl, rv2, hi2, hF2, hO2⟩; have hB : Below w.heap.size w w2 := hB.trans (fr_below hF2 (srcF_ge (by omega) hi.lt (by intro k hk; simp [Value.ownBlock] at hk)) (by have := hb.size; omega)))
                  | (go_at_call 14; with_reducible refine (live2_any _).mono ?_; rintro e w3 ⟨rfl, hb⟩; have hB : Below w.heap.size w w3 := bel_trans (by repeat (first | exact hB | refine bel_alloc ?_ _ | refine below_drewN ?_ _ | refine Below.drew ?_ | refine bel_set ?_ (by simp; omega) _)) hb; have hc := (bcell hb).1; have hs0 := hb.size; (try simp only [heap_size_alloc', heap_size_drewN', heap_size_drew'] at hs0)))
                go_ret
                exact ⟨rfl, hB⟩
              · have hg2 : s.size - m1 < m2 := by omega
                go_wp2_with (first
                  | (go_at_call 13; refine hnew.mono ?_; rintro e w1 ⟨B, C, rfl, hC, hi, hb⟩; have hwb := hB.size; have hB : Below w.heap.size w w1 := bel_trans hB hb)
                  | (go_at_call 28; refine (hfull' _ _ _ _ hi).mono ?_; rintro e w2 ⟨rfl, rv2, hi2, hF2, hO2⟩; have hB : Below w.heap.size w w2 := hB.trans (fr_below hF2 (srcF_ge (by omega) hi.lt (by intro k hk; simp [Value.ownBlock] at hk)) (by have := hb.size; omega)))
                  | (go_at_call 14; with_reducible refine (live2_any _).mono ?_; rintro e w3 ⟨rfl, hb⟩; have hB : Below w.heap.size w w3 := bel_trans (by repeat (first | exact hB | refine bel_alloc ?_ _ | refine below_drewN ?_ _ | refine Below.drew ?_ | refine bel_set ?_ (by simp; omega) _)) hb; have hc := (bcell hb).1; have hs0 := hb.size; (try simp only [heap_size_alloc', heap_size_drewN', heap_size_drew'] at hs0)))
                go_ret
                exact ⟨rfl, hB⟩
            · subst hz
              have hg : s.size < m1 := by omega
              rw [h0, if_pos rfl, extract_zero] at hfull2
              have he : ByteArray.empty = ⟨#[]⟩ := rfl
              rw [he] at hfull2
              have hfull' := hfull2
              clear hfull2 h0 he
              go_wp2_with (first
                | (go_at_call 13; refine hnew.mono ?_; rintro e w1 ⟨B, C, rfl, hC, hi, hb⟩; have hwb := hB.size; have hB : Below w.heap.size w w1 := bel_trans hB hb)
                | (go_at_call 28; refine (hfull' _ _ _ _ hi).mono ?_; rintro e w2 ⟨rfl, rv2, hi2, hF2, hO2⟩; have hB : Below w.heap.size w w2 := hB.trans (fr_below hF2 (srcF_ge (by omega) hi.lt (by intro k hk; simp [Value.ownBlock] at hk)) (by have := hb.size; omega)))
                | (go_at_call 14; with_reducible refine (live2_any _).mono ?_; rintro e w3 ⟨rfl, hb⟩; have hB : Below w.heap.size w w3 := bel_trans (by repeat (first | exact hB | refine bel_alloc ?_ _ | refine below_drewN ?_ _ | refine Below.drew ?_ | refine bel_set ?_ (by simp; omega) _)) hb; have hc := (bcell hb).1; have hs0 := hb.size; (try simp only [heap_size_alloc', heap_size_drewN', heap_size_drew'] at hs0)))
              go_ret
              exact ⟨rfl, hB⟩
end Go.Proofs.Ytekinbeiljmddaa
