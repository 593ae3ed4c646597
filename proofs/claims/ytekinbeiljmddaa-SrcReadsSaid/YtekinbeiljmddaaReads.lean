/- Contracts of slices.Clone at spans, src.Reads, mortiseref02.SameSpans. -/
import Derived.Test.YtekinbeiljmddaaRefF
import Derived.Lib.SliceRun
namespace Go.Proofs.Ytekinbeiljmddaa
open Go.RowKit Go.Conc Go.Lib
set_option linter.unusedVariables false
set_option linter.unusedSimpArgs false

def ClonePost (l : List (Int × Int)) (w : World) (e : Ending) (w' : World) : Prop :=
  ∃ v, e = .returned v ∧ w'.ownsRow w.heap.size 77 2 v l.length (l.flatMap spanV) ∧ Below w.heap.size w w'

theorem span_len (l : List (Int × Int)) : (l.flatMap spanV).length = l.length * 2 := by
  induction l with
  | nil => rfl
  | cons x r ih => rw [List.flatMap_cons, List.length_append, ih, List.length_cons]; simp [spanV]; omega
theorem span_one (l : List (Int × Int)) : ∀ u ∈ l.flatMap spanV, u.oneCell' = true := by
  intro u hu
  rw [List.mem_flatMap] at hu
  obtain ⟨x, _, hx⟩ := hu
  simp only [spanV, List.mem_cons, List.not_mem_nil, or_false] at hx
  rcases hx with rfl | rfl <;> rfl

set_option maxHeartbeats 1000000 in
theorem clone_any {base : Nat} (rv : Value) (l : List (Int × Int)) (w : World) (h : w.ownsRow base 77 2 rv l.length (l.flatMap spanV)) (hn : l.length ≤ 1000000000) :
    Calls Try.prog 55 #[rv] w (ClonePost l w) := by
  have hB := bel_refl w
  obtain ⟨i0, hi0, hz0, hz1, hz2⟩ := info_parts info_span
  have qT : ∀ (w : World) (a : Option Addr) (n c n' c' : Nat), (binOp .eql 71 (.slice a n c) (.slice none n' c')).run Try.prog w = .ok (.bool a.isNone) w := fun w a n c n' c' => Lib.run_eql_slice_nil w _ _ a n c n' c' Try.underlying71
  rcases h.2 with ⟨h1, h2⟩ | ⟨g, cap, cur, h1, _⟩
  · subst h1
    have hl : l = [] := List.eq_nil_of_length_eq_zero h2
    subst hl
    go_enter Try.func55, Try.ntmps55
    go_wp2
    go_ret
    exact ⟨_, rfl, World.ownsRow_nil _ _ _ _, hB⟩
  · subst h1
    have hcell := h.cells (g := g) rfl
    obtain ⟨n, hn9⟩ : ∃ n, l.length = n := ⟨_, rfl⟩
    rw [hn9] at h hn ⊢
    have hrow0 : (w.alloc (.cells #[] 77)).ownsRow w.heap.size 77 2 (.slice (some ⟨w.heap.size, 0, none⟩) 0 0) 0 [] :=
      ⟨rfl, .inr ⟨w.heap.size, 0, #[], rfl, Nat.le_refl _, Blk.new w _, Nat.le_refl _, by unfold maxLen; omega, rfl, rfl⟩⟩
    have hgl := (h.lt g rfl).2
    have hcell2 : ∀ j u, (l.flatMap spanV)[j]? = some u → (w.alloc (.cells #[] 77)).cell? ((⟨g, 0, none⟩ : Addr).add j) = some u := (h.alloc _).cells (g := g) rfl
    clear hcell
    go_enter Try.func55, Try.ntmps55
    go_wp2_with (at_builtin; (refine wpList_append_own_at _ rfl _ _ 71 rfl w.heap.size 77 i0 (.agg #[.int .i64 0, .int .i64 0]) 2 16 Try.underlying71 hi0 hz0 hz1 hz2 rfl (by decide) (.slice (some ⟨w.heap.size, 0, none⟩) 0 0) 0 [] rfl hrow0 ⟨g, 0, none⟩ n cap (l.flatMap spanV) rfl h.1 hcell2 (span_one l) (by unfold maxLen; omega) (by omega) (by simp) ?_); intro v3 w3 hown3 hgrow _ _; rw [List.nil_append, Nat.zero_add] at hown3; obtain ⟨a9, c9, rfl⟩ := owns_slice hown3; have hB3 : Below w.heap.size w w3 := (bel_alloc hB _).grown hgrow (by simp) (by intro k hk; simp [Value.ownBlock] at hk; omega))
    go_ret
    refine ⟨_, rfl, ?_, hB3⟩
    rw [hn9]
    exact hown3

theorem srcReads_some {B C : Nat} {rv : Value} {s : ByteArray} {steps : List TStep.Val} {reads : List (Int × Int)} (w : World) (h : SrcInv w B C rv s steps reads) (hn : reads.length ≤ 1000000000) :
    Calls Try.prog 38 #[.pointer (some ⟨B, 0, none⟩)] w (ClonePost reads w) := by
  have hc0 : w.cell? ⟨B, 2, none⟩ = some rv := by rw [h.obj.cell]; rfl
  have hcl := clone_any rv reads w h.row hn
  go_enter Try.func38, Try.ntmps38
  go_wp2_with (go_at_call 55; refine hcl.mono ?_; rintro e w1 ⟨v, rfl, hown, hb⟩)
  go_ret
  exact ⟨_, rfl, hown, hb⟩

theorem span_cells {w : World} {base n c : Nat} {a : Option Addr} {l : List (Int × Int)} (h : w.ownsRow base 77 2 (.slice a n c) l.length (l.flatMap spanV)) {k : Nat} (hk : k < l.length) :
    ∃ g, a = some ⟨g, 0, none⟩ ∧ g < w.heap.size ∧ base ≤ g ∧ w.cell? ⟨g, k * 2, none⟩ = some (.int .i64 l[k].1) ∧ w.cell? ⟨g, k * 2 + 1, none⟩ = some (.int .i64 l[k].2) := by
  rcases h.2 with ⟨h1, h2⟩ | ⟨g, cap, cur, h1, _⟩
  · omega
  · simp only [Value.slice.injEq] at h1
    obtain ⟨rfl, rfl, rfl⟩ := h1
    have hg := h.lt g rfl
    have f0 := flat_get (f := spanV) (k := 2) (fun _ => rfl) l k hk 0 (by omega)
    have f1 := flat_get (f := spanV) (k := 2) (fun _ => rfl) l k hk 1 (by omega)
    have c0 := h.cells (g := g) rfl _ _ f0
    have c1 := h.cells (g := g) rfl _ _ f1
    rw [Addr.add_lit] at c0 c1
    refine ⟨g, rfl, hg.2, hg.1, ?_, ?_⟩
    · rw [← c0]; congr 2; omega
    · rw [← c1]; congr 2; omega

set_option maxHeartbeats 1000000 in
theorem sameSpans_any {b1 b2 : Nat} (v1 v2 : Value) (l : List (Int × Int)) (w : World) (h1 : w.ownsRow b1 77 2 v1 l.length (l.flatMap spanV)) (h2 : w.ownsRow b2 77 2 v2 l.length (l.flatMap spanV))
    (hn : l.length ≤ 1000000000) :
    Calls Try.prog 39 #[v1, v2] w fun e w' => e = .returned (.bool true) ∧ Below w.heap.size w w' := by
  have hB := bel_refl w
  obtain ⟨a1, c1, rfl⟩ := owns_slice h1
  obtain ⟨a2, c2, rfl⟩ := owns_slice h2
  go_enter Try.func39, Try.ntmps39
  go_wp2
  go_loopw [5] (fun v5 wr => ∃ k : Nat, k ≤ l.length ∧ v5 = .int .i64 k ∧ Below w.heap.size w wr) (fun v5 _ => l.length - (RowKit.intOf v5).toNat)
  case atStart => exact ⟨0, by omega, rfl, hB⟩
  case round =>
    obtain ⟨k, hk, rfl, hB⟩ := hrel
    by_cases hlt : k < l.length
    · obtain ⟨g1, rfl, hg1, _, d1, d2⟩ := span_cells h1 hlt
      obtain ⟨g2, rfl, hg2, _, d3, d4⟩ := span_cells h2 hlt
      have x1 := (hB.cell (p := ⟨g1, k * 2, none⟩) hg1).trans d1
      have x2 := (hB.cell (p := ⟨g1, k * 2 + 1, none⟩) hg1).trans d2
      have x3 := (hB.cell (p := ⟨g2, k * 2, none⟩) hg2).trans d3
      have x4 := (hB.cell (p := ⟨g2, k * 2 + 1, none⟩) hg2).trans d4
      clear d1 d2 d3 d4
      generalize l[k] = x at *
      go_wp2
      go_quiet (fail)
      go_wp2
      go_roundw
      case rel => exact ⟨k + 1, by omega, by go_num, below_drewN hB _⟩
      case measure => simp [RowKit.intOf]; omega
    · have hk' : k = l.length := by omega
      subst hk'
      go_wp2
      go_ret
      exact ⟨rfl, hB⟩
end Go.Proofs.Ytekinbeiljmddaa
