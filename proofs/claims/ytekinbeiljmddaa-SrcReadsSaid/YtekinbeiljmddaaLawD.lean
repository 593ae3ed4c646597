/- The law SrcReads of mortiselaw02. -/
import Derived.Test.YtekinbeiljmddaaBoth
import Derived.Test.YtekinbeiljmddaaLawC
namespace Go.Proofs.Ytekinbeiljmddaa
open Go.RowKit Go.Conc Go.Lib
set_option linter.unusedVariables false
set_option linter.unusedSimpArgs false

abbrev TAsks : Ty := .slice 24 (.pair (.int .i64) (.pair (.int .i64) (.pair .bool .unit)))

theorem ask_cells {w : World} {xs : TAsks.Val} {a : Option Addr} {len cap : Nat} (h : Rep w TAsks xs [.slice a len cap]) {k : Nat} (hk : k < xs.length) :
    ∃ b o, a = some ⟨b, o, none⟩ ∧ b < w.heap.size ∧ w.cell? ⟨b, o + k * 3, none⟩ = some (.int .i64 xs[k].1) ∧ w.cell? ⟨b, o + k * 3 + 1, none⟩ = some (.int .i64 xs[k].2.1) ∧ w.cell? ⟨b, o + k * 3 + 2, none⟩ = some (.bool xs[k].2.2.1) ∧
      (xs[k].1 : Int) ≤ 9223372036854775807 := by
  obtain ⟨b, o, ha, l, h1, h2, h3, h4⟩ := slice_at h hk
  obtain ⟨r1, rfl, _, hm, h5⟩ := rep_int h4
  obtain ⟨r2, rfl, _, _, h6⟩ := rep_int h5
  obtain ⟨r3, rfl, h7⟩ := rep_bool h6
  obtain rfl := rep_unit h7
  rw [i64_max] at hm
  exact ⟨b, o, ha, h3, h2 0 _ rfl, h2 1 _ rfl, h2 2 _ rfl, hm⟩

theorem steps_wf {w : World} {xs : TSteps.Val} {a : Option Addr} {len cap : Nat} (h : Rep w TSteps xs [.slice a len cap]) : ∀ x ∈ xs, (Lit.int .i64 x.1).wf = true ∧ (Lit.int .i64 x.2.1).wf = true := by
  intro x hx
  obtain ⟨i, hi, rfl⟩ := List.mem_iff_getElem.1 hx
  obtain ⟨b, o, ha, l, h1, h2, h3, h4⟩ := slice_at h hi
  obtain ⟨l1, r1, _, _, h5, h6⟩ := h4
  obtain ⟨l2, r2, _, _, h7, _⟩ := h6
  exact ⟨h5.2, h7.2⟩

/-- An own row of the same steps, as plain data. -/
theorem rep_copy {w w' : World} {base : Nat} {xs : List TStep.Val} {a : Option Addr} {len cap : Nat} {v : Value} (h : Rep w TSteps xs [.slice a len cap]) (ho : w'.ownsRow base 63 2 v xs.length (xs.flatMap stepCells)) :
    ∃ a cap, v = .slice a xs.length cap ∧ Rep w' TSteps xs [.slice a xs.length cap] := by
  have hwf := steps_wf h
  refine rep_own ho rfl (fun _ => rfl) (fun x hx => ?_) ?_
  · obtain ⟨h1, h2⟩ := hwf x hx
    exact ⟨[.int .i64 x.1], [.int .i64 x.2.1], rfl, rfl, ⟨rfl, h1⟩, [.int .i64 x.2.1], [], rfl, rfl, ⟨rfl, h2⟩, rfl⟩
  · have h1 := slice_len h
    obtain ⟨a', cap', h2, h3, _⟩ := h
    exact h3

/-- While the caller's script is overwritten. -/
def OverRel (w : World) (own : Value) (m B C R : Nat) (sv : Value) (s : ByteArray) (xs : List TStep.Val) (v12 : Value) (wr : World) : Prop :=
  ∃ i : Nat, i ≤ m ∧ v12 = .int .i64 i ∧ (∃ l, wr.ownsRow w.heap.size 63 2 own m l) ∧ Both w wr B C R (.slice none 0 0) sv (.slice none 0 0) s xs []

/-- The asks, at their loop's head. -/
def AskRel (w : World) (B C R : Nat) (s : ByteArray) (n : Nat) (v13 : Value) (wr : World) : Prop :=
  ∃ (i : Nat) (st : List TStep.Val) (rd : List (Int × Int)) (rv sv rv2 : Value), i ≤ n ∧ i ≤ 100 ∧ v13 = .int .i64 i ∧ Both w wr B C R rv sv rv2 s st rd ∧ (∀ x ∈ st, fineB x = true) ∧ st.length ≤ 1000 ∧ rd.length + st.length ≤ 1000 + i

/-- While what Reads told is overwritten. -/
def LoRel (w wx : World) (tv : Value) (n : Nat) (v25 : Value) (wr : World) : Prop :=
  ∃ i : Nat, i ≤ n ∧ v25 = .int .i64 i ∧ (∃ l, wr.ownsRow wx.heap.size 77 2 tv n l) ∧ Below wx.heap.size wx wr

set_option maxRecDepth 100000 in
set_option maxHeartbeats 4000000 in
theorem srcReads_calls (s : ByteArray) (xs : TSteps.Val) (a : Option Addr) (cap : Nat) (qs : TAsks.Val) (qa : Option Addr) (qcap : Nat) (w : World) (h : Rep w TSteps xs [.slice a xs.length cap]) (hq : Rep w TAsks qs [.slice qa qs.length qcap]) (hs : s.size ≤ 140737488351232) :
    Calls Try.prog 11 #[.string s, .slice a xs.length cap, .slice qa qs.length qcap] w fun e w' => e = .returned (.bool true) ∧ Below w.heap.size w w' := by
  have hB := bel_refl w
  obtain ⟨i0, hi0, hz0, hz1, hz2⟩ := info_parts info_step
  by_cases hbig : 5000 < s.size
  · go_enter Try.func11, Try.ntmps11
    go_wp2_with (go_at_call 14; with_reducible refine (live2_any _).mono ?_; rintro e w3 ⟨rfl, hb⟩; have hB : Below w.heap.size w w3 := bel_trans (by repeat (first | exact hB | refine bel_alloc ?_ _ | refine below_drewN ?_ _ | refine Below.drew ?_ | refine bel_set ?_ (by simp; omega) _)) hb; have hc := (bcell hb).1; have hs0 := hb.size; (try simp only [heap_size_alloc', heap_size_drewN', heap_size_drew'] at hs0))
    go_ret
    exact ⟨rfl, hB⟩
  change List TStep.Val at xs
  have hxl := slice_len h
  obtain ⟨k, hk⟩ : ∃ k, xs.length = k := ⟨_, rfl⟩
  have hkb : k * 16 ≤ 140737488351232 := by
    have := hxl.2.2; rw [hk] at this; exact this
  clear hxl
  have hrefno : ∀ w', Below w.heap.size w w' → mayS xs = false → Calls Try.prog 34 #[.string s, .slice a k cap] w' fun e w'' => e = .returned (.tuple #[.pointer none, .int .i64 1]) ∧ Below w'.heap.size w' w'' := by
    intro w' hb hm
    have := refNew_no s xs a cap w' (Rep.below hb h) hm
    rw [hk] at this
    exact this
  have hrefok : ∀ w', Below w.heap.size w w' → mayS xs = true → Calls Try.prog 34 #[.string s, .slice a k cap] w' (RefNewPost s xs w') := by
    intro w' hb hm
    have := refNew_ok s xs a cap w' (Rep.below hb h) hm
    rw [hk] at this
    exact this
  have hcopy : ∀ w' v, Below w.heap.size w w' → w'.ownsRow w.heap.size 63 2 v k (xs.flatMap stepCells) → ∃ a c, v = .slice a k c ∧ Rep w' TSteps xs [.slice a k c] := by
    intro w' v hb ho
    rw [← hk] at ho
    have := rep_copy h ho
    rw [hk] at this
    exact this
  rw [hk] at h ⊢
  cases a
  case' none =>
    have hx0 : k = 0 := by
      rcases Nat.eq_zero_or_pos k with h0 | h0
      · exact h0
      · obtain ⟨b, o, ha, _⟩ := step_cells h (k := 0) (by omega)
        cases ha
    subst hx0
    have hown1 : w.ownsRow w.heap.size 63 2 (.slice none 0 0) 0 (xs.flatMap stepCells) := by
      rw [List.eq_nil_of_length_eq_zero hk]; exact World.ownsRow_nil _ _ _ _
    go_enter Try.func11, Try.ntmps11
    go_upto_region 5 with (fail)
  case' some ad =>
    go_enter Try.func11, Try.ntmps11
    go_upto_region 5 with (at_builtin; refine wpList_append_own_at _ rfl _ _ 22 rfl w.heap.size 63 i0 (.agg #[.int .i64 0, .int .i64 0]) 2 16 Try.underlying22 hi0 hz0 hz1 hz2 rfl (by decide) (.slice none 0 0) 0 [] rfl (World.ownsRow_nil _ _ _ _) ad k cap (xs.flatMap stepCells) rfl (by rw [steps_len, hk]) (rep_step_cells' h) (steps_one xs) (by unfold maxLen; omega) (by omega) (by simp) ?_; intro v3 w1 hown1 hgrow _ _; rw [List.nil_append, Nat.zero_add] at hown1; obtain ⟨a9, c9, rfl⟩ := owns_slice hown1; have hB : Below w.heap.size w w1 := hB.grown hgrow (by simp) (by simp [Value.ownBlock]))
  all_goals
    obtain ⟨a7, c7, hv, hrep⟩ := hcopy _ _ hB hown1
    simp only [Value.slice.injEq] at hv
    obtain ⟨rfl, _, rfl⟩ := hv
    have hrep' := hrep
    rw [← hk] at hrep'
    clear hcopy h
    cases hm : mayS xs
    · have hnew := new_no s xs _ _ _ hrep' (mayS_no hm)
      rw [hk] at hnew
      have hrn := fun w' hb => hrefno w' hb hm
      clear hrefno hrefok hown1 hrep hrep' hm
      go_wp2_with (first
        | (go_at_call 13; with_reducible refine (hnew).mono ?_; rintro e w2 ⟨rfl, hb⟩; have hB : Below w.heap.size w w2 := bel_trans (by repeat (first | exact hB | refine bel_alloc ?_ _ | refine below_drewN ?_ _ | refine Below.drew ?_ | refine bel_set ?_ (by simp; omega) _)) hb; have hc := (bcell hb).1; have hs0 := hb.size; (try simp only [heap_size_alloc', heap_size_drewN', heap_size_drew'] at hs0))
        | (go_at_call 34; with_reducible refine (hrn _ hB).mono ?_; rintro e w4 ⟨rfl, hb⟩; have hB : Below w.heap.size w w4 := bel_trans (by repeat (first | exact hB | refine bel_alloc ?_ _ | refine below_drewN ?_ _ | refine Below.drew ?_ | refine bel_set ?_ (by simp; omega) _)) hb; have hc := (bcell hb).1; have hs0 := hb.size; (try simp only [heap_size_alloc', heap_size_drewN', heap_size_drew'] at hs0))
        | (go_at_call 14; with_reducible refine (live2_any _).mono ?_; rintro e w5 ⟨rfl, hb⟩; have hB : Below w.heap.size w w5 := bel_trans (by repeat (first | exact hB | refine bel_alloc ?_ _ | refine below_drewN ?_ _ | refine Below.drew ?_ | refine bel_set ?_ (by simp; omega) _)) hb; have hc := (bcell hb).1; have hs0 := hb.size; (try simp only [heap_size_alloc', heap_size_drewN', heap_size_drew'] at hs0)))
      go_ret
      exact ⟨rfl, hB⟩
    obtain ⟨hkl, hfine, hnf⟩ := mayS_yes hm
    rw [hk] at hkl
    have hnew := new_ok s xs _ _ _ hrep' (by rw [hk]; exact hkl) hnf
    rw [hk] at hnew
    have hrn := fun w' hb => hrefok w' hb hm
    clear hrefno hrefok hrep hrep' hm hnf
    go_wp2_with (first
      | (go_at_call 13; refine hnew.mono ?_; rintro e w2 ⟨B, C, rfl, hC, hi, hb2⟩; have hwb := hB.size; have hwb2 := hb2.size; have hB2 : Below w.heap.size w w2 := bel_trans hB hb2)
      | (go_at_call 34; refine (hrn _ hB2).mono ?_; rintro e w4 ⟨R, sv, rfl, hRw, hiR, hb4⟩; have hB : Below w.heap.size w w4 := bel_trans hB2 hb4)
      | (go_at_call 14; with_reducible refine (live2_any _).mono ?_; rintro e w5 ⟨rfl, hb⟩; have hB : Below w.heap.size w w5 := bel_trans (by repeat (first | exact hB | refine bel_alloc ?_ _ | refine below_drewN ?_ _ | refine Below.drew ?_ | refine bel_set ?_ (by simp; omega) _)) hb; have hc := (bcell hb).1; have hs0 := hb.size; (try simp only [heap_size_alloc', heap_size_drewN', heap_size_drew'] at hs0)))
    have hboth : Both w w5 B C R (.slice none 0 0) sv (.slice none 0 0) s xs [] :=
      Both.after ⟨hi.keep (F := fun _ => False) (Fr.of_below hb4) (fun h => h) (fun h => h) (fun _ _ h => h), hiR, (by intro k hk; simp [Value.ownBlock] at hk), bel_trans hB2 hb4, by omega, by omega⟩ hb
    clear hi hiR hnew hrn
  case' _ =>
    have hown5 : w5.ownsRow w.heap.size 63 2 (.slice a9 k c9) k (xs.flatMap stepCells) := own_fr hown1 (F := fun _ => False) (Fr.of_below (bel_trans (bel_trans hb2 hb4) hb)) (fun _ _ h => h)
    have hown9 : ∀ g, (Value.slice a9 k c9).ownBlock = some g → g < w1.heap.size := fun g hg => (hown1.lt g hg).2
    clear hown1
    go_loopw [12] (fun v12 wr => OverRel w (.slice a9 k c9) k B C R sv s xs v12 wr) (fun v12 _ => k - (RowKit.intOf v12).toNat)
    case atStart => exact ⟨0, by omega, rfl, ⟨_, hown5⟩, hboth⟩
    case' round =>
      obtain ⟨i, hik, rfl, ⟨l, hownr⟩, hbr⟩ := hrel
      clear hboth hown5
      have hB := hbr.below
      rcases Nat.lt_or_ge i k with hlt | hge
      · obtain ⟨g, rfl, hg1, hg2⟩ := own_some hownr (by omega)
        have hg3 := hown9 g rfl
        obtain ⟨⟨x0, hx0⟩, hfx0⟩ := own_cell_some hownr (j := i * 2) (by omega)
        obtain ⟨⟨x1, hx1⟩, hfx1⟩ := own_cell_some hownr (j := i * 2 + 1) (by omega)
        clear hown9 hB2
        go_wp2
        go_roundw
        case rel =>
          obtain ⟨l1, ho1⟩ := own_set hownr (i * 2) (.int .i64 2)
          obtain ⟨l2, ho2⟩ := own_set ho1 (i * 2 + 1) (.int .i64 0)
          exact ⟨i + 1, by omega, by go_num, ⟨l2, ho2⟩, (hbr.set hg1 (by omega) (by omega) _ _).set hg1 (by omega) (by omega) _ _⟩
        case measure => simp [RowKit.intOf]; omega
      have hlen0 : xs.length ≤ 1000 := by omega
      have hbw := hbr
      obtain rfl : k = i := by omega
      clear hownr hown9 hbr hB hge hik hb hc hs0 hb2 hb4
      go_wp2
      clear hwb hwb2 hB2 hRw hC
  rotate_left
  case' _ =>
    have hlen0 : xs.length ≤ 1000 := by omega
    clear hB hc hs0 hb hb4 hb2 hown1
    go_loopw [12] (fun v12 wr => v12 = .int .i64 0 ∧ wr = w5) (fun _ _ => 0)
    case atStart => exact ⟨rfl, rfl⟩
    case' round =>
      obtain ⟨rfl, rfl⟩ := hrel
      have hbw := hboth
      go_wp2
  all_goals
    have hqn : ∀ w', Below w.heap.size w w' → Rep w' TAsks qs [.slice qa qs.length qcap] := fun w' hb => Rep.below hb hq
    have hs9 : s.size ≤ 5000 := by omega
    clear hq
    go_loopw [13] (fun v13 wr => AskRel w B C R s qs.length v13 wr) (fun v13 _ => 100 - (RowKit.intOf v13).toNat)
    case atStart => exact ⟨0, xs, [], _, _, _, by omega, by omega, rfl, hbw, hfine, hlen0, by simp; omega⟩
    case' round =>
      obtain ⟨i, st, rd, rv1, sv1, rv21, hiq, hi100, rfl, hb0, hfi, hst, hrd⟩ := hrel
      clear hbw hfine
      rcases (show (i < qs.length ∧ i < 100) ∨ (¬ i < qs.length ∨ (i < qs.length ∧ ¬ i < 100)) by omega) with ⟨hlt, hlt2⟩ | hex
      · have hqr := hqn _ hb0.below
        obtain ⟨b, o, hqa, hbb, hc1, hc2, hc3, hm1⟩ := ask_cells hqr hlt
        obtain ⟨⟨at_, n, full, u⟩, hx⟩ : ∃ x, qs[i] = x := ⟨_, rfl⟩
        change Int at at_
        change Int at n
        change Bool at full
        rw [hx] at hc1 hc2 hc3 hm1
        have e1 : wr.cell? ⟨b, o + i * 3, none⟩ = some (.int .i64 at_) := hc1
        have e2 : wr.cell? ⟨b, o + i * 3 + 1, none⟩ = some (.int .i64 n) := hc2
        have e3 : wr.cell? ⟨b, o + i * 3 + 2, none⟩ = some (.bool full) := hc3
        have e4 : at_ ≤ 9223372036854775807 := hm1
        clear hc1 hc2 hc3 hm1 hx hqr hqn
        subst hqa
        cases full
        · cases hr : refB at_ n
          · obtain ⟨m1, rfl⟩ := Int.eq_ofNat_of_zero_le (show 0 ≤ at_ by unfold refB at hr; simp at hr; omega)
            obtain ⟨m2, rfl⟩ := Int.eq_ofNat_of_zero_le (show 0 ≤ n by unfold refB at hr; simp at hr; omega)
            have hb1 := hb0.after (bel_alloc (bel_refl _) (.cells #[.int .i64 m1, .int .i64 m2, .bool false] 70))
            have hread := readAt_any m1 m2 _ hb1.src hr hfi hs (by omega)
            have href := fun (w2 : World) (h2 : RefInv w2 R sv1 rv21 s st rd) => refReadAt_any m1 m2 w2 h2 hr hfi hs (by omega)
            have hln := addSpan_length rd m1 (rdLen s.size (nextS st) m1 m2)
            unfold ReadOut at hread
            unfold RefOut at href
            change Calls _ _ _ _ (fun e w' => _ ∧ ∃ rv', SrcInv w' B C rv' s st.tail (addSpan rd m1 (rdLen s.size (nextS st) m1 m2)) ∧ _) at hread
            generalize addSpan rd m1 (rdLen s.size (nextS st) m1 m2) = rd3 at hread href hln
            generalize s.extract m1 (m1 + rdLen s.size (nextS st) m1 m2) = txt at hread href
            generalize rdErr s.size (nextS st) m1 m2 = E3 at hread href
            have hlt9 : st.tail.length ≤ st.length ∧ rd3.length + st.tail.length ≤ rd.length + st.length + 1 := by rw [List.length_tail]; omega
            go_wp2_with (first
              | (go_at_call 15; refine hread.mono ?_; rintro e w2 ⟨rfl, rv3, hs3, hf3, ho3⟩; have hra := hb1.ref_after hf3; have hbx := hf3.blk (Blk.new wr _) (srcF_ne hb1.src (Blk.new wr _) (by decide) (by decide)); have q0 := hbx.cell 0; have q1 := hbx.cell 1)
              | (go_at_call 36; refine (href _ hra).mono ?_; rintro e w3 ⟨rfl, sv3, rv23, hr3, hf23, ho23⟩; have hb3 := hb1.next hs3 hf3 ho3 hr3 hf23 ho23))
            obtain ⟨sa, scap, hsv, hscl, _⟩ := hb3.ref.scr
            have hcs := hb3.ref.obj.cell 1
            simp only [List.getElem?_toArray, List.getElem?_cons_succ, List.getElem?_cons_zero] at hcs
            rw [hsv] at hcs
            have hst3 := Nat.le_trans hlt9.1 hst
            go_wp2_with (fail)
            go_quiet ((go_at_call 37; exact Calls.quiet_of_same ((srcLeft_some _ (hb3.after (below_drewN (bel_refl _) _)).src hst3).mono fun _ _ h => ⟨h.1, h.2.symm⟩)))
            go_wp2
            go_roundw
            case rel => exact ⟨i + 1, st.tail, rd3, rv3, sv3, rv23, by omega, by omega, by go_num, hb3.after (below_drewN (bel_refl _) _), fun x hx => hfi x (List.mem_of_mem_tail hx), hst3, by have := hlt9.2; omega⟩
            case measure => simp [RowKit.intOf]; omega
          · have hb3 := hb0.after (bel_alloc (bel_refl _) (.cells #[.int .i64 at_, .int .i64 n, .bool false] 70))
            go_wp2_with (first
              | (go_at_call 15; with_reducible refine (readAt_ref _ _ _ _ hr).mono ?_; rintro e w1 ⟨rfl, rfl⟩)
              | (go_at_call 36; with_reducible refine (refReadAt_ref _ _ _ _ hr).mono ?_; rintro e w1 ⟨rfl, rfl⟩))
            obtain ⟨sa, scap, hsv, hscl, _⟩ := hb3.ref.scr
            have hcs := hb3.ref.obj.cell 1
            simp only [List.getElem?_toArray, List.getElem?_cons_succ, List.getElem?_cons_zero] at hcs
            rw [hsv] at hcs
            have hst3 := hst
            go_wp2_with (fail)
            go_quiet ((go_at_call 37; exact Calls.quiet_of_same ((srcLeft_some _ (hb3.after (below_drewN (bel_refl _) _)).src hst3).mono fun _ _ h => ⟨h.1, h.2.symm⟩)))
            go_wp2
            go_roundw
            case rel => exact ⟨i + 1, st, rd, rv1, sv1, rv21, by omega, by omega, by go_num, hb3.after (below_drewN (bel_refl _) _), hfi, hst3, by omega⟩
            case measure => simp [RowKit.intOf]; omega
        · cases hr : refB at_ n
          · obtain ⟨m1, rfl⟩ := Int.eq_ofNat_of_zero_le (show 0 ≤ at_ by unfold refB at hr; simp at hr; omega)
            obtain ⟨m2, rfl⟩ := Int.eq_ofNat_of_zero_le (show 0 ≤ n by unfold refB at hr; simp at hr; omega)
            have hb1 := hb0.after (bel_alloc (bel_refl _) (.cells #[.int .i64 m1, .int .i64 m2, .bool true] 70))
            have hread := full_any m1 m2 _ hb1.src hr hfi hs (by omega) (by omega)
            have href := fun (w2 : World) (h2 : RefInv w2 R sv1 rv21 s st rd) => refFull_any m1 m2 w2 h2 hr hfi hs (by omega) (by omega)
            have hsub := fullS_sub (len := s.size) (at_ := m1) (n := m2) st 0 rd
            have hlef := fullS_left (len := s.size) (at_ := m1) (n := m2) st 0 rd
            unfold FullOut at hread
            unfold RefFullOut RefOut at href
            generalize fullS s.size m1 m2 st 0 rd = O at hread href hsub hlef
            obtain ⟨E3, st3, rd3⟩ := O
            simp only at hread href hsub hlef
            obtain ⟨txt, htxt⟩ : ∃ t, (if E3 = 0 then s.extract m1 (m1 + m2) else (⟨#[]⟩ : ByteArray)) = t := ⟨_, rfl⟩
            rw [htxt] at hread href
            clear htxt
            go_wp2_with (first
              | (go_at_call 28; refine hread.mono ?_; rintro e w2 ⟨rfl, rv3, hs3, hf3, ho3⟩; have hra := hb1.ref_after hf3; have hbx := hf3.blk (Blk.new wr _) (srcF_ne hb1.src (Blk.new wr _) (by decide) (by decide)); have q0 := hbx.cell 0; have q1 := hbx.cell 1)
              | (go_at_call 35; refine (href _ hra).mono ?_; rintro e w3 ⟨rfl, sv3, rv23, hr3, hf23, ho23⟩; have hb3 := hb1.next hs3 hf3 ho3 hr3 hf23 ho23))
            obtain ⟨sa, scap, hsv, hscl, _⟩ := hb3.ref.scr
            have hcs := hb3.ref.obj.cell 1
            simp only [List.getElem?_toArray, List.getElem?_cons_succ, List.getElem?_cons_zero] at hcs
            rw [hsv] at hcs
            have hst3 := Nat.le_trans hlef hst
            go_wp2_with (fail)
            go_quiet ((go_at_call 37; exact Calls.quiet_of_same ((srcLeft_some _ (hb3.after (below_drewN (bel_refl _) _)).src hst3).mono fun _ _ h => ⟨h.1, h.2.symm⟩)))
            go_wp2
            go_roundw
            case rel => exact ⟨i + 1, st3, rd3, rv3, sv3, rv23, by omega, by omega, by go_num, hb3.after (below_drewN (bel_refl _) _), fun x hx => hfi x (hsub.1 x hx), hst3, by have := hsub.2; omega⟩
            case measure => simp [RowKit.intOf]; omega
          · have hb3 := hb0.after (bel_alloc (bel_refl _) (.cells #[.int .i64 at_, .int .i64 n, .bool true] 70))
            go_wp2_with (first
              | (go_at_call 28; with_reducible refine (full_ref _ _ _ _ hr).mono ?_; rintro e w1 ⟨rfl, rfl⟩)
              | (go_at_call 35; with_reducible refine (refFull_ref _ _ _ _ hr).mono ?_; rintro e w1 ⟨rfl, rfl⟩))
            obtain ⟨sa, scap, hsv, hscl, _⟩ := hb3.ref.scr
            have hcs := hb3.ref.obj.cell 1
            simp only [List.getElem?_toArray, List.getElem?_cons_succ, List.getElem?_cons_zero] at hcs
            rw [hsv] at hcs
            have hst3 := hst
            go_wp2_with (fail)
            go_quiet ((go_at_call 37; exact Calls.quiet_of_same ((srcLeft_some _ (hb3.after (below_drewN (bel_refl _) _)).src hst3).mono fun _ _ h => ⟨h.1, h.2.symm⟩)))
            go_wp2
            go_roundw
            case rel => exact ⟨i + 1, st, rd, rv1, sv1, rv21, by omega, by omega, by go_num, hb3.after (below_drewN (bel_refl _) _), hfi, hst3, by omega⟩
            case measure => simp [RowKit.intOf]; omega
  all_goals
    have hrdn : rd.length ≤ 1000000000 := by omega
    have hreads := fun (w' : World) (rv : Value) (h' : SrcInv w' B C rv s st rd) => srcReads_some w' h' hrdn
    have c2 := hb0.ref.obj.cell 2
    have hrow2 := hb0.ref.row
    rcases hex with hex | ⟨hex, hex2⟩
    all_goals
      go_wp2_with (first
        | (go_at_call 38; refine (hreads _ _ hb0.src).mono ?_; rintro e w6 ⟨tv, rfl, hown6, hb6⟩; have hb7 := hb0.after hb6; have c2' := hb7.ref.obj.cell 2)
        | (go_at_call 39; refine (sameSpans_any _ _ rd _ hown6 hb7.ref.row hrdn).mono ?_; rintro e w7 ⟨rfl, hb8⟩; have hb9 := hb7.after hb8; have hown7 := own_fr hown6 (F := fun _ => False) (Fr.of_below hb8) (fun _ _ h => h)))
      obtain ⟨ta, tc, rfl⟩ := owns_slice hown7
      have hb67 : Below wr.heap.size wr w7 := bel_trans hb6 hb8
      clear hown6 hb7 hb9 c2 c2' hrow2 hb6 hb8
      go_loopw [25] (fun v25 wq => LoRel w wr (.slice ta rd.length tc) rd.length v25 wq) (fun v25 _ => rd.length - (RowKit.intOf v25).toNat)
      case atStart => exact ⟨0, by omega, rfl, ⟨_, hown7⟩, hb67⟩
      case round =>
        obtain ⟨j, hj, rfl, ⟨l, hownq⟩, hbq⟩ := hrel
        clear hown7 hb67
        rcases Nat.lt_or_ge j rd.length with hlt | hge
        · obtain ⟨g, rfl, hg1, hg2⟩ := own_some hownq (by omega)
          obtain ⟨⟨x0, hx0⟩, hfx0⟩ := own_cell_some hownq (j := j * 2) (by omega)
          go_wp2
          go_roundw
          case rel =>
            obtain ⟨l1, ho1⟩ := own_set hownq (j * 2) (.int .i64 (-7))
            exact ⟨j + 1, by omega, by go_num, ⟨l1, ho1⟩, bel_set hbq hg1 _⟩
          case measure => simp [RowKit.intOf]; omega
        · have hbz := hb0.after hbq
          clear hownq
          go_wp2_with (first
            | (go_at_call 38; refine (hreads _ _ hbz.src).mono ?_; rintro e w8 ⟨tv2, rfl, hown8, hb10⟩; have hb11 := hbz.after hb10; have c2'' := hb11.ref.obj.cell 2)
            | (go_at_call 39; refine (sameSpans_any _ _ rd _ hown8 hb11.ref.row hrdn).mono ?_; rintro e w9 ⟨rfl, hb12⟩; have hb13 := hb11.after hb12)
            | (go_at_call 40; refine (srcLen_some _ hb13.src hs).mono ?_; rintro e w10 ⟨rfl, rfl⟩))
          go_ret
          exact ⟨rfl, hb13.below⟩
end Go.Proofs.Ytekinbeiljmddaa
