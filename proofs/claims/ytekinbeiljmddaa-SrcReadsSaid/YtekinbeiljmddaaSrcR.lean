/- Contracts of package src: refuses, ReadAt, Left, Len, Reads. -/
import Derived.Test.YtekinbeiljmddaaSrcN
namespace Go.Proofs.Ytekinbeiljmddaa
open Go.RowKit Go.Conc
set_option linter.unusedVariables false
set_option linter.unusedSimpArgs false

def refB (at_ n : Int) : Bool := decide (at_ < 0 ∨ n < 0 ∨ 1048576 < n)

set_option maxHeartbeats 400000 in
theorem refuses_some (p : Addr) (at_ n : Int) (w : World) :
    Calls Try.prog 44 #[.pointer (some p), .int .i64 at_, .int .i64 n] w fun e w' => e = .returned (.bool (refB at_ n)) ∧ w = w' := by
  by_cases h1 : at_ < 0
  · have Hs : Hid (refB at_ n = true) := by unfold Hid refB; simp [h1]
    go_enter Try.func44, Try.ntmps44
    go_wp2
    go_ret
    rw [Hs.out]; exact ⟨rfl, rfl⟩
  by_cases h2 : n < 0
  · have Hs : Hid (refB at_ n = true) := by unfold Hid refB; simp [h2]
    go_enter Try.func44, Try.ntmps44
    go_wp2
    go_ret
    rw [Hs.out]; exact ⟨rfl, rfl⟩
  by_cases h3 : 1048576 < n
  · have Hs : Hid (refB at_ n = true) := by unfold Hid refB; simp [h3]
    go_enter Try.func44, Try.ntmps44
    go_wp2
    go_ret
    rw [Hs.out]; exact ⟨rfl, rfl⟩
  have Hs : Hid (refB at_ n = false) := by unfold Hid refB; simp; omega
  go_enter Try.func44, Try.ntmps44
  go_wp2
  go_ret
  rw [Hs.out]; first | exact ⟨rfl, rfl⟩ | exact ⟨by simp; omega, rfl⟩

theorem refuses_none (at_ n : Int) (w : World) :
    Calls Try.prog 44 #[.pointer none, .int .i64 at_, .int .i64 n] w fun e w' => e = .returned (.bool true) ∧ w = w' := by
  go_enter Try.func44, Try.ntmps44
  go_wp2
  go_ret
  exact ⟨rfl, rfl⟩

/-- How many bytes a read could bring; how many it brings; its error. -/
def rdMost (len at_ n : Nat) : Nat := min n (len - at_)
def rdShort (x : TStep.Val) (m : Nat) : Bool := x.1 == 1 && decide (x.2.1 < (m : Int))
def rdLen (len : Nat) (x : TStep.Val) (at_ n : Nat) : Nat := if x.1 = 2 then 0 else if rdShort x (rdMost len at_ n) = true then x.2.1.toNat else rdMost len at_ n
def rdErr (len : Nat) (x : TStep.Val) (at_ n : Nat) : Int := if x.1 = 2 then 7 else if rdShort x (rdMost len at_ n) = true then 0 else if rdMost len at_ n < n then 2 else 0
def rdSpan (len : Nat) (x : TStep.Val) (at_ n : Nat) : List (Int × Int) := if 0 < rdLen len x at_ n then [((at_ : Int), ((at_ + rdLen len x at_ n : Nat) : Int))] else []
def rdText (s : ByteArray) (x : TStep.Val) (at_ n : Nat) : ByteArray := s.extract at_ (at_ + rdLen s.size x at_ n)

def ReadOut (B C : Nat) (rv : Value) (s : ByteArray) (steps : List TStep.Val) (reads : List (Int × Int)) (at_ L : Nat) (E : Int) (w : World) (e : Ending) (w' : World) : Prop :=
  e = .returned (.tuple #[.string (s.extract at_ (at_ + L)), .int .i64 E]) ∧
    ∃ rv', SrcInv w' B C rv' s steps (reads ++ if 0 < L then [((at_ : Int), ((at_ + L : Nat) : Int))] else []) ∧ Fr (SrcF B C rv) w w' ∧ ∀ k, rv'.ownBlock = some k → rv.ownBlock = some k ∨ w.heap.size ≤ k

theorem extract_zero (s : ByteArray) (i : Nat) : s.extract i (i + 0) = ByteArray.empty := by
  apply ByteArray.ext; simp
theorem extract_past (s : ByteArray) {i j : Nat} (h : s.size ≤ i) : s.extract i j = ByteArray.empty := by
  apply ByteArray.ext
  rw [ByteArray.data_extract]
  exact Array.extract_empty_of_size_le_start h

set_option maxHeartbeats 1000000 in
theorem readAt_fault {B C : Nat} {rv : Value} {s : ByteArray} {steps : List TStep.Val} {reads : List (Int × Int)} (at_ n : Nat) (w : World) (h : SrcInv w B C rv s steps reads) (hr : refB at_ n = false) (hx : (nextS steps).1 = 2) :
    Calls Try.prog 15 #[.pointer (some ⟨B, 0, none⟩), .int .i64 at_, .int .i64 n] w (ReadOut B C rv s steps.tail reads at_ 0 7 w) := by
  have hnx := next_any w h
  go_enter Try.func15, Try.ntmps15
  go_wp2_with (first
    | (go_at_call 44; with_reducible refine (refuses_some _ _ _ _).mono ?_; rintro e w1 ⟨rfl, rfl⟩)
    | (go_at_call 45; refine hnx.mono ?_; rintro e w1 ⟨rfl, hi, hF⟩))
  go_ret2
  refine ⟨?_, rv, ?_, (Fr.refl _ _).trans (hF.alloc _) (fun k hk => Or.inl (Or.inr (Or.inl hk))), fun k hk => Or.inl hk⟩
  · rw [extract_zero]; rfl
  · rw [if_neg (by omega), List.append_nil]
    exact hi.keep (F := fun _ => False) (Fr.alloc (Fr.refl _ _) _) (fun h => h) (fun h => h) (fun _ _ h => h)

theorem info_span : (Try.prog.info? 77).map (fun i => (i.zero, i.size, i.bytes)) = some (some (.agg #[.int .i64 0, .int .i64 0]), 2, 16) := by kernel_rfl

set_option maxHeartbeats 4000000 in
set_option maxRecDepth 100000 in
theorem readAt_in {B C : Nat} {rv : Value} {s : ByteArray} {steps : List TStep.Val} {reads : List (Int × Int)} (at_ n k0 L : Nat) (E kd nn : Int) (w : World) (h : SrcInv w B C rv s steps reads) (hr : refB at_ n = false)
    (hst : nextS steps = (kd, nn, ())) (hx : (kd == 2) = false) (hs : s.size ≤ 140737488351232) (hrd : reads.length ≤ 1000000000)
    (hk0 : k0 = rdMost s.size at_ n)
    (hL : ((kd == 1) = true ∧ nn < (k0 : Int) ∧ nn = (L : Int) ∧ E = 0) ∨ (L = k0 ∧ E = (if k0 < n then 2 else 0) ∧ ((kd == 1) = false ∨ (kd == 1) = true ∧ (k0 : Int) ≤ nn))) :
    Calls Try.prog 15 #[.pointer (some ⟨B, 0, none⟩), .int .i64 at_, .int .i64 n] w
      (ReadOut B C rv s steps.tail reads at_ L E w) := by
  have hnx := next_any w h
  obtain ⟨i0, hi0, hz0, hz1, hz2⟩ := info_parts info_span
  have hk1 : k0 ≤ n := by rw [hk0]; unfold rdMost; omega
  have hk2 : k0 ≤ s.size - at_ := by rw [hk0]; unfold rdMost; omega
  have hk3 : k0 < n → k0 = s.size - at_ := by rw [hk0]; unfold rdMost; omega
  have hn : n ≤ 1048576 := by unfold refB at hr; simp at hr; omega
  clear hk0
  have hnx' : Calls Try.prog 45 #[.pointer (some ⟨B, 0, none⟩)] w fun e w' => e = .returned (.agg #[.int .i64 kd, .int .i64 nn]) ∧ SrcInv w' B C rv s steps.tail reads ∧ Fr (fun k => k = C) w w' := by
    have := hnx; unfold NextPost at this; rw [hst] at this; exact this
  clear hnx hst
  have hp : ∃ p : Nat, (min (at_ : Int) (s.size : Int)).toNat = p ∧ p ≤ s.size ∧ s.size - p = s.size - at_ ∧ s.extract p s.size = s.extract at_ s.size := by
    refine ⟨_, rfl, by omega, by omega, ?_⟩
    by_cases ha : at_ ≤ s.size
    · congr 1; omega
    · rw [extract_past s (by omega), extract_past s (by omega)]
  go_enter Try.func15, Try.ntmps15
  go_wp2_with (first
    | (go_at_call 44; with_reducible refine (refuses_some _ _ _ _).mono ?_; rintro e w1 ⟨rfl, rfl⟩)
    | (go_at_call 45; refine hnx'.mono ?_; rintro e w1 ⟨rfl, hi, hF⟩))
  have hc0 : w1.cell? ⟨B, 0, none⟩ = some (.string s) := by rw [hi.obj.cell]; rfl
  have hc2 : w1.cell? ⟨B, 2, none⟩ = some rv := by rw [hi.obj.cell]; rfl
  have hf2 : w1.frozen? ⟨B, 2, none⟩ = false := hi.obj.frozen 2
  have hBl := hi.obj.lt
  go_quiet (fail)
  obtain ⟨p, hp1, hp2, hp3, hp4⟩ := hp
  rw [hp1, hp4]
  obtain ⟨rest, hrest⟩ : ∃ rest, s.extract at_ s.size = rest := ⟨_, rfl⟩
  have hrs : rest.size = s.size - at_ := by rw [← hrest, ByteArray.size_extract]; omega
  have hmin : min (n : Int) (rest.size : Int) = (k0 : Int) := by
    by_cases hlt : k0 < n
    · have := hk3 hlt; omega
    · omega
  have hrb : rest.size ≤ 140737488351232 := by omega
  have hrt : L ≤ rest.size → rest.extract 0 L = s.extract at_ (at_ + L) := by
    intro hL
    rw [← hrest, ByteArray.extract_extract]
    by_cases h9 : at_ + L ≤ s.size
    · congr 1; omega
    · have h8 : L = 0 := by omega
      subst h8
      rw [extract_past s (by omega), extract_past s (by omega)]
  rw [hrest]
  have hLr : L ≤ rest.size := by rcases hL with ⟨_, h1, h2, _⟩ | ⟨h1, _⟩ <;> omega
  have htest : (rest.size < n) = (k0 < n) := by
    apply propext
    constructor
    · intro h1; omega
    · intro h1; have := hk3 h1; omega
  clear hp1 hp2 hp3 hp4
  have Hrt := hid (hrt hLr)
  clear hrt hrest hrs
  have hrow := hi.row
  have hrl : ∀ k, rv.ownBlock = some k → B + 1 ≤ k ∧ k < w1.heap.size := hrow.lt
  have Hrl := hid hrl
  clear hrl
  have hat : 0 < L → at_ + L ≤ s.size := by intro hL0; omega
  have hobj0 := hi.obj.alloc (.cells #[.int .i64 kd, .int .i64 nn] 63)
  obtain ⟨cap0, sent0, rcvd0, hch0⟩ := hi.chan
  have hown0 : World.ownsRow ((w1.alloc (.cells #[.int .i64 kd, .int .i64 nn] 63)).drewN nq) (B + 1) 77 2 rv reads.length (reads.flatMap spanV) := hrow.alloc _
  have fin0 : L = 0 → ∀ nq, SrcInv ((w1.alloc (.cells #[.int .i64 kd, .int .i64 nn] 63)).drewN nq) B C rv s steps.tail (reads ++ if 0 < L then [((at_ : Int), ((at_ + L : Nat) : Int))] else []) := by
    intro h0 nq
    rw [if_neg (by omega), List.append_nil]
    exact hi.keep (F := fun _ => False) ((Fr.alloc (Fr.refl _ _) _).drewN _) (fun h => h) (fun h => h) (fun _ _ h => h)
  have hFr : ∀ nq, Fr (SrcF B C rv) w ((w1.alloc (.cells #[.int .i64 kd, .int .i64 nn] 63)).drewN nq) := fun nq =>
    (Fr.refl _ _).trans ((hF.alloc _).drewN nq) (fun k hk => Or.inl (Or.inr (Or.inl hk)))
  have Hfin0 := hid fin0
  have HFr := hid hFr
  clear fin0 hFr
  by_cases hlt : k0 < n
  · have h1 : rest.size < n := by rw [htest]; exact hlt
    clear htest hk3
    rcases hL with ⟨g1, g2, rfl, rfl⟩ | ⟨hLk, he, g1 | ⟨g1, g2⟩⟩
    all_goals
      first | (obtain rfl : E = 2 := by rw [he, if_pos hlt]) | skip
      try (subst hLk)
      try (clear he)
      by_cases hL0 : 0 < L
      case pos =>
        have hat1 : at_ + L ≤ 140737488351232 := by have := hat hL0; omega
        clear hat
        go_wp2_with (at_builtin; refine wpList_append_own_at _ rfl _ _ 71 rfl (B + 1) 77 i0 (.agg #[.int .i64 0, .int .i64 0]) 2 16 Try.underlying71 hi0 hz0 hz1 hz2 rfl (by decide) rv reads.length (reads.flatMap spanV) rfl (hown0.alloc _) ⟨w1.heap.size + 1, 0, none⟩ 1 1 [.int .i64 at_, .int .i64 (at_ + L)] rfl rfl (two_new _ _ _ _ _ (by simp)) (by intro u hu; simp at hu; rcases hu with rfl | rfl <;> rfl) (by unfold maxLen; omega) (by omega) (by simp; omega) ?_; intro v' w3 hown' hgrow hnil hat9; obtain ⟨a9, c9, rfl⟩ := owns_slice hown'; have hbB := blk_grown ((hobj0.drewN _).alloc _) hgrow (fun h => by have := (Hrl.out _ h).1; omega); have hcB := hbB.cell 2; have hfB := hbB.frozen 2)
        go_ret2
        rw [Hrt.out]
        have hbC := blk_grown (((hch0.alloc _).drewN _).alloc _) hgrow (fun h => by have := (Hrl.out _ h).1; have := hi.lt; omega)
        refine ⟨rfl, _, ⟨hi.lt, hbB.setCell_same 2 _, ⟨_, _, _, hbC.setCell_other _ (by have := hi.lt; simp; omega)⟩, ?_⟩, ?_, ?_⟩
        · rw [if_pos hL0]
          have := ownsRow_setCell_below hown' (a := ⟨B, 2, none⟩) (Nat.lt_succ_self B) (.slice a9 (reads.length + 1) c9)
          simpa [spanV] using this
        · exact ((Fr.refl _ _).trans ((HFr.out _).alloc _) (fun k hk => Or.inl hk)).grown hgrow (fun x hx => Or.inl (Or.inr (Or.inr hx))) |>.setCell (Or.inl (Or.inl rfl)) _
        · intro k hk
          rcases hat9 with h9 | h9
          · left; rw [← h9]; exact hk
          · right; rw [h9] at hk; simp at hk; have := hF.size; omega
      case neg =>
        have hL9 : L = 0 := by omega
        subst hL9
        go_wp2
        go_ret2
        refine ⟨?_, rv, Hfin0.out (by first | rfl | trivial) _, HFr.out _, fun k hk => Or.inl hk⟩
        have := Hrt.out
        rw [← this]; simp
  · have h1 : ¬ rest.size < n := by rw [htest]; exact hlt
    clear htest hk3
    rcases hL with ⟨g1, g2, rfl, rfl⟩ | ⟨hLk, he, g1 | ⟨g1, g2⟩⟩
    all_goals
      first | (obtain rfl : E = 0 := by rw [he, if_neg hlt]) | skip
      try (subst hLk)
      try (clear he)
      by_cases hL0 : 0 < L
      case pos =>
        have hat1 : at_ + L ≤ 140737488351232 := by have := hat hL0; omega
        clear hat
        go_wp2_with (at_builtin; refine wpList_append_own_at _ rfl _ _ 71 rfl (B + 1) 77 i0 (.agg #[.int .i64 0, .int .i64 0]) 2 16 Try.underlying71 hi0 hz0 hz1 hz2 rfl (by decide) rv reads.length (reads.flatMap spanV) rfl (hown0.alloc _) ⟨w1.heap.size + 1, 0, none⟩ 1 1 [.int .i64 at_, .int .i64 (at_ + L)] rfl rfl (two_new _ _ _ _ _ (by simp)) (by intro u hu; simp at hu; rcases hu with rfl | rfl <;> rfl) (by unfold maxLen; omega) (by omega) (by simp; omega) ?_; intro v' w3 hown' hgrow hnil hat9; obtain ⟨a9, c9, rfl⟩ := owns_slice hown'; have hbB := blk_grown ((hobj0.drewN _).alloc _) hgrow (fun h => by have := (Hrl.out _ h).1; omega); have hcB := hbB.cell 2; have hfB := hbB.frozen 2)
        go_ret2
        rw [Hrt.out]
        have hbC := blk_grown (((hch0.alloc _).drewN _).alloc _) hgrow (fun h => by have := (Hrl.out _ h).1; have := hi.lt; omega)
        refine ⟨rfl, _, ⟨hi.lt, hbB.setCell_same 2 _, ⟨_, _, _, hbC.setCell_other _ (by have := hi.lt; simp; omega)⟩, ?_⟩, ?_, ?_⟩
        · rw [if_pos hL0]
          have := ownsRow_setCell_below hown' (a := ⟨B, 2, none⟩) (Nat.lt_succ_self B) (.slice a9 (reads.length + 1) c9)
          simpa [spanV] using this
        · exact ((Fr.refl _ _).trans ((HFr.out _).alloc _) (fun k hk => Or.inl hk)).grown hgrow (fun x hx => Or.inl (Or.inr (Or.inr hx))) |>.setCell (Or.inl (Or.inl rfl)) _
        · intro k hk
          rcases hat9 with h9 | h9
          · left; rw [← h9]; exact hk
          · right; rw [h9] at hk; simp at hk; have := hF.size; omega
      case neg =>
        have hL9 : L = 0 := by omega
        subst hL9
        go_wp2
        go_ret2
        refine ⟨?_, rv, Hfin0.out (by first | rfl | trivial) _, HFr.out _, fun k hk => Or.inl hk⟩
        have := Hrt.out
        rw [← this]; simp

theorem next_fine {steps : List TStep.Val} (h : ∀ x ∈ steps, fineB x = true) : fineB (nextS steps) = true := by
  cases steps with
  | nil => rfl
  | cons x r => exact h x (by simp)
theorem fine_nonneg {x : TStep.Val} (h : fineB x = true) (h1 : x.1 = 1) : 0 ≤ x.2.1 := by
  unfold fineB at h
  rw [h1] at h
  simpa using h

theorem readAt_any {B C : Nat} {rv : Value} {s : ByteArray} {steps : List TStep.Val} {reads : List (Int × Int)} (at_ n : Nat) (w : World) (h : SrcInv w B C rv s steps reads) (hr : refB at_ n = false)
    (hf : ∀ x ∈ steps, fineB x = true) (hs : s.size ≤ 140737488351232) (hrd : reads.length ≤ 1000000000) :
    Calls Try.prog 15 #[.pointer (some ⟨B, 0, none⟩), .int .i64 at_, .int .i64 n] w
      (ReadOut B C rv s steps.tail reads at_ (rdLen s.size (nextS steps) at_ n) (rdErr s.size (nextS steps) at_ n) w) := by
  by_cases hx : (nextS steps).1 = 2
  · have e1 : rdLen s.size (nextS steps) at_ n = 0 := by unfold rdLen; rw [if_pos hx]
    have e2 : rdErr s.size (nextS steps) at_ n = 7 := by unfold rdErr; rw [if_pos hx]
    rw [e1, e2]
    exact readAt_fault at_ n w h hr hx
  · have hfi := fine_nonneg (next_fine hf)
    unfold rdLen rdErr
    rw [if_neg hx, if_neg hx]
    generalize hnx : nextS steps = x at *
    obtain ⟨kd, nn, u⟩ := x
    change Int at kd
    change Int at nn
    have hfi' : kd = 1 → 0 ≤ nn := hfi
    have hx' : (kd == 2) = false := beq_eq_false_iff_ne.2 hx
    by_cases hsh : rdShort (kd, nn, u) (rdMost s.size at_ n) = true
    · rw [if_pos hsh, if_pos hsh]
      unfold rdShort at hsh
      simp only [Bool.and_eq_true, decide_eq_true_eq] at hsh
      have h1 : kd = 1 := by simpa using hsh.1
      have h2 := hfi' h1
      exact readAt_in at_ n _ _ 0 kd nn w h hr hnx hx' hs hrd rfl (Or.inl ⟨hsh.1, hsh.2, (Int.toNat_of_nonneg h2).symm, rfl⟩)
    · rw [if_neg hsh, if_neg hsh]
      refine readAt_in at_ n _ _ _ kd nn w h hr hnx hx' hs hrd rfl (Or.inr ⟨rfl, rfl, ?_⟩)
      unfold rdShort at hsh
      simp only [Bool.and_eq_true, decide_eq_true_eq] at hsh
      cases h1 : (kd == 1)
      · exact Or.inl rfl
      · refine Or.inr ⟨rfl, ?_⟩
        have : ¬ nn < ((rdMost s.size at_ n : Nat) : Int) := fun h2 => hsh ⟨h1, h2⟩
        omega

theorem readAt_ref (p : Addr) (at_ n : Int) (w : World) (hr : refB at_ n = true) :
    Calls Try.prog 15 #[.pointer (some p), .int .i64 at_, .int .i64 n] w fun e w' => e = .returned (.tuple #[.string ⟨#[]⟩, .int .i64 1]) ∧ w = w' := by
  go_enter Try.func15, Try.ntmps15
  go_wp2_with (go_at_call 44; with_reducible refine (refuses_some _ _ _ _).mono ?_; rintro e w1 ⟨rfl, rfl⟩)
  go_ret2
  exact ⟨rfl, rfl⟩
theorem readAt_none (at_ n : Int) (w : World) :
    Calls Try.prog 15 #[.pointer none, .int .i64 at_, .int .i64 n] w fun e w' => e = .returned (.tuple #[.string ⟨#[]⟩, .int .i64 1]) ∧ w = w' := by
  go_enter Try.func15, Try.ntmps15
  go_wp2_with (go_at_call 44; with_reducible refine (refuses_none _ _ _).mono ?_; rintro e w1 ⟨rfl, rfl⟩)
  go_ret2
  exact ⟨rfl, rfl⟩

theorem srcLen_none (w : World) : Calls Try.prog 40 #[.pointer none] w fun e w' => e = .returned (.int .i64 0) ∧ w = w' := by
  go_enter Try.func40, Try.ntmps40
  go_wp2
  go_ret
  exact ⟨rfl, rfl⟩
theorem srcLeft_none (w : World) : Calls Try.prog 37 #[.pointer none] w fun e w' => e = .returned (.int .i64 0) ∧ w = w' := by
  go_enter Try.func37, Try.ntmps37
  go_wp2
  go_ret
  exact ⟨rfl, rfl⟩
theorem srcReads_none (w : World) : Calls Try.prog 38 #[.pointer none] w fun e w' => e = .returned (.slice none 0 0) ∧ w = w' := by
  go_enter Try.func38, Try.ntmps38
  go_wp2
  go_ret
  exact ⟨rfl, rfl⟩
theorem full_none (at_ n : Int) (w : World) :
    Calls Try.prog 28 #[.pointer none, .int .i64 at_, .int .i64 n] w fun e w' => e = .returned (.tuple #[.string ⟨#[]⟩, .int .i64 1]) ∧ w = w' := by
  go_enter Try.func28, Try.ntmps28
  go_wp2_with (go_at_call 44; with_reducible refine (refuses_none _ _ _).mono ?_; rintro e w1 ⟨rfl, rfl⟩)
  go_ret2
  exact ⟨rfl, rfl⟩
theorem srcLen_some {B C : Nat} {rv : Value} {s : ByteArray} {steps : List TStep.Val} {reads : List (Int × Int)} (w : World) (h : SrcInv w B C rv s steps reads) (hs : s.size ≤ 140737488351232) :
    Calls Try.prog 40 #[.pointer (some ⟨B, 0, none⟩)] w fun e w' => e = .returned (.int .i64 s.size) ∧ w = w' := by
  have hc0 : w.cell? ⟨B, 0, none⟩ = some (.string s) := by rw [h.obj.cell]; rfl
  go_enter Try.func40, Try.ntmps40
  go_wp2
  go_ret
  exact ⟨rfl, rfl⟩
theorem srcLeft_some {B C : Nat} {rv : Value} {s : ByteArray} {steps : List TStep.Val} {reads : List (Int × Int)} (w : World) (h : SrcInv w B C rv s steps reads) (hl : steps.length ≤ 1000) :
    Calls Try.prog 37 #[.pointer (some ⟨B, 0, none⟩)] w fun e w' => e = .returned (.int .i64 steps.length) ∧ w = w' := by
  have hc0 : w.cell? ⟨B, 1, none⟩ = some (.chan (some C)) := by rw [h.obj.cell]; rfl
  obtain ⟨cap, sent, rcvd, hch⟩ := h.chan
  have hln : (Builtin.len_ #[81] 3 #[.chan (some C)]).run Try.prog w = .ok (.int .i64 steps.length) w := by
    unfold Blk at hch
    have hu := Try.underlying81
    simp [Builtin.len_, run_underlying hu, getObj, Sem.run, hch, Result.andThen, goInt]
  go_enter Try.func37, Try.ntmps37
  go_wp2
  go_ret
  exact ⟨rfl, rfl⟩

end Go.Proofs.Ytekinbeiljmddaa
