/- The laws of mortiselaw02 but SrcFull and SrcReads; live. -/
import Derived.Test.YtekinbeiljmddaaSrcR
import Derived.Test.YtekinbeiljmddaaLift
namespace Go.Proofs.Ytekinbeiljmddaa
open Go.RowKit Go.Conc
set_option linter.unusedVariables false
set_option linter.unusedSimpArgs false

theorem own : ownKnob Try.prog.godebug = none := by kernel_rfl
theorem laidOut : laidOutB Try.prog = true := by kernel_rfl

/-- A read told, and what became of the source. -/
def RdPost (txt : ByteArray) (E : Int) (B C : Nat) (rv : Value) (s : ByteArray) (steps : List TStep.Val) (reads : List (Int × Int)) (w : World) (e : Ending) (w' : World) : Prop :=
  e = .returned (.tuple #[.string txt, .int .i64 E]) ∧
    ∃ rv', SrcInv w' B C rv' s steps reads ∧ Fr (SrcF B C rv) w w' ∧ ∀ k, rv'.ownBlock = some k → rv.ownBlock = some k ∨ w.heap.size ≤ k

def sc2 : List TStep.Val := [(1, 1, ()), (2, 0, ())]
def sc1 : List TStep.Val := [(2, 0, ())]
def sc0 : List TStep.Val := []
def rs0 : List (Int × Int) := []
def rs1 : List (Int × Int) := [(0, 1)]
def rs2 : List (Int × Int) := [(0, 1), (2, 4)]
def abcd : ByteArray := ⟨#[97, 98, 99, 100]⟩
theorem rd1 {B C : Nat} {rv : Value} (w : World) (h : SrcInv w B C rv abcd sc2 rs0) :
    Calls Try.prog 15 #[.pointer (some ⟨B, 0, none⟩), .int .i64 0, .int .i64 3] w (RdPost ⟨#[97]⟩ 0 B C rv abcd sc1 rs1 w) := by
  have h1 := readAt_any 0 3 w h (by decide) (by intro x hx; simp [sc2] at hx; rcases hx with rfl | rfl <;> rfl) (by decide) (by decide)
  have e1 : rdLen abcd.size (nextS sc2) 0 3 = 1 := by decide +kernel
  have e2 : rdErr abcd.size (nextS sc2) 0 3 = 0 := by decide +kernel
  rw [e1, e2] at h1
  exact h1
theorem rd2 {B C : Nat} {rv : Value} (w : World) (h : SrcInv w B C rv abcd sc1 rs1) :
    Calls Try.prog 15 #[.pointer (some ⟨B, 0, none⟩), .int .i64 0, .int .i64 3] w (RdPost ⟨#[]⟩ 7 B C rv abcd sc0 rs1 w) := by
  have h1 := readAt_any 0 3 w h (by decide) (by intro x hx; simp [sc1] at hx; subst hx; rfl) (by decide) (by decide)
  have e1 : rdLen abcd.size (nextS sc1) 0 3 = 0 := by decide +kernel
  have e2 : rdErr abcd.size (nextS sc1) 0 3 = 7 := by decide +kernel
  rw [e1, e2] at h1
  exact h1
theorem rd3 {B C : Nat} {rv : Value} (w : World) (h : SrcInv w B C rv abcd sc0 rs1) :
    Calls Try.prog 15 #[.pointer (some ⟨B, 0, none⟩), .int .i64 2, .int .i64 3] w (RdPost ⟨#[99, 100]⟩ 2 B C rv abcd sc0 rs2 w) := by
  have h1 := readAt_any 2 3 w h (by decide) (by intro x hx; simp [sc0] at hx) (by decide) (by decide)
  have e1 : rdLen abcd.size (nextS sc0) 2 3 = 2 := by decide +kernel
  have e2 : rdErr abcd.size (nextS sc0) 2 3 = 2 := by decide +kernel
  rw [e1, e2] at h1
  exact h1

theorem rep_steps2 (w : World) : Rep (w.alloc (.cells #[.int .i64 1, .int .i64 1, .int .i64 2, .int .i64 0] 63)) TSteps [(1, 1, ()), (2, 0, ())] [.slice (some ⟨w.heap.size, 0, none⟩) 2 2] := by
  have hb := Blk.new w (.cells #[.int .i64 1, .int .i64 1, .int .i64 2, .int .i64 0] 63)
  refine ⟨some ⟨w.heap.size, 0, none⟩, 2, rfl, by decide, by decide, by simp, fun i hi => ⟨w.heap.size, 0, rfl, ?_⟩⟩
  have hi' : i = 0 ∨ i = 1 := by simp at hi; omega
  rcases hi' with rfl | rfl
  · refine ⟨[.int .i64 1, .int .i64 1], rfl, fun j v hj => ?_, by simp, ⟨[.int .i64 1], [.int .i64 1], rfl, rfl, ⟨rfl, rfl⟩, [.int .i64 1], [], rfl, rfl, ⟨rfl, rfl⟩, rfl⟩⟩
    rw [hb.cell]
    match j, hj with
    | 0, hj => exact hj
    | 1, hj => exact hj
  · refine ⟨[.int .i64 2, .int .i64 0], rfl, fun j v hj => ?_, by simp, ⟨[.int .i64 2], [.int .i64 0], rfl, rfl, ⟨rfl, rfl⟩, [.int .i64 0], [], rfl, rfl, ⟨rfl, rfl⟩, rfl⟩⟩
    rw [hb.cell]
    match j, hj with
    | 0, hj => exact hj
    | 1, hj => exact hj

set_option maxHeartbeats 1000000 in
theorem live2_any (w : World) : Calls Try.prog 14 #[] w fun e w' => e = .returned (.bool true) ∧ Below w.heap.size w w' := by
  have hnew := new_ok abcd [(1, 1, ()), (2, 0, ())] (some ⟨w.heap.size, 0, none⟩) 2 _ (rep_steps2 w) (by decide) (by decide)
  have hnew' : Calls Try.prog 13 #[.string ⟨#[97, 98, 99, 100]⟩, .slice (some ⟨w.heap.size, 0, none⟩) 2 2] (w.alloc (.cells #[.int .i64 1, .int .i64 1, .int .i64 2, .int .i64 0] 63)) (NewPost abcd sc2 (w.alloc (.cells #[.int .i64 1, .int .i64 1, .int .i64 2, .int .i64 0] 63))) := hnew
  clear hnew
  go_enter Try.func14, Try.ntmps14
  go_wp2_with (go_at_call 13; refine hnew'.mono ?_; rintro e w1 ⟨B, C, rfl, hC, hi, hb⟩; change SrcInv w1 B C _ abcd sc2 rs0 at hi)
  (with_reducible refine (rd1 _ hi).mono ?_)
  rintro e w2 ⟨rfl, rv2, hi2, hF2, hO2⟩
  go_wp2_with fail
  (with_reducible refine (rd2 _ hi2).mono ?_)
  rintro e w3 ⟨rfl, rv3, hi3, hF3, hO3⟩
  go_wp2_with fail
  (with_reducible refine (rd3 _ hi3).mono ?_)
  rintro e w4 ⟨rfl, rv4, hi4, hF4, hO4⟩
  go_wp2_with (first
    | (go_at_call 37; refine (srcLeft_some _ hi4 (by decide)).mono ?_; rintro e w5 ⟨rfl, rfl⟩)
    | (go_at_call 40; refine (srcLen_some _ hi4 (by decide)).mono ?_; rintro e w5 ⟨rfl, rfl⟩))
  go_ret
  have z1 : w.heap.size < w1.heap.size := by have := hb.size; simp only [heap_size_alloc'] at this; omega
  have z2 : w1.heap.size ≤ w2.heap.size := hF2.size
  have z3 : w2.heap.size ≤ w3.heap.size := hF3.size
  have zC : w.heap.size ≤ C := by simp only [heap_size_alloc'] at hC; omega
  have o1 : ∀ k, (Value.slice none 0 0).ownBlock = some k → w.heap.size ≤ k := by intro k hk; simp [Value.ownBlock] at hk
  have o2 : ∀ k, rv2.ownBlock = some k → w.heap.size ≤ k := by intro k hk; rcases hO2 k hk with h | h; exact o1 k h; omega
  have o3 : ∀ k, rv3.ownBlock = some k → w.heap.size ≤ k := by intro k hk; rcases hO3 k hk with h | h; exact o2 k h; omega
  refine ⟨rfl, ?_⟩
  have b1 : Below w.heap.size w w1 := below_box hb
  have b2 := b1.trans (fr_below hF2 (srcF_ge zC hi.lt o1) (by omega))
  have b3 := b2.trans (fr_below hF3 (srcF_ge zC hi.lt o2) (by omega))
  exact b3.trans (fr_below hF4 (srcF_ge zC hi.lt o3) (by omega))

set_option maxHeartbeats 1000000 in
theorem srcNone_calls (at_ n : Int) (w : World) : Calls Try.prog 12 #[.int .i64 at_, .int .i64 n] w fun e w' => e = .returned (.bool true) ∧ Below w.heap.size w w' := by
  have hB := bel_refl w
  go_enter Try.func12, Try.ntmps12
  go_wp2_with (first
    | (go_at_call 15; with_reducible refine (readAt_none _ _ _).mono ?_; rintro e w1 ⟨rfl, rfl⟩)
    | (go_at_call 28; with_reducible refine (full_none _ _ _).mono ?_; rintro e w1 ⟨rfl, rfl⟩)
    | (go_at_call 38; with_reducible refine (srcReads_none _).mono ?_; rintro e w1 ⟨rfl, rfl⟩)
    | (go_at_call 40; with_reducible refine (srcLen_none _).mono ?_; rintro e w1 ⟨rfl, rfl⟩)
    | (go_at_call 37; with_reducible refine (srcLeft_none _).mono ?_; rintro e w1 ⟨rfl, rfl⟩)
    | (go_at_call 14; with_reducible refine (live2_any _).mono ?_; rintro e w3 ⟨rfl, hb⟩; have hB : Below w.heap.size w w3 := bel_trans (by repeat (first | exact hB | refine bel_alloc ?_ _ | refine below_drewN ?_ _ | refine Below.drew ?_ | refine bel_set ?_ (by simp; omega) _)) hb; have hc := (bcell hb).1; have hs0 := hb.size; (try simp only [heap_size_alloc', heap_size_drewN', heap_size_drew'] at hs0)))
  go_ret
  exact ⟨rfl, hB⟩

theorem rdErr_cases (len : Nat) (x : TStep.Val) (at_ n : Nat) : rdErr len x at_ n = 7 ∧ rdLen len x at_ n = 0 ∨ rdErr len x at_ n = 0 ∨ rdErr len x at_ n = 2 := by
  unfold rdErr rdLen
  by_cases h : x.1 = 2
  · rw [if_pos h, if_pos h]; exact .inl ⟨rfl, rfl⟩
  · rw [if_neg h]; split
    · exact .inr (.inl rfl)
    · split
      · exact .inr (.inr rfl)
      · exact .inr (.inl rfl)
theorem rdLen_le {len : Nat} {x : TStep.Val} {at_ n : Nat} : rdLen len x at_ n ≤ n ∧ rdLen len x at_ n ≤ len - at_ := by
  have h1 : rdMost len at_ n ≤ n := by unfold rdMost; omega
  have h2 : rdMost len at_ n ≤ len - at_ := by unfold rdMost; omega
  obtain ⟨kd, nn, u⟩ := x
  change Int at kd
  change Int at nn
  unfold rdLen
  split
  · omega
  · split
    · rename_i h
      unfold rdShort at h
      simp only [Bool.and_eq_true, decide_eq_true_eq] at h
      have h4 : nn < (rdMost len at_ n : Int) := h.2
      change nn.toNat ≤ n ∧ nn.toNat ≤ len - at_
      omega
    · omega

set_option maxHeartbeats 2000000 in
theorem srcStands_calls (s : ByteArray) (xs : TSteps.Val) (a : Option Addr) (cap : Nat) (at_ n : Int) (w : World) (h : Rep w TSteps xs [.slice a xs.length cap]) (hs : s.size ≤ 140737488351232) :
    Calls Try.prog 3 #[.agg #[.string s, .slice a xs.length cap, .int .i64 at_, .int .i64 n]] w fun e w' => e = .returned (.bool true) ∧ Below w.heap.size w w' := by
  have hB := bel_refl w
  by_cases hbad : 1000 < xs.length ∨ (xs.any fun x => !fineB x) = true
  · have hnew := fun w' (h' : Rep w' TSteps xs [.slice a xs.length cap]) => new_no s xs a cap w' h' hbad
    clear hbad
    go_enter Try.func3, Try.ntmps3
    go_wp2
    go_quiet (fail)
    have hr := Rep.below (below_drewN (bel_alloc (bel_refl w) (.cells #[.string s, .slice a xs.length cap, .int .i64 at_, .int .i64 n] 24)) nq) h
    go_wp2_with (first
      | (go_at_call 13; with_reducible refine (hnew _ hr).mono ?_; rintro e w1 ⟨rfl, hb⟩; have hB : Below w.heap.size w w1 := bel_trans (by repeat (first | exact hB | refine bel_alloc ?_ _ | refine below_drewN ?_ _ | refine Below.drew ?_ | refine bel_set ?_ (by simp; omega) _)) hb; have hc := (bcell hb).1; have hs0 := hb.size; (try simp only [heap_size_alloc', heap_size_drewN', heap_size_drew'] at hs0))
      | (go_at_call 14; with_reducible refine (live2_any _).mono ?_; rintro e w3 ⟨rfl, hb⟩; have hB : Below w.heap.size w w3 := bel_trans (by repeat (first | exact hB | refine bel_alloc ?_ _ | refine below_drewN ?_ _ | refine Below.drew ?_ | refine bel_set ?_ (by simp; omega) _)) hb; have hc := (bcell hb).1; have hs0 := hb.size; (try simp only [heap_size_alloc', heap_size_drewN', heap_size_drew'] at hs0)))
    go_ret
    exact ⟨rfl, hB⟩
  have hl : xs.length ≤ 1000 := by omega
  have hf : (xs.any fun x => !fineB x) = false := by
    cases hc : (xs.any fun x => !fineB x)
    · rfl
    · exact absurd (Or.inr hc) hbad
  clear hbad
  have hfine : ∀ x ∈ xs, fineB x = true := by
    intro x hx
    have := List.any_eq_false.1 hf x hx
    simpa using this
  have Hfine := hid hfine
  clear hfine
  have hnew := fun w' (h' : Rep w' TSteps xs [.slice a xs.length cap]) => new_ok s xs a cap w' h' hl hf
  by_cases hr : refB at_ n = true
  · go_enter Try.func3, Try.ntmps3
    go_wp2
    go_quiet (fail)
    have hr2 := Rep.below (below_drewN (bel_alloc (bel_refl w) (.cells #[.string s, .slice a xs.length cap, .int .i64 at_, .int .i64 n] 24)) nq) h
    go_wp2_with (first
      | (go_at_call 13; refine (hnew _ hr2).mono ?_; rintro e w1 ⟨B, C, rfl, hC, hi, hb⟩; have hB : Below w.heap.size w w1 := bel_trans (by repeat (first | exact hB | refine bel_alloc ?_ _ | refine below_drewN ?_ _ | refine Below.drew ?_ | refine bel_set ?_ (by simp; omega) _)) hb)
      | (go_at_call 15; with_reducible refine (readAt_ref _ _ _ _ hr).mono ?_; rintro e w1 ⟨rfl, rfl⟩)
      | (go_at_call 14; with_reducible refine (live2_any _).mono ?_; rintro e w3 ⟨rfl, hb⟩; have hB : Below w.heap.size w w3 := bel_trans (by repeat (first | exact hB | refine bel_alloc ?_ _ | refine below_drewN ?_ _ | refine Below.drew ?_ | refine bel_set ?_ (by simp; omega) _)) hb; have hc := (bcell hb).1; have hs0 := hb.size; (try simp only [heap_size_alloc', heap_size_drewN', heap_size_drew'] at hs0)))
    go_ret
    exact ⟨rfl, hB⟩
  have hr : refB at_ n = false := by simpa using hr
  obtain ⟨an, rfl⟩ := Int.eq_ofNat_of_zero_le (show 0 ≤ at_ by unfold refB at hr; simp at hr; omega)
  obtain ⟨nn, rfl⟩ := Int.eq_ofNat_of_zero_le (show 0 ≤ n by unfold refB at hr; simp at hr; omega)
  have hE := rdErr_cases s.size (nextS xs) an nn
  have hL := rdLen_le (len := s.size) (x := nextS xs) (at_ := an) (n := nn)
  have hread := fun (w' : World) (B C : Nat) (rv : Value) (h' : SrcInv w' B C rv s xs []) => readAt_any an nn w' h' hr Hfine.out hs (by simp)
  generalize rdLen s.size (nextS xs) an nn = L at hE hL hread
  generalize rdErr s.size (nextS xs) an nn = E at hE hread
  obtain ⟨hL1, hL2⟩ := hL
  have hts : (s.extract an (an + L)).size = L := by rw [ByteArray.size_extract]; omega
  by_cases hL0 : L = 0
  · subst hL0
    have ht0 : s.extract an (an + 0) = ⟨#[]⟩ := extract_zero s an
    unfold ReadOut at hread
    rw [ht0] at hread
    clear ht0 hts
    rcases hE with ⟨rfl, _⟩ | rfl | rfl
    all_goals
      go_enter Try.func3, Try.ntmps3
      go_wp2
      go_quiet (fail)
      have hr2 := Rep.below (below_drewN (bel_alloc (bel_refl w) (.cells #[.string s, .slice a xs.length cap, .int .i64 an, .int .i64 nn] 24)) nq) h
      go_wp2_with (first
        | (go_at_call 13; refine (hnew _ hr2).mono ?_; rintro e w1 ⟨B, C, rfl, hC, hi, hb⟩; have hB : Below w.heap.size w w1 := bel_trans (by repeat (first | exact hB | refine bel_alloc ?_ _ | refine below_drewN ?_ _ | refine Below.drew ?_ | refine bel_set ?_ (by simp; omega) _)) hb)
        | (go_at_call 15; refine (hread _ _ _ _ hi).mono ?_; rintro e w2 ⟨rfl, rv2, hi2, hF2, hO2⟩; have hB : Below w.heap.size w w2 := hB.trans (fr_below hF2 (srcF_ge (by simp at hC; omega) hi.lt (by intro k hk; simp [Value.ownBlock] at hk)) (by have := hb.size; simp at this; omega)))
        | (go_at_call 14; with_reducible refine (live2_any _).mono ?_; rintro e w3 ⟨rfl, hb⟩; have hB : Below w.heap.size w w3 := bel_trans (by repeat (first | exact hB | refine bel_alloc ?_ _ | refine below_drewN ?_ _ | refine Below.drew ?_ | refine bel_set ?_ (by simp; omega) _)) hb; have hc := (bcell hb).1; have hs0 := hb.size; (try simp only [heap_size_alloc', heap_size_drewN', heap_size_drew'] at hs0)))
      go_ret
      exact ⟨rfl, hB⟩
  · have hE2 : E = 0 ∨ E = 2 := by omega
    have ha : an + L ≤ s.size := by omega
    obtain ⟨t, ht⟩ : ∃ t, s.extract an (an + L) = t := ⟨_, rfl⟩
    unfold ReadOut at hread
    rw [ht] at hread hts
    have hxe : (s.extract an (an + L)).toList = t.toList := by rw [ht]
    have htl : ¬ t.toList = [] := by
      intro h1
      have h2 := congrArg List.length h1
      rw [ByteArray.toList_eq, Array.length_toList] at h2
      have h3 : t.data.size = t.size := rfl
      change t.data.size = 0 at h2; omega
    clear ht
    rcases hE2 with rfl | rfl
    all_goals
      go_enter Try.func3, Try.ntmps3
      go_wp2
      go_quiet (fail)
      have hr2 := Rep.below (below_drewN (bel_alloc (bel_refl w) (.cells #[.string s, .slice a xs.length cap, .int .i64 an, .int .i64 nn] 24)) nq) h
      go_wp2_with (first
        | (go_at_call 13; refine (hnew _ hr2).mono ?_; rintro e w1 ⟨B, C, rfl, hC, hi, hb⟩; have hB : Below w.heap.size w w1 := bel_trans (by repeat (first | exact hB | refine bel_alloc ?_ _ | refine below_drewN ?_ _ | refine Below.drew ?_ | refine bel_set ?_ (by simp; omega) _)) hb)
        | (go_at_call 15; refine (hread _ _ _ _ hi).mono ?_; rintro e w2 ⟨rfl, rv2, hi2, hF2, hO2⟩; have hB : Below w.heap.size w w2 := hB.trans (fr_below hF2 (srcF_ge (by simp at hC; omega) hi.lt (by intro k hk; simp [Value.ownBlock] at hk)) (by have := hb.size; simp at this; omega)))
        | (go_at_call 14; with_reducible refine (live2_any _).mono ?_; rintro e w3 ⟨rfl, hb⟩; have hB : Below w.heap.size w w3 := bel_trans (by repeat (first | exact hB | refine bel_alloc ?_ _ | refine below_drewN ?_ _ | refine Below.drew ?_ | refine bel_set ?_ (by simp; omega) _)) hb; have hc := (bcell hb).1; have hs0 := hb.size; (try simp only [heap_size_alloc', heap_size_drewN', heap_size_drew'] at hs0)))
      go_ret; exact ⟨rfl, hB⟩

end Go.Proofs.Ytekinbeiljmddaa
