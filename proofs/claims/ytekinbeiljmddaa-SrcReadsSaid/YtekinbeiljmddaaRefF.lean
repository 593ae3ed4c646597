/- Contract of mortiseref02's Full. -/
import Derived.Test.YtekinbeiljmddaaRefR
namespace Go.Proofs.Ytekinbeiljmddaa
open Go.RowKit Go.Conc Go.Lib
set_option linter.unusedVariables false
set_option linter.unusedSimpArgs false

theorem refReadAt_any {R : Nat} {sv rv : Value} {s : ByteArray} {steps : List TStep.Val} {reads : List (Int × Int)} (at_ n : Nat) (w : World) (h : RefInv w R sv rv s steps reads) (hr : refB at_ n = false)
    (hf : ∀ x ∈ steps, fineB x = true) (hs : s.size ≤ 140737488351232) (hrd : reads.length ≤ 1000000000) :
    Calls Try.prog 36 #[.pointer (some ⟨R, 0, none⟩), .int .i64 at_, .int .i64 n] w
      (RefOut R rv s steps.tail (addSpan reads at_ (rdLen s.size (nextS steps) at_ n)) (s.extract at_ (at_ + rdLen s.size (nextS steps) at_ n)) (rdErr s.size (nextS steps) at_ n) w) := by
  have hfi := fine_nonneg (next_fine hf)
  generalize hnx : nextS steps = x at *
  obtain ⟨kd, nn, u⟩ := x
  change Int at kd
  change Int at nn
  cases u
  have hfi' : kd = 1 → 0 ≤ nn := hfi
  by_cases hx : kd = 2
  · have e1 : rdLen s.size (kd, nn, ()) at_ n = 0 := by unfold rdLen; exact if_pos hx
    have e2 : rdErr s.size (kd, nn, ()) at_ n = 7 := by unfold rdErr; exact if_pos hx
    have e1' : rdLen s.size (kd, nn, PUnit.unit) at_ n = 0 := e1
    have e2' : rdErr s.size (kd, nn, PUnit.unit) at_ n = 7 := e2
    rw [e1', e2']
    exact refReadAt_in at_ n _ 0 7 kd nn w h hr hnx hs hrd rfl (Or.inl ⟨hx, rfl, rfl⟩)
  · have hx' : (kd == 2) = false := beq_eq_false_iff_ne.2 hx
    have hxn : ¬ ((kd, nn, PUnit.unit) : TStep.Val).1 = (2 : Int) := hx
    unfold rdLen rdErr
    rw [if_neg hxn, if_neg hxn]
    by_cases hsh : rdShort (kd, nn, PUnit.unit) (rdMost s.size at_ n) = true
    · rw [if_pos hsh, if_pos hsh]
      unfold rdShort at hsh
      simp only [Bool.and_eq_true, decide_eq_true_eq] at hsh
      have h1 : kd = 1 := by simpa using hsh.1
      have h2 := hfi' h1
      exact refReadAt_in at_ n _ _ 0 kd nn w h hr hnx hs hrd rfl (Or.inr ⟨hx', Or.inl ⟨hsh.1, hsh.2, (Int.toNat_of_nonneg h2).symm, rfl⟩⟩)
    · rw [if_neg hsh, if_neg hsh]
      refine refReadAt_in at_ n _ _ _ kd nn w h hr hnx hs hrd rfl (Or.inr ⟨hx', Or.inr ⟨rfl, rfl, ?_⟩⟩)
      unfold rdShort at hsh
      simp only [Bool.and_eq_true, decide_eq_true_eq] at hsh
      cases h1 : (kd == 1)
      · exact Or.inl rfl
      · refine Or.inr ⟨rfl, ?_⟩
        have : ¬ nn < ((rdMost s.size at_ n : Nat) : Int) := fun h2 => hsh ⟨h1, h2⟩
        omega

theorem refFull_ref (p : Addr) (at_ n : Int) (w : World) (hr : refB at_ n = true) :
    Calls Try.prog 35 #[.pointer (some p), .int .i64 at_, .int .i64 n] w fun e w' => e = .returned (.tuple #[.string ⟨#[]⟩, .int .i64 1]) ∧ w = w' := by
  have ha := fun w => asks_any at_ n w
  rw [hr] at ha
  go_enter Try.func35, Try.ntmps35
  go_wp2_with (go_at_call 54; with_reducible refine (ha _).mono ?_; rintro e w1 ⟨rfl, rfl⟩)
  go_ret2
  exact ⟨rfl, rfl⟩

/-- How many steps the reference has left. -/
def refLeft (w : World) (R : Nat) : Nat := match w.cell? ⟨R, 1, none⟩ with
  | some (.slice _ l _) => l
  | _ => 0
theorem refLeft_of {w : World} {R : Nat} {sv rv : Value} {s : ByteArray} {steps : List TStep.Val} {reads : List (Int × Int)} (h : RefInv w R sv rv s steps reads) : refLeft w R = steps.length := by
  obtain ⟨hobj, ⟨a, cap, rfl, _⟩, _⟩ := h
  have hc : w.cell? ⟨R, 1, none⟩ = some (.slice a steps.length cap) := by rw [hobj.cell]; rfl
  unfold refLeft
  rw [hc]

def RefFullRel (R : Nat) (rv : Value) (s : ByteArray) (at_ n : Nat) (O : Int × List TStep.Val × List (Int × Int)) (w : World) (v8 : Value) (wr : World) : Prop :=
  ∃ (g : Nat) (st : List TStep.Val) (rd : List (Int × Int)) (sv' rv' : Value), g ≤ n ∧ (0 < g → at_ + g ≤ s.size) ∧ v8 = .string (s.extract at_ (at_ + g)) ∧
    RefInv wr R sv' rv' s st rd ∧ Fr (RefF R rv) w wr ∧ (∀ k, rv'.ownBlock = some k → rv.ownBlock = some k ∨ w.heap.size ≤ k) ∧ fullS s.size at_ n st g rd = O ∧ (∀ x ∈ st, fineB x = true) ∧ rd.length + st.length ≤ 999999999

theorem refF_sub {R : Nat} {rv rv' : Value} {m : Nat} (h : ∀ k, rv'.ownBlock = some k → rv.ownBlock = some k ∨ m ≤ k) : ∀ k, RefF R rv' k → RefF R rv k ∨ m ≤ k := by
  rintro k (h1 | h1)
  · exact .inl (.inl h1)
  · rcases h k h1 with h2 | h2
    · exact .inl (.inr h2)
    · exact .inr h2

def RefFullOut (R : Nat) (rv : Value) (s : ByteArray) (O : Int × List TStep.Val × List (Int × Int)) (at_ n : Nat) (w : World) (e : Ending) (w' : World) : Prop :=
  RefOut R rv s O.2.1 O.2.2 (if O.1 = 0 then s.extract at_ (at_ + n) else ⟨#[]⟩) O.1 w e w'

set_option maxHeartbeats 4000000 in
theorem refFull_any {R : Nat} {sv rv : Value} {s : ByteArray} {steps : List TStep.Val} {reads : List (Int × Int)} (at_ n : Nat) (w : World) (h : RefInv w R sv rv s steps reads) (hr : refB at_ n = false)
    (hf : ∀ x ∈ steps, fineB x = true) (hs : s.size ≤ 140737488351232) (hrd : reads.length + steps.length ≤ 999999999) (ha9 : at_ ≤ 9223372036854775807) :
    Calls Try.prog 35 #[.pointer (some ⟨R, 0, none⟩), .int .i64 at_, .int .i64 n] w
      (RefFullOut R rv s (fullS s.size at_ n steps 0 reads) at_ n w) := by
  have ha := fun w => asks_any at_ n w
  rw [hr] at ha
  have hn : n ≤ 1048576 := by unfold refB at hr; simp at hr; omega
  generalize hR : fullS s.size at_ n steps 0 reads = O
  go_enter Try.func35, Try.ntmps35
  go_wp2_with (go_at_call 54; with_reducible refine (ha _).mono ?_; rintro e w1 ⟨rfl, rfl⟩)
  go_loopw [8] (fun v8 wr => RefFullRel R rv s at_ n O w v8 wr) (fun _ wr => refLeft wr R)
  case atStart =>
    refine ⟨0, steps, reads, sv, rv, by omega, by omega, ?_, h, Fr.refl _ _, fun k hk => .inl hk, hR, hf, hrd⟩
    rw [extract_zero]; rfl
  case round =>
    obtain ⟨g, st, rd, sv1, rv1, hg, hgs, rfl, hi, hF, hO, hR1, hf1, hrd1⟩ := hrel
    have hra : refB ((at_ + g : Nat) : Int) ((n - g : Nat) : Int) = false := by unfold refB; simp; omega
    have hread := refReadAt_any (at_ + g) (n - g) wr hi hra hf1 hs (by omega)
    have hE := rdErr_cases s.size (nextS st) (at_ + g) (n - g)
    have hL := rdLen_le (len := s.size) (x := nextS st) (at_ := at_ + g) (n := n - g)
    have f1 := fullS_err (len := s.size) (at_ := at_) (n := n) (st := st) (g := g) (rd := rd)
    have f2 := fullS_all (len := s.size) (at_ := at_) (n := n) (st := st) (g := g) (rd := rd)
    have f3 := fullS_more (len := s.size) (at_ := at_) (n := n) (st := st) (g := g) (rd := rd) hg
    have hleft := refLeft_of hi
    generalize rdLen s.size (nextS st) (at_ + g) (n - g) = L at hE hL hread f1 f2 f3
    generalize rdErr s.size (nextS st) (at_ + g) (n - g) = E at hE hread f1 f2 f3
    rw [hR1] at f1 f2 f3
    obtain ⟨hL1, hL2⟩ := hL
    obtain ⟨p, hp⟩ : ∃ p, at_ + g = p := ⟨_, rfl⟩
    obtain ⟨m, hm⟩ : ∃ m, n - g = m := ⟨_, rfl⟩
    obtain ⟨q, hq⟩ : ∃ q, g + L = q := ⟨_, rfl⟩
    have hqs : q ≤ n := by omega
    have hqp : 0 < q → at_ + q ≤ s.size := by intro h0; omega
    have ew1 : IntKind.i64.wrap ((at_ : Int) + (g : Int)) = (p : Int) := by rw [IntWalk.i64_in _ (by omega)]; omega
    have ew2 : IntKind.i64.wrap ((n : Int) - (g : Int)) = (m : Int) := by rw [IntWalk.i64_in _ (by omega)]; omega
    have hsg : (s.extract at_ (at_ + g)).size = g := by rw [ByteArray.size_extract]; omega
    rw [hp] at f1 f2 f3 hsg
    unfold RefOut at hread
    rw [hp, hm] at hread
    rw [hp]
    obtain ⟨pt, hpt⟩ : ∃ pt, s.extract p (p + L) = pt := ⟨_, rfl⟩
    have hcat : s.extract at_ p ++ s.extract p (p + L) = s.extract at_ (at_ + q) := by rw [extract_cat _ (by omega) (by omega)]; congr 1; omega
    have hqz : (s.extract at_ (at_ + q)).size = q := by rw [ByteArray.size_extract]; omega
    rw [hpt] at hread hcat
    generalize s.extract at_ p = pa at hsg hcat
    have hcz : pa.size + pt.size = q := by rw [← ByteArray.size_append, hcat, hqz]
    have Hcat := hid hcat
    have Hqz := hid hqz
    clear hpt hcat hqz
    by_cases hE0 : E = 0
    · subst hE0
      clear hE f1
      rw [hq] at f2 f3
      have hO3 : ∀ (rv2 : Value), (∀ k, Value.ownBlock rv2 = some k → rv1.ownBlock = some k ∨ wr.heap.size ≤ k) → ∀ k, rv2.ownBlock = some k → rv.ownBlock = some k ∨ w.heap.size ≤ k := by
        intro rv2 hO2 k hk
        rcases hO2 k hk with h1 | h1
        · exact hO k h1
        · right; have := hF.size; omega
      have hcs : ((pa ++ pt).size : Int) = (q : Int) := by rw [ByteArray.size_append, hcz]
      by_cases hall : q = n
      · have f2' := f2 rfl hall
        clear f2 f3
        subst hall
        go_wp2_with (go_at_call 36; refine hread.mono ?_; rintro e w2 ⟨rfl, sv2, rv2, hi2, hF2, hO2⟩)
        go_ret2
        rw [f2']
        refine ⟨?_, sv2, rv2, hi2, hF.trans hF2 (refF_sub hO), hO3 rv2 hO2⟩
        rw [← Hcat.out]; rfl
      · have f3' := f3 rfl hall
        clear f2 f3
        have hne : ((q : Int) == (n : Int)) = false := by rw [beq_eq_false_iff_ne]; omega
        have hln := addSpan_length rd p L
        go_wp2_with (go_at_call 36; refine hread.mono ?_; rintro e w2 ⟨rfl, sv2, rv2, hi2, hF2, hO2⟩)
        go_roundw
        case rel =>
          exact ⟨q, st.tail, addSpan rd p L, sv2, rv2, hqs, hqp, by rw [Hcat.out], hi2, hF.trans hF2 (refF_sub hO), hO3 rv2 hO2, f3'.2.symm, fun x hx => hf1 x (List.mem_of_mem_tail hx), by rw [List.length_tail]; omega⟩
        case measure =>
          have h1 := refLeft_of hi2
          have h2 := f3'.1
          rw [hleft, h1, List.length_tail]
          omega
    · have hE2 : E = 7 ∨ E = 2 := by omega
      have f1' := f1 hE0
      clear f1 f2 f3 hE
      rcases hE2 with rfl | rfl
      all_goals
        go_wp2_with (go_at_call 36; refine hread.mono ?_; rintro e w2 ⟨rfl, sv2, rv2, hi2, hF2, hO2⟩)
        go_ret2
        rw [f1']
        refine ⟨rfl, sv2, rv2, hi2, hF.trans hF2 (refF_sub hO), fun k hk => ?_⟩
        rcases hO2 k hk with h1 | h1
        · exact hO k h1
        · right; have := hF.size; omega
end Go.Proofs.Ytekinbeiljmddaa
