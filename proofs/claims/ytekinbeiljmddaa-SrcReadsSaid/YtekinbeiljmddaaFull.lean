/- Contract of src.Full: reads until all is there. -/
import Derived.Test.YtekinbeiljmddaaStr
namespace Go.Proofs.Ytekinbeiljmddaa
open Go.RowKit Go.Conc Go.Lib
set_option linter.unusedVariables false
set_option linter.unusedSimpArgs false

theorem rdErr_cases (len : Nat) (x : TStep.Val) (at_ n : Nat) : rdErr len x at_ n = 7 ∧ rdLen len x at_ n = 0 ∨ rdErr len x at_ n = 0 ∨ rdErr len x at_ n = 2 := by
  unfold rdErr rdLen
  by_cases h : x.1 = 2
  · rw [if_pos h, if_pos h]; exact .inl ⟨rfl, rfl⟩
  · rw [if_neg h]; split
    · exact .inr (.inl rfl)
    · split
      · exact .inr (.inr rfl)
      · exact .inr (.inl rfl)
theorem rdLen_le {len : Nat} {x : TStep.Val} {at_ n : Nat} : rdLen len x at_ n ≤ n ∧ rdLen len x at_ n ≤ len - at_ := by
  have h1 : rdMost len at_ n ≤ n := by unfold rdMost; omega
  have h2 : rdMost len at_ n ≤ len - at_ := by unfold rdMost; omega
  obtain ⟨kd, nn, u⟩ := x
  change Int at kd
  change Int at nn
  unfold rdLen
  split
  · omega
  · split
    · rename_i h
      unfold rdShort at h
      simp only [Bool.and_eq_true, decide_eq_true_eq] at h
      have h4 : nn < (rdMost len at_ n : Int) := h.2
      change nn.toNat ≤ n ∧ nn.toNat ≤ len - at_
      omega
    · omega
/-- A read of the whole: no error is all that was asked. -/
theorem rd_whole {len at_ n : Nat} (h : rdErr len (0, 0, ()) at_ n = 0) : rdLen len (0, 0, ()) at_ n = n := by
  have h1 : rdMost len at_ n ≤ n := by unfold rdMost; omega
  unfold rdErr at h
  unfold rdLen
  have hs : rdShort (0, 0, ()) (rdMost len at_ n) = false := rfl
  have h0 : ¬ ((0, 0, ()) : TStep.Val).1 = (2 : Int) := by decide
  rw [if_neg h0, hs] at h
  rw [if_neg h0, hs]
  simp at h ⊢
  omega

def addSpan (reads : List (Int × Int)) (p L : Nat) : List (Int × Int) := reads ++ if 0 < L then [((p : Int), ((p + L : Nat) : Int))] else []
theorem addSpan_length (reads : List (Int × Int)) (p L : Nat) : (addSpan reads p L).length ≤ reads.length + 1 := by
  unfold addSpan; split <;> simp

/-- What Full answers from g bytes on: its error, the steps left, what was read. -/
def fullS (len at_ n : Nat) : List TStep.Val → Nat → List (Int × Int) → Int × List TStep.Val × List (Int × Int)
  | [], g, rd => (rdErr len (0, 0, ()) (at_ + g) (n - g), [], addSpan rd (at_ + g) (rdLen len (0, 0, ()) (at_ + g) (n - g)))
  | x :: r, g, rd => if rdErr len x (at_ + g) (n - g) ≠ 0 then (rdErr len x (at_ + g) (n - g), r, addSpan rd (at_ + g) (rdLen len x (at_ + g) (n - g)))
      else if g + rdLen len x (at_ + g) (n - g) = n then (0, r, addSpan rd (at_ + g) (rdLen len x (at_ + g) (n - g)))
      else fullS len at_ n r (g + rdLen len x (at_ + g) (n - g)) (addSpan rd (at_ + g) (rdLen len x (at_ + g) (n - g)))

theorem fullS_err {len at_ n : Nat} {st : List TStep.Val} {g : Nat} {rd : List (Int × Int)} (h : rdErr len (nextS st) (at_ + g) (n - g) ≠ 0) :
    fullS len at_ n st g rd = (rdErr len (nextS st) (at_ + g) (n - g), st.tail, addSpan rd (at_ + g) (rdLen len (nextS st) (at_ + g) (n - g))) := by
  cases st with
  | nil => rfl
  | cons x r => unfold fullS; exact if_pos h
theorem fullS_all {len at_ n : Nat} {st : List TStep.Val} {g : Nat} {rd : List (Int × Int)} (h : rdErr len (nextS st) (at_ + g) (n - g) = 0) (h2 : g + rdLen len (nextS st) (at_ + g) (n - g) = n) :
    fullS len at_ n st g rd = (0, st.tail, addSpan rd (at_ + g) (rdLen len (nextS st) (at_ + g) (n - g))) := by
  cases st with
  | nil => unfold fullS; exact congrArg (fun e => (e, _)) h
  | cons x r => unfold fullS; exact (if_neg (fun h3 => h3 h)).trans (if_pos h2)
theorem fullS_more {len at_ n : Nat} {st : List TStep.Val} {g : Nat} {rd : List (Int × Int)} (hg : g ≤ n) (h : rdErr len (nextS st) (at_ + g) (n - g) = 0) (h2 : ¬ g + rdLen len (nextS st) (at_ + g) (n - g) = n) :
    0 < st.length ∧ fullS len at_ n st g rd = fullS len at_ n st.tail (g + rdLen len (nextS st) (at_ + g) (n - g)) (addSpan rd (at_ + g) (rdLen len (nextS st) (at_ + g) (n - g))) := by
  cases st with
  | nil => have := rd_whole h; exact absurd (by show g + rdLen len (0, 0, ()) (at_ + g) (n - g) = n; omega) h2
  | cons x r => exact ⟨by simp, by rw [fullS]; exact (if_neg (fun h3 => h3 h)).trans (if_neg h2)⟩

def FullOut (B C : Nat) (rv : Value) (s : ByteArray) (R : Int × List TStep.Val × List (Int × Int)) (at_ n : Nat) (w : World) (e : Ending) (w' : World) : Prop :=
  e = .returned (.tuple #[.string (if R.1 = 0 then s.extract at_ (at_ + n) else ⟨#[]⟩), .int .i64 R.1]) ∧
    ∃ rv', SrcInv w' B C rv' s R.2.1 R.2.2 ∧ Fr (SrcF B C rv) w w' ∧ ∀ k, rv'.ownBlock = some k → rv.ownBlock = some k ∨ w.heap.size ≤ k

/-- How many steps wait in a channel. -/
def chanLeft (w : World) (C : Nat) : Nat := match w.heap[C]? with
  | some (.chan _ b _ _ _ _) => b.size
  | _ => 0
theorem chanLeft_of {w : World} {B C : Nat} {rv : Value} {s : ByteArray} {steps : List TStep.Val} {reads : List (Int × Int)} (h : SrcInv w B C rv s steps reads) : chanLeft w C = steps.length := by
  obtain ⟨cap, sent, rcvd, hch⟩ := h.chan
  unfold Blk at hch
  unfold chanLeft
  rw [hch]
  simp

theorem info_u8' : (Try.prog.info? 5).map (fun i => (i.zero, i.size, i.bytes)) = some (some (.int .u8 0), 1, 1) := by kernel_rfl

/-- Full's loop at its head. -/
def FullRel (B C : Nat) (rv : Value) (s : ByteArray) (at_ n : Nat) (R : Int × List TStep.Val × List (Int × Int)) (w : World) (v8 : Value) (wr : World) : Prop :=
  ∃ (g : Nat) (st : List TStep.Val) (rd : List (Int × Int)) (rv' : Value), g ≤ n ∧ (0 < g → at_ + g ≤ s.size) ∧ wr.ownsRow w.heap.size 5 1 v8 g (strCells (s.extract at_ (at_ + g))) ∧
    SrcInv wr B C rv' s st rd ∧ Fr (SrcF B C rv) w wr ∧ (∀ k, rv'.ownBlock = some k → rv.ownBlock = some k ∨ w.heap.size ≤ k) ∧ fullS s.size at_ n st g rd = R ∧ (∀ x ∈ st, fineB x = true) ∧ rd.length + st.length ≤ 999999999

theorem srcF_sub {B C : Nat} {rv rv' : Value} {m : Nat} (h : ∀ k, rv'.ownBlock = some k → rv.ownBlock = some k ∨ m ≤ k) : ∀ k, SrcF B C rv' k → SrcF B C rv k ∨ m ≤ k := by
  rintro k (h1 | h1 | h1)
  · exact .inl (.inl h1)
  · exact .inl (.inr (.inl h1))
  · rcases h k h1 with h2 | h2
    · exact .inl (.inr (.inr h2))
    · exact .inr h2

set_option maxHeartbeats 4000000 in
theorem full_any {B C : Nat} {rv : Value} {s : ByteArray} {steps : List TStep.Val} {reads : List (Int × Int)} (at_ n : Nat) (w : World) (h : SrcInv w B C rv s steps reads) (hr : refB at_ n = false)
    (hf : ∀ x ∈ steps, fineB x = true) (hs : s.size ≤ 140737488351232) (hrd : reads.length + steps.length ≤ 999999999) (ha : at_ ≤ 9223372036854775807) :
    Calls Try.prog 28 #[.pointer (some ⟨B, 0, none⟩), .int .i64 at_, .int .i64 n] w
      (FullOut B C rv s (fullS s.size at_ n steps 0 reads) at_ n w) := by
  obtain ⟨i0, hi0, hz0, hz1, hz2⟩ := info_parts info_u8'
  have hn : n ≤ 1048576 := by unfold refB at hr; simp at hr; omega
  generalize hR : fullS s.size at_ n steps 0 reads = R
  go_enter Try.func28, Try.ntmps28
  go_wp2_with (go_at_call 44; with_reducible refine (refuses_some _ _ _ _).mono ?_; rintro e w1 ⟨rfl, rfl⟩)
  go_loopw [8] (fun v8 wr => FullRel B C rv s at_ n R w v8 wr) (fun _ wr => chanLeft wr C)
  case atStart =>
    refine ⟨0, steps, reads, rv, by omega, by omega, ?_, h, Fr.refl _ _, fun k hk => .inl hk, hR, hf, hrd⟩
    rw [extract_zero]
    exact World.ownsRow_nil _ _ _ _
  case round =>
    obtain ⟨g, st, rd, rv1, hg, hgs, hown, hi, hF, hO, hR1, hf1, hrd1⟩ := hrel
    have hra : refB ((at_ + g : Nat) : Int) ((n - g : Nat) : Int) = false := by unfold refB; simp; omega
    have hread := readAt_any (at_ + g) (n - g) wr hi hra hf1 hs (by omega)
    have hE := rdErr_cases s.size (nextS st) (at_ + g) (n - g)
    have hL := rdLen_le (len := s.size) (x := nextS st) (at_ := at_ + g) (n := n - g)
    have f1 := fullS_err (len := s.size) (at_ := at_) (n := n) (st := st) (g := g) (rd := rd)
    have f2 := fullS_all (len := s.size) (at_ := at_) (n := n) (st := st) (g := g) (rd := rd)
    have f3 := fullS_more (len := s.size) (at_ := at_) (n := n) (st := st) (g := g) (rd := rd) hg
    have hleft := chanLeft_of hi
    generalize rdLen s.size (nextS st) (at_ + g) (n - g) = L at hE hL hread f1 f2 f3
    generalize rdErr s.size (nextS st) (at_ + g) (n - g) = E at hE hread f1 f2 f3
    rw [hR1] at f1 f2 f3
    obtain ⟨hL1, hL2⟩ := hL
    have hap := own_apart hi hown
    obtain ⟨a8, c8, rfl⟩ := owns_slice hown
    obtain ⟨p, hp⟩ : ∃ p, at_ + g = p := ⟨_, rfl⟩
    obtain ⟨m, hm⟩ : ∃ m, n - g = m := ⟨_, rfl⟩
    obtain ⟨q, hq⟩ : ∃ q, g + L = q := ⟨_, rfl⟩
    have ew1 : IntKind.i64.wrap ((at_ : Int) + (g : Int)) = (p : Int) := by rw [IntWalk.i64_in _ (by omega)]; omega
    have ew2 : IntKind.i64.wrap ((n : Int) - (g : Int)) = (m : Int) := by rw [IntWalk.i64_in _ (by omega)]; omega
    unfold ReadOut at hread
    rw [hp, hm] at hread
    rw [hp] at hown f1 f2 f3
    obtain ⟨pt, hpt⟩ : ∃ pt, s.extract p (p + L) = pt := ⟨_, rfl⟩
    rw [hpt] at hread
    have hps : pt.size = L := by rw [← hpt, ByteArray.size_extract]; omega
    have hcat : s.extract at_ p ++ pt = s.extract at_ (at_ + q) := by rw [← hpt, extract_cat _ (by omega) (by omega)]; congr 1; omega
    have Hcat := hid hcat
    clear hpt hcat
    by_cases hE0 : E = 0
    · subst hE0
      have hql : q ≤ 140737488355328 := by omega
      clear hE f1
      rw [hq] at f2 f3
      have hwb := hF.size
      have e63 : g + pt.size ≤ maxLen := by rw [hps, hq]; unfold maxLen; omega
      have e47 : g + pt.size ≤ 140737488355328 := by rw [hps, hq]; exact hql
      have hqs : g + pt.size = q := by rw [hps]; exact hq
      have hqp : 0 < q → at_ + q ≤ s.size := by intro h0; omega
      have hqn : q ≤ n := by omega
      by_cases hall : q = n
      · have f2' := f2 rfl hall
        clear f2 f3
        subst hall
        clear hn ha hs hL1 hL2 hrd1 hgs hp hm hps hra hrd hq hql hqp
        go_wp2_with (first
          | (go_at_call 15; refine hread.mono ?_; rintro e w2 ⟨rfl, rv2, hi2, hF2, hO2⟩; have hown2 := own_fr hown hF2 hap; have hsz2 := hF2.size; have hap2 := own_apart hi2 hown2)
          | (at_builtin; refine wpList_append_own_string _ rfl _ _ 89 9 rfl w.heap.size 5 i0 Try.underlying89 Try.underlying9 hi0 hz0 hz1 hz2 (.slice a8 g c8) g (strCells (s.extract at_ p)) rfl hown2 pt rfl e63 e47 (by omega) ?_; intro v3 w3 hown3 hgrow _; rw [hqs, ← strCells_append, Hcat.out] at hown3; have hcv := conv_own hown3; obtain ⟨a9, c9, rfl⟩ := owns_slice hown3))
        have hF3 : Fr (SrcF B C rv) w w3 := (hF.trans hF2 (srcF_sub hO)).grown hgrow (fun x hx => .inr (own_block hown hx).choose_spec.2)
        have hi3 := hi2.keep (F := fun k => (Value.slice a8 g c8).ownBlock = some k) ((Fr.refl _ _).grown hgrow (fun x hx => .inl hx)) (fun h => hap2 _ h (.inl rfl)) (fun h => hap2 _ h (.inr (.inl rfl))) (fun k hk h => hap2 _ h (.inr (.inr hk)))
        have hO3 : ∀ k, rv2.ownBlock = some k → rv.ownBlock = some k ∨ w.heap.size ≤ k := by
          intro k hk
          rcases hO2 k hk with h1 | h1
          · exact hO k h1
          · right; have := hF.size; omega
        go_ret2
        rw [f2']
        exact ⟨rfl, rv2, hi3, hF3, hO3⟩
      · have f3' := f3 rfl hall
        clear f2 f3
        have hne : ((q : Int) == (n : Int)) = false := by rw [beq_eq_false_iff_ne]; omega
        have hln := addSpan_length rd p L
        clear hn ha hs hL1 hL2 hgs hp hm hps hra hrd hq hql
        have Hqp := hid (And.intro hqp hqn)
        clear hqp hqn
        go_wp2_with (first
          | (go_at_call 15; refine hread.mono ?_; rintro e w2 ⟨rfl, rv2, hi2, hF2, hO2⟩; have hown2 := own_fr hown hF2 hap; have hsz2 := hF2.size; have hap2 := own_apart hi2 hown2)
          | (at_builtin; refine wpList_append_own_string _ rfl _ _ 89 9 rfl w.heap.size 5 i0 Try.underlying89 Try.underlying9 hi0 hz0 hz1 hz2 (.slice a8 g c8) g (strCells (s.extract at_ p)) rfl hown2 pt rfl e63 e47 (by omega) ?_; intro v3 w3 hown3 hgrow _; rw [hqs, ← strCells_append, Hcat.out] at hown3; have hcv := conv_own hown3; obtain ⟨a9, c9, rfl⟩ := owns_slice hown3))
        have hF3 : Fr (SrcF B C rv) w w3 := (hF.trans hF2 (srcF_sub hO)).grown hgrow (fun x hx => .inr (own_block hown hx).choose_spec.2)
        have hi3 := hi2.keep (F := fun k => (Value.slice a8 g c8).ownBlock = some k) ((Fr.refl _ _).grown hgrow (fun x hx => .inl hx)) (fun h => hap2 _ h (.inl rfl)) (fun h => hap2 _ h (.inr (.inl rfl))) (fun k hk h => hap2 _ h (.inr (.inr hk)))
        have hO3 : ∀ k, rv2.ownBlock = some k → rv.ownBlock = some k ∨ w.heap.size ≤ k := by
          intro k hk
          rcases hO2 k hk with h1 | h1
          · exact hO k h1
          · right; have := hF.size; omega
        go_roundw
        case rel =>
          exact ⟨q, st.tail, addSpan rd p L, rv2, Hqp.out.2, Hqp.out.1, hown3, hi3, hF3, hO3, f3'.2.symm, fun x hx => hf1 x (List.mem_of_mem_tail hx), by rw [List.length_tail]; omega⟩
        case measure =>
          have h1 := chanLeft_of hi3
          have h2 := f3'.1
          rw [hleft, h1, List.length_tail]
          omega
    · have hE2 : E = 7 ∨ E = 2 := by omega
      have f1' := f1 hE0
      clear f1 f2 f3 hE
      rcases hE2 with rfl | rfl
      all_goals
        go_wp2_with (go_at_call 15; refine hread.mono ?_; rintro e w2 ⟨rfl, rv2, hi2, hF2, hO2⟩)
        go_ret2
        rw [f1']
        refine ⟨rfl, rv2, hi2, hF.trans hF2 (srcF_sub hO), fun k hk => ?_⟩
        rcases hO2 k hk with h1 | h1
        · exact hO k h1
        · right; have := hF.size; omega
end Go.Proofs.Ytekinbeiljmddaa
