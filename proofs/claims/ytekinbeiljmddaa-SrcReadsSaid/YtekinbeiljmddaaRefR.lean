/- Contract of mortiseref02's ReadAt. -/
import Derived.Test.YtekinbeiljmddaaRefN
namespace Go.Proofs.Ytekinbeiljmddaa
open Go.RowKit Go.Conc Go.Lib
set_option linter.unusedVariables false
set_option linter.unusedSimpArgs false

/-- The reference's source's own blocks that a read turns. -/
def RefF (R : Nat) (rv : Value) (k : Nat) : Prop := k = R ∨ rv.ownBlock = some k

def RefOut (R : Nat) (rv : Value) (s : ByteArray) (steps : List TStep.Val) (reads : List (Int × Int)) (txt : ByteArray) (E : Int) (w : World) (e : Ending) (w' : World) : Prop :=
  e = .returned (.tuple #[.string txt, .int .i64 E]) ∧
    ∃ sv' rv', RefInv w' R sv' rv' s steps reads ∧ Fr (RefF R rv) w w' ∧ ∀ k, rv'.ownBlock = some k → rv.ownBlock = some k ∨ w.heap.size ≤ k

theorem refReadAt_ref (p : Addr) (at_ n : Int) (w : World) (hr : refB at_ n = true) :
    Calls Try.prog 36 #[.pointer (some p), .int .i64 at_, .int .i64 n] w fun e w' => e = .returned (.tuple #[.string ⟨#[]⟩, .int .i64 1]) ∧ w = w' := by
  have ha := fun w => asks_any at_ n w
  rw [hr] at ha
  go_enter Try.func36, Try.ntmps36
  go_wp2_with (go_at_call 54; with_reducible refine (ha _).mono ?_; rintro e w1 ⟨rfl, rfl⟩)
  go_ret2
  exact ⟨rfl, rfl⟩

theorem own_blk_ne {w : World} {base n size k : Nat} {e : TypeId} {v : Value} {xs : List Value} (h : w.ownsRow base e size v n xs) {o : Obj} (hb : Blk w k o) (hne : ∀ cur, o ≠ .cells cur e (0, 0)) : v.ownBlock ≠ some k := by
  intro hk
  obtain ⟨cur, hc, _⟩ := own_block h hk
  unfold Blk at hb
  rw [hc] at hb
  exact hne cur (Option.some.inj hb).symm

/-- The script without its first step. -/
theorem scr_tail {w : World} {R G o cap : Nat} {x : TStep.Val} {r : List TStep.Val} (h : Scr w R (.slice (some ⟨G, o, none⟩) (r.length + 1) cap) (x :: r)) :
    Scr w R (.slice (if cap = 1 then some ⟨G, o, none⟩ else some ⟨G, o + 2, none⟩) r.length (cap - 1)) r := by
  obtain ⟨a, cap', h1, h2, h3⟩ := h
  simp only [Value.slice.injEq] at h1
  obtain ⟨rfl, _, rfl⟩ := h1
  simp only [List.length_cons] at h2
  refine ⟨_, _, rfl, by omega, fun hs => ?_⟩
  obtain ⟨G', o', cur, h4, h5, h6, h7⟩ := h3 (by simp)
  simp only [Option.some.injEq, Addr.mk.injEq] at h4
  obtain ⟨rfl, rfl, _⟩ := h4
  refine ⟨G, o + 2, cur, if_neg (by omega), h5, h6, fun i hi => ?_⟩
  have := h7 (i + 1) (by simp; omega)
  rw [show o + (i + 1) * 2 = o + 2 + i * 2 by omega] at this
  simpa using this

/-- What the reference has at hand behind its first lines: the step in a box of its own. -/
structure RefMid (w w2 : World) (R : Nat) (sv rv : Value) (s : ByteArray) (steps : List TStep.Val) (reads : List (Int × Int)) (kd nn : Int) : Prop where
  inv : RefInv w2 R sv rv s steps reads
  box : Blk w2 w.heap.size (.cells #[.int .i64 kd, .int .i64 nn] 63 (0, 0))
  fr : Fr (fun k => k = R) w w2
  size : w2.heap.size = w.heap.size + 1

theorem mid_nil {w : World} {R : Nat} {sv rv : Value} {s : ByteArray} {reads : List (Int × Int)} (h : RefInv w R sv rv s [] reads) :
    RefMid w (w.alloc (.cells #[.int .i64 0, .int .i64 0] 63)) R sv rv s [] reads 0 0 :=
  ⟨⟨h.obj.alloc _, h.scr.fr (F := fun _ => False) (Fr.alloc (Fr.refl _ _) _) (fun _ _ _ _ h => h), h.row.alloc _⟩, Blk.new w _, Fr.alloc (Fr.refl _ _) _, by simp⟩

theorem mid_cons {w : World} {R G o cap : Nat} {rv : Value} {s : ByteArray} {kd nn : Int} {u : Unit} {r : List TStep.Val} {reads : List (Int × Int)}
    (h : RefInv w R (.slice (some ⟨G, o, none⟩) (r.length + 1) cap) rv s ((kd, nn, u) :: r) reads) :
    RefMid w ((w.setCell ⟨R, 1, none⟩ (.slice (if cap = 1 then some ⟨G, o, none⟩ else some ⟨G, o + 2, none⟩) r.length (cap - 1))).alloc (.cells #[.int .i64 kd, .int .i64 nn] 63)) R
      (.slice (if cap = 1 then some ⟨G, o, none⟩ else some ⟨G, o + 2, none⟩) r.length (cap - 1)) rv s r reads kd nn := by
  obtain ⟨hobj, hscr, hrow⟩ := h
  have hF : Fr (fun k => k = R) w (w.setCell ⟨R, 1, none⟩ (.slice (if cap = 1 then some ⟨G, o, none⟩ else some ⟨G, o + 2, none⟩) r.length (cap - 1))) := Fr.setCell (F := fun k => k = R) (Fr.refl _ w) (p := ⟨R, 1, none⟩) (.inl rfl) _
  have hz : (w.setCell ⟨R, 1, none⟩ (.slice (if cap = 1 then some ⟨G, o, none⟩ else some ⟨G, o + 2, none⟩) r.length (cap - 1))).heap.size = w.heap.size := by simp [World.setCell]
  have hb := Blk.new (w.setCell ⟨R, 1, none⟩ (.slice (if cap = 1 then some ⟨G, o, none⟩ else some ⟨G, o + 2, none⟩) r.length (cap - 1))) (.cells #[.int .i64 kd, .int .i64 nn] 63)
  rw [hz] at hb
  refine ⟨⟨(hobj.setCell_same 1 _).alloc _, (scr_tail hscr).fr (hF.alloc _) (fun G' _ hG _ h => by omega), (ownsRow_setCell_below hrow (a := ⟨R, 1, none⟩) (Nat.lt_succ_self R) _).alloc _⟩, hb, hF.alloc _, by simp [hz]⟩

set_option maxRecDepth 100000 in
set_option maxHeartbeats 4000000 in
theorem refReadAt_in {R : Nat} {sv rv : Value} {s : ByteArray} {steps : List TStep.Val} {reads : List (Int × Int)} (at_ n k0 L : Nat) (E kd nn : Int) (w : World) (h : RefInv w R sv rv s steps reads) (hr : refB at_ n = false)
    (hst : nextS steps = (kd, nn, ())) (hs : s.size ≤ 140737488351232) (hrd : reads.length ≤ 1000000000) (hk0 : k0 = rdMost s.size at_ n)
    (hL : (kd = 2 ∧ L = 0 ∧ E = 7) ∨ (kd == 2) = false ∧ (((kd == 1) = true ∧ nn < (k0 : Int) ∧ nn = (L : Int) ∧ E = 0) ∨ (L = k0 ∧ E = (if k0 < n then 2 else 0) ∧ ((kd == 1) = false ∨ (kd == 1) = true ∧ (k0 : Int) ≤ nn)))) :
    Calls Try.prog 36 #[.pointer (some ⟨R, 0, none⟩), .int .i64 at_, .int .i64 n] w
      (RefOut R rv s steps.tail (addSpan reads at_ L) (s.extract at_ (at_ + L)) E w) := by
  have ha := fun w => asks_any at_ n w
  rw [hr] at ha
  obtain ⟨i0, hi0, hz0, hz1, hz2⟩ := info_parts info_span
  have hk1 : k0 ≤ n := by rw [hk0]; unfold rdMost; omega
  have hk2 : k0 ≤ s.size - at_ := by rw [hk0]; unfold rdMost; omega
  have hmin : at_ < s.size → min (n : Int) ((s.size : Int) - (at_ : Int)) = (k0 : Int) := by intro h1; rw [hk0]; unfold rdMost; omega
  have hn : n ≤ 1048576 := by unfold refB at hr; simp at hr; omega
  have hwr : at_ < s.size → IntKind.i64.wrap ((s.size : Int) - (at_ : Int)) = (s.size : Int) - (at_ : Int) := fun h1 => IntWalk.i64_in _ (by omega)
  clear hk0
  have hRl := h.obj.lt
  rcases steps with _ | ⟨⟨kd', nn', u⟩, r⟩
  case' nil =>
    simp only [nextS, Prod.mk.injEq] at hst
    obtain ⟨e0, e1, _⟩ := hst
    have hmid : RefMid w (w.alloc (.cells #[.int .i64 0, .int .i64 0] 63)) R sv rv s (List.tail []) reads kd nn := by subst e0; subst e1; exact mid_nil h
    clear e0 e1
    obtain ⟨hobj, ⟨a, cap, rfl, hlc, hscr⟩, hrow⟩ := h
    have hc0 : w.cell? ⟨R, 1, none⟩ = some (.slice a 0 cap) := by rw [hobj.cell]; rfl
    go_enter Try.func36, Try.ntmps36
    go_upto_region 7 with (go_at_call 54; with_reducible refine (ha _).mono ?_; rintro e w1 ⟨rfl, rfl⟩)
    generalize w.alloc (.cells #[.int .i64 0, .int .i64 0] 63) = w2 at *
  case' cons =>
    change Int at kd'
    change Int at nn'
    simp only [nextS, Prod.mk.injEq] at hst
    obtain ⟨e0, e1, _⟩ := hst
    have e0' := e0.symm
    have e1' := e1.symm
    clear e0 e1
    subst e0'
    subst e1'
    have h' := h
    obtain ⟨hobj, ⟨a, cap, rfl, hlc, hscr⟩, hrow⟩ := h'
    obtain ⟨G, o, cur, rfl, hRG, hbG, hcells⟩ := hscr (by simp)
    have hmid : RefMid w ((w.setCell ⟨R, 1, none⟩ (.slice (if cap = 1 then some ⟨G, o, none⟩ else some ⟨G, o + 2, none⟩) r.length (cap - 1))).alloc (.cells #[.int .i64 kd, .int .i64 nn] 63)) R
      (.slice (if cap = 1 then some ⟨G, o, none⟩ else some ⟨G, o + 2, none⟩) r.length (cap - 1)) rv s (List.tail ((kd, nn, u) :: r)) reads kd nn := mid_cons (u := u) h
    have hc0 : w.cell? ⟨R, 1, none⟩ = some (.slice (some ⟨G, o, none⟩) (r.length + 1) cap) := by rw [hobj.cell]; rfl
    have hf1 : w.frozen? ⟨R, 1, none⟩ = false := hobj.frozen 1
    have hk9 := hcells 0 (by simp)
    have hg0 : w.cell? ⟨G, o, none⟩ = some (.int .i64 kd) := by rw [hbG.cell]; simpa using hk9.1
    have hg1 : w.cell? ⟨G, o + 1, none⟩ = some (.int .i64 nn) := by rw [hbG.cell]; simpa using hk9.2
    have hGl := hbG.lt
    clear hk9 hcells hscr h
    go_enter Try.func36, Try.ntmps36
    go_upto_region 7 with (go_at_call 54; with_reducible refine (ha _).mono ?_; rintro e w1 ⟨rfl, rfl⟩)
    generalize (w.setCell ⟨R, 1, none⟩ (.slice (if cap = 1 then some ⟨G, o, none⟩ else some ⟨G, o + 2, none⟩) r.length (cap - 1))).alloc (.cells #[.int .i64 kd, .int .i64 nn] 63) = w2 at *
    generalize (if cap = 1 then some (⟨G, o, none⟩ : Addr) else some ⟨G, o + 2, none⟩) = aT at *
  all_goals
    generalize List.tail _ = st2 at *
    obtain ⟨sv2, hi2, hbox, hF2, hzw⟩ : ∃ sv2, RefInv w2 R sv2 rv s st2 reads ∧ Blk w2 w.heap.size (.cells #[.int .i64 kd, .int .i64 nn] 63 (0, 0)) ∧ Fr (fun k => k = R) w w2 ∧ w2.heap.size = w.heap.size + 1 := ⟨_, hmid.inv, hmid.box, hmid.fr, hmid.size⟩
    clear hmid
    have hobj2 := hi2.obj
    have hcs : w2.cell? ⟨R, 0, none⟩ = some (.string s) := by rw [hobj2.cell]; rfl
    have hc2 : w2.cell? ⟨R, 2, none⟩ = some rv := by rw [hobj2.cell]; rfl
    have hf2 : w2.frozen? ⟨R, 2, none⟩ = false := hobj2.frozen 2
    have hx0 : w2.cell? ⟨w.heap.size, 0, none⟩ = some (.int .i64 kd) := by rw [hbox.cell]; rfl
    have hx1 : w2.cell? ⟨w.heap.size, 1, none⟩ = some (.int .i64 nn) := by rw [hbox.cell]; rfl
    have hown0 := hi2.row
    have hFr : Fr (RefF R rv) w w2 := (Fr.refl _ _).trans hF2 (fun k hk => Or.inl (Or.inl hk))
    have fin0 : L = 0 → RefOut R rv s st2 (addSpan reads at_ L) (s.extract at_ (at_ + L)) E w (.returned (.tuple #[.string ⟨#[]⟩, .int .i64 E])) w2 := by
      intro h0
      subst h0
      rw [extract_zero]
      refine ⟨rfl, sv2, rv, ?_, hFr, fun k hk => Or.inl hk⟩
      unfold addSpan
      rw [if_neg (by omega), List.append_nil]
      exact hi2
    have Hfin0 := hid fin0
    have hrl : ∀ k, rv.ownBlock = some k → R + 1 ≤ k ∧ k < w2.heap.size := hown0.lt
    have Hrl := hid hrl
    have HFr := hid hFr
    have hRl2 := hobj2.lt
    have Hscr : Hid (∀ (w3 : World) (x : Value), (w2.alloc (.cells #[.int .i64 at_, .int .i64 (at_ + L)] 77)).grownBy w3 rv.ownBlock → Scr (w3.setCell ⟨R, 2, none⟩ x) R sv2 st2) := by
      intro w3 x hg
      refine hi2.scr.fr (F := fun k => k = R ∨ rv.ownBlock = some k) ?_ ?_
      · exact Fr.setCell (F := fun k => k = R ∨ rv.ownBlock = some k) ((Fr.alloc (Fr.refl _ _) _).grown hg (fun x hx => Or.inl (Or.inr hx))) (p := ⟨R, 2, none⟩) (Or.inl (Or.inl rfl)) _
      · intro G cur hG hbG h
        rcases h with h | h
        · omega
        · exact own_blk_ne hown0 hbG (by intro c hc; simp at hc) h
    have hz9 : w.heap.size < w2.heap.size := by omega
    clear fin0 hFr hrl hF2 hzw
    generalize htx : s.extract at_ (at_ + L) = txt at *
    generalize hrd2 : addSpan reads at_ L = rd2 at *
    rcases hL with ⟨g1, g2, g3⟩ | ⟨hx, hL⟩
    · subst g1
      subst g3
      have hf0 := Hfin0.out g2
      clear hmin hwr
      go_wp2
      go_ret2
      exact hf0
    by_cases hL0 : 0 < L
    · have hat : at_ < s.size := by
        rcases hL with ⟨g1, g2, g3, g4⟩ | ⟨hLk, he, hg⟩
        · omega
        · clear he hg; omega
      have hmin' := hmin hat
      have hwr' := hwr hat
      clear hmin hwr
      by_cases hlt : k0 < n
      all_goals
        rcases hL with ⟨g1, g2, rfl, rfl⟩ | ⟨hLk, he, g1 | ⟨g1, g2⟩⟩
        all_goals
          have hatL : at_ + L ≤ s.size := by omega
          have hwL : IntKind.i64.wrap ((at_ : Int) + (L : Int)) = (at_ : Int) + (L : Int) := IntWalk.i64_in _ (by omega)
          first
            | (have hE := he.trans (if_pos hlt); clear he; subst hE)
            | (have hE := he.trans (if_neg hlt); clear he; subst hE)
            | skip
          try (subst hLk)
          go_wp2_with (at_builtin; go_loud (refine wpList_append_own_at _ rfl _ _ 71 rfl (R + 1) 77 i0 (.agg #[.int .i64 0, .int .i64 0]) 2 16 Try.underlying71 hi0 hz0 hz1 hz2 rfl (by decide) rv reads.length (reads.flatMap spanV) rfl (hown0.alloc _) ⟨w2.heap.size, 0, none⟩ 1 1 [.int .i64 at_, .int .i64 (at_ + L)] rfl rfl (two_new _ _ _ _ _ (by simp)) (by intro u hu; simp at hu; rcases hu with rfl | rfl <;> rfl) (by unfold maxLen; omega) (by omega) (by simp; omega) ?_); intro v' w3 hown' hgrow hnil hat9; obtain ⟨a9, c9, rfl⟩ := owns_slice hown'; have hbR := blk_grown (hobj2.alloc _) hgrow (fun h => by have := (Hrl.out _ h).1; omega); have hcR := hbR.cell 2; have hfR := hbR.frozen 2; have hcR0 := hbR.setCell_same 2 (.slice a9 (reads.length + 1) c9); have hcR9 := hcR0.cell 0)
          go_ret2
          refine ⟨by rw [← htx]; rfl, sv2, _, ⟨hbR.setCell_same 2 _, Hscr.out _ _ hgrow, ?_⟩, ?_, ?_⟩
          · rw [← hrd2]
            unfold addSpan
            rw [if_pos hL0]
            have := ownsRow_setCell_below hown' (a := ⟨R, 2, none⟩) (Nat.lt_succ_self R) (.slice a9 (reads.length + 1) c9)
            simpa [spanV] using this
          · exact ((HFr.out.alloc _).grown hgrow (fun x hx => Or.inl (Or.inr hx))).setCell (Or.inl (Or.inl rfl)) _
          · intro k hk
            rcases hat9 with h9 | h9
            · left; rw [← h9]; exact hk
            · right; rw [h9] at hk; simp at hk; omega
    · have hL9 : L = 0 := by omega
      subst hL9
      have hf0 := Hfin0.out rfl
      clear htx hrd2
      by_cases hat : at_ < s.size
      · have hmin' := hmin hat
        have hwr' := hwr hat
        clear hmin hwr
        by_cases hlt : k0 < n
        all_goals
          rcases hL with ⟨g1, g2, g3, g4⟩ | ⟨hLk, he, hg⟩
          · have g3' : nn = 0 := by omega
            clear g3
            subst g3'
            subst g4
            go_wp2
            go_ret2
            exact hf0
          · have hk00 : k0 = 0 := by clear he hg; omega
            subst hk00
            have hn0 : ¬ 0 < n := by clear he hg; omega
            first
              | (have hE := he.trans (if_pos hlt); clear he; subst hE)
              | (have hE := he.trans (if_neg hlt); clear he; subst hE)
            try (exact absurd hlt hn0)
            all_goals rcases hg with g1 | ⟨g1, g2⟩
            all_goals
              go_wp2
              go_ret2
              exact hf0
      · have hk00 : k0 = 0 := by omega
        subst hk00
        clear hmin hwr
        by_cases hlt : 0 < n
        all_goals
          rcases hL with ⟨g1, g2, g3, g4⟩ | ⟨hLk, he, hg⟩
          · exfalso; omega
          clear hL0
          first
            | (have hE := he.trans (if_pos hlt); clear he; subst hE)
            | (have hE := he.trans (if_neg hlt); clear he; subst hE)
          rcases hg with g1 | ⟨g1, g2⟩
          all_goals
            go_wp2
            go_ret2
            exact hf0

end Go.Proofs.Ytekinbeiljmddaa
