/- Contracts of package regions at int: Clash, Add. -/
import Derived.Test.YtmkbigaofhionaaSetInt
import Derived.Test.YtmkbigaofhionaaRegE
import Derived.RegionTactic
import Derived.Deep.RegionHeld3
import Derived.Deep.RegionWith
namespace Go.Proofs.Ytmkbigaofhionaa
open Go.RowKit
set_option linter.unusedVariables false
set_option linter.unusedSimpArgs false

set_option maxRecDepth 100000 in
set_option maxHeartbeats 2000000 in
theorem setClashInt {B : Nat} {v : Value} {l : List (Item Int)} (lo hi : Int) (w : World) (h : SetInt w B v l) (hr : Rises l) (hn : l.length ≤ 1000000000) :
    Calls Try.prog 22 #[.pointer (some ⟨B, 0, none⟩), .int .i64 lo, .int .i64 hi] w fun e w' => e = .returned (.bool (spanB lo hi && meets lo hi l)) ∧ Below w.heap.size w w' := by
  have hfrom := setFromInt lo w h hr hn
  have hsp := fun w => isSpan_any lo hi w
  have hm := meets_at (lo := lo) (hi := hi) hr
  obtain ⟨a, c, rfl⟩ := owns_slice h.row
  have hle := fromS_le lo l
  generalize fromS lo l = i at hfrom hm hle
  cases hs : spanB lo hi
  · rw [hs] at hsp
    clear hm hs
    go_enter Try.func22, Try.ntmps22
    go_wp2_with (first
      | (go_at_call 45; refine hfrom.mono ?_; rintro e w1 ⟨rfl, hb⟩)
      | (go_at_call 43; with_reducible refine (hsp _).mono ?_; rintro e w1 ⟨rfl, rfl⟩))
    go_ret
    exact ⟨rfl, hb⟩
  rw [hs] at hsp
  clear hs
  by_cases hlt : i < l.length
  · rw [dif_pos hlt] at hm
    obtain ⟨g, rfl, hg, hbg, hcell⟩ := itemInt_cells h.row hlt
    have hc3 := hcell 0 _ rfl
    clear hcell
    by_cases hx : l[i].1 < hi
    · rw [decide_eq_true hx] at hm
      have Hm := hid hm
      generalize l[i] = x at *
      clear hm
      go_enter Try.func22, Try.ntmps22
      go_wp2_with (first
        | (go_at_call 45; refine hfrom.mono ?_; rintro e w1 ⟨rfl, hb⟩; have hs1 := h.below hb; have hc4 := (hb.cell (p := ⟨g, i * 3 + 0, none⟩) hg).trans hc3; simp only [Nat.add_zero] at hc4)
        | (go_at_call 43; with_reducible refine (hsp _).mono ?_; rintro e w1 ⟨rfl, rfl⟩)
        | (go_at_call 47; with_reducible refine ((setAllInt _ hs1)).mono ?_; rintro e w1 ⟨rfl, rfl⟩))
      go_ret
      exact ⟨by rw [Hm.out]; rfl, hb⟩
    · rw [decide_eq_false hx] at hm
      have Hm := hid hm
      generalize l[i] = x at *
      clear hm
      go_enter Try.func22, Try.ntmps22
      go_wp2_with (first
        | (go_at_call 45; refine hfrom.mono ?_; rintro e w1 ⟨rfl, hb⟩; have hs1 := h.below hb; have hc4 := (hb.cell (p := ⟨g, i * 3 + 0, none⟩) hg).trans hc3; simp only [Nat.add_zero] at hc4)
        | (go_at_call 43; with_reducible refine (hsp _).mono ?_; rintro e w1 ⟨rfl, rfl⟩)
        | (go_at_call 47; with_reducible refine ((setAllInt _ hs1)).mono ?_; rintro e w1 ⟨rfl, rfl⟩))
      go_ret
      exact ⟨by rw [Hm.out]; simp [hx], hb⟩
  · rw [dif_neg hlt] at hm
    have Hm := hid hm
    clear hm
    obtain rfl : i = l.length := by omega
    go_enter Try.func22, Try.ntmps22
    go_wp2_with (first
      | (go_at_call 45; refine hfrom.mono ?_; rintro e w1 ⟨rfl, hb⟩; have hs1 := h.below hb)
      | (go_at_call 43; with_reducible refine (hsp _).mono ?_; rintro e w1 ⟨rfl, rfl⟩)
      | (go_at_call 47; with_reducible refine ((setAllInt _ hs1)).mono ?_; rintro e w1 ⟨rfl, rfl⟩))
    go_ret
    exact ⟨by rw [Hm.out]; rfl, hb⟩


def SetAddInt (B : Nat) (v : Value) (l : List (Item Int)) (lo hi : Int) (x : Int) (w : World) (e : Ending) (w' : World) : Prop :=
  e = .returned (.int .i64 (addE lo hi l)) ∧ ∃ v', SetInt w' B v' (addL lo hi x l) ∧ Fr (fun k => k = B ∨ v.ownBlock = some k) w w' ∧ ∀ k, v'.ownBlock = some k → v.ownBlock = some k ∨ w.heap.size ≤ k

theorem itemInt_one1 (x : Item Int) : ∀ u ∈ itemCInt x, u.oneCell' = true := by
  intro u hu
  have := itemInt_one [x] u (by simpa using hu)
  exact this

/-- The insertion in Add. -/
theorem setInsInt {B : Nat} {v : Value} {l : List (Item Int)} (lo hi : Int) (x : Int) (w1 W : World) (vb : Nat) (hs : SetInt w1 B v l) (hB : Below w1.heap.size w1 W) (hvb : Blk W vb (.cells #[.int .i64 lo, .int .i64 hi, .int .i64 x] 75 (0, 0))) (hge : w1.heap.size ≤ vb) (hn : l.length ≤ 100000000) :
    Calls Try.prog 44 #[v, .int .i64 (fromS lo l), .slice (some ⟨vb, 0, none⟩) 1 1] W
      (InsPostInt (B + 1) v l.length (fromS lo l) (l.flatMap itemCInt) (itemCInt (lo, hi, x)) W) := by
  have hBl := hs.lt
  have hBs := hB.size
  refine insInt_any (B + 1) v l.length (fromS lo l) vb (l.flatMap itemCInt) (itemCInt (lo, hi, x)) W ?_ (by omega) hvb ?_ rfl (itemInt_one1 _) (itemInt_one l) (by omega) (fromS_le lo l)
  · exact own_fr hs.row (F := fun _ => False) (Fr.of_below hB) (fun _ _ h => h)
  · intro h
    have := (hs.row.lt _ h).2
    omega

/-- What is left behind it: the new row is stored. -/
theorem setInsInt_end {B : Nat} {v v' : Value} {l : List (Item Int)} (lo hi : Int) (x : Int) (w w1 W w3 : World) (hb : Below w.heap.size w w1) (hs : SetInt w1 B v l) (hB : Below w1.heap.size w1 W)
    (hown : w3.ownsRow (B + 1) 75 3 v' (l.length + 1) ((l.flatMap itemCInt).take (fromS lo l * 3) ++ itemCInt (lo, hi, x) ++ (l.flatMap itemCInt).drop (fromS lo l * 3)))
    (hgr : W.grownBy w3 v.ownBlock) (hat : v'.ownBlock = v.ownBlock ∨ ∃ b, v'.ownBlock = some b ∧ W.heap.size ≤ b) :
    Blk w3 B (.cells #[v] 72 (0, 0)) ∧ (SetInt (w3.setCell ⟨B, 0, none⟩ v') B v' (insS (lo, hi, x) l) ∧ Fr (fun k => k = B ∨ v.ownBlock = some k) w (w3.setCell ⟨B, 0, none⟩ v') ∧ ∀ k, v'.ownBlock = some k → v.ownBlock = some k ∨ w.heap.size ≤ k) := by
  have hne : v.ownBlock ≠ some B := fun h => by have := (hs.row.lt _ h).1; omega
  have hb3 : Blk w3 B (.cells #[v] 72 (0, 0)) := blk_grown (hs.obj.below hB hs.lt) hgr hne
  refine ⟨hb3, ⟨hb3.setCell_same 0 v', ?_⟩, ?_, ?_⟩
  · rw [insS_length, insS_eq, List.flatMap_append, List.flatMap_cons, ← List.append_assoc, ← flat_take (k := 3) (fun _ => rfl), ← flat_drop (k := 3) (fun _ => rfl)]
    exact ownsRow_setCell_below hown (a := ⟨B, 0, none⟩) (Nat.lt_succ_self B) v'
  · have h1 : Fr (fun k => k = B ∨ v.ownBlock = some k) w W := (Fr.of_below hb).then_below hB
    exact (h1.grown hgr (fun k hk => .inl (.inr hk))).setCell (p := ⟨B, 0, none⟩) (.inl (.inl rfl)) v'
  · intro k hk
    have := hb.size
    have := hB.size
    rcases hat with hat | ⟨b, hat, hge⟩
    · exact .inl (hat ▸ hk)
    · right
      rw [hat] at hk
      have := Option.some.inj hk
      omega

def SetMidInt (B : Nat) (v : Value) (l : List (Item Int)) (lo hi : Int) (x : Int) (w w1 : World) (e : Ending) (w3 : World) : Prop :=
  ∃ v' W, e = .returned v' ∧ Below w1.heap.size w1 W ∧ w3.ownsRow (B + 1) 75 3 v' (l.length + 1) ((l.flatMap itemCInt).take (fromS lo l * 3) ++ itemCInt (lo, hi, x) ++ (l.flatMap itemCInt).drop (fromS lo l * 3)) ∧
    W.grownBy w3 v.ownBlock ∧ (v'.ownBlock = v.ownBlock ∨ ∃ b, v'.ownBlock = some b ∧ W.heap.size ≤ b)

set_option maxRecDepth 100000 in
set_option maxHeartbeats 40000000 in
theorem setAddInt {B : Nat} {v : Value} {l : List (Item Int)} (lo hi : Int) (x : Int) (w : World) (h : SetInt w B v l) (hr : Rises l) (hn : l.length ≤ 100000000) :
    Calls Try.prog 15 #[.pointer (some ⟨B, 0, none⟩), .int .i64 lo, .int .i64 hi, (.int .i64 x)] w (SetAddInt B v l lo hi x w) := by
  have hsp := fun w => isSpan_any lo hi w
  have hcl := fun w (h : SetInt w B v l) => setClashInt lo hi w h hr (by omega)
  cases hs : spanB lo hi
  · rw [hs] at hsp
    have He := hid (show addE lo hi l = 1 by unfold addE; rw [hs]; rfl)
    have Hl := hid (show addL lo hi x l = l by unfold addL; rw [hs]; rfl)
    clear hs
    go_enter Try.func15, Try.ntmps15
    go_wp2_with (go_at_call 43; with_reducible refine (hsp _).mono ?_; rintro e w1 ⟨rfl, rfl⟩)
    go_ret
    refine ⟨by rw [He.out]; rfl, v, ?_, ?_, fun k hk => .inl hk⟩
    · rw [Hl.out]; first | exact h | exact h.below (bel_alloc (bel_refl _) _)
    · first | exact Fr.refl _ _ | exact Fr.alloc (Fr.refl _ _) _
  cases hm : meets lo hi l
  case true =>
    rw [hs] at hsp hcl
    rw [hm] at hcl
    have He := hid (show addE lo hi l = 5 by unfold addE; rw [hs, hm]; rfl)
    have Hl := hid (show addL lo hi x l = l by unfold addL; rw [hs, hm]; rfl)
    clear hs hm
    go_enter Try.func15, Try.ntmps15
    go_wp2_with (first
      | (go_at_call 43; with_reducible refine (hsp _).mono ?_; rintro e w1 ⟨rfl, rfl⟩)
      | (go_at_call 22; refine (hcl _ (by first | exact h | exact h.below (bel_alloc (bel_refl _) _))).mono ?_; rintro e w1 ⟨rfl, hb⟩))
    go_ret
    refine ⟨by rw [He.out]; rfl, v, ?_, ?_, fun k hk => .inl hk⟩
    · rw [Hl.out]; first | exact h.below hb | exact h.below (bel_trans (bel_alloc (bel_refl _) _) hb)
    · first | exact Fr.of_below hb | exact Fr.of_below (bel_trans (bel_alloc (bel_refl _) _) hb)
  rw [hs] at hsp hcl
  rw [hm] at hcl
  have He := hid (show addE lo hi l = 0 by unfold addE; rw [hs, hm]; rfl)
  have Hl := hid (show addL lo hi x l = insS (lo, hi, x) l by unfold addL; rw [hs, hm]; rfl)
  clear hs hm
  go_enter Try.func15, Try.ntmps15
  go_wp2_with (first
    | (go_at_call 43; with_reducible refine (hsp _).mono ?_; rintro e w1 ⟨rfl, rfl⟩)
    | (go_at_call 22; refine (hcl _ (by first | exact h | exact h.below (bel_alloc (bel_refl _) _))).mono ?_; rintro e w1 ⟨rfl, hb⟩))
  have hbw : Below w.heap.size w w1 := by first | exact hb | exact bel_trans (bel_alloc (bel_refl _) _) hb
  have hs1 : SetInt w1 B v l := by first | exact h.below hb | exact h.below (bel_trans (bel_alloc (bel_refl _) _) hb)
  skip
  have hB := bel_refl w1
  have hf := fun w (h : SetInt w B v l) => setFromInt lo w h hr (by omega)
  have hc0 : w1.cell? ⟨B, 0, none⟩ = some v := by rw [hs1.obj.cell]; rfl
  have hf0 : w1.frozen? ⟨B, 0, none⟩ = false := hs1.obj.frozen 0
  have hBl := hs1.lt
  have hinsA : ∀ w2, Below w1.heap.size w1 w2 → Calls Try.prog 44 #[v, .int .i64 (fromS lo l), .slice (some ⟨w2.heap.size, 0, none⟩) 1 1] (w2.alloc (.cells #[.int .i64 lo, .int .i64 hi, .int .i64 x] 75))
      (SetMidInt B v l lo hi x w w1) := fun w2 hB2 =>
    (setInsInt lo hi x w1 _ _ hs1 (bel_alloc hB2 _) (Blk.new _ _) hB2.size hn).mono fun e w3 ⟨v', he, hown, hgr, hat⟩ => ⟨v', _, he, bel_alloc hB2 _, hown, hgr, hat⟩
  have hinsB : ∀ w2, Below w1.heap.size w1 w2 → Blk w2 w1.heap.size (.cells #[.int .i64 lo, .int .i64 hi, .int .i64 x] 75 (0, 0)) → Calls Try.prog 44 #[v, .int .i64 (fromS lo l), .slice (some ⟨w1.heap.size, 0, none⟩) 1 1] w2
      (SetMidInt B v l lo hi x w w1) := fun w2 hB2 hN =>
    (setInsInt lo hi x w1 _ _ hs1 hB2 hN (Nat.le_refl _) hn).mono fun e w3 ⟨v', he, hown, hgr, hat⟩ => ⟨v', _, he, hB2, hown, hgr, hat⟩
  have hmid := fun w3 v' W hB2 hown hgr hat => setInsInt_end lo hi x w w1 W w3 hbw hs1 (v' := v') hB2 hown hgr hat
  have Hmid := hid hmid
  clear hmid
  go_region_with (first
    | (go_at_call 45; with_reducible refine (hf _ (hs1.below (by repeat (first | exact hB | refine bel_alloc ?_ _ | refine below_drewN ?_ _ | refine Below.drew ?_ | refine bel_set ?_ (by simp; omega) _)))).mono ?_; rintro e w2 ⟨rfl, hb2⟩; have hB : Below w1.heap.size w1 w2 := bel_trans (by repeat (first | exact hB | refine bel_alloc ?_ _ | refine below_drewN ?_ _ | refine Below.drew ?_ | refine bel_set ?_ (by simp; omega) _)) hb2; have hc02 : w2.cell? ⟨B, 0, none⟩ = some v := (hB.cell (p := ⟨B, 0, none⟩) hBl).trans hc0; have hz2 := hB.size; have hBl2 : B < w2.heap.size := Nat.lt_of_lt_of_le hBl hz2; skip; (try (have hN : Blk w2 w1.heap.size (.cells #[.int .i64 lo, .int .i64 hi, .int .i64 x] 75 (0, 0)) := (Blk.drew (Blk.new w1 (.cells #[.int .i64 lo, .int .i64 hi, .int .i64 x] 75))).below hb2 (by simp))); skip)
    | (go_at_call 44; (first | (with_reducible refine (hinsA _ hB).mono ?_) | (with_reducible refine (hinsB _ hB hN).mono ?_)); rintro e w3 ⟨v', W, rfl, hBW, hown', hgr, hat⟩; have hfin := Hmid.out w3 v' W hBW hown' hgr hat; have hc3 := hfin.1.cell 0; have hf3 := hfin.1.frozen 0; simp at hc3; have Hfin := hid hfin; clear hfin hat hgr; obtain ⟨a9, c9, rfl⟩ := owns_slice hown'; clear hown'; skip))
  all_goals
    go_wp2
    go_ret
    refine ⟨by rw [He.out]; rfl, _, ?_, Hfin.out.2.2.1, Hfin.out.2.2.2⟩
    rw [Hl.out]; exact Hfin.out.2.1
end Go.Proofs.Ytmkbigaofhionaa
