/- The law RegionsAdds of mortiselaw04. -/
import Derived.Test.YtmkbigaofhionaaSame4
import Derived.Deep.RegionHeld3
namespace Go.Proofs.Ytmkbigaofhionaa
open Go.RowKit
set_option linter.unusedVariables false
set_option linter.unusedSimpArgs false

def AddsRel (w : World) (B R n : Nat) (v9 : Value) (wr : World) : Prop :=
  ∃ (k : Nat) (v lv xv : Value) (L : List (Item Int)), k ≤ n ∧ k ≤ 60 ∧ v9 = .int .i64 k ∧ Both w wr B R v lv xv L ∧ Rises L ∧ L.length ≤ k

theorem Both.store {w wr : World} {B R : Nat} {v lv xv : Value} {L : List (Item Int)} (h : Both w wr B R v lv xv L) {g : Nat} (N j : Nat) (u : Value) (hN : N ≤ g) (hw : w.heap.size ≤ g) (hB : B < N) (hR : R < N) (hv : ∀ k, v.ownBlock = some k → k < N) (hl : ∀ k, lv.ownBlock = some k → k < N)
    (hx : ∀ k, xv.ownBlock = some k → k < N) : Both w (wr.setCell ⟨g, j, none⟩ u) B R v lv xv L := by
  have hF : Fr (fun k => k = g) wr (wr.setCell ⟨g, j, none⟩ u) := Fr.setCell (F := fun k => k = g) (Fr.refl _ _) (p := ⟨g, j, none⟩) (.inl rfl) u
  exact ⟨h.set.fr hF (by omega) (fun k hk e => by have := hv k hk; omega), h.ref.fr hF (by omega) (fun k hk e => by have := hl k hk; omega) (fun k hk e => by have := hx k hk; omega), h.hB, h.hR, bel_set h.bel hw u⟩

/-- While the gaps are overwritten. -/
def OverRel4 (w : World) (B R : Nat) (v lv xv : Value) (L : List (Item Int)) (N n : Nat) (gv : Value) (v12 : Value) (wr : World) : Prop :=
  ∃ i : Nat, i ≤ n ∧ v12 = .int .i64 i ∧ Both w wr B R v lv xv L ∧ ∃ l, wr.ownsRow N 32 2 gv n l

theorem row_place {w : World} {base n c : Nat} {e : TypeId} {a : Option Addr} {l : List Value} (h : w.ownsRow base e 2 (.slice a n c) n l) {i : Nat} (hi : i < n) :
    ∃ g u, a = some ⟨g, 0, none⟩ ∧ g < w.heap.size ∧ base ≤ g ∧ w.cell? ⟨g, i * 2, none⟩ = some u ∧ w.frozen? ⟨g, i * 2, none⟩ = false := by
  rcases h.2 with ⟨h1, h2⟩ | ⟨g, cap, cur, h1, _, hh, _⟩
  · omega
  · simp only [Value.slice.injEq] at h1
    obtain ⟨rfl, _, rfl⟩ := h1
    have hg := h.lt g rfl
    have hl : i * 2 < l.length := by rw [h.1]; omega
    have c0 := h.cells (g := g) rfl (i * 2) _ (List.getElem?_eq_getElem hl)
    rw [Addr.add_lit, Nat.zero_add] at c0
    exact ⟨g, _, rfl, hg.2, hg.1, c0, Blk.frozen hh _⟩

theorem both_clash1 {w wr : World} {B R : Nat} {v lv xv : Value} {L : List (Item Int)} (lo hi : Int) (b : Bool) (h : Both w wr B R v lv xv L) (hr : Rises L) (hn : L.length ≤ 100000000) (hb : (spanB lo hi && meets lo hi L) = b) :
    Calls Try.prog 22 #[.pointer (some ⟨B, 0, none⟩), .int .i64 lo, .int .i64 hi] wr fun e w' => e = .returned (.bool b) ∧ Both w w' B R v lv xv L :=
  (setClashInt lo hi wr h.set hr (by omega)).mono fun e w' ⟨h1, h2⟩ => ⟨by rw [h1, hb], h.below h2⟩
theorem both_clash2 {w wr : World} {B R : Nat} {v lv xv : Value} {L : List (Item Int)} (lo hi : Int) (b : Bool) (h : Both w wr B R v lv xv L) (hr : Rises L) (hn : L.length ≤ 100000000) (hb : (spanB lo hi && meets lo hi L) = b) :
    Calls Try.prog 23 #[.pointer (some ⟨R, 0, none⟩), .int .i64 lo, .int .i64 hi] wr fun e w' => e = .returned (.bool b) ∧ wr = w' :=
  (refClash lo hi wr h.ref (by omega)).mono fun e w' ⟨h1, h2⟩ => ⟨by rw [h1, hb], h2⟩

set_option maxRecDepth 100000 in
set_option maxHeartbeats 8000000 in
theorem regionsAdds_calls (xs : TSpans.Val) (a : Option Addr) (cap : Nat) (qlo qhi : Int) (w : World) (h : Rep w TSpans xs [.slice a xs.length cap]) :
    Calls Try.prog 6 #[.slice a xs.length cap, .int .i64 qlo, .int .i64 qhi] w fun e w' => e = .returned (.bool true) ∧ Below w.heap.size w w' := by
  have hB := bel_refl w
  change List (Int × Int × Unit) at xs
  have hl := slice_len h
  have hnew := setNewInt w
  go_enter Try.func6, Try.ntmps6
  go_wp2_with (go_at_call 14; (with_reducible refine hnew.mono ?_); rintro e w1 ⟨rfl, hs1, hB1⟩)
  have hz1 := hB1.size
  have hboth : Both w (w1.alloc (.cells #[.slice none 0 0, .slice none 0 0] 28)) w.heap.size w1.heap.size (.slice none 0 0) (.slice none 0 0) (.slice none 0 0) [] :=
    ⟨hs1.below (bel_alloc (bel_refl _) _), ⟨Blk.new _ _, World.ownsRow_nil _ _ _ _, World.ownsRow_nil _ _ _ _⟩, Nat.le_refl _, hz1, bel_alloc hB1 _⟩
  go_loopw [9] (fun v9 wr => AddsRel w w.heap.size w1.heap.size xs.length v9 wr) (fun v9 _ => xs.length - (RowKit.intOf v9).toNat)
  case atStart => exact ⟨0, _, _, _, _, by omega, by omega, rfl, hboth, trivial, by simp⟩
  case round =>
    obtain ⟨k, v, lv, xv, L, hk, hk2, rfl, hbo, hri, hLl⟩ := hrel
    have hBr := hbo.bel
    rcases (show (k < xs.length ∧ k < 60) ∨ (¬ k < xs.length) ∨ (k < xs.length ∧ ¬ k < 60) by omega) with ⟨hlt, hlt2⟩ | hex
    · obtain ⟨b, o, rfl, hb, d1, d2⟩ := spans_at h hlt
      have hd6 : decide ((k : Int) < 60) = true := decide_eq_true (by omega)
      have hcr := (bcell hBr).1
      generalize xs[k] = x at *
      obtain ⟨lo, hi, u⟩ := x
      change Int at lo
      change Int at hi
      simp only at d1 d2
      obtain ⟨cb, hcb⟩ : ∃ cb, (spanB lo hi && meets lo hi L) = cb := ⟨_, rfl⟩
      have hc1 := both_clash1 lo hi cb hbo.drew hri (by omega) hcb
      have hc2 := fun W hW => both_clash2 (w := w) (wr := W) (B := w.heap.size) (R := w1.heap.size) (v := v) (lv := lv) (xv := xv) lo hi cb hW hri (by omega) hcb
      have ha1 := fun W lo hi x hW => both_add1 (w := w) (wr := W) (B := w.heap.size) (R := w1.heap.size) (v := v) (lv := lv) (xv := xv) lo hi x hW hri (by omega)
      have ha2 := fun lo hi x v' w2 h1 h2 hb hB hR => both_add2 (w := w) (w2 := w2) (B := w.heap.size) (R := w1.heap.size) (v' := v') (lv := lv) (xv := xv) lo hi x h1 h2 hb hB hR hri (by omega)
      have hwk : IntKind.i64.wrap ((k : Int) + 1) = (k : Int) + 1 := IntWalk.i64_in _ (by omega)
      clear hcb
      go_wp2
      go_region_held3 (fun w' => w'.cell? ⟨b, o + k * 2, none⟩ = some (.int .i64 lo) ∧ w'.cell? ⟨b, o + k * 2 + 1, none⟩ = some (.int .i64 hi)) (go_keep)
        (first
          | (go_at_call 22; (with_reducible refine hc1.mono ?_); rintro e w2 ⟨rfl, hb2⟩; have hcw := (bcell hb2.bel).1)
          | (go_at_call 23; (with_reducible refine (hc2 _ hb2).mono ?_); rintro e w3 ⟨rfl, rfl⟩)
          | (go_at_call 15; (with_reducible refine (ha1 _ _ _ _ hb2).mono ?_); rintro e w4 ⟨v4, rfl, hs4, hr4, hB4, hg1, hg2⟩; have hcw4 := (bcell hB4).1)
          | (go_at_call 16; (with_reducible refine (ha2 _ _ _ _ _ hs4 hr4 hB4 hg1 hg2).mono ?_); rintro e w5 ⟨l5, x5, rfl, hb5⟩; have hcw5 := (bcell hb5.bel).1))
      go_wp2
      go_roundw
      case rel => exact ⟨k + 1, _, _, _, _, by omega, by omega, by go_num, hb5, addL_rises hri, by have := addL_length lo hi (k : Int) L; omega⟩
      case measure => simp [RowKit.intOf]; omega
    · have hdk : k < xs.length → decide ((k : Int) < 60) = false := fun h1 => decide_eq_false (by omega)
      have hsame := fun W hW => same4_any (w := w) (wr := W) (B := w.heap.size) (R := w1.heap.size) (v := v) (lv := lv) (xv := xv) (L := L) hW (by omega)
      have hcov1 := fun W (hW : Both w W w.heap.size w1.heap.size v lv xv L) => setCov_any qlo qhi W hW.set hri (by omega)
      have hcov2 := fun W (hW : Both w W w.heap.size w1.heap.size v lv xv L) => refCov_any qlo qhi W hW.ref hri (by omega)
      obtain ⟨cb, hcb⟩ : ∃ cb, (spanB qlo qhi && meets qlo qhi L) = cb := ⟨_, rfl⟩
      have hc1 := fun W hW => both_clash1 (w := w) (wr := W) (B := w.heap.size) (R := w1.heap.size) (v := v) (lv := lv) (xv := xv) qlo qhi cb hW hri (by omega) hcb
      have hc2 := fun W hW => both_clash2 (w := w) (wr := W) (B := w.heap.size) (R := w1.heap.size) (v := v) (lv := lv) (xv := xv) qlo qhi cb hW hri (by omega) hcb
      have hgap1 := fun W (hW : Both w W w.heap.size w1.heap.size v lv xv L) => setGaps_any qlo qhi W hW.set hri (by omega)
      have hgap2 := fun W (hW : Both w W w.heap.size w1.heap.size v lv xv L) => refGaps_any qlo qhi W hW.ref hri (by omega)
      have hss := fun W b1 b2 v1 v2 h1 h2 => sameSpans_any (b1 := b1) (b2 := b2) v1 v2 (gapsOf qlo qhi L) W h1 h2 (by have := gapsOf_length qlo qhi L; omega)
      have hlive := fun W => live4_any W
      clear hcb hboth hs1
      rcases hex with hex | ⟨hex, hex2⟩
      all_goals
        try (have hd6 := hdk hex)
        clear hdk
        go_wp2_with (first
          | (go_at_call 24; (with_reducible refine (hsame _ hbo).mono ?_); rintro e w2 ⟨rfl, hb2⟩; have hbo2 := hbo.below hb2)
          | (go_at_call 20; (with_reducible refine (hcov1 _ hbo2).mono ?_); rintro e w3 ⟨rfl, hb3⟩; have hbo3 := hbo2.below hb3)
          | (go_at_call 25; (with_reducible refine (hcov2 _ hbo3).mono ?_); rintro e w4 ⟨rfl, rfl⟩)
          | (go_at_call 22; (with_reducible refine (hc1 _ hbo3).mono ?_); rintro e w5 ⟨rfl, hbo5⟩)
          | (go_at_call 23; (with_reducible refine (hc2 _ hbo5).mono ?_); rintro e w6 ⟨rfl, rfl⟩)
          | (go_at_call 21; (with_reducible refine (hgap1 _ hbo5).mono ?_); rintro e w7 ⟨v7, rfl, hown7, hb7⟩; have hbo7 := hbo5.below hb7; have hs7 := hb7.size; obtain ⟨a7, c7, rfl⟩ := owns_slice hown7)
          | (go_at_call 27; (with_reducible refine (hgap2 _ hbo7).mono ?_); rintro e w8 ⟨v8, rfl, hown8, hb8⟩; have hbo8 := hbo7.below hb8; have hown9 := own_fr hown7 (F := fun _ => False) (Fr.of_below hb8) (fun _ _ h => h))
          | (go_at_call 26; (with_reducible refine (hss _ _ _ _ _ hown9 hown8).mono ?_); rintro e w10 ⟨rfl, hb10⟩; have hbo10 := hbo8.below hb10; have hown10 := own_fr hown9 (F := fun _ => False) (Fr.of_below hb10) (fun _ _ h => h)))
        have hN1 := hbo5.set.lt
        have hN2 := hbo5.ref.lt
        have hN3 := fun k hk => (hbo5.set.row.lt k hk).2
        have hN4 := fun k hk => (hbo5.ref.spans.lt k hk).2
        have hN5 := fun k hk => (hbo5.ref.nums.lt k hk).2
        have hNw := hbo5.bel.size
        have hgl := gapsOf_length qlo qhi L
        go_loopw [12] (fun v12 wr => OverRel4 w w.heap.size w1.heap.size v lv xv L w5.heap.size (gapsOf qlo qhi L).length (.slice a7 (gapsOf qlo qhi L).length c7) v12 wr) (fun v12 _ => (gapsOf qlo qhi L).length - (RowKit.intOf v12).toNat)
        case atStart => exact ⟨0, by omega, rfl, hbo10, _, hown10⟩
        case round =>
          obtain ⟨i, hi, rfl, hboi, l, hownl⟩ := hrel
          by_cases hil : i < (gapsOf qlo qhi L).length
          · obtain ⟨g9, u9, rfl, hg9, hg10, hcu, hfu⟩ := row_place hownl hil
            have Hst := hid (hboi.store w5.heap.size (i * 2) (.int .i64 (-7)) hg10 (by omega) hN1 hN2 hN3 hN4 hN5)
            have Hown := hid (hownl.stored (i * 2) (.int .i64 (-7)))
            clear hsame hcov1 hcov2 hc1 hc2 hgap1 hgap2 hss
            go_wp2
            go_roundw
            case rel => exact ⟨i + 1, by omega, by go_num, Hst.out, _, Hown.out.1⟩
            case measure => simp [RowKit.intOf]; omega
          · obtain rfl : i = (gapsOf qlo qhi L).length := by omega
            go_wp2_with (first
              | (go_at_call 24; (with_reducible refine (hsame _ hboi).mono ?_); rintro e w12 ⟨rfl, hb12⟩)
              | (go_at_call 19; (with_reducible refine (hlive _).mono ?_); rintro e w13 ⟨rfl, hb13⟩))
            go_ret
            exact ⟨rfl, bel_trans (bel_trans hboi.bel hb12) hb13⟩
end Go.Proofs.Ytmkbigaofhionaa
