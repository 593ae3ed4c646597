/- The law RegionsAll of mortiselaw04. -/
import Derived.Test.YtmkbigaofhionaaLive4
import Derived.Deep.RegionHeld3
namespace Go.Proofs.Ytmkbigaofhionaa
open Go.RowKit
set_option linter.unusedVariables false
set_option linter.unusedSimpArgs false

theorem span_cells2 {w : World} {base n c g : Nat} {l : List (Int × Int)} (h : w.ownsRow base 32 2 (.slice (some ⟨g, 0, none⟩) n c) l.length (l.flatMap spanV)) {k : Nat} (hk : k < l.length) :
    g < w.heap.size ∧ w.cell? ⟨g, k * 2, none⟩ = some (.int .i64 l[k].1) ∧ w.cell? ⟨g, k * 2 + 1, none⟩ = some (.int .i64 l[k].2) := by
  obtain ⟨g', e, h1, _, h2, h3, _⟩ := span_cells h hk
  simp only [Option.some.injEq, Addr.mk.injEq] at e
  obtain ⟨rfl, _, _⟩ := e
  exact ⟨h1, h2, h3⟩
theorem own_drewN {w : World} {b s n : Nat} {e : TypeId} {v : Value} {xs : List Value} (h : w.ownsRow b e s v n xs) (k : Nat) : (w.drewN k).ownsRow b e s v n xs := h
theorem own_drew {w : World} {b s n : Nat} {e : TypeId} {v : Value} {xs : List Value} (h : w.ownsRow b e s v n xs) : w.drew.ownsRow b e s v n xs := h
/-- A row of spans is no part of a set. -/
theorem row_kept {w w' : World} {B b n : Nat} {v v9 : Value} {L : List (Item Int)} {xs : List Value} (hs : SetInt w B v L) (h : w.ownsRow b 32 2 v9 n xs) (hF : Fr (fun k => k = B ∨ v.ownBlock = some k) w w') : w'.ownsRow b 32 2 v9 n xs := by
  refine own_fr h hF ?_
  rintro k hk (h1 | h1)
  · subst h1; exact own_blk_types h hs.obj (by decide) hk
  · rcases own_types h hs.row (by decide) with h2 | h2
    · rw [h2] at hk; cases hk
    · exact h2 (hk.trans h1.symm)

theorem covOf_nonneg {α : Type} (lo hi : Int) (L : List (Item α)) : 0 ≤ covOf lo hi L := by
  unfold covOf
  split
  · exact cov_nonneg _ _ _
  · exact Int.le_refl _

def PutRel (w : World) (B n : Nat) (v8 : Value) (wr : World) : Prop :=
  ∃ (k : Nat) (v : Value) (L : List (Item Int)), k ≤ n ∧ k ≤ 60 ∧ v8 = .int .i64 k ∧ SetInt wr B v L ∧ Below w.heap.size w wr ∧ Rises L ∧ L.length ≤ k

/-- j gaps are put in. -/
structure GapsIn (lo hi : Int) (L : List (Item Int)) (gs : List (Int × Int)) (j : Nat) (Lj : List (Item Int)) : Prop where
  rises : Rises Lj
  mem : ∀ x ∈ Lj, x ∈ L ∨ ∃ (i : Nat) (h : i < gs.length), i < j ∧ x.1 = gs[i].1 ∧ x.2.1 = gs[i].2
  cov : covS lo hi Lj = covS lo hi L + lenS (gs.take j)
  len : Lj.length ≤ L.length + j

theorem GapsIn.zero {lo hi : Int} {L : List (Item Int)} {gs : List (Int × Int)} (hr : Rises L) : GapsIn lo hi L gs 0 L :=
  ⟨hr, fun x hx => .inl hx, by simp [lenS], by omega⟩

theorem gapsOf_free {α : Type} {lo hi : Int} {L : List (Item α)} (hr : Rises L) : ∀ g ∈ gapsOf lo hi L, ∀ x ∈ L, x.2.1 ≤ g.1 ∨ g.2 ≤ x.1 := by
  unfold gapsOf
  split
  · intro g hg x hx
    have hg1 := gaps_in (hr.drop _) (drop_ends hr) g hg
    rw [← List.take_append_drop (fromS lo L) L, List.mem_append] at hx
    rcases hx with hx | hx
    · obtain ⟨i, hi, rfl⟩ := List.mem_iff_getElem.1 hx
      rw [List.length_take] at hi
      rw [List.getElem_take]
      have := fromS_below lo L i (by omega)
      left; omega
    · exact gaps_free (hr.drop _) (drop_ends hr) g hg x hx
  · intro g hg; cases hg
theorem gapsOf_rise {α : Type} {lo hi : Int} {L : List (Item α)} (hr : Rises L) : (gapsOf lo hi L).Pairwise (fun a b => a.2 ≤ b.1) := by
  unfold gapsOf
  split
  · exact gaps_rise (hr.drop _) (drop_ends hr)
  · exact List.Pairwise.nil

theorem GapsIn.step {lo hi : Int} {L Lj : List (Item Int)} {j : Nat} (hr : Rises L) (h0 : 0 ≤ lo) (h1 : hi ≤ 4611686018427387904) (h : GapsIn lo hi L (gapsOf lo hi L) j Lj) (hj : j < (gapsOf lo hi L).length) (x : Int) :
    addE (gapsOf lo hi L)[j].1 (gapsOf lo hi L)[j].2 Lj = 0 ∧ GapsIn lo hi L (gapsOf lo hi L) (j + 1) (addL (gapsOf lo hi L)[j].1 (gapsOf lo hi L)[j].2 x Lj) := by
  have hg := gapsOf_in (lo := lo) (hi := hi) hr _ (List.getElem_mem hj)
  have hfree := gapsOf_free (lo := lo) (hi := hi) hr _ (List.getElem_mem hj)
  have hrise := List.pairwise_iff_getElem.1 (gapsOf_rise (lo := lo) (hi := hi) hr)
  have hs : spanB (gapsOf lo hi L)[j].1 (gapsOf lo hi L)[j].2 = true := spanB_iff.2 (by omega)
  have hm : meets (gapsOf lo hi L)[j].1 (gapsOf lo hi L)[j].2 Lj = false := by
    rw [meets_false]
    intro y hy
    rcases h.mem y hy with hy | ⟨i, hi, hij, e1, e2⟩
    · exact hfree y hy
    · have := hrise i j hi hj hij
      left; omega
  refine ⟨by unfold addE; rw [hs, hm]; rfl, ?_⟩
  have e : addL (gapsOf lo hi L)[j].1 (gapsOf lo hi L)[j].2 x Lj = insS ((gapsOf lo hi L)[j].1, (gapsOf lo hi L)[j].2, x) Lj := by unfold addL; rw [hs, hm]; rfl
  rw [e]
  refine ⟨insS_rises h.rises hs hm, fun y hy => ?_, ?_, ?_⟩
  · rcases insS_mem.1 hy with rfl | hy
    · exact .inr ⟨j, hj, by omega, rfl, rfl⟩
    · rcases h.mem y hy with hy | ⟨i, hi, hij, e1, e2⟩
      · exact .inl hy
      · exact .inr ⟨i, hi, by omega, e1, e2⟩
  · rw [cov_ins, h.cov, ← List.take_append_getElem hj, lenS_snoc, part_in (by simp; omega) (by simp; omega) (by simp; omega)]
    simp only
    omega
  · rw [insS_length]; have := h.len; omega
theorem GapsIn.done {lo hi : Int} {L Ln : List (Item Int)} (hr : Rises L) (hs : spanB lo hi = true) (h : GapsIn lo hi L (gapsOf lo hi L) (gapsOf lo hi L).length Ln) : covOf lo hi L + lenS (gapsOf lo hi L) = hi - lo ∧ gapsOf lo hi Ln = [] ∧ covOf lo hi Ln = hi - lo := by
  have h1 := covOf_gaps hr hs
  have h2 := covOf_gaps h.rises hs
  have h3 : covOf lo hi Ln = covOf lo hi L + lenS (gapsOf lo hi L) := by
    unfold covOf
    rw [if_pos hs, if_pos hs, h.cov, List.take_length]
  have h4 : lenS (gapsOf lo hi Ln) = 0 := by omega
  refine ⟨by omega, len_nil (fun x hx => (gapsOf_in h.rises x hx).2.1) (by omega), by omega⟩

def GapInRel (w : World) (lo hi : Int) (L : List (Item Int)) (B : Nat) (v9 : Value) (v10 v11 : Value) (wr : World) : Prop :=
  ∃ (j : Nat) (v : Value) (Lj : List (Item Int)), j ≤ (gapsOf lo hi L).length ∧ v11 = .int .i64 j ∧ v10 = .int .i64 (covOf lo hi L + lenS ((gapsOf lo hi L).take j)) ∧ SetInt wr B v Lj ∧
    (∃ b, wr.ownsRow b 32 2 v9 (gapsOf lo hi L).length ((gapsOf lo hi L).flatMap spanV)) ∧ Below w.heap.size w wr ∧ GapsIn lo hi L (gapsOf lo hi L) j Lj

set_option maxRecDepth 100000 in
set_option maxHeartbeats 8000000 in
theorem regionsAll_calls (xs : TSpans.Val) (a : Option Addr) (cap : Nat) (lo hi : Int) (w : World) (h : Rep w TSpans xs [.slice a xs.length cap]) (hlo : -9223372036854775808 ≤ lo) (hhi : hi ≤ 9223372036854775807) :
    Calls Try.prog 4 #[.slice a xs.length cap, .int .i64 lo, .int .i64 hi] w fun e w' => e = .returned (.bool true) ∧ Below w.heap.size w w' := by
  have hB := bel_refl w
  change List (Int × Int × Unit) at xs
  have hl := slice_len h
  have hnew := setNewInt w
  have hlive := fun W => live4_any W
  go_enter Try.func4, Try.ntmps4
  go_wp2_with (go_at_call 14; (with_reducible refine hnew.mono ?_); rintro e w1 ⟨rfl, hs1, hB1⟩)
  go_loopw [8] (fun v8 wr => PutRel w w.heap.size xs.length v8 wr) (fun v8 _ => xs.length - (RowKit.intOf v8).toNat)
  case atStart => exact ⟨0, _, _, by omega, by omega, rfl, hs1, hB1, trivial, by simp⟩
  case round =>
    obtain ⟨k, v, L, hk, hk2, rfl, hs, hBr, hri, hLl⟩ := hrel
    rcases (show (k < xs.length ∧ k < 60) ∨ (¬ k < xs.length) ∨ (k < xs.length ∧ ¬ k < 60) by omega) with ⟨hlt, hlt2⟩ | hex
    · obtain ⟨b, o, rfl, hb, d1, d2⟩ := spans_at h hlt
      have hd6 : decide ((k : Int) < 60) = true := decide_eq_true (by omega)
      have hcr := (bcell hBr).1
      have ha1 := fun lo hi x => setAddInt lo hi x _ (set_drew hs) hri (by omega)
      generalize xs[k] = x at *
      obtain ⟨xl, xh, u⟩ := x
      change Int at xl
      change Int at xh
      simp only at d1 d2
      go_wp2
      go_region_held3 (fun w' => w'.cell? ⟨b, o + k * 2, none⟩ = some (.int .i64 xl) ∧ w'.cell? ⟨b, o + k * 2 + 1, none⟩ = some (.int .i64 xh)) (go_keep)
        (first | (go_at_call 15; (with_reducible refine (ha1 _ _ _).mono ?_); rintro e w2 ⟨rfl, v2, hs2, hF2, hO2⟩; have hB2 := set_below (set_drew hs) (bel_drew hBr) (Nat.le_refl _) hF2; have hcw := (bcell hB2).1))
      go_wp2
      go_roundw
      case rel => exact ⟨k + 1, _, _, by omega, by omega, by go_num, hs2, hB2, addL_rises hri, by have := addL_length xl xh (k : Int) L; omega⟩
      case measure => simp [RowKit.intOf]; omega
    · have hdk : k < xs.length → decide ((k : Int) < 60) = false := fun h1 => decide_eq_false (by omega)
      have hcov := setCov_any lo hi _ hs hri (by omega)
      by_cases hsp : spanB lo hi = true
      · have hbd := spanB_iff.1 hsp
        have hgap := setGaps_any lo hi _ hs hri (by omega)
        have hin := gapsOf_in (lo := lo) (hi := hi) hri
        have hGl := gapsOf_length lo hi L
        have hst := fun j Lj hj h => GapsIn.step (L := L) (lo := lo) (hi := hi) (Lj := Lj) (j := j) hri hbd.1 hbd.2.2 h hj 1
        have hdn := fun Ln h => GapsIn.done (L := L) (lo := lo) (hi := hi) (Ln := Ln) hri hsp h
        have htk := lenS_take hin
        have hcn := covOf_nonneg lo hi L
        have hct : covOf lo hi L + lenS (gapsOf lo hi L) = hi - lo := by have := covOf_gaps hri hsp; omega
        rcases hex with hex | ⟨hex, hex2⟩
        all_goals
          try (have hd6 := hdk hex)
          clear hdk
          go_wp2_with (first
            | (go_at_call 21; (with_reducible refine hgap.mono ?_); rintro e w2 ⟨v9, rfl, hown2, hb2⟩; have hs2 := hs.below hb2; have hcov2 := setCov_any lo hi _ hs2 hri (by omega))
            | (go_at_call 20; (with_reducible refine hcov2.mono ?_); rintro e w3 ⟨rfl, hb3⟩))
          obtain ⟨a9, c9, rfl⟩ := owns_slice hown2
          go_loopw [10, 11] (fun v10 v11 wr => GapInRel w lo hi L w.heap.size (.slice a9 (gapsOf lo hi L).length c9) v10 v11 wr) (fun _ v11 _ => (gapsOf lo hi L).length - (RowKit.intOf v11).toNat)
          case atStart => exact ⟨0, _, _, by omega, rfl, by simp [lenS], hs2.below hb3, ⟨_, own_fr hown2 (F := fun _ => False) (Fr.of_below hb3) (fun _ _ h => h)⟩, bel_trans (bel_trans hBr hb2) hb3, GapsIn.zero hri⟩
          case round =>
            obtain ⟨j, vj, Lj, hj, rfl, rfl, hsj, ⟨bj, hownj⟩, hBj, hgi⟩ := hrel
            have hjl := hgi.len
            by_cases hlt : j < (gapsOf lo hi L).length
            · obtain ⟨hE, hG⟩ := hst j Lj hlt hgi
              have hx := hin _ (List.getElem_mem hlt)
              have hts : lenS ((gapsOf lo hi L).take (j + 1)) = lenS ((gapsOf lo hi L).take j) + ((gapsOf lo hi L)[j].2 - (gapsOf lo hi L)[j].1) := by rw [← List.take_append_getElem hlt, lenS_snoc]
              have ht1 := htk j
              have ht2 := htk (j + 1)
              have Hts := hid hts
              have hkeep := fun w2 (hF : Fr (fun k => k = w.heap.size ∨ vj.ownBlock = some k) _ w2) => row_kept (set_drew hsj) (own_drew hownj) hF
              obtain ⟨g9, rfl, _⟩ := span_cells hownj hlt
              obtain ⟨hg9, c0, c1⟩ := span_cells2 hownj hlt
              have hcells := fun w2 hF => span_cells2 (hkeep w2 hF) hlt
              have Hk := hid hkeep
              clear hkeep
              have hadd := setAddIs (gapsOf lo hi L)[j].1 (gapsOf lo hi L)[j].2 1 _ (set_drew hsj) hgi.rises (by omega) 0 _ hE rfl
              have HG := hid hG
              clear hE hG hgi htk hst hdn hin
              generalize hgj : (gapsOf lo hi L)[j] = y at *
              have b1 : decide (y.1 < lo) = false := decide_eq_false (by omega)
              have b2 : decide (hi < y.2) = false := decide_eq_false (by omega)
              have b3 : decide (y.2 ≤ y.1) = false := decide_eq_false (by omega)
              have hw1 : IntKind.i64.wrap (covOf lo hi L + lenS ((gapsOf lo hi L).take j) + y.2) = covOf lo hi L + lenS ((gapsOf lo hi L).take j) + y.2 := IntWalk.i64_in _ (by omega)
              have hw2 : IntKind.i64.wrap (covOf lo hi L + lenS ((gapsOf lo hi L).take j) + y.2 - y.1) = covOf lo hi L + lenS ((gapsOf lo hi L).take j) + y.2 - y.1 := IntWalk.i64_in _ (by omega)
              clear hts ht1 ht2 hct
              generalize hN : covOf lo hi L + lenS ((gapsOf lo hi L).take j) = N at *
              have HN := hid hN
              clear hN
              go_wp2
              go_region_held3 (fun w' => w'.cell? ⟨g9, j * 2, none⟩ = some (.int .i64 y.1) ∧ w'.cell? ⟨g9, j * 2 + 1, none⟩ = some (.int .i64 y.2)) (go_keep)
                (first | (go_at_call 15; (with_reducible refine hadd.mono ?_); rintro e w4 ⟨v4, rfl, hs4, hF4, hO4⟩; have hB4 := set_below (set_drew hsj) (bel_drew hBj) (Nat.le_refl _) hF4; obtain ⟨hg10, c2, c3⟩ := hcells _ hF4))
              go_wp2
              go_quiet (fail)
              go_wp2
              go_roundw
              case rel => exact ⟨j + 1, _, _, by omega, by go_num, by rw [Hts.out, ← HN.out]; congr 1; omega, ⟨hs4.obj, hs4.row⟩, ⟨bj, own_drewN (Hk.out _ hF4) _⟩, below_drewN hB4 _, HG.out⟩
              case measure => simp [RowKit.intOf]; omega
            · obtain rfl : j = (gapsOf lo hi L).length := by omega
              obtain ⟨e1, e2, e3⟩ := hdn Lj hgi
              have hE : covOf lo hi L + lenS ((gapsOf lo hi L).take (gapsOf lo hi L).length) = hi - lo := by rw [List.take_length]; exact e1
              have hgap3 := setGaps_any lo hi _ hsj hgi.rises (by omega)
              rw [e2] at hgap3
              have hcov3 := fun W h => setCov_any (B := w.heap.size) (v := vj) (l := Lj) lo hi W h hgi.rises (by omega)
              rw [e3] at hcov3
              have hwr : IntKind.i64.wrap (hi - lo) = hi - lo := IntWalk.i64_in _ (by omega)
              clear e1 e2 e3 hst hdn htk hin hct hgi
              rw [hE]
              clear hE
              go_wp2_with (first
                | (go_at_call 21; (with_reducible refine hgap3.mono ?_); rintro e w5 ⟨v5, rfl, hown5, hb5⟩; have hs5 := hsj.below hb5; obtain ⟨a5, c5, rfl⟩ := owns_slice hown5)
                | (go_at_call 20; (with_reducible refine (hcov3 _ hs5).mono ?_); rintro e w6 ⟨rfl, hb6⟩)
                | (go_at_call 19; (with_reducible refine (hlive _).mono ?_); rintro e w7 ⟨rfl, hb7⟩))
              go_ret
              exact ⟨rfl, bel_trans (bel_trans (bel_trans hBj hb5) hb6) hb7⟩
      · have hsf : spanB lo hi = false := by simpa using hsp
        have hc0 : covOf lo hi L = 0 := by unfold covOf; rw [if_neg hsp]
        rw [hc0] at hcov
        have hns := spanB_no hsf
        rcases hex with hex | ⟨hex, hex2⟩
        all_goals
          try (have hd6 := hdk hex)
          clear hdk hsp hsf hc0
          by_cases h1 : lo < 0
          · clear hns
            go_wp2_with (first
              | (go_at_call 20; (with_reducible refine hcov.mono ?_); rintro e w6 ⟨rfl, hb6⟩)
              | (go_at_call 19; (with_reducible refine (hlive _).mono ?_); rintro e w7 ⟨rfl, hb7⟩))
            go_ret
            exact ⟨rfl, bel_trans (bel_trans hBr hb6) hb7⟩
          · by_cases h2 : hi ≤ lo
            · clear hns
              go_wp2_with (first
                | (go_at_call 20; (with_reducible refine hcov.mono ?_); rintro e w6 ⟨rfl, hb6⟩)
                | (go_at_call 19; (with_reducible refine (hlive _).mono ?_); rintro e w7 ⟨rfl, hb7⟩))
              go_ret
              exact ⟨rfl, bel_trans (bel_trans hBr hb6) hb7⟩
            · have h3 : 4611686018427387904 < hi := by omega
              clear hns
              go_wp2_with (first
                | (go_at_call 20; (with_reducible refine hcov.mono ?_); rintro e w6 ⟨rfl, hb6⟩)
                | (go_at_call 19; (with_reducible refine (hlive _).mono ?_); rintro e w7 ⟨rfl, hb7⟩))
              go_ret
              exact ⟨rfl, bel_trans (bel_trans hBr hb6) hb7⟩
end Go.Proofs.Ytmkbigaofhionaa
