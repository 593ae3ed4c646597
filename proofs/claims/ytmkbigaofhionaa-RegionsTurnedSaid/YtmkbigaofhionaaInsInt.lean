/- slices.Insert of one element, at a row of the call's own. -/
import Derived.Test.YtmkbigaofhionaaCopyK
import Derived.Test.YtmkbigaofhionaaProg
import Derived.Lib.Walk
import Derived.Laws.Externs
import Derived.Deep.RegionLaw
import Derived.Deep.DeepCutAuto
namespace Go.Proofs.Ytmkbigaofhionaa
open Go.RowKit
set_option linter.unusedVariables false
set_option linter.unusedSimpArgs false

theorem info_itemInt : (Try.prog.info? 75).map (fun i => (i.zero, i.size, i.bytes)) = some (some (.agg #[.int .i64 0, .int .i64 0, .int .i64 0]), 3, 24) := by kernel_rfl

def InsPostInt (base : Nat) (v : Value) (n i : Nat) (xs news : List Value) (w : World) (e : Ending) (w' : World) : Prop :=
  ∃ v', e = .returned v' ∧ w'.ownsRow base 75 3 v' (n + 1) (xs.take (i * 3) ++ news ++ xs.drop (i * 3)) ∧ w.grownBy w' v.ownBlock ∧ (v'.ownBlock = v.ownBlock ∨ ∃ b, v'.ownBlock = some b ∧ w.heap.size ≤ b)

set_option maxRecDepth 100000 in
set_option maxHeartbeats 4000000 in
theorem insInt_end (base : Nat) (v : Value) (n vb : Nat) (xs news : List Value) (w : World) (hown : w.ownsRow base 75 3 v n xs) (hb : base ≤ w.heap.size) (hv : Blk w vb (.cells news.toArray 75 (0, 0)))
    (hnl : news.length = 3) (h1 : ∀ u ∈ news, u.oneCell' = true) (hn : n ≤ 1000000000) :
    Calls Try.prog 44 #[v, .int .i64 n, .slice (some ⟨vb, 0, none⟩) 1 1] w (InsPostInt base v n n xs news w) := by
  obtain ⟨i0, hi0, hz0, hz1, hz2⟩ := info_parts info_itemInt
  have hnews : ∀ j u, news[j]? = some u → w.cell? ((⟨vb, 0, none⟩ : Addr).add j) = some u := fun j u hj => by rw [Addr.add_lit, hv.cell]; simpa using hj
  obtain ⟨a9, c9, rfl⟩ := owns_slice hown
  have hl9 : n ≤ c9 := by
    rcases hown.2 with ⟨h1, h2⟩ | ⟨g, cap, cur, h1, _, _, h3, _⟩
    · simp at h1; omega
    · simp at h1; omega
  have hdec : c9 = n ∨ ¬ c9 = n := by omega
  have hfin : xs.take (n * 3) ++ news ++ xs.drop (n * 3) = xs ++ news := by
    rw [← hown.1, List.take_length, List.drop_length, List.append_nil]
  have Hfin := hid hfin
  clear hfin
  rcases hdec with rfl | hdec
  all_goals
   go_enter Try.func44, Try.ntmps44
   go_wp2_with (at_builtin; refine wpList_append_own_at _ rfl _ _ 70 rfl base 75 i0 (.agg #[.int .i64 0, .int .i64 0, .int .i64 0]) 3 24 Try.underlying70 hi0 hz0 hz1 hz2 rfl (by decide) (.slice a9 _ c9) _ xs rfl hown ⟨vb, 0, none⟩ 1 1 news rfl (by rw [hnl]) hnews h1 (by unfold maxLen; omega) (by omega) hb ?_; intro v3 w3 hown3 hgrow hnil hat)
   go_ret
   refine ⟨v3, rfl, by rw [Hfin.out]; exact hown3, hgrow, ?_⟩
   rcases hat with hat | hat
   · exact .inl hat
   · exact .inr ⟨_, hat, Nat.le_refl _⟩

set_option maxRecDepth 100000 in
set_option maxHeartbeats 4000000 in
theorem insInt_grow (base g : Nat) (n c i vb : Nat) (xs news : List Value) (w : World) (hown : w.ownsRow base 75 3 (.slice (some ⟨g, 0, none⟩) n c) n xs) (hb : base ≤ w.heap.size) (hv : Blk w vb (.cells news.toArray 75 (0, 0)))
    (hnl : news.length = 3) (h1 : ∀ u ∈ news, u.oneCell' = true) (h1x : ∀ u ∈ xs, u.oneCell' = true) (hn : n ≤ 1000000000) (hi : i < n) (hc : c < n + 1) (hnc : n ≤ c) :
    Calls Try.prog 44 #[.slice (some ⟨g, 0, none⟩) n c, .int .i64 i, .slice (some ⟨vb, 0, none⟩) 1 1] w (InsPostInt base (.slice (some ⟨g, 0, none⟩) n c) n i xs news w) := by
  obtain ⟨i0, hi0, hz0, hz1, hz2⟩ := info_parts info_itemInt
  have hsz : (Try.prog.info? 75).map (·.size) = some 3 := by rw [hi0]; simp [hz1]
  have hbw : g < w.heap.size := (hown.lt g rfl).2
  have hvw : vb < w.heap.size := hv.lt
  have hxl := hown.1
  have hd1 : ¬ (i : Int) = (n : Int) := by omega
  have hd2 : (c : Int) < (n : Int) + 1 := by omega
  have holdc : ∀ j u, (xs.take (i * 3))[j]? = some u → w.cell? ((⟨g, 0, none⟩ : Addr).add j) = some u := fun j u hj => by
    refine hown.cells (g := g) rfl j u ?_
    rw [List.getElem?_take] at hj
    split at hj
    · exact hj
    · cases hj
  have holdl : (xs.take (i * 3)).length = i * 3 := by rw [List.length_take]; omega
  have hdc : ∀ j u, (xs.drop (i * 3))[j]? = some u → w.cell? ((⟨g, i * 3, none⟩ : Addr).add j) = some u := fun j u hj => by
    rw [List.getElem?_drop] at hj
    have := hown.cells (g := g) rfl _ u hj
    rw [Addr.add_lit] at this ⊢
    rw [← this]; congr 2; omega
  have hnc2 : ∀ j u, news[j]? = some u → w.cell? ((⟨vb, 0, none⟩ : Addr).add j) = some u := fun j u hj => by rw [Addr.add_lit, hv.cell]; simpa using hj
  have hdl : (xs.drop (i * 3)).length = (n - i) * 3 := by rw [List.length_drop]; omega
  have hw1 : IntKind.i64.wrap ((n : Int) + 1) = (n : Int) + 1 := IntWalk.i64_in _ (by omega)
  have hw2 : IntKind.i64.wrap ((i : Int) + 1) = (i : Int) + 1 := IntWalk.i64_in _ (by omega)
  have hci : ¬ c = i := by omega
  have h1d : ∀ u ∈ xs.drop (i * 3), u.oneCell' = true := fun u hu => h1x u (List.mem_of_mem_drop hu)
  generalize hX : xs.take (i * 3) = X at *
  generalize hY : xs.drop (i * 3) = Y at *
  have htn : ((i : Int) + 1).toNat = i + 1 := by omega
  clear hown
  go_enter Try.func44, Try.ntmps44
  go_upto_region 9 with (fail)
  go_wp2_with (first
    | (at_builtin; (refine wpList_append_zerosK rfl _ _ 70 3 rfl 75 i0 (.agg #[.int .i64 0, .int .i64 0, .int .i64 0]) 3 24 .i64 Try.underlying70 Try.underlying3 hi0 hz0 hz1 hz2 rfl (by decide) ⟨g, 0, none⟩ i c (n + 1 - i) (n + 1) _ rfl rfl (by omega) X holdl holdc (by omega) (by omega) (by omega) (by omega) (by decide) ?_); intro w1 cap row hb1 hrl hcap hcm hgr hsz1; have hcg := hgr; have hc1 : ¬ cap = i := (by omega); have hc2 : ¬ cap = i + 1 := (by omega); unfold maxLen at hcm)
    | (refine wpList_copy_K rfl _ _ 70 70 rfl 75 3 1 Try.underlying70 hsz w.heap.size (i * 3) (n + 1 - i) (cap - i) ⟨vb, 0, none⟩ 1 1 rfl rfl (by simp only [Nat.min_def]; split <;> omega) (X ++ row) _ hb1 news (by omega) (fun j u hj => (hgr.cell (hnc2 j u hj) (by simp))) (by rw [hrl]; omega) h1 ?_; intro w2 hb2 hgr2))
  have hgn : g ≠ w.heap.size := by omega
  have hp1 : (0 : Int) ≤ (i : Int) + 1 := by omega
  have hp2 : i ≤ n := by omega
  have hdc2 : ∀ j u, Y[j]? = some u → w2.cell? ((⟨g, i * 3, none⟩ : Addr).add j) = some u := fun j u hj => hgr2.cell (hgr.cell (hdc j u hj) (by simp)) (by rw [Addr.add_lit]; intro h; exact hgn (Option.some.inj h))
  have hl2 : (splice (X ++ row) (i * 3) news).length = cap * 3 := by rw [length_splice _ _ _ (by rw [hrl]; omega), hrl]
  go_region_law (refine step_copy_K rfl (.tmp 50) (.tmp 53) 70 70 rfl 75 3 (n - i) Try.underlying70 hsz w.heap.size ((i + 1) * 3) (n - i) (cap - (i + 1)) ⟨g, i * 3, none⟩ (n - i) (c - i) (by simp [Act.eval, Act.put]) (by simp [Act.eval, Act.put]) (by simp only [Nat.min_def]; split <;> omega) _ _ hb2 Y hdl hdc2 (by rw [hl2]; omega) h1d ?_; intro w3 hb3 hgr3)
  go_wp2
  go_ret
  refine ⟨_, rfl, ⟨?_, .inr ⟨w.heap.size, cap, _, rfl, hb, hb3, hcap, by unfold maxLen; exact hcm, ?_, ?_⟩⟩, ?_, .inr ⟨_, rfl, Nat.le_refl _⟩⟩
  · rw [hX, hY, List.length_append, List.length_append, holdl, hnl, hdl]; omega
  · rw [List.size_toArray, length_splice _ _ _ (by rw [hl2]; omega), hl2]
  · rw [hX, hY]
    exact splice_two X row news Y (i * 3) ((i + 1) * 3) ((n + 1) * 3) holdl (by omega) (by omega) (by rw [hrl]; omega)
  · exact grown_any (grown_new (grown_new hgr hgr2 (Nat.le_refl _)) (show w2.grownBy w3 (some w.heap.size) from ⟨hgr3.os, hgr3.tape, hgr3.output, hgr3.size, hgr3.block⟩) (Nat.le_refl _))

set_option maxRecDepth 100000 in
set_option maxHeartbeats 4000000 in
theorem insInt_room (base g : Nat) (n c i vb : Nat) (xs news cur : List Value) (w : World) (hb : base ≤ g) (hg : Blk w g (.cells cur.toArray 75 (0, 0))) (hcl : cur.length = c * 3) (hxs : cur.take (n * 3) = xs) (hcm : c ≤ maxLen)
    (hv : Blk w vb (.cells news.toArray 75 (0, 0))) (hvg : vb ≠ g)
    (hnl : news.length = 3) (h1 : ∀ u ∈ news, u.oneCell' = true) (h1x : ∀ u ∈ xs, u.oneCell' = true) (hn : n ≤ 1000000000) (hi : i < n) (hc : n + 1 ≤ c) :
    Calls Try.prog 44 #[.slice (some ⟨g, 0, none⟩) n c, .int .i64 i, .slice (some ⟨vb, 0, none⟩) 1 1] w (InsPostInt base (.slice (some ⟨g, 0, none⟩) n c) n i xs news w) := by
  obtain ⟨i0, hi0, hz0, hz1, hz2⟩ := info_parts info_itemInt
  have hsz : (Try.prog.info? 75).map (·.size) = some 3 := by rw [hi0]; simp [hz1]
  have hsz' : ∀ w, (Go.sizeOf 75).run Try.prog w = .ok 3 w := fun w => by simp [sizeOf, typeInfo, hi0, hz1]
  have hxl : xs.length = n * 3 := by rw [← hxs, List.length_take]; omega
  have hd1 : ¬ (i : Int) = (n : Int) := by omega
  have hd2 : ¬ (c : Int) < (n : Int) + 1 := by omega
  have holdl : (xs.take (i * 3)).length = i * 3 := by rw [List.length_take]; omega
  have hdc : ∀ j u, (xs.drop (i * 3))[j]? = some u → w.cell? ((⟨g, i * 3, none⟩ : Addr).add j) = some u := fun j u hj => by
    rw [List.getElem?_drop] at hj
    rw [Addr.add_lit, hg.cell]
    rw [← hxs, List.getElem?_take] at hj
    split at hj
    · simpa using hj
    · cases hj
  have hnc2 : ∀ j u, news[j]? = some u → w.cell? ((⟨vb, 0, none⟩ : Addr).add j) = some u := fun j u hj => by rw [Addr.add_lit, hv.cell]; simpa using hj
  have hdl : (xs.drop (i * 3)).length = (n - i) * 3 := by rw [List.length_drop]; omega
  have hw1 : IntKind.i64.wrap ((n : Int) + 1) = (n : Int) + 1 := IntWalk.i64_in _ (by omega)
  have hw2 : IntKind.i64.wrap ((i : Int) + 1) = (i : Int) + 1 := IntWalk.i64_in _ (by omega)
  have hci : ¬ c = i := by omega
  have hci2 : ¬ c = i + 1 := by omega
  have h1d : ∀ u ∈ xs.drop (i * 3), u.oneCell' = true := fun u hu => h1x u (List.mem_of_mem_drop hu)
  have htk : cur.take (i * 3) = xs.take (i * 3) := by rw [← hxs, List.take_take]; congr 1; omega
  generalize hX : xs.take (i * 3) = X at *
  generalize hY : xs.drop (i * 3) = Y at *
  have htn : ((i : Int) + 1).toNat = i + 1 := by omega
  have hp1 : (0 : Int) ≤ (i : Int) + 1 := by omega
  have hp2 : i ≤ n := by omega
  have hp3 : (i : Int) ≤ (n : Int) + 1 := by omega
  have hp4 : (n : Int) + 1 ≤ (c : Int) := by omega
  have hp5 : (0 : Int) ≤ (n : Int) + 1 := by omega
  unfold maxLen at hcm
  have hov : ∀ lb cb, (callFunc 78 #[.slice (some ⟨vb, 0, none⟩) 1 1, .slice (some ⟨g, (i + 1) * 3, none⟩) lb cb]).run Try.prog w = .ok (.value (.bool false)) w := fun lb cb => by
    rw [run_callFunc_extern Try.func78 (by kernel_rfl) (by kernel_rfl) (by kernel_rfl) (e := Extern.SlicesOverlaps.overlaps #[70, 70] #[4]) (by kernel_rfl),
      Lib.run_overlaps_apart w 70 4 75 Try.underlying70 3 hsz' ⟨vb, 0, none⟩ ⟨g, (i + 1) * 3, none⟩ 1 1 lb cb hvg 75 75 3 (c * 3) (by unfold Blk at hv; simp [World.shape?, hv, hnl]) (by unfold Blk at hg; simp [World.shape?, hg, hcl]) (by omega) (by exact hv.frozen 0) (by exact hv.frozen _)]
    rfl
  go_enter Try.func44, Try.ntmps44
  go_upto_region 15 with (simp only [hov])
  have hsp1 : (splice cur ((i + 1) * 3) Y).length = c * 3 := by rw [length_splice _ _ _ (by omega), hcl]
  go_region_law (refine step_copy_K rfl (.tmp 73) (.tmp 76) 70 70 rfl 75 3 (n - i) Try.underlying70 hsz g ((i + 1) * 3) (n - i) (c - (i + 1)) ⟨g, i * 3, none⟩ (n + 1 - i) (c - i) (by simp [Act.eval, Act.put]) (by simp [Act.eval, Act.put]) (by simp only [Nat.min_def]; split <;> omega) cur _ hg Y hdl hdc (by omega) h1d ?_; intro w2 hb2 hgr2)
  go_wp2_with (refine wpList_copy_K rfl _ _ 70 70 rfl 75 3 1 Try.underlying70 hsz g (i * 3) (n + 1 - i) (c - i) ⟨vb, 0, none⟩ 1 1 rfl rfl (by simp only [Nat.min_def]; split <;> omega) _ _ hb2 news (by omega) (fun j u hj => (hgr2.cell (hnc2 j u hj) (by rw [Addr.add_lit]; intro h; exact hvg (Option.some.inj h)))) (by rw [hsp1]; omega) h1 ?_; intro w3 hb3 hgr3)
  go_ret
  refine ⟨_, rfl, ⟨?_, .inr ⟨g, c, _, rfl, hb, hb3, by omega, by unfold maxLen; exact hcm, ?_, ?_⟩⟩, ?_, .inl rfl⟩
  · rw [hX, hY, List.length_append, List.length_append, holdl, hnl, hdl]; omega
  · rw [List.size_toArray, length_splice _ _ _ (by rw [hsp1]; omega), hsp1]
  · rw [hX, hY]
    have h2 := splice_over cur Y news (i * 3) ((i + 1) * 3) ((n + 1) * 3) (by omega) (by omega) (by omega)
    rw [h2, htk]
  · exact (show w.grownBy w2 (some g) from ⟨hgr2.os, hgr2.tape, hgr2.output, hgr2.size, hgr2.block⟩).trans hgr3

theorem insInt_any (base : Nat) (v : Value) (n i vb : Nat) (xs news : List Value) (w : World) (hown : w.ownsRow base 75 3 v n xs) (hb : base ≤ w.heap.size) (hv : Blk w vb (.cells news.toArray 75 (0, 0))) (hvg : v.ownBlock ≠ some vb)
    (hnl : news.length = 3) (h1 : ∀ u ∈ news, u.oneCell' = true) (h1x : ∀ u ∈ xs, u.oneCell' = true) (hn : n ≤ 1000000000) (hi : i ≤ n) :
    Calls Try.prog 44 #[v, .int .i64 i, .slice (some ⟨vb, 0, none⟩) 1 1] w (InsPostInt base v n i xs news w) := by
  rcases Nat.lt_or_ge i n with h | h
  · have ho := hown.2
    rcases ho with ⟨_, h0⟩ | ⟨g, cap, cur, rfl, hbg, hg, hnc, hcm, hcs, hct⟩
    · omega
    · rcases Nat.lt_or_ge cap (n + 1) with hc | hc
      · exact insInt_grow base g n cap i vb xs news w hown hb hv hnl h1 h1x hn h hc hnc
      · exact insInt_room base g n cap i vb xs news cur.toList w hbg hg (by simpa using hcs) hct hcm hv (by intro e; exact hvg (by rw [e]; rfl)) hnl h1 h1x hn h hc
  · obtain rfl : i = n := by omega
    exact insInt_end base v i vb xs news w hown hb hv hnl h1 hn
end Go.Proofs.Ytmkbigaofhionaa
