/- The law RegionsTurned of mortiselaw04. -/
import Derived.Test.YtmkbigaofhionaaLive4
import Derived.Test.YtmkbigaofhionaaTurnP
import Derived.Test.YtmkbigaofhionaaSetASpan
import Derived.Test.YtmkbigaofhionaaSetFSpan
import Derived.Deep.RegionHeld3
namespace Go.Proofs.Ytmkbigaofhionaa
open Go.RowKit
set_option linter.unusedVariables false
set_option linter.unusedSimpArgs false

def itemsOf (xs : List (Int × Int × Unit)) : List (Item (Int × Int)) := xs.map fun x => (x.1, x.2.1, (x.1, x.2.1))
theorem itemsOf_length (xs : List (Int × Int × Unit)) : (itemsOf xs).length = xs.length := by simp [itemsOf]
theorem itemsOf_at (xs : List (Int × Int × Unit)) (k : Nat) (hk : k < xs.length) : (itemsOf xs)[k]'(by rw [itemsOf_length]; exact hk) = (xs[k].1, xs[k].2.1, (xs[k].1, xs[k].2.1)) := by simp [itemsOf]
theorem itemsOf_own (xs : List (Int × Int × Unit)) : ∀ y ∈ itemsOf xs, y.2.2 = (y.1, y.2.1) := by
  intro y hy
  simp only [itemsOf, List.mem_map] at hy
  obtain ⟨x, _, rfl⟩ := hy
  rfl
theorem putAll_mem {α : Type} {xs L : List (Item α)} : ∀ y ∈ putAll xs L, y ∈ xs ∨ y ∈ L := by
  induction xs generalizing L with
  | nil => intro y hy; exact .inr hy
  | cons x r ih =>
    intro y hy
    rcases ih y hy with h | h
    · exact .inl (List.mem_cons_of_mem _ h)
    · unfold addL at h
      split at h
      · rcases insS_mem.1 h with rfl | h
        · exact .inl List.mem_cons_self
        · exact .inr h
      · exact .inr h
theorem allIn_take {α : Type} {xs : List (Item α)} (h : allIn xs [] = true) (k : Nat) (hk : k < xs.length) : addE xs[k].1 xs[k].2.1 (putAll (xs.take k) []) = 0 := by
  have app : ∀ (a b L : List (Item α)), allIn (a ++ b) L = true → allIn a L = true := by
    intro a
    induction a with
    | nil => intro b L _; rfl
    | cons x r ih =>
      intro b L h
      simp only [List.cons_append, allIn, Bool.and_eq_true] at h ⊢
      exact ⟨h.1, ih b _ h.2⟩
  have h1 : allIn (xs.take (k + 1)) [] = true := app _ (xs.drop (k + 1)) [] (by rw [List.take_append_drop]; exact h)
  rw [← List.take_append_getElem hk, allIn_snoc] at h1
  simpa using (Bool.and_eq_true_iff.1 h1).2

theorem rep_take {w : World} {xs : TSpans.Val} {a : Option Addr} {n cap : Nat} (h : Rep w TSpans xs [.slice a n cap]) (hn : 60 < n) : Rep w TSpans (List.take 60 xs) [.slice a 60 cap] := by
  obtain ⟨a', cap', h1, h2, h3, h4, h5⟩ := h
  simp at h1
  obtain ⟨rfl, h6, rfl⟩ := h1
  have hl : (List.take 60 xs).length = 60 := by rw [List.length_take]; omega
  refine ⟨a, cap, by rw [hl], by rw [hl]; omega, by rw [hl]; omega, h4, fun i hi => ?_⟩
  rw [hl] at hi
  obtain ⟨b, o, e, l, g1, g2, g3, g4⟩ := h5 i (by omega)
  exact ⟨b, o, e, l, g1, g2, g3, by rw [List.getElem_take]; exact g4⟩

theorem setSpan_below {base B : Nat} {v : Value} {w w1 w2 : World} {l : List (Item (Int × Int))} (h : SetSpan w1 B v l) (hb : Below base w w1) (hbase : base ≤ B) (hF : Fr (fun k => k = B ∨ v.ownBlock = some k) w1 w2) : Below base w w2 := by
  refine hb.trans (fr_below hF ?_ (by have := h.lt; omega))
  rintro k (hk | hk)
  · omega
  · have := (h.row.lt k hk).1; omega
theorem setSpan_drew {w : World} {B : Nat} {v : Value} {l : List (Item (Int × Int))} (h : SetSpan w B v l) : SetSpan w.drew B v l := ⟨h.obj, h.row⟩
/-- Another set is kept: its struct is another, and so is its row. -/
theorem setSpan_other {w w2 : World} {B B' : Nat} {v v' : Value} {l l' : List (Item (Int × Int))} (h : SetSpan w B v l) (h' : SetSpan w B' v' l') (hBB : B ≠ B') (hvv : v.ownBlock = none ∨ v.ownBlock ≠ v'.ownBlock) (hF : Fr (fun k => k = B' ∨ v'.ownBlock = some k) w w2) : SetSpan w2 B v l := by
  refine h.fr hF ?_ ?_
  · rintro (hk | hk)
    · exact hBB hk
    · exact own_blk_types h'.row h.obj (by decide) hk
  · rintro k hk (h1 | h1)
    · subst h1; exact own_blk_types h.row h'.obj (by decide) hk
    · rcases hvv with h2 | h2
      · rw [h2] at hk; cases hk
      · exact h2 (hk.trans h1.symm)

theorem own_sep {v u : Value} {N : Nat} (hv : ∀ k, v.ownBlock = some k → k < N) (hu : ∀ k, u.ownBlock = some k → N ≤ k) : v.ownBlock = none ∨ v.ownBlock ≠ u.ownBlock := by
  cases h : v.ownBlock with
  | none => exact .inl rfl
  | some k => exact .inr fun e => by have := hv k h; have := hu k e.symm; omega

theorem two_boxes {w3 w4 : World} (c d : Int) (hb4 : Below ((w3.alloc (.cells #[.int .i64 c, .int .i64 d] 32)).alloc (.cells #[.int .i64 c, .int .i64 d] 32)).heap.size ((w3.alloc (.cells #[.int .i64 c, .int .i64 d] 32)).alloc (.cells #[.int .i64 c, .int .i64 d] 32)) w4) :
    w4.cell? ⟨w3.heap.size, 0, none⟩ = some (.int .i64 c) ∧ w4.cell? ⟨w3.heap.size, 1, none⟩ = some (.int .i64 d) ∧ w4.cell? ⟨w3.heap.size + 1, 0, none⟩ = some (.int .i64 c) ∧ w4.cell? ⟨w3.heap.size + 1, 1, none⟩ = some (.int .i64 d) ∧
      w3.heap.size < w4.heap.size ∧ w3.heap.size + 1 < w4.heap.size := by
  have b1 := ((Blk.new w3 (.cells #[.int .i64 c, .int .i64 d] 32)).alloc (.cells #[.int .i64 c, .int .i64 d] 32)).below hb4 (by simp; omega)
  have b2 := (Blk.new (w3.alloc (.cells #[.int .i64 c, .int .i64 d] 32)) (.cells #[.int .i64 c, .int .i64 d] 32)).below hb4 (by simp)
  rw [heap_size_alloc'] at b2
  exact ⟨by rw [b1.cell]; rfl, by rw [b1.cell]; rfl, by rw [b2.cell]; rfl, by rw [b2.cell]; rfl, b1.lt, b2.lt⟩

def FwdRel (w : World) (B1 B2 : Nat) (xs : List (Int × Int × Unit)) (v5 v6 : Value) (wr : World) : Prop :=
  ∃ (k : Nat) (v : Value), k ≤ xs.length ∧ v6 = .int .i64 k ∧ v5 = .bool (allIn ((itemsOf xs).take k) []) ∧ SetSpan wr B1 v (putAll ((itemsOf xs).take k) []) ∧ SetSpan wr B2 (.slice none 0 0) [] ∧ Below w.heap.size w wr
def BwdRel (w : World) (N : Nat) (B1 B2 : Nat) (xs : List (Int × Int × Unit)) (v v8 : Value) (wr : World) : Prop :=
  ∃ (j : Nat) (u : Value), j ≤ xs.length ∧ v8 = .int .i64 ((xs.length : Int) - 1 - j) ∧ SetSpan wr B1 v (putAll (itemsOf xs) []) ∧ SetSpan wr B2 u (putAll ((itemsOf xs).reverse.take j) []) ∧ (∀ k, u.ownBlock = some k → N ≤ k) ∧ N ≤ wr.heap.size ∧ Below w.heap.size w wr

set_option maxRecDepth 100000 in
set_option maxHeartbeats 8000000 in
theorem regionsTurned_calls (xs0 : TSpans.Val) (a : Option Addr) (cap : Nat) (w : World) (h0 : Rep w TSpans xs0 [.slice a xs0.length cap]) :
    Calls Try.prog 7 #[.slice a xs0.length cap] w fun e w' => e = .returned (.bool true) ∧ Below w.heap.size w w' := by
  have hB := bel_refl w
  change List (Int × Int × Unit) at xs0
  have hl := slice_len h0
  have hnew := fun W => setNewSpan W
  have hlive := fun W => live4_any W
  by_cases h60 : 60 < xs0.length
  case' pos =>
    have h := rep_take h0 h60
    have hxl : (List.take 60 xs0).length = 60 := by rw [List.length_take]; omega
    have h6 : (60 : Int) ≤ cap := by omega
    have h61 : (60 : Nat) ≤ cap := by omega
    generalize List.take 60 xs0 = xs at h hxl
    obtain ⟨n, hn⟩ : ∃ n : Nat, (60 : Nat) = n := ⟨_, rfl⟩
    have hs60 : Value.slice a 60 cap = .slice a n cap := by rw [← hn]
    have hdec : decide (60 < (xs0.length : Int)) = true := decide_eq_true (by omega)
    have Hs60 := hid hs60
    have Hn := hid hn
    clear hs60 hn
    go_enter Try.func7, Try.ntmps7
    go_wp2_with (first
      | (go_at_call 28; (with_reducible refine (hnew w).mono ?_); rintro e w1 ⟨rfl, hs1, hB1⟩)
      | (go_at_call 28; (with_reducible refine (hnew w1).mono ?_); rintro e w2 ⟨rfl, ht1, hB2⟩))
    rw [Hs60.out]
    rw [Hs60.out] at h
    rw [Hn.out] at hxl
    have hn60 : n ≤ 60 := Nat.le_of_eq Hn.out.symm
    clear Hs60 h0 hl h60 h6 h61
  case' neg =>
    have h := h0
    have hdec : decide (60 < (xs0.length : Int)) = false := decide_eq_false (by omega)
    clear h0
    go_enter Try.func7, Try.ntmps7
    go_wp2_with (first
      | (go_at_call 28; (with_reducible refine (hnew w).mono ?_); rintro e w1 ⟨rfl, hs1, hB1⟩)
      | (go_at_call 28; (with_reducible refine (hnew w1).mono ?_); rintro e w2 ⟨rfl, ht1, hB2⟩))
    have hn60 : xs0.length ≤ 60 := by omega
    clear hl h60
    generalize hxl : xs0.length = n at *
    rename List (Int × Int × Unit) => xs
  all_goals
    have hz1 := hB1.size
    have hz2 := hB2.size
    have hs2 := hs1.below hB2
    have hlt1 := hs1.lt
    have hbel := bel_trans hB1 hB2
    subst hxl
    have hil := itemsOf_length xs
    clear hnew
    go_loopw [5, 6] (fun v5 v6 wr => FwdRel w w.heap.size w1.heap.size xs v5 v6 wr) (fun _ v6 _ => xs.length - (RowKit.intOf v6).toNat)
    case atStart => exact ⟨0, _, by omega, rfl, by simp [allIn], by simpa [putAll] using hs2, ht1, hbel⟩
    case round =>
      obtain ⟨k, v, hk, rfl, rfl, hs, ht, hBr⟩ := hrel
      have hri := putAll_rises (xs := (itemsOf xs).take k) (L := []) trivial
      have hpl := putAll_length ((itemsOf xs).take k) []
      rw [List.length_take, hil] at hpl
      simp only [List.length_nil] at hpl
      by_cases hlt : k < xs.length
      · obtain ⟨b, o, rfl, hb, d1, d2⟩ := spans_at h hlt
        have hcr := (bcell hBr).1
        have hki : k < (itemsOf xs).length := by omega
        have hps := putAll_snoc ((itemsOf xs).take k) (itemsOf xs)[k] []
        have has := allIn_snoc ((itemsOf xs).take k) (itemsOf xs)[k] []
        rw [List.take_append_getElem hki, itemsOf_at xs k hlt] at hps has
        have Hps := hid hps
        have Has := hid has
        clear hps has
        generalize xs[k] = x at *
        obtain ⟨xl, xh, u⟩ := x
        change Int at xl
        change Int at xh
        simp only at d1 d2
        have ha1 := setAddSpan xl xh (xl, xh) _ (setSpan_drew hs) hri (by omega)
        generalize allIn ((itemsOf xs).take k) [] = p at *
        generalize putAll ((itemsOf xs).take k) [] = L at *
        cases p
        · go_wp2
          go_region_held3 (fun w' => w'.cell? ⟨b, o + k * 2, none⟩ = some (.int .i64 xl) ∧ w'.cell? ⟨b, o + k * 2 + 1, none⟩ = some (.int .i64 xh)) (go_keep)
            (first | (go_at_call 29; (with_reducible refine ha1.mono ?_); rintro e w3 ⟨rfl, v3, hs3, hF3, hO3⟩; have hB3 := setSpan_below (setSpan_drew hs) (bel_drew hBr) (Nat.le_refl _) hF3; have ht3 := setSpan_other (setSpan_drew ht) (setSpan_drew hs) (by omega) (.inl rfl) hF3; have hcw := (bcell hB3).1))
          go_wp2
          go_roundw
          case rel => exact ⟨k + 1, v3, by omega, by go_num, by rw [Has.out]; rfl, by rw [Hps.out]; exact hs3, ht3, hB3⟩
          case measure => simp [RowKit.intOf]; omega
        · by_cases hE0 : addE xl xh L = 0
          · go_wp2
            go_region_held3 (fun w' => w'.cell? ⟨b, o + k * 2, none⟩ = some (.int .i64 xl) ∧ w'.cell? ⟨b, o + k * 2 + 1, none⟩ = some (.int .i64 xh)) (go_keep)
              (first | (go_at_call 29; (with_reducible refine ha1.mono ?_); rintro e w3 ⟨rfl, v3, hs3, hF3, hO3⟩; have hB3 := setSpan_below (setSpan_drew hs) (bel_drew hBr) (Nat.le_refl _) hF3; have ht3 := setSpan_other (setSpan_drew ht) (setSpan_drew hs) (by omega) (.inl rfl) hF3; have hcw := (bcell hB3).1))
            go_wp2
            go_roundw
            case rel => exact ⟨k + 1, v3, by omega, by go_num, by rw [Has.out, decide_eq_true hE0]; rfl, by rw [Hps.out]; exact hs3, ht3, hB3⟩
            case measure => simp [RowKit.intOf]; omega
          · have hE1 : (addE xl xh L == 0) = false := by simpa using hE0
            go_wp2
            go_region_held3 (fun w' => w'.cell? ⟨b, o + k * 2, none⟩ = some (.int .i64 xl) ∧ w'.cell? ⟨b, o + k * 2 + 1, none⟩ = some (.int .i64 xh)) (go_keep)
              (first | (go_at_call 29; (with_reducible refine ha1.mono ?_); rintro e w3 ⟨rfl, v3, hs3, hF3, hO3⟩; have hB3 := setSpan_below (setSpan_drew hs) (bel_drew hBr) (Nat.le_refl _) hF3; have ht3 := setSpan_other (setSpan_drew ht) (setSpan_drew hs) (by omega) (.inl rfl) hF3; have hcw := (bcell hB3).1))
            go_wp2
            go_roundw
            case rel => exact ⟨k + 1, v3, by omega, by go_num, by rw [Has.out, decide_eq_false hE0]; rfl, by rw [Hps.out]; exact hs3, ht3, hB3⟩
            case measure => simp [RowKit.intOf]; omega
      · obtain rfl : k = xs.length := by omega
        have htk : (itemsOf xs).take xs.length = itemsOf xs := by rw [← hil, List.take_length]
        rw [htk] at hs hri hpl ⊢
        cases hal : allIn (itemsOf xs) []
        · go_wp2_with (go_at_call 19; (with_reducible refine (hlive _).mono ?_); rintro e w3 ⟨rfl, hb3⟩)
          go_ret
          exact ⟨rfl, bel_trans hBr hb3⟩
        obtain ⟨hal2, hpe, hpl2⟩ := turned_all hal
        have hatk := fun j hj => allIn_take hal2 j hj
        have hown := fun y (hy : y ∈ putAll (itemsOf xs) []) => (putAll_mem y hy).elim (itemsOf_own xs y) (fun h => by cases h)
        have hrl : (itemsOf xs).reverse.length = xs.length := by rw [List.length_reverse, hil]
        have hvl := fun k hk => (hs.row.lt k hk).2
        have hzr := hBr.size
        have hrs := hBr
        clear htk hal hal2
        have hwm : IntKind.i64.wrap ((xs.length : Int) - 1) = (xs.length : Int) - 1 := IntWalk.i64_in _ (by omega)
        have Ht := hid ht
        obtain ⟨N, hN⟩ : ∃ N, N = wr.heap.size := ⟨_, rfl⟩
        rw [← hN] at hvl
        have hN2 : N ≤ wr.heap.size := by omega
        have hN1 : w1.heap.size < N := by have := ht.lt; omega
        clear hN
        go_wp2
        go_loopw [8] (fun v8 wr => BwdRel w N w.heap.size w1.heap.size xs v v8 wr) (fun v8 _ => (RowKit.intOf v8 + 1).toNat)
        case atStart => exact ⟨0, _, by omega, by simp, hs, by simpa [putAll] using Ht.out, fun k hk => by simp [Value.ownBlock] at hk, hN2, hBr⟩
        case round =>
          obtain ⟨j, u, hj, rfl, hsj, htj, huj, hNj, hBj⟩ := hrel
          by_cases hlt : j < xs.length
          · have hq : (xs.length : Int) - 1 - (j : Int) = ((xs.length - 1 - j : Nat) : Int) := by omega
            have hqi : xs.length - 1 - j < xs.length := by omega
            have hE := hatk j (by omega)
            have hps := putAll_snoc ((itemsOf xs).reverse.take j) ((itemsOf xs).reverse[j]'(by omega)) []
            rw [List.take_append_getElem (by omega)] at hps
            have hrv : (itemsOf xs).reverse[j]'(by omega) = (xs[xs.length - 1 - j].1, xs[xs.length - 1 - j].2.1, (xs[xs.length - 1 - j].1, xs[xs.length - 1 - j].2.1)) := by
              rw [List.getElem_reverse]
              have := itemsOf_at xs (xs.length - 1 - j) hqi
              rw [← this]; congr 1; omega
            rw [hrv] at hps hE
            have hri2 := putAll_rises (xs := (itemsOf xs).reverse.take j) (L := []) trivial
            have hpl3 := putAll_length ((itemsOf xs).reverse.take j) []
            rw [List.length_take, hrl] at hpl3
            simp only [List.length_nil] at hpl3
            obtain ⟨b, o, rfl, hb, d1, d2⟩ := spans_at h hqi
            have hcr := (bcell hBj).1
            have Hps := hid hps
            have Hq : Hid ((((xs.length - 1 - j : Nat) : Int) - 1) = (xs.length : Int) - 1 - ((j + 1 : Nat) : Int)) := by unfold Hid; omega
            rw [hq]
            clear hps hrv hatk hq
            generalize xs[xs.length - 1 - j] = x at *
            obtain ⟨xl, xh, uu⟩ := x
            change Int at xl
            change Int at xh
            simp only at d1 d2 hE
            generalize putAll ((itemsOf xs).reverse.take j) [] = L2 at *
            generalize xs.length - 1 - j = q at *
            have ha1 := setAddSpan xl xh (xl, xh) _ (setSpan_drew htj) hri2 (by omega)
            go_wp2
            go_region_held3 (fun w' => w'.cell? ⟨b, o + q * 2, none⟩ = some (.int .i64 xl) ∧ w'.cell? ⟨b, o + q * 2 + 1, none⟩ = some (.int .i64 xh)) (go_keep)
              (first | (go_at_call 29; (with_reducible refine ha1.mono ?_); rintro e w3 ⟨rfl, v3, ht3, hF3, hO3⟩; have hB3 := setSpan_below (setSpan_drew htj) (bel_drew hBj) hz1 hF3; have hs3 := setSpan_other (setSpan_drew hsj) (setSpan_drew htj) (by omega) (own_sep hvl huj) hF3; have hz3 := hF3.size; have hcw := (bcell hB3).1))
            go_wp2
            go_roundw
            case rel => exact ⟨j + 1, v3, by omega, by rw [Hq.out], hs3, by rw [Hps.out]; exact ht3, fun k hk => (hO3 k hk).elim (huj k) (fun h => Nat.le_trans hNj h), Nat.le_trans hNj hz3, hB3⟩
            case measure => first | (simp [RowKit.intOf]; done) | (simp [RowKit.intOf]; omega)
          · obtain rfl : j = xs.length := by omega
            have hq : (xs.length : Int) - 1 - (xs.length : Int) = -1 := by omega
            have htk : (itemsOf xs).reverse.take xs.length = (itemsOf xs).reverse := by rw [← hrl, List.take_length]
            rw [htk, hpe] at htj
            rw [hq]
            rw [hil] at hpl2
            clear hq htk hatk hpe
            generalize putAll (itemsOf xs) [] = S at *
            go_wp2
            go_loopw [9] (fun v9 wr => ∃ i : Nat, i ≤ xs.length ∧ v9 = .int .i64 i ∧ SetSpan wr w.heap.size v S ∧ SetSpan wr w1.heap.size u S ∧ Below w.heap.size w wr) (fun v9 _ => xs.length - (RowKit.intOf v9).toNat)
            case atStart => exact ⟨0, by omega, rfl, hsj, htj, hBj⟩
            case round =>
              obtain ⟨i, hi, rfl, hsi, hti, hBi⟩ := hrel
              by_cases hlt : i < xs.length
              · have hiS : i < S.length := by omega
                have hoi := hown _ (List.getElem_mem hiS)
                obtain ⟨⟨c, d, p⟩, hcd⟩ : ∃ y, S[i] = y := ⟨_, rfl⟩
                rw [hcd] at hoi
                simp only at hoi
                subst hoi
                have hat1 := setAtSpan_in i _ _ hsi hiS hcd (by omega)
                have hat2 := fun W h => setAtSpan_in (B := w1.heap.size) (v := u) (l := S) i _ W h hiS hcd (by omega)
                have Hcd := hid hcd
                clear hcd
                go_wp2_with (first
                  | (go_at_call 30; (with_reducible refine hat1.mono ?_); rintro e w3 ⟨rfl, hb3⟩; have hti3 := (hti.below hb3).below (bel_alloc (bel_alloc (bel_refl _) (.cells #[.int .i64 c, .int .i64 d] 32)) (.cells #[.int .i64 c, .int .i64 d] 32)); have hat3 := hat2 _ hti3)
                  | (go_at_call 30; (with_reducible refine hat3.mono ?_); rintro e w4 ⟨rfl, hb4⟩; have hb5 := hb4; have q9 := two_boxes c d hb4; obtain ⟨q0, q1, q2, q3, l1, l2⟩ := q9))
                have hbz := bel_alloc (bel_alloc (bel_trans (bel_alloc (bel_alloc hb3 (.cells #[.int .i64 c, .int .i64 d] 32)) (.cells #[.int .i64 c, .int .i64 d] 32)) hb5) (.cells #[.int .i64 c, .int .i64 d] 32)) (.cells #[.int .i64 c, .int .i64 d] 32)
                go_roundw
                case rel => exact ⟨i + 1, by omega, by go_num, hsi.below hbz, hti.below hbz, bel_trans hBi hbz⟩
                case measure => simp [RowKit.intOf]; omega
              · obtain rfl : i = xs.length := by omega
                have hln1 := setLenSpan _ hsi
                have hln2 := setLenSpan _ hti
                rw [hpl2] at hln1 hln2
                go_wp2_with (first
                  | (go_at_call 31; (with_reducible refine hln1.mono ?_); rintro e w3 ⟨rfl, rfl⟩)
                  | (go_at_call 31; (with_reducible refine hln2.mono ?_); rintro e w3 ⟨rfl, rfl⟩)
                  | (go_at_call 19; (with_reducible refine (hlive _).mono ?_); rintro e w3 ⟨rfl, hb3⟩))
                go_ret
                exact ⟨rfl, bel_trans hBi hb3⟩
end Go.Proofs.Ytmkbigaofhionaa
