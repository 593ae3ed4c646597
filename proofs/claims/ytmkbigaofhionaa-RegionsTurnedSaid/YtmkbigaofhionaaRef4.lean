/- mortiseref04's set in memory; its Clash, Find. -/
import Derived.Test.YtmkbigaofhionaaSpan
namespace Go.Proofs.Ytmkbigaofhionaa
open Go.RowKit
set_option linter.unusedVariables false
set_option linter.unusedSimpArgs false

def spanOf (x : Item Int) : List Value := [.int .i64 x.1, .int .i64 x.2.1]
def numOf (x : Item Int) : List Value := [.int .i64 x.2.2]

/-- The reference's set: its struct at block R, its spans' slice lv, its numbers' slice xv. -/
structure RefSet (w : World) (R : Nat) (lv xv : Value) (l : List (Item Int)) : Prop where
  obj : Blk w R (.cells #[lv, xv] 28 (0, 0))
  spans : w.ownsRow (R + 1) 32 2 lv l.length (l.flatMap spanOf)
  nums : w.ownsRow (R + 1) 3 1 xv l.length (l.flatMap numOf)

theorem row_cells {α : Type} {w : World} {base n c K : Nat} {e : TypeId} {a : Option Addr} {l : List α} {f : α → List Value} (h : w.ownsRow base e K (.slice a n c) l.length (l.flatMap f)) (hf : ∀ x, (f x).length = K) {k : Nat} (hk : k < l.length) :
    ∃ g, a = some ⟨g, 0, none⟩ ∧ g < w.heap.size ∧ base ≤ g ∧ ∀ (j : Nat) (u : Value), (f l[k])[j]? = some u → w.cell? ⟨g, k * K + j, none⟩ = some u := by
  rcases h.2 with ⟨h1, h2⟩ | ⟨g, cap, cur, h1, _, hh, _⟩
  · omega
  · simp only [Value.slice.injEq] at h1
    obtain ⟨rfl, rfl, rfl⟩ := h1
    have hg := h.lt g rfl
    refine ⟨g, rfl, hg.2, hg.1, fun j u hu => ?_⟩
    have hj : j < K := by have := (List.getElem?_eq_some_iff.1 hu).1; rw [hf] at this; exact this
    have f0 := flat_get (f := f) (k := K) hf l k hk j hj
    have c0 := h.cells (g := g) rfl _ _ (f0.trans hu)
    rw [Addr.add_lit, Nat.zero_add] at c0
    exact c0

theorem RefSet.fr {w w' : World} {R : Nat} {lv xv : Value} {l : List (Item Int)} (h : RefSet w R lv xv l) {F : Nat → Prop} (hf : Fr F w w') (hR : ¬ F R) (hl : ∀ k, lv.ownBlock = some k → ¬ F k) (hx : ∀ k, xv.ownBlock = some k → ¬ F k) : RefSet w' R lv xv l :=
  ⟨hf.blk h.obj hR, own_fr h.spans hf hl, own_fr h.nums hf hx⟩
theorem RefSet.below {w w' : World} {R : Nat} {lv xv : Value} {l : List (Item Int)} (h : RefSet w R lv xv l) (hb : Below w.heap.size w w') : RefSet w' R lv xv l :=
  h.fr (F := fun _ => False) (Fr.of_below hb) (fun h => h) (fun _ _ h => h) (fun _ _ h => h)
theorem RefSet.lt {w : World} {R : Nat} {lv xv : Value} {l : List (Item Int)} (h : RefSet w R lv xv l) : R < w.heap.size := h.obj.lt

/-- What an element's cells hold. -/
theorem RefSet.at {w : World} {R : Nat} {a1 a2 : Option Addr} {n1 n2 c1 c2 : Nat} {l : List (Item Int)} (h : RefSet w R (.slice a1 n1 c1) (.slice a2 n2 c2) l) {k : Nat} (hk : k < l.length) :
    ∃ g1 g2, a1 = some ⟨g1, 0, none⟩ ∧ a2 = some ⟨g2, 0, none⟩ ∧ g1 < w.heap.size ∧ g2 < w.heap.size ∧ w.cell? ⟨g1, k * 2, none⟩ = some (.int .i64 l[k].1) ∧ w.cell? ⟨g1, k * 2 + 1, none⟩ = some (.int .i64 l[k].2.1) ∧
      w.cell? ⟨g2, k, none⟩ = some (.int .i64 l[k].2.2) := by
  obtain ⟨g1, e1, h1, _, d1⟩ := row_cells h.spans (fun _ => rfl) hk
  obtain ⟨g2, e2, h2, _, d2⟩ := row_cells h.nums (fun _ => rfl) hk
  have := d2 0 _ rfl
  simp only [Nat.mul_one, Nat.add_zero] at this
  exact ⟨g1, g2, e1, e2, h1, h2, d1 0 _ rfl, d1 1 _ rfl, this⟩

theorem meets_step {α : Type} {lo hi : Int} {l : List (Item α)} {k : Nat} (hk : k < l.length) (h : meets lo hi (l.take k) = false) (hx : ¬ (lo < l[k].2.1 ∧ l[k].1 < hi)) : meets lo hi (l.take (k + 1)) = false := by
  rw [meets_false] at h ⊢
  intro x hx'
  rw [← List.take_append_getElem hk, List.mem_append] at hx'
  rcases hx' with hx' | hx'
  · exact h x hx'
  · simp at hx'; subst hx'; omega

set_option maxRecDepth 100000 in
set_option maxHeartbeats 2000000 in
theorem refClash {R : Nat} {lv xv : Value} {l : List (Item Int)} (lo hi : Int) (w : World) (h : RefSet w R lv xv l) (hn : l.length ≤ 1000000000) :
    Calls Try.prog 23 #[.pointer (some ⟨R, 0, none⟩), .int .i64 lo, .int .i64 hi] w fun e w' => e = .returned (.bool (spanB lo hi && meets lo hi l)) ∧ w = w' := by
  have hsp := fun w => refSpan_any lo hi w
  obtain ⟨a1, c1, rfl⟩ := owns_slice h.spans
  obtain ⟨a2, c2, rfl⟩ := owns_slice h.nums
  have hc0 : w.cell? ⟨R, 0, none⟩ = some (.slice a1 l.length c1) := by rw [h.obj.cell]; rfl
  cases hs : spanB lo hi
  · rw [hs] at hsp
    clear hs
    go_enter Try.func23, Try.ntmps23
    go_wp2
    go_loop [7] (fun v7 => ∃ k : Nat, k ≤ l.length ∧ v7 = .int .i64 k) (fun v7 => l.length - (RowKit.intOf v7).toNat)
    case atStart => exact ⟨0, by omega, rfl⟩
    case round =>
      obtain ⟨k, hk, rfl⟩ := hrel
      by_cases hlt : k < l.length
      · go_wp2_with (go_at_call 46; with_reducible refine (hsp _).mono ?_; rintro e w1 ⟨rfl, rfl⟩)
        go_round
        case rel => exact ⟨k + 1, by omega, by go_num⟩
        case measure => simp [RowKit.intOf]; omega
      · obtain rfl : k = l.length := by omega
        go_wp2
        go_ret
        exact ⟨rfl, rfl⟩
  · rw [hs] at hsp
    clear hs
    go_enter Try.func23, Try.ntmps23
    go_wp2
    go_loop [7] (fun v7 => ∃ k : Nat, k ≤ l.length ∧ v7 = .int .i64 k ∧ Hid (meets lo hi (l.take k) = false)) (fun v7 => l.length - (RowKit.intOf v7).toNat)
    case atStart => exact ⟨0, by omega, rfl, hid rfl⟩
    case round =>
      obtain ⟨k, hk, rfl, hm⟩ := hrel
      by_cases hlt : k < l.length
      · obtain ⟨g1, g2, rfl, rfl, _, _, d1, d2, d3⟩ := h.at hlt
        by_cases hx1 : lo < l[k].2.1
        · by_cases hx2 : l[k].1 < hi
          · have Hm : Hid (meets lo hi l = true) := meets_true.2 ⟨_, List.getElem_mem hlt, hx1, hx2⟩
            generalize l[k] = x at *
            go_wp2_with (go_at_call 46; with_reducible refine (hsp _).mono ?_; rintro e w1 ⟨rfl, rfl⟩)
            go_ret
            rw [Hm.out]
            exact ⟨rfl, rfl⟩
          · have Hm := hid (meets_step hlt hm.out (fun h => hx2 h.2))
            generalize l[k] = x at *
            go_wp2_with (go_at_call 46; with_reducible refine (hsp _).mono ?_; rintro e w1 ⟨rfl, rfl⟩)
            go_round
            case rel => exact ⟨k + 1, by omega, by go_num, Hm⟩
            case measure => simp [RowKit.intOf]; omega
        · have Hm := hid (meets_step hlt hm.out (fun h => hx1 h.1))
          generalize l[k] = x at *
          go_wp2_with (go_at_call 46; with_reducible refine (hsp _).mono ?_; rintro e w1 ⟨rfl, rfl⟩)
          go_round
          case rel => exact ⟨k + 1, by omega, by go_num, Hm⟩
          case measure => simp [RowKit.intOf]; omega
      · obtain rfl : k = l.length := by omega
        have Hm : Hid (meets lo hi l = false) := by have := hm.out; rw [List.take_length] at this; exact this
        clear hm
        go_wp2
        go_ret
        rw [Hm.out]
        exact ⟨rfl, rfl⟩

theorem find_step {p : Int} {l : List (Item Int)} {k : Nat} (hk : k < l.length) : findS p (l.drop k) = if l[k].1 ≤ p ∧ p < l[k].2.1 then some l[k].2.2 else findS p (l.drop (k + 1)) := by
  rw [List.drop_eq_getElem_cons hk]; rfl

set_option maxRecDepth 100000 in
set_option maxHeartbeats 2000000 in
theorem refFind {R : Nat} {lv xv : Value} {l : List (Item Int)} (p : Int) (r : Option Int) (w : World) (h : RefSet w R lv xv l) (hn : l.length ≤ 1000000000) (hr9 : findS p l = r) :
    Calls Try.prog 18 #[.pointer (some ⟨R, 0, none⟩), .int .i64 p] w fun e w' => e = .returned (.tuple #[.int .i64 (r.getD 0), .bool r.isSome]) ∧ w = w' := by
  obtain ⟨a1, c1, rfl⟩ := owns_slice h.spans
  obtain ⟨a2, c2, rfl⟩ := owns_slice h.nums
  have hc0 : w.cell? ⟨R, 0, none⟩ = some (.slice a1 l.length c1) := by rw [h.obj.cell]; rfl
  have hc1 : w.cell? ⟨R, 1, none⟩ = some (.slice a2 l.length c2) := by rw [h.obj.cell]; rfl
  have Hr := hid hr9
  clear hr9
  go_enter Try.func18, Try.ntmps18
  go_wp2
  go_loop [6] (fun v6 => ∃ k : Nat, k ≤ l.length ∧ v6 = .int .i64 k ∧ Hid (findS p (l.drop k) = r)) (fun v6 => l.length - (RowKit.intOf v6).toNat)
  case atStart => exact ⟨0, by omega, rfl, Hr⟩
  case round =>
    obtain ⟨k, hk, rfl, hm⟩ := hrel
    by_cases hlt : k < l.length
    · obtain ⟨g1, g2, rfl, rfl, _, _, d1, d2, d3⟩ := h.at hlt
      have hst := find_step (p := p) hlt
      rw [hm.out] at hst
      clear hm
      generalize l[k] = x at *
      by_cases hx1 : x.1 ≤ p
      · by_cases hx2 : p < x.2.1
        · rw [if_pos ⟨hx1, hx2⟩] at hst
          subst hst
          go_wp2
          go_ret2
          exact ⟨rfl, rfl⟩
        · rw [if_neg (by omega)] at hst
          have Hm := hid hst.symm
          clear hst
          go_wp2
          go_round
          case rel => exact ⟨k + 1, by omega, by go_num, Hm⟩
          case measure => simp [RowKit.intOf]; omega
      · rw [if_neg (by omega)] at hst
        have Hm := hid hst.symm
        clear hst
        go_wp2
        go_round
        case rel => exact ⟨k + 1, by omega, by go_num, Hm⟩
        case measure => simp [RowKit.intOf]; omega
    · obtain rfl : k = l.length := by omega
      have hm2 := hm.out
      rw [List.drop_length] at hm2
      clear hm Hr
      subst hm2
      go_wp2
      go_ret2
      exact ⟨rfl, rfl⟩
end Go.Proofs.Ytmkbigaofhionaa
