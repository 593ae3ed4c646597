/- Contracts of package regions at int: a set in memory; New, all, from. -/
import Derived.Test.YtmkbigaofhionaaSpan
import Derived.Test.YtmkbigaofhionaaInsInt
namespace Go.Proofs.Ytmkbigaofhionaa
open Go.RowKit
set_option linter.unusedVariables false
set_option linter.unusedSimpArgs false

def itemCInt (x : Item Int) : List Value := [.int .i64 x.1, .int .i64 x.2.1] ++ [.int .i64 x.2.2]

/-- A set in memory: its struct at block B, its items' slice v. -/
structure SetInt (w : World) (B : Nat) (v : Value) (l : List (Item Int)) : Prop where
  obj : Blk w B (.cells #[v] 72 (0, 0))
  row : w.ownsRow (B + 1) 75 3 v l.length (l.flatMap itemCInt)

theorem itemInt_len (l : List (Item Int)) : (l.flatMap itemCInt).length = l.length * 3 := by
  induction l with
  | nil => rfl
  | cons x r ih => rw [List.flatMap_cons, List.length_append, ih, List.length_cons]; simp [itemCInt]; omega
theorem itemInt_one (l : List (Item Int)) : ∀ u ∈ l.flatMap itemCInt, u.oneCell' = true := by
  intro u hu
  rw [List.mem_flatMap] at hu
  obtain ⟨x, _, hx⟩ := hu
  simp only [itemCInt, List.cons_append, List.nil_append, List.mem_cons, List.not_mem_nil, or_false] at hx
  rcases hx with rfl | rfl | hx
  · rfl
  · rfl
  · first | (subst hx; rfl) | (rcases hx with rfl | rfl <;> rfl)

theorem itemInt_cells {w : World} {base n c : Nat} {a : Option Addr} {l : List (Item Int)} (h : w.ownsRow base 75 3 (.slice a n c) l.length (l.flatMap itemCInt)) {k : Nat} (hk : k < l.length) :
    ∃ g, a = some ⟨g, 0, none⟩ ∧ g < w.heap.size ∧ base ≤ g ∧ ∀ (j : Nat) (u : Value), (itemCInt l[k])[j]? = some u → w.cell? ⟨g, k * 3 + j, none⟩ = some u := by
  rcases h.2 with ⟨h1, h2⟩ | ⟨g, cap, cur, h1, _, hh, _⟩
  · omega
  · simp only [Value.slice.injEq] at h1
    obtain ⟨rfl, rfl, rfl⟩ := h1
    have hg := h.lt g rfl
    refine ⟨g, rfl, hg.2, hg.1, fun j u hu => ?_⟩
    have hj : j < 3 := by have := (List.getElem?_eq_some_iff.1 hu).1; simpa [itemCInt] using this
    have f0 := flat_get (f := itemCInt) (k := 3) (fun _ => rfl) l k hk j hj
    have c0 := h.cells (g := g) rfl _ _ (f0.trans hu)
    rw [Addr.add_lit, Nat.zero_add] at c0
    exact c0

theorem SetInt.fr {w w' : World} {B : Nat} {v : Value} {l : List (Item Int)} (h : SetInt w B v l) {F : Nat → Prop} (hf : Fr F w w') (hB : ¬ F B) (hv : ∀ k, v.ownBlock = some k → ¬ F k) : SetInt w' B v l :=
  ⟨hf.blk h.obj hB, own_fr h.row hf hv⟩
theorem SetInt.below {w w' : World} {B : Nat} {v : Value} {l : List (Item Int)} (h : SetInt w B v l) (hb : Below w.heap.size w w') : SetInt w' B v l :=
  h.fr (F := fun _ => False) (Fr.of_below hb) (fun h => h) (fun _ _ h => h)
theorem SetInt.lt {w : World} {B : Nat} {v : Value} {l : List (Item Int)} (h : SetInt w B v l) : B < w.heap.size := h.obj.lt

def SetNewInt (w : World) (e : Ending) (w' : World) : Prop :=
  e = .returned (.pointer (some ⟨w.heap.size, 0, none⟩)) ∧ SetInt w' w.heap.size (.slice none 0 0) [] ∧ Below w.heap.size w w'

theorem setNewInt (w : World) : Calls Try.prog 14 #[] w (SetNewInt w) := by
  have hB := bel_refl w
  go_enter Try.func14, Try.ntmps14
  go_wp2
  go_ret
  exact ⟨rfl, ⟨Blk.new w _, World.ownsRow_nil _ _ _ _⟩, (by repeat (first | exact hB | refine bel_alloc ?_ _ | refine below_drewN ?_ _ | refine Below.drew ?_ | refine bel_set ?_ (by simp; omega) _))⟩

theorem setAllInt {B : Nat} {v : Value} {l : List (Item Int)} (w : World) (h : SetInt w B v l) : Calls Try.prog 47 #[.pointer (some ⟨B, 0, none⟩)] w fun e w' => e = .returned v ∧ w = w' := by
  have hc : w.cell? ⟨B, 0, none⟩ = some v := by rw [h.obj.cell]; rfl
  go_enter Try.func47, Try.ntmps47
  go_wp2
  go_ret
  exact ⟨rfl, rfl⟩

theorem setFrom1Int {base n c b1 b2 i : Nat} {a : Option Addr} {l : List (Item Int)} (p : Int) (w : World) (h : w.ownsRow base 75 3 (.slice a n c) l.length (l.flatMap itemCInt)) (hi : i < l.length)
    (hc1 : w.cell? ⟨b1, 0, none⟩ = some (.slice a n c)) (hc2 : w.cell? ⟨b2, 0, none⟩ = some (.int .i64 p)) (hn : l.length ≤ 1000000000) :
    Calls Try.prog 80 #[.int .i64 i, .pointer (some ⟨b1, 0, none⟩), .pointer (some ⟨b2, 0, none⟩)] w fun e w' => e = .returned (.bool (decide (p < l[i].2.1))) ∧ Below w.heap.size w w' := by
  have hB := bel_refl w
  obtain ⟨a', c', hv⟩ := owns_slice h
  simp only [Value.slice.injEq] at hv
  obtain ⟨rfl, rfl, rfl⟩ := hv
  obtain ⟨g, rfl, hg, hbg, hcell⟩ := itemInt_cells h hi
  have hc3 := hcell 1 _ rfl
  clear hcell h
  generalize l[i] = x at *
  generalize l.length = n at *
  go_enter Try.func80, Try.ntmps80
  go_wp2
  go_quiet (fail)
  go_wp2
  go_ret
  exact ⟨rfl, below_drewN hB _⟩

set_option maxRecDepth 100000 in
set_option maxHeartbeats 2000000 in
theorem setFromInt {B : Nat} {v : Value} {l : List (Item Int)} (p : Int) (w : World) (h : SetInt w B v l) (hr : Rises l) (hn : l.length ≤ 1000000000) :
    Calls Try.prog 45 #[.pointer (some ⟨B, 0, none⟩), .int .i64 p] w fun e w' => e = .returned (.int .i64 (fromS p l)) ∧ Below w.heap.size w w' := by
  have hB := bel_refl w
  have hBl := h.lt
  have hall := setAllInt _ (h.below (bel_alloc hB (.cells #[.int .i64 p] 3)))
  obtain ⟨a, c, rfl⟩ := owns_slice h.row
  have hrow := h.row
  go_enter Try.func45, Try.ntmps45
  go_wp2_with (go_at_call 47; with_reducible refine (hall).mono ?_; rintro e w1 ⟨rfl, rfl⟩)
  go_quiet (fail)
  go_wp2
  obtain ⟨w1, hw1⟩ : ∃ w1 : World, w1 = ((w.alloc (.cells #[.int .i64 p] 3)).alloc (.cells #[.slice a l.length c] 70)) := ⟨_, rfl⟩
  have hz1 : w1.heap.size = w.heap.size + 2 := by rw [hw1]; simp
  have hB1 : Below w.heap.size w w1 := by rw [hw1]; exact bel_alloc (bel_alloc hB _) _
  have hb1 : Blk w1 w.heap.size (.cells #[.int .i64 p] 3 (0, 0)) := by rw [hw1]; exact (Blk.new _ _).alloc _
  have hb2 : Blk w1 (w.heap.size + 1) (.cells #[.slice a l.length c] 70 (0, 0)) := by
    have := Blk.new (w.alloc (.cells #[.int .i64 p] 3)) (.cells #[.slice a l.length c] 70)
    rw [hw1]; simpa using this
  have Hz1 := hid hz1
  clear hz1
  go_loopw [7, 8] (fun v7 v8 wr => ∃ x y : Nat, x ≤ y ∧ y ≤ l.length ∧ v7 = .int .i64 x ∧ v8 = .int .i64 y ∧ Hid (∀ (i : Nat) (h : i < l.length), i < x → l[i].2.1 ≤ p) ∧ Hid (∀ (i : Nat) (h : i < l.length), y ≤ i → p < l[i].2.1) ∧ Below w1.heap.size w1 wr) (fun v7 v8 _ => (RowKit.intOf v8).toNat - (RowKit.intOf v7).toNat)
  case atStart => exact ⟨0, l.length, by omega, by omega, rfl, rfl, hid (fun i _ hi => by omega), hid (fun i h1 h2 => by omega), by rw [hw1]; exact below_drewN (bel_refl _) _⟩
  case round =>
    obtain ⟨x, y, hxy, hy, rfl, rfl, h1, h2, hBr⟩ := hrel
    have hc1 := (hb1.below hBr hb1.lt).cell 0
    have hc2 := (hb2.below hBr hb2.lt).cell 0
    have hrow' := own_fr hrow (F := fun _ => False) (Fr.of_below (bel_trans hB1 hBr)) (fun _ _ h => h)
    by_cases hlt : x < y
    · obtain ⟨m, hm⟩ : ∃ m : Nat, m = (x + y) / 2 := ⟨_, rfl⟩
      have hml : m < l.length := by omega
      have hmm : ((x : Int) + (y : Int)) / 2 = (m : Int) := by omega
      have hwx : IntKind.i64.wrap ((x : Int) + (y : Int)) = (x : Int) + (y : Int) := IntWalk.i64_in _ (by omega)
      have hf1 := setFrom1Int p wr hrow' hml hc2 hc1 hn
      have Hm := hid hm
      clear hm hc1 hc2 hrow' hw1 hb1 hb2
      by_cases hp : p < l[m].2.1
      · rw [decide_eq_true hp] at hf1
        have Hp := hid hp
        clear hp
        go_wp2_with (go_at_call 80; refine hf1.mono ?_; rintro e w2 ⟨rfl, hb⟩)
        go_roundw
        case rel => exact ⟨x, m, by have := Hm.out; omega, by omega, rfl, rfl, h1, hid (fun i hi hmi => ends_mono hr i hi hmi Hp.out), bel_trans hBr hb⟩
        case measure => have := Hm.out; simp [RowKit.intOf]; omega
      · rw [decide_eq_false hp] at hf1
        have Hp := hid hp
        clear hp
        go_wp2_with (go_at_call 80; refine hf1.mono ?_; rintro e w2 ⟨rfl, hb⟩)
        go_roundw
        case rel => exact ⟨m + 1, y, by have := Hm.out; omega, by omega, by go_num, rfl, hid (fun i hi hmi => begins_mono hr i m hml (by omega) (by have := Hp.out; omega)), h2, bel_trans hBr hb⟩
        case measure => have := Hm.out; simp [RowKit.intOf]; omega
    · obtain rfl : x = y := by omega
      have Hf := hid (fromS_unique hr hy h1.out h2.out)
      clear h1 h2 hw1 hb1 hb2 hc1 hc2
      go_wp2
      go_ret
      exact ⟨by rw [Hf.out]; rfl, bel_trans hB1 hBr⟩
end Go.Proofs.Ytmkbigaofhionaa
