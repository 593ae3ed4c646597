/- mortiselaw04's live and same; both sets in one memory. -/
import Derived.Test.YtmkbigaofhionaaSetAInt
import Derived.Test.YtmkbigaofhionaaSetG
import Derived.Test.YtmkbigaofhionaaSetFind
import Derived.Test.YtmkbigaofhionaaSetFInt
import Derived.Test.YtmkbigaofhionaaSetO
import Derived.Test.YtmkbigaofhionaaRef4B
import Derived.Test.YtmkbigaofhionaaRef4G
import Derived.Laws.OwnMore
import Derived.Test.YtmkbigaofhionaaRepO
namespace Go.Proofs.Ytmkbigaofhionaa
open Go.RowKit
set_option linter.unusedVariables false
set_option linter.unusedSimpArgs false

def AddIs (B : Nat) (v : Value) (l' : List (Item Int)) (E : Int) (w : World) (e : Ending) (w' : World) : Prop :=
  ∃ v', e = .returned (.int .i64 E) ∧ SetInt w' B v' l' ∧ Fr (fun k => k = B ∨ v.ownBlock = some k) w w' ∧ ∀ k, v'.ownBlock = some k → v.ownBlock = some k ∨ w.heap.size ≤ k

theorem setAddIs {B : Nat} {v : Value} {l : List (Item Int)} (lo hi x : Int) (w : World) (h : SetInt w B v l) (hr : Rises l) (hn : l.length ≤ 100000000) (E : Int) (l' : List (Item Int)) (he : addE lo hi l = E) (hl : addL lo hi x l = l') :
    Calls Try.prog 15 #[.pointer (some ⟨B, 0, none⟩), .int .i64 lo, .int .i64 hi, .int .i64 x] w (AddIs B v l' E w) :=
  (setAddInt lo hi x w h hr hn).mono fun e w' ⟨h1, v', h2, h3, h4⟩ => ⟨v', by rw [h1, he], by rw [← hl]; exact h2, h3, h4⟩

/-- A set's own blocks lie from base on. -/
theorem set_below {base B : Nat} {v : Value} {w w1 w2 : World} {l : List (Item Int)} (h : SetInt w1 B v l) (hb : Below base w w1) (hbase : base ≤ B) (hF : Fr (fun k => k = B ∨ v.ownBlock = some k) w1 w2) : Below base w w2 := by
  refine hb.trans (fr_below hF ?_ (by have := h.lt; omega))
  rintro k (hk | hk)
  · omega
  · have := (h.row.lt k hk).1; omega

theorem lit_below {w w4 w5 w6 w7 w8 : World} {o : Obj} (h4 : Below w.heap.size w w4) (h5 : Below w4.heap.size w4 w5) (h6 : Below w5.heap.size w5 w6) (h7 : Below w6.heap.size w6 w7) (h8 : Below (w7.alloc o).heap.size (w7.alloc o) w8) : Below w.heap.size w w8 :=
  bel_trans (bel_alloc (bel_trans (bel_trans (bel_trans h4 h5) h6) h7) o) h8

theorem same_lit {w4 : World} (v5 : Value) (w5 w6 w7 : World) (hown : w5.ownsRow w4.heap.size 32 2 v5 [((0 : Int), (2 : Int)), (4, 6), (8, 9)].length ([((0 : Int), (2 : Int)), (4, 6), (8, 9)].flatMap spanV)) (h6 : Below w5.heap.size w5 w6) (h7 : Below w6.heap.size w6 w7) :
    Calls Try.prog 26 #[v5, .slice (some ⟨w7.heap.size, 0, none⟩) 3 3] (w7.alloc (.cells #[.int .i64 0, .int .i64 2, .int .i64 4, .int .i64 6, .int .i64 8, .int .i64 9] 32))
      fun e w' => e = .returned (.bool true) ∧ Below (w7.alloc (.cells #[.int .i64 0, .int .i64 2, .int .i64 4, .int .i64 6, .int .i64 8, .int .i64 9] 32)).heap.size (w7.alloc (.cells #[.int .i64 0, .int .i64 2, .int .i64 4, .int .i64 6, .int .i64 8, .int .i64 9] 32)) w' :=
  sameSpans_any v5 _ [((0 : Int), (2 : Int)), (4, 6), (8, 9)] _ ((own_fr hown (F := fun _ => False) (Fr.of_below (bel_trans h6 h7)) (fun _ _ h => h)).alloc _)
    (World.ownsRow_lit (base := 0) (size := 2) w7 #[.int .i64 0, .int .i64 2, .int .i64 4, .int .i64 6, .int .i64 8, .int .i64 9] 3 (Nat.zero_le _) (by decide) rfl) (by decide)

set_option maxRecDepth 100000 in
set_option maxHeartbeats 4000000 in
theorem live4_any (w : World) : Calls Try.prog 19 #[] w fun e w' => e = .returned (.bool true) ∧ Below w.heap.size w w' := by
  have e1 : addE 2 4 ([] : List (Item Int)) = 0 := by decide
  have l1 : addL 2 4 7 ([] : List (Item Int)) = [(2, 4, 7)] := by decide
  have e2 : addE 6 8 ([(2, 4, 7)] : List (Item Int)) = 0 := by decide
  have l2 : addL 6 8 9 ([(2, 4, 7)] : List (Item Int)) = [(2, 4, 7), (6, 8, 9)] := by decide
  have e3 : addE 3 5 ([(2, 4, 7), (6, 8, 9)] : List (Item Int)) = 5 := by decide
  have l3 : addL 3 5 1 ([(2, 4, 7), (6, 8, 9)] : List (Item Int)) = [(2, 4, 7), (6, 8, 9)] := by decide
  have g3 : gapsOf 0 9 ([(2, 4, 7), (6, 8, 9)] : List (Item Int)) = [(0, 2), (4, 6), (8, 9)] := by decide
  have f3 : findS 7 ([(2, 4, 7), (6, 8, 9)] : List (Item Int)) = some 9 := by decide
  have c3 : covOf 0 9 ([(2, 4, 7), (6, 8, 9)] : List (Item Int)) = 4 := by decide
  have r1 : Rises ([] : List (Item Int)) := trivial
  have r2 : Rises ([(2, 4, 7)] : List (Item Int)) := by simp [Rises]
  have r3 : Rises ([(2, 4, 7), (6, 8, 9)] : List (Item Int)) := by simp [Rises]
  have hnew := setNewInt w
  have ha1 := fun B v w h => setAddIs (B := B) (v := v) 2 4 7 w h r1 (by simp) _ _ e1 l1
  have ha2 := fun B v w h => setAddIs (B := B) (v := v) 6 8 9 w h r2 (by simp) _ _ e2 l2
  have ha3 := fun B v w h => setAddIs (B := B) (v := v) 3 5 1 w h r3 (by simp) _ _ e3 l3
  have hg := fun B v w h => setGaps_any (B := B) (v := v) 0 9 w h r3 (by simp)
  have hf := fun B v w h => setFind_any (B := B) (v := v) 7 (some 9) w h r3 (by simp) f3
  have hc := fun B v w h => setCov_any (B := B) (v := v) 0 9 w h r3 (by simp)
  rw [g3] at hg
  have hss := fun w4 v5 w5 w6 w7 h h6 h7 => same_lit (w4 := w4) v5 w5 w6 w7 h h6 h7
  rw [c3] at hc
  clear e1 e2 e3 l1 l2 l3 g3 f3 c3 r1 r2 r3
  go_enter Try.func19, Try.ntmps19
  go_wp2_with (first
    | (go_at_call 14; (with_reducible refine hnew.mono ?_); rintro e w1 ⟨rfl, hs1, hB⟩)
    | (go_at_call 15; (with_reducible refine (ha1 _ _ _ hs1).mono ?_); rintro e w2 ⟨v2, rfl, hs2, hF2, hO2⟩; have hB2 := set_below hs1 hB (Nat.le_refl _) hF2)
    | (go_at_call 15; (with_reducible refine (ha2 _ _ _ hs2).mono ?_); rintro e w3 ⟨v3, rfl, hs3, hF3, hO3⟩; have hB3 := set_below hs2 hB2 (Nat.le_refl _) hF3)
    | (go_at_call 15; (with_reducible refine (ha3 _ _ _ hs3).mono ?_); rintro e w4 ⟨v4, rfl, hs4, hF4, hO4⟩; have hB4 := set_below hs3 hB3 (Nat.le_refl _) hF4)
    | (go_at_call 21; (with_reducible refine (hg _ _ _ hs4).mono ?_); rintro e w5 ⟨v5, rfl, hown5, hb5⟩; have hs5 := hs4.below hb5)
    | (go_at_call 17; (with_reducible refine (hf _ _ _ hs5).mono ?_); rintro e w6 ⟨rfl, hb6⟩; have hs6 := hs5.below hb6)
    | (go_at_call 20; (with_reducible refine (hc _ _ _ hs6).mono ?_); rintro e w7 ⟨rfl, hb7⟩)
    | (go_at_call 26; (with_reducible refine (hss _ _ _ _ _ hown5 hb6 hb7).mono ?_); rintro e w8 ⟨rfl, hb8⟩; have hB8 := lit_below hB4 hb5 hb6 hb7 hb8))
  go_ret
  exact ⟨rfl, hB8⟩

/-- Both sets in one memory, of the call's own. -/
structure Both (w wr : World) (B R : Nat) (v lv xv : Value) (L : List (Item Int)) : Prop where
  set : SetInt wr B v L
  ref : RefSet wr R lv xv L
  hB : w.heap.size ≤ B
  hR : w.heap.size ≤ R
  bel : Below w.heap.size w wr

theorem blk_types {w : World} {k k' : Nat} {c c' : Array Value} {T T' : TypeId} {f f' : Nat × Nat} (h : Blk w k (.cells c T f)) (h' : Blk w k' (.cells c' T' f')) (hne : T ≠ T') : k ≠ k' := by
  intro e
  subst e
  unfold Blk at h h'
  rw [h] at h'
  simp only [Option.some.injEq, Obj.cells.injEq] at h'
  exact hne h'.2.1
theorem own_blk_types {w : World} {k base n s : Nat} {c : Array Value} {T e : TypeId} {f : Nat × Nat} {v : Value} {xs : List Value} (h : w.ownsRow base e s v n xs) (h' : Blk w k (.cells c T f)) (hne : e ≠ T) : v.ownBlock ≠ some k := by
  intro hk
  obtain ⟨cur, h1, _⟩ := own_block h hk
  exact blk_types (show Blk w k _ from h1) h' hne rfl

theorem Both.below {w wr w2 : World} {B R : Nat} {v lv xv : Value} {L : List (Item Int)} (h : Both w wr B R v lv xv L) (hb : Below wr.heap.size wr w2) : Both w w2 B R v lv xv L :=
  ⟨h.set.below hb, h.ref.below hb, h.hB, h.hR, bel_trans h.bel hb⟩

/-- The program's set is put into, then the reference's. -/
theorem Both.add1 {w wr w2 : World} {B R : Nat} {v lv xv v' : Value} {L L' : List (Item Int)} (h : Both w wr B R v lv xv L) (hs : SetInt w2 B v' L') (hF : Fr (fun k => k = B ∨ v.ownBlock = some k) wr w2) :
    SetInt w2 B v' L' ∧ RefSet w2 R lv xv L ∧ Below w.heap.size w w2 := by
  refine ⟨hs, h.ref.fr hF ?_ ?_ ?_, set_below h.set h.bel h.hB hF⟩
  · rintro (hk | hk)
    · exact blk_types h.ref.obj h.set.obj (by decide) hk
    · exact own_blk_types h.set.row h.ref.obj (by decide) hk
  · rintro k hk (h1 | h1)
    · subst h1; exact own_blk_types h.ref.spans h.set.obj (by decide) hk
    · rcases own_types h.ref.spans h.set.row (by decide) with h2 | h2
      · rw [h2] at hk; cases hk
      · exact h2 (hk.trans h1.symm)
  · rintro k hk (h1 | h1)
    · subst h1; exact own_blk_types h.ref.nums h.set.obj (by decide) hk
    · rcases own_types h.ref.nums h.set.row (by decide) with h2 | h2
      · rw [h2] at hk; cases hk
      · exact h2 (hk.trans h1.symm)
theorem Both.add2 {w w2 w3 : World} {B R : Nat} {v' lv xv lv' xv' : Value} {L L' : List (Item Int)} (h1 : SetInt w2 B v' L') (h2 : RefSet w2 R lv xv L) (hb : Below w.heap.size w w2) (hB : w.heap.size ≤ B) (hR : w.heap.size ≤ R)
    (hr : RefSet w3 R lv' xv' L') (hF : Fr (fun k => k = R) w2 w3) : Both w w3 B R v' lv' xv' L' := by
  refine ⟨h1.fr hF (fun e => blk_types h1.obj h2.obj (by decide) e) (fun k hk e => ?_), hr, hB, hR, ?_⟩
  · subst e; exact own_blk_types h1.row h2.obj (by decide) hk
  · exact hb.trans (fr_below hF (fun k hk => by omega) (by have := h2.lt; omega))

theorem Both.drew {w wr : World} {B R : Nat} {v lv xv : Value} {L : List (Item Int)} (h : Both w wr B R v lv xv L) : Both w wr.drew B R v lv xv L :=
  ⟨⟨h.set.obj, h.set.row⟩, ⟨h.ref.obj, h.ref.spans, h.ref.nums⟩, h.hB, h.hR, ⟨h.bel.os, h.bel.tape, h.bel.output, h.bel.size, h.bel.block⟩⟩

/-- The program's Add, in a memory that holds both. -/
def Add1 (w : World) (B R : Nat) (lv xv : Value) (L : List (Item Int)) (lo hi x : Int) (e : Ending) (w' : World) : Prop :=
  ∃ v', e = .returned (.int .i64 (addE lo hi L)) ∧ SetInt w' B v' (addL lo hi x L) ∧ RefSet w' R lv xv L ∧ Below w.heap.size w w' ∧ w.heap.size ≤ B ∧ w.heap.size ≤ R
theorem both_add1 {w wr : World} {B R : Nat} {v lv xv : Value} {L : List (Item Int)} (lo hi x : Int) (h : Both w wr B R v lv xv L) (hr : Rises L) (hn : L.length ≤ 100000000) :
    Calls Try.prog 15 #[.pointer (some ⟨B, 0, none⟩), .int .i64 lo, .int .i64 hi, .int .i64 x] wr (Add1 w B R lv xv L lo hi x) :=
  (setAddInt lo hi x wr h.set hr hn).mono fun e w' ⟨h1, v', h2, h3, h4⟩ => ⟨v', h1, (h.add1 h2 h3).1, (h.add1 h2 h3).2.1, (h.add1 h2 h3).2.2, h.hB, h.hR⟩
/-- The reference's behind it. -/
def Add2 (w : World) (B R : Nat) (v' : Value) (L : List (Item Int)) (lo hi x : Int) (e : Ending) (w' : World) : Prop :=
  ∃ lv' xv', e = .returned (.int .i64 (addE lo hi L)) ∧ Both w w' B R v' lv' xv' (addL lo hi x L)
theorem both_add2 {w w2 : World} {B R : Nat} {v' lv xv : Value} {L : List (Item Int)} (lo hi x : Int) (h1 : SetInt w2 B v' (addL lo hi x L)) (h2 : RefSet w2 R lv xv L) (hb : Below w.heap.size w w2) (hB : w.heap.size ≤ B) (hR : w.heap.size ≤ R) (hr : Rises L) (hn : L.length ≤ 100000000) :
    Calls Try.prog 16 #[.pointer (some ⟨R, 0, none⟩), .int .i64 lo, .int .i64 hi, .int .i64 x] w2 (Add2 w B R v' L lo hi x) :=
  (refAdd lo hi x w2 h2 hr hn).mono fun e w' ⟨h3, lv', xv', h4, h5, _, _⟩ => ⟨lv', xv', h3, Both.add2 h1 h2 hb hB hR h4 h5⟩
theorem set_drew {w : World} {B : Nat} {v : Value} {l : List (Item Int)} (h : SetInt w B v l) : SetInt w.drew B v l := ⟨h.obj, h.row⟩
theorem ref_drew {w : World} {R : Nat} {lv xv : Value} {l : List (Item Int)} (h : RefSet w R lv xv l) : RefSet w.drew R lv xv l := ⟨h.obj, h.spans, h.nums⟩
theorem bel_drew {w w' : World} {B : Nat} (h : Below B w w') : Below B w w'.drew := ⟨h.os, h.tape, h.output, h.size, h.block⟩

abbrev TSpans : Ty := .slice 16 (.pair (.int .i64) (.pair (.int .i64) .unit))
theorem spans_at {w : World} {xs : TSpans.Val} {a : Option Addr} {len cap : Nat} (h : Rep w TSpans xs [.slice a len cap]) {k : Nat} (hk : k < xs.length) :
    ∃ b o, a = some ⟨b, o, none⟩ ∧ b < w.heap.size ∧ w.cell? ⟨b, o + k * 2, none⟩ = some (.int .i64 xs[k].1) ∧ w.cell? ⟨b, o + k * 2 + 1, none⟩ = some (.int .i64 xs[k].2.1) := by
  obtain ⟨b, o, ha, l, h1, h2, h3, h4⟩ := slice_at h hk
  obtain ⟨r1, rfl, _, _, h5⟩ := rep_int h4
  obtain ⟨r2, rfl, _, _, h6⟩ := rep_int h5
  exact ⟨b, o, ha, h3, h2 0 _ rfl, h2 1 _ rfl⟩
end Go.Proofs.Ytmkbigaofhionaa
