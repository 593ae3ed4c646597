/- Small facts on blocks of the heap; no program. -/
import Derived.WalkKit
import Derived.WalkSpells
import Derived.WalkLawsBesides
namespace Go.Proofs.Ytmkbigaofhionaa
open Go.RowKit
set_option linter.unusedVariables false
set_option linter.unusedSimpArgs false

theorem hid {p : Prop} (h : p) : Hid p := h

/-- Block b of w is this object. -/
def Blk (w : World) (b : Nat) (o : Obj) : Prop := w.heap[b]? = some o
theorem Blk.lt {w : World} {b : Nat} {o : Obj} (h : Blk w b o) : b < w.heap.size := by
  rcases Nat.lt_or_ge b w.heap.size with h' | h'
  · exact h'
  · simp [Blk, Array.getElem?_eq_none h'] at h
theorem Blk.alloc {w : World} {b : Nat} {o : Obj} (h : Blk w b o) (o' : Obj) : Blk (w.alloc o') b o := by
  have := h.lt
  show (w.heap.push o')[b]? = some o
  rw [Array.getElem?_push, if_neg (by omega)]; exact h
theorem Blk.new (w : World) (o : Obj) : Blk (w.alloc o) w.heap.size o := by
  show (w.heap.push o)[w.heap.size]? = some o
  simp
theorem Blk.drew {w : World} {b : Nat} {o : Obj} (h : Blk w b o) : Blk w.drew b o := h
theorem Blk.drewN {w : World} {b : Nat} {o : Obj} (h : Blk w b o) (n : Nat) : Blk (w.drewN n) b o := h
theorem Blk.below {w w' : World} {b B : Nat} {o : Obj} (h : Blk w b o) (hb : Below B w w') (hB : b < B) : Blk w' b o := by
  unfold Blk; rw [hb.block b hB]; exact h
theorem Blk.setCell_other {w : World} {b : Nat} {o : Obj} (h : Blk w b o) {a : Addr} (v : Value) (ha : b ≠ a.block) : Blk (w.setCell a v) b o := by
  unfold Blk; rw [Below.heap_setCell _ _ _ _ ha]; exact h
theorem Blk.setCell_same {w : World} {b : Nat} {c : Array Value} {T : TypeId} {f : Nat × Nat} (h : Blk w b (.cells c T f)) (i : Nat) (v : Value) :
    Blk (w.setCell ⟨b, i, none⟩ v) b (.cells (c.setIfInBounds i v) T f) := by
  unfold Blk at *
  simp [World.setCell, Array.getElem?_modify, h]
theorem Blk.cell {w : World} {b : Nat} {c : Array Value} {T : TypeId} {f : Nat × Nat} (h : Blk w b (.cells c T f)) (i : Nat) : w.cell? ⟨b, i, none⟩ = c[i]? := by
  unfold Blk at h
  simp [World.cell?, h]
theorem Blk.frozen {w : World} {b : Nat} {c : Array Value} {T : TypeId} (h : Blk w b (.cells c T (0, 0))) (i : Nat) : w.frozen? ⟨b, i, none⟩ = false := by
  unfold Blk at h
  simp [World.frozen?, h]

theorem below_box {w w' : World} {o : Obj} (h : Below (w.alloc o).heap.size (w.alloc o) w') : Below w.heap.size w w' :=
  ((Below.refl _ _).alloc (Nat.le_refl _) _).trans (h.mono (by simp))
theorem below_lt {w w' : World} {o : Obj} (h : Below (w.alloc o).heap.size (w.alloc o) w') : w.heap.size < w'.heap.size := by
  have := h.size; simp at this; omega

theorem below_drewN {B : Nat} {a w : World} (h : Below B a w) (n : Nat) : Below B a (w.drewN n) := ⟨h.os, h.tape, h.output, h.size, h.block⟩

theorem bcell {W w1 : World} (hb : Below W.heap.size W w1) : (∀ b o, b < W.heap.size → w1.cell? ⟨b, o, none⟩ = W.cell? ⟨b, o, none⟩) ∧ (∀ b o, b < W.heap.size → w1.frozen? ⟨b, o, none⟩ = W.frozen? ⟨b, o, none⟩) :=
  ⟨fun b o h => hb.cell (p := ⟨b, o, none⟩) h, fun b o h => hb.frozen (p := ⟨b, o, none⟩) h⟩

theorem bel_trans {a b c : World} (h : Below a.heap.size a b) (k : Below b.heap.size b c) : Below a.heap.size a c := h.trans (k.mono h.size)
theorem bel_alloc {a b : World} (h : Below a.heap.size a b) (o : Obj) : Below a.heap.size a (b.alloc o) := h.alloc h.size o
theorem bel_set {a b : World} (h : Below a.heap.size a b) {p : Addr} (hp : a.heap.size ≤ p.block) (v : Value) : Below a.heap.size a (b.setCell p v) := h.setCell hp v
theorem bel_refl (a : World) : Below a.heap.size a a := Below.refl _ _

theorem heap_size_alloc' (w : World) (o : Obj) : (w.alloc o).heap.size = w.heap.size + 1 := by simp
theorem heap_size_drewN' (w : World) (n : Nat) : (w.drewN n).heap.size = w.heap.size := rfl
theorem heap_size_drew' (w : World) : (w.drew).heap.size = w.heap.size := rfl

theorem two_new (w : World) (x y : Value) (T g : Nat) (hg : g = w.heap.size) : ∀ (j : Nat) (u : Value), [x, y][j]? = some u → (w.alloc (.cells #[x, y] T)).cell? ((⟨g, 0, none⟩ : Addr).add j) = some u := by
  subst hg; exact cell_two_new _ _ _ _
theorem one_new (w : World) (x : Value) (T g : Nat) (hg : g = w.heap.size) : ∀ (j : Nat) (u : Value), [x][j]? = some u → (w.alloc (.cells #[x] T)).cell? ((⟨g, 0, none⟩ : Addr).add j) = some u := by
  subst hg; exact cell_one_new _ _ _

theorem run_shr_u64 {P : Program} (x c : Int) (h : 0 ≤ c) (h' : c < 64) (hx : 0 ≤ x) (w : World) : (Op.shift .shr .u64 x .i64 c).run P w = .ok (.int .u64 (x / 2 ^ c.toNat)) w := by
  have e : min c.toNat IntKind.u64.bits = c.toNat := by simp [IntKind.bits]; omega
  unfold Op.shift
  rw [if_neg (by omega)]
  simp only [e]
  rw [Int.fdiv_eq_ediv_of_nonneg _ (Int.le_of_lt (Int.pow_pos (by decide)))]
  rfl
theorem run_shl_u64 {P : Program} (x c : Int) (h : 0 ≤ c) (h' : c < 64) (hx : 0 ≤ x) (w : World) : (Op.shift .shl .u64 x .i64 c).run P w = .ok (.int .u64 (x * 2 ^ c.toNat % 18446744073709551616)) w := by
  have e : min c.toNat IntKind.u64.bits = c.toNat := by simp [IntKind.bits]; omega
  unfold Op.shift
  rw [if_neg (by omega)]
  simp only [e]
  rw [IntKind.wrap_u64]
  rfl

end Go.Proofs.Ytmkbigaofhionaa
