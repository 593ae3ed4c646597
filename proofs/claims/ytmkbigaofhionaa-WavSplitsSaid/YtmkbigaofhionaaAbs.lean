/- An abstract machine over plain data: values, owned blocks, what they stand for; no program. -/
import Derived.Test.YtmkbigaofhionaaRep
import Derived.Orders
import Derived.Maps.AppendAt
import Derived.Scope
namespace Go.Proofs.Ytmkbigaofhionaa
open Go.RowKit
set_option linter.unusedVariables false
set_option linter.unusedSimpArgs false

/-- Kinds may be told from each other. -/
def Ty.same : (x y : Ty) → Decidable (x = y)
  | .int k, .int j => match decEq k j with
    | .isTrue h => .isTrue (by rw [h])
    | .isFalse h => .isFalse (fun e => h (by injection e))
  | .int _, .bool => .isFalse (fun e => by cases e)
  | .int _, .str => .isFalse (fun e => by cases e)
  | .int _, .slice _ _ => .isFalse (fun e => by cases e)
  | .int _, .unit => .isFalse (fun e => by cases e)
  | .int _, .pair _ _ => .isFalse (fun e => by cases e)
  | .bool, .int _ => .isFalse (fun e => by cases e)
  | .bool, .bool => .isTrue rfl
  | .bool, .str => .isFalse (fun e => by cases e)
  | .bool, .slice _ _ => .isFalse (fun e => by cases e)
  | .bool, .unit => .isFalse (fun e => by cases e)
  | .bool, .pair _ _ => .isFalse (fun e => by cases e)
  | .str, .int _ => .isFalse (fun e => by cases e)
  | .str, .bool => .isFalse (fun e => by cases e)
  | .str, .str => .isTrue rfl
  | .str, .slice _ _ => .isFalse (fun e => by cases e)
  | .str, .unit => .isFalse (fun e => by cases e)
  | .str, .pair _ _ => .isFalse (fun e => by cases e)
  | .slice _ _, .int _ => .isFalse (fun e => by cases e)
  | .slice _ _, .bool => .isFalse (fun e => by cases e)
  | .slice _ _, .str => .isFalse (fun e => by cases e)
  | .slice n a, .slice m b => match decEq n m, Ty.same a b with
    | .isTrue h, .isTrue h' => .isTrue (by rw [h, h'])
    | .isFalse h, _ => .isFalse (fun e => h (by injection e))
    | _, .isFalse h => .isFalse (fun e => h (by injection e))
  | .slice _ _, .unit => .isFalse (fun e => by cases e)
  | .slice _ _, .pair _ _ => .isFalse (fun e => by cases e)
  | .unit, .int _ => .isFalse (fun e => by cases e)
  | .unit, .bool => .isFalse (fun e => by cases e)
  | .unit, .str => .isFalse (fun e => by cases e)
  | .unit, .slice _ _ => .isFalse (fun e => by cases e)
  | .unit, .unit => .isTrue rfl
  | .unit, .pair _ _ => .isFalse (fun e => by cases e)
  | .pair _ _, .int _ => .isFalse (fun e => by cases e)
  | .pair _ _, .bool => .isFalse (fun e => by cases e)
  | .pair _ _, .str => .isFalse (fun e => by cases e)
  | .pair _ _, .slice _ _ => .isFalse (fun e => by cases e)
  | .pair _ _, .unit => .isFalse (fun e => by cases e)
  | .pair a c, .pair b d => match Ty.same a b, Ty.same c d with
    | .isTrue h, .isTrue h' => .isTrue (by rw [h, h'])
    | .isFalse h, _ => .isFalse (fun e => h (by injection e))
    | _, .isFalse h => .isFalse (fun e => h (by injection e))
instance : DecidableEq Ty := Ty.same

def Ty.dflt : (t : Ty) → t.Val
  | .int _ => (0 : Int)
  | .bool => false
  | .str => (⟨#[]⟩ : ByteArray)
  | .slice _ _ => []
  | .unit => ()
  | .pair a b => (a.dflt, b.dflt)

/-- Abstract values: one that no memory stands behind; a truth that bears a number (its copies bear it, too); elements in memory that stays (a slice; a place in one of them); a row that is owned, a place in one; a block that is owned; a closure; cells; results; a value in an interface. -/
inductive AV where
  | v (x : Value)
  | bv (i : Nat) (b : Bool)
  | ro (t : Ty) (xs : List t.Val)
  | el (t : Ty) (x : t.Val) (off : Nat)
  | own (k : Nat)
  | oel (k i sz off : Nat)
  | ptr (k off : Nat)
  | mp (k : Nat)
  | clo (fn : Fn) (cap : List AV)
  | agg (l : List AV)
  | tup (l : List AV)
  | ifc (T : TypeId) (x : AV)

/-- Owned blocks: cells one by one; a row of elements (it may grow). -/
inductive OB where
  | cells (T : TypeId) (cs : List AV)
  | row (E : TypeId) (t : Ty) (xs : List t.Val)
  | map (ag : Bool) (kt et : Ty) (l : List (kt.Val × et.Val))

def look {α : Type} (k : Nat) : List (Nat × α) → Option α
  | [] => none
  | (i, a) :: r => match Nat.beq i k with
    | true => some a
    | false => look k r

def cellsAV : (t : Ty) → t.Val → List AV
  | .int k, n => [.v (.int k n)]
  | .bool, b => [.v (.bool b)]
  | .str, s => [.v (.string s)]
  | .slice _ e, xs => [.ro e xs]
  | .unit, _ => []
  | .pair a b, x => cellsAV a x.1 ++ cellsAV b x.2

/-- Ghost: what an owned thing is called in the world; which blocks stay as they are. -/
structure G where
  m : Nat → Option Value
  S : Nat → Prop
  β : Nat → Option Bool

def RepS (S : Nat → Prop) (w : World) : (t : Ty) → t.Val → List Value → Prop
  | .int k, n, cs => cs = [.int k n]
  | .bool, x, cs => cs = [.bool x]
  | .str, s, cs => cs = [.string s]
  | .slice _ e, xs, cs => ∃ a cap, cs = [.slice a xs.length cap] ∧ xs.length ≤ cap ∧
      ∀ (i : Nat) (h : i < xs.length), ∃ b o, a = some ⟨b, o, none⟩ ∧ S b ∧ ∃ l, l.length = e.cells ∧ CellsAt w b (o + i * e.cells) l ∧ RepS S w e xs[i] l
  | .unit, _, cs => cs = []
  | .pair a b, x, cs => ∃ l r, cs = l ++ r ∧ l.length = a.cells ∧ RepS S w a x.1 l ∧ RepS S w b x.2 r

theorem RepS.len {S : Nat → Prop} {w : World} : ∀ {t : Ty} {x : t.Val} {cs : List Value}, RepS S w t x cs → cs.length = t.cells
  | .int _, _, _, h => by simp only [RepS] at h; rw [h]; rfl
  | .bool, _, _, h => by simp only [RepS] at h; rw [h]; rfl
  | .str, _, _, h => by simp only [RepS] at h; rw [h]; rfl
  | .slice _ _, _, _, h => by obtain ⟨a, cap, h, _⟩ := h; rw [h]; rfl
  | .unit, _, _, h => by simp only [RepS] at h; rw [h]; rfl
  | .pair a b, _, _, h => by
    obtain ⟨l, r, rfl, hl, _, hr⟩ := h
    rw [List.length_append, hl, RepS.len hr]; rfl

/-- Blocks that stay: what is told of them stands in a later world, and of more blocks. -/
def Stay (S : Nat → Prop) (w w' : World) : Prop := ∀ b, S b → w'.heap[b]? = w.heap[b]?

theorem CellsAt.stay {w w' : World} {b o : Nat} {cs : List Value} (h : CellsAt w b o cs) (hb : w'.heap[b]? = w.heap[b]?) : CellsAt w' b o cs :=
  fun j v hj => (World.cell?_of_block (a := ⟨b, o + j, none⟩) hb).trans (h j v hj)

theorem RepS.stay {S S' : Nat → Prop} {w w' : World} (hs : ∀ b, S b → S' b) (hb : Stay S w w') : ∀ {t : Ty} {x : t.Val} {cs : List Value}, RepS S w t x cs → RepS S' w' t x cs
  | .int _, _, _, h => h
  | .bool, _, _, h => h
  | .str, _, _, h => h
  | .slice _ e, xs, cs, h => by
    obtain ⟨a, cap, h1, h2, h5⟩ := h
    refine ⟨a, cap, h1, h2, fun i hi => ?_⟩
    obtain ⟨b, o, h6, hS, l, h7, h8, h10⟩ := h5 i hi
    exact ⟨b, o, h6, hs b hS, l, h7, h8.stay (hb b hS), RepS.stay hs hb h10⟩
  | .unit, _, _, h => h
  | .pair a b, x, cs, h => by
    obtain ⟨l, r, h1, h2, h3, h4⟩ := h
    exact ⟨l, r, h1, h2, RepS.stay hs hb h3, RepS.stay hs hb h4⟩

/-- An argument's reading, as memory that stays. -/
theorem RepS.of_rep {w : World} : ∀ {t : Ty} {x : t.Val} {cs : List Value}, Rep w t x cs → RepS (fun b => b < w.heap.size) w t x cs
  | .int _, _, _, h => h.1
  | .bool, _, _, h => h
  | .str, _, _, h => h.1
  | .slice _ e, xs, cs, h => by
    obtain ⟨a, cap, h1, _, h2, _, h5⟩ := h
    refine ⟨a, cap, h1, h2, fun i hi => ?_⟩
    obtain ⟨b, o, h6, l, h7, h8, h9, h10⟩ := h5 i hi
    exact ⟨b, o, h6, h9, l, h7, h8, RepS.of_rep h10⟩
  | .unit, _, _, h => h
  | .pair a b, x, cs, h => by
    obtain ⟨l, r, h1, h2, h3, h4⟩ := h
    exact ⟨l, r, h1, h2, RepS.of_rep h3, RepS.of_rep h4⟩

mutual
/-- What an abstract value stands for. -/
def VRel (g : G) (w : World) : AV → Value → Prop
  | .v x, c => c = x
  | .bv i b, c => c = .bool b ∧ g.β i = some b
  | .ro t xs, c => RepS g.S w (.slice 0 t) xs [c]
  | .el t x off, c => ∃ b o l, c = .pointer (some ⟨b, o + off, none⟩) ∧ g.S b ∧ CellsAt w b o l ∧ RepS g.S w t x l
  | .own k, c => g.m k = some c ∧ ∃ a n p, c = .slice a n p
  | .oel k i sz off, c => ∃ b n cap, g.m k = some (.slice (some ⟨b, 0, none⟩) n cap) ∧ i < n ∧ c = .pointer (some ⟨b, i * sz + off, none⟩)
  | .ptr k off, c => ∃ b, g.m k = some (.pointer (some ⟨b, 0, none⟩)) ∧ c = .pointer (some ⟨b, off, none⟩)
  | .mp k, c => g.m k = some c ∧ ∃ r, c = .map r
  | .clo fn cap, c => ∃ cs, VRels g w cap cs ∧ c = .func fn #[] cs.toArray
  | .agg l, c => ∃ cs, VRels g w l cs ∧ c = .agg cs.toArray
  | .tup l, c => ∃ cs, VRels g w l cs ∧ c = .tuple cs.toArray
  | .ifc T x, c => ∃ d, VRel g w x d ∧ c = .iface T d
def VRels (g : G) (w : World) : List AV → List Value → Prop
  | [], cs => cs = []
  | a :: l, cs => ∃ c r, cs = c :: r ∧ VRel g w a c ∧ VRels g w l r
end

/-- More is known: names stay, more blocks stay. -/
structure G.le (g g' : G) : Prop where
  m : ∀ k c, g.m k = some c → g'.m k = some c
  S : ∀ b, g.S b → g'.S b
  β : ∀ k b, g.β k = some b → g'.β k = some b

theorem G.le.refl (g : G) : g.le g := ⟨fun _ _ h => h, fun _ h => h, fun _ _ h => h⟩
theorem G.le.trans {a b c : G} (h : a.le b) (k : b.le c) : a.le c := ⟨fun i v hv => k.m i v (h.m i v hv), fun i hi => k.S i (h.S i hi), fun i v hv => k.β i v (h.β i v hv)⟩

mutual
theorem VRel.stay {g g' : G} {w w' : World} (hg : g.le g') (hs : Stay g.S w w') : ∀ {a : AV} {c : Value}, VRel g w a c → VRel g' w' a c
  | .v x, c, h => by simpa only [VRel] using h
  | .bv i b, c, h => by simp only [VRel] at h ⊢; exact ⟨h.1, hg.β _ _ h.2⟩
  | .ro t xs, c, h => by simp only [VRel] at h ⊢; exact h.stay hg.S hs
  | .el t x off, c, h => by
    simp only [VRel] at h ⊢
    obtain ⟨b, o, l, h1, h2, h3, h4⟩ := h
    exact ⟨b, o, l, h1, hg.S b h2, h3.stay (hs b h2), h4.stay hg.S hs⟩
  | .own k, c, h => by simp only [VRel] at h ⊢; exact ⟨hg.m k c h.1, h.2⟩
  | .oel k i sz off, c, h => by
    simp only [VRel] at h ⊢
    obtain ⟨b, n, cap, h1, h2⟩ := h
    exact ⟨b, n, cap, hg.m _ _ h1, h2⟩
  | .ptr k off, c, h => by
    simp only [VRel] at h ⊢
    obtain ⟨b, h1, h2⟩ := h
    exact ⟨b, hg.m _ _ h1, h2⟩
  | .mp k, c, h => by simp only [VRel] at h ⊢; exact ⟨hg.m k c h.1, h.2⟩
  | .clo fn cap, c, h => by
    simp only [VRel] at h ⊢
    obtain ⟨cs, h1, h2⟩ := h
    exact ⟨cs, VRels.stay hg hs h1, h2⟩
  | .agg l, c, h => by
    simp only [VRel] at h ⊢
    obtain ⟨cs, h1, h2⟩ := h
    exact ⟨cs, VRels.stay hg hs h1, h2⟩
  | .tup l, c, h => by
    simp only [VRel] at h ⊢
    obtain ⟨cs, h1, h2⟩ := h
    exact ⟨cs, VRels.stay hg hs h1, h2⟩
  | .ifc T x, c, h => by
    simp only [VRel] at h ⊢
    obtain ⟨d, h1, h2⟩ := h
    exact ⟨d, VRel.stay hg hs h1, h2⟩
theorem VRels.stay {g g' : G} {w w' : World} (hg : g.le g') (hs : Stay g.S w w') : ∀ {l : List AV} {cs : List Value}, VRels g w l cs → VRels g' w' l cs
  | [], cs, h => by simpa only [VRels] using h
  | a :: l, cs, h => by
    simp only [VRels] at h ⊢
    obtain ⟨c, r, h1, h2, h3⟩ := h
    exact ⟨c, r, h1, VRel.stay hg hs h2, VRels.stay hg hs h3⟩
end

theorem VRels.nil {g : G} {w : World} {cs : List Value} : VRels g w [] cs ↔ cs = [] := by simp only [VRels]
theorem VRels.cons {g : G} {w : World} {a : AV} {l : List AV} {cs : List Value} : VRels g w (a :: l) cs ↔ ∃ c r, cs = c :: r ∧ VRel g w a c ∧ VRels g w l r := by simp only [VRels]
theorem VRels.len {g : G} {w : World} : ∀ {l : List AV} {cs : List Value}, VRels g w l cs → cs.length = l.length
  | [], cs, h => by rw [VRels.nil.1 h]; rfl
  | a :: l, cs, h => by
    obtain ⟨c, r, rfl, _, h3⟩ := VRels.cons.1 h
    simp [VRels.len h3]
theorem VRels.get {g : G} {w : World} : ∀ {l : List AV} {cs : List Value}, VRels g w l cs → ∀ (i : Nat) (a : AV), l[i]? = some a → ∃ c, cs[i]? = some c ∧ VRel g w a c
  | [], cs, h, i, a, hi => by simp at hi
  | a :: l, cs, h, i, x, hi => by
    obtain ⟨c, r, rfl, h2, h3⟩ := VRels.cons.1 h
    cases i with
    | zero => simp at hi; subst hi; exact ⟨c, rfl, h2⟩
    | succ i => simpa using h3.get i x (by simpa using hi)
theorem VRels.app {g : G} {w : World} : ∀ {l l' : List AV} {cs cs' : List Value}, VRels g w l cs → VRels g w l' cs' → VRels g w (l ++ l') (cs ++ cs')
  | [], l', cs, cs', h, h' => by rw [VRels.nil.1 h]; exact h'
  | a :: l, l', cs, cs', h, h' => by
    obtain ⟨c, r, rfl, h2, h3⟩ := VRels.cons.1 h
    exact VRels.cons.2 ⟨c, r ++ cs', rfl, h2, h3.app h'⟩
theorem VRels.drop {g : G} {w : World} : ∀ {l : List AV} {cs : List Value}, VRels g w l cs → ∀ n, VRels g w (l.drop n) (cs.drop n)
  | _, _, h, 0 => h
  | [], cs, h, n + 1 => by rw [VRels.nil.1 h]; simp [VRels.nil]
  | a :: l, cs, h, n + 1 => by
    obtain ⟨c, r, rfl, h2, h3⟩ := VRels.cons.1 h
    simpa using h3.drop n
theorem VRels.take {g : G} {w : World} : ∀ {l : List AV} {cs : List Value}, VRels g w l cs → ∀ n, VRels g w (l.take n) (cs.take n)
  | _, _, h, 0 => by simp [VRels.nil]
  | [], cs, h, n + 1 => by rw [VRels.nil.1 h]; simp [VRels.nil]
  | a :: l, cs, h, n + 1 => by
    obtain ⟨c, r, rfl, h2, h3⟩ := VRels.cons.1 h
    exact VRels.cons.2 ⟨c, r.take n, rfl, h2, h3.take n⟩
theorem VRels.set {g : G} {w : World} : ∀ {l : List AV} {cs : List Value}, VRels g w l cs → ∀ (n : Nat) {a : AV} {c : Value}, VRel g w a c → VRels g w (l.set n a) (cs.set n c)
  | [], cs, h, n, a, c, _ => by rw [VRels.nil.1 h]; simp [VRels.nil]
  | x :: l, cs, h, 0, a, c, hc => by
    obtain ⟨d, r, rfl, h2, h3⟩ := VRels.cons.1 h
    exact VRels.cons.2 ⟨c, r, rfl, hc, h3⟩
  | x :: l, cs, h, n + 1, a, c, hc => by
    obtain ⟨d, r, rfl, h2, h3⟩ := VRels.cons.1 h
    exact VRels.cons.2 ⟨d, r.set n c, rfl, h2, h3.set n hc⟩

/-- A datum's cells, as abstract values. -/
theorem RepS.cells {g : G} {w : World} : ∀ {t : Ty} {x : t.Val} {cs : List Value}, RepS g.S w t x cs → VRels g w (cellsAV t x) cs
  | .int _, _, _, h => by simp only [RepS] at h; simp only [cellsAV]; exact VRels.cons.2 ⟨_, [], h, by simp only [VRel], by simp only [VRels]⟩
  | .bool, _, _, h => by simp only [RepS] at h; simp only [cellsAV]; exact VRels.cons.2 ⟨_, [], h, by simp only [VRel], by simp only [VRels]⟩
  | .str, _, _, h => by simp only [RepS] at h; simp only [cellsAV]; exact VRels.cons.2 ⟨_, [], h, by simp only [VRel], by simp only [VRels]⟩
  | .slice _ e, xs, cs, h => by
    obtain ⟨a, cap, rfl, h1, h2⟩ := h
    simp only [cellsAV]
    exact VRels.cons.2 ⟨_, [], rfl, by simp only [VRel]; exact ⟨a, cap, rfl, h1, h2⟩, by simp only [VRels]⟩
  | .unit, _, _, h => by simp only [RepS] at h; simp only [cellsAV]; exact VRels.nil.2 h
  | .pair a b, x, cs, h => by
    obtain ⟨l, r, rfl, h2, h3, h4⟩ := h
    simp only [cellsAV]
    exact (RepS.cells h3).app (RepS.cells h4)

/-- The cells of a row of data, one element behind the other. -/
def RepL (S : Nat → Prop) (w : World) (t : Ty) : List t.Val → List Value → Prop
  | [], cs => cs = []
  | x :: xs, cs => ∃ l r, cs = l ++ r ∧ RepS S w t x l ∧ RepL S w t xs r

theorem RepL.stay {S S' : Nat → Prop} {w w' : World} (hs : ∀ b, S b → S' b) (hb : Stay S w w') {t : Ty} : ∀ {xs : List t.Val} {cs : List Value}, RepL S w t xs cs → RepL S' w' t xs cs
  | [], _, h => h
  | x :: xs, cs, h => by
    obtain ⟨l, r, h1, h2, h3⟩ := h
    exact ⟨l, r, h1, h2.stay hs hb, RepL.stay hs hb h3⟩
theorem RepL.len {S : Nat → Prop} {w : World} {t : Ty} : ∀ {xs : List t.Val} {cs : List Value}, RepL S w t xs cs → cs.length = xs.length * t.cells
  | [], _, h => by simp only [RepL] at h; rw [h]; simp
  | x :: xs, cs, h => by
    obtain ⟨l, r, rfl, h2, h3⟩ := h
    rw [List.length_append, h2.len, RepL.len h3, List.length_cons, Nat.add_mul]; omega
theorem RepL.app {S : Nat → Prop} {w : World} {t : Ty} : ∀ {xs ys : List t.Val} {cs ds : List Value}, RepL S w t xs cs → RepL S w t ys ds → RepL S w t (xs ++ ys) (cs ++ ds)
  | [], ys, cs, ds, h, k => by simp only [RepL] at h; rw [h]; exact k
  | x :: xs, ys, cs, ds, h, k => by
    obtain ⟨l, r, rfl, h2, h3⟩ := h
    exact ⟨l, r ++ ds, by rw [List.append_assoc], h2, h3.app k⟩
theorem RepL.get {S : Nat → Prop} {w : World} {t : Ty} : ∀ {xs : List t.Val} {cs : List Value}, RepL S w t xs cs → ∀ (i : Nat) (h : i < xs.length), RepS S w t xs[i] ((cs.drop (i * t.cells)).take t.cells)
  | [], _, h, i, hi => by simp at hi
  | x :: xs, cs, h, i, hi => by
    obtain ⟨l, r, rfl, h2, h3⟩ := h
    have hl := h2.len
    cases i with
    | zero => simp only [Nat.zero_mul, List.drop_zero]; rw [← hl, List.take_left]; exact h2
    | succ i =>
      have e1 : (i + 1) * t.cells = l.length + i * t.cells := by rw [Nat.add_mul, hl]; omega
      rw [e1, List.drop_length_add_append]
      exact h3.get i (by simpa using hi)
theorem RepL.set {S : Nat → Prop} {w : World} {t : Ty} : ∀ {xs : List t.Val} {cs : List Value}, RepL S w t xs cs → ∀ (i : Nat) (h : i < xs.length) {y : t.Val} {ds : List Value}, RepS S w t y ds →
    RepL S w t (xs.set i y) (cs.take (i * t.cells) ++ ds ++ cs.drop ((i + 1) * t.cells))
  | [], _, h, i, hi, _, _, _ => by simp at hi
  | x :: xs, cs, h, i, hi, y, ds, hy => by
    obtain ⟨l, r, rfl, h2, h3⟩ := h
    have hl := h2.len
    cases i with
    | zero =>
      simp only [Nat.zero_mul, List.take_zero, List.nil_append, Nat.zero_add, Nat.one_mul, List.set_cons_zero]
      refine ⟨ds, r, ?_, hy, h3⟩
      rw [← hl, List.drop_left]
    | succ i =>
      have := h3.set i (by simpa using hi) hy
      refine ⟨l, _, ?_, h2, this⟩
      have e1 : (i + 1) * t.cells = l.length + i * t.cells := by rw [Nat.add_mul, hl]; omega
      have e2 : (i + 1 + 1) * t.cells = l.length + (i + 1) * t.cells := by rw [Nat.add_mul, hl]; omega
      have e3 : (l ++ r).take ((i + 1) * t.cells) = l ++ r.take (i * t.cells) := by rw [e1, List.take_length_add_append]
      have e4 : (l ++ r).drop ((i + 1 + 1) * t.cells) = r.drop ((i + 1) * t.cells) := by rw [e2, List.drop_length_add_append]
      rw [e3, e4]
      simp only [List.append_assoc]

/-- A slice owns the cells xs; its block may bear a mark, but none of its cells is frozen. -/
def ownsRowZ (w : World) (e : TypeId) (size : Nat) (v : Value) (n : Nat) (xs : List Value) : Prop :=
  xs.length = n * size ∧
  ((v = .slice none 0 0 ∧ n = 0) ∨
   ∃ g cap cur fz, v = .slice (some ⟨g, 0, none⟩) n cap ∧ (fz.2 = 0 ∨ cur.size ≤ fz.1) ∧ w.heap[g]? = some (.cells cur e fz) ∧ n ≤ cap ∧ cap ≤ maxLen ∧ cur.size = cap * size ∧ cur.toList.take (n * size) = xs)
theorem ownsRowZ_nil (w : World) (e : TypeId) (size : Nat) : ownsRowZ w e size (.slice none 0 0) 0 [] := ⟨by simp, .inl ⟨rfl, rfl⟩⟩
theorem ownsRowZ_of {w : World} {b : Nat} {e : TypeId} {size : Nat} {v : Value} {n : Nat} {xs : List Value} (h : w.ownsRow b e size v n xs) : ownsRowZ w e size v n xs := by
  refine ⟨h.1, ?_⟩
  rcases h.2 with hn | ⟨g, cap, cur, hv, _, hg, rest⟩
  · exact .inl hn
  · exact .inr ⟨g, cap, cur, (0, 0), hv, .inl rfl, hg, rest⟩

/-- A key, as a value. -/
def keyV : (t : Ty) → t.Val → Value
  | .int k, n => .int k n
  | .bool, b => .bool b
  | .str, s => .string s
  | _, _ => undef
/-- A value that stands for a datum (of cells, or of one). -/
def ValS (S : Nat → Prop) (w : World) (ag : Bool) (t : Ty) (x : t.Val) (v : Value) : Prop :=
  match ag with
  | true => ∃ cs : List Value, v = .agg cs.toArray ∧ RepS S w t x cs
  | false => RepS S w t x [v]
theorem ValS.stay {S S' : Nat → Prop} {w w' : World} (hs : ∀ b, S b → S' b) (hb : Stay S w w') {ag : Bool} {t : Ty} {x : t.Val} {v : Value} (h : ValS S w ag t x v) : ValS S' w' ag t x v := by
  cases ag with
  | true => obtain ⟨cs, h1, h2⟩ := h; exact ⟨cs, h1, h2.stay hs hb⟩
  | false => exact RepS.stay hs hb h
/-- A map's entries, in the order in which they came. -/
def RepM (S : Nat → Prop) (w : World) (ag : Bool) (kt et : Ty) : List (kt.Val × et.Val) → List MapEntry → Prop
  | [], es => es = []
  | p :: l, es => ∃ e r, es = e :: r ∧ e.key = keyV kt p.1 ∧ ValS S w ag et p.2 e.val ∧ RepM S w ag kt et l r
theorem RepM.stay {S S' : Nat → Prop} {w w' : World} (hs : ∀ b, S b → S' b) (hb : Stay S w w') {ag : Bool} {kt et : Ty} : ∀ {l : List (kt.Val × et.Val)} {es : List MapEntry}, RepM S w ag kt et l es → RepM S' w' ag kt et l es
  | [], _, h => h
  | p :: l, es, h => by
    obtain ⟨e, r, h1, h2, h3, h4⟩ := h
    exact ⟨e, r, h1, h2, h3.stay hs hb, RepM.stay hs hb h4⟩

/-- What an owned block holds. -/
def OBSat (g : G) (w : World) (c : Value) : OB → Prop
  | .cells T cs => ∃ b cvs, c = .pointer (some ⟨b, 0, none⟩) ∧ w.heap[b]? = some (.cells cvs.toArray T (0, 0)) ∧ VRels g w cs cvs
  | .row E t xs => ∃ cells, ownsRowZ w E t.cells c xs.length cells ∧ RepL g.S w t xs cells
  | .map ag kt et l => ∃ b es clock, c = .map (some b) ∧ w.heap[b]? = some (.map es clock) ∧ RepM g.S w ag kt et l es.toList

def blkOf : Value → Option Nat
  | .pointer (some a) => some a.block
  | .slice (some a) _ _ => some a.block
  | .map (some r) => some r
  | _ => none

theorem blkOf_own (v : Value) (n : Nat) (c : Option Addr) (l : Nat) : blkOf (.slice c l n) = (Value.slice c l n).ownBlock := by cases c <;> rfl

/-- Nothing has turned since w0 but what one may turn (O), and what is new. -/
structure FrW (O : Nat → Prop) (w0 w : World) : Prop where
  frame : ∀ b, b < w0.heap.size → ¬ O b → w.heap[b]? = w0.heap[b]?
  os : w.os = w0.os
  tape : w.tape = w0.tape
  output : w.output = w0.output
  size : w0.heap.size ≤ w.heap.size

/-- The world is told by the owned blocks; below it, nothing has turned since w0 but what one may turn (O). -/
structure Inv (O : Nat → Prop) (w0 : World) (g : G) (hp : Nat → Option OB) (w : World) : Prop extends FrW O w0 w where
  sat : ∀ k ob, hp k = some ob → ∃ c, g.m k = some c ∧ OBSat g w c ob
  inj : ∀ k k' c c' b, hp k ≠ none → hp k' ≠ none → g.m k = some c → g.m k' = some c' → blkOf c = some b → blkOf c' = some b → k = k'
  stab : ∀ b, g.S b → b < w.heap.size
  apart : ∀ k c b, hp k ≠ none → g.m k = some c → blkOf c = some b → ¬ g.S b
  mine : ∀ k c b, hp k ≠ none → g.m k = some c → blkOf c = some b → O b ∨ w0.heap.size ≤ b

theorem OBSat.lt {g : G} {w : World} {c : Value} {ob : OB} (h : OBSat g w c ob) {b : Nat} (hb : blkOf c = some b) : b < w.heap.size := by
  cases ob with
  | cells T cs =>
    obtain ⟨b', cvs, rfl, h1, _⟩ := h
    simp [blkOf] at hb; subst hb
    exact (Array.getElem?_eq_some_iff.1 h1).1
  | row E t xs =>
    obtain ⟨cells, ho, _⟩ := h
    rcases ho.2 with ⟨rfl, _⟩ | ⟨g', cap, cur, fz, rfl, _, hh, _⟩
    · simp [blkOf] at hb
    · simp [blkOf] at hb; subst hb
      exact (Array.getElem?_eq_some_iff.1 hh).1
  | map ag kt et l =>
    obtain ⟨b', es, clock, rfl, h1, _⟩ := h
    simp [blkOf] at hb; subst hb
    exact (Array.getElem?_eq_some_iff.1 h1).1

theorem OBSat.stay {g g' : G} {w w' : World} {c : Value} {ob : OB} (h : OBSat g w c ob) (hg : g.le g') (hs : Stay g.S w w') (hb : ∀ b, blkOf c = some b → w'.heap[b]? = w.heap[b]?) : OBSat g' w' c ob := by
  cases ob with
  | cells T cs =>
    obtain ⟨b', cvs, rfl, h1, h2⟩ := h
    exact ⟨b', cvs, rfl, (hb b' rfl).trans h1, h2.stay hg hs⟩
  | row E t xs =>
    obtain ⟨cells, ho, hr⟩ := h
    refine ⟨cells, ⟨ho.1, ?_⟩, hr.stay hg.S hs⟩
    rcases ho.2 with h3 | ⟨g', cap, cur, fz, rfl, h4, hh, h5⟩
    · exact .inl h3
    · exact .inr ⟨g', cap, cur, fz, rfl, h4, (hb g' rfl).trans hh, h5⟩
  | map ag kt et l =>
    obtain ⟨b', es, clock, rfl, h1, h2⟩ := h
    exact ⟨b', es, clock, rfl, (hb b' rfl).trans h1, h2.stay hg.S hs⟩

/-- One step of the machine: only the touched things' blocks (T), and what is new, have turned. -/
theorem Inv.step {O : Nat → Prop} {w0 w w' : World} {g g' : G} {hp hp' : Nat → Option OB} (h : Inv O w0 g hp w) (T : Nat → Prop) (hg : g.le g') (hS : ∀ b, g'.S b → g.S b)
    (hos : w'.os = w.os) (htape : w'.tape = w.tape) (hout : w'.output = w.output) (hsize : w.heap.size ≤ w'.heap.size)
    (hsame : ∀ b, b < w.heap.size → (∀ k c, T k → hp k ≠ none → g.m k = some c → blkOf c ≠ some b) → w'.heap[b]? = w.heap[b]?)
    (hother : ∀ k, ¬ T k → hp' k = hp k)
    (hT : ∀ k ob, T k → hp' k = some ob → ∃ c, g'.m k = some c ∧ OBSat g' w' c ob ∧ ∀ b, blkOf c = some b → w.heap.size ≤ b ∨ ∃ k1 c1, T k1 ∧ hp k1 ≠ none ∧ g.m k1 = some c1 ∧ blkOf c1 = some b)
    (hinj : ∀ k k' c c' b, T k → T k' → hp' k ≠ none → hp' k' ≠ none → g'.m k = some c → g'.m k' = some c' → blkOf c = some b → blkOf c' = some b → k = k') :
    Inv O w0 g' hp' w' ∧ Stay g.S w w' := by
  have hstay : Stay g.S w w' := fun b hb => hsame b (h.stab b hb) (fun k c _ hk hc he => h.apart k c b hk hc he hb)
  -- what is not touched is as it was
  have hold : ∀ k, ¬ T k → hp' k ≠ none → ∃ c ob, hp k = some ob ∧ g.m k = some c ∧ g'.m k = some c ∧ OBSat g w c ob ∧ ∀ b, blkOf c = some b → b < w.heap.size ∧ w'.heap[b]? = w.heap[b]? := by
    intro k hk hne
    rw [hother k hk] at hne
    cases hob : hp k with
    | none => exact absurd hob hne
    | some ob =>
      obtain ⟨c, hc, hsat⟩ := h.sat k ob hob
      refine ⟨c, ob, rfl, hc, hg.m k c hc, hsat, fun b hb => ⟨hsat.lt hb, hsame b (hsat.lt hb) (fun k1 c1 ht hk1 hc1 he => ?_)⟩⟩
      have := h.inj k1 k c1 c b hk1 (by rw [hob]; simp) hc1 hc he hb
      subst this; exact hk ht
  have hblk : ∀ k c b, hp' k ≠ none → g'.m k = some c → blkOf c = some b → (¬ T k ∧ g.m k = some c ∧ hp k ≠ none ∧ b < w.heap.size) ∨ (T k ∧ (w.heap.size ≤ b ∨ ∃ k1 c1, T k1 ∧ hp k1 ≠ none ∧ g.m k1 = some c1 ∧ blkOf c1 = some b)) := by
    intro k c b hne hc hb
    by_cases ht : T k
    · cases hob : hp' k with
      | none => exact absurd hob hne
      | some ob =>
        obtain ⟨c1, hc1, _, h3⟩ := hT k ob ht hob
        rw [hc] at hc1; injection hc1 with hc1; subst hc1
        exact .inr ⟨ht, h3 b hb⟩
    · obtain ⟨c1, ob, hob, hc1, hc2, hsat, _⟩ := hold k ht hne
      rw [hc] at hc2; injection hc2 with hc2; subst hc2
      exact .inl ⟨ht, hc1, by rw [hob]; simp, hsat.lt hb⟩
  refine ⟨⟨⟨?_, hos.trans h.os, htape.trans h.tape, hout.trans h.output, Nat.le_trans h.size hsize⟩, ?_, ?_, ?_, ?_, ?_⟩, hstay⟩
  rotate_left
  · intro k ob hob
    by_cases ht : T k
    · obtain ⟨c, h1, h2, _⟩ := hT k ob ht hob
      exact ⟨c, h1, h2⟩
    · obtain ⟨c, ob', h1, h2, h3, h4, h5⟩ := hold k ht (by rw [hob]; simp)
      rw [hother k ht, h1] at hob
      injection hob with hob; subst hob
      exact ⟨c, h3, h4.stay hg hstay (fun b hb => (h5 b hb).2)⟩
  · intro k k' c c' b hk hk' hc hc' hb hb'
    rcases hblk k c b hk hc hb with ⟨ht, h1, h2, h3⟩ | ⟨ht, h1⟩ <;> rcases hblk k' c' b hk' hc' hb' with ⟨ht', h1', h2', h3'⟩ | ⟨ht', h1'⟩
    · exact h.inj k k' c c' b h2 h2' h1 h1' hb hb'
    · rcases h1' with h1' | ⟨k1, c1, g1, g2, g3, g4⟩
      · omega
      · have := h.inj k k1 c c1 b h2 g2 h1 g3 hb g4
        subst this; exact absurd g1 ht
    · rcases h1 with h1 | ⟨k1, c1, g1, g2, g3, g4⟩
      · omega
      · have := h.inj k' k1 c' c1 b h2' g2 h1' g3 hb' g4
        subst this; exact absurd g1 ht'
    · exact hinj k k' c c' b ht ht' hk hk' hc hc' hb hb'
  · intro b hb
    exact Nat.lt_of_lt_of_le (h.stab b (hS b hb)) hsize
  · intro k c b hk hc hb hSb
    rcases hblk k c b hk hc hb with ⟨ht, h1, h2, h3⟩ | ⟨ht, h1 | ⟨k1, c1, g1, g2, g3, g4⟩⟩
    · exact h.apart k c b h2 h1 hb (hS b hSb)
    · have := h.stab b (hS b hSb); omega
    · exact h.apart k1 c1 b g2 g3 g4 (hS b hSb)
  · intro k c b hk hc hb
    rcases hblk k c b hk hc hb with ⟨ht, h1, h2, h3⟩ | ⟨ht, h1 | ⟨k1, c1, g1, g2, g3, g4⟩⟩
    · exact h.mine k c b h2 h1 hb
    · exact .inr (Nat.le_trans h.size h1)
    · exact h.mine k1 c1 b g2 g3 g4
  · intro b hb hO
    rw [hsame b (Nat.lt_of_lt_of_le hb h.size) (fun k c _ hk hc he => ?_)]
    · exact h.frame b hb hO
    · rcases h.mine k c b hk hc he with h1 | h1
      · exact hO h1
      · omega

end Go.Proofs.Ytmkbigaofhionaa
