/- What a call turns of the memory that was there; rows of the call's own; no program. -/
import Derived.Test.YtmkbigaofhionaaBase
import Derived.Conc.LoneCalls
import Derived.Maps.AppendAt
namespace Go.Proofs.Ytmkbigaofhionaa
open Go.RowKit Go.Conc
set_option linter.unusedVariables false
set_option linter.unusedSimpArgs false

/-- Of what was there only blocks of F have turned. -/
structure Fr (F : Nat → Prop) (w w' : World) : Prop where
  os : w'.os = w.os
  tape : w'.tape = w.tape
  output : w'.output = w.output
  size : w.heap.size ≤ w'.heap.size
  block : ∀ k, k < w.heap.size → ¬ F k → w'.heap[k]? = w.heap[k]?
theorem Fr.refl (F : Nat → Prop) (w : World) : Fr F w w := ⟨rfl, rfl, rfl, Nat.le_refl _, fun _ _ _ => rfl⟩
theorem Fr.trans {F F' : Nat → Prop} {a b c : World} (h : Fr F a b) (k : Fr F' b c) (hF : ∀ k, F' k → F k ∨ a.heap.size ≤ k) : Fr F a c :=
  ⟨k.os.trans h.os, k.tape.trans h.tape, k.output.trans h.output, Nat.le_trans h.size k.size, fun i hi hn => (k.block i (Nat.lt_of_lt_of_le hi h.size) (fun h1 => by rcases hF i h1 with h2 | h2; exact hn h2; omega)).trans (h.block i hi hn)⟩
theorem Fr.of_below {F : Nat → Prop} {a b : World} (h : Below a.heap.size a b) : Fr F a b := ⟨h.os, h.tape, h.output, h.size, fun k hk _ => h.block k hk⟩
theorem Fr.then_below {F : Nat → Prop} {a b c : World} (h : Fr F a b) (k : Below b.heap.size b c) : Fr F a c := h.trans (F' := fun _ => False) (Fr.of_below k) (fun _ h => h.elim)
theorem Fr.alloc {F : Nat → Prop} {a b : World} (h : Fr F a b) (o : Obj) : Fr F a (b.alloc o) := h.then_below (bel_alloc (bel_refl _) o)
theorem Fr.drew {F : Nat → Prop} {a b : World} (h : Fr F a b) : Fr F a b.drew := ⟨h.os, h.tape, h.output, h.size, h.block⟩
theorem Fr.drewN {F : Nat → Prop} {a b : World} (h : Fr F a b) (n : Nat) : Fr F a (b.drewN n) := ⟨h.os, h.tape, h.output, h.size, h.block⟩
theorem Fr.setCell {F : Nat → Prop} {a b : World} (h : Fr F a b) {p : Addr} (hp : F p.block ∨ a.heap.size ≤ p.block) (v : Value) : Fr F a (b.setCell p v) :=
  h.trans (F' := fun k => k = p.block) ⟨rfl, rfl, rfl, by simp [World.setCell], fun k _ hk => Below.heap_setCell _ _ _ _ hk⟩ (fun k hk => hk ▸ hp)
theorem Fr.setChan {F : Nat → Prop} {a b : World} (h : Fr F a b) {c : Nat} (hp : F c ∨ a.heap.size ≤ c) (cap : Nat) (buf : Array Value) (cl : Bool) (s r : Nat) (tm : Bool) : Fr F a (b.setChan c cap buf cl s r tm) :=
  h.trans (F' := fun k => k = c) ⟨rfl, rfl, rfl, by simp [World.setChan], fun k _ hk => by simp only [World.setChan]; rw [Array.getElem?_setIfInBounds_ne (fun h => hk h.symm)]⟩ (fun k hk => hk ▸ hp)
theorem Fr.grown {F : Nat → Prop} {a b c : World} {row : Option Nat} (h : Fr F a b) (k : b.grownBy c row) (hr : ∀ x, row = some x → F x ∨ a.heap.size ≤ x) : Fr F a c :=
  h.trans (F' := fun k => row = some k) ⟨k.os, k.tape, k.output, k.size, fun i hi hn => k.block i hi (fun e => hn e.symm)⟩ (fun k hk => hr k hk)
theorem Fr.blk {F : Nat → Prop} {a b : World} (h : Fr F a b) {k : Nat} {o : Obj} (hk : Blk a k o) (hn : ¬ F k) : Blk b k o := by
  unfold Blk; rw [h.block k hk.lt hn]; exact hk
theorem owns_slice {w : World} {base e size n : Nat} {v : Value} {xs : List Value} (h : w.ownsRow base e size v n xs) : ∃ a c, v = .slice a n c := by
  rcases h.2 with ⟨h1, h2⟩ | ⟨g, cap, cur, h1, _⟩
  · exact ⟨none, 0, by rw [h1, h2]⟩
  · exact ⟨_, _, h1⟩
theorem blk_grown {w w' : World} {b : Nat} {o : Obj} {row : Option Nat} (h : Blk w b o) (hg : w.grownBy w' row) (hn : row ≠ some b) : Blk w' b o := by
  unfold Blk; rw [hg.block b h.lt (fun e => hn e.symm)]; exact h

theorem fr_below {F : Nat → Prop} {a b : World} {base : Nat} (h : Fr F a b) (hF : ∀ k, F k → base ≤ k) (hb : base ≤ a.heap.size) : Below base a b :=
  ⟨h.os, h.tape, h.output, h.size, fun k hk => h.block k (by omega) (fun h1 => by have := hF k h1; omega)⟩
theorem flat_get {α : Type} {f : α → List Value} {k : Nat} (hf : ∀ x, (f x).length = k) : ∀ (xs : List α) (i : Nat) (hi : i < xs.length) (j : Nat), j < k → (xs.flatMap f)[i * k + j]? = (f xs[i])[j]?
  | x :: r, 0, _, j, hj => by
    rw [List.flatMap_cons, Nat.zero_mul, Nat.zero_add, List.getElem?_append_left (by rw [hf]; exact hj)]; rfl
  | x :: r, i + 1, hi, j, hj => by
    rw [List.flatMap_cons, List.getElem?_append_right (by rw [hf, Nat.add_mul]; omega), hf]
    have : (i + 1) * k + j - k = i * k + j := by rw [Nat.add_mul]; omega
    rw [this, flat_get hf r i (by simpa using hi) j hj]
    rfl

theorem own_fr {F : Nat → Prop} {a b : World} {base n size : Nat} {e : TypeId} {v : Value} {xs : List Value} (h : a.ownsRow base e size v n xs) (hf : Fr F a b) (hn : ∀ k, v.ownBlock = some k → ¬ F k) : b.ownsRow base e size v n xs := by
  obtain ⟨hl, hx⟩ := h
  refine ⟨hl, ?_⟩
  rcases hx with hx | ⟨g, cp, cur, h5, h6, h7, h8⟩
  · exact .inl hx
  · exact .inr ⟨g, cp, cur, h5, h6, hf.blk h7 (hn g (by rw [h5]; rfl)), h8⟩

theorem own_block {w : World} {base n size : Nat} {e : TypeId} {v : Value} {xs : List Value} (h : w.ownsRow base e size v n xs) {k : Nat} (hk : v.ownBlock = some k) : ∃ cur, w.heap[k]? = some (.cells cur e (0, 0)) ∧ base ≤ k := by
  rcases h.2 with ⟨h1, _⟩ | ⟨g, cp, cur, h5, h6, h7, h8⟩
  · subst h1; simp [Value.ownBlock] at hk
  · subst h5; simp [Value.ownBlock] at hk; subst hk; exact ⟨cur, h7, h6⟩


theorem flat_len {α : Type} {f : α → List Value} {k : Nat} (hf : ∀ x, (f x).length = k) (l : List α) : (l.flatMap f).length = l.length * k := by
  induction l with
  | nil => simp
  | cons x r ih => rw [List.flatMap_cons, List.length_append, ih, hf, List.length_cons, Nat.add_mul]; omega
theorem flat_take {α : Type} {f : α → List Value} {k : Nat} (hf : ∀ x, (f x).length = k) (l : List α) (i : Nat) : (l.flatMap f).take (i * k) = (l.take i).flatMap f := by
  rcases Nat.lt_or_ge i l.length with h | h
  · conv => lhs; rw [← List.take_append_drop i l, List.flatMap_append]
    have h1 : ((l.take i).flatMap f).length = i * k := by rw [flat_len hf, List.length_take, Nat.min_eq_left (by omega)]
    rw [← h1, List.take_left]
  · rw [List.take_of_length_le h, List.take_of_length_le]
    rw [flat_len hf]; exact Nat.mul_le_mul_right _ h
theorem flat_drop {α : Type} {f : α → List Value} {k : Nat} (hf : ∀ x, (f x).length = k) (l : List α) (i : Nat) : (l.flatMap f).drop (i * k) = (l.drop i).flatMap f := by
  rcases Nat.lt_or_ge i l.length with h | h
  · conv => lhs; rw [← List.take_append_drop i l, List.flatMap_append]
    have h1 : ((l.take i).flatMap f).length = i * k := by rw [flat_len hf, List.length_take, Nat.min_eq_left (by omega)]
    rw [← h1, List.drop_left]
  · rw [List.drop_eq_nil_of_le h, List.drop_eq_nil_of_le]
    · rfl
    · rw [flat_len hf]; exact Nat.mul_le_mul_right _ h

/-- append(v, x) of one element at a row of the call's own; the goal's world is W and the element's box. -/
theorem append_one {P : Program} {ops : Array Oper} {rest : List Oper} {o : Oper} {a : Act} {Q : Exit → Act → World → Prop} (base : Nat) {w0 W : World} (hgd : o.guard = none) (s x : Operand) (t e : TypeId)
    (ho : o.op = .call { callee := .builtin .append, args := #[s, x], argTypes := #[t, t] }) (i : TypeInfo) (z : Value) (K bytes : Nat) (ht : P.underlying t = some (.slice e)) (hi : P.info? e = some i) (hz : i.zero = some z)
    (hsize : i.size = K) (hby : i.bytes = bytes) (hzs : z.cells.size = K) (hK : 0 < K) (hbb : bytes ≤ 4096) (v : Value) (n : Nat) (xs : List Value) (hs : a.eval s = v) (HO : W.ownsRow base e K v n xs) (news : List Value)
    (g : Nat) (hx : a.eval x = .slice (some ⟨g, 0, none⟩) 1 1) (hgW : W.heap.size = g) (hnl : news.length = K) (h1 : ∀ u ∈ news, u.oneCell' = true) (hn : n ≤ 1000000000) (HB : Below w0.heap.size w0 W) (hbase : w0.heap.size ≤ base) (hbase2 : base ≤ W.heap.size)
    (h : ∀ a1 c1 w1, w1.ownsRow base e K (.slice a1 (n + 1) c1) (n + 1) (xs ++ news) → Below w0.heap.size w0 w1 → W.grownBy w1 v.ownBlock → ((Value.slice a1 (n + 1) c1).ownBlock = v.ownBlock ∨ ∃ b, (Value.slice a1 (n + 1) c1).ownBlock = some b ∧ W.heap.size ≤ b) →
      wpList P ops Q rest (a.put o.dst (.slice a1 (n + 1) c1)) w1) :
    wpList P ops Q (o :: rest) a (W.alloc (.cells news.toArray e)) := by
  subst hgW
  have hb1 : (n + 1) * bytes ≤ (n + 1) * 4096 := Nat.mul_le_mul_left _ hbb
  refine wpList_append_own_at (W.alloc (.cells news.toArray e)) hgd s x t ho base e i z K bytes ht hi hz hsize hby hzs hK v n xs hs (HO.alloc _) ⟨W.heap.size, 0, none⟩ 1 1 news hx (by rw [hnl, Nat.one_mul])
    (fun j u hj => by rw [Addr.add_lit, (Blk.new W (.cells news.toArray e)).cell]; simpa using hj) h1 (by unfold maxLen; omega) (by omega) (by simp; omega) ?_
  intro v1 w1 hown hg _ hat
  obtain ⟨a1, c1, rfl⟩ := owns_slice hown
  refine h a1 c1 w1 hown ((bel_alloc HB _).grown hg (by have := HB.size; simp; omega) (fun k hk => by have := (HO.lt k hk).1; omega)) (World.grownBy.trans (World.grownBy_alloc W _ _) hg) ?_
  rcases hat with hat | hat
  · exact .inl hat
  · exact .inr ⟨_, hat, by simp⟩
theorem own_types {w : World} {b b' s s' n n' : Nat} {e e' : TypeId} {v v' : Value} {xs xs' : List Value} (h : w.ownsRow b e s v n xs) (h' : w.ownsRow b' e' s' v' n' xs') (hne : e ≠ e') : v.ownBlock = none ∨ v.ownBlock ≠ v'.ownBlock := by
  cases hv : v.ownBlock with
  | none => exact .inl rfl
  | some k =>
    refine .inr fun hk => ?_
    obtain ⟨c1, h1, _⟩ := own_block h hv
    obtain ⟨c2, h2, _⟩ := own_block h' hk.symm
    rw [h1] at h2
    simp only [Option.some.injEq, Obj.cells.injEq] at h2
    exact hne h2.2.1

/-- The same as one step of a region that draws its order. -/
theorem step_append_one {P : Program} {ops : Array Oper} {o : Oper} {a : Act} {K' : Act → World → Prop} {Q : Exit → Act → World → Prop} {E : Prop} (base : Nat) {w0 W : World} (hgd : o.guard = none) (s x : Operand) (t e : TypeId)
    (ho : o.op = .call { callee := .builtin .append, args := #[s, x], argTypes := #[t, t] }) (i : TypeInfo) (z : Value) (K bytes : Nat) (ht : P.underlying t = some (.slice e)) (hi : P.info? e = some i) (hz : i.zero = some z)
    (hsize : i.size = K) (hby : i.bytes = bytes) (hzs : z.cells.size = K) (hK : 0 < K) (hbb : bytes ≤ 4096) (v : Value) (n : Nat) (xs : List Value) (hs : a.eval s = v) (HO : W.ownsRow base e K v n xs) (news : List Value)
    (g : Nat) (hx : a.eval x = .slice (some ⟨g, 0, none⟩) 1 1) (hgW : W.heap.size = g) (hnl : news.length = K) (h1 : ∀ u ∈ news, u.oneCell' = true) (hn : n ≤ 1000000000) (HB : Below w0.heap.size w0 W) (hbase : w0.heap.size ≤ base) (hbase2 : base ≤ W.heap.size)
    (h : ∀ a1 c1 w1, w1.ownsRow base e K (.slice a1 (n + 1) c1) (n + 1) (xs ++ news) → Below w0.heap.size w0 w1 → W.grownBy w1 v.ownBlock → ((Value.slice a1 (n + 1) c1).ownBlock = v.ownBlock ∨ ∃ b, (Value.slice a1 (n + 1) c1).ownBlock = some b ∧ W.heap.size ≤ b) →
      K' (a.put o.dst (.slice a1 (n + 1) c1)) w1) :
    if Region.wanted o (yielded ops a.tmps) = true then Oper.wp P o a (W.alloc (.cells news.toArray e)) K' Q else E := by
  subst hgW
  have hw : Region.wanted o (yielded ops a.tmps) = true := by simp [Region.wanted, hgd]
  rw [if_pos hw]
  have hb1 : (n + 1) * bytes ≤ (n + 1) * 4096 := Nat.mul_le_mul_left _ hbb
  obtain ⟨v1, w1, hr, hown, hg, _, hat⟩ := run_append_own_at (P := P) (W.alloc (.cells news.toArray e)) base t o.type e i z K bytes ht hi hz hsize hby hzs hK v n xs (HO.alloc _) ⟨W.heap.size, 0, none⟩ 1 1 news (by rw [hnl, Nat.one_mul])
    (fun j u hj => by rw [Addr.add_lit, (Blk.new W (.cells news.toArray e)).cell]; simpa using hj) h1 (by unfold maxLen; omega) (by omega) (by simp; omega)
  obtain ⟨a1, c1, rfl⟩ := owns_slice hown
  unfold Oper.wp execOp
  simp only [ho, resolve, invoke, builtin, Sem.run_bind, Sem.run_pure, Result.andThen_ok, List.map_toArray, List.map_cons, List.map_nil, hs, hx, hr]
  refine h a1 c1 w1 hown ((bel_alloc HB _).grown hg (by have := HB.size; simp; omega) (fun k hk => by have := (HO.lt k hk).1; omega)) (World.grownBy.trans (World.grownBy_alloc W _ _) hg) ?_
  rcases hat with hat | hat
  · exact .inl hat
  · exact .inr ⟨_, hat, by simp⟩
theorem own_weaken {w : World} {b b' s n : Nat} {e : TypeId} {v : Value} {xs : List Value} (h : w.ownsRow b e s v n xs) (hb : b' ≤ b) : w.ownsRow b' e s v n xs := by
  refine ⟨h.1, ?_⟩
  rcases h.2 with h2 | ⟨g, cap, cur, h3, h4, h5⟩
  · exact .inl h2
  · exact .inr ⟨g, cap, cur, h3, Nat.le_trans hb h4, h5⟩
end Go.Proofs.Ytmkbigaofhionaa
