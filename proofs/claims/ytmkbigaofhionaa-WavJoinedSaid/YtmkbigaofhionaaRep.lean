/- Plain data behind Go values: what an argument's reading tells of its cells, whatever its type is made of (integers, bools, strings, slices, structs); no program. -/
import Derived.Test.YtmkbigaofhionaaBase
import Derived.Test.YtmkbigaofhionaaRows
import Derived.ProofKit
import Derived.Deep.Slices
namespace Go.Proofs.Ytmkbigaofhionaa
open Go.ChangeShapes Go.WideShapes Go.ChangeAt Go.RowKit
set_option linter.unusedVariables false
set_option linter.unusedSimpArgs false

/-- The kinds of data: an integer, a bool, a string, a slice (bytes of an element, elements), a struct as pairs that end in unit. -/
inductive Ty where
  | int (k : IntKind) | bool | str
  | slice (bytes : Nat) (e : Ty)
  | unit | pair (a b : Ty)

abbrev Ty.Val : Ty → Type
  | .int _ => Int
  | .bool => Bool
  | .str => ByteArray
  | .slice _ e => List e.Val
  | .unit => Unit
  | .pair a b => a.Val × b.Val

def Ty.cells : Ty → Nat
  | .int _ | .bool | .str | .slice _ _ => 1
  | .unit => 0
  | .pair a b => a.cells + b.cells

/-- How much a value holds (no more than what the rows' 'bulk' counts). -/
def Ty.bulk : (t : Ty) → t.Val → Nat
  | .int _, _ => 1
  | .bool, _ => 1
  | .str, s => s.size + 1
  | .slice _ e, xs => (xs.map e.bulk).sum + 1
  | .unit, _ => 0
  | .pair a b, x => a.bulk x.1 + b.bulk x.2

/-- The cells at a place read so. -/
def CellsAt (w : World) (b o : Nat) (cs : List Value) : Prop := ∀ j v, cs[j]? = some v → w.cell? ⟨b, o + j, none⟩ = some v

/-- These cells hold that value, in this world. -/
def Rep (w : World) : (t : Ty) → t.Val → List Value → Prop
  | .int k, n, cs => cs = [.int k n] ∧ (Lit.int k n).wf = true
  | .bool, x, cs => cs = [.bool x]
  | .str, s, cs => cs = [.string s] ∧ s.size ≤ 140737488351232
  | .slice bytes e, xs, cs => ∃ a cap, cs = [.slice a xs.length cap] ∧ xs.length * bytes ≤ 140737488351232 ∧ xs.length ≤ cap ∧ (a = none → cap = 0) ∧
      ∀ (i : Nat) (h : i < xs.length), ∃ b o, a = some ⟨b, o, none⟩ ∧ ∃ l, l.length = e.cells ∧ CellsAt w b (o + i * e.cells) l ∧ b < w.heap.size ∧ Rep w e xs[i] l
  | .unit, _, cs => cs = []
  | .pair a b, x, cs => ∃ l r, cs = l ++ r ∧ l.length = a.cells ∧ Rep w a x.1 l ∧ Rep w b x.2 r

theorem Rep.len {w : World} : ∀ {t : Ty} {x : t.Val} {cs : List Value}, Rep w t x cs → cs.length = t.cells
  | .int _, _, _, h => by rw [h.1]; rfl
  | .bool, _, _, h => by simp only [Rep] at h; rw [h]; rfl
  | .str, _, _, h => by rw [h.1]; rfl
  | .slice _ _, _, _, h => by obtain ⟨a, cap, h, _⟩ := h; rw [h]; rfl
  | .unit, _, _, h => by simp only [Rep] at h; rw [h]; rfl
  | .pair a b, _, _, h => by
    obtain ⟨l, r, rfl, hl, _, hr⟩ := h
    rw [List.length_append, hl, Rep.len hr]; rfl

theorem CellsAt.below {w w' : World} {B b o : Nat} {cs : List Value} (h : CellsAt w b o cs) (hb : Below B w w') (hB : b < B) : CellsAt w' b o cs :=
  fun j v hj => (hb.cell (p := ⟨b, o + j, none⟩) hB).trans (h j v hj)

theorem Rep.below {w w' : World} (hb : Below w.heap.size w w') : ∀ {t : Ty} {x : t.Val} {cs : List Value}, Rep w t x cs → Rep w' t x cs
  | .int _, _, _, h => h
  | .bool, _, _, h => h
  | .str, _, _, h => h
  | .slice bytes e, xs, cs, h => by
    obtain ⟨a, cap, h1, h2, h3, h4, h5⟩ := h
    refine ⟨a, cap, h1, h2, h3, h4, fun i hi => ?_⟩
    obtain ⟨b, o, h6, l, h7, h8, h9, h10⟩ := h5 i hi
    exact ⟨b, o, h6, l, h7, h8.below hb h9, Nat.lt_of_lt_of_le h9 hb.size, Rep.below hb h10⟩
  | .unit, _, _, h => h
  | .pair a b, x, cs, h => by
    obtain ⟨l, r, h1, h2, h3, h4⟩ := h
    exact ⟨l, r, h1, h2, Rep.below hb h3, Rep.below hb h4⟩

mutual
/-- The program's type is of this kind. -/
def Ty.fits (P : Program) (T : TypeId) : Ty → Bool
  | .int k => match P.underlying T with | some (.int k') => k' == k | _ => false
  | .bool => match P.underlying T with | some .bool => true | _ => false
  | .str => match P.underlying T with | some .string => true | _ => false
  | .slice bytes e => match P.underlying T with
    | some (.slice E) => e.fits P E && P.cellsOf E == e.cells && P.bytesOf E == bytes && decide (0 < e.cells)
    | _ => false
  | .unit => match P.underlying T with | some (.struct fs) => fs.toList.isEmpty && P.cellsOf T == 0 | _ => false
  | .pair a b => match P.underlying T with
    | some (.struct fs) => P.cellsOf T == a.cells + b.cells && (match fs.toList with
      | f :: r => f.offset == 0 && P.cellsOf f.type == a.cells && a.fits P f.type && b.fitsAll P a.cells r
      | [] => false)
    | _ => false
/-- The rest of a struct's fields, from an offset on. -/
def Ty.fitsAll (P : Program) (off : Nat) : Ty → List Field → Bool
  | .unit, [] => true
  | .pair a b, f :: r => f.offset == off && P.cellsOf f.type == a.cells && a.fits P f.type && b.fitsAll P (off + a.cells) r
  | _, _ => false
end

theorem mapM_cons_some {α β : Type} {f : α → Option β} {x : α} {l : List α} {ys : List β} (h : (x :: l).mapM f = some ys) :
    ∃ y r, f x = some y ∧ l.mapM f = some r ∧ ys = y :: r := by
  simp only [List.mapM_cons] at h
  cases h1 : f x with
  | none => rw [h1] at h; simp at h
  | some y =>
    rw [h1] at h
    cases h2 : l.mapM f with
    | none => rw [h2] at h; simp at h
    | some r => rw [h2] at h; simp at h; exact ⟨y, r, rfl, rfl, h.symm⟩

section
variable {H : Type} {enc : TypeId × Value → H} {P : Program} {w : World}

theorem weightsAll_mem {e : TypeId} : ∀ (l : List (DataW H)) (d : DataW H), d ∈ l → ∀ n ∈ d.weights P e, n ∈ DataW.weightsAll P e l
  | d :: r, d', h, n, hn => by
    simp only [DataW.weightsAll, List.mem_append]
    rcases List.mem_cons.1 h with rfl | h
    · exact .inl hn
    · exact .inr (weightsAll_mem r d' h n hn)

theorem bulkAll_ge {β : Type} (f : β → Nat) : ∀ (xs : List β) (l : List (DataW H)), xs.length = l.length → (∀ i (h : i < xs.length) (h' : i < l.length), f xs[i] ≤ Rows.uptoBulk l[i]) → (xs.map f).sum ≤ Rows.uptoBulkAll l
  | [], [], _, _ => by simp [Rows.uptoBulkAll]
  | x :: xs, d :: l, hl, h => by
    simp only [List.map_cons, List.sum_cons, Rows.uptoBulkAll]
    have h0 := h 0 (by simp) (by simp)
    have h1 := bulkAll_ge f xs l (by simpa using hl) (fun i h2 h3 => by have := h (i + 1) (by simpa using h2) (by simpa using h3); simpa using this)
    simp only [List.getElem_cons_zero] at h0
    omega
  | [], _ :: _, hl, _ => by simp at hl
  | _ :: _, [], hl, _ => by simp at hl

theorem choose_list {β : Type} (n : Nat) (Q : Nat → β → Prop) (h : ∀ i, i < n → ∃ x, Q i x) : ∃ xs : List β, xs.length = n ∧ ∀ i (hi : i < xs.length), Q i xs[i] := by
  induction n with
  | zero => exact ⟨[], rfl, fun i hi => by simp at hi⟩
  | succ n ih =>
    obtain ⟨xs, hl, hx⟩ := ih (fun i hi => h i (by omega))
    obtain ⟨x, hq⟩ := h n (by omega)
    refine ⟨xs ++ [x], by simp [hl], fun i hi => ?_⟩
    by_cases h1 : i < xs.length
    · rw [List.getElem_append_left h1]; exact hx i h1
    · have : i = xs.length := by simp at hi; omega
      subst this
      simp
      rw [hl]; exact hq

theorem open_both (t : Ty) :
    (∀ (T : TypeId) (fuel : Nat) (cs : List Value) (d : DataW H) (ps : List MemPlace), t.fits P T = true → DataW.trod enc P w 0 (fun _ => true) true fuel T cs = some (d, ps) →
      (∀ n ∈ d.weights P T, n ≤ reachBytes) → ∃ x : t.Val, Rep w t x cs ∧ t.bulk x ≤ Rows.uptoBulk d) ∧
    (∀ (fs : List Field) (off fuel : Nat) (cs : List Value) (xs : List (DataW H × List MemPlace)), t.fitsAll P off fs = true → cs.length = off + t.cells →
      fs.mapM (fun f => DataW.trod enc P w 0 (fun _ => true) true fuel f.type ((cs.drop f.offset).take (P.cellsOf f.type))) = some xs →
      (∀ n ∈ DataW.weightsEach P (fs.map (·.type)) (xs.map (·.1)), n ≤ reachBytes) → ∃ x : t.Val, Rep w t x (cs.drop off) ∧ t.bulk x ≤ Rows.uptoBulkAll (xs.map (·.1))) := by
  induction t with
  | int k =>
    refine ⟨fun T fuel cs d ps hf h hw => ?_, fun fs off fuel cs xs hf => by simp [Ty.fitsAll] at hf⟩
    simp only [Ty.fits] at hf
    cases hu : P.underlying T with
    | none => rw [hu] at hf; simp at hf
    | some u =>
      rw [hu] at hf
      cases u <;> simp at hf
      subst hf
      obtain ⟨x, e0, e1, wa⟩ := DataW.trod_int hu h
      simp only [Prod.mk.injEq] at e1
      refine ⟨x, ⟨e0, wa⟩, ?_⟩
      rw [e1.1]; simp [Ty.bulk, Rows.uptoBulk]
  | bool =>
    refine ⟨fun T fuel cs d ps hf h hw => ?_, fun fs off fuel cs xs hf => by simp [Ty.fitsAll] at hf⟩
    simp only [Ty.fits] at hf
    cases hu : P.underlying T with
    | none => rw [hu] at hf; simp at hf
    | some u =>
      rw [hu] at hf
      cases u <;> simp at hf
      obtain ⟨x, e0, e1⟩ := DataW.trod_bool hu h
      simp only [Prod.mk.injEq] at e1
      refine ⟨x, e0, ?_⟩
      rw [e1.1]; simp [Ty.bulk, Rows.uptoBulk]
  | str =>
    refine ⟨fun T fuel cs d ps hf h hw => ?_, fun fs off fuel cs xs hf => by simp [Ty.fitsAll] at hf⟩
    simp only [Ty.fits] at hf
    cases hu : P.underlying T with
    | none => rw [hu] at hf; simp at hf
    | some u =>
      rw [hu] at hf
      cases u <;> simp at hf
      obtain ⟨x, e0, e1, _⟩ := DataW.trod_string hu h
      simp only [Prod.mk.injEq] at e1
      have hb : x.size ≤ 140737488351232 := by
        have := hw x.data.toList.length (by rw [e1.1]; simp [DataW.weights])
        simpa [reachBytes] using this
      refine ⟨x, ⟨e0, hb⟩, ?_⟩
      rw [e1.1]; simp [Ty.bulk, Rows.uptoBulk]
  | slice bytes e ih =>
    refine ⟨fun T fuel cs d ps hf h hw => ?_, fun fs off fuel cs xs hf => by simp [Ty.fitsAll] at hf⟩
    simp only [Ty.fits] at hf
    cases hu : P.underlying T with
    | none => rw [hu] at hf; simp at hf
    | some u =>
      rw [hu] at hf
      cases u <;> simp at hf
      rename_i E
      obtain ⟨⟨⟨hf1, hf2⟩, hf3⟩, hf4⟩ := hf
      rcases Go.Deep.open_slice hu h with ⟨hcs, hx⟩ | ⟨a, len, cap, m, n, D, Pl, hcs, hb, hl, hm, hmm, hx, hi⟩
      · simp only [Prod.mk.injEq] at hx
        refine ⟨[], ⟨none, 0, by rw [hcs]; rfl, by simp, by simp, fun _ => rfl, fun i hi => by simp at hi⟩, ?_⟩
        rw [hx.1]; simp [Ty.bulk, Rows.uptoBulk]
      · simp only [if_true] at hmm
        subst hmm
        simp only [Prod.mk.injEq] at hx
        obtain ⟨hd, hp⟩ := hx
        have hcap : m * bytes ≤ 140737488351232 := by
          have := hw ((len + (m - len)) * P.bytesOf E) (by rw [hd]; simp [DataW.weights, hu])
          rw [hf3, show len + (m - len) = m by omega] at this
          simpa [reachBytes] using this
        have hel : ∀ i, i < len → ∃ x : e.Val, (∃ b o, a = ⟨b, o, none⟩ ∧ ∃ l, l.length = e.cells ∧ CellsAt w b (o + i * e.cells) l ∧ b < w.heap.size ∧ Rep w e x l) ∧ e.bulk x ≤ Rows.uptoBulk (D i) := by
          intro i hil
          obtain ⟨cs', hc, ht'⟩ := hi i (by omega)
          obtain ⟨x, hrep, hbk⟩ := ih.1 E n cs' (D i) (Pl i) hf1 ht' (fun k hk => hw k (by
            rw [hd]
            simp only [DataW.weights, hu, List.mem_cons, List.mem_append]
            exact .inr (.inl (weightsAll_mem _ (D i) (by simp; exact ⟨i, hil, rfl⟩) k hk))))
          obtain ⟨_, hcl, hat⟩ := World.cells?_some hc
          rw [hf2] at hcl hat
          obtain ⟨b, o, spot⟩ := a
          have hz : ∃ v, w.cell? (⟨b, o, spot⟩ : Addr) = some v := by
            obtain ⟨cs0, hc0, _⟩ := hi 0 (by omega)
            obtain ⟨_, hcl0, hat0⟩ := World.cells?_some hc0
            have := hat0 0 (by rw [hf2]; exact hf4)
            rw [Addr.add, if_pos rfl, Nat.zero_mul, Addr.add, if_pos rfl] at this
            rw [hf2] at hcl0
            exact ⟨cs0[0]'(by omega), by rw [this]; exact List.getElem?_eq_getElem (by omega)⟩
          obtain ⟨vz, hvz⟩ := hz
          have hspot : spot = none := by simpa using World.cell?_spot hvz
          subst hspot
          have hadd : ∀ (o k : Nat), (⟨b, o, none⟩ : Addr).add k = ⟨b, o + k, none⟩ := by intro o k; unfold Addr.add; split <;> simp_all
          refine ⟨x, ⟨b, o, rfl, cs', hcl, fun j v hj => ?_, ?_, hrep⟩, hbk⟩
          · have hjl : j < cs'.length := (List.getElem?_eq_some_iff.1 hj).1
            have := hat j (by omega)
            rw [hadd, hadd] at this
            rw [← hj, ← this]
          · rcases Nat.lt_or_ge b w.heap.size with h' | h'
            · exact h'
            · simp [World.cell?, Array.getElem?_eq_none h'] at hvz
        obtain ⟨xs, hxl, hxs⟩ := choose_list len _ hel
        refine ⟨xs, ⟨some a, m, by rw [hcs, hxl], (by rw [hxl]; exact Nat.le_trans (Nat.mul_le_mul_right _ (by omega)) hcap), by omega, by simp, fun i hil => ?_⟩, ?_⟩
        · obtain ⟨⟨b, o, ha, l, h1, h2, h3, h4⟩, _⟩ := hxs i hil
          exact ⟨b, o, by rw [ha], l, h1, h2, h3, h4⟩
        · rw [hd]
          simp only [Ty.bulk, Rows.uptoBulk]
          have := bulkAll_ge (H := H) e.bulk xs ((List.range len).map D) (by simp [hxl]) (fun i h1 h2 => by simpa using (hxs i h1).2)
          omega
  | unit =>
    refine ⟨fun T fuel cs d ps hf h hw => ?_, fun fs off fuel cs xs hf hl h hw => ?_⟩
    · simp only [Ty.fits] at hf
      cases hu : P.underlying T with
      | none => rw [hu] at hf; simp at hf
      | some u =>
        rw [hu] at hf
        cases u <;> simp at hf
        rename_i fs
        obtain ⟨_, _, _, hx, hlen, _⟩ := DataW.trod_struct hu h
        refine ⟨(), ?_, by simp [Ty.bulk]⟩
        simp only [Rep]
        rw [hf.2] at hlen
        exact List.length_eq_zero_iff.1 hlen
    · cases fs with
      | nil =>
        refine ⟨(), ?_, by simp [Ty.bulk]⟩
        simp only [Rep]
        exact List.drop_eq_nil_of_le (by rw [hl]; simp [Ty.cells])
      | cons f r => simp [Ty.fitsAll] at hf
  | pair a b iha ihb =>
    have hrest : ∀ (f : Field) (r : List Field) (off fuel : Nat) (cs : List Value) (xs : List (DataW H × List MemPlace)), f.offset = off → P.cellsOf f.type = a.cells → a.fits P f.type = true →
        b.fitsAll P (off + a.cells) r = true → cs.length = off + (a.cells + b.cells) →
        (f :: r).mapM (fun f => DataW.trod enc P w 0 (fun _ => true) true fuel f.type ((cs.drop f.offset).take (P.cellsOf f.type))) = some xs →
        (∀ n ∈ DataW.weightsEach P ((f :: r).map (·.type)) (xs.map (·.1)), n ≤ reachBytes) → ∃ x : (Ty.pair a b).Val, Rep w (.pair a b) x (cs.drop off) ∧ (Ty.pair a b).bulk x ≤ Rows.uptoBulkAll (xs.map (·.1)) := by
      intro f r off fuel cs xs h1 h2 h3 h4 hl h hw
      obtain ⟨y, ys, hy, hys, rfl⟩ := mapM_cons_some h
      rw [h1, h2] at hy
      obtain ⟨x1, hr1, hb1⟩ := iha.1 f.type fuel _ y.1 y.2 h3 hy (fun n hn => hw n (by simp only [List.map_cons, DataW.weightsEach, List.mem_append]; exact .inl hn))
      obtain ⟨x2, hr2, hb2⟩ := ihb.2 r (off + a.cells) fuel cs ys h4 (by omega) hys (fun n hn => hw n (by simp only [List.map_cons, DataW.weightsEach, List.mem_append]; exact .inr hn))
      refine ⟨(x1, x2), ⟨(cs.drop off).take a.cells, cs.drop (off + a.cells), ?_, by simp; omega, hr1, hr2⟩, ?_⟩
      · rw [← List.drop_drop, List.take_append_drop]
      · simp only [Ty.bulk, List.map_cons, Rows.uptoBulkAll]; omega
    refine ⟨fun T fuel cs d ps hf h hw => ?_, fun fs off fuel cs xs hf hl h hw => ?_⟩
    · simp only [Ty.fits] at hf
      cases hu : P.underlying T with
      | none => rw [hu] at hf; simp at hf
      | some u =>
        rw [hu] at hf
        cases u <;> simp at hf
        rename_i fs
        obtain ⟨hc, hf⟩ := hf
        obtain ⟨fs⟩ := fs
        cases fs with
        | nil => simp at hf
        | cons f r =>
          simp at hf
          obtain ⟨⟨⟨g1, g2⟩, g3⟩, g4⟩ := hf
          cases fuel with
          | zero => simp [DataW.trod] at h
          | succ fuel =>
            unfold DataW.trod at h
            simp only [hu] at h
            split at h
            · rename_i hlen
              simp only [Option.map_eq_some_iff] at h
              obtain ⟨xs, hxs, hd⟩ := h
              simp only [Prod.mk.injEq] at hd
              obtain ⟨x, hr, hb⟩ := hrest f r 0 fuel cs xs g1 g2 g3 (by simpa using g4) (by rw [hlen, hc]; simp) hxs (fun n hn => hw n (by rw [← hd.1]; simpa [DataW.weights, hu] using hn))
              refine ⟨x, by simpa using hr, ?_⟩
              rw [← hd.1]
              simp only [Rows.uptoBulk]; omega
            · cases h
    · cases fs with
      | nil => simp [Ty.fitsAll] at hf
      | cons f r =>
        simp [Ty.fitsAll] at hf
        obtain ⟨⟨⟨g1, g2⟩, g3⟩, g4⟩ := hf
        exact hrest f r off fuel cs xs g1 g2 g3 g4 hl h hw

/-- An argument's reading, opened. -/
theorem open_rep {t : Ty} {T : TypeId} {v : Value} {d : DataW H} {ps : List MemPlace} (hf : t.fits P T = true) (h : DataW.Trod enc P w 0 (fun _ => true) true T v d ps)
    (hw : ∀ n ∈ d.weights P T, n ≤ reachBytes) : ∃ x : t.Val, Rep w t x v.cells.toList ∧ t.bulk x ≤ Rows.uptoBulk d := by
  obtain ⟨fuel, h⟩ := h
  exact (open_both t).1 T fuel _ d ps hf h hw
end

section
variable {H : Type} {enc : TypeId × Value → H} {P : Program} {w : World} {r : Reach} {b0 : Nat}
theorem arg_int {k : IntKind} {T : TypeId} {v : Value} {d : DataW H} {ps : List MemPlace} (hu : P.underlying T = some (.int k)) (hv : Value.okWide P w r b0 T v) (h : DataW.Trod enc P w 0 (fun _ => true) true T v d ps) :
    ∃ n, v = .int k n ∧ k.min ≤ n ∧ n ≤ k.max := by
  obtain ⟨x, rfl, _, _, wx⟩ := open_int hu hv h
  simp only [Lit.wf, Bool.and_eq_true, decide_eq_true_eq] at wx
  exact ⟨x, rfl, wx⟩
theorem arg_bool {T : TypeId} {v : Value} {d : DataW H} {ps : List MemPlace} (hu : P.underlying T = some .bool) (hv : Value.okWide P w r b0 T v) (h : DataW.Trod enc P w 0 (fun _ => true) true T v d ps) :
    ∃ x, v = .bool x := by
  obtain ⟨x, rfl, _, _⟩ := open_bool hu hv h
  exact ⟨x, rfl⟩
theorem arg_str {T : TypeId} {v : Value} {d : DataW H} {ps : List MemPlace} (hu : P.underlying T = some .string) (hv : Value.okWide P w r b0 T v) (h : DataW.Trod enc P w 0 (fun _ => true) true T v d ps)
    (hw : ∀ n ∈ d.weights P T, n ≤ reachBytes) : ∃ s, v = .string s ∧ s.size ≤ 140737488351232 ∧ s.size + 1 ≤ Rows.uptoBulk d := by
  obtain ⟨x, hr, hb⟩ := open_rep (t := .str) (by simp [Ty.fits, hu]) h hw
  obtain ⟨s, rfl, _, _, _⟩ := Go.ChangeMaps.open_string hu hv h
  have : x = s := by have := hr.1; simp [Value.cells] at this; exact this.symm
  subst this
  exact ⟨x, rfl, hr.2, by simpa [Ty.bulk] using hb⟩
theorem arg_slice {bytes : Nat} {e : Ty} {T E : TypeId} {v : Value} {d : DataW H} {ps : List MemPlace} (hf : (Ty.slice bytes e).fits P T = true) (hu : P.underlying T = some (.slice E)) (hv : Value.okWide P w r b0 T v) (h : DataW.Trod enc P w 0 (fun _ => true) true T v d ps)
    (hw : ∀ n ∈ d.weights P T, n ≤ reachBytes) : ∃ (xs : List e.Val) (a : Option Addr) (cap : Nat), v = .slice a xs.length cap ∧ Rep w (.slice bytes e) xs [.slice a xs.length cap] ∧ (Ty.slice bytes e).bulk xs ≤ Rows.uptoBulk d := by
  obtain ⟨xs, hr, hb⟩ := open_rep hf h hw
  obtain ⟨a0, len, cap, rfl⟩ := okWide_slice hu hv
  obtain ⟨a, cap', h1, h2⟩ := hr
  simp [Value.cells] at h1
  obtain ⟨rfl, rfl, rfl⟩ := h1
  exact ⟨xs, a0, cap, rfl, ⟨a0, cap, rfl, h2⟩, hb⟩
theorem arg_struct {t : Ty} {T : TypeId} {fs : Array Field} {v : Value} {d : DataW H} {ps : List MemPlace} (hf : t.fits P T = true) (hu : P.underlying T = some (.struct fs)) (hv : Value.okWide P w r b0 T v) (h : DataW.Trod enc P w 0 (fun _ => true) true T v d ps)
    (hw : ∀ n ∈ d.weights P T, n ≤ reachBytes) : ∃ (x : t.Val) (cs : List Value), v = .agg cs.toArray ∧ Rep w t x cs ∧ t.bulk x ≤ Rows.uptoBulk d := by
  obtain ⟨x, hr, hb⟩ := open_rep hf h hw
  obtain ⟨cs, rfl, _⟩ := okWide_struct hu hv
  exact ⟨x, cs.toList, by simp, by simpa [Value.cells] using hr, hb⟩
end

theorem weights_le {H : Type} {P : Program} {ts : List TypeId} {ds : List (DataW H)} (h : (DataW.weightsEach P ts ds).all (· ≤ reachBytes) = true) : ∀ n ∈ DataW.weightsEach P ts ds, n ≤ reachBytes :=
  fun n hn => by simpa using List.all_eq_true.1 h n hn
theorem weights_head {H : Type} {P : Program} {t : TypeId} {ts : List TypeId} {d : DataW H} {ds : List (DataW H)} (h : ∀ n ∈ DataW.weightsEach P (t :: ts) (d :: ds), n ≤ reachBytes) : ∀ n ∈ d.weights P t, n ≤ reachBytes :=
  fun n hn => h n (by simp only [DataW.weightsEach, List.mem_append]; exact .inl hn)
theorem weights_tail {H : Type} {P : Program} {t : TypeId} {ts : List TypeId} {d : DataW H} {ds : List (DataW H)} (h : ∀ n ∈ DataW.weightsEach P (t :: ts) (d :: ds), n ≤ reachBytes) : ∀ n ∈ DataW.weightsEach P ts ds, n ≤ reachBytes :=
  fun n hn => h n (by simp only [DataW.weightsEach, List.mem_append]; exact .inr hn)

theorem u64_min : IntKind.u64.min = 0 := rfl
theorem u64_max : IntKind.u64.max = 18446744073709551615 := rfl
theorem i64_min : IntKind.i64.min = -9223372036854775808 := rfl
theorem i64_max : IntKind.i64.max = 9223372036854775807 := rfl

/-- A struct's first field of one cell, off its reading. -/
theorem rep_int {w : World} {k : IntKind} {b : Ty} {x : (Ty.pair (.int k) b).Val} {cs : List Value} (h : Rep w (.pair (.int k) b) x cs) : ∃ r, cs = .int k x.1 :: r ∧ k.min ≤ x.1 ∧ x.1 ≤ k.max ∧ Rep w b x.2 r := by
  obtain ⟨l, r, rfl, _, h1, h2⟩ := h
  obtain ⟨rfl, wx⟩ := h1
  simp only [Lit.wf, Bool.and_eq_true, decide_eq_true_eq] at wx
  exact ⟨r, rfl, wx.1, wx.2, h2⟩
theorem rep_bool {w : World} {b : Ty} {x : (Ty.pair .bool b).Val} {cs : List Value} (h : Rep w (.pair .bool b) x cs) : ∃ r, cs = .bool x.1 :: r ∧ Rep w b x.2 r := by
  obtain ⟨l, r, rfl, _, h1, h2⟩ := h
  simp only [Rep] at h1
  subst h1
  exact ⟨r, rfl, h2⟩
theorem rep_str {w : World} {b : Ty} {x : (Ty.pair .str b).Val} {cs : List Value} (h : Rep w (.pair .str b) x cs) : ∃ r, cs = .string x.1 :: r ∧ x.1.size ≤ 140737488351232 ∧ Rep w b x.2 r := by
  obtain ⟨l, r, rfl, _, h1, h2⟩ := h
  obtain ⟨rfl, hs⟩ := h1
  exact ⟨r, rfl, hs, h2⟩
theorem rep_slice {w : World} {n : Nat} {e b : Ty} {x : (Ty.pair (.slice n e) b).Val} {cs : List Value} (h : Rep w (.pair (.slice n e) b) x cs) : ∃ r a cap, cs = .slice a x.1.length cap :: r ∧ Rep w (.slice n e) x.1 [.slice a x.1.length cap] ∧ Rep w b x.2 r := by
  obtain ⟨l, r, rfl, _, h1, h2⟩ := h
  obtain ⟨a, cap, rfl, h3⟩ := h1
  exact ⟨r, a, cap, rfl, ⟨a, cap, rfl, h3⟩, h2⟩
theorem rep_unit {w : World} {x : Ty.unit.Val} {cs : List Value} (h : Rep w .unit x cs) : cs = [] := h

end Go.Proofs.Ytmkbigaofhionaa
