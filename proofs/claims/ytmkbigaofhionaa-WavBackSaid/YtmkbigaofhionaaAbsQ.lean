/- The abstract machine's literals and appends are what the model does; no program. -/
import Derived.Test.YtmkbigaofhionaaAbsP
import Derived.Great.BuildSlice
namespace Go.Proofs.Ytmkbigaofhionaa
open Go.RowKit
set_option linter.unusedVariables false
set_option linter.unusedSimpArgs false

section
variable {P : Program} {O : Nat → Prop} {w0 w : World} {g : G} {hp : Heap} {nx : Nat} {Z : TypeId → AV → Prop}

theorem look_append {α : Type} (k : Nat) : ∀ (q p : List (Nat × α)), look k (q ++ p) = (look k q).or (look k p)
  | [], p => by simp [look]
  | (i, a) :: q, p => by
    simp only [List.cons_append, look]
    split
    · simp
    · exact look_append k q p
theorem patch_append (q p : Pat) (hp : Heap) : patch (q ++ p) hp = patch q (patch p hp) := by
  funext k
  simp only [patch, look_append]
  cases look k q <;> simp

theorem places_ok {pl : List (Nat × Nat)} {ev : Operand → Option AV} : ∀ {parts : List (Nat × Operand)} {l : List (Nat × Nat × List AV)}, places pl ev parts = some l →
    parts.length = l.length ∧ ∀ q ∈ parts.zip l, ∃ o n a, pl[q.1.1]? = some (o, n) ∧ ev q.1.2 = some a ∧ q.2 = (o, n, avCells a)
  | [], l, h => by
    simp only [places, Option.some.injEq] at h
    subst h
    exact ⟨rfl, fun q hq => by simp at hq⟩
  | (i, x) :: r, l, h => by
    simp only [places] at h
    split at h
    · rename_i q a l' h1 h2 h3
      injection h with h; subst h
      obtain ⟨g1, g2⟩ := places_ok h3
      refine ⟨by simp [g1], fun q' hq => ?_⟩
      simp only [List.zip_cons_cons, List.mem_cons] at hq
      rcases hq with rfl | hq
      · exact ⟨q.1, q.2, a, by simpa using h1, h2, rfl⟩
      · exact g2 q' hq
    · cases h

theorem placesN_ok {n : Nat} {ev : Operand → Option AV} : ∀ {parts : List (Nat × Operand)} {l : List (Nat × Nat × List AV)}, placesN n ev parts = some l →
    parts.length = l.length ∧ ∀ q ∈ parts.zip l, ∃ o m a, some (q.1.1 * n, n) = some (o, m) ∧ ev q.1.2 = some a ∧ q.2 = (o, m, avCells a)
  | [], l, h => by
    simp only [placesN, Option.some.injEq] at h
    subst h
    exact ⟨rfl, fun q hq => by simp at hq⟩
  | (i, x) :: r, l, h => by
    simp only [placesN] at h
    split at h
    · rename_i a l' h2 h3
      injection h with h; subst h
      obtain ⟨g1, g2⟩ := placesN_ok h3
      refine ⟨by simp [g1], fun q' hq => ?_⟩
      simp only [List.zip_cons_cons, List.mem_cons] at hq
      rcases hq with rfl | hq
      · exact ⟨_, _, a, rfl, h2, rfl⟩
      · exact g2 q' hq
    · cases h

theorem build_ok {K : AV → Prop} {T : TypeId} {i : TInf} {fs : Array Field} {tt : TypeId → Option TInf} (htt : TTok P tt) (hT : tt T = some i) (hi : i.u = .struct fs) {ev : Operand → Option AV} {ρ : Operand → Value} (hev : ∀ x a, ev x = some a → VRel g w a (ρ x))
    {parts : Array (Nat × Operand)} {pl : List (Nat × Nat)} {l : List (Nat × Nat × List AV)} {cs : List AV} (hpl : plsOf tt fs.toList = some pl) (hl : places pl ev parts.toList = some l) (hf : fillA (zeroCells i) l = some cs) (h : K (.agg cs)) :
    Same P g w (Instr.build T (parts.map fun (i, x) => (i, ρ x))) K := by
  obtain ⟨hu, ⟨j, hj, hs, _, hz⟩, _⟩ := htt T i hT
  rw [hi] at hu
  obtain ⟨h1, h2⟩ := places_ok hl
  obtain ⟨rv, h3, h4⟩ := fill_ok hev (fun k => pl[k]?) parts.toList l (zeroCells i) cs i.zero.cells h2 h1 hf zero_rel
  refine ⟨.agg rv, _, run_build w T _ rv ?_, ?_, h⟩
  · unfold Program.built
    simp only [hj, hu, hz, plsOf_ok htt hpl]
    rw [← h3]
    simp
  · simp only [VRel]
    exact ⟨_, h4, by simp⟩

theorem repC_range (z : List Value) (d : Value) : ∀ n, (List.range (n * z.length)).map (fun i => (z[i % z.length]?).getD d) = (List.replicate n z).flatten
  | 0 => by simp
  | n + 1 => by
    rw [Nat.add_mul, Nat.one_mul, Nat.add_comm, List.range_add, List.map_append, List.map_map, List.replicate_succ, List.flatten_cons, ← repC_range z d n]
    congr 1
    · apply List.ext_getElem?
      intro i
      by_cases hi : i < z.length
      · simp [hi, Nat.mod_eq_of_lt hi]
      · simp [hi, List.getElem?_eq_none (Nat.le_of_not_lt hi)]
    · apply List.map_congr_left
      intro i _
      simp

theorem repC_rel {l : List AV} {cs : List Value} (h : VRels g w l cs) : ∀ n, VRels g w (repC l n) (List.replicate n cs).flatten
  | 0 => by simp only [repC]; exact VRels.nil.2 (by simp)
  | n + 1 => by
    simp only [repC, List.replicate_succ, List.flatten_cons]
    exact h.app (repC_rel h n)

theorem buildSlice_ok (hI : Inv O w0 g hp w) (hf : ∀ k, nx ≤ k → k < nx + 64 → g.m k = none ∧ g.β k = none) {K : Out → Prop} {T E : TypeId} {i e : TInf} {t : Ty} {tt : TypeId → Option TInf} (htt : TTok P tt) (hT : tt T = some i) (hi : i.u = .slice E) (hE : tt E = some e) (hc : e.code = some t)
    {ev : Operand → Option AV} {ρ : Operand → Value} (hev : ∀ x a, ev x = some a → VRel g w a (ρ x)) {n : Nat}
    {parts : Array (Nat × Operand)} {l : List (Nat × Nat × List AV)} {cs cs' : List AV} {p : Pat} {xs : List t.Val} (hl : placesN e.size ev parts.toList = some l) (hfl : fillA (repC (zeroCells e) n) l = some cs) (hst : stills hp cs = some (cs', p)) (hd : decs t n cs' = some xs)
    (hn : n * e.size ≤ 16777216) (hn0 : 0 < n) (h : K (.own nx, (nx, some (.row E t xs)) :: p)) :
    ∃ c w', (Instr.buildSlice T n (parts.map fun (i, x) => (i, ρ x))).run P w = .ok c w' ∧ Good O w0 g hp nx w K c w' := by
  obtain ⟨hu, _⟩ := htt T i hT
  rw [hi] at hu
  obtain ⟨_, ⟨j, hj, hs, _, hz⟩, hzs, hz1, hcode, _⟩ := htt E e hE
  obtain ⟨hcs, hpos, _⟩ := hcode t hc
  have hzl : e.zero.cells.toList.length = e.size := by simpa using hzs
  obtain ⟨h1, h2⟩ := placesN_ok hl
  have hzero : ((Array.range (n * e.size)).map (e.zero.cells[· % e.zero.cells.size]!)).toList = (List.replicate n e.zero.cells.toList).flatten := by
    rw [← repC_range e.zero.cells.toList default n, hzl]
    simp only [Array.toList_map, Array.toList_range]
    apply List.map_congr_left
    intro k _
    simp [hzs, Array.getElem!_eq_getD, Array.getD_eq_getD_getElem?]
  obtain ⟨rv, h3, h4⟩ := fill_ok hev (fun k => some (k * e.size, e.size)) parts.toList l _ cs ((Array.range (n * e.size)).map (e.zero.cells[· % e.zero.cells.size]!)) h2 h1 hfl (by rw [hzero]; exact repC_rel zero_rel n)
  obtain ⟨g1, hle, hgm, hgβ, hI1, hv, hno, hSn⟩ := stills_ok hI hst h4
  obtain ⟨h5, h6⟩ := decs_ok hd hv
  have hrun := run_buildSlice (P := P) w T E n (parts.map fun (i, x) => (i, ρ x)) rv j e.zero hu hj hz (by rw [hs]; omega) (by rw [hs]; exact Nat.ne_of_gt (Nat.mul_pos hn0 hpos)) (by
    rw [← h3, hs]; simp)
  refine ⟨_, _, hrun, ?_⟩
  have hlen := h5.len
  rw [h6] at hlen
  have hgood : Good O w0 g1 (patch p hp) nx w (fun q => K (q.1, q.2 ++ p)) (.slice (some ⟨w.heap.size, 0, none⟩) n n) (w.alloc (.cells rv E)) := by
    refine good_new (a := .own nx) (ob := .row E t xs) hI1 (fun k h7 h8 => by rw [hgm, hgβ]; exact hf k h7 h8) _ _ rfl w rfl rfl rfl rfl h (fun g' hg' => ?_) (fun g' hle' hg' hst' => ?_)
    · simp only [VRel]; exact ⟨hg', _, _, _, rfl⟩
    · refine ⟨rv.toList, ⟨by rw [h6]; exact hlen, .inr ⟨w.heap.size, n, rv, (0, 0), by rw [h6], .inl rfl, heap_alloc_new w _, by omega, ?_, by simpa using hlen, ?_⟩⟩, h5.stay hle'.S hst'⟩
      · have : n ≤ n * e.size := Nat.le_mul_of_pos_right n hpos
        unfold maxLen; omega
      · rw [h6]; exact List.take_of_length_le (by omega)
  have hgood' := hgood
  obtain ⟨a, q, g', k1, k2, k3, k4, k5, k6⟩ := good_le hle hgm hgβ hSn hgood'
  refine ⟨a, q ++ p, g', k1, k2, k3, ?_, k5, k6⟩
  rw [patch_append]
  exact k4

theorem RepS.ones {S : Nat → Prop} : ∀ {t : Ty} {x : t.Val} {cs : List Value}, RepS S w t x cs → ∀ c ∈ cs, c.oneCell' = true
  | .int _, _, _, h, c, hc => by simp only [RepS] at h; rw [h] at hc; simp at hc; subst hc; rfl
  | .bool, _, _, h, c, hc => by simp only [RepS] at h; rw [h] at hc; simp at hc; subst hc; rfl
  | .str, _, _, h, c, hc => by simp only [RepS] at h; rw [h] at hc; simp at hc; subst hc; rfl
  | .slice _ _, _, _, h, c, hc => by obtain ⟨a, cap, h, _⟩ := h; rw [h] at hc; simp at hc; subst hc; rfl
  | .unit, _, _, h, c, hc => by simp only [RepS] at h; rw [h] at hc; simp at hc
  | .pair a b, _, _, h, c, hc => by
    obtain ⟨l, r, rfl, _, h1, h2⟩ := h
    rcases List.mem_append.1 hc with hc | hc
    · exact RepS.ones h1 c hc
    · exact RepS.ones h2 c hc
theorem RepL.ones {S : Nat → Prop} {t : Ty} : ∀ {xs : List t.Val} {cs : List Value}, RepL S w t xs cs → ∀ c ∈ cs, c.oneCell' = true
  | [], _, h, c, hc => by simp only [RepL] at h; rw [h] at hc; simp at hc
  | x :: xs, cs, h, c, hc => by
    obtain ⟨l, r, rfl, h1, h2⟩ := h
    rcases List.mem_append.1 hc with hc | hc
    · exact RepS.ones h1 c hc
    · exact RepL.ones h2 c hc

/-- A slice in memory that stays, cell by cell. -/
theorem ro_cells {t : Ty} {xs : List t.Val} {A : Option Addr} {n cap : Nat} (h : RepS g.S w (.slice 0 t) xs [.slice A n cap]) :
    n = xs.length ∧ ∃ news, RepL g.S w t xs news ∧ ∀ j u, news[j]? = some u → ∃ ad, A = some ad ∧ w.cell? (ad.add j) = some u := by
  obtain ⟨a, cap', h1, _, h2⟩ := h
  injection h1 with h1 _
  injection h1 with e1 e2 e3
  subst e1 e2 e3
  refine ⟨rfl, ?_⟩
  have key : ∀ m, m ≤ xs.length → ∃ news, RepL g.S w t (xs.drop (xs.length - m)) news ∧ ∀ j u, news[j]? = some u → ∃ ad, A = some ad ∧ w.cell? (ad.add ((xs.length - m) * t.cells + j)) = some u := by
    intro m
    induction m with
    | zero => intro _; exact ⟨[], by simp [RepL], fun j u hj => by simp at hj⟩
    | succ m ih =>
      intro hm
      obtain ⟨news, h3, h4⟩ := ih (by omega)
      have hi : xs.length - (m + 1) < xs.length := by omega
      obtain ⟨b, o, rfl, hS, l, hl, hat, hr⟩ := h2 _ hi
      refine ⟨l ++ news, ?_, fun j u hj => ⟨_, rfl, ?_⟩⟩
      · rw [List.drop_eq_getElem_cons hi]
        refine ⟨l, news, rfl, hr, ?_⟩
        rw [show xs.length - (m + 1) + 1 = xs.length - m by omega]
        exact h3
      · rw [List.getElem?_append] at hj
        rw [addN]
        split at hj
        · have := hat j u hj
          rwa [← Nat.add_assoc]
        · obtain ⟨ad, h5, h6⟩ := h4 _ _ hj
          injection h5 with h5; subst h5
          rw [addN] at h6
          rename_i hge
          have e : (xs.length - (m + 1)) * t.cells + j = (xs.length - m) * t.cells + (j - l.length) := by
            rw [show xs.length - m = xs.length - (m + 1) + 1 by omega, Nat.add_mul, Nat.one_mul, hl]; omega
          rw [e]; exact h6
  obtain ⟨news, h3, h4⟩ := key xs.length (Nat.le_refl _)
  rw [Nat.sub_self, List.drop_zero] at h3
  refine ⟨news, h3, fun j u hj => ?_⟩
  have := h4 j u hj
  rwa [Nat.sub_self, Nat.zero_mul, Nat.zero_add] at this

theorem isNil_eq {x : Value} (h : isNil x = true) : x = .slice none 0 0 := by
  unfold isNil at h
  split at h
  · rfl
  · cases h

/-- What is appended: its cells, and where they lie. -/
theorem asList_ok (hI : Inv O w0 g hp w) {t : Ty} {x : AV} {c : Value} (hx : VRel g w x c) {ys : List t.Val} (h : asList hp t x = some ys) :
    ∃ A cap news, c = .slice A ys.length cap ∧ RepL g.S w t ys news ∧ (∀ j u, news[j]? = some u → ∃ ad, A = some ad ∧ w.cell? (ad.add j) = some u) := by
  unfold asList at h
  split at h
  · split at h
    · rename_i hn
      injection h with h; subst h
      rw [VRel.v_iff, isNil_eq hn] at hx; subst hx
      exact ⟨none, 0, [], rfl, by simp only [RepL], fun j u hj => by simp at hj⟩
    · cases h
  · split at h
    · rename_i hut _
      subst hut
      injection h with h; subst h
      simp only [VRel] at hx
      have hx' := hx
      obtain ⟨A, cap, hc, _⟩ := hx
      injection hc with hc; subst hc
      obtain ⟨_, news, h1, h2⟩ := ro_cells hx'
      exact ⟨A, cap, news, rfl, h1, h2⟩
    · cases h
  · rename_i k
    split at h
    · rename_i E u xs hk
      split at h
      · rename_i hut _
        subst hut
        injection h with h; subst h
        simp only [VRel] at hx
        obtain ⟨hm, A, n, cap, rfl⟩ := hx
        obtain ⟨c, hc, hs⟩ := hI.sat k _ hk
        rw [hm] at hc; injection hc with hc; subst hc
        obtain ⟨cells, ho, hr⟩ := hs
        rcases ho.2 with ⟨h1, h2⟩ | ⟨b, cap', cur, fz, h1, _, h3, _, _, _, h4⟩
        · injection h1 with e1 e2 e3
          subst e1 e2 e3
          have : xs = [] := List.eq_nil_of_length_eq_zero h2
          subst this
          exact ⟨none, 0, cells, rfl, hr, fun j u hj => by simp only [RepL] at hr; rw [hr] at hj; simp at hj⟩
        · injection h1 with e1 e2 e3
          subst e1 e2 e3
          refine ⟨_, cap, cells, rfl, hr, fun j u hj => ⟨_, rfl, ?_⟩⟩
          rw [addN, Nat.zero_add, cell_of_row w b _ _ _ _ h3]
          rw [← h4, List.getElem?_take] at hj
          split at hj
          · simpa using hj
          · cases hj
      · cases h
    · cases h
  · cases h

theorem run_append_nil' {P : Program} (w : World) (T ty E : TypeId) (i : TypeInfo) (hT : P.underlying T = some (.slice E)) (hi : P.info? E = some i) (A : Option Addr) (n cap c : Nat) (hn : n ≤ cap) :
    (Builtin.append_ #[T, T] ty #[.slice A n cap, .slice none 0 c]).run P w = .ok (.slice A n cap) w := by
  cases A <;> simp [Builtin.append_, run_underlying hT, sizeOf, typeInfo, hi, Builtin.lenOf, Builtin.firstCells, hn, storeCells]

theorem append_core (hI : Inv O w0 g hp w) (hf : ∀ k, nx ≤ k → k < nx + 64 → g.m k = none ∧ g.β k = none) {K : Out → Prop} {E : TypeId} {t : Ty} {cs : Value} {ys xs : List t.Val} {p : Pat} {cells news : List Value} {act : Sem Value}
    (hs : (cs = .slice none 0 0 ∧ xs = [] ∧ p = []) ∨ ∃ k, g.m k = some cs ∧ hp k = some (.row E t xs) ∧ p = [(k, none)])
    (ho : ownsRowZ w E t.cells cs xs.length cells) (hrx : RepL g.S w t xs cells) (hr : RepL g.S w t ys news)
    (hrun : ∃ v' w', act.run P w = .ok v' w' ∧ ownsRowZ w' E t.cells v' (xs.length + ys.length) (cells ++ news) ∧ w.grownBy w' cs.ownBlock ∧ (v'.ownBlock = cs.ownBlock ∨ v'.ownBlock = some w.heap.size))
    (h : K (.own nx, (nx, some (.row E t (xs ++ ys))) :: p)) :
    ∃ c w', act.run P w = .ok c w' ∧ Good O w0 g hp nx w K c w' := by
  obtain ⟨v', w', h1, h2, h3, h5⟩ := hrun
  refine ⟨v', w', h1, ?_⟩
  have hv' : ∃ a n c, v' = .slice a n c := by
    rcases h2.2 with ⟨h6, _⟩ | ⟨_, _, _, _, h6, _⟩ <;> exact ⟨_, _, _, h6⟩
  have hblk : ∀ v : Value, (∃ a n c, v = .slice a n c) → blkOf v = v.ownBlock := by
    rintro _ ⟨a, n, c, rfl⟩; cases a <;> rfl
  have hcs' : ∃ a n c, cs = .slice a n c := by
    rcases ho.2 with ⟨h6, _⟩ | ⟨_, _, _, _, h6, _⟩ <;> exact ⟨_, _, _, h6⟩
  let g' : G := { g with m := fun k => if k = nx then some v' else g.m k }
  have hnk : ∀ k c, g.m k = some c → k ≠ nx := fun k c hk e => by subst e; rw [(hf k (Nat.le_refl _) (by omega)).1] at hk; cases hk
  have hle : g.le g' := ⟨fun k v hk => by simp only [g', if_neg (hnk k v hk)]; exact hk, fun _ h => h, fun _ _ h => h⟩
  have hgn : g'.m nx = some v' := by simp only [g', if_true]
  have hst : Stay g.S w w' := fun b hS => h3.block b (hI.stab b hS) (fun he => by
    rcases hs with ⟨rfl, _, _⟩ | ⟨k, hm, hk, _⟩
    · simp [Value.ownBlock] at he
    · exact hI.apart k cs b (by rw [hk]; simp) hm (by rw [hblk cs hcs', ← he]) hS)
  have hsat : OBSat g' w' v' (.row E t (xs ++ ys)) := ⟨cells ++ news, by rw [List.length_append]; exact h2, (hrx.app hr).stay hle.S hst⟩
  refine ⟨.own nx, (nx, some (.row E t (xs ++ ys))) :: p, g', h, hle, ⟨fun k hk => ?_, fun k hk => .inl hk, fun _ h => .inl h⟩, ?_, hst, by simp only [VRel]; exact ⟨hgn, hv'⟩⟩
  · by_cases e : k = nx
    · exact .inr (by omega)
    · simp only [g', if_neg e] at hk; exact .inl hk
  · refine (hI.step (w' := w') (hp' := patch ((nx, some (.row E t (xs ++ ys))) :: p) hp) (fun k => k = nx ∨ ∃ k0, k = k0 ∧ p = [(k0, none)]) hle (fun _ h => h) h3.os h3.tape h3.output h3.size (fun b hb' hnot => ?_) ?_ ?_ ?_).1
    · refine h3.block b hb' (fun he => ?_)
      rcases hs with ⟨rfl, _, _⟩ | ⟨k, hm, hk, hp'⟩
      · simp [Value.ownBlock] at he
      · exact hnot k cs (.inr ⟨k, rfl, hp'⟩) (by rw [hk]; simp) hm (by rw [hblk cs hcs', ← he])
    · intro k hk
      have e1 : Nat.beq nx k = false := beq_ne (fun e => hk (.inl e.symm))
      simp only [patch, look, e1]
      rcases hs with ⟨_, _, rfl⟩ | ⟨k0, _, _, rfl⟩
      · rfl
      · have e2 : Nat.beq k0 k = false := beq_ne (fun e => hk (.inr ⟨k0, e.symm, rfl⟩))
        simp only [look, e2]
    · rintro k ob (rfl | ⟨k0, rfl, rfl⟩) hob
      · have e1 : Nat.beq k k = true := by simp
        simp only [patch, look, e1, Option.some.injEq] at hob
        subst hob
        refine ⟨v', hgn, hsat, fun b hb' => ?_⟩
        rw [hblk v' hv'] at hb'
        rcases h5 with h5 | h5
        · rcases hs with ⟨rfl, _, _⟩ | ⟨k1, hm, hk, hp'⟩
          · rw [h5] at hb'; simp [Value.ownBlock] at hb'
          · exact .inr ⟨k1, cs, .inr ⟨k1, rfl, hp'⟩, by rw [hk]; simp, hm, by rw [hblk cs hcs', ← h5]; exact hb'⟩
        · rw [h5] at hb'; injection hb' with hb'; exact .inl (by omega)
      · have e2 : Nat.beq k k = true := by simp
        by_cases e : nx = k
        · rcases hs with ⟨_, _, hp'⟩ | ⟨k1, hm, _, hp'⟩
          · cases hp'
          · injection hp' with hp' _; injection hp' with hp' _; subst hp'
            exact absurd e.symm (hnk k cs hm)
        · have e1 : Nat.beq nx k = false := beq_ne e
          simp [patch, look, e1, e2] at hob
    · rintro k k' c c' b hk hk' hne hne' hc hc' hb1 hb2
      have only : ∀ k, (k = nx ∨ ∃ k0, k = k0 ∧ p = [(k0, none)]) → patch ((nx, some (.row E t (xs ++ ys))) :: p) hp k ≠ none → k = nx := by
        rintro k (rfl | ⟨k0, rfl, rfl⟩) hne
        · rfl
        · by_cases e : nx = k
          · exact e.symm
          · have e1 : Nat.beq nx k = false := beq_ne e
            have e2 : Nat.beq k k = true := by simp
            simp [patch, look, e1, e2] at hne
      rw [only k hk hne, only k' hk' hne']

theorem append_ok (hI : Inv O w0 g hp w) (hf : ∀ k, nx ≤ k → k < nx + 64 → g.m k = none ∧ g.β k = none) {K : Out → Prop} {T E ty : TypeId} {i e : TInf} {t : Ty} {tt : TypeId → Option TInf} (htt : TTok P tt) (hT : tt T = some i) (hi : i.u = .slice E) (hE : tt E = some e) (hc : e.code = some t)
    {x : AV} {cx cs : Value} (hx : VRel g w x cx) {ys xs : List t.Val} (hy : asList hp t x = some ys) {p : Pat}
    (hs : (cs = .slice none 0 0 ∧ xs = [] ∧ p = []) ∨ ∃ k, g.m k = some cs ∧ hp k = some (.row E t xs) ∧ p = [(k, none)])
    (hb : (xs.length + ys.length) * e.bytes ≤ 140737488355328) (h : K (.own nx, (nx, some (.row E t (xs ++ ys))) :: p)) :
    ∃ c w', (Builtin.append_ #[T, T] ty #[cs, cx]).run P w = .ok c w' ∧ Good O w0 g hp nx w K c w' := by
  obtain ⟨hu, _⟩ := htt T i hT
  rw [hi] at hu
  obtain ⟨_, ⟨j, hj, hsz, hby, hz⟩, hzs, hz1, hcode, _⟩ := htt E e hE
  obtain ⟨hcs, hpos, hbpos⟩ := hcode t hc
  obtain ⟨A, cap, news, rfl, hr, hcells⟩ := asList_ok hI hx hy
  have hlen := hr.len
  -- the row that is appended to
  have hown : ∃ cells, ownsRowZ w E t.cells cs xs.length cells ∧ RepL g.S w t xs cells := by
    rcases hs with ⟨rfl, rfl, _⟩ | ⟨k, hm, hk, _⟩
    · exact ⟨[], ownsRowZ_nil _ _ _, by simp only [RepL]⟩
    · obtain ⟨c, hc, hs⟩ := hI.sat k _ hk
      rw [hm] at hc; injection hc with hc; subst hc
      exact hs
  obtain ⟨cells, ho, hrx⟩ := hown
  have h63 : xs.length + ys.length ≤ maxLen := by
    have : xs.length + ys.length ≤ (xs.length + ys.length) * e.bytes := Nat.le_mul_of_pos_right _ hbpos
    unfold maxLen; omega
  have hrun : ∃ v' w', (Builtin.append_ #[T, T] ty #[cs, .slice A ys.length cap]).run P w = .ok v' w' ∧ ownsRowZ w' E t.cells v' (xs.length + ys.length) (cells ++ news) ∧ w.grownBy w' cs.ownBlock ∧
      (v'.ownBlock = cs.ownBlock ∨ v'.ownBlock = some w.heap.size) := by
    cases A with
    | none =>
      have h0 : news = [] := by
        cases news with
        | nil => rfl
        | cons u r => obtain ⟨ad, h1, _⟩ := hcells 0 u rfl; cases h1
      subst h0
      have hy0 : ys.length = 0 := by
        rcases Nat.eq_zero_or_pos ys.length with h0 | h0
        · exact h0
        · have := Nat.mul_pos h0 (show 0 < t.cells by omega)
          simp at hlen; omega
      refine ⟨cs, w, ?_, by simpa [hy0] using ho, World.grownBy.refl w _, .inl rfl⟩
      rcases ho.2 with ⟨rfl, _⟩ | ⟨b, cap', cur, fz, rfl, _, _, h3, _⟩
      · rw [hy0]; exact run_append_nil' w T ty E j hu hj none 0 0 cap (Nat.le_refl _)
      · rw [hy0]; exact run_append_nil' w T ty E j hu hj _ _ _ cap h3
    | some ad =>
      obtain ⟨v', w', h1, h2, h3, h5⟩ := append_slice_Z (P := P) w (ty := ty) hu hj hz (hsz.trans hcs.symm) hby (hzs.trans hcs.symm) (by omega) ho ad ys.length cap news hlen
        (fun j u hj => by obtain ⟨ad', h6, h7⟩ := hcells j u hj; injection h6 with h6; subst h6; exact h7) hr.ones h63 hb
      exact ⟨v', w', h1, h2, h3, h5⟩
  exact append_core hI hf hs ho hrx hr hrun h

theorem strCells_rep (S : Nat → Prop) (s : ByteArray) : RepL S w (.int .u8) (bList s) (Lib.strCells s) := by
  unfold bList Lib.strCells
  generalize s.data.toList = l
  induction l with
  | nil => simp only [List.map_nil, RepL]
  | cons b l ih => exact ⟨[.int .u8 b.toNat], _, rfl, rfl, ih⟩

theorem append_str_ok (hI : Inv O w0 g hp w) (hf : ∀ k, nx ≤ k → k < nx + 64 → g.m k = none ∧ g.β k = none) {K : Out → Prop} {T T' E ty : TypeId} {i i' e : TInf} {tt : TypeId → Option TInf} (htt : TTok P tt) (hT : tt T = some i) (hi : i.u = .slice E) (hT' : tt T' = some i') (hi' : i'.u = .string) (hE : tt E = some e) (hc : e.code = some (.int .u8)) (he1 : e.bytes = 1) (hez : e.zero = .int .u8 0)
    {s : ByteArray} {cs : Value} {xs : List Int} {p : Pat}
    (hs : (cs = .slice none 0 0 ∧ xs = [] ∧ p = []) ∨ ∃ k, g.m k = some cs ∧ hp k = some (.row E (.int .u8) xs) ∧ p = [(k, none)])
    (hb : xs.length + s.size ≤ 140737488355328) (h : K (.own nx, (nx, some (.row E (.int .u8) (xs ++ bList s))) :: p)) :
    ∃ c w', (Builtin.append_ #[T, T'] ty #[cs, .string s]).run P w = .ok c w' ∧ Good O w0 g hp nx w K c w' := by
  obtain ⟨hu, _⟩ := htt T i hT
  rw [hi] at hu
  obtain ⟨hu', _⟩ := htt T' i' hT'
  rw [hi'] at hu'
  obtain ⟨_, ⟨j, hj, hsz, hby, hz⟩, hzs, hz1, hcode, _⟩ := htt E e hE
  obtain ⟨hcs, hpos, hbpos⟩ := hcode _ hc
  have hown : ∃ cells, ownsRowZ w E 1 cs xs.length cells ∧ RepL g.S w (.int .u8) xs cells := by
    rcases hs with ⟨rfl, rfl, _⟩ | ⟨k, hm, hk, _⟩
    · exact ⟨[], ownsRowZ_nil _ _ _, by simp only [RepL]⟩
    · obtain ⟨c, hc, hs⟩ := hI.sat k _ hk
      rw [hm] at hc; injection hc with hc; subst hc
      exact hs
  obtain ⟨cells, ho, hrx⟩ := hown
  have hbl : (bList s).length = s.size := by
    unfold bList; simp
  have h1 : j.size = 1 := by rw [hsz, ← hcs]; rfl
  obtain ⟨v', w', h2, h3, h4, h5⟩ := append_string_Z (P := P) w (ty := ty) hu hu' hj (by rw [hz, hez]) h1 (by rw [hby, he1]) ho s hb
  exact append_core (t := .int .u8) hI hf hs ho hrx (strCells_rep g.S s) ⟨v', w', h2, by rw [hbl]; exact h3, h4, h5⟩ h

end
end Go.Proofs.Ytmkbigaofhionaa
