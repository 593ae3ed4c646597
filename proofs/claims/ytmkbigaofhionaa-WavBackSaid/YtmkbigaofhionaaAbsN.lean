/- The abstract machine's indexes, slices, stores, new blocks, appends are what the model does; no program. -/
import Derived.Test.YtmkbigaofhionaaAbsM
import Derived.Great.FillDense
namespace Go.Proofs.Ytmkbigaofhionaa
open Go.RowKit
set_option linter.unusedVariables false
set_option linter.unusedSimpArgs false

section
variable {P : Program} {O : Nat → Prop} {w0 w : World} {g : G} {hp : Heap} {nx : Nat} {Z : TypeId → AV → Prop}

theorem run_indexAt_in {T E : TypeId} {a : Addr} {len cap : Nat} {k : IntKind} {i : Int} {n : Nat} (hu : P.underlying T = some (.slice E)) (hs : ∀ w, (sizeOf E).run P w = .ok n w) (h0 : 0 ≤ i) (h1 : i < len) (w : World) :
    (Instr.indexAt T (.slice (some a) len cap) (.int k i)).run P w = .ok (.pointer (some (a.add (i.toNat * n)))) w := by
  simp [Instr.indexAt, asIntOf, run_underlying hu, hs, h0, h1]

theorem indexAddr_ok {K : AV → Prop} (hI : Inv O w0 g hp w) {T : TypeId} {tt : TypeId → Option TInf} (htt : TTok P tt) {a i : AV} {ca ci : Value} (ha : VRel g w a ca) (hi : VRel g w i ci) (h : (indexAddrA tt hp T a i).wp K Z) :
    Same P g w (Instr.indexAt T ca ci) K := by
  unfold indexAddrA at h
  split at h
  · rename_i k i
    rw [VRel.v_iff] at hi; subst hi
    split at h
    · exact h.elim
    · rename_i j hj
      obtain ⟨hu, _⟩ := htt T j hj
      split at h
      · rename_i E hE
        rw [hE] at hu
        split at h
        · rename_i e he
          obtain ⟨_, ⟨jj, hjj, hs, _⟩, _⟩ := htt E e he
          have hsz := fun w => run_sizeOf' (P := P) hjj hs w
          split at h
          · rename_i t xs
            split at h
            · rename_i hb
              have hb := beq_eq hb
              simp only [R.wpE1, R.wpE2, R.wpE3, R.wpE4, R.wpE5, R.wpE6] at h
              obtain ⟨⟨h0, h1⟩, hk⟩ := h
              simp only [VRel] at ha
              obtain ⟨A, cap, hca, hcap, hel⟩ := ha
              injection hca with hca; subst hca
              have hidx : i.toNat < xs.length := by omega
              obtain ⟨b, o, rfl, hS, l, hl, hat, hr⟩ := hel i.toNat hidx
              refine ⟨_, _, run_indexAt_in hu hsz h0 h1 w, ?_, hk⟩
              simp only [VRel]
              exact ⟨b, o + i.toNat * t.cells, l, by rw [addN, hb]; rfl, hS, hat, by rw [getD_mem xs _ _ hidx]; exact hr⟩
            · exact h.elim
          · rename_i k
            split at h
            · rename_i E' t xs hk
              split at h
              · rename_i hb
                have hb := beq_eq hb
                simp only [R.wpE1, R.wpE2, R.wpE3, R.wpE4, R.wpE5, R.wpE6] at h
                obtain ⟨⟨h0, h1⟩, hkk⟩ := h
                simp only [VRel] at ha
                obtain ⟨hm, A, n, cap, rfl⟩ := ha
                obtain ⟨c, hc, hs'⟩ := hI.sat k _ hk
                rw [hm] at hc; injection hc with hc; subst hc
                obtain ⟨cells, ho, _⟩ := hs'
                have hidx : i.toNat < xs.length := by omega
                rcases ho.2 with ⟨_, h2⟩ | ⟨b, cap', cur, fz, h2, _, _, h3, _⟩
                · omega
                · injection h2 with e1 e2 e3
                  subst e1 e2 e3
                  refine ⟨_, _, run_indexAt_in hu hsz h0 h1 w, ?_, hkk⟩
                  simp only [VRel]
                  exact ⟨b, _, _, hm, hidx, by rw [addN, hb, Nat.zero_add]; rfl⟩
              · exact h.elim
            · exact h.elim
          · exact h.elim
        · exact h.elim
      · exact h.elim
  · exact h.elim

theorem index_ok {K : AV → Prop} {T : TypeId} {tt : TypeId → Option TInf} (htt : TTok P tt) {a i : AV} {ca ci : Value} (ha : VRel g w a ca) (hi : VRel g w i ci) (h : (indexA tt T a i).wp K Z) :
    Same P g w (Instr.index T ca ci) K := by
  unfold indexA at h
  split at h
  · rename_i s k i
    rw [VRel.v_iff] at ha hi; subst ha hi
    split at h
    · rename_i j hj
      obtain ⟨hu, _⟩ := htt T j hj
      split at h
      · rename_i hs
        rw [hs] at hu
        simp only [R.wpE1, R.wpE2, R.wpE3, R.wpE4, R.wpE5, R.wpE6] at h
        refine ⟨_, _, by rw [run_index_string w T s k i hu, dif_pos h.1], ?_, h.2⟩
        rw [VRel.v_iff]
        have h1 : i.toNat < s.size := by omega
        have h2 : i.toNat < s.data.toList.length := by simpa using h1
        have h3 : bAt s i.toNat = ((s[i.toNat]'h1).toNat : Int) := by
          unfold bAt
          rw [getD_mem _ _ _ h2]
          rfl
        exact congrArg (Value.int .u8) h3.symm
      · exact h.elim
    · exact h.elim
  · exact h.elim

def ORel (g : G) (w : World) : Option AV → Option Value → Prop
  | none, none => True
  | some a, some c => VRel g w a c
  | _, _ => False

theorem intOr_ok {d : Int} {a : Option AV} {c : Option Value} {n : Int} (h : intOr d a = some n) (hc : ORel g w a c) : (c = none ∧ n = d) ∨ ∃ k, c = some (.int k n) := by
  unfold intOr at h
  split at h
  · injection h with h
    cases c with
    | none => exact .inl ⟨rfl, h.symm⟩
    | some c => exact hc.elim
  · injection h with h; subst h
    cases c with
    | none => exact hc.elim
    | some c =>
      have hc : VRel g w (.v _) c := hc
      rw [VRel.v_iff] at hc; subst hc; exact .inr ⟨_, rfl⟩
  · cases h

theorem elem_of {T E : TypeId} (h : P.underlying T = some (.slice E)) : P.elem T = E := by
  simp [Program.elem, h]

theorem slice_ok {K : AV → Prop} {T : TypeId} {tt : TypeId → Option TInf} (htt : TTok P tt) {x : AV} {cx : Value} {lo hi : Option AV} {clo chi : Option Value} (hx : VRel g w x cx)
    (hlo : ORel g w lo clo) (hhi : ORel g w hi chi)
    (h : (sliceA tt T x lo hi).wp K Z) : Same P g w (Instr.sliceAt T cx clo chi none) K := by
  unfold sliceA at h
  split at h
  · exact h.elim
  · rename_i i hi'
    obtain ⟨hu, _⟩ := htt T i hi'
    split at h
    · rename_i s hs
      rw [hs] at hu
      rw [VRel.v_iff] at hx; subst hx
      split at h
      · rename_i l h' hl hh
        simp only [R.wpE1, R.wpE2, R.wpE3, R.wpE4, R.wpE5, R.wpE6] at h
        obtain ⟨⟨g1, g2, g3⟩, hk⟩ := h
        refine ⟨.string (s.extract l.toNat h'.toNat), _, ?_, VRel.v_iff.2 rfl, hk⟩
        rw [run_sliceAt_string w T _ _ _ _ hu]
        rcases intOr_ok hl hlo with ⟨rfl, rfl⟩ | ⟨k1, rfl⟩ <;> rcases intOr_ok hh hhi with ⟨rfl, rfl⟩ | ⟨k2, rfl⟩
        · rw [run_slice_string_all w T s hu]; rfl
        · rw [run_slice_string_h w T s hu k2 h' (by omega) g3]; rfl
        · rw [run_slice_string_l w T s hu k1 l g1 g2]; rfl
        · rw [run_slice_string w T s k1 k2 l h' hu g1 g2 g3]
      · exact h.elim
    · rename_i E t xs hs
      rw [hs] at hu
      split at h
      · rename_i e he
        obtain ⟨_, ⟨jj, hjj, hsz, _⟩, _⟩ := htt E e he
        split at h
        · rename_i hb
          have hb := beq_eq hb
          split at h
          · rename_i l h' hl hh
            simp only [R.wpE1, R.wpE2, R.wpE3, R.wpE4, R.wpE5, R.wpE6] at h
            obtain ⟨⟨g1, g2, g3⟩, hk⟩ := h
            simp only [VRel] at hx
            obtain ⟨A, cap, hca, hcap, hel⟩ := hx
            injection hca with hca; subst hca
            have hel' := elem_of hu
            have hu' : P.underlying T = some (.slice (P.elem T)) := by rw [hel']; exact hu
            have hsize := run_sizeOf' (P := P) hjj (hsz.trans hb) w
            refine ⟨sliced A l.toNat h'.toNat cap t.cells, _, ?_, ?_, hk⟩
            · rw [run_sliceAt_slice w T _ _ _ _ hu']
              rcases intOr_ok hl hlo with ⟨rfl, rfl⟩ | ⟨k1, rfl⟩ <;> rcases intOr_ok hh hhi with ⟨rfl, rfl⟩ | ⟨k2, rfl⟩
              · rw [run_slice_all w T A xs.length cap hu', hel', hsize]; rfl
              · rw [run_slice_h w T A xs.length cap hu' k2 h' (by omega) (by omega), hel', hsize]; rfl
              · rw [run_slice_l w T A xs.length cap hu' k1 l g1 g2, hel', hsize]; rfl
              · rw [run_slice_lh w T A xs.length cap hu' k1 k2 l h' g1 g2 (by omega), hel', hsize]; rfl
            · simp only [VRel]
              have hlen : ((xs.take h'.toNat).drop l.toNat).length = h'.toNat - l.toNat := by simp; omega
              refine ⟨_, _, by unfold sliced; rw [hlen], by omega, fun i hi => ?_⟩
              rw [hlen] at hi
              have hidx : l.toNat + i < xs.length := by omega
              obtain ⟨b, o, rfl, hS, l0, hl0, hat, hr⟩ := hel (l.toNat + i) hidx
              have : cap ≠ l.toNat := by omega
              rw [if_neg this]
              refine ⟨b, o + l.toNat * t.cells, by simp [addN], hS, l0, hl0, ?_, ?_⟩
              · rw [Nat.add_assoc, ← Nat.add_mul]; exact hat
              · simpa using hr
          · exact h.elim
        · exact h.elim
      · exact h.elim
    · exact h.elim

theorem len_ok {K : AV → Prop} (hI : Inv O w0 g hp w) {T ty : TypeId} {tt : TypeId → Option TInf} (htt : TTok P tt) {a : AV} {ca : Value} (ha : VRel g w a ca) (h : (lenA tt hp T a).wp K Z) :
    Same P g w (Builtin.len_ #[T] ty #[ca]) K := by
  unfold lenA at h
  split at h
  · rw [VRel.v_iff] at ha; subst ha
    unfold lenV at h
    split at h
    · split at h
      · rename_i j hj
        obtain ⟨hu, _⟩ := htt T j hj
        split at h
        · rename_i hs
          rw [hs] at hu
          exact ⟨_, _, run_len_string w T ty _ hu, VRel.v_iff.2 rfl, h⟩
        · exact h.elim
      · exact h.elim
    · split at h
      · rename_i j hj
        obtain ⟨hu, _⟩ := htt T j hj
        split at h
        · rename_i E hs
          rw [hs] at hu
          exact ⟨_, _, by simp [Builtin.len_, run_underlying hu]; rfl, VRel.v_iff.2 rfl, h⟩
        · exact h.elim
      · exact h.elim
    · exact h.elim
  · simp only [VRel] at ha
    obtain ⟨A, cap, hca, _⟩ := ha
    injection hca with hca; subst hca
    split at h
    · rename_i j hj
      obtain ⟨hu, _⟩ := htt T j hj
      split at h
      · rename_i E hs
        rw [hs] at hu
        exact ⟨_, _, by simp [Builtin.len_, run_underlying hu]; rfl, VRel.v_iff.2 rfl, h⟩
      · exact h.elim
    · exact h.elim
  · rename_i k
    simp only [VRel] at ha
    obtain ⟨hm, A, n, cap, rfl⟩ := ha
    split at h
    · rename_i j hj
      obtain ⟨hu, _⟩ := htt T j hj
      split at h
      · rename_i E hs
        rw [hs] at hu
        split at h
        · rename_i E' t xs hk
          obtain ⟨c, hc, hs'⟩ := hI.sat k _ hk
          rw [hm] at hc; injection hc with hc; subst hc
          obtain ⟨cells, ho, _⟩ := hs'
          have hn : n = xs.length := by
            rcases ho.2 with ⟨h1, h2⟩ | ⟨b, cap', cur, fz, h2, _⟩
            · injection h1 with _ h1 _; omega
            · injection h2
          subst hn
          exact ⟨_, _, by simp [Builtin.len_, run_underlying hu]; rfl, VRel.v_iff.2 rfl, h⟩
        · exact h.elim
      · exact h.elim
    · exact h.elim
  · exact h.elim

theorem minmax_ok {K : AV → Prop} {mx : Bool} {ts : Array TypeId} {ty : TypeId} {a b : AV} {ca cb : Value} (ha : VRel g w a ca) (hb : VRel g w b cb) (h : (minmaxA mx a b).wp K Z) :
    Same P g w (if mx then Builtin.max_ ts ty #[ca, cb] else Builtin.min_ ts ty #[ca, cb]) K := by
  unfold minmaxA at h
  split at h
  · rw [VRel.v_iff] at ha hb; subst ha hb
    split at h
    · rename_i hkj _
      subst hkj
      simp only [R.wpE1, R.wpE2, R.wpE3, R.wpE4, R.wpE5, R.wpE6] at h
      refine ⟨_, _, ?_, VRel.v_iff.2 rfl, h⟩
      cases mx
      · simp [Builtin.min_, Builtin.min2]
        rw [Int.min_def]; split <;> split <;> omega
      · simp [Builtin.max_, Builtin.max2]
        rw [Int.max_def]; split <;> split <;> omega
    · exact h.elim
  · exact h.elim

/-- The block of an owned thing is written: its other cells stay. -/
theorem good_set (hI : Inv O w0 g hp w) {K : Out → Prop} {k : Nat} {c : Value} {b : Nat} {ob ob' : OB} (hk : hp k = some ob) (hm : g.m k = some c) (hb : blkOf c = some b) {cur cur' : Array Value} {T : TypeId} {fz : Nat × Nat} (hw : w.heap[b]? = some (.cells cur T fz))
    (hob : Stay g.S w (w.setRow b cur') → (w.setRow b cur').heap[b]? = some (.cells cur' T fz) → OBSat g (w.setRow b cur') c ob') (hK : K (.v undef, [(k, some ob')])) :
    Good O w0 g hp nx w K undef (w.setRow b cur') := by
  have hblt : b < w.heap.size := (Array.getElem?_eq_some_iff.1 hw).1
  have hnS : ¬ g.S b := hI.apart k c b (by rw [hk]; simp) hm hb
  have hst : Stay g.S w (w.setRow b cur') := fun b' hb' => setRow_other w b b' cur' (fun e => hnS (e ▸ hb'))
  refine ⟨.v undef, [(k, some ob')], g, hK, G.le.refl g, NewIn.refl O w0 g nx, ?_, hst, VRel.v_iff.2 rfl⟩
  refine (hI.step (w' := w.setRow b cur') (hp' := patch [(k, some ob')] hp) (fun i => i = k) (G.le.refl g) (fun _ h => h) rfl rfl rfl (by simp) (fun b' hb' h => ?_) ?_ ?_ ?_).1
  · exact setRow_other w b b' cur' (fun e => h k c rfl (by rw [hk]; simp) hm (by rw [hb, e]))
  · intro i hi
    have : Nat.beq k i = false := beq_ne (fun e => hi e.symm)
    simp only [patch, look, this]
  · rintro i ob1 rfl h1
    have : Nat.beq i i = true := by simp
    simp only [patch, look, this] at h1
    injection h1 with h1; subst h1
    exact ⟨c, hm, hob hst (setRow_heap w b cur cur' T fz hw), fun b' hb' => .inr ⟨i, c, rfl, by rw [hk]; simp, hm, hb'⟩⟩
  · rintro i i' _ _ _ rfl rfl; intros; rfl

theorem VRels.setAt {l l' : List AV} {cs cs' : List Value} (h : VRels g w l cs) (h' : VRels g w l' cs') (off : Nat) : VRels g w (setAt l off l') (cs.take off ++ cs' ++ cs.drop (off + cs'.length)) := by
  unfold Go.Proofs.Ytmkbigaofhionaa.setAt
  rw [h'.len]
  exact ((h.take off).app h').app (h.drop _)

theorem dec_ok : ∀ {t : Ty} {l r : List AV} {x : t.Val} {cs : List Value}, dec t l = some (x, r) → VRels g w l cs → ∃ c1 c2, cs = c1 ++ c2 ∧ RepS g.S w t x c1 ∧ VRels g w r c2
  | .int k, l, r, x, cs, h, hl => by
    simp only [dec] at h
    unfold decInt at h
    split at h
    · split at h
      · rename_i hjk _
        simp only [Option.some.injEq, Prod.mk.injEq] at h
        obtain ⟨c, r', rfl, h2, h3⟩ := VRels.cons.1 hl
        rw [VRel.v_iff] at h2; subst h2
        exact ⟨[_], r', rfl, by simp only [RepS]; rw [hjk, h.1], by rw [← h.2]; exact h3⟩
      · cases h
    · cases h
  | .bool, l, r, x, cs, h, hl => by
    simp only [dec] at h
    unfold decBool at h
    split at h
    · simp only [Option.some.injEq, Prod.mk.injEq] at h
      obtain ⟨c, r', rfl, h2, h3⟩ := VRels.cons.1 hl
      rw [VRel.v_iff] at h2; subst h2
      exact ⟨[_], r', rfl, by simp only [RepS]; rw [h.1], by rw [← h.2]; exact h3⟩
    · cases h
  | .str, l, r, x, cs, h, hl => by
    simp only [dec] at h
    unfold decStr at h
    split at h
    · simp only [Option.some.injEq, Prod.mk.injEq] at h
      obtain ⟨c, r', rfl, h2, h3⟩ := VRels.cons.1 hl
      rw [VRel.v_iff] at h2; subst h2
      exact ⟨[_], r', rfl, by simp only [RepS]; rw [h.1], by rw [← h.2]; exact h3⟩
    · cases h
  | .slice n e, l, r, x, cs, h, hl => by
    simp only [dec] at h
    unfold decSl at h
    split at h
    · simp only [Option.some.injEq, Prod.mk.injEq] at h
      obtain ⟨c, r', rfl, h2, h3⟩ := VRels.cons.1 hl
      rw [VRel.v_iff] at h2; subst h2
      obtain ⟨rfl, rfl⟩ := h
      exact ⟨[_], r', rfl, ⟨none, 0, rfl, by simp, fun i hi => by simp at hi⟩, h3⟩
    · split at h
      · rename_i hte _
        subst hte
        simp only [Option.some.injEq, Prod.mk.injEq] at h
        obtain ⟨c, r', rfl, h2, h3⟩ := VRels.cons.1 hl
        obtain ⟨rfl, rfl⟩ := h
        simp only [VRel] at h2
        exact ⟨[c], r', rfl, h2, h3⟩
      · cases h
    · cases h
  | .unit, l, r, x, cs, h, hl => by
    simp only [dec, Option.some.injEq, Prod.mk.injEq] at h
    exact ⟨[], cs, rfl, by simp only [RepS], by rw [← h.2]; exact hl⟩
  | .pair a b, l, r, x, cs, h, hl => by
    simp only [dec] at h
    split at h
    · rename_i x1 l1 h1
      split at h
      · rename_i y l2 h2
        simp only [Option.some.injEq, Prod.mk.injEq] at h
        obtain ⟨rfl, rfl⟩ := h
        obtain ⟨c1, c2, rfl, g1, g2⟩ := dec_ok h1 hl
        obtain ⟨c3, c4, rfl, g3, g4⟩ := dec_ok h2 g2
        exact ⟨c1 ++ c3, c4, by simp, ⟨c1, c3, rfl, g1.len, g1, g3⟩, g4⟩
      · cases h
    · cases h

theorem decs_ok {t : Ty} : ∀ {n : Nat} {l : List AV} {xs : List t.Val} {cs : List Value}, decs t n l = some xs → VRels g w l cs → RepL g.S w t xs cs ∧ xs.length = n
  | 0, l, xs, cs, h, hl => by
    simp only [decs] at h
    split at h
    · injection h with h; subst h
      exact ⟨VRels.nil.1 hl, rfl⟩
    · cases h
  | n + 1, l, xs, cs, h, hl => by
    simp only [decs] at h
    split at h
    · rename_i x r hx
      split at h
      · rename_i ys hys
        injection h with h; subst h
        obtain ⟨c1, c2, rfl, g1, g2⟩ := dec_ok hx hl
        have := decs_ok hys g2
        exact ⟨⟨c1, c2, rfl, g1, this.1⟩, by simp [this.2]⟩
      · cases h
    · cases h

/-- Rows among cells become memory that stays. -/
theorem stills_ok (hI : Inv O w0 g hp w) : ∀ {l l' : List AV} {p : Pat} {cs : List Value}, stills hp l = some (l', p) → VRels g w l cs →
    ∃ g', g.le g' ∧ g'.m = g.m ∧ g'.β = g.β ∧ Inv O w0 g' (patch p hp) w ∧ VRels g' w l' cs ∧ (∀ k x, look k p = some x → x = none) ∧ (∀ b, g'.S b → g.S b ∨ O b ∨ w0.heap.size ≤ b)
  | [], l', p, cs, h, hl => by
    simp only [stills, Option.some.injEq, Prod.mk.injEq] at h
    obtain ⟨rfl, rfl⟩ := h
    exact ⟨g, G.le.refl g, rfl, rfl, hI, hl, fun k x h => by simp [look] at h, fun _ h => .inl h⟩
  | a :: l, l', p, cs, h, hl => by
    obtain ⟨c, r, rfl, h2, h3⟩ := VRels.cons.1 hl
    unfold stills at h
    split at h <;> rename_i heq
    · cases heq
    · rename_i k l0
      injection heq with e1 e2
      subst e1 e2
      split at h
      · rename_i E t xs r0 p0 hk hst
        simp only [Option.some.injEq, Prod.mk.injEq] at h
        obtain ⟨rfl, rfl⟩ := h
        obtain ⟨g1, hle, hm, hβ, hI1, hv, hno, hSn⟩ := stills_ok hI hst h3
        -- the row's block stays from here on
        simp only [VRel] at h2
        obtain ⟨hmk, A, n, cap, rfl⟩ := h2
        obtain ⟨c1, hc1, hs⟩ := hI.sat k _ hk
        rw [hmk] at hc1; injection hc1 with hc1; subst hc1
        let g2 : G := { g1 with S := fun b => g1.S b ∨ blkOf (.slice A n cap) = some b }
        have hle2 : g1.le g2 := ⟨fun _ _ h => h, fun _ h => .inl h, fun _ _ h => h⟩
        have hlt : ∀ b, blkOf (.slice A n cap) = some b → b < w.heap.size := fun b hb => hs.lt hb
        have hI2 : Inv O w0 g2 (patch ((k, none) :: p0) hp) w := by
          have hsub : ∀ i, patch ((k, none) :: p0) hp i ≠ none → i ≠ k ∧ patch p0 hp i = patch ((k, none) :: p0) hp i := by
            intro i hi
            by_cases e : k = i
            · subst e
              have : Nat.beq k k = true := by simp
              simp [patch, look, this] at hi
            · have : Nat.beq k i = false := beq_ne e
              exact ⟨fun e' => e e'.symm, by simp only [patch, look, this]⟩
          have hnk : ∀ i, i ≠ k → ∀ c b, patch p0 hp i ≠ none → g1.m i = some c → blkOf c = some b → blkOf (.slice A n cap) ≠ some b := by
            intro i hi c b hne hci hb he
            have hne' : hp i ≠ none := by
              intro e0
              unfold patch at hne
              split at hne
              · rename_i x hx; exact hne (hno i x hx)
              · exact hne e0
            exact hi (hI.inj i k c _ b hne' (by rw [hk]; simp) (by rw [← hm]; exact hci) hmk hb he)
          refine ⟨hI1.toFrW, fun i ob hob => ?_, fun i i' c c' b hi hi' => ?_, fun b hb => ?_, fun i c b hi hc hb hS => ?_, fun i c b hi => ?_⟩
          · obtain ⟨e1, e2⟩ := hsub i (by rw [hob]; simp)
            rw [← e2] at hob
            obtain ⟨c, g3, g4⟩ := hI1.sat i ob hob
            exact ⟨c, g3, g4.stay hle2 (Stay.refl _ _) (fun _ _ => rfl)⟩
          · obtain ⟨e1, e2⟩ := hsub i hi
            obtain ⟨e3, e4⟩ := hsub i' hi'
            exact hI1.inj i i' c c' b (by rw [e2]; exact hi) (by rw [e4]; exact hi')
          · rcases hb with hb | hb
            · exact hI1.stab b hb
            · exact hlt b hb
          · obtain ⟨e1, e2⟩ := hsub i hi
            rcases hS with hS | hS
            · exact hI1.apart i c b (by rw [e2]; exact hi) hc hb hS
            · exact hnk i e1 c b (by rw [e2]; exact hi) hc hb hS
          · obtain ⟨e1, e2⟩ := hsub i hi
            exact hI1.mine i c b (by rw [e2]; exact hi)
        refine ⟨g2, hle.trans hle2, hm, hβ, hI2, ?_, ?_, ?_⟩
        · refine VRels.cons.2 ⟨_, r, rfl, ?_, hv.stay hle2 (Stay.refl _ _)⟩
          simp only [VRel]
          obtain ⟨cells, ho, hr⟩ := hs
          rcases ho.2 with ⟨g3, g4⟩ | ⟨b, cap', cur, fz, g3, _, g4, g5, _, g6, g7⟩
          · injection g3 with e1 e2 e3
            subst e1 e2 e3
            have hx : xs = [] := List.eq_nil_of_length_eq_zero g4
            subst hx
            exact ⟨none, 0, rfl, by simp, fun i hi => by simp at hi⟩
          · injection g3 with e1 e2 e3
            subst e1 e2 e3
            refine ⟨some ⟨b, 0, none⟩, cap, rfl, g5, fun i hi => ⟨b, 0, rfl, .inr rfl, (cells.drop (i * t.cells)).take t.cells, ?_, ?_, ?_⟩⟩
            · exact (hr.get i hi).len
            · have hat : CellsAt w b 0 cells := fun j v hj => by
                rw [cell_of_row w b _ _ _ _ g4]
                rw [← g7, List.getElem?_take] at hj
                split at hj
                · simpa using hj
                · cases hj
              exact cellsAt_sub hat (i * t.cells) t.cells
            · exact (hr.get i hi).stay (fun b hb => .inl (hle.S b hb)) (Stay.refl _ _)
        · intro i x hx
          by_cases e : k = i
          · subst e
            have : Nat.beq k k = true := by simp
            simp only [look, this, Option.some.injEq] at hx
            exact hx.symm
          · have : Nat.beq k i = false := beq_ne e
            simp only [look, this] at hx
            exact hno i x hx
        · intro b hb
          rcases hb with hb | hb
          · exact hSn b hb
          · exact .inr (hI.mine k _ b (by rw [hk]; simp) hmk hb)
      · cases h
    · rename_i a0 l0 hnk
      injection heq with e1 e2
      subst e1 e2
      split at h
      · rename_i r0 p0 hst
        simp only [Option.some.injEq, Prod.mk.injEq] at h
        obtain ⟨rfl, rfl⟩ := h
        obtain ⟨g1, hle, hm, hβ, hI1, hv, hno, hSn⟩ := stills_ok hI hst h3
        exact ⟨g1, hle, hm, hβ, hI1, VRels.cons.2 ⟨c, r, rfl, h2.stay hle (Stay.refl _ _), hv⟩, hno, hSn⟩
      · cases h
end
end Go.Proofs.Ytmkbigaofhionaa
