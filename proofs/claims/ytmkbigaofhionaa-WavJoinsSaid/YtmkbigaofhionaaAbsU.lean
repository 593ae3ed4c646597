/- Maps: each operation of the abstract machine is what the model does; no program. -/
import Derived.Test.YtmkbigaofhionaaAbsQ
import Derived.MapKept
import Derived.Lib.ConvBytes
import Derived.Laws.IdiomStrings
namespace Go.Proofs.Ytmkbigaofhionaa
open Go.RowKit Go.MapKept
set_option linter.unusedVariables false
set_option linter.unusedSimpArgs false

theorem keyEq_eq : ∀ {t : Ty} {a b : t.Val}, keyEq t a b = true → a = b
  | .int _, a, b, h => by simpa [keyEq] using h
  | .bool, a, b, h => by simpa [keyEq] using h
  | .str, a, b, h => by simpa [keyEq] using h
  | .slice _ _, _, _, h => by simp [keyEq] at h
  | .unit, _, _, h => by simp [keyEq] at h
  | .pair _ _, _, _, h => by simp [keyEq] at h

theorem bytes_eq (a b : ByteArray) : (a == b) = decide (a = b) := by rw [beq_toListBytes, toList_inj]

theorem same_now {u : TypeDesc} {kt : Ty} (h : keyKind u kt = true) (a b : kt.Val) : Instr.sameNow u (keyV kt a) (keyV kt b) = some (keyEq kt a b) := by
  cases kt <;> cases u <;> simp only [keyKind, decide_eq_true_eq, Bool.false_eq_true] at h <;> simp only [keyV, Instr.sameNow, keyEq, if_true, bytes_eq]

theorem key_is {u : TypeDesc} {kt : Ty} (h : keyKind u kt = true) (a : kt.Val) : IsKey u (keyV kt a) := by
  cases kt <;> cases u <;> simp only [keyKind, decide_eq_true_eq, Bool.false_eq_true] at h <;> simp only [keyV, IsKey]
  exact h.symm

theorem find_ok {u : TypeDesc} {S : Nat → Prop} {w : World} {ag : Bool} {kt et : Ty} (hk : keyKind u kt = true) (key : kt.Val) (d : et.Val) : ∀ {l : List (kt.Val × et.Val)} {es : List MapEntry} (n : Nat), RepM S w ag kt et l es →
    (mapGet key l = none ∧ Instr.findNow u (keyV kt key) es n = some none ∧ ∀ e', e'.key = keyV kt key → ∀ S' w', RepM S' w' ag kt et l es → ValS S' w' ag et d e'.val → RepM S' w' ag kt et (mapPut key d l) (es ++ [e'])) ∨
    (∃ x i e, mapGet key l = some x ∧ Instr.findNow u (keyV kt key) es n = some (some (n + i, e.val)) ∧ es[i]? = some e ∧ e.key = keyV kt key ∧ ValS S w ag et x e.val ∧
      ∀ e', e'.key = keyV kt key → ∀ S' w', RepM S' w' ag kt et l es → ValS S' w' ag et d e'.val → RepM S' w' ag kt et (mapPut key d l) (es.set i e'))
  | [], es, n, h => by
    simp only [RepM] at h; subst h
    exact .inl ⟨rfl, rfl, fun e' he S' w' _ hv => ⟨e', [], rfl, he, hv, rfl⟩⟩
  | p :: l, es, n, h => by
    obtain ⟨e, r, rfl, h2, h3, h4⟩ := h
    cases hq : keyEq kt key p.1 with
    | true =>
      have e1 := keyEq_eq hq
      refine .inr ⟨p.2, 0, e, by simp only [mapGet, hq], ?_, rfl, by rw [h2, e1], h3, ?_⟩
      · simp only [Instr.findNow, h2, same_now hk, hq, Nat.add_zero]
      · intro e' he S' w' hr hv
        obtain ⟨e2, r2, hh, _, _, h5⟩ := hr
        injection hh with hh1 hh2
        subst hh1 hh2
        simp only [mapPut, hq, List.set_cons_zero]
        exact ⟨e', _, rfl, he, hv, h5⟩
    | false =>
      rcases find_ok hk key d (n + 1) h4 with ⟨g1, g2, g3⟩ | ⟨x, i, e2, g1, g2, g3, g4, g5, g6⟩
      · refine .inl ⟨by simp only [mapGet, hq, g1], by simp only [Instr.findNow, h2, same_now hk, hq, g2], ?_⟩
        intro e' he S' w' hr hv
        obtain ⟨e3, r3, hh, h6, h7, h8⟩ := hr
        injection hh with hh1 hh2
        subst hh1 hh2
        simp only [mapPut, hq]
        exact ⟨e, _, rfl, h6, h7, g3 e' he S' w' h8 hv⟩
      · refine .inr ⟨x, i + 1, e2, by simp only [mapGet, hq, g1], ?_, by simpa using g3, g4, g5, ?_⟩
        · simp only [Instr.findNow, h2, same_now hk, hq, g2]
          rw [show n + 1 + i = n + (i + 1) by omega]
        · intro e' he S' w' hr hv
          obtain ⟨e3, r3, hh, h6, h7, h8⟩ := hr
          injection hh with hh1 hh2
          subst hh1 hh2
          simp only [mapPut, hq, List.set_cons_succ]
          exact ⟨e, _, rfl, h6, h7, g6 e' he S' w' h8 hv⟩

theorem mapT_ok {P : Program} {tt : TypeId → Option TInf} (htt : TTok P tt) {T : TypeId} {kt et : Ty} {ei : TInf} (h : mapT tt T = some (kt, et, ei)) :
    ∃ K E u, P.underlying T = some (.map K E) ∧ P.underlying K = some u ∧ keyKind u kt = true ∧ tt E = some ei := by
  unfold mapT at h
  split at h
  · rename_i i hi
    obtain ⟨hu, _⟩ := htt T i hi
    split at h
    · rename_i K E hiu
      split at h
      · rename_i ki ei' hK hE
        obtain ⟨hk, _⟩ := htt K ki hK
        split at h
        · rename_i kt' et' h1 h2
          split at h
          · rename_i hkk
            simp only [Option.some.injEq, Prod.mk.injEq] at h
            obtain ⟨rfl, rfl, rfl⟩ := h
            exact ⟨K, E, ki.u, by rw [hu, hiu], hk, hkk, hE⟩
          · cases h
        · cases h
      · cases h
    · cases h
  · cases h

theorem stills_rows {hp : Heap} : ∀ {l l' : List AV} {p : Pat} {k : Nat} {x : Option OB}, stills hp l = some (l', p) → look k p = some x → ∃ E t xs, hp k = some (.row E t xs)
  | [], l', p, k, x, h, hl => by
    simp only [stills, Option.some.injEq, Prod.mk.injEq] at h
    obtain ⟨rfl, rfl⟩ := h
    simp [look] at hl
  | a :: l, l', p, k, x, h, hl => by
    unfold stills at h
    split at h <;> rename_i heq
    · cases heq
    · rename_i i l0
      injection heq with e1 e2
      subst e1 e2
      split at h
      · rename_i E t xs r0 p0 hk hst
        simp only [Option.some.injEq, Prod.mk.injEq] at h
        obtain ⟨rfl, rfl⟩ := h
        simp only [look] at hl
        split at hl
        · rename_i hb
          have := beq_eq hb
          subst this
          exact ⟨E, t, xs, hk⟩
        · exact stills_rows hst hl
      · cases h
    · injection heq with e1 e2
      subst e1 e2
      split at h
      · rename_i r0 p0 hst
        simp only [Option.some.injEq, Prod.mk.injEq] at h
        obtain ⟨rfl, rfl⟩ := h
        exact stills_rows hst hl
      · cases h

section
variable {P : Program} {O : Nat → Prop} {w0 w : World} {g : G} {hp : Heap} {nx : Nat} {Z : TypeId → AV → Prop}

theorem dec_key {u : TypeDesc} {kt : Ty} (hk : keyKind u kt = true) {x : AV} {key : kt.Val} (h : dec kt [nb x] = some (key, [])) {c : Value} (hx : VRel g w x c) : c = keyV kt key := by
  obtain ⟨c1, c2, e1, e2, e3⟩ := dec_ok h (VRels.cons.2 ⟨c, [], rfl, hx.nb, VRels.nil.2 rfl⟩)
  rw [VRels.nil.1 e3, List.append_nil] at e1
  subst e1
  cases kt <;> simp only [RepS, List.cons.injEq, and_true] at e2 <;> first | exact e2 | (cases u <;> simp [keyKind] at hk)

theorem run_getObj' {r : Nat} {es : Array MapEntry} {clock : Nat} (h : w.heap[r]? = some (.map es clock)) : (getObj r).run P w = .ok (.map es clock) w := by simp [getObj, Sem.run, h]

theorem headOr_ok {K : AV → Prop} {ag : Bool} {t : Ty} {x : t.Val} {v : Value} (hv : ValS g.S w ag t x v) (h : (headOr ag (cellsAV t x)).wp K Z) : ∃ a, VRel g w a v ∧ K a := by
  cases ag with
  | true =>
    obtain ⟨cs, rfl, hr⟩ := hv
    exact ⟨_, by simp only [VRel]; exact ⟨cs, hr.cells, rfl⟩, h⟩
  | false =>
    have hc := RepS.cells (g := g) hv
    unfold headOr at h
    simp only at h
    split at h
    · rename_i a he
      rw [he] at hc
      obtain ⟨c, r, h1, h2, _⟩ := VRels.cons.1 hc
      injection h1 with h1
      rw [h1]; exact ⟨a, h2, h⟩
    · exact h.elim

theorem zero_val {ei : TInf} {et : Ty} {z : et.Val} (h : dec et (zeroCells ei) = some (z, [])) : ValS g.S w (isStr (.v ei.zero)) et z ei.zero := by
  obtain ⟨c1, c2, e1, e2, e3⟩ := dec_ok h (zero_rel (g := g) (w := w))
  rw [VRels.nil.1 e3, List.append_nil] at e1
  subst e1
  cases hz : ei.zero with
  | agg cs => rw [hz] at e2; exact ⟨cs.toList, by simp, by simpa [Value.cells] using e2⟩
  | _ => rw [hz] at e2; simpa [isStr, ValS, Value.cells] using e2

theorem lookup_ok {K : AV → Prop} (hI : Inv O w0 g hp w) {T : TypeId} {tt : TypeId → Option TInf} (htt : TTok P tt) {m x : AV} {cm cx : Value} {ok : Bool} (hm : VRel g w m cm) (hx : VRel g w x cx) (h : (lookupA tt hp T m x ok).wp K Z) :
    Same P g w (Instr.lookup T cm cx ok) K := by
  unfold lookupA at h
  split at h
  · rename_i k
    split at h
    · rename_i ag kt et l kt' et' ei hk hT
      split at h
      · rename_i h1 h2 h3 key z q1 q2 q3 hd hz
        subst h1 h2
        obtain ⟨KT, E, u, hu, hku, hkk, hE⟩ := mapT_ok htt hT
        obtain ⟨hue, ⟨j, hj, _, _, hjz⟩, _⟩ := htt E ei hE
        simp only [VRel] at hm
        obtain ⟨c, hc, b, es, clock, rfl, hb, hr⟩ := hI.sat k _ hk
        rw [hm.1] at hc; injection hc with hc; subst hc
        have hkey := dec_key hkk hd hx
        have hck := run_checkKey (P := P) (w := w) hku (hkey ▸ key_is hkk key) es.isEmpty 9999
        have hz' : (zeroValue E).run P w = .ok ei.zero w := run_zero' hj hjz w
        have base : ∀ (fo : Option (Nat × Value)) (v : Value) (b' : Bool), Instr.findNow u (keyV kt key) es.toList 0 = some fo → (match fo with
            | some (_, v') => v' = v ∧ b' = true
            | none => v = ei.zero ∧ b' = false) → (Instr.lookup T (.map (some b)) cx ok).run P w = .ok (if ok then .tuple #[v, .bool b'] else v) w := by
          intro fo v b' hfo hv
          have hfk := run_findKey (P := P) (w := w) hku hfo
          rw [← hkey] at hfk
          simp only [Instr.lookup, Sem.run_bind, run_underlying hu, Result.andThen_ok, run_getObj' hb, Sem.run_pure, hck, hfk]
          cases fo with
          | none => obtain ⟨rfl, rfl⟩ := hv; simp only [Sem.run_bind, hz', Result.andThen_ok, Sem.run_pure]
          | some p => obtain ⟨i, v'⟩ := p; obtain ⟨rfl, rfl⟩ := hv; simp only [Sem.run_bind, Sem.run_pure, Result.andThen_ok]
        have fin : ∀ (v : Value) (b' : Bool), (Instr.lookup T (.map (some b)) cx ok).run P w = .ok (if ok then .tuple #[v, .bool b'] else v) w → ValS g.S w ag et ((mapGet key l).getD z) v → (mapGet key l).isSome = b' → Same P g w (Instr.lookup T (.map (some b)) cx ok) K := by
          intro v b' hrun hv hs
          have h := R.wp_bind h
          obtain ⟨a, ha, h⟩ := headOr_ok hv h
          cases ok with
          | true =>
            simp only [if_true] at hrun
            simp only [R.wpE1, R.wpE2, R.wpE3, R.wpE4, R.wpE5, R.wpE6, hs] at h
            exact ⟨_, _, hrun, by simp only [VRel]; exact ⟨[v, .bool b'], VRels.cons.2 ⟨_, _, rfl, ha, VRels.cons.2 ⟨_, [], rfl, VRel.v_iff.2 rfl, VRels.nil.2 rfl⟩⟩, rfl⟩, h⟩
          | false =>
            simp only [Bool.false_eq_true, if_false] at hrun
            exact ⟨v, a, hrun, ha, h⟩
        rcases find_ok hkk key z 0 hr with ⟨g1, g2, _⟩ | ⟨x0, i, e, g1, g2, g3, g4, g5, _⟩
        · exact fin ei.zero false (base none _ _ g2 ⟨rfl, rfl⟩) (by rw [g1, h3]; exact zero_val hz) (by rw [g1]; rfl)
        · exact fin e.val true (base _ _ _ g2 ⟨rfl, rfl⟩) (by rw [g1]; exact g5) (by rw [g1]; rfl)
      · exact h.elim
    · exact h.elim
  · exact h.elim

/-- A map's block gets other entries. -/
theorem good_map (hI : Inv O w0 g hp w) {K : Out → Prop} {k : Nat} {b : Nat} {ob ob' : OB} {es : Array MapEntry} {clock : Nat} {o : Obj} (hk : hp k = some ob) (hm : g.m k = some (.map (some b))) (hb : w.heap[b]? = some (.map es clock))
    (hob : Stay g.S w { w with heap := w.heap.setIfInBounds b o } → ({ w with heap := w.heap.setIfInBounds b o } : World).heap[b]? = some o → OBSat g { w with heap := w.heap.setIfInBounds b o } (.map (some b)) ob') (hK : K (.v undef, [(k, some ob')])) :
    Good O w0 g hp nx w K undef { w with heap := w.heap.setIfInBounds b o } := by
  obtain ⟨hs1, hs2⟩ := heap_set (o' := o) hb
  have hbb : blkOf (.map (some b)) = some b := rfl
  have hnS : ¬ g.S b := hI.apart k _ b (by rw [hk]; simp) hm hbb
  have hst : Stay g.S w { w with heap := w.heap.setIfInBounds b o } := fun b' hb' => hs2 b' (fun e => hnS (e ▸ hb'))
  refine ⟨.v undef, [(k, some ob')], g, hK, G.le.refl g, NewIn.refl O w0 g nx, ?_, hst, VRel.v_iff.2 rfl⟩
  refine (hI.step (w' := { w with heap := w.heap.setIfInBounds b o }) (hp' := patch [(k, some ob')] hp) (fun i => i = k) (G.le.refl g) (fun _ h => h) rfl rfl rfl (by simp) (fun b' hb' h => ?_) ?_ ?_ ?_).1
  · exact hs2 b' (fun e => h k _ rfl (by rw [hk]; simp) hm (by rw [hbb, e]))
  · intro i hi
    have : Nat.beq k i = false := beq_ne (fun e => hi e.symm)
    simp only [patch, look, this]
  · rintro i ob1 rfl h1
    have : Nat.beq i i = true := by simp
    simp only [patch, look, this] at h1
    injection h1 with h1; subst h1
    exact ⟨_, hm, hob hst hs1, fun b' hb' => .inr ⟨i, _, rfl, by rw [hk]; simp, hm, hb'⟩⟩
  · rintro i i' _ _ _ rfl rfl; intros; rfl

theorem val_of {ag : Bool} {t : Ty} {y : AV} {c : Value} {d : t.Val} {yc : List AV} {g1 : G} (hy : VRel g w y c) (h1 : ag = isStr y) (h2 : ag = isAggV y) (hv : VRels g1 w yc c.cells.toList) (hd : dec t yc = some (d, [])) : ValS g1.S w ag t d c := by
  obtain ⟨c1, c2, e1, e2, e3⟩ := dec_ok hd hv
  rw [VRels.nil.1 e3, List.append_nil] at e1
  subst e1
  cases ag with
  | true =>
    obtain ⟨cs, rfl, _⟩ := str_agg hy h1.symm
    exact ⟨cs.toList, by simp, by simpa [Value.cells] using e2⟩
  | false =>
    have hone := hy.one h2.symm
    have : c.cells = #[c] := by cases c <;> first | rfl | (simp [Value.oneCell'] at hone)
    rw [this] at e2
    simpa [ValS] using e2

theorem update_ok (hI : Inv O w0 g hp w) {K : Out → Prop} {T : TypeId} {tt : TypeId → Option TInf} (htt : TTok P tt) {m x y : AV} {cm cx cy : Value} (hm : VRel g w m cm) (hx : VRel g w x cx) (hy : VRel g w y cy) (h : (updateA tt hp T m x y).wp K Z) :
    ∃ w', (Instr.mapUpdate T cm cx cy).run P w = .ok () w' ∧ Good O w0 g hp nx w K undef w' := by
  unfold updateA at h
  split at h
  · rename_i k
    split at h
    · rename_i ag kt et l kt' et' ei yc hk hT hyc
      rw [force_eq] at hyc; injection hyc with hyc; subst hyc
      split at h
      · rename_i h1 h2 h3 h4 key yc' p q1 q2 q3 q4 hd hst
        subst h1 h2
        split at h
        · rename_i d hdec
          obtain ⟨KT, E, u, hu, hku, hkk, hE⟩ := mapT_ok htt hT
          simp only [VRel] at hm
          obtain ⟨c, hc, b, es, clock, rfl, hb, hr⟩ := hI.sat k _ hk
          rw [hm.1] at hc; injection hc with hc; subst hc
          have hkey := dec_key hkk hd hx
          have hik : IsKey u cx := hkey ▸ key_is hkk key
          have hck := run_checkKey (P := P) (w := w) hku hik false 9999
          obtain ⟨g1, hle, hgm, hgβ, hI1, hv1, hno, hSn⟩ := stills_ok hI hst hy.cells
          -- the map itself is still there
          have hk1 : patch p hp k = some (.map ag kt et l) := by
            unfold patch
            cases hl : look k p with
            | none => exact hk
            | some q =>
              exfalso
              obtain ⟨E', t', xs', hrow⟩ := stills_rows hst hl
              rw [hk] at hrow; cases hrow
          have hm1 : g1.m k = some (.map (some b)) := by rw [hgm]; exact hm.1
          have hval : ∀ S' w', (∀ b, g1.S b → S' b) → Stay g1.S w w' → ValS S' w' ag et d cy := fun S' w' hS hw => (val_of hy h3 h4 hv1 hdec).stay hS hw
          have hrS : RepM g1.S w ag kt et l es.toList := hr.stay hle.S (Stay.refl _ _)
          have go : ∀ (o : Obj), (Instr.mapUpdate T (.map (some b)) cx cy).run P w = .ok () { w with heap := w.heap.setIfInBounds b o } →
              (∀ w', Stay g1.S w w' → w'.heap[b]? = some o → OBSat g1 w' (.map (some b)) (.map ag kt et (mapPut key d l))) →
              ∃ w', (Instr.mapUpdate T (.map (some b)) cx cy).run P w = .ok () w' ∧ Good O w0 g hp nx w K undef w' := by
            intro o hrun hsat
            refine ⟨_, hrun, ?_⟩
            have hgood : Good O w0 g1 (patch p hp) nx w (fun q => K (q.1, q.2 ++ p)) undef { w with heap := w.heap.setIfInBounds b o } := good_map hI1 hk1 hm1 hb (fun hst hbk => hsat _ hst hbk) h
            obtain ⟨a, q, g', k1, k2, k3, k4, k5, k6⟩ := good_le hle hgm hgβ hSn hgood
            exact ⟨a, q ++ p, g', k1, k2, k3, by rw [patch_append]; exact k4, k5, k6⟩
          rcases find_ok hkk key d 0 hr with ⟨e1, e2, e3⟩ | ⟨x0, i, e, e1, e2, e3, e4, e5, e6⟩
          · have hfk := run_findKey (P := P) (w := w) hku e2
            rw [← hkey] at hfk
            refine go (.map (es.push { key := cx, val := cy, born := clock }) (clock + 1)) ?_ (fun w' hs hbk => ⟨b, _, _, rfl, hbk, ?_⟩)
            · simp only [Instr.mapUpdate, Sem.run_bind, run_underlying hu, Result.andThen_ok, run_getObj' hb, hck, hfk, run_setObj_map _ hb]
            · rw [Array.toList_push]
              exact e3 _ hkey _ _ (hrS.stay (fun _ h => h) hs) (hval _ _ (fun _ h => h) hs)
          · have hfk := run_findKey (P := P) (w := w) hku e2
            rw [← hkey] at hfk
            rw [Nat.zero_add] at hfk
            have hei : es[i]? = some e := by simpa using e3
            have hks : e.key = cx := by rw [e4, hkey]
            have hkt := run_keyThatStays (P := P) (w := w) hik
            refine go (.map (es.modify i fun e => { e with key := cx, val := cy }) clock) ?_ (fun w' hs hbk => ⟨b, _, _, rfl, hbk, ?_⟩)
            · simp only [Instr.mapUpdate, Sem.run_bind, run_underlying hu, Result.andThen_ok, run_getObj' hb, hck, hfk, hei, Option.map_some, Option.getD_some, hks, hkt, run_setObj_map _ hb]
            · have : (es.modify i fun e => { e with key := cx, val := cy }).toList = es.toList.set i { e with key := cx, val := cy } := by
                apply List.ext_getElem?
                intro j
                have hlt := (Array.getElem?_eq_some_iff.1 hei).1
                rw [Array.getElem?_toList, Array.getElem?_modify, List.getElem?_set]
                by_cases hj : i = j
                · subst hj
                  have hge := (Array.getElem?_eq_some_iff.1 hei).2
                  simp [hlt, hge]
                · simp [hj]
              rw [this]
              exact e6 _ hkey _ _ (hrS.stay (fun _ h => h) hs) (hval _ _ (fun _ h => h) hs)
        · exact h.elim
      · exact h.elim
    · exact h.elim
  · exact h.elim

theorem make_ok (hI : Inv O w0 g hp w) (hf : ∀ k, nx ≤ k → k < nx + 64 → g.m k = none ∧ g.β k = none) {K : Out → Prop} {T : TypeId} {ag : Bool} {kt et : Ty} (h : K (.mp nx, [(nx, some (.map ag kt et []))])) :
    ∃ c w', (Instr.makeMap T none).run P w = .ok c w' ∧ Good O w0 g hp nx w K c w' := by
  refine ⟨.map (some w.heap.size), w.alloc (.map #[] 0), ?_, ?_⟩
  · simp [Instr.makeMap, newObj, Sem.run]
  · refine good_new (a := .mp nx) (ob := .map ag kt et []) hI hf _ _ rfl w rfl rfl rfl rfl h (fun g' hg' => ?_) (fun g' hle' hg' hst' => ?_)
    · simp only [VRel]; exact ⟨hg', _, rfl⟩
    · exact ⟨w.heap.size, #[], 0, rfl, heap_alloc_new w _, rfl⟩
/-- What is said of a type of bytes. -/
theorem isByte_ok {e : TInf} (h : isByte e = true) : e.code = some (.int .u8) ∧ e.u = .int .u8 ∧ e.zero = .int .u8 0 ∧ e.bytes = 1 ∧ e.size = 1 := by
  unfold isByte at h
  split at h
  · rename_i h1 h2 h3
    simp only [Bool.and_eq_true] at h
    exact ⟨h1, h2, h3, beq_eq h.1, beq_eq h.2⟩
  · cases h

theorem bytesWorld_alloc (w : World) (e : TypeId) (s : ByteArray) : Lib.bytesWorld w e s = w.drew.alloc (.cells (Lib.bytesCells w e s) e ((Lib.bytesCells w e s).size, (Lib.bytesCells w e s).size + 1)) := by
  have hh : (Lib.bytesWorld w e s).heap = (w.drew.alloc (.cells (Lib.bytesCells w e s) e ((Lib.bytesCells w e s).size, (Lib.bytesCells w e s).size + 1))).heap := by
    apply Array.ext_getElem?
    intro k
    rcases Nat.lt_trichotomy k w.heap.size with h | h | h
    · rw [Lib.bytesWorld_at_old w e s k h]
      exact (Below.heap_alloc w.drew _ k h).symm
    · subst h
      rw [Lib.bytesWorld_at_new]
      exact (heap_alloc_new w.drew _).symm
    · rw [Array.getElem?_eq_none (by rw [Lib.bytesWorld_size]; omega), Array.getElem?_eq_none (by simp; omega)]
  have h2 : ∀ a b : World, a.heap = b.heap → a.os = b.os → a.tape = b.tape → a.output = b.output → a.drawn = b.drawn → { a with heap := b.heap } = b → a = b := by
    intro a b h1 _ _ _ _ h6
    rw [← h6, ← h1]
  refine h2 _ _ hh rfl rfl rfl rfl ?_
  rfl

theorem bytesOf_ok {xs : List Int} {cs : List Value} (h : RepL g.S w (.int .u8) xs cs) (hb : bytesIn xs) : cs = (sOf xs).data.toList.map (fun b => Value.int .u8 (b.toNat : Int)) ∧ (sOf xs).data.toList.length = xs.length := by
  refine ⟨?_, by simp [sOf]⟩
  induction xs generalizing cs with
  | nil => simp only [RepL] at h; subst h; rfl
  | cons x xs ih =>
    obtain ⟨l, r, rfl, h1, h2⟩ := h
    have := ih h2 (fun y hy => hb y (by simp [hy]))
    rw [this]
    have hx := hb x (by simp)
    simp only [RepS] at h1
    subst h1
    have e1 : ((UInt8.ofNat x.toNat).toNat : Int) = x := by
      rw [UInt8.toNat_ofNat']; omega
    simp [sOf]
    omega

theorem convB_ok (hI : Inv O w0 g hp w) (hf : ∀ k, nx ≤ k → k < nx + 64 → g.m k = none ∧ g.β k = none) {K : Out → Prop} {src dst : TypeId} {tt : TypeId → Option TInf} (htt : TTok P tt) {a : AV} {ca : Value} (ha : VRel g w a ca) (h : (convB tt hp nx src dst a).wp K Z) :
    ∃ c w', (convert src dst ca).run P w = .ok c w' ∧ Good O w0 g hp nx w K c w' := by
  unfold convB at h
  split at h
  · rename_i i j hi hj
    obtain ⟨hu, _⟩ := htt _ _ hi
    obtain ⟨hv, _⟩ := htt _ _ hj
    split at h
    · rename_i E hiu hju
      rw [hiu] at hu; rw [hju] at hv
      split at h
      · rename_i e s hE
        split at h
        · rename_i hb
          obtain ⟨b1, b2, b3, b4, b5⟩ := isByte_ok hb
          obtain ⟨he, _⟩ := htt _ _ hE
          rw [b2] at he
          rw [VRel.v_iff] at ha; subst ha
          obtain ⟨hs, h⟩ := h
          refine ⟨_, _, Lib.run_convert_string_bytes (P := P) w src dst E s hu hv he, ?_⟩
          rw [bytesWorld_alloc]
          have hge := grownCap_ge w s.size 0 E
          have hcm := grownCap_le_maxLen w s.size 0 E (by unfold maxLen; omega)
          have hsz : (Lib.bytesCells w E s).size = grownCap w s.size 0 E := by
            have : s.data.size = s.size := rfl
            simp [Lib.bytesCells]; omega
          refine good_new (a := .own nx) (ob := .row E (.int .u8) (bList s)) hI hf _ _ rfl w.drew rfl rfl rfl rfl h (fun g' hg' => ?_) (fun g' hle' hg' hst' => ?_)
          · simp only [VRel]; exact ⟨hg', _, _, _, rfl⟩
          · have hbl : (bList s).length = s.size := by unfold bList; simp
            refine ⟨Lib.strCells s, ⟨by rw [hbl, Lib.strCells_length]; simp [Ty.cells], .inr ⟨w.heap.size, _, _, _, by rw [hbl], .inr (Nat.le_refl _), heap_alloc_new w.drew _, by rw [hbl]; exact hge, hcm, by simp [Ty.cells, hsz], ?_⟩⟩, strCells_rep _ s⟩
            rw [hbl]
            have e1 : (Lib.bytesCells w E s).toList = Lib.strCells s ++ List.replicate (grownCap w s.size 0 E - s.size) (.int .u8 0) := by
              simp [Lib.bytesCells, Lib.strCells]
            rw [e1]
            have e2 : s.size * Ty.cells (.int .u8) = (Lib.strCells s).length := by rw [Lib.strCells_length]; simp [Ty.cells]
            rw [e2]
            exact List.take_left
        · exact h.elim
      · exact h.elim
    · rename_i E hiu hju
      rw [hiu] at hu; rw [hju] at hv
      split at h
      · rename_i e hE
        split at h
        · rename_i hb
          obtain ⟨b1, b2, b3, b4, b5⟩ := isByte_ok hb
          obtain ⟨he, _⟩ := htt _ _ hE
          rw [b2] at he
          split at h
          · rename_i xs hxs
            obtain ⟨hb, h⟩ := h
            obtain ⟨A, cap, news, rfl, hr, hcells⟩ := asList_ok hI ha hxs
            obtain ⟨e1, e2⟩ := bytesOf_ok hr hb
            have hst : (convert src dst (.slice A xs.length cap)).run P w = .ok (.string (sOf xs)) w := by
              cases A with
              | some ad =>
                have := run_convert_bytes_back (P := P) w src dst E ad cap (sOf xs).data.toList hu he hv (fun j hj => by
                  have : news[j]? = some (.int .u8 ((sOf xs).data.toList[j].toNat : Int)) := by rw [e1, List.getElem?_map, List.getElem?_eq_getElem hj]; rfl
                  obtain ⟨ad', h6, h7⟩ := hcells j _ this
                  injection h6 with h6; subst h6; exact h7)
                rw [e2] at this
                simpa only [Array.toArray_toList] using this
              | none =>
                have hx : xs = [] := by
                  cases xs with
                  | nil => rfl
                  | cons x xs =>
                    obtain ⟨l, r, rfl, h1, _⟩ := hr
                    simp only [RepS] at h1; subst h1
                    obtain ⟨ad, h6, _⟩ := hcells 0 _ rfl
                    cases h6
                subst hx
                show (convert src dst (.slice none 0 cap)).run P w = _
                rw [run_convert_bytes_string w src dst E none 0 cap hu he hv]
                simp [Conv.bytesToString, loadCells, loadCellsFrom, sOf]
                rfl
            exact ⟨_, w, hst, good_same hI h (VRel.v_iff.2 rfl)⟩
          · exact h.elim
        · exact h.elim
      · exact h.elim
    · have h := R.wp_bind h
      obtain ⟨c, a', h1, h2, h3⟩ := convA_ok htt ha h
      exact ⟨c, w, h1, good_same hI h3 h2⟩
  · exact h.elim

theorem makeA_ok (hI : Inv O w0 g hp w) (hf : ∀ k, nx ≤ k → k < nx + 64 → g.m k = none ∧ g.β k = none) {K : Out → Prop} {T : TypeId} {tt : TypeId → Option TInf} (htt : TTok P tt) {l c : AV} {cl cc : Value} (hl : VRel g w l cl) (hc : VRel g w c cc) (h : (makeA tt nx T l c).wp K Z) :
    ∃ v w', (Instr.makeSlice T cl cc).run P w = .ok v w' ∧ Good O w0 g hp nx w K v w' := by
  unfold makeA at h
  split at h
  · rename_i kl l kc c i hT
    rw [VRel.v_iff] at hl hc; subst hl hc
    obtain ⟨hu, _⟩ := htt _ _ hT
    split at h
    · rename_i E hiu
      rw [hiu] at hu
      split at h
      · rename_i e hE
        obtain ⟨_, ⟨j, hj, hsz, hby, hz⟩, hzs, hz1, hcode, _⟩ := htt E e hE
        split at h
        · rename_i t ht
          obtain ⟨hcs, hpos, hbpos⟩ := hcode t ht
          split at h
          · rename_i z hd
            obtain ⟨⟨h0, h1, h2⟩, h⟩ := h
            have hc63 : c ≤ 140737488355328 := by
              have : c ≤ (e.bytes : Int) * c := by
                have hb : (1 : Int) ≤ e.bytes := by omega
                have := Int.mul_le_mul_of_nonneg_right hb (show 0 ≤ c by omega)
                omega
              omega
            have hrun := run_make (P := P) w T E j e.zero hu hj hz kl kc l c h0 h1 (by rw [hby]; omega) (by omega)
            refine ⟨_, _, hrun, ?_⟩
            have hm : (madeCells e.zero.cells (c.toNat * j.size)).toList = (List.replicate c.toNat e.zero.cells.toList).flatten := by
              have hzl : e.zero.cells.toList.length = j.size := by rw [hsz]; simpa using hzs
              rw [← hzl, ← repC_range e.zero.cells.toList default c.toNat]
              simp only [madeCells, Array.toList_map, Array.toList_range]
              apply List.map_congr_left
              intro k _
              simp [Array.getElem!_eq_getD, Array.getD_eq_getD_getElem?]
            obtain ⟨c1, c2, e1, e2, e3⟩ := dec_ok hd (zero_rel (g := g) (w := w))
            rw [VRels.nil.1 e3, List.append_nil] at e1
            subst e1
            have hrep : ∀ n, RepL g.S w t (List.replicate n z) (List.replicate n e.zero.cells.toList).flatten := by
              intro n
              induction n with
              | zero => simp [RepL]
              | succ n ih => exact ⟨_, _, by rw [List.replicate_succ, List.flatten_cons], e2, ih⟩
            have hln := (hrep l.toNat).len
            rw [List.length_replicate] at hln
            refine good_new (a := .own nx) (ob := .row E t (List.replicate l.toNat z)) hI hf _ _ rfl w rfl rfl rfl rfl h (fun g' hg' => ?_) (fun g' hle' hg' hst' => ?_)
            · simp only [VRel]; exact ⟨hg', _, _, _, rfl⟩
            · refine ⟨_, ⟨by rw [List.length_replicate]; exact hln, .inr ⟨w.heap.size, _, _, (0, 0), by rw [List.length_replicate], .inl rfl, heap_alloc_new w _, by rw [List.length_replicate]; omega, by unfold maxLen; omega, ?_, ?_⟩⟩, (hrep l.toNat).stay hle'.S hst'⟩
              · have := congrArg List.length hm
                rw [(hrep c.toNat).len, List.length_replicate] at this
                simpa using this
              · rw [hm, List.length_replicate]
                have hsp : (List.replicate c.toNat e.zero.cells.toList).flatten = (List.replicate l.toNat e.zero.cells.toList).flatten ++ (List.replicate (c.toNat - l.toNat) e.zero.cells.toList).flatten := by
                  rw [← List.flatten_append, List.replicate_append_replicate]
                  congr 2; omega
                rw [hsp, ← hln]
                exact List.take_left
          · exact h.elim
        · exact h.elim
      · exact h.elim
    · exact h.elim
  · exact h.elim
end
end Go.Proofs.Ytmkbigaofhionaa
