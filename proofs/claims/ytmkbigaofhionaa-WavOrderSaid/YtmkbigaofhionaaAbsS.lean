/- One operation of the abstract machine is what the model does; calls by what is said of the callees; no program. -/
import Derived.Test.YtmkbigaofhionaaAbsU
namespace Go.Proofs.Ytmkbigaofhionaa
open Go.RowKit
set_option linter.unusedVariables false
set_option linter.unusedSimpArgs false

/-- A call that gives c and goes to w' is told by an answer in K; no truth has got a number. -/
def GoodC (O : Nat → Prop) (w0 : World) (g : G) (hp : Heap) (nx : Nat) (w : World) (K : Out → Prop) (c : Value) (w' : World) : Prop :=
  ∃ a p g', K (a, p) ∧ g.le g' ∧ NewIn O w0 g g' nx ∧ g'.β = g.β ∧ Inv O w0 g' (patch p hp) w' ∧ Stay g.S w w' ∧ VRel g' w' a c

/-- What a function does, said by an abstract answer. -/
def SpecOK (P : Program) (f : FuncId) (s : Spec) : Prop :=
  ∀ (O : Nat → Prop) (w0 w : World) (g : G) (hp : Heap) (nx : Nat) (args : List AV) (cargs : List Value) (K : Out → Prop) (Z : TypeId → AV → Prop),
    Inv O w0 g hp w → (∀ k, nx ≤ k → k < nx + 64 → g.m k = none ∧ g.β k = none) → VRels g w args cargs → (s args hp nx).wp K Z →
    Calls P f cargs.toArray w fun
      | .returned c, w' => GoodC O w0 g hp nx w K c w'
      | .panicked ch, w' => Bad O w0 Z ch w'
      | .outgrown, _ => False

def Enters (P : Program) (f : FuncId) : Prop := ∃ fn, P.funcs[f]? = some fn ∧ fn.body.isNone = false ∧ (fn.name == "runtime.NumGoroutine") = false

structure CxOK (P : Program) (cx : Cx) : Prop where
  tt : TTok P cx.tt
  ga : ∀ f s, cx.ga f = some s → SpecOK P f s ∧ Enters P f

theorem opt_wp {α β : Type} {r : Option α} {f : α → R β} {K : β → Prop} {Z : TypeId → AV → Prop} (h : (opt r f).wp K Z) : ∃ a, r = some a ∧ (f a).wp K Z := by
  unfold opt at h
  split at h
  · exact ⟨_, rfl, h⟩
  · exact h.elim
theorem pureO_wp {r : R AV} {K : Out → Prop} {Z : TypeId → AV → Prop} (h : (pureO r).wp K Z) : r.wp (fun a => K (a, [])) Z := R.wp_bind h
theorem tagR_eq (i : Nat) (a : AV) : tagR i a = .ok (tag i a) := by
  cases a with
  | v x => cases x <;> rfl
  | _ => rfl
theorem pureT_wp {nx : Nat} {r : R AV} {K : Out → Prop} {Z : TypeId → AV → Prop} (h : (pureT nx r).wp K Z) : r.wp (fun a => K (tag nx a, [])) Z :=
  R.wp_mono (fun a ha => by rw [tagR_eq] at ha; exact ha) (fun _ _ h => h) (R.wp_bind h)

section
variable {P : Program} {O : Nat → Prop} {w0 w : World} {g : G} {hp : Heap} {nx : Nat} {K : Out → Prop} {Z : TypeId → AV → Prop}

theorem did_same (hI : Inv O w0 g hp w) {s : Sem Value} (h : Same P g w s (fun a => K (a, []))) : Did P ((do pure (Next.value (← s)) : Sem Next).run P w) (Good O w0 g hp nx w K) (Bad O w0 Z) := by
  obtain ⟨c, a, h1, h2, h3⟩ := h
  simp only [Sem.run_bind, h1, Result.andThen_ok, Sem.run_pure, Did]
  exact good_same hI h3 h2
theorem did_tag (hI : Inv O w0 g hp w) (hf : ∀ k, nx ≤ k → k < nx + 64 → g.m k = none ∧ g.β k = none) {s : Sem Value} (h : Same P g w s (fun a => K (tag nx a, []))) : Did P ((do pure (Next.value (← s)) : Sem Next).run P w) (Good O w0 g hp nx w K) (Bad O w0 Z) := by
  obtain ⟨c, a, h1, h2, h3⟩ := h
  simp only [Sem.run_bind, h1, Result.andThen_ok, Sem.run_pure, Did]
  exact good_tag hI hf h3 h2
theorem did_run {s : Sem Value} (h : ∃ c w', s.run P w = .ok c w' ∧ Good O w0 g hp nx w K c w') : Did P ((do pure (Next.value (← s)) : Sem Next).run P w) (Good O w0 g hp nx w K) (Bad O w0 Z) := by
  obtain ⟨c, w', h1, h2⟩ := h
  simp only [Sem.run_bind, h1, Result.andThen_ok, Sem.run_pure, Did]
  exact h2

theorem evs_ok {ev : Operand → Option AV} {ρ : Operand → Value} (hev : ∀ x a, ev x = some a → VRel g w a (ρ x)) : ∀ {xs : List Operand} {l : List AV}, evs ev xs = some l → VRels g w l (xs.map ρ)
  | [], l, h => by simp only [evs, Option.some.injEq] at h; subst h; exact VRels.nil.2 rfl
  | x :: r, l, h => by
    simp only [evs, nbS_eq] at h
    split at h
    · rename_i a l' h1 h2
      injection h with h; subst h
      exact VRels.cons.2 ⟨_, _, rfl, (hev x a h1).nb, evs_ok hev h2⟩
    · cases h

/-- An answer whose truth gets a number. -/
theorem good_call (hf : ∀ k, nx ≤ k → k < nx + 64 → g.m k = none ∧ g.β k = none) {c : Value} {w' : World} (h : GoodC O w0 g hp nx w (fun r => K (tag nx r.1, r.2)) c w') : Good O w0 g hp nx w K c w' := by
  obtain ⟨a, p, g', h1, h2, h3, h4, h5, h6, h7⟩ := h
  by_cases hb : ∃ b, a = .v (.bool b)
  · obtain ⟨b, rfl⟩ := hb
    let g2 : G := { g' with β := fun k => if k = nx then some b else g'.β k }
    have hle : g'.le g2 := ⟨fun _ _ h => h, fun _ h => h, fun k v h => by
      have : k ≠ nx := fun e => by subst e; rw [h4, (hf k (Nat.le_refl _) (by omega)).2] at h; cases h
      simp only [g2, if_neg this]; exact h⟩
    refine ⟨.bv nx b, p, g2, h1, h2.trans hle, ⟨h3.m, fun k h => ?_, h3.S⟩, ?_, h6, ?_⟩
    · by_cases e : k = nx
      · exact .inr (by omega)
      · simp only [g2, if_neg e] at h; rw [h4] at h; exact .inl h
    · exact (h5.step (w' := w') (hp' := patch p hp) (fun _ => False) hle (fun _ h => h) rfl rfl rfl (Nat.le_refl _) (fun _ _ _ => rfl) (fun _ _ => rfl) (fun _ _ h => h.elim) (fun _ _ _ _ _ h => h.elim)).1
    · simp only [VRel] at h7 ⊢
      exact ⟨h7, by simp only [g2, if_true]⟩
  · have : tag nx a = a := by
      cases a with
      | v x => cases x with
        | bool b => exact absurd ⟨b, rfl⟩ hb
        | _ => rfl
      | _ => rfl
    simp only [this] at h1
    exact ⟨a, p, g', h1, h2, h3, h5, h6, h7⟩

/-- The blocks of these things. -/
def ownBy (g : G) (hp : Heap) (b : Nat) : Prop := ∃ k c, hp k ≠ none ∧ g.m k = some c ∧ blkOf c = some b

/-- A call that is handed some of what is owned: the rest is as it was. -/
theorem frame_sub (hI : Inv O w0 g hp w) {hl : Heap} (hsub : ∀ k, hl k ≠ none → hl k = hp k) :
    Inv (ownBy g hl) w g hl w ∧ (∀ w', FrW (ownBy g hl) w w' → FrW O w0 w') ∧
      (∀ p g' w', g.le g' → NewIn (ownBy g hl) w g g' nx → Inv (ownBy g hl) w g' (patch p hl) w' → Stay g.S w w' → Inv O w0 g' (patch p hp) w' ∧ NewIn O w0 g g' nx) := by
  have hown : ∀ b, ownBy g hl b → O b ∨ w0.heap.size ≤ b := by
    rintro b ⟨k, c, h1, h2, h3⟩
    exact hI.mine k c b (by rw [← hsub k h1]; exact h1) h2 h3
  have hfr : ∀ w', FrW (ownBy g hl) w w' → FrW O w0 w' := fun w' h => by
    refine ⟨fun b hb hO => ?_, h.os.trans hI.os, h.tape.trans hI.tape, h.output.trans hI.output, Nat.le_trans hI.size h.size⟩
    rw [h.frame b (Nat.lt_of_lt_of_le hb hI.size) (fun hob => by
      rcases hown b hob with h1 | h1
      · exact hO h1
      · omega)]
    exact hI.frame b hb hO
  refine ⟨⟨⟨fun b _ _ => rfl, rfl, rfl, rfl, Nat.le_refl _⟩, fun k ob hk => hI.sat k ob (by rw [← hsub k (by rw [hk]; simp)]; exact hk), fun k k' c c' b hk hk' => hI.inj k k' c c' b (by rw [← hsub k hk]; exact hk) (by rw [← hsub k' hk']; exact hk'), hI.stab,
    fun k c b hk => hI.apart k c b (by rw [← hsub k hk]; exact hk), fun k c b hk hc hb => .inl ⟨k, c, hk, hc, hb⟩⟩, hfr, ?_⟩
  intro p g' w' hle hnew h hst
  -- what the call was not handed
  have hoth : ∀ k, patch p hl k ≠ patch p hp k → look k p = none ∧ hl k = none ∧ patch p hp k = hp k := by
    intro k hk
    unfold patch at hk ⊢
    cases hl' : look k p with
    | some x => simp [hl'] at hk
    | none =>
      simp only [hl'] at hk ⊢
      refine ⟨trivial, ?_, trivial⟩
      cases h0 : hl k with
      | none => rfl
      | some x => exact absurd (hsub k (by rw [h0]; simp)) hk
  have hkeep : ∀ k c b, hl k = none → hp k ≠ none → g.m k = some c → blkOf c = some b → ¬ ownBy g hl b ∧ b < w.heap.size ∧ w'.heap[b]? = w.heap[b]? := by
    intro k c b h1 h2 h3 h4
    have hno : ¬ ownBy g hl b := by
      rintro ⟨k1, c1, g1, g2, g3⟩
      have := hI.inj k k1 c c1 b h2 (by rw [← hsub k1 g1]; exact g1) h3 g2 h4 g3
      subst this; exact g1 h1
    have hlt : b < w.heap.size := by
      cases h5 : hp k with
      | none => exact absurd h5 h2
      | some ob =>
        obtain ⟨c', h6, h7⟩ := hI.sat k ob h5
        rw [h3] at h6; injection h6 with h6; subst h6
        exact h7.lt h4
    exact ⟨hno, hlt, h.frame b hlt hno⟩
  have split : ∀ k, patch p hp k ≠ none → (patch p hl k = patch p hp k) ∨ (hl k = none ∧ hp k = patch p hp k) := fun k _ => by
    by_cases e : patch p hl k = patch p hp k
    · exact .inl e
    · exact .inr ⟨(hoth k e).2.1, (hoth k e).2.2.symm⟩
  have hcell : ∀ k c, hl k = none → hp k = patch p hp k → patch p hp k ≠ none → g'.m k = some c → g.m k = some c := by
    intro k c _ h2 h3 h4
    cases h5 : hp k with
    | none => rw [← h2, h5] at h3; exact absurd rfl h3
    | some ob =>
      obtain ⟨c', h6, _⟩ := hI.sat k ob h5
      have := hle.m k c' h6
      rw [h4] at this; injection this with this; rw [this]; exact h6
  have hmine : ∀ k c b, patch p hl k = patch p hp k → patch p hp k ≠ none → g'.m k = some c → blkOf c = some b → ownBy g hl b ∨ w.heap.size ≤ b := fun k c b h1 h2 h3 h4 => h.mine k c b (by rw [h1]; exact h2) h3 h4
  refine ⟨⟨hfr w' h.toFrW, ?_, ?_, h.stab, ?_, ?_⟩, ⟨hnew.m, hnew.β, fun b hb => ?_⟩⟩
  · intro k ob hk
    rcases split k (by rw [hk]; simp) with h1 | ⟨h1, h2⟩
    · exact h.sat k ob (by rw [h1]; exact hk)
    · rw [hk] at h2
      obtain ⟨c, h3, h4⟩ := hI.sat k ob h2
      exact ⟨c, hle.m k c h3, h4.stay hle hst (fun b hb => (hkeep k c b h1 (by rw [h2]; simp) h3 hb).2.2)⟩
  · intro k k' c c' b hk hk' hc hc' hb hb'
    rcases split k hk with h1 | ⟨h1, h2⟩ <;> rcases split k' hk' with h1' | ⟨h1', h2'⟩
    · exact h.inj k k' c c' b (by rw [h1]; exact hk) (by rw [h1']; exact hk') hc hc' hb hb'
    · have hm := hcell k' c' h1' h2' hk' hc'
      obtain ⟨g1, g2, _⟩ := hkeep k' c' b h1' (by rw [h2']; exact hk') hm hb'
      rcases hmine k c b h1 hk hc hb with h3 | h3
      · exact absurd h3 g1
      · omega
    · have hm := hcell k c h1 h2 hk hc
      obtain ⟨g1, g2, _⟩ := hkeep k c b h1 (by rw [h2]; exact hk) hm hb
      rcases hmine k' c' b h1' hk' hc' hb' with h3 | h3
      · exact absurd h3 g1
      · omega
    · exact hI.inj k k' c c' b (by rw [h2]; exact hk) (by rw [h2']; exact hk') (hcell k c h1 h2 hk hc) (hcell k' c' h1' h2' hk' hc') hb hb'
  · intro k c b hk hc hb hS
    rcases split k hk with h1 | ⟨h1, h2⟩
    · exact h.apart k c b (by rw [h1]; exact hk) hc hb hS
    · have hm := hcell k c h1 h2 hk hc
      obtain ⟨g1, g2, _⟩ := hkeep k c b h1 (by rw [h2]; exact hk) hm hb
      rcases hnew.S b hS with h3 | h3 | h3
      · exact hI.apart k c b (by rw [h2]; exact hk) hm hb h3
      · exact g1 h3
      · omega
  · intro k c b hk hc hb
    rcases split k hk with h1 | ⟨h1, h2⟩
    · rcases hmine k c b h1 hk hc hb with h3 | h3
      · exact hown b h3
      · exact .inr (Nat.le_trans hI.size h3)
    · exact hI.mine k c b (by rw [h2]; exact hk) (hcell k c h1 h2 hk hc) hb
  · rcases hnew.S b hb with h3 | h3 | h3
    · exact .inl h3
    · exact .inr (hown b h3)
    · exact .inr (.inr (Nat.le_trans hI.size h3))

theorem only_sub (L : List Nat) (hp : Heap) : ∀ k, only L hp k ≠ none → only L hp k = hp k := by
  intro k h
  unfold only at h ⊢
  split at h
  · rfl
  · exact absurd rfl h

theorem run_callFunc' {f : FuncId} (hE : Enters P f) (args : Array Value) (w : World) : (callFunc f args).run P w = .ok (.enter f args) w := by
  obtain ⟨fn, h1, h2, h3⟩ := hE
  have e1 : ¬ fn.name = "runtime.NumGoroutine" := by simpa using h3
  have e2 : ¬ fn.body = none := by intro e; rw [e] at h2; cases h2
  simp [callFunc, h1, e1, e2]

theorem call_ok {cx : Cx} (hcx : CxOK P cx) (hI : Inv O w0 g hp w) (hf : ∀ k, nx ≤ k → k < nx + 64 → g.m k = none ∧ g.β k = none) {ρ : Operand → Value} {fo : Operand} {f : AV} (hfo : VRel g w f (ρ fo)) {args : List AV} {ops : Array Operand} (ha : VRels g w args (ops.toList.map ρ)) {ts : Array TypeId} {ty : TypeId}
    (h : (callA cx hp nx f args).wp (fun r => K (tag nx r.1, r.2)) Z) : Did P ((do let d ← resolve ρ { callee := .value fo, args := ops, argTypes := ts } ty; invoke d.target d.args : Sem Next).run P w) (Good O w0 g hp nx w K) (Bad O w0 Z) := by
  unfold callA at h
  split at h
  · rename_i fid cap
    split at h
    · rename_i s hs
      obtain ⟨hspec, hE⟩ := hcx.ga fid s hs
      obtain ⟨l, hl, h⟩ := opt_wp h
      rw [force_eq] at hl
      injection hl with hl; subst hl
      obtain ⟨L, hL, h⟩ := opt_wp h
      simp only [VRel] at hfo
      obtain ⟨cs, hcs, hfo⟩ := hfo
      obtain ⟨f1, f2, f3⟩ := frame_sub (nx := nx) hI (only_sub L hp)
      have hc := hspec _ w w g _ nx _ _ _ Z f1 hf (ha.app hcs) h
      have hrun : (do let d ← resolve ρ { callee := .value fo, args := ops, argTypes := ts } ty; invoke d.target d.args : Sem Next).run P w = .ok (.enter fid (ops.toList.map ρ ++ cs).toArray) w := by
        have e : (#[] : Array Value) ++ ops.map ρ ++ cs.toArray = (ops.toList.map ρ ++ cs).toArray := by
          apply Array.ext'; simp
        simp only [resolve, hfo, Deferred.ofValue, invoke, Sem.run_bind, Sem.run_pure, Result.andThen_ok, e, run_callFunc' hE]
      rw [hrun]
      simp only [Did]
      refine hc.mono fun e w' he => ?_
      cases e with
      | returned c =>
        obtain ⟨a, p, g', h1, h2, h3, h4, h5, h6, h7⟩ := he
        obtain ⟨h8, h9⟩ := f3 p g' w' h2 h3 h5 h6
        exact good_call hf ⟨a, p, g', h1, h2, h9, h4, h8, h6, h7⟩
      | panicked ch =>
        obtain ⟨T, x, v, g', h1, h2, h3, h4⟩ := he
        exact ⟨T, x, v, g', h1, h2, h3, f2 w' h4⟩
      | outgrown => exact he
    · exact h.elim
  · exact h.elim

theorem builtin_ok {cx : Cx} (hcx : CxOK P cx) (hI : Inv O w0 g hp w) (hf : ∀ k, nx ≤ k → k < nx + 64 → g.m k = none ∧ g.β k = none) {ρ : Operand → Value} {b : Builtin} {args : List AV} {ops : Array Operand} (ha : VRels g w args (ops.toList.map ρ)) {ts : Array TypeId} {ty : TypeId}
    (h : (builtinA cx hp nx b ts.toList args).wp K Z) : Did P ((do let d ← resolve ρ { callee := .builtin b, args := ops, argTypes := ts } ty; invoke d.target d.args : Sem Next).run P w) (Good O w0 g hp nx w K) (Bad O w0 Z) := by
  have hops : ∀ cs, ops.toList.map ρ = cs → ops.map ρ = cs.toArray := fun cs h => by apply Array.ext'; simpa using h
  have hts : ∀ l, ts.toList = l → ts = l.toArray := fun l h => by apply Array.ext'; simpa using h
  unfold builtinA at h
  split at h
  · rename_i T x htl
    obtain ⟨c, r, e1, h2, h3⟩ := VRels.cons.1 ha
    rw [VRels.nil.1 h3] at e1
    simp only [resolve, invoke, builtin, hops _ e1, hts _ htl, Sem.run_bind, Sem.run_pure, Result.andThen_ok]
    have := did_same (P := P) (O := O) (w0 := w0) (nx := nx) (K := K) (Z := Z) hI (len_ok (P := P) (ty := ty) hI hcx.tt h2 (pureO_wp h))
    simpa only [Sem.run_bind, Sem.run_pure, Bool.false_eq_true, if_false, if_true] using this
  · rename_i T T' s x htl
    obtain ⟨cs, r, e1, hs, h3⟩ := VRels.cons.1 ha
    obtain ⟨cx', r', e2, hx, h4⟩ := VRels.cons.1 h3
    rw [VRels.nil.1 h4] at e2
    rw [e2] at e1
    rw [VRel.v_iff] at hx; subst hx
    simp only [resolve, invoke, builtin, hops _ e1, hts _ htl, Sem.run_bind, Sem.run_pure, Result.andThen_ok]
    unfold appendStrA at h
    split at h
    · rename_i i i' hT hT'
      split at h
      · rename_i E hi hi'
        split at h
        · rename_i e hE
          split at h
          · rename_i hby
            obtain ⟨b1, b2, b3, b4, b5⟩ := isByte_ok hby
            split at h
            · split at h
              · rename_i hn
                have h : _ ∧ _ := h
                rw [VRel.v_iff, isNil_eq hn] at hs
                have := append_str_ok (xs := []) (p := []) hI hf hcx.tt hT hi hT' hi' hE b1 b4 b3 (.inl ⟨hs, rfl, rfl⟩) (by simpa using h.1) (by simpa [R.wpE1, R.wpE2, R.wpE3, R.wpE4, R.wpE5, R.wpE6] using h.2) (ty := ty)
                have := did_run (P := P) (Z := Z) this
                simpa only [Sem.run_bind, Sem.run_pure] using this
              · exact h.elim
            · rename_i k
              split at h
              · rename_i E' xs hk
                split at h
                · rename_i hEE
                  have := beq_eq hEE
                  subst this
                  simp only [R.wpE1, R.wpE2, R.wpE3, R.wpE4, R.wpE5, R.wpE6] at h
                  simp only [VRel] at hs
                  have := append_str_ok (xs := xs) hI hf hcx.tt hT hi hT' hi' hE b1 b4 b3 (.inr ⟨k, hs.1, hk, rfl⟩) h.1 h.2 (ty := ty)
                  have := did_run (P := P) (Z := Z) this
                  simpa only [Sem.run_bind, Sem.run_pure, Bool.false_eq_true, if_false, if_true] using this
                · exact h.elim
              · exact h.elim
            · exact h.elim
          · exact h.elim
        · exact h.elim
      · exact h.elim
    · exact h.elim
  · rename_i T T' s x htl
    obtain ⟨cs, r, e1, hs, h3⟩ := VRels.cons.1 ha
    obtain ⟨cx', r', e2, hx, h4⟩ := VRels.cons.1 h3
    rw [VRels.nil.1 h4] at e2
    rw [e2] at e1
    simp only [resolve, invoke, builtin, hops _ e1, hts _ htl, Sem.run_bind, Sem.run_pure, Result.andThen_ok]
    unfold appendA at h
    split at h
    · rename_i i hb hT
      have := beq_eq hb
      subst this
      split at h
      · rename_i E hi
        split at h
        · rename_i e hE
          split at h
          · rename_i t hc
            split at h
            · rename_i ys hy
              split at h
              · split at h
                · rename_i hn
                  have h : _ ∧ _ := h
                  rw [VRel.v_iff, isNil_eq hn] at hs
                  have := append_ok (xs := []) (p := []) hI hf hcx.tt hT hi hE hc hx hy (.inl ⟨hs, rfl, rfl⟩) (by simpa using h.1) (by simpa [R.wpE1, R.wpE2, R.wpE3, R.wpE4, R.wpE5, R.wpE6] using h.2) (ty := ty)
                  have := did_run (P := P) (Z := Z) this
                  simpa only [Sem.run_bind, Sem.run_pure] using this
                · exact h.elim
              · rename_i k
                split at h
                · rename_i E' u xs hk
                  split at h
                  · rename_i hut hEE _
                    have := beq_eq hEE
                    subst this
                    subst hut
                    simp only [R.wpE1, R.wpE2, R.wpE3, R.wpE4, R.wpE5, R.wpE6] at h
                    simp only [VRel] at hs
                    have := append_ok (xs := xs) hI hf hcx.tt hT hi hE hc hx hy (.inr ⟨k, hs.1, hk, rfl⟩) h.1 h.2 (ty := ty)
                    have := did_run (P := P) (Z := Z) this
                    simpa only [Sem.run_bind, Sem.run_pure, Bool.false_eq_true, if_false, if_true] using this
                  · exact h.elim
                · exact h.elim
              · exact h.elim
            · exact h.elim
          · exact h.elim
        · exact h.elim
      · exact h.elim
    · exact h.elim
  · rename_i x y
    obtain ⟨cs, r, e1, hs, h3⟩ := VRels.cons.1 ha
    obtain ⟨cx', r', e2, hx, h4⟩ := VRels.cons.1 h3
    rw [VRels.nil.1 h4] at e2
    rw [e2] at e1
    simp only [resolve, invoke, builtin, hops _ e1, Sem.run_bind, Sem.run_pure, Result.andThen_ok]
    have := did_same (P := P) (O := O) (w0 := w0) (nx := nx) (K := K) (Z := Z) hI (minmax_ok (P := P) (ts := ts) (ty := ty) hs hx (pureO_wp h))
    simpa only [Sem.run_bind, Sem.run_pure, Bool.false_eq_true, if_false, if_true] using this
  · rename_i x y
    obtain ⟨cs, r, e1, hs, h3⟩ := VRels.cons.1 ha
    obtain ⟨cx', r', e2, hx, h4⟩ := VRels.cons.1 h3
    rw [VRels.nil.1 h4] at e2
    rw [e2] at e1
    simp only [resolve, invoke, builtin, hops _ e1, Sem.run_bind, Sem.run_pure, Result.andThen_ok]
    have := did_same (P := P) (O := O) (w0 := w0) (nx := nx) (K := K) (Z := Z) hI (minmax_ok (P := P) (ts := ts) (ty := ty) hs hx (pureO_wp h))
    simpa only [Sem.run_bind, Sem.run_pure, Bool.false_eq_true, if_false, if_true] using this
  · exact h.elim

theorem bsC_ok {cx : Cx} {ev : Operand → Option AV} {T E : TypeId} {n : Nat} {parts : Array (Nat × Operand)} {e : TInf} {cs : List AV} (h : bsC cx ev T n parts = some (E, e, cs)) :
    ∃ i l, cx.tt T = some i ∧ i.u = .slice E ∧ cx.tt E = some e ∧ placesN e.size ev parts.toList = some l ∧ fillA (repC (zeroCells e) n) l = some cs := by
  unfold bsC at h
  split at h
  · rename_i i h1
    split at h
    · rename_i E' h2
      split at h
      · rename_i e' h3
        split at h
        · rename_i l h4
          split at h
          · rename_i cs' h5
            simp only [Option.some.injEq, Prod.mk.injEq] at h
            obtain ⟨rfl, rfl, rfl⟩ := h
            exact ⟨i, l, h1, h2, h3, h4, h5⟩
          · cases h
        · cases h
      · cases h
    · cases h
  · cases h

theorem stepA_ok {cx : Cx} (hcx : CxOK P cx) (hI : Inv O w0 g hp w) (hf : ∀ k, nx ≤ k → k < nx + 64 → g.m k = none ∧ g.β k = none) {ρ : Operand → Value} {ev : Operand → Option AV} (hev : ∀ x a, ev x = some a → VRel g w a (ρ x))
    (o : Oper) (h : (stepA cx nx ev hp o.op).wp K Z) : Did P ((execOp ρ o).run P w) (Good O w0 g hp nx w K) (Bad O w0 Z) := by
  have htt := hcx.tt
  obtain ⟨dst, op, type, pos, after, guard⟩ := o
  unfold execOp
  cases op <;> simp only [stepA] at h ⊢
  case move x =>
    obtain ⟨a, h1, h2⟩ := opt_wp h
    simp only [Sem.run_pure, Did]
    exact good_same hI h2 (hev x a h1)
  case assign x =>
    obtain ⟨a, h1, h2⟩ := opt_wp h
    simp only [Sem.run_pure, Did]
    exact good_same hI h2 (hev x a h1)
  case pick c a b =>
    obtain ⟨c', h1, h⟩ := opt_wp h
    have hc := (hev c c' h1).nb
    split at h
    · rename_i t ht
      rw [ht, VRel.v_iff] at hc
      simp only [hc, asBool, Sem.run_bind, Sem.run_pure, Result.andThen_ok, Did]
      simp only [R.wpE1, R.wpE2, R.wpE3, R.wpE4, R.wpE5, R.wpE6] at h
      cases t
      · obtain ⟨x, h3, h4⟩ := opt_wp (h.2 rfl)
        exact good_same hI h4 (hev b x h3)
      · obtain ⟨x, h3, h4⟩ := opt_wp (h.1 rfl)
        exact good_same hI h4 (hev a x h3)
    · exact h.elim
  case alloc T =>
    obtain ⟨i, h1, h⟩ := opt_wp h
    obtain ⟨l, h2, h⟩ := opt_wp h
    rw [force_eq] at h2; injection h2 with h2; subst h2
    exact did_run (alloc_ok hI hf htt h1 h)
  case box T x =>
    obtain ⟨a, h1, h⟩ := opt_wp h
    obtain ⟨l, h2, h⟩ := opt_wp h
    rw [force_eq] at h2; injection h2 with h2; subst h2
    exact did_run (box_ok hI hf (hev x a h1) h)
  case build T parts =>
    obtain ⟨i, h1, h⟩ := opt_wp h
    split at h
    · rename_i fs hi
      obtain ⟨pl, h2, h⟩ := opt_wp h
      obtain ⟨l, h3, h⟩ := opt_wp h
      obtain ⟨cs, h4, h⟩ := opt_wp h
      exact did_same hI (build_ok htt h1 hi hev h2 h3 h4 h)
    · exact h.elim
  case buildSlice T n parts =>
    obtain ⟨b, hb0, h⟩ := opt_wp h
    obtain ⟨E, e, cs⟩ := b
    obtain ⟨i, l, h1, hi, h2, h4, h5⟩ := bsC_ok hb0
    obtain ⟨t, h3, h⟩ := opt_wp h
    obtain ⟨q, h6, h⟩ := opt_wp h
    obtain ⟨xs, h7, h⟩ := opt_wp h
    split at h
    · rename_i hb
      simp only [Bool.and_eq_true] at hb
      exact did_run (buildSlice_ok hI hf htt h1 hi h2 h3 hev h4 h5 h6 h7 (Nat.le_of_ble_eq_true hb.1) (by have := hb.2; simp [Nat.blt] at this; omega) h)
    · exact h.elim
  case load T a =>
    obtain ⟨a', h1, h⟩ := opt_wp h
    obtain ⟨i, h2, h⟩ := opt_wp h
    exact did_tag hI hf (loadA_ok hI htt h2 (hev a a' h1) (pureT_wp h))
  case store T a x =>
    obtain ⟨a', h1, h⟩ := opt_wp h
    obtain ⟨x', h2, h⟩ := opt_wp h
    obtain ⟨i, h3, h⟩ := opt_wp h
    obtain ⟨w', h4, h5⟩ := store_ok hI htt h3 (hev a a' h1) (hev x x' h2) h
    simp only [Sem.run_bind, h4, Result.andThen_ok, Sem.run_pure, Did]
    exact h5
  case makeMap T r =>
    split at h
    · obtain ⟨q, h1, h⟩ := opt_wp h
      obtain ⟨kt, et, ei⟩ := q
      exact did_run (make_ok hI hf h)
    · exact h.elim
  case lookup T m x ok =>
    obtain ⟨m', h1, h⟩ := opt_wp h
    obtain ⟨x', h2, h⟩ := opt_wp h
    exact did_tag hI hf (lookup_ok hI htt (hev m m' h1) (hev x x' h2) (pureT_wp h))
  case mapUpdate T m x y =>
    obtain ⟨m', h1, h⟩ := opt_wp h
    obtain ⟨x', h2, h⟩ := opt_wp h
    obtain ⟨y', h3, h⟩ := opt_wp h
    obtain ⟨w', h4, h5⟩ := update_ok hI htt (hev m m' h1) (hev x x' h2) (hev y y' h3) h
    simp only [Sem.run_bind, h4, Result.andThen_ok, Sem.run_pure, Did]
    exact h5
  case insert T m x y =>
    obtain ⟨m', h1, h⟩ := opt_wp h
    obtain ⟨x', h2, h⟩ := opt_wp h
    obtain ⟨y', h3, h⟩ := opt_wp h
    obtain ⟨w', h4, h5⟩ := update_ok hI htt (hev m m' h1) (hev x x' h2) (hev y y' h3) h
    simp only [Sem.run_bind, h4, Result.andThen_ok, Sem.run_pure, Did]
    exact h5
  case nilCheck x =>
    obtain ⟨a, h1, h⟩ := opt_wp h
    have ha := hev x a h1
    split at h
    · have ha' := ha
      simp only [VRel] at ha
      obtain ⟨b, hm, e⟩ := ha
      rw [e] at ha' ⊢
      exact good_same hI h ha'
    · have ha' := ha
      simp only [VRel] at ha
      obtain ⟨b, o, l, e, _⟩ := ha
      rw [e] at ha' ⊢
      exact good_same hI h ha'
    · have ha' := ha
      simp only [VRel] at ha
      obtain ⟨b, n, cap, _, _, e⟩ := ha
      rw [e] at ha' ⊢
      exact good_same hI h ha'
    · have ha' := ha
      simp only [VRel] at ha
      obtain ⟨cs, _, e⟩ := ha
      rw [e] at ha' ⊢
      exact good_same hI h ha'
    · exact h.elim
  case binOp op T x y ty =>
    obtain ⟨a, h1, h⟩ := opt_wp h
    obtain ⟨b, h2, h⟩ := opt_wp h
    exact did_tag hI hf (binA_ok htt (hev x a h1).nb (hev y b h2).nb (pureT_wp h))
  case unOp op T x =>
    obtain ⟨a, h1, h⟩ := opt_wp h
    exact did_tag hI hf (unA_ok (hev x a h1).nb (pureT_wp h))
  case convert src dst x =>
    obtain ⟨a, h1, h⟩ := opt_wp h
    exact did_run (convB_ok hI hf htt (hev x a h1).nb h)
  case makeSlice T l c =>
    obtain ⟨l', h1, h⟩ := opt_wp h
    obtain ⟨c', h2, h⟩ := opt_wp h
    exact did_run (makeA_ok hI hf htt (hev l l' h1) (hev c c' h2) h)
  case makeInterface T x =>
    obtain ⟨a, h1, h⟩ := opt_wp h
    obtain ⟨i, h2, h⟩ := opt_wp h
    have hu := (htt T i h2).1
    have key : K (.ifc T (nb a), []) → (∀ d, i.u ≠ .interface d) → Did P ((do pure (Next.value (← Instr.makeInterface T (ρ x))) : Sem Next).run P w) (Good O w0 g hp nx w K) (Bad O w0 Z) := fun hk hn => by
      refine did_same hI ⟨.iface T (ρ x), .ifc T (nb a), ?_, by simp only [VRel]; exact ⟨_, (hev x a h1).nb, rfl⟩, hk⟩
      simp only [Instr.makeInterface, Sem.run_bind, run_underlying hu, Result.andThen_ok]
      rfl
    split at h
    · exact h.elim
    · rename_i hn
      exact key h (fun d hd => hn d hd)
  case makeFunc fn first cap =>
    split at h
    · rename_i hfirst
      obtain ⟨l, h1, h⟩ := opt_wp h
      have e : first = #[] := by apply Array.ext'; simpa using hfirst
      subst e
      refine did_same hI ⟨_, _, rfl, ?_, h⟩
      simp only [VRel]
      exact ⟨_, evs_ok hev h1, by
        have e : cap.map ρ = (cap.toList.map ρ).toArray := by apply Array.ext'; simp
        rw [e]; simp⟩
    · exact h.elim
  case slice T x lo hi mx =>
    split at h
    · obtain ⟨a, h1, h⟩ := opt_wp h
      split at h
      · exact did_same hI (slice_ok htt (lo := none) (hi := none) (clo := none) (chi := none) (hev x a h1) trivial trivial (pureO_wp h))
      · rename_i l _
        obtain ⟨l', h2, h⟩ := opt_wp h
        exact did_same hI (slice_ok htt (lo := some l') (hi := none) (clo := some (ρ l)) (chi := none) (hev x a h1) (hev l l' h2) trivial (pureO_wp h))
      · rename_i hh _
        obtain ⟨h', h2, h⟩ := opt_wp h
        exact did_same hI (slice_ok htt (lo := none) (hi := some h') (clo := none) (chi := some (ρ hh)) (hev x a h1) trivial (hev hh h' h2) (pureO_wp h))
      · rename_i l hh _
        obtain ⟨l', h2, h⟩ := opt_wp h
        obtain ⟨h', h3, h⟩ := opt_wp h
        exact did_same hI (slice_ok htt (lo := some l') (hi := some h') (clo := some (ρ l)) (chi := some (ρ hh)) (hev x a h1) (hev l l' h2) (hev hh h' h3) (pureO_wp h))
    · exact h.elim
  case fieldAddr T x f =>
    obtain ⟨a, h1, h⟩ := opt_wp h
    obtain ⟨p, h2, h⟩ := opt_wp h
    exact did_same hI (moved_ok htt h2 (hev x a h1) (pureO_wp h))
  case field T x f =>
    obtain ⟨a, h1, h⟩ := opt_wp h
    obtain ⟨p, h2, h⟩ := opt_wp h
    split at h
    · rename_i hs
      obtain ⟨l, h3, h⟩ := opt_wp h
      exact did_tag hI hf (field_ok htt h2 (hev x a h1) hs h3 (pureT_wp h))
    · exact h.elim
  case indexAddr T x i =>
    obtain ⟨a, h1, h⟩ := opt_wp h
    obtain ⟨b, h2, h⟩ := opt_wp h
    exact did_same hI (indexAddr_ok hI htt (hev x a h1) (hev i b h2) (pureO_wp h))
  case index T x i =>
    obtain ⟨a, h1, h⟩ := opt_wp h
    obtain ⟨b, h2, h⟩ := opt_wp h
    exact did_same hI (index_ok htt (hev x a h1) (hev i b h2) (pureO_wp h))
  case extract x i =>
    obtain ⟨a, h1, h⟩ := opt_wp h
    have ha := hev x a h1
    split at h
    · rename_i l
      obtain ⟨b, h2, h⟩ := opt_wp h
      simp only [VRel] at ha
      obtain ⟨cs, h3, h4⟩ := ha
      obtain ⟨c, h5, h6⟩ := h3.get i b h2
      refine did_tag hI hf ⟨c, b, ?_, h6, pureT_wp h⟩
      simp [Instr.extract, h4, h5]
    · exact h.elim
  case panic x =>
    obtain ⟨a, h1, h⟩ := opt_wp h
    have ha := hev x a h1
    split at h
    · rename_i T x'
      simp only [R.wpE1, R.wpE2, R.wpE3, R.wpE4, R.wpE5, R.wpE6] at h
      simp only [VRel] at ha
      obtain ⟨d, h2, h3⟩ := ha
      simp only [h3, Instr.panic, goPanic, Sem.run_bind]
      refine ⟨T, x', d, g, h, rfl, h2, hI.toFrW⟩
    · exact h.elim
  case call c =>
    obtain ⟨args, h1, h⟩ := opt_wp h
    have ha := evs_ok hev h1
    obtain ⟨callee, ops, ts⟩ := c
    cases callee with
    | value fo =>
      simp only at h
      obtain ⟨f, h2, h⟩ := opt_wp h
      exact call_ok hcx hI hf (hev fo f h2) ha (R.wp_mono (fun r hr => by obtain ⟨a, p⟩ := r; simp only [tagR_eq] at hr; exact hr) (fun _ _ h => h) (R.wp_bind h))
    | builtin b => exact builtin_ok hcx hI hf ha h
    | invoke r m => exact h.elim
  all_goals exact h.elim
end
end Go.Proofs.Ytmkbigaofhionaa
