/- Code of the abstract machine: blocks, branches, loops; no program. -/
import Derived.Test.YtmkbigaofhionaaAbsW
import Derived.Deep.LoopGhost
namespace Go.Proofs.Ytmkbigaofhionaa
open Go.RowKit
set_option linter.unusedVariables false
set_option linter.unusedSimpArgs false

mutual
/-- Other numbers. -/
def renA (f : Nat → Option Nat) : AV → Option AV
  | .v x => some (.v x)
  | .bv _ b => some (.v (.bool b))
  | .ro t xs => some (.ro t xs)
  | .el t x off => some (.el t x off)
  | .own k => match f k with
    | some i => some (.own i)
    | none => none
  | .oel k i sz off => match f k with
    | some j => some (.oel j i sz off)
    | none => none
  | .ptr k off => match f k with
    | some i => some (.ptr i off)
    | none => none
  | .mp k => match f k with
    | some i => some (.mp i)
    | none => none
  | .clo fn l => match renL f l with
    | some l => some (.clo fn l)
    | none => none
  | .agg l => match renL f l with
    | some l => some (.agg l)
    | none => none
  | .tup l => match renL f l with
    | some l => some (.tup l)
    | none => none
  | .ifc T x => match renA f x with
    | some x => some (.ifc T x)
    | none => none
def renL (f : Nat → Option Nat) : List AV → Option (List AV)
  | [] => some []
  | a :: l => match renA f a, renL f l with
    | some a, some l => some (a :: l)
    | _, _ => none
end
def renOB (f : Nat → Option Nat) : OB → Option OB
  | .cells T cs => match renL f cs with
    | some cs => some (.cells T cs)
    | none => none
  | .row E t xs => some (.row E t xs)
  | .map ag kt et l => some (.map ag kt et l)

mutual
theorem renA_ok {f : Nat → Option Nat} {g g' : G} {w : World} (hf : ∀ k i, f k = some i → ∀ c, g.m k = some c → g'.m i = some c) (hS : ∀ b, g.S b → g'.S b) : ∀ {a a' : AV} {c : Value}, renA f a = some a' → VRel g w a c → VRel g' w a' c
  | .v x, a', c, h, hv => by simp only [renA, Option.some.injEq] at h; subst h; exact VRel.v_iff.2 (VRel.v_iff.1 hv)
  | .bv i b, a', c, h, hv => by simp only [renA, Option.some.injEq] at h; subst h; simp only [VRel] at hv; exact VRel.v_iff.2 hv.1
  | .ro t xs, a', c, h, hv => by simp only [renA, Option.some.injEq] at h; subst h; simp only [VRel] at hv ⊢; exact hv.stay hS (Stay.refl _ _)
  | .el t x off, a', c, h, hv => by
    simp only [renA, Option.some.injEq] at h; subst h
    simp only [VRel] at hv ⊢
    obtain ⟨b, o, l, h1, h2, h3, h4⟩ := hv
    exact ⟨b, o, l, h1, hS b h2, h3, h4.stay hS (Stay.refl _ _)⟩
  | .own k, a', c, h, hv => by
    simp only [renA] at h
    split at h
    · rename_i i hi
      injection h with h; subst h
      simp only [VRel] at hv ⊢
      exact ⟨hf k i hi c hv.1, hv.2⟩
    · cases h
  | .oel k i sz off, a', c, h, hv => by
    simp only [renA] at h
    split at h
    · rename_i j hj
      injection h with h; subst h
      simp only [VRel] at hv ⊢
      obtain ⟨b, n, cap, h1, h2⟩ := hv
      exact ⟨b, n, cap, hf k j hj _ h1, h2⟩
    · cases h
  | .ptr k off, a', c, h, hv => by
    simp only [renA] at h
    split at h
    · rename_i i hi
      injection h with h; subst h
      simp only [VRel] at hv ⊢
      obtain ⟨b, h1, h2⟩ := hv
      exact ⟨b, hf k i hi _ h1, h2⟩
    · cases h
  | .mp k, a', c, h, hv => by
    simp only [renA] at h
    split at h
    · rename_i i hi
      injection h with h; subst h
      simp only [VRel] at hv ⊢
      exact ⟨hf k i hi c hv.1, hv.2⟩
    · cases h
  | .clo fn l, a', c, h, hv => by
    simp only [renA] at h
    split at h
    · rename_i l' hl
      injection h with h; subst h
      simp only [VRel] at hv ⊢
      obtain ⟨cs, h1, h2⟩ := hv
      exact ⟨cs, renL_ok hf hS hl h1, h2⟩
    · cases h
  | .agg l, a', c, h, hv => by
    simp only [renA] at h
    split at h
    · rename_i l' hl
      injection h with h; subst h
      simp only [VRel] at hv ⊢
      obtain ⟨cs, h1, h2⟩ := hv
      exact ⟨cs, renL_ok hf hS hl h1, h2⟩
    · cases h
  | .tup l, a', c, h, hv => by
    simp only [renA] at h
    split at h
    · rename_i l' hl
      injection h with h; subst h
      simp only [VRel] at hv ⊢
      obtain ⟨cs, h1, h2⟩ := hv
      exact ⟨cs, renL_ok hf hS hl h1, h2⟩
    · cases h
  | .ifc T x, a', c, h, hv => by
    simp only [renA] at h
    split at h
    · rename_i x' hx
      injection h with h; subst h
      simp only [VRel] at hv ⊢
      obtain ⟨d, h1, h2⟩ := hv
      exact ⟨d, renA_ok hf hS hx h1, h2⟩
    · cases h
theorem renL_ok {f : Nat → Option Nat} {g g' : G} {w : World} (hf : ∀ k i, f k = some i → ∀ c, g.m k = some c → g'.m i = some c) (hS : ∀ b, g.S b → g'.S b) : ∀ {l l' : List AV} {cs : List Value}, renL f l = some l' → VRels g w l cs → VRels g' w l' cs
  | [], l', cs, h, hv => by simp only [renL, Option.some.injEq] at h; subst h; exact VRels.nil.2 (VRels.nil.1 hv)
  | a :: l, l', cs, h, hv => by
    simp only [renL] at h
    split at h
    · rename_i a' r ha hr
      injection h with h; subst h
      obtain ⟨c, q, rfl, h2, h3⟩ := VRels.cons.1 hv
      exact VRels.cons.2 ⟨c, q, rfl, renA_ok hf hS ha h2, renL_ok hf hS hr h3⟩
    · cases h
end

/-- The same memory, told with other numbers. -/
theorem ren_inv {O : Nat → Prop} {w0 w : World} {g g' : G} {hp hp' : Heap} {f : Nat → Option Nat} (hI : Inv O w0 g hp w) (hf : ∀ k i, f k = some i → ∀ c, g.m k = some c → g'.m i = some c) (hS : g'.S = g.S)
    (hh : ∀ i ob', hp' i = some ob' → ∃ k ob, f k = some i ∧ hp k = some ob ∧ renOB f ob = some ob') : Inv O w0 g' hp' w := by
  have back : ∀ i c, hp' i ≠ none → g'.m i = some c → ∃ k, f k = some i ∧ hp k ≠ none ∧ g.m k = some c := by
    intro i c hi hc
    cases e : hp' i with
    | none => exact absurd e hi
    | some ob' =>
      obtain ⟨k, ob, h1, h2, h3⟩ := hh i ob' e
      obtain ⟨c', h4, _⟩ := hI.sat k ob h2
      have := hf k i h1 c' h4
      rw [hc] at this; injection this with this; subst this
      exact ⟨k, h1, by rw [h2]; simp, h4⟩
  refine ⟨hI.toFrW, fun i ob' hi => ?_, fun i i' c c' b hi hi' hc hc' hb hb' => ?_, fun b hb => hI.stab b (by rw [← hS]; exact hb), fun i c b hi hc hb hs => ?_, fun i c b hi hc hb => ?_⟩
  · obtain ⟨k, ob, h1, h2, h3⟩ := hh i ob' hi
    obtain ⟨c, h4, h5⟩ := hI.sat k ob h2
    refine ⟨c, hf k i h1 c h4, ?_⟩
    cases ob with
    | cells T cs =>
      simp only [renOB] at h3
      split at h3
      · rename_i cs' hcs
        injection h3 with h3; subst h3
        obtain ⟨b, cvs, h6, h7, h8⟩ := h5
        exact ⟨b, cvs, h6, h7, renL_ok hf (fun b hb => by rw [hS]; exact hb) hcs h8⟩
      · cases h3
    | row E t xs =>
      simp only [renOB, Option.some.injEq] at h3
      subst h3
      obtain ⟨cells, h6, h7⟩ := h5
      exact ⟨cells, h6, h7.stay (fun b hb => by rw [hS]; exact hb) (Stay.refl _ _)⟩
    | map ag kt et l =>
      simp only [renOB, Option.some.injEq] at h3
      subst h3
      obtain ⟨b, es, clock, h6, h7, h8⟩ := h5
      exact ⟨b, es, clock, h6, h7, h8.stay (fun b hb => by rw [hS]; exact hb) (Stay.refl _ _)⟩
  · obtain ⟨k, h1, h2, h3⟩ := back i c hi hc
    obtain ⟨k', h1', h2', h3'⟩ := back i' c' hi' hc'
    have := hI.inj k k' c c' b h2 h2' h3 h3' hb hb'
    subst this
    rw [h1] at h1'; injection h1'
  · obtain ⟨k, h1, h2, h3⟩ := back i c hi hc
    exact hI.apart k c b h2 h3 hb (by rw [← hS]; exact hs)
  · obtain ⟨k, h1, h2, h3⟩ := back i c hi hc
    exact hI.mine k c b h2 h3 hb

def dedup : List Nat → List Nat → List Nat
  | [], acc => acc
  | k :: l, acc => match memN k acc with
    | true => dedup l acc
    | false => dedup l (acc ++ [k])
def idxN (k : Nat) : List Nat → Nat → Option Nat
  | [], _ => none
  | i :: l, n => match Nat.beq i k with
    | true => some n
    | false => idxN k l (n + 1)
theorem idxN_ok {k : Nat} : ∀ {l : List Nat} {n i : Nat}, idxN k l n = some i → ∃ j, i = n + j ∧ l[j]? = some k
  | [], n, i, h => by simp [idxN] at h
  | a :: l, n, i, h => by
    simp only [idxN] at h
    split at h
    · rename_i hb
      injection h with h
      exact ⟨0, by omega, by simp [beq_eq hb]⟩
    · obtain ⟨j, h1, h2⟩ := idxN_ok h
      exact ⟨j + 1, by omega, by simpa using h2⟩

/-- The heap of some things, under other numbers. -/
def heapL (hp : Heap) (f : Nat → Option Nat) : List Nat → Nat → Option Pat
  | [], _ => some []
  | k :: l, i => match hp k, f k, heapL hp f l (i + 1) with
    | none, _, some r => some r
    | some ob, some j, some r => match Nat.beq j i with
      | true => match renOB f ob with
        | some ob => some ((j, some ob) :: r)
        | none => none
      | false => some r
    | _, _, _ => none

theorem heapL_ok {hp : Heap} {f : Nat → Option Nat} : ∀ {l : List Nat} {b : Nat} {p : Pat}, heapL hp f l b = some p → ∀ i x, look i p = some x → ∃ k ob ob', x = some ob' ∧ f k = some i ∧ hp k = some ob ∧ renOB f ob = some ob'
  | [], b, p, h, i, x, hx => by simp only [heapL, Option.some.injEq] at h; subst h; simp [look] at hx
  | k :: l, b, p, h, i, x, hx => by
    simp only [heapL] at h
    split at h
    · rename_i r _ _ hr
      injection h with h; subst h
      exact heapL_ok hr i x hx
    · rename_i ob j r hk hf hr
      split at h
      · split at h
        · rename_i ob' hob
          injection h with h; subst h
          simp only [look] at hx
          split at hx
          · rename_i hb
            have := beq_eq hb
            subst this
            injection hx with hx; subst hx
            exact ⟨k, ob, ob', rfl, hf, hk, hob⟩
          · exact heapL_ok hr i x hx
        · cases h
      · injection h with h; subst h
        exact heapL_ok hr i x hx
    · cases h

def looks : List Nat → Fra → Option (List AV)
  | [], _ => some []
  | t :: l, fr => match look t fr, looks l fr with
    | some a, some r => some (a :: r)
    | _, _ => none
def zipF : List Nat → List AV → Fra
  | t :: l, a :: r => (t, a) :: zipF l r
  | _, _ => []

def upN : Nat → List Nat
  | 0 => []
  | n + 1 => upN n ++ [n]
theorem upN_get : ∀ {n i : Nat}, i < n → (upN n)[i]? = some i
  | n + 1, i, h => by
    have hl : ∀ n, (upN n).length = n := fun n => by
      induction n with
      | zero => rfl
      | succ n ih => simp [upN, ih]
    simp only [upN, List.getElem?_append, hl]
    split
    · rename_i hi; exact upN_get hi
    · have : i = n := by omega
      subst this; simp
theorem dedup_pre : ∀ {l acc : List Nat} {i k : Nat}, acc[i]? = some k → (dedup l acc)[i]? = some k
  | [], acc, i, k, h => h
  | a :: l, acc, i, k, h => by
    simp only [dedup]
    split
    · exact dedup_pre h
    · exact dedup_pre (by rw [List.getElem?_append_left (List.getElem?_eq_some_iff.1 h).1]; exact h)

/-- A state, of which some slots are kept, its things numbered from the begin (those below n0 keep their numbers). -/
def canonS (n0 : Nat) (L : List Nat) (st : AS) : Option AS :=
  match st with
  | ⟨fr, hp, _⟩ => match looks L fr with
    | some vs => match force (dedup (reach (hpOf hp) 6 (idsL vs)) (upN n0)) with
      | some idl => match renL (fun k => idxN k idl 0) vs, heapL (hpOf hp) (fun k => idxN k idl 0) idl 0 with
        | some vs, some hp => match force (zipF L vs) with
          | some fr => some ⟨fr, hp, idl.length⟩
          | none => none
        | _, _ => none
      | none => none
    | none => none

theorem zip_rel {g g' : G} {w : World} {f : Nat → Option Nat} (hf : ∀ k i, f k = some i → ∀ c, g.m k = some c → g'.m i = some c) (hS : ∀ b, g.S b → g'.S b) {fr : Fra} {a : Act} (h : ∀ t x, look t fr = some x → ∃ c, a.tmps[t]? = some c ∧ VRel g w x c) :
    ∀ {L : List Nat} {vs vs' : List AV}, looks L fr = some vs → renL f vs = some vs' → ∀ t x, look t (zipF L vs') = some x → ∃ c, a.tmps[t]? = some c ∧ VRel g' w x c
  | [], vs, vs', _, _, t, x, hx => by simp [zipF, look] at hx
  | s :: L, vs, vs', hv, hr, t, x, hx => by
    simp only [looks] at hv
    split at hv
    · rename_i y r hy hl
      injection hv with hv; subst hv
      simp only [renL] at hr
      split at hr
      · rename_i y' r' hy' hr'
        injection hr with hr; subst hr
        simp only [zipF, look] at hx
        split at hx
        · rename_i hb
          have := beq_eq hb
          subst this
          injection hx with hx; subst hx
          obtain ⟨c, h1, h2⟩ := h s y hy
          exact ⟨c, h1, renA_ok hf hS hy' h2⟩
        · exact zip_rel hf hS h hl hr' t x hx
      · cases hr
    · cases hv

theorem canonS_ok {n : Nat} {O : Nat → Prop} {w0 w : World} {S0 : G0} {g : G} {st st' : AS} {a : Act} {n0 : Nat} {L : List Nat} (h : Rel n O w0 S0 g st.fr (hpOf st.hp) st.nx a w) (hpin : ∀ k, S0.m k ≠ none → k < n0) (hc : canonS n0 L st = some st') :
    ∃ g', Rel n O w0 S0 g' st'.fr (hpOf st'.hp) st'.nx a w := by
  obtain ⟨fr, hp, nx⟩ := st
  simp only [canonS] at hc
  split at hc
  · rename_i vs hvs
    rw [force_eq] at hc
    simp only at hc
    have hpre : ∀ i, i < n0 → (dedup (reach (hpOf hp) 6 (idsL vs)) (upN n0))[i]? = some i := fun i hi => dedup_pre (upN_get hi)
    generalize dedup (reach (hpOf hp) 6 (idsL vs)) (upN n0) = idl at hc hpre
    split at hc
    · rename_i vs' hp' hv' hh'
      rw [force_eq] at hc
      simp only [Option.some.injEq] at hc
      subst hc
      let g' : G := { m := fun i => (idl[i]?).bind g.m, S := g.S, β := fun _ => none }
      have hf : ∀ k i, idxN k idl 0 = some i → ∀ c, g.m k = some c → g'.m i = some c := fun k i hi c hc => by
        obtain ⟨j, h1, h2⟩ := idxN_ok hi
        have : i = j := by omega
        subst this
        simp only [g', h2, Option.bind_some]; exact hc
      refine ⟨g', ren_inv h.inv hf rfl (fun i ob' hi => ?_), zip_rel hf (fun _ h => h) h.fr hvs hv', h.dn, h.dz, h.sz, fun k hk => ?_, h.sb, h.sn, fun k c hk => ?_⟩
      · simp only [hpOf, patch] at hi
        split at hi
        · rename_i x hx
          obtain ⟨k, ob, ob2, h1, h2, h3, h4⟩ := heapL_ok hh' i x hx
          rw [h1] at hi; injection hi with hi; subst hi
          exact ⟨k, ob, h2, h3, h4⟩
        · cases hi
      · simp only [g', List.getElem?_eq_none hk, Option.bind_none, and_self]
      · simp only [g', hpre k (hpin k (by rw [hk]; simp)), Option.bind_some]; exact h.pin k c hk
    · cases hc
  · cases hc

/-- A nil slice is a row of none, too: so for these slots (elements' types and kinds). -/
def weakS : List (Nat × TypeId × Ty) → AS → AS
  | [], st => st
  | (t, E, ty) :: l, st => match st with
    | ⟨fr, hp, nx⟩ => match look t fr with
      | some (.v v) => match isNil v with
        | true => weakS l ⟨(t, .own nx) :: fr, (nx, some (.row E ty [])) :: hp, nx + 64⟩
        | false => weakS l ⟨fr, hp, nx⟩
      | _ => weakS l ⟨fr, hp, nx⟩

theorem weakS_ok {n : Nat} {O : Nat → Prop} {w0 w : World} {S0 : G0} {a : Act} : ∀ {l : List (Nat × TypeId × Ty)} {g : G} {st : AS}, Rel n O w0 S0 g st.fr (hpOf st.hp) st.nx a w → ∃ g', Rel n O w0 S0 g' (weakS l st).fr (hpOf (weakS l st).hp) (weakS l st).nx a w
  | [], g, st, h => ⟨g, h⟩
  | (t, E, ty) :: l, g, ⟨fr, hp, nx⟩, h => by
    simp only [weakS]
    split
    · rename_i v hv
      split
      · rename_i hn
        obtain ⟨c, hc, hcv⟩ := h.fr t _ hv
        rw [VRel.v_iff, isNil_eq hn] at hcv
        subst hcv
        have hf : ∀ k, nx ≤ k → g.m k = none ∧ g.β k = none := h.fresh
        let g1 : G := { g with m := fun k => if k = nx then some (.slice none 0 0) else g.m k }
        have hle : g.le g1 := ⟨fun k c hk => by
          have : k ≠ nx := fun e => by subst e; rw [(hf k (Nat.le_refl _)).1] at hk; cases hk
          simp only [g1, if_neg this]; exact hk, fun _ h => h, fun _ _ h => h⟩
        have hhp : hpOf ((nx, some (OB.row E ty [])) :: hp) = patch [(nx, some (.row E ty []))] (hpOf hp) := hpOf_append [_] hp
        have hstep := h.inv.step (w' := w) (hp' := patch [(nx, some (.row E ty []))] (hpOf hp)) (g' := g1) (fun k => k = nx) hle (fun _ h => h) rfl rfl rfl (Nat.le_refl _) (fun _ _ _ => rfl)
          (fun k hk => by simp only [patch, look, beq_ne (fun e => hk e.symm : nx ≠ k)])
          (fun k ob hk hob => by
            subst hk
            have hb : Nat.beq k k = true := by simp
            simp only [patch, look, hb, Option.some.injEq] at hob
            subst hob
            refine ⟨.slice none 0 0, by simp only [g1, if_true], ⟨[], ownsRowZ_nil w E ty.cells, by simp only [RepL]⟩, fun b hb => by simp [blkOf] at hb⟩)
          (fun k k' c c' b hk hk' _ _ _ _ _ _ => by rw [hk, hk'])
        refine weakS_ok (g := g1) ⟨by rw [hhp]; exact hstep.1, fun s x hx => ?_, h.dn.stay (fun _ h => h) (Stay.refl _ _), h.dz, h.sz, fun k hk => ?_, h.sb, h.sn, fun k c hk => hle.m k c (h.pin k c hk)⟩
        · simp only [look] at hx
          split at hx
          · rename_i hb
            have := beq_eq hb
            subst this
            injection hx with hx; subst hx
            exact ⟨_, hc, by simp only [VRel, g1, if_true]; exact ⟨trivial, none, 0, 0, rfl⟩⟩
          · obtain ⟨d, h1, h2⟩ := h.fr s x hx
            exact ⟨d, h1, VRel.stay hle hstep.2 h2⟩
        · have hk' : nx + 64 ≤ k := hk
          have : k ≠ nx := by omega
          simp only [g1, if_neg this]
          exact hf k (by omega)
      · exact weakS_ok h
    · exact weakS_ok h

/-- A loop: a family of states, one of which each round begins with. -/
def LoopOK (n0 : Nat) (body : (Exit → AS → Prop) → AS → Prop) (K : Exit → AS → Prop) (st : AS) : Prop :=
  ∃ (X : Type) (L : List Nat) (N : List (Nat × TypeId × Ty)) (fam : X → AS) (Φ : X → Prop) (μ : X → Nat), (∃ x, canonS n0 L (weakS N st) = some (fam x) ∧ Φ x) ∧
    ∀ x, Φ x → body (fun e st' => match e with
      | .normal => ∃ y, canonS n0 L (weakS N st') = some (fam y) ∧ Φ y ∧ μ y < μ x
      | e => K e st') (fam x)

noncomputable def awp (cx : Cx) (n : Nat) (Z : TypeId → AV → Prop) (c : Code) : (Exit → AS → Prop) → AS → Prop :=
  @Code.rec (fun _ => (Exit → AS → Prop) → AS → Prop)
    (fun K st => K .normal st)
    (fun _ ops draw K st => match st with
      | ⟨fr, hp, nx⟩ => match draw with
        | false => (runA cx n ops.toList ops.toList nx fr hp).wp (K .normal) Z
        | true => ordOk ops.toList = true ∧ (runD cx n ops.toList (masksOf ops.toList []) 0 ops.toList nx fr hp []).wp (K .normal) Z)
    (fun _ _ iha ihb K st => iha (fun e st' => match e with
      | .normal => ihb K st'
      | e => K e st') st)
    (fun c _ _ ihx ihy K st => match st with
      | ⟨fr, hp, nx⟩ => match evOf fr c with
        | some (.v (.bool b)) => (b = true → ihx K ⟨fr, hp, nx⟩) ∧ (b = false → ihy K ⟨fr, hp, nx⟩)
        | some (.bv k b) => (b = true → match force (setB k true fr) with
          | some fr' => ihx K ⟨fr', hp, nx⟩
          | none => False) ∧ (b = false → match force (setB k false fr) with
          | some fr' => ihy K ⟨fr', hp, nx⟩
          | none => False)
        | _ => False)
    (fun id _ ih K st => ih (fun e st' => match e with
      | .exit i => match Nat.beq i id with
        | true => K .normal st'
        | false => K e st'
      | e => K e st') st)
    (fun _ ih K st => LoopOK cx.pin ih K st)
    (fun f ps s b _ _ K st => match cx.rf with
      | some q => q.1 = Code.rangeFunc f ps s b ∧ (∀ T x, ¬ Z T x) ∧ (match st with
        | ⟨fr, hp, nx⟩ => (q.2 fr hp nx).wp (K .normal) (fun _ _ => False))
      | none => False)
    (fun id K st => K (.exit id) st)
    (fun _ ih K st => ih (fun e st' => match e with
      | .goto _ => False
      | e => K e st') st)
    (fun _ K st => K .normal st)
    (fun _ K st => False)
    (fun K st => K .ret st)
    (fun _ K st => False) c

/-- What a code's end means: K where it goes on, Z where it panics. -/
def QOf (n : Nat) (O : Nat → Prop) (w0 : World) (S0 : G0) (K : Exit → AS → Prop) (Z : TypeId → AV → Prop) : Exit → Act → World → Prop
  | .panic ch, a, w => a.defers = [] ∧ Bad O w0 Z ch w
  | .outgrown, _, _ => False
  | e, a, w => ∃ g st, K e st ∧ Rel n O w0 S0 g st.fr (hpOf st.hp) st.nx a w

section
variable {P : Program} {n : Nat} {O : Nat → Prop} {w0 : World} {S0 : G0} {Z : TypeId → AV → Prop} {cx : Cx}

theorem Rel.drew {g : G} {fr : Fra} {hp : Heap} {nx : Nat} {a : Act} {w : World} (h : Rel n O w0 S0 g fr hp nx a w) : Rel n O w0 S0 g fr hp nx a { w with drawn := w.drawn + 1 } := by
  have hI := (h.inv.step (w' := { w with drawn := w.drawn + 1 }) (hp' := hp) (fun _ => False) (G.le.refl g) (fun _ h => h) rfl rfl rfl (Nat.le_refl _) (fun _ _ _ => rfl) (fun _ _ => rfl) (fun _ _ h => h.elim) (fun _ _ _ _ _ h => h.elim)).1
  exact ⟨hI, fun t x hx => by obtain ⟨c, h1, h2⟩ := h.fr t x hx; exact ⟨c, h1, VRel.stay (w := w) (w' := { w with drawn := w.drawn + 1 }) (G.le.refl g) (fun _ _ => rfl) h2⟩, h.dn.stay (fun _ h => h) (fun _ _ => rfl), h.dz, h.sz, h.fresh, h.sb, h.sn, h.pin⟩

/-- A range over a function, told by hand: where it goes on. -/
def RfOK (P : Program) (n : Nat) (c : Code) (S : Fra → Pat → Nat → R AS) : Prop :=
  ∀ (O : Nat → Prop) (w0 : World) (S0 : G0) (g : G) (fr : Fra) (hp : Pat) (nx : Nat) (a : Act) (w : World) (K : AS → Prop), Rel n O w0 S0 g fr (hpOf hp) nx a w → S0.nz → (S fr hp nx).wp K (fun _ _ => False) →
    c.wp P (fun e a w => e = .normal ∧ ∃ g st, K st ∧ Rel n O w0 S0 g st.fr (hpOf st.hp) st.nx a w) a w

theorem awp_ok (hcx : CxOK P cx) (hmix : P.follows .mixedOrders = true) (hrf : ∀ c S, cx.rf = some (c, S) → RfOK P n c S) (hnz : S0.nz → ∀ T x, ¬ Z T x) (hnz' : cx.rf ≠ none → (∀ T x, ¬ Z T x) → S0.nz) (hpin : ∀ k, S0.m k ≠ none → k < cx.pin) : ∀ (c : Code) (K : Exit → AS → Prop) (st : AS) (g : G) (a : Act) (w : World), awp cx n Z c K st → Rel n O w0 S0 g st.fr (hpOf st.hp) st.nx a w → c.wp P (QOf n O w0 S0 K Z) a w := by
  intro c
  induction c with
  | skip => intro K st g a w h hr; exact wp_skip ⟨g, st, h, hr⟩
  | label l => intro K st g a w h hr; exact wp_label ⟨g, st, h, hr⟩
  | exit id => intro K st g a w h hr; exact wp_exit ⟨g, st, h, hr⟩
  | ret => intro K st g a w h hr; exact wp_ret ⟨g, st, h, hr⟩
  | region id ops draw =>
    intro K st g a w h hr
    obtain ⟨fr, hp, nx⟩ := st
    have hK : ∀ g st a w, K .normal st → Rel n O w0 S0 g st.fr (hpOf st.hp) st.nx a w → QOf n O w0 S0 K Z .normal a w := fun g st a w hk hr => ⟨g, st, hk, hr⟩
    have hZ : ∀ ch a w, (a.defers = [] ∨ S0.nz) → Bad O w0 Z ch w → QOf n O w0 S0 K Z (.panic ch) a w := fun ch a w hd hb => by
      rcases hd with hd | hd
      · exact ⟨hd, hb⟩
      · obtain ⟨T, x, _, _, h1, _⟩ := hb
        exact (hnz hd T x h1).elim
    cases draw with
    | false =>
      have h : (runA cx n ops.toList ops.toList nx fr hp).wp (K .normal) Z := h
      have := runA_seq hcx hK hZ ops.toList nx fr hp g a w h hr
      exact wp_region_list (by simpa using this)
    | true =>
      have h : ordOk ops.toList = true ∧ (runD cx n ops.toList (masksOf ops.toList []) 0 ops.toList nx fr hp []).wp (K .normal) Z := h
      obtain ⟨hord, h⟩ := h
      refine wp_region_any hmix ?_
      obtain ⟨ts, hm, he⟩ := runD_made (nx0 := nx) (f0 := fun t => look t fr) (h0 := hpOf hp) ops.toList 0 nx fr hp [] h
        ⟨fun i t ht => by simp at ht, fun i t ht => by simp at ht, fun i t ht => by simp at ht, fun i t ht => by simp at ht, fun i t ht => by simp at ht, fun i t ht => by simp at ht, fun i t ht => by simp at ht⟩ rfl (by omega) (fun j => by simp) (Tells.refl fr) rfl
      have hd0 : ∀ i, dB (Array.replicate ops.size false) i = false := fun i => by
        unfold dB
        simp only [Array.getD_eq_getD_getElem?, Array.getElem?_replicate]
        split <;> rfl
      have hF : ∀ m, FD ts (dB (Array.replicate ops.size false)) (fun t => look t fr) m = fun t => look t fr := by
        intro m
        induction m with
        | zero => rfl
        | succ m ih => simp only [FD, hd0]; split <;> first | exact ih | simp_all
      have hH : ∀ m, HD ts (dB (Array.replicate ops.size false)) (hpOf hp) m = hpOf hp := by
        intro m
        induction m with
        | zero => rfl
        | succ m ih => simp only [HD, hd0]; split <;> first | exact ih | simp_all
      have hr' := hr.drew
      have hu : undone (Array.replicate ops.size false) ops.toList.length ≤ ops.size := by
        have : ∀ m, undone (Array.replicate ops.size false) m ≤ m := by
          intro m
          induction m with
          | zero => exact Nat.le_refl _
          | succ m ih => simp only [undone]; split <;> omega
        have := this ops.toList.length
        simpa using this
      have := drawn_sim (Q := QOf n O w0 S0 K Z) hcx hord hm he hK hZ ops.size (Array.replicate ops.size false) g a _ (by simp) hu (fun j o h => by rw [hd0] at h; cases h) (fun i h => by rw [hd0] at h; cases h)
        ⟨by rw [hH]; exact hr'.inv, by rw [hF]; exact hr'.fr, hr'.dn, hr'.dz, hr'.sz, fun k hk => by
          rcases Nat.lt_or_ge k nx with h1 | h1
          · exact .inl h1
          · have := hr'.fresh k h1
            rcases hk with hk | hk
            · exact absurd this.1 hk
            · exact absurd this.2 hk, hr'.sb, hr'.sn, hr'.pin⟩
      simpa using this
  | seq x y ihx ihy =>
    intro K st g a w h hr
    change awp cx n Z x _ st at h
    refine wp_seq (wp_mono (ihx _ st g a w h hr) (fun e a' w' hq => ?_))
    cases e with
    | normal =>
      obtain ⟨g', st', h1, h2⟩ := hq
      exact ihy K st' g' a' w' h1 h2
    | panic ch => exact hq
    | outgrown => exact hq
    | exit id => exact hq
    | goto l => exact hq
    | ret => exact hq
  | cond c x y ihx ihy =>
    intro K st g a w h hr
    obtain ⟨fr, hp, nx⟩ := st
    change (match evOf fr c with
        | some (.v (.bool b)) => (b = true → awp cx n Z x K ⟨fr, hp, nx⟩) ∧ (b = false → awp cx n Z y K ⟨fr, hp, nx⟩)
        | some (.bv k b) => (b = true → match force (setB k true fr) with
          | some fr' => awp cx n Z x K ⟨fr', hp, nx⟩
          | none => False) ∧ (b = false → match force (setB k false fr) with
          | some fr' => awp cx n Z y K ⟨fr', hp, nx⟩
          | none => False)
        | _ => False) at h
    split at h
    · rename_i b hb
      have hc := VRel.v_iff.1 (evOf_ok hr.fr c _ hb)
      refine wp_cond hc ?_
      cases b
      · exact ihy K _ g a w (h.2 rfl) hr
      · exact ihx K _ g a w (h.1 rfl) hr
    · rename_i k b hb
      have hc := evOf_ok hr.fr c _ hb
      simp only [VRel] at hc
      obtain ⟨hc, hβ⟩ := hc
      refine wp_cond hc ?_
      have hset : Rel n O w0 S0 g (setB k b fr) (hpOf hp) nx a w := ⟨hr.inv, fun t z hz => by
        rw [setB_look] at hz
        cases hy : look t fr with
        | none => rw [hy] at hz; cases hz
        | some y =>
          rw [hy] at hz
          simp only [Option.map_some, Option.some.injEq] at hz
          subst hz
          obtain ⟨d, h1, h2⟩ := hr.fr t y hy
          exact ⟨d, h1, kn_ok hβ h2⟩, hr.dn, hr.dz, hr.sz, hr.fresh, hr.sb, hr.sn, hr.pin⟩
      cases b
      · have h2 := h.2 rfl
        rw [force_eq] at h2
        simp only at h2
        exact ihy K _ g a w h2 hset
      · have h2 := h.1 rfl
        rw [force_eq] at h2
        simp only at h2
        exact ihx K _ g a w h2 hset
    · exact h.elim
  | block id c ih =>
    intro K st g a w h hr
    change awp cx n Z c _ st at h
    refine wp_block (wp_mono (ih _ st g a w h hr) (fun e a' w' hq => ?_))
    cases e with
    | exit i =>
      obtain ⟨g', st', h1, h2⟩ := hq
      simp only at h1
      simp only [Exit.inBlock]
      split at h1
      · rename_i hb
        rw [if_pos (beq_eq hb)]
        exact ⟨g', st', h1, h2⟩
      · rename_i hb
        have : ¬ i = id := fun e => by subst e; simp at hb
        rw [if_neg this]
        exact ⟨g', st', h1, h2⟩
    | normal => exact hq
    | panic ch => exact hq
    | outgrown => exact hq
    | goto l => exact hq
    | ret => exact hq
  | loop c ih =>
    intro K st g a w h hr
    change LoopOK cx.pin (awp cx n Z c) K st at h
    unfold LoopOK at h
    obtain ⟨X, L, N, fam, Φ, μ, ⟨x0, hx0, hΦ0⟩, hround⟩ := h
    obtain ⟨gw, hrw⟩ := weakS_ok (l := N) hr
    obtain ⟨g0, hr0⟩ := canonS_ok hrw hpin hx0
    refine wp_loop_ghost (fun m a w => ∃ x g, μ x = m ∧ Φ x ∧ Rel n O w0 S0 g (fam x).fr (hpOf (fam x).hp) (fam x).nx a w) (μ x0) ⟨x0, g0, rfl, hΦ0, hr0⟩ ?_
    rintro m a w ⟨x, g, rfl, hΦ, hr⟩
    refine wp_mono (ih _ (fam x) g a w (hround x hΦ) hr) (fun e a' w' hq => ?_)
    cases e with
    | normal =>
      obtain ⟨g', st', ⟨y, h1, h2, h3⟩, h4⟩ := hq
      obtain ⟨gw', hrw'⟩ := weakS_ok (l := N) h4
      obtain ⟨g2, hr2⟩ := canonS_ok hrw' hpin h1
      exact ⟨μ y, h3, y, g2, rfl, h2, hr2⟩
    | panic ch => exact hq
    | outgrown => exact hq
    | exit id => exact hq
    | goto l => exact hq
    | ret => exact hq
  | scope c ih =>
    intro K st g a w h hr
    change awp cx n Z c _ st at h
    refine wp_scope_straight (wp_mono (ih _ st g a w h hr) (fun e a' w' hq => ?_))
    cases e with
    | goto l => obtain ⟨g', st', h1, _⟩ := hq; exact h1
    | normal => exact hq
    | panic ch => exact hq
    | outgrown => exact hq
    | exit id => exact hq
    | ret => exact hq
  | rangeFunc f ps s b _ _ =>
    intro K st g a w h hr
    obtain ⟨fr, hp, nx⟩ := st
    change (match cx.rf with
      | some q => q.1 = Code.rangeFunc f ps s b ∧ (∀ T x, ¬ Z T x) ∧ (q.2 fr hp nx).wp (K .normal) (fun _ _ => False)
      | none => False) at h
    split at h
    · rename_i q hq
      obtain ⟨c, S⟩ := q
      obtain ⟨h1, h2, h3⟩ := h
      simp only at h1 h3
      subst h1
      refine wp_mono (hrf _ S hq O w0 S0 g fr hp nx a w _ hr (hnz' (by rw [hq]; simp) h2) h3) (fun e a' w' he => ?_)
      obtain ⟨rfl, g', st', h4, h5⟩ := he
      exact ⟨g', st', h4, h5⟩
    · exact h.elim
  | goto l => intro K st g a w h hr; exact h.elim
  | refuse why => intro K st g a w h hr; exact h.elim
end
end Go.Proofs.Ytmkbigaofhionaa
