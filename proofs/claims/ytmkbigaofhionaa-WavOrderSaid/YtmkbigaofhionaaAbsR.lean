/- Regions of the abstract machine: operations one behind the other; no program. -/
import Derived.Test.YtmkbigaofhionaaAbsS
namespace Go.Proofs.Ytmkbigaofhionaa
open Go.RowKit
set_option linter.unusedVariables false
set_option linter.unusedSimpArgs false

def hpOf (l : Pat) : Heap := patch l (fun _ => none)

def evOf (fr : Fra) : Operand → Option AV
  | .tmp t => look t fr
  | .const v => some (.v v)
  | .func f => some (.clo (.func f) [])
  | .global _ => none

def kn (i : Nat) (b : Bool) : AV → AV
  | .bv j x => match Nat.beq j i with
    | true => .v (.bool b)
    | false => .bv j x
  | a => a
/-- A truth is known. -/
def setB (i : Nat) (b : Bool) : Fra → Fra
  | [] => []
  | (t, .bv j x) :: r => match Nat.beq j i with
    | true => (t, .v (.bool b)) :: setB i b r
    | false => (t, .bv j x) :: setB i b r
  | p :: r => p :: setB i b r

/-- Is it wanted? And the frame, once that is known. -/
noncomputable def guardA (ops : List Oper) (o : Oper) (fr : Fra) : R (Bool × Fra) :=
  match o.guard with
  | none => .ok (true, fr)
  | some (j, want) => match (ops[j]?).bind (·.dst) with
    | some t => match look t fr with
      | some (.v (.bool b)) => match want with
        | true => .br b (.ok (true, fr)) (.ok (false, fr))
        | false => .br b (.ok (false, fr)) (.ok (true, fr))
      | some (.bv k b) => match want with
        | true => .br b (opt (force (setB k true fr)) fun fr => .ok (true, fr)) (opt (force (setB k false fr)) fun fr => .ok (false, fr))
        | false => .br b (opt (force (setB k true fr)) fun fr => .ok (false, fr)) (opt (force (setB k false fr)) fun fr => .ok (true, fr))
      | some (.v (.tuple _)) => .ok (false, fr)
      | _ => .bad
    | none => .bad

structure Tr where
  fr : Fra
  ran : Bool
  out : AV
  p : Pat

noncomputable def oneA (cx : Cx) (ops : List Oper) (nx : Nat) (o : Oper) (fr : Fra) (hp : Heap) : R Tr :=
  (guardA ops o fr).bind fun q => match q with
    | (true, fr) => (stepA cx nx (evOf fr) hp o.op).bind fun r => match r with
      | (a, p) => .ok ⟨fr, true, a, p⟩
    | (false, fr) => .ok ⟨fr, false, .v undef, []⟩

def putF (n : Nat) (d : Option Nat) (a : AV) (fr : Fra) : Option Fra :=
  match d with
  | none => some fr
  | some d => match Nat.blt d n with
    | true => some ((d, a) :: fr)
    | false => none

/-- One behind the other. -/
noncomputable def runA (cx : Cx) (n : Nat) (ops : List Oper) (l : List Oper) : Nat → Fra → Pat → R AS :=
  @List.rec Oper (fun _ => Nat → Fra → Pat → R AS) (fun nx fr hp => .ok ⟨fr, hp, nx⟩)
    (fun o _ ih nx fr hp => (oneA cx ops nx o fr (hpOf hp)).bind fun q => match q with
      | ⟨fr, _, a, p⟩ => opt (putF n o.dst a fr) fun fr => opt (force (p ++ hp)) fun hp => ih (nx + 64) fr hp) l
theorem runA_nil (cx : Cx) (n : Nat) (ops : List Oper) (nx : Nat) (fr : Fra) (hp : Pat) : runA cx n ops [] nx fr hp = .ok ⟨fr, hp, nx⟩ := rfl
theorem runA_cons (cx : Cx) (n : Nat) (ops : List Oper) (o : Oper) (r : List Oper) (nx : Nat) (fr : Fra) (hp : Pat) : runA cx n ops (o :: r) nx fr hp = (oneA cx ops nx o fr (hpOf hp)).bind fun q => match q with
    | ⟨fr, _, a, p⟩ => opt (putF n o.dst a fr) fun fr => opt (force (p ++ hp)) fun hp => runA cx n ops r (nx + 64) fr hp := rfl

theorem hpOf_append (p l : Pat) : hpOf (p ++ l) = patch p (hpOf l) := patch_append p l _

/-- What a function began with; is no panic let out? -/
structure G0 extends G where
  nz : Prop
/-- Marks of ranges over functions among the deferred calls: their blocks stay. -/
def markOf (D : Nat) : Deferred := { target := .collected D, args := #[] }
def Marks (g : G) (w0 w : World) (ds : List Deferred) : Prop := ∃ Ds : List Nat, ds = Ds.map markOf ∧ Ds.Nodup ∧ ∀ D ∈ Ds, g.S D ∧ w0.heap.size ≤ D ∧ w.heap[D]? = some (.deferred (some []))
theorem Marks.nil {g : G} {w0 w : World} : Marks g w0 w [] := ⟨[], rfl, List.nodup_nil, fun _ h => by simp at h⟩
theorem Marks.stay {g g' : G} {w0 w w' : World} {ds : List Deferred} (h : Marks g w0 w ds) (hS : ∀ b, g.S b → g'.S b) (hs : Stay g.S w w') : Marks g' w0 w' ds := by
  obtain ⟨Ds, h1, h2, h3⟩ := h
  refine ⟨Ds, h1, h2, fun D hD => ?_⟩
  obtain ⟨k1, k2, k3⟩ := h3 D hD
  exact ⟨hS D k1, k2, (hs D k1).trans k3⟩
/-- The state, told. -/
structure Rel (n : Nat) (O : Nat → Prop) (w0 : World) (S0 : G0) (g : G) (fr : Fra) (hp : Heap) (nx : Nat) (a : Act) (w : World) : Prop where
  inv : Inv O w0 g hp w
  fr : ∀ t x, look t fr = some x → ∃ c, a.tmps[t]? = some c ∧ VRel g w x c
  dn : Marks g w0 w a.defers
  dz : a.defers = [] ∨ S0.nz
  sz : a.tmps.size = n
  fresh : ∀ k, nx ≤ k → g.m k = none ∧ g.β k = none
  sb : ∀ b, S0.S b → g.S b
  sn : ∀ b, g.S b → S0.S b ∨ O b ∨ w0.heap.size ≤ b
  pin : ∀ k c, S0.m k = some c → g.m k = some c

section
variable {P : Program} {n : Nat} {O : Nat → Prop} {w0 w : World} {g : G} {Z : TypeId → AV → Prop}

theorem evOf_ok {fr : Fra} {a : Act} (h : ∀ t x, look t fr = some x → ∃ c, a.tmps[t]? = some c ∧ VRel g w x c) : ∀ x b, evOf fr x = some b → VRel g w b (a.eval x) := by
  intro x b hb
  cases x with
  | tmp t =>
    obtain ⟨c, h1, h2⟩ := h t b hb
    simpa [Act.eval, h1] using h2
  | const v => simp only [evOf, Option.some.injEq] at hb; subst hb; exact VRel.v_iff.2 rfl
  | func f =>
    simp only [evOf, Option.some.injEq] at hb; subst hb
    simp only [VRel]
    exact ⟨[], VRels.nil.2 rfl, rfl⟩
  | global _ => cases hb

theorem setB_look {i : Nat} {b : Bool} {t : Nat} : ∀ (fr : Fra), look t (setB i b fr) = (look t fr).map (kn i b)
  | [] => rfl
  | (t', y) :: r => by
    have ih := setB_look (i := i) (b := b) (t := t) r
    have e : setB i b ((t', y) :: r) = (t', kn i b y) :: setB i b r := by
      cases y <;> first
        | rfl
        | (simp only [setB, kn]; split <;> rfl)
    rw [e]
    simp only [look]
    split
    · rfl
    · exact ih

theorem kn_ok {i : Nat} {b : Bool} (hb : g.β i = some b) : ∀ {a : AV} {c : Value}, VRel g w a c → VRel g w (kn i b a) c
  | .bv j x, c, h => by
    simp only [kn]
    split
    · rename_i hj
      have := beq_eq hj
      subst this
      simp only [VRel] at h ⊢
      rw [hb] at h
      rw [h.1]
      have := h.2
      injection this with this
      rw [this]
    · exact h
  | .v _, _, h => h
  | .ro _ _, _, h => h
  | .el _ _ _, _, h => h
  | .own _, _, h => h
  | .oel _ _ _ _, _, h => h
  | .ptr _ _, _, h => h
  | .mp _, _, h => h
  | .clo _ _, _, h => h
  | .agg _, _, h => h
  | .tup _, _, h => h
  | .ifc _ _, _, h => h

/-- What is told of the frame. -/
def FRel (g : G) (w : World) (fr : Nat → Option AV) (a : Act) : Prop := ∀ t x, fr t = some x → ∃ c, a.tmps[t]? = some c ∧ VRel g w x c

/-- A guard, asked: whether its operation is wanted; the frame that it leaves says the same. -/
theorem guardA_ok {ops : List Oper} {o : Oper} {fr : Fra} {K : Bool × Fra → Prop} (h : (guardA ops o fr).wp K Z) {a : Act}
    (hg : ∀ j want t, o.guard = some (j, want) → (ops[j]?).bind (·.dst) = some t → ∀ x, look t fr = some x → ∃ c, a.tmps[t]? = some c ∧ VRel g w x c) :
    ∃ ran fr', K (ran, fr') ∧ Region.wanted o (yielded ops.toArray a.tmps) = ran ∧ ∀ t x, look t fr' = some x → ∃ y, look t fr = some y ∧ ∀ c, VRel g w y c → VRel g w x c := by
  have refl : ∀ t x, look t fr = some x → ∃ y, look t fr = some y ∧ ∀ c, VRel g w y c → VRel g w x c := fun t x h => ⟨x, h, fun _ h => h⟩
  unfold guardA at h
  split at h
  · rename_i hgd
    simp only [R.wpE1, R.wpE2, R.wpE3, R.wpE4, R.wpE5, R.wpE6] at h
    exact ⟨true, fr, h, by simp [Region.wanted, hgd], refl⟩
  · rename_i j want hgd
    have hw : ∀ v : Option Bool, yielded ops.toArray a.tmps j = v → Region.wanted o (yielded ops.toArray a.tmps) = (v == some want) := fun v hv => by simp [Region.wanted, hgd, hv]
    split at h
    · rename_i t ht
      have hy : ∀ c, a.tmps[t]? = some c → yielded ops.toArray a.tmps j = (match c with | .bool b => some b | _ => none) := fun c hc => by
        unfold yielded
        have : (ops.toArray[j]?).bind (·.dst) = some t := by simpa using ht
        rw [this]
        simp only [Option.bind_some, hc]
        cases c <;> rfl
      split at h
      · rename_i b hl
        obtain ⟨c, hc, hv⟩ := hg j want t hgd ht _ hl
        rw [VRel.v_iff] at hv; subst hv
        have hyb := hw _ (hy _ hc)
        split at h
        · simp only [R.wpE1, R.wpE2, R.wpE3, R.wpE4, R.wpE5, R.wpE6] at h
          cases b
          · exact ⟨_, _, h.2 rfl, hyb, refl⟩
          · exact ⟨_, _, h.1 rfl, hyb, refl⟩
        · simp only [R.wpE1, R.wpE2, R.wpE3, R.wpE4, R.wpE5, R.wpE6] at h
          cases b
          · exact ⟨_, _, h.2 rfl, hyb, refl⟩
          · exact ⟨_, _, h.1 rfl, hyb, refl⟩
      · rename_i k b hl
        obtain ⟨c, hc, hv⟩ := hg j want t hgd ht _ hl
        simp only [VRel] at hv
        obtain ⟨rfl, hβ⟩ := hv
        have hyb := hw _ (hy _ hc)
        have hset : ∀ t x, look t (setB k b fr) = some x → ∃ y, look t fr = some y ∧ ∀ c, VRel g w y c → VRel g w x c := fun t x hx => by
          rw [setB_look] at hx
          cases hy : look t fr with
          | none => rw [hy] at hx; cases hx
          | some y =>
            rw [hy] at hx
            simp only [Option.map_some, Option.some.injEq] at hx
            subst hx
            exact ⟨y, rfl, fun c hc => kn_ok hβ hc⟩
        split at h
        · simp only [R.wpE1, R.wpE2, R.wpE3, R.wpE4, R.wpE5, R.wpE6] at h
          cases b
          · obtain ⟨fr', h1, h2⟩ := opt_wp (h.2 rfl)
            rw [force_eq] at h1; injection h1 with h1; subst h1
            exact ⟨_, _, h2, hyb, hset⟩
          · obtain ⟨fr', h1, h2⟩ := opt_wp (h.1 rfl)
            rw [force_eq] at h1; injection h1 with h1; subst h1
            exact ⟨_, _, h2, hyb, hset⟩
        · simp only [R.wpE1, R.wpE2, R.wpE3, R.wpE4, R.wpE5, R.wpE6] at h
          cases b
          · obtain ⟨fr', h1, h2⟩ := opt_wp (h.2 rfl)
            rw [force_eq] at h1; injection h1 with h1; subst h1
            exact ⟨_, _, h2, hyb, hset⟩
          · obtain ⟨fr', h1, h2⟩ := opt_wp (h.1 rfl)
            rw [force_eq] at h1; injection h1 with h1; subst h1
            exact ⟨_, _, h2, hyb, hset⟩
      · rename_i vs hl
        obtain ⟨c, hc, hv⟩ := hg j want t hgd ht _ hl
        rw [VRel.v_iff] at hv; subst hv
        simp only [R.wpE1, R.wpE2, R.wpE3, R.wpE4, R.wpE5, R.wpE6] at h
        exact ⟨false, fr, h, hw _ (hy _ hc), refl⟩
      · exact h.elim
    · exact h.elim

def updF (d : Option Nat) (x : AV) (f : Nat → Option AV) (t : Nat) : Option AV :=
  match d with
  | none => f t
  | some d => if d = t then some x else f t

theorem putF_look {d : Option Nat} {x : AV} {fr fr' : Fra} (h : putF n d x fr = some fr') : (∀ t, look t fr' = updF d x (fun t => look t fr) t) ∧ ∀ e, d = some e → e < n := by
  cases d with
  | none =>
    simp only [putF, Option.some.injEq] at h
    subst h
    exact ⟨fun t => rfl, fun e he => by cases he⟩
  | some d =>
    simp only [putF] at h
    split at h
    · rename_i hb
      injection h with h; subst h
      refine ⟨fun t => ?_, fun e he => by injection he with he; subst he; simp [Nat.blt] at hb; omega⟩
      simp only [look, updF]
      by_cases e : d = t
      · subst e
        have : Nat.beq d d = true := by simp
        simp only [this, if_true]
      · simp only [beq_ne e, if_neg e]
    · cases h

theorem frel_put {fr : Nat → Option AV} {a : Act} (h : FRel g w fr a) {d : Option Nat} {x : AV} {c : Value} (hx : VRel g w x c) (hd : ∀ e, d = some e → e < a.tmps.size) :
    FRel g w (updF d x fr) (a.put d c) := by
  intro t y hy
  cases d with
  | none => exact h t y hy
  | some d =>
    simp only [updF] at hy
    have hlt := hd d rfl
    by_cases e : d = t
    · subst e
      rw [if_pos rfl] at hy
      injection hy with hy; subst hy
      exact ⟨c, by simp [Act.put, hlt], hx⟩
    · rw [if_neg e] at hy
      obtain ⟨c', h1, h2⟩ := h t y hy
      exact ⟨c', by simp [Act.put, Array.getElem?_setIfInBounds_ne e, h1], h2⟩

theorem FRel.stay {g' : G} {w' : World} {fr : Nat → Option AV} {a : Act} (h : FRel g w fr a) (hg : g.le g') (hs : Stay g.S w w') : FRel g' w' fr a := fun t x hx => by
  obtain ⟨c, h1, h2⟩ := h t x hx
  exact ⟨c, h1, h2.stay hg hs⟩

theorem put_size (a : Act) (d : Option Nat) (c : Value) : (a.put d c).tmps.size = a.tmps.size ∧ (a.put d c).defers = a.defers := by
  cases d <;> simp [Act.put]

/-- The model's answers to one operation, by the abstract machine's. -/
theorem did_upon {o : Oper} {a : Act} {w : World} {next : Act → World → Prop} {Q : Exit → Act → World → Prop} {good : Value → World → Prop} {bad : List PanicEntry → World → Prop} (h : Did P ((execOp a.eval o).run P w) good bad)
    (hg : ∀ c w', good c w' → next (a.put o.dst c) w') (hb : ∀ ch w', bad ch w' → Q (.panic ch) a w') : o.wp P a w next Q := by
  unfold Oper.wp
  generalize (execOp a.eval o).run P w = r at h ⊢
  cases r with
  | ok nx w' =>
    cases nx <;> simp only [Did] at h <;> simp only [Oper.upon]
    case value c => exact hg _ _ h
    case skip => exact hg _ _ h
    case enter f args =>
      exact h.mono fun e w' he => by
        cases e with
        | returned c => exact hg _ _ he
        | panicked ch => exact hb _ _ he
        | outgrown => exact he.elim
  | halt x w' =>
    cases x <;> simp only [Did] at h <;> simp only [Oper.upon]
    case panic v => exact hb _ _ h
end

section
variable {P : Program} {n : Nat} {O : Nat → Prop} {w0 : World} {S0 : G0} {Z : TypeId → AV → Prop} {cx : Cx}

theorem fresh_next {g g' : G} {nx : Nat} (h : ∀ k, nx ≤ k → g.m k = none ∧ g.β k = none) (hn : NewIn O w0 g g' nx) : ∀ k, nx + 64 ≤ k → g'.m k = none ∧ g'.β k = none := by
  intro k hk
  constructor
  · cases e : g'.m k with
    | none => rfl
    | some c =>
      rcases hn.m k (by rw [e]; simp) with h1 | h1
      · exact absurd (h k (by omega)).1 h1
      · omega
  · cases e : g'.β k with
    | none => rfl
    | some c =>
      rcases hn.β k (by rw [e]; simp) with h1 | h1
      · exact absurd (h k (by omega)).2 h1
      · omega

/-- One operation, on a state that is told. -/
theorem oneA_ok (hcx : CxOK P cx) {ops : List Oper} {o : Oper} {nx : Nat} {fr : Fra} {hp : Heap} {g : G} {a : Act} {w : World} {K : Tr → Prop} (hI : Inv O w0 g hp w) (hf : ∀ k, nx ≤ k → k < nx + 64 → g.m k = none ∧ g.β k = none) (hfr : FRel g w (fun t => look t fr) a)
    (h : (oneA cx ops nx o fr hp).wp K Z) : ∃ ran fr', Region.wanted o (yielded ops.toArray a.tmps) = ran ∧ (∀ t x, look t fr' = some x → ∃ y, look t fr = some y ∧ ∀ c, VRel g w y c → VRel g w x c) ∧
      (ran = true → Did P ((execOp a.eval o).run P w) (Good O w0 g hp nx w (fun r => K ⟨fr', true, r.1, r.2⟩)) (Bad O w0 Z)) ∧ (ran = false → K ⟨fr', false, .v undef, []⟩) := by
  obtain ⟨ran, fr', h1, h2, h3⟩ := guardA_ok (g := g) (w := w) (R.wp_bind h) (fun j want t _ _ x hx => hfr t x hx)
  refine ⟨ran, fr', h2, h3, fun hr => ?_, fun hr => ?_⟩
  · subst hr
    have hfr' : ∀ t x, look t fr' = some x → ∃ c, a.tmps[t]? = some c ∧ VRel g w x c := fun t x hx => by
      obtain ⟨y, h4, h5⟩ := h3 t x hx
      obtain ⟨c, h6, h7⟩ := hfr t y h4
      exact ⟨c, h6, h5 c h7⟩
    exact stepA_ok hcx hI hf (evOf_ok hfr') o (R.wp_bind h1)
  · subst hr
    exact h1

theorem runA_seq (hcx : CxOK P cx) {ops : List Oper} {K : AS → Prop} {Q : Exit → Act → World → Prop} (hK : ∀ g st a w, K st → Rel n O w0 S0 g st.fr (hpOf st.hp) st.nx a w → Q .normal a w) (hZ : ∀ ch a w, (a.defers = [] ∨ S0.nz) → Bad O w0 Z ch w → Q (.panic ch) a w) :
    ∀ (l : List Oper) (nx : Nat) (fr : Fra) (hp : Pat) (g : G) (a : Act) (w : World), (runA cx n ops l nx fr hp).wp K Z → Rel n O w0 S0 g fr (hpOf hp) nx a w → wpList P ops.toArray Q l a w
  | [], nx, fr, hp, g, a, w, h, hr => hK g ⟨fr, hp, nx⟩ a w h hr
  | o :: l, nx, fr, hp, g, a, w, h, hr => by
    rw [runA_cons] at h
    obtain ⟨ran, fr', h1, h2, h3, h4⟩ := oneA_ok hcx hr.inv (fun k h1 _ => hr.fresh k h1) (fun t x hx => hr.fr t x hx) (R.wp_bind h)
    have hfr' : FRel g w (fun t => look t fr') a := fun t x hx => by
      obtain ⟨y, h5, h6⟩ := h2 t x hx
      obtain ⟨c, h7, h8⟩ := hr.fr t y h5
      exact ⟨c, h7, h6 c h8⟩
    unfold wpList
    rw [h1]
    cases ran with
    | true =>
      rw [if_pos rfl]
      refine .inl (did_upon (h3 rfl) (fun c w' hg => ?_) (fun ch w' hb => hZ ch a w' hr.dz hb))
      obtain ⟨x, p, g', k1, k2, k3, k4, k5, k6⟩ := hg
      obtain ⟨fr2, k7, k8⟩ := opt_wp k1
      obtain ⟨hp2, k9, k10⟩ := opt_wp k8
      rw [force_eq] at k9; injection k9 with k9; subst k9
      obtain ⟨k11, k12⟩ := putF_look k7
      refine runA_seq hcx hK hZ l (nx + 64) fr2 (p ++ hp) g' _ w' k10 ⟨by rw [hpOf_append]; exact k4, fun t y hy => ?_, by rw [(put_size _ _ _).2]; exact hr.dn.stay k2.S k5, by rw [(put_size _ _ _).2]; exact hr.dz, by rw [(put_size _ _ _).1]; exact hr.sz, fresh_next hr.fresh k3, fun b hb => k2.S b (hr.sb b hb), fun b hb => by
        rcases k3.S b hb with h9 | h9
        · exact hr.sn b h9
        · exact .inr h9, fun k c hk => k2.m k c (hr.pin k c hk)⟩
      rw [k11] at hy
      exact frel_put (hfr'.stay k2 k5) k6 (fun e he => by rw [hr.sz]; exact k12 e he) t y hy
    | false =>
      rw [if_neg (by simp)]
      have k1 := h4 rfl
      obtain ⟨fr2, k7, k8⟩ := opt_wp k1
      obtain ⟨hp2, k9, k10⟩ := opt_wp k8
      rw [force_eq] at k9; injection k9 with k9; subst k9
      obtain ⟨k11, k12⟩ := putF_look k7
      refine runA_seq hcx hK hZ l (nx + 64) fr2 ([] ++ hp) g _ w k10 ⟨hr.inv, fun t y hy => ?_, by rw [(put_size _ _ _).2]; exact hr.dn, by rw [(put_size _ _ _).2]; exact hr.dz, by rw [(put_size _ _ _).1]; exact hr.sz, fun k hk => hr.fresh k (by omega), hr.sb, hr.sn, hr.pin⟩
      rw [k11] at hy
      exact frel_put hfr' (VRel.v_iff.2 rfl) (fun e he => by rw [hr.sz]; exact k12 e he) t y hy
end

end Go.Proofs.Ytmkbigaofhionaa
