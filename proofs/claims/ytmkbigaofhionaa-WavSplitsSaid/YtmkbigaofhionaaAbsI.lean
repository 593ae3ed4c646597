/- Plain code within a round of a range over a function (or outside one): by the abstract machine; no program. -/
import Derived.Test.YtmkbigaofhionaaAbsH
import Derived.RangeFuncCalls
import Derived.TacticsIn
import Derived.RangeFuncFrom
namespace Go.Proofs.Ytmkbigaofhionaa
open Go.RowKit
set_option linter.unusedVariables false
set_option linter.unusedSimpArgs false

/-- The wide fence, in a round or in none. -/
abbrev WR (r : Option Nat) : Fence := { Fence.wide with round := r }
def noDef (o : Oper) : Bool := match o.op with
  | .defer _ => false
  | _ => true
def noDefs : List Oper → Bool
  | [] => true
  | o :: l => match noDef o with
    | true => noDefs l
    | false => false
def plainC : Code → Bool
  | .region _ ops draw => match draw with
    | true => false
    | false => noDefs ops.toList
  | .seq a b => match plainC a with
    | true => plainC b
    | false => false
  | .cond _ a b => match plainC a with
    | true => plainC b
    | false => false
  | .block _ c => plainC c
  | .skip => true
  | .exit _ => true
  | .ret => true
  | _ => false

section
variable {P : Program} {n : Nat} {O : Nat → Prop} {w0 : World} {S0 : G0} {Z : TypeId → AV → Prop} {cx : Cx} {r : Option Nat} {m : Nat}

theorem did_uponIn {o : Oper} {a : Act} {w : World} {next : Act → World → Prop} {Q : Exit → Act → World → Prop} {good : Value → World → Prop} {bad : List PanicEntry → World → Prop} (hop : noDef o = true) (h : Did P ((execOp a.eval o).run P w) good bad)
    (hg : ∀ c w', good c w' → next (a.put o.dst c) w') (hb : ∀ ch w', bad ch w' → Q (.panic ch) a w') : o.wpIn (WR r) m P a w next Q := by
  refine ⟨fun _ _ => trivial, ?_⟩
  rw [show o.semAt (WR r).round a.eval = execOp a.eval o from Oper.semAt_eq _ _ _ (fun c e => by unfold noDef at hop; rw [e] at hop; cases hop)]
  generalize (execOp a.eval o).run P w = x at h ⊢
  cases x with
  | ok nx w' =>
    cases nx <;> simp only [Did] at h <;> simp only [Oper.uponIn]
    case value c => exact hg _ _ h
    case skip => exact hg _ _ h
    case enter f args =>
      refine ⟨fun h => absurd (h : false = true) (by decide), ?_⟩
      have hc := callsIn_wide (n := m - 1).2 h
      have : CallsIn (WR r) (m - 1) P f args w' _ := hc
      exact this.mono fun e w' he => by
        cases e with
        | returned c => exact hg _ _ he
        | panicked ch => exact hb _ _ he
        | outgrown => exact he.elim
  | halt y w' =>
    cases y <;> simp only [Did] at h <;> simp only [Oper.uponIn]
    case panic v => exact hb _ _ h

theorem runA_part (hcx : CxOK P cx) {ops : Array Oper} {opl : List Oper} (hopl : opl.toArray = ops) {K : AS → Prop} {rest : List Oper} {Q : Exit → Act → World → Prop} (hK : ∀ g st a w, K st → Rel n O w0 S0 g st.fr (hpOf st.hp) st.nx a w → wpListIn (WR r) m P ops Q rest a w)
    (hZ : ∀ ch a w, (a.defers = [] ∨ S0.nz) → Bad O w0 Z ch w → Q (.panic ch) a w) :
    ∀ (l : List Oper) (nx : Nat) (fr : Fra) (hp : Pat) (g : G) (a : Act) (w : World), noDefs l = true → (runA cx n opl l nx fr hp).wp K Z → Rel n O w0 S0 g fr (hpOf hp) nx a w → wpListIn (WR r) m P ops Q (l ++ rest) a w
  | [], nx, fr, hp, g, a, w, _, h, hr => hK g ⟨fr, hp, nx⟩ a w h hr
  | o :: l, nx, fr, hp, g, a, w, hnd, h, hr => by
    rw [runA_cons] at h
    simp only [noDefs] at hnd
    split at hnd
    rotate_left
    · cases hnd
    rename_i hno
    obtain ⟨ran, fr', h1, h2, h3, h4⟩ := oneA_ok hcx hr.inv (fun k h1 _ => hr.fresh k h1) (fun t x hx => hr.fr t x hx) (R.wp_bind h)
    rw [hopl] at h1
    have hfr' : FRel g w (fun t => look t fr') a := fun t x hx => by
      obtain ⟨y, h5, h6⟩ := h2 t x hx
      obtain ⟨c, h7, h8⟩ := hr.fr t y h5
      exact ⟨c, h7, h6 c h8⟩
    rw [List.cons_append]
    unfold wpListIn
    rw [h1]
    cases ran with
    | true =>
      rw [if_pos rfl]
      refine did_uponIn hno (h3 rfl) (fun c w' hg => ?_) (fun ch w' hb => hZ ch a w' hr.dz hb)
      obtain ⟨x, p, g', k1, k2, k3, k4, k5, k6⟩ := hg
      obtain ⟨fr2, k7, k8⟩ := opt_wp k1
      obtain ⟨hp2, k9, k10⟩ := opt_wp k8
      rw [force_eq] at k9; injection k9 with k9; subst k9
      obtain ⟨k11, k12⟩ := putF_look k7
      refine runA_part hcx hopl hK hZ l (nx + 64) fr2 (p ++ hp) g' _ w' hnd k10 ⟨by rw [hpOf_append]; exact k4, fun t y hy => ?_, by rw [(put_size _ _ _).2]; exact hr.dn.stay k2.S k5, by rw [(put_size _ _ _).2]; exact hr.dz, by rw [(put_size _ _ _).1]; exact hr.sz, fresh_next hr.fresh k3, fun b hb => k2.S b (hr.sb b hb), fun b hb => by
        rcases k3.S b hb with h9 | h9
        · exact hr.sn b h9
        · exact .inr h9, fun k c hk => k2.m k c (hr.pin k c hk)⟩
      rw [k11] at hy
      exact frel_put (hfr'.stay k2 k5) k6 (fun e he => by rw [hr.sz]; exact k12 e he) t y hy
    | false =>
      rw [if_neg (by simp)]
      refine ⟨fun _ _ => trivial, ?_⟩
      have k1 := h4 rfl
      obtain ⟨fr2, k7, k8⟩ := opt_wp k1
      obtain ⟨hp2, k9, k10⟩ := opt_wp k8
      rw [force_eq] at k9; injection k9 with k9; subst k9
      obtain ⟨k11, k12⟩ := putF_look k7
      refine runA_part hcx hopl hK hZ l (nx + 64) fr2 ([] ++ hp) g _ w hnd k10 ⟨hr.inv, fun t y hy => ?_, by rw [(put_size _ _ _).2]; exact hr.dn, by rw [(put_size _ _ _).2]; exact hr.dz, by rw [(put_size _ _ _).1]; exact hr.sz, fun k hk => hr.fresh k (by omega), hr.sb, hr.sn, hr.pin⟩
      rw [k11] at hy
      exact frel_put hfr' (VRel.v_iff.2 rfl) (fun e he => by rw [hr.sz]; exact k12 e he) t y hy

/-- Plain code in a round, no panic. -/
theorem awpR_ok (hcx : CxOK P cx) : ∀ (c : Code) (K : Exit → AS → Prop) (st : AS) (g : G) (a : Act) (w : World), plainC c = true → awp cx n (fun _ _ => False) c K st → Rel n O w0 S0 g st.fr (hpOf st.hp) st.nx a w →
    c.wpIn (WR r) m P (fun e a w => ∃ g st, K e st ∧ Rel n O w0 S0 g st.fr (hpOf st.hp) st.nx a w) a w := by
  intro c
  induction c with
  | skip => intro K st g a w _ h hr; exact wpIn_skip ⟨g, st, h, hr⟩
  | exit id => intro K st g a w _ h hr; exact wpIn_exit ⟨g, st, h, hr⟩
  | ret => intro K st g a w _ h hr; exact wpIn_ret ⟨g, st, h, hr⟩
  | region id ops draw =>
    intro K st g a w hp' h hr
    obtain ⟨fr, hp, nx⟩ := st
    cases draw with
    | true => cases hp'
    | false =>
      have hp' : noDefs ops.toList = true := hp'
      have h : (runA cx n ops.toList ops.toList nx fr hp).wp (K .normal) (fun _ _ => False) := h
      refine wpIn_region_list ?_
      have := runA_part (r := r) (m := m) (opl := ops.toList) (ops := ops) (rest := []) (Q := fun e a w => ∃ g st, K e st ∧ Rel n O w0 S0 g st.fr (hpOf st.hp) st.nx a w) hcx (by simp) (fun g st a w hk hr => by unfold wpListIn; exact ⟨g, st, hk, hr⟩) (fun ch a w _ hb => by obtain ⟨_, _, _, _, h1, _⟩ := hb; exact h1.elim) ops.toList nx fr hp g a w hp' h hr
      rw [List.append_nil] at this
      exact this
  | seq x y ihx ihy =>
    intro K st g a w hp h hr
    simp only [plainC] at hp
    split at hp
    · rename_i h1
      change awp cx n (fun _ _ => False) x _ st at h
      refine wpIn_seq (wpIn_mono (ihx _ st g a w h1 h hr) (fun e a' w' hq => ?_))
      obtain ⟨g', st', h2, h3⟩ := hq
      cases e with
      | normal => exact ihy K st' g' a' w' hp h2 h3
      | _ => exact ⟨g', st', h2, h3⟩
    · cases hp
  | cond c x y ihx ihy =>
    intro K st g a w hp' h hr
    simp only [plainC] at hp'
    split at hp'
    rotate_left
    · cases hp'
    rename_i hpx
    obtain ⟨fr, hp, nx⟩ := st
    change (match evOf fr c with
        | some (.v (.bool b)) => (b = true → awp cx n (fun _ _ => False) x K ⟨fr, hp, nx⟩) ∧ (b = false → awp cx n (fun _ _ => False) y K ⟨fr, hp, nx⟩)
        | some (.bv k b) => (b = true → match force (setB k true fr) with
          | some fr' => awp cx n (fun _ _ => False) x K ⟨fr', hp, nx⟩
          | none => False) ∧ (b = false → match force (setB k false fr) with
          | some fr' => awp cx n (fun _ _ => False) y K ⟨fr', hp, nx⟩
          | none => False)
        | _ => False) at h
    split at h
    · rename_i b hb
      have hc := VRel.v_iff.1 (evOf_ok hr.fr c _ hb)
      refine wpIn_cond hc ?_
      cases b
      · exact ihy K _ g a w hp' (h.2 rfl) hr
      · exact ihx K _ g a w hpx (h.1 rfl) hr
    · rename_i k b hb
      have hc := evOf_ok hr.fr c _ hb
      simp only [VRel] at hc
      obtain ⟨hc, hβ⟩ := hc
      refine wpIn_cond hc ?_
      have hset : Rel n O w0 S0 g (setB k b fr) (hpOf hp) nx a w := ⟨hr.inv, fun t z hz => by
        rw [setB_look] at hz
        cases hy : look t fr with
        | none => rw [hy] at hz; cases hz
        | some y =>
          rw [hy] at hz
          simp only [Option.map_some, Option.some.injEq] at hz
          subst hz
          obtain ⟨d, h1, h2⟩ := hr.fr t y hy
          exact ⟨d, h1, kn_ok hβ h2⟩, hr.dn, hr.dz, hr.sz, hr.fresh, hr.sb, hr.sn, hr.pin⟩
      cases b
      · have h2 := h.2 rfl
        rw [force_eq] at h2
        simp only at h2
        exact ihy K _ g a w hp' h2 hset
      · have h2 := h.1 rfl
        rw [force_eq] at h2
        simp only at h2
        exact ihx K _ g a w hpx h2 hset
    · exact h.elim
  | block id c ih =>
    intro K st g a w hp h hr
    change awp cx n (fun _ _ => False) c _ st at h
    refine wpIn_block (wpIn_mono (ih _ st g a w hp h hr) (fun e a' w' hq => ?_))
    obtain ⟨g', st', h1, h2⟩ := hq
    cases e with
    | exit i =>
      simp only at h1
      simp only [Exit.inBlock]
      split at h1
      · rename_i hb
        rw [if_pos (beq_eq hb)]
        exact ⟨g', st', h1, h2⟩
      · rename_i hb
        have : ¬ i = id := fun e => by subst e; simp at hb
        rw [if_neg this]
        exact ⟨g', st', h1, h2⟩
    | _ => exact ⟨g', st', h1, h2⟩
  | label l => intro K st g a w hp h hr; cases hp
  | loop c ih => intro K st g a w hp h hr; cases hp
  | scope c ih => intro K st g a w hp h hr; cases hp
  | rangeFunc f ps s b _ _ => intro K st g a w hp h hr; cases hp
  | goto l => intro K st g a w hp h hr; cases hp
  | refuse why => intro K st g a w hp h hr; cases hp
end

/-- What S speaks of is there still, where it is cells. -/
def Keep (S : Nat → Prop) (w w' : World) : Prop := ∀ b, S b → w'.heap[b]? = w.heap[b]? ∨ ∃ o : Obj, w.heap[b]? = some o ∧ o.isCells = false
theorem CellsAt.keep {w w' : World} {b o : Nat} {cs : List Value} (h : CellsAt w b o cs) (hk : w'.heap[b]? = w.heap[b]? ∨ ∃ o : Obj, w.heap[b]? = some o ∧ o.isCells = false) : CellsAt w' b o cs := fun j v hj => by
  rcases hk with h1 | ⟨x, h1, h2⟩
  · exact (World.cell?_of_block (a := ⟨b, o + j, none⟩) h1).trans (h j v hj)
  · have := h j v hj
    unfold World.cell? at this
    rw [show (⟨b, o + j, none⟩ : Addr).block = b from rfl, h1] at this
    cases x <;> simp_all [Obj.isCells]
theorem RepS.keep {S S' : Nat → Prop} {w w' : World} (hS : ∀ b, S b → S' b) (hk : Keep S w w') : ∀ {t : Ty} {x : t.Val} {cs : List Value}, RepS S w t x cs → RepS S' w' t x cs
  | .int _, _, _, h => h
  | .bool, _, _, h => h
  | .str, _, _, h => h
  | .slice _ e, xs, cs, h => by
    obtain ⟨a, cap, h1, h2, h5⟩ := h
    refine ⟨a, cap, h1, h2, fun i hi => ?_⟩
    obtain ⟨b, o, h6, hSb, l, h7, h8, h10⟩ := h5 i hi
    exact ⟨b, o, h6, hS b hSb, l, h7, h8.keep (hk b hSb), RepS.keep hS hk h10⟩
  | .unit, _, _, h => h
  | .pair a b, x, cs, h => by
    obtain ⟨l, r, h1, h2, h3, h4⟩ := h
    exact ⟨l, r, h1, h2, RepS.keep hS hk h3, RepS.keep hS hk h4⟩
/-- Values of no owned thing. -/
def loose : AV → Bool
  | .v _ => true
  | .ro _ _ => true
  | .el _ _ _ => true
  | _ => false
theorem VRel.keep {g g' : G} {w w' : World} (hS : ∀ b, g.S b → g'.S b) (hk : Keep g.S w w') {a : AV} {c : Value} (hl : loose a = true) (h : VRel g w a c) : VRel g' w' a c := by
  cases a with
  | v x => exact VRel.v_iff.2 (VRel.v_iff.1 h)
  | ro t xs => simp only [VRel] at h ⊢; exact h.keep hS hk
  | el t x off =>
    simp only [VRel] at h ⊢
    obtain ⟨b, o, l, h1, h2, h3, h4⟩ := h
    exact ⟨b, o, l, h1, hS b h2, h3.keep (hk b h2), h4.keep hS hk⟩
  | _ => simp [loose] at hl

/-- All that is there stays, but one block. -/
def gB (W : World) (bm : Nat) : G := { m := fun _ => none, S := fun b => b < W.heap.size ∧ b ≠ bm, β := fun _ => none }
structure StI (bm n : Nat) (fr : Fra) (a : Act) (W : World) : Prop where
  lt : bm < W.heap.size
  sz : a.tmps.size = n
  dn : a.defers = []
  fr : ∀ t x, look t fr = some x → ∃ c, a.tmps[t]? = some c ∧ loose x = true ∧ VRel (gB W bm) W x c
/-- What a round of the caller's keeps. -/
structure KpB (bm : Nat) (A B : World) : Prop where
  size : A.heap.size ≤ B.heap.size
  keep : Keep (fun b => b < A.heap.size ∧ b ≠ bm) A B
theorem KpB.refl (bm : Nat) (A : World) : KpB bm A A := ⟨Nat.le_refl _, fun _ _ => .inl rfl⟩
theorem KpB.trans {bm : Nat} {A B C : World} (h : KpB bm A B) (k : KpB bm B C) : KpB bm A C := ⟨Nat.le_trans h.size k.size, fun b hb => by
  rcases h.keep b hb with h1 | h1
  · rcases k.keep b ⟨Nat.lt_of_lt_of_le hb.1 h.size, hb.2⟩ with h2 | ⟨o, h2, h3⟩
    · exact .inl (h2.trans h1)
    · exact .inr ⟨o, by rw [← h1]; exact h2, h3⟩
  · exact .inr h1⟩
theorem KpB.of_grown {bm : Nat} {A B : World} (h : A.grownBy B none) : KpB bm A B := ⟨h.size, fun b hb => .inl (h.block b hb.1 (by simp))⟩
theorem KpB.put {bm : Nat} {W : World} {l : Nat} {o : Obj} (o' : Obj) (h : W.heap[l]? = some o) (ho : o.isCells = false) : KpB bm W (W.putObj l o') := ⟨by simp, fun b hb => by
  by_cases e : b = l
  · subst e; exact .inr ⟨o, h, ho⟩
  · exact .inl (World.putObj_heap_other e)⟩
theorem StI.keep {bm n : Nat} {fr : Fra} {a : Act} {A B : World} (h : StI bm n fr a A) (k : KpB bm A B) : StI bm n fr a B :=
  ⟨Nat.lt_of_lt_of_le h.lt k.size, h.sz, h.dn, fun t x hx => by
    obtain ⟨c, h1, h2, h3⟩ := h.fr t x hx
    exact ⟨c, h1, h2, h3.keep (g := gB A bm) (g' := gB B bm) (fun b hb => ⟨Nat.lt_of_lt_of_le hb.1 k.size, hb.2⟩) k.keep h2⟩⟩

/-- Owned things, seen as data that stays (cells: of kind t). -/
def stS (t : Ty) (hp : Heap) : AV → Option AV
  | .v x => some (.v x)
  | .bv _ b => some (.v (.bool b))
  | .ro u xs => some (.ro u xs)
  | .el u x off => some (.el u x off)
  | .ptr k 0 => match hp k with
    | some (.cells T cs) => match dec t cs with
      | some (x, []) => some (.el t x 0)
      | _ => none
    | _ => none
  | .own k => match hp k with
    | some (.row _ u xs) => some (.ro u xs)
    | _ => none
  | _ => none
def stSs (t : Ty) (hp : Heap) (fr : Fra) : List Nat → Option Fra
  | [] => some []
  | k :: l => match look k fr, stSs t hp fr l with
    | some x, some r => match stS t hp x with
      | some y => some ((k, y) :: r)
      | none => none
    | _, _ => none
def stFr (t : Ty) (L : List Nat) (st : AS) : Option Fra := match st with
  | ⟨fr, hp, _⟩ => stSs t (hpOf hp) fr L
theorem stSs_ok {t : Ty} {hp : Heap} {fr : Fra} : ∀ {L : List Nat} {fr' : Fra}, stSs t hp fr L = some fr' → ∀ k y, look k fr' = some y → ∃ x, look k fr = some x ∧ stS t hp x = some y
  | [], fr', h, k, y, hy => by simp only [stSs, Option.some.injEq] at h; subst h; simp [look] at hy
  | i :: L, fr', h, k, y, hy => by
    simp only [stSs] at h
    split at h
    · rename_i x r hx hr
      split at h
      · rename_i z hz
        injection h with h; subst h
        simp only [look] at hy
        split at hy
        · rename_i hb
          have := beq_eq hb
          subst this
          injection hy with hy; subst hy
          exact ⟨x, hx, hz⟩
        · exact stSs_ok hr k y hy
      · cases h
    · cases h

section
variable {P : Program} {cx : Cx} {bm n : Nat} {m : Nat}
/-- From a stretch's end to the next one's begin. -/
theorem StI.of_rel {t : Ty} {L : List Nat} {fr'' : Fra} {a' : Act} {W W' : World} (hbm : bm < W.heap.size) {g' : G} {st : AS} (hr : Rel n (fun _ => False) W ⟨gB W bm, False⟩ g' st.fr (hpOf st.hp) st.nx a' W') (h : stFr t L st = some fr'') :
    StI bm n fr'' a' W' ∧ W.grownBy W' none := by
  obtain ⟨fr, hp, nx⟩ := st
  have hS : ∀ b, g'.S b → (gB W' bm).S b := fun b hb => ⟨hr.inv.stab b hb, by
    rcases hr.sn b hb with h1 | h1 | h1
    · exact h1.2
    · exact h1.elim
    · omega⟩
  have hown : ∀ k c b, hpOf hp k ≠ none → g'.m k = some c → blkOf c = some b → (gB W' bm).S b := fun k c b h1 h2 h3 => by
    cases e : hpOf hp k with
    | none => exact absurd e h1
    | some ob =>
      obtain ⟨c', h4, h5⟩ := hr.inv.sat k ob e
      rw [h2] at h4; injection h4 with h4; subst h4
      refine ⟨h5.lt h3, ?_⟩
      rcases hr.inv.mine k c b h1 h2 h3 with h6 | h6
      · exact h6.elim
      · omega
  refine ⟨⟨Nat.lt_of_lt_of_le hbm hr.inv.size, hr.sz, hr.dz.resolve_right (fun h => h), fun k y hy => ?_⟩, ⟨hr.inv.os, hr.inv.tape, hr.inv.output, hr.inv.size, fun b hb _ => hr.inv.frame b hb (fun h => h)⟩⟩
  obtain ⟨x, hx, hs⟩ := stSs_ok (show stSs t (hpOf hp) fr L = some fr'' from h) k y hy
  obtain ⟨c, h1, h2⟩ := hr.fr k x hx
  refine ⟨c, h1, ?_⟩
  unfold stS at hs
  split at hs
  · injection hs with hs; subst hs
    exact ⟨rfl, VRel.v_iff.2 (VRel.v_iff.1 h2)⟩
  · injection hs with hs; subst hs
    simp only [VRel] at h2
    exact ⟨rfl, VRel.v_iff.2 h2.1⟩
  · injection hs with hs; subst hs
    exact ⟨rfl, h2.keep (g := g') hS (fun _ _ => .inl rfl) rfl⟩
  · injection hs with hs; subst hs
    exact ⟨rfl, h2.keep (g := g') hS (fun _ _ => .inl rfl) rfl⟩
  · rename_i k
    split at hs
    · rename_i T cs hk
      split at hs
      · rename_i x hd'
        injection hs with hs; subst hs
        simp only [VRel] at h2
        obtain ⟨b, h3, rfl⟩ := h2
        obtain ⟨c', h4, h5⟩ := hr.inv.sat k _ hk
        rw [h3] at h4; injection h4 with h4; subst h4
        obtain ⟨b', cvs, h6, h7, h8⟩ := h5
        injection h6 with h6; injection h6 with h6; injection h6 with h6; subst h6
        obtain ⟨c1, c2, h9, h10, h11⟩ := dec_ok hd' h8
        rw [VRels.nil.1 h11, List.append_nil] at h9
        subst h9
        refine ⟨rfl, ?_⟩
        simp only [VRel]
        refine ⟨b, 0, cvs, rfl, hown k _ b (by rw [hk]; simp) h3 rfl, fun j v hj => ?_, h10.keep hS (fun _ _ => .inl rfl)⟩
        simp only [World.cell?, h7, Nat.zero_add]
        simpa using hj
      · cases hs
    · cases hs
  · rename_i k
    split at hs
    · rename_i E u xs hk
      injection hs with hs; subst hs
      simp only [VRel] at h2
      obtain ⟨h3, A, n', cap, rfl⟩ := h2
      obtain ⟨c', h4, h5⟩ := hr.inv.sat k _ hk
      rw [h3] at h4; injection h4 with h4; subst h4
      refine ⟨rfl, ?_⟩
      simp only [VRel]
      exact row_ro h5 hS (fun b hb => hown k _ b (by rw [hk]; simp) h3 hb)
    · cases hs
  · cases hs

theorem inv_gB (W : World) : Inv (fun _ => False) W (gB W bm) (hpOf []) W :=
  ⟨⟨fun _ _ _ => rfl, rfl, rfl, rfl, Nat.le_refl _⟩, fun _ _ h => by simp [hpOf, patch, look] at h, fun _ _ _ _ _ h => by simp [hpOf, patch, look] at h, fun b h => h.1, fun _ _ _ h => by simp [hpOf, patch, look] at h, fun _ _ _ h => by simp [hpOf, patch, look] at h⟩

/-- A stretch of code, in no round. -/
theorem seg (hcx : CxOK P cx) (hmix : P.follows .mixedOrders = true) (hrf : cx.rf = none) {t : Ty} {c : Code} {K : Exit → Fra → Prop} {L : List Nat} {fr : Fra} {a : Act} {W : World} (h : StI bm n fr a W)
    (hw : awp cx n (fun _ _ => False) c (fun e st => ∃ fr', stFr t L st = some fr' ∧ K e fr') ⟨fr, [], 0⟩) :
    c.wpIn (WR none) m P (fun e a' W' => ∃ fr', K e fr' ∧ StI bm n fr' a' W' ∧ W.grownBy W' none) a W := by
  have hr : Rel n (fun _ => False) W ⟨gB W bm, False⟩ (gB W bm) fr (hpOf []) 0 a W := ⟨inv_gB W, fun k x hx => by
    obtain ⟨c, h1, _, h2⟩ := h.fr k x hx
    exact ⟨c, h1, h2⟩, by rw [h.dn]; exact Marks.nil, .inl h.dn, h.sz, fun _ _ => ⟨rfl, rfl⟩, fun _ h => h, fun _ h => .inl h, fun _ _ h => h⟩
  have h1 := awp_ok (S0 := ⟨gB W bm, False⟩) (Z := fun _ _ => False) hcx hmix (fun c S e => by rw [hrf] at e; cases e) (fun h => h.elim) (fun h => absurd hrf h) (fun k hk => absurd rfl hk) c _ _ _ a W hw hr
  refine wpIn_wide.2 (wp_mono h1 (fun e a' W' hq => ?_))
  have fin : ∀ e, (∃ g st, (∃ fr', stFr t L st = some fr' ∧ K e fr') ∧ Rel n (fun _ => False) W ⟨gB W bm, False⟩ g st.fr (hpOf st.hp) st.nx a' W') → ∃ fr', K e fr' ∧ StI bm n fr' a' W' ∧ W.grownBy W' none := by
    rintro e ⟨g, st, ⟨fr', h2, h3⟩, h4⟩
    obtain ⟨h5, h6⟩ := StI.of_rel h.lt h4 h2
    exact ⟨fr', h3, h5, h6⟩
  cases e with
  | panic ch => obtain ⟨_, _, _, _, _, h2, _⟩ := hq; exact h2.elim
  | outgrown => exact hq.elim
  | _ => exact fin _ hq
end
end Go.Proofs.Ytmkbigaofhionaa
