/- Rows that are lent: a callee that only reads sees what is owned as data that stays; no program. -/
import Derived.Test.YtmkbigaofhionaaAbsG
namespace Go.Proofs.Ytmkbigaofhionaa
open Go.RowKit
set_option linter.unusedVariables false
set_option linter.unusedSimpArgs false

/-- What is looked for in an argument: anything; a list; fields. -/
inductive Sh where
  | any
  | ls (t : Ty)
  | ag (l : List Sh)

def flatT : Ty → Bool
  | .slice _ _ => false
  | .pair a b => match flatT a with
    | true => flatT b
    | false => false
  | _ => true
mutual
def flatA : AV → Bool
  | .ro _ _ => false
  | .el _ _ _ => false
  | .clo _ l => flatL l
  | .agg l => flatL l
  | .tup l => flatL l
  | .ifc _ x => flatA x
  | _ => true
def flatL : List AV → Bool
  | [] => true
  | a :: l => match flatA a with
    | true => flatL l
    | false => false
end
def flatOB : OB → Bool
  | .cells _ cs => flatL cs
  | .row _ t _ => flatT t
  | .map _ _ et _ => flatT et
def flatP : Pat → Bool
  | [] => true
  | (_, some ob) :: p => match flatOB ob with
    | true => flatP p
    | false => false
  | (_, none) :: p => flatP p

theorem RepS.flat {S S' : Nat → Prop} {w : World} : ∀ {t : Ty} {x : t.Val} {cs : List Value}, flatT t = true → RepS S w t x cs → RepS S' w t x cs
  | .int _, _, _, _, h => h
  | .bool, _, _, _, h => h
  | .str, _, _, _, h => h
  | .slice _ _, _, _, hf, _ => by simp [flatT] at hf
  | .unit, _, _, _, h => h
  | .pair a b, x, cs, hf, h => by
    obtain ⟨l, r, h1, h2, h3, h4⟩ := h
    unfold flatT at hf
    split at hf
    · rename_i h5
      exact ⟨l, r, h1, h2, RepS.flat h5 h3, RepS.flat hf h4⟩
    · cases hf
theorem RepL.flat {S S' : Nat → Prop} {w : World} {t : Ty} (hf : flatT t = true) : ∀ {xs : List t.Val} {cs : List Value}, RepL S w t xs cs → RepL S' w t xs cs
  | [], _, h => h
  | x :: xs, cs, h => by
    obtain ⟨l, r, h1, h2, h3⟩ := h
    exact ⟨l, r, h1, h2.flat hf, RepL.flat hf h3⟩
theorem RepM.flat {S S' : Nat → Prop} {w : World} {ag : Bool} {kt et : Ty} (hf : flatT et = true) : ∀ {l : List (kt.Val × et.Val)} {es : List MapEntry}, RepM S w ag kt et l es → RepM S' w ag kt et l es
  | [], _, h => h
  | p :: l, es, h => by
    obtain ⟨e, r, h1, h2, h3, h4⟩ := h
    refine ⟨e, r, h1, h2, ?_, RepM.flat hf h4⟩
    cases ag with
    | true => obtain ⟨cs, k1, k2⟩ := h3; exact ⟨cs, k1, k2.flat hf⟩
    | false => exact RepS.flat (x := p.2) hf h3
mutual
theorem VRel.flat {g g' : G} {w : World} (hm : g'.m = g.m) (hβ : g'.β = g.β) : ∀ {a : AV} {c : Value}, flatA a = true → VRel g w a c → VRel g' w a c
  | .v x, c, _, h => by simpa only [VRel] using h
  | .bv i b, c, _, h => by simp only [VRel] at h ⊢; rw [hβ]; exact h
  | .ro t xs, c, hf, h => by simp [flatA] at hf
  | .el t x off, c, hf, h => by simp [flatA] at hf
  | .own k, c, _, h => by simp only [VRel] at h ⊢; rw [hm]; exact h
  | .oel k i sz off, c, _, h => by simp only [VRel] at h ⊢; rw [hm]; exact h
  | .ptr k off, c, _, h => by simp only [VRel] at h ⊢; rw [hm]; exact h
  | .mp k, c, _, h => by simp only [VRel] at h ⊢; rw [hm]; exact h
  | .clo fn cap, c, hf, h => by
    simp only [VRel] at h ⊢
    obtain ⟨cs, h1, h2⟩ := h
    exact ⟨cs, VRels.flat hm hβ (by simpa only [flatA] using hf) h1, h2⟩
  | .agg l, c, hf, h => by
    simp only [VRel] at h ⊢
    obtain ⟨cs, h1, h2⟩ := h
    exact ⟨cs, VRels.flat hm hβ (by simpa only [flatA] using hf) h1, h2⟩
  | .tup l, c, hf, h => by
    simp only [VRel] at h ⊢
    obtain ⟨cs, h1, h2⟩ := h
    exact ⟨cs, VRels.flat hm hβ (by simpa only [flatA] using hf) h1, h2⟩
  | .ifc T x, c, hf, h => by
    simp only [VRel] at h ⊢
    obtain ⟨d, h1, h2⟩ := h
    exact ⟨d, VRel.flat hm hβ (by simpa only [flatA] using hf) h1, h2⟩
theorem VRels.flat {g g' : G} {w : World} (hm : g'.m = g.m) (hβ : g'.β = g.β) : ∀ {l : List AV} {cs : List Value}, flatL l = true → VRels g w l cs → VRels g' w l cs
  | [], cs, _, h => by simpa only [VRels] using h
  | a :: l, cs, hf, h => by
    simp only [VRels] at h ⊢
    obtain ⟨c, r, h1, h2, h3⟩ := h
    unfold flatL at hf
    split at hf
    · rename_i h5
      exact ⟨c, r, h1, VRel.flat hm hβ h5 h2, VRels.flat hm hβ hf h3⟩
    · cases hf
end
theorem OBSat.flat {g g' : G} {w : World} (hm : g'.m = g.m) (hβ : g'.β = g.β) {c : Value} {ob : OB} (hf : flatOB ob = true) (h : OBSat g w c ob) : OBSat g' w c ob := by
  cases ob with
  | cells T cs =>
    obtain ⟨b', cvs, h0, h1, h2⟩ := h
    exact ⟨b', cvs, h0, h1, h2.flat hm hβ hf⟩
  | row E t xs =>
    obtain ⟨cells, ho, hr⟩ := h
    exact ⟨cells, ho, hr.flat hf⟩
  | map ag kt et l =>
    obtain ⟨b', es, clock, h0, h1, h2⟩ := h
    exact ⟨b', es, clock, h0, h1, h2.flat hf⟩
theorem flatP_look : ∀ {p : Pat} {k : Nat} {ob : OB}, flatP p = true → look k p = some (some ob) → flatOB ob = true
  | [], k, ob, _, h => by simp [look] at h
  | (i, x) :: p, k, ob, hf, h => by
    simp only [look] at h
    split at h
    · injection h with h; subst h
      simp only [flatP] at hf
      split at hf
      · assumption
      · cases hf
    · refine flatP_look (p := p) ?_ h
      cases x with
      | none => simpa only [flatP] using hf
      | some o =>
        simp only [flatP] at hf
        split at hf
        · exact hf
        · cases hf

/-- A row, as data that stays. -/
theorem row_ro {g : G} {w : World} {E : TypeId} {t : Ty} {xs : List t.Val} {A : Option Addr} {n cap : Nat} (hs : OBSat g w (.slice A n cap) (.row E t xs)) {S : Nat → Prop} (hS : ∀ b, g.S b → S b) (hb : ∀ b, blkOf (.slice A n cap) = some b → S b) :
    RepS S w (.slice 0 t) xs [.slice A n cap] := by
  obtain ⟨cells, ho, hr⟩ := hs
  rcases ho.2 with ⟨g3, g4⟩ | ⟨b, cap', cur, fz, g3, _, g4, g5, _, g6, g7⟩
  · injection g3 with e1 e2 e3
    subst e1 e2 e3
    have hx : xs = [] := List.eq_nil_of_length_eq_zero g4
    subst hx
    exact ⟨none, 0, rfl, by simp, fun i hi => by simp at hi⟩
  · injection g3 with e1 e2 e3
    subst e1 e2 e3
    refine ⟨some ⟨b, 0, none⟩, cap, rfl, g5, fun i hi => ⟨b, 0, rfl, hb b rfl, (cells.drop (i * t.cells)).take t.cells, ?_, ?_, ?_⟩⟩
    · exact (hr.get i hi).len
    · have hat : CellsAt w b 0 cells := fun j v hj => by
        rw [cell_of_row w b _ _ _ _ g4]
        rw [← g7, List.getElem?_take] at hj
        split at hj
        · simpa using hj
        · cases hj
      exact cellsAt_sub hat (i * t.cells) t.cells
    · exact (hr.get i hi).stay hS (Stay.refl _ _)
theorem nil_ro {S : Nat → Prop} {w : World} {t : Ty} : RepS S w (.slice 0 t) [] [.slice none 0 0] := ⟨none, 0, rfl, by simp, fun i hi => by simp at hi⟩

mutual
/-- An argument as it is lent; the rows that are lent. -/
def viewA (hp : Heap) : Sh → AV → Option (AV × List Nat)
  | .any, a => some (a, [])
  | .ls t, .v x => match isNil x with
    | true => some (.ro t [], [])
    | false => none
  | .ls t, .own k => match hp k with
    | some (.row _ u xs) => match decEq u t with
      | .isTrue _ => some (.ro u xs, [k])
      | .isFalse _ => none
    | _ => none
  | .ls t, .ro u xs => match decEq u t with
    | .isTrue _ => some (.ro u xs, [])
    | .isFalse _ => none
  | .ag s, .agg l => match viewL hp s l with
    | some (l, ks) => some (.agg l, ks)
    | none => none
  | _, _ => none
def viewL (hp : Heap) : List Sh → List AV → Option (List AV × List Nat)
  | [], [] => some ([], [])
  | s :: ss, a :: l => match viewA hp s a, viewL hp ss l with
    | some (a, ks), some (l, kl) => some (a :: l, ks ++ kl)
    | _, _ => none
  | _, _ => none
end

mutual
theorem viewA_ok {O : Nat → Prop} {w0 w : World} {g : G} {hp : Heap} (hI : Inv O w0 g hp w) {S : Nat → Prop} (hS : ∀ b, g.S b → S b) : ∀ {s : Sh} {a a' : AV} {ks : List Nat} {c : Value}, viewA hp s a = some (a', ks) → VRel g w a c → (∀ k c b, k ∈ ks → g.m k = some c → blkOf c = some b → S b) →
    VRel { g with S := S } w a' c ∧ ∀ k ∈ ks, hp k ≠ none
  | .any, a, a', ks, c, h, hv, hk => by
    simp only [viewA, Option.some.injEq, Prod.mk.injEq] at h
    obtain ⟨rfl, rfl⟩ := h
    exact ⟨VRel.stay (g := g) (g' := { g with S := S }) ⟨fun _ _ h => h, hS, fun _ _ h => h⟩ (Stay.refl _ _) hv, fun k hk => by simp at hk⟩
  | .ls t, .v x, a', ks, c, h, hv, hk => by
    simp only [viewA] at h
    split at h
    · rename_i hn
      simp only [Option.some.injEq, Prod.mk.injEq] at h
      obtain ⟨rfl, rfl⟩ := h
      rw [VRel.v_iff, isNil_eq hn] at hv
      subst hv
      exact ⟨by simp only [VRel]; exact nil_ro, fun k hk => by simp at hk⟩
    · cases h
  | .ls t, .own k, a', ks, c, h, hv, hk => by
    simp only [viewA] at h
    split at h
    · rename_i E u xs hrow
      split at h
      · simp only [Option.some.injEq, Prod.mk.injEq] at h
        obtain ⟨rfl, rfl⟩ := h
        simp only [VRel] at hv
        obtain ⟨hm, A, n, cap, rfl⟩ := hv
        obtain ⟨c1, hc1, hs⟩ := hI.sat k _ hrow
        rw [hm] at hc1; injection hc1 with hc1; subst hc1
        exact ⟨by simp only [VRel]; exact row_ro hs hS (fun b hb => hk k _ b (by simp) hm hb), fun i hi => by simp at hi; subst hi; rw [hrow]; simp⟩
      · cases h
    · cases h
  | .ls t, .ro u xs, a', ks, c, h, hv, hk => by
    simp only [viewA] at h
    split at h
    · simp only [Option.some.injEq, Prod.mk.injEq] at h
      obtain ⟨rfl, rfl⟩ := h
      simp only [VRel] at hv
      exact ⟨by simp only [VRel]; exact hv.stay hS (Stay.refl _ _), fun k hk => by simp at hk⟩
    · cases h
  | .ag s, .agg l, a', ks, c, h, hv, hk => by
    simp only [viewA] at h
    split at h
    · rename_i l' ks' hl
      simp only [Option.some.injEq, Prod.mk.injEq] at h
      obtain ⟨rfl, rfl⟩ := h
      simp only [VRel] at hv
      obtain ⟨cs, h1, h2⟩ := hv
      obtain ⟨h3, h4⟩ := viewL_ok hI hS hl h1 hk
      exact ⟨by simp only [VRel]; exact ⟨cs, h3, h2⟩, h4⟩
    · cases h
  | .ls t, .bv _ _, a', ks, c, h, hv, hk => by simp [viewA] at h
  | .ls t, .el _ _ _, a', ks, c, h, hv, hk => by simp [viewA] at h
  | .ls t, .oel _ _ _ _, a', ks, c, h, hv, hk => by simp [viewA] at h
  | .ls t, .ptr _ _, a', ks, c, h, hv, hk => by simp [viewA] at h
  | .ls t, .mp _, a', ks, c, h, hv, hk => by simp [viewA] at h
  | .ls t, .clo _ _, a', ks, c, h, hv, hk => by simp [viewA] at h
  | .ls t, .agg _, a', ks, c, h, hv, hk => by simp [viewA] at h
  | .ls t, .tup _, a', ks, c, h, hv, hk => by simp [viewA] at h
  | .ls t, .ifc _ _, a', ks, c, h, hv, hk => by simp [viewA] at h
  | .ag s, .v _, a', ks, c, h, hv, hk => by simp [viewA] at h
  | .ag s, .bv _ _, a', ks, c, h, hv, hk => by simp [viewA] at h
  | .ag s, .ro _ _, a', ks, c, h, hv, hk => by simp [viewA] at h
  | .ag s, .el _ _ _, a', ks, c, h, hv, hk => by simp [viewA] at h
  | .ag s, .own _, a', ks, c, h, hv, hk => by simp [viewA] at h
  | .ag s, .oel _ _ _ _, a', ks, c, h, hv, hk => by simp [viewA] at h
  | .ag s, .ptr _ _, a', ks, c, h, hv, hk => by simp [viewA] at h
  | .ag s, .mp _, a', ks, c, h, hv, hk => by simp [viewA] at h
  | .ag s, .clo _ _, a', ks, c, h, hv, hk => by simp [viewA] at h
  | .ag s, .tup _, a', ks, c, h, hv, hk => by simp [viewA] at h
  | .ag s, .ifc _ _, a', ks, c, h, hv, hk => by simp [viewA] at h
theorem viewL_ok {O : Nat → Prop} {w0 w : World} {g : G} {hp : Heap} (hI : Inv O w0 g hp w) {S : Nat → Prop} (hS : ∀ b, g.S b → S b) : ∀ {s : List Sh} {l l' : List AV} {ks : List Nat} {cs : List Value}, viewL hp s l = some (l', ks) → VRels g w l cs → (∀ k c b, k ∈ ks → g.m k = some c → blkOf c = some b → S b) →
    VRels { g with S := S } w l' cs ∧ ∀ k ∈ ks, hp k ≠ none
  | [], [], l', ks, cs, h, hv, hk => by
    simp only [viewL, Option.some.injEq, Prod.mk.injEq] at h
    obtain ⟨rfl, rfl⟩ := h
    exact ⟨VRels.nil.2 (VRels.nil.1 hv), fun k hk => by simp at hk⟩
  | s :: ss, a :: l, l', ks, cs, h, hv, hk => by
    simp only [viewL] at h
    split at h
    · rename_i a' k1 l1 k2 ha hl
      simp only [Option.some.injEq, Prod.mk.injEq] at h
      obtain ⟨rfl, rfl⟩ := h
      obtain ⟨c, r, rfl, h2, h3⟩ := VRels.cons.1 hv
      obtain ⟨h4, h5⟩ := viewA_ok hI hS ha h2 (fun k c b hi => hk k c b (by simp [hi]))
      obtain ⟨h6, h7⟩ := viewL_ok hI hS hl h3 (fun k c b hi => hk k c b (by simp [hi]))
      exact ⟨VRels.cons.2 ⟨c, r, rfl, h4, h6⟩, fun k hi => by
        rcases List.mem_append.1 hi with hi | hi
        · exact h5 k hi
        · exact h7 k hi⟩
    · cases h
  | [], _ :: _, l', ks, cs, h, hv, hk => by simp [viewL] at h
  | _ :: _, [], l', ks, cs, h, hv, hk => by simp [viewL] at h
end

def disjN : List Nat → List Nat → Bool
  | [], _ => true
  | k :: l, L => match memN k L with
    | true => false
    | false => disjN l L
def allIn (p : Pat) : List Nat → Bool
  | [] => true
  | k :: l => match look k p with
    | some _ => allIn p l
    | none => false
theorem disjN_ok : ∀ {l L : List Nat} {k : Nat}, disjN l L = true → k ∈ l → k ∈ L → False
  | i :: l, L, k, h, hk, hL => by
    simp only [disjN] at h
    split at h
    · cases h
    · rename_i hb
      rcases List.mem_cons.1 hk with rfl | hk
      · rw [memN_iff.2 hL] at hb; cases hb
      · exact disjN_ok h hk hL
theorem allIn_ok {p : Pat} : ∀ {l : List Nat} {k : Nat}, allIn p l = true → k ∈ l → look k p ≠ none
  | i :: l, k, h, hk => by
    simp only [allIn] at h
    split at h
    · rename_i x hx
      rcases List.mem_cons.1 hk with rfl | hk
      · rw [hx]; simp
      · exact allIn_ok h hk
    · cases h

def emptyN : List Nat → Bool
  | [] => true
  | _ :: _ => false
/-- A callee that only reads the lists among its arguments: they are lent. -/
noncomputable def lend (sh : List Sh) (s : Spec) : Spec := fun args hp nx =>
  opt (viewL hp sh args) fun q => match q with
    | (args', ks) => opt (force (dedup (reach hp 4 (idsL args')) [])) fun idl => match disjN ks idl with
      | true => (s args' (only idl hp) nx).bind fun r => match r with
        | (a, p) => match emptyN ks with
          | true => .ok (a, p)
          | false => match flatA a, flatP p, allIn p idl with
            | true, true, true => .ok (a, p)
            | _, _, _ => .bad
      | false => .bad

theorem lend_ok {P : Program} {f : FuncId} {sh : List Sh} {s : Spec} (hs : SpecOK P f s) : SpecOK P f (lend sh s) := by
  intro O w0 w g hp nx args cargs K Z hI hf hv h
  unfold lend at h
  obtain ⟨⟨args', ks⟩, hview, h⟩ := opt_wp h
  obtain ⟨idl, hidl, h⟩ := opt_wp h
  rw [force_eq] at hidl; injection hidl with hidl
  simp only at h
  split at h
  rotate_left
  · exact h.elim
  rename_i hdis
  have h := R.wp_bind h
  -- the rows that are lent stay for now
  let Bk : Nat → Prop := fun b => ∃ k c, k ∈ ks ∧ g.m k = some c ∧ blkOf c = some b
  let g1 : G := { g with S := fun b => g.S b ∨ Bk b }
  obtain ⟨hv1, hks⟩ := viewL_ok hI (S := g1.S) (fun b h => .inl h) hview hv (fun k c b h1 h2 h3 => .inr ⟨k, c, h1, h2, h3⟩)
  obtain ⟨f1, f2, f3⟩ := frame_sub (nx := nx) hI (only_sub idl hp)
  have hin : ∀ k, only idl hp k ≠ none → k ∈ idl := fun k hk => by
    unfold only at hk
    split at hk
    · rename_i hm; exact memN_iff.1 hm
    · exact absurd rfl hk
  have hI1 : Inv (ownBy g (only idl hp)) w g1 (only idl hp) w := by
    refine ⟨f1.toFrW, fun k ob hk => ?_, f1.inj, fun b hb => ?_, fun k c b hk hc hb hS => ?_, f1.mine⟩
    · obtain ⟨c, h1, h2⟩ := f1.sat k ob hk
      exact ⟨c, h1, h2.stay (g' := g1) ⟨fun _ _ h => h, fun _ h => .inl h, fun _ _ h => h⟩ (Stay.refl _ _) (fun _ _ => rfl)⟩
    · rcases hb with hb | ⟨k, c, h1, h2, h3⟩
      · exact hI.stab b hb
      · cases e : hp k with
        | none => exact absurd e (hks k h1)
        | some ob =>
          obtain ⟨c', h4, h5⟩ := hI.sat k ob e
          rw [h2] at h4; injection h4 with h4; subst h4
          exact h5.lt h3
    · rcases hS with hS | ⟨k', c', h1, h2, h3⟩
      · exact f1.apart k c b hk hc hb hS
      · have hkk := hI.inj k k' c c' b (by rw [← only_sub idl hp k hk]; exact hk) (hks k' h1) hc h2 hb h3
        subst hkk
        exact disjN_ok hdis h1 (hin k hk)
  refine (hs (ownBy g (only idl hp)) w w g1 (only idl hp) nx args' cargs _ Z hI1 hf hv1 h).mono fun e w' he => ?_
  cases e with
  | panicked ch =>
    obtain ⟨T, x, v, g', h1, h2, h3, h4⟩ := he
    exact ⟨T, x, v, g', h1, h2, h3, f2 w' h4⟩
  | outgrown => exact he
  | returned c =>
    obtain ⟨a, p, g', hK, h1, h2, h3, h4, h5, h6⟩ := he
    simp only at hK
    split at hK
    · rename_i hemp
      have hkn : ks = [] := by cases ks with
        | nil => rfl
        | cons _ _ => simp [emptyN] at hemp
      have hbk : ∀ b, g1.S b ↔ g.S b := fun b => ⟨fun hb => by
        rcases hb with hb | ⟨k, c, k1, _⟩
        · exact hb
        · rw [hkn] at k1; simp at k1, fun hb => .inl hb⟩
      obtain ⟨i1, i2⟩ := f3 p g' w' ⟨h1.m, fun b hb => h1.S b (.inl hb), h1.β⟩ ⟨h2.m, h2.β, fun b hb => by
        rcases h2.S b hb with k1 | k1
        · exact .inl ((hbk b).1 k1)
        · exact .inr k1⟩ h4 (fun b hb => h5 b (.inl hb))
      exact ⟨a, p, g', hK, ⟨h1.m, fun b hb => h1.S b (.inl hb), h1.β⟩, i2, h3, i1, fun b hb => h5 b (.inl hb), h6⟩
    · split at hK
      · rename_i hfa hfp hall
        let g2 : G := { g' with S := g.S }
        have hI2 : Inv (ownBy g (only idl hp)) w g2 (patch p (only idl hp)) w' := by
          refine ⟨h4.toFrW, fun k ob hk => ?_, h4.inj, fun b hb => Nat.lt_of_lt_of_le (hI.stab b hb) h4.size, fun k c b hk hc hb hS => h4.apart k c b hk hc hb (h1.S b (.inl hS)), h4.mine⟩
          obtain ⟨c, k1, k2⟩ := h4.sat k ob hk
          refine ⟨c, k1, k2.flat (g := g') (g' := g2) rfl rfl ?_⟩
          unfold patch at hk
          split at hk
          · rename_i x hx
            subst hk
            exact flatP_look hfp hx
          · rename_i hx
            exact absurd hx (allIn_ok hall (hin k (by rw [hk]; simp)))
        obtain ⟨i1, i2⟩ := f3 p g2 w' ⟨h1.m, fun b hb => hb, h1.β⟩ ⟨h2.m, h2.β, fun b hb => .inl hb⟩ hI2 (fun b hb => h5 b (.inl hb))
        exact ⟨a, p, g2, hK, ⟨h1.m, fun b hb => hb, h1.β⟩, i2, h3, i1, fun b hb => h5 b (.inl hb), h6.flat (g := g') (g' := g2) rfl rfl hfa⟩
      · exact hK.elim

noncomputable def Ent.lend {P : Program} (sh : List Sh) (e : Ent P) : Ent P := ⟨e.f, Go.Proofs.Ytmkbigaofhionaa.lend sh e.s, lend_ok e.ok.1, e.ok.2⟩
end Go.Proofs.Ytmkbigaofhionaa
