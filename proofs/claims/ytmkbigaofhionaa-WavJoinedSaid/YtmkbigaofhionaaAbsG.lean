/- Tables of what is said of functions; contracts as such; from such to a law's contract; no program. -/
import Derived.Test.YtmkbigaofhionaaAbsF
namespace Go.Proofs.Ytmkbigaofhionaa
open Go.RowKit
set_option linter.unusedVariables false
set_option linter.unusedSimpArgs false

/-- A function and what it does. -/
structure Ent (P : Program) where
  f : FuncId
  s : Spec
  ok : SpecOK P f s ∧ Enters P f

noncomputable def gaOf {P : Program} : List (Ent P) → FuncId → Option Spec
  | [], _ => none
  | e :: l, f => match Nat.beq e.f f with
    | true => some e.s
    | false => gaOf l f

theorem gaOf_ok {P : Program} : ∀ {l : List (Ent P)} {f : FuncId} {s : Spec}, gaOf l f = some s → SpecOK P f s ∧ Enters P f
  | e :: l, f, s, h => by
    simp only [gaOf] at h
    split at h
    · rename_i hb
      injection h with h; subst h
      have := Nat.eq_of_beq_eq_true hb
      subst this
      exact e.ok
    · exact gaOf_ok h

noncomputable def mkC {P : Program} (tt : TypeId → Option TInf) (l : List (Ent P)) (n : Nat) : Cx := ⟨tt, gaOf l, n, none⟩
noncomputable def mkCR {P : Program} (tt : TypeId → Option TInf) (l : List (Ent P)) (rf : Code × (Fra → Pat → Nat → R AS)) (n : Nat) : Cx := ⟨tt, gaOf l, n, some rf⟩
theorem mkCR_ok {P : Program} {tt : TypeId → Option TInf} (htt : TTok P tt) (l : List (Ent P)) (rf : Code × (Fra → Pat → Nat → R AS)) (n : Nat) : CxOK P (mkCR tt l rf n) := ⟨htt, fun _ _ h => gaOf_ok h⟩

theorem mkC_ok {P : Program} {tt : TypeId → Option TInf} (htt : TTok P tt) (l : List (Ent P)) (n : Nat) : CxOK P (mkC tt l n) := ⟨htt, fun _ _ h => gaOf_ok h⟩

/-- A function by its body. -/
noncomputable def Ent.of {P : Program} {tt : TypeId → Option TInf} (htt : TTok P tt) (hmix : P.follows .mixedOrders = true) {l : List (Ent P)} {f : FuncId} {S : LSpec} (h : LocalOK P (mkC tt l) f S) (hn : (P.funcs[f]?.map fun fn => fn.name == "runtime.NumGoroutine") = some false) : Ent P :=
  ⟨f, specOf S, specOf_ok h.z (fun n => mkC_ok htt l n) (fun _ _ _ _ _ h => by cases h) (fun _ => rfl) hmix, by
    obtain ⟨fn, c, hf, hb, _⟩ := h
    refine ⟨fn, hf, by rw [hb]; rfl, ?_⟩
    rw [hf] at hn
    simpa using hn⟩

noncomputable def Ent.ofN {P : Program} {tt : TypeId → Option TInf} (htt : TTok P tt) (hmix : P.follows .mixedOrders = true) {l : List (Ent P)} {rf : Code × (Fra → Pat → Nat → R AS)} {nt : Nat} (hrf : RfOK P nt rf.1 rf.2) {f : FuncId} (hnt : (P.funcs[f]?.map fun fn => fn.ntmps) = some nt) {S : LSpec} (h : LocalOKN P (mkCR tt l rf) f S) (hn : (P.funcs[f]?.map fun fn => fn.name == "runtime.NumGoroutine") = some false) : Ent P :=
  ⟨f, specOf S, specOf_ok h.z (fun n => mkCR_ok htt l rf n) (fun fn hf _ c S h => by
    rw [hf] at hnt
    simp only [Option.map_some, Option.some.injEq] at hnt
    rw [hnt]
    injection h with h; subst h; exact hrf) (fun _ => rfl) hmix, by
    obtain ⟨fn, c, hf, hb, _⟩ := h
    refine ⟨fn, hf, by rw [hb]; rfl, ?_⟩
    rw [hf] at hn
    simpa using hn⟩

/-- What has no part in the things owned. -/
noncomputable def pureSpec (S : List AV → R AV) : Spec := fun args _ _ => (S args).bind fun a => .ok (a, [])

/-- A contract: such an answer, and nothing that was there is turned. -/
def PureOK (P : Program) (f : FuncId) (S : List AV → R AV) : Prop :=
  ∀ (g : G) (w : World) (args : List AV) (cargs : List Value) (K : AV → Prop) (Z : TypeId → AV → Prop), VRels g w args cargs → (S args).wp K Z →
    Calls P f cargs.toArray w fun e w' => ∃ d a, e = .returned d ∧ Below w.heap.size w w' ∧ K a ∧ VRel g w a d

theorem PureOK.spec {P : Program} {f : FuncId} {S : List AV → R AV} (h : PureOK P f S) : SpecOK P f (pureSpec S) := by
  intro O w0 w g hp nx args cargs K Z hI hf hv hs
  have hs := R.wp_bind hs
  refine (h g w args cargs _ Z hv hs).mono fun e w' he => ?_
  obtain ⟨d, a, rfl, hb, hK, hd⟩ := he
  obtain ⟨h1, h2⟩ := hI.step (w' := w') (hp' := hp) (fun _ => False) (G.le.refl g) (fun _ h => h) hb.os hb.tape hb.output hb.size (fun b hlt _ => hb.block b hlt) (fun _ _ => rfl) (fun _ _ h => h.elim) (fun _ _ _ _ _ h => h.elim)
  exact ⟨a, [], g, hK, G.le.refl g, NewIn.refl O w0 g nx, rfl, h1, h2, VRel.stay (G.le.refl g) h2 hd⟩

noncomputable def Ent.pure {P : Program} {f : FuncId} {S : List AV → R AV} (h : PureOK P f S) (hb : (P.funcs[f]?.map fun fn => (fn.body.isNone, fn.name == "runtime.NumGoroutine")) = some (false, false)) : Ent P :=
  ⟨f, pureSpec S, h.spec, by
    cases e : P.funcs[f]? with
    | none => rw [e] at hb; cases hb
    | some fn =>
      rw [e] at hb
      simp only [Option.map_some, Option.some.injEq, Prod.mk.injEq] at hb
      exact ⟨fn, e, hb.1, hb.2⟩⟩

/-- What is said of flat values. -/
theorem VRels.v1 {g : G} {w : World} {x : Value} {l : List AV} {cs : List Value} (h : VRels g w (.v x :: l) cs) : ∃ r, cs = x :: r ∧ VRels g w l r := by
  obtain ⟨c, r, h1, h2, h3⟩ := VRels.cons.1 h
  rw [VRel.v_iff.1 h2] at h1
  exact ⟨r, h1, h3⟩

/-- The stable things where a law begins. -/
def gS (w : World) : G := { m := fun _ => none, S := fun b => b < w.heap.size, β := fun _ => none }
def noHp : Heap := fun _ => none
theorem inv0 (w : World) : Inv (fun _ => False) w (gS w) noHp w :=
  ⟨⟨fun _ _ _ => rfl, rfl, rfl, rfl, Nat.le_refl _⟩, fun _ _ h => by simp [noHp] at h, fun _ _ _ _ _ h => by simp [noHp] at h, fun _ h => h, fun _ _ _ h => by simp [noHp] at h, fun _ _ _ h => by simp [noHp] at h⟩

theorem law_by {P : Program} {f : FuncId} {s : Spec} (hs : SpecOK P f s) {w : World} {args : List AV} {cargs : List Value} (hv : VRels (gS w) w args cargs) (h : (s args noHp 0).wp (fun r => r.1 = .v (.bool true)) (fun _ _ => False)) :
    Calls P f cargs.toArray w fun e w' => e = .returned (.bool true) ∧ Below w.heap.size w w' := by
  refine (hs (fun _ => False) w w (gS w) noHp 0 args cargs _ _ (inv0 w) (fun _ _ _ => ⟨rfl, rfl⟩) hv h).mono fun e w' he => ?_
  cases e with
  | returned c =>
    obtain ⟨a, p, g', h1, _, _, _, h5, _, h7⟩ := he
    simp only at h1
    subst h1
    rw [VRel.v_iff.1 h7]
    exact ⟨rfl, h5.os, h5.tape, h5.output, h5.size, fun b hb => h5.frame b hb (fun h => h)⟩
  | panicked ch =>
    obtain ⟨T, x, v, g', h1, _⟩ := he
    exact h1.elim
  | outgrown => exact he.elim

/-- Arguments, opened. -/
theorem av_int {w : World} {k : IntKind} {n : Int} : VRel (gS w) w (.v (.int k n)) (.int k n) := VRel.v_iff.2 rfl
theorem av_bool {w : World} {b : Bool} : VRel (gS w) w (.v (.bool b)) (.bool b) := VRel.v_iff.2 rfl
theorem av_str {w : World} {s : ByteArray} : VRel (gS w) w (.v (.string s)) (.string s) := VRel.v_iff.2 rfl
theorem av_cells {w : World} {t : Ty} {x : t.Val} {cs : List Value} (h : Rep w t x cs) : VRels (gS w) w (cellsAV t x) cs := RepS.cells (g := gS w) (RepS.of_rep h)
theorem av_slice {w : World} {n : Nat} {t : Ty} {xs : List t.Val} {c : Value} (h : Rep w (.slice n t) xs [c]) : VRel (gS w) w (.ro t xs) c := by
  have := av_cells h
  simp only [cellsAV] at this
  obtain ⟨c', r, h1, h2, _⟩ := VRels.cons.1 this
  injection h1 with h1
  rw [h1]; exact h2
theorem av_agg {w : World} {t : Ty} {x : t.Val} {cs : List Value} (h : Rep w t x cs) : VRel (gS w) w (.agg (cellsAV t x)) (.agg cs.toArray) := by
  simp only [VRel]
  exact ⟨cs, av_cells h, rfl⟩
theorem avs_nil {w : World} : VRels (gS w) w [] [] := VRels.nil.2 rfl
theorem avs_cons {w : World} {a : AV} {c : Value} {l : List AV} {cs : List Value} (h : VRel (gS w) w a c) (h' : VRels (gS w) w l cs) : VRels (gS w) w (a :: l) (c :: cs) := VRels.cons.2 ⟨c, cs, rfl, h, h'⟩

theorem K_of {α : Type} {K : α → Prop} {a b : α} (h : K a) (e : a = b) : K b := e ▸ h

theorem bList_append (s t : ByteArray) : bList (s ++ t) = bList s ++ bList t := by
  unfold bList
  rw [ByteArray.data_append, Array.toList_append, List.map_append]
theorem bList_length (s : ByteArray) : (bList s).length = s.size := by unfold bList; simp
theorem bytesIn_bList (s : ByteArray) : bytesIn (bList s) := by
  intro x hx
  unfold bList at hx
  obtain ⟨b, _, rfl⟩ := List.mem_map.1 hx
  have := b.toNat_lt
  omega
theorem sOf_bList (s : ByteArray) : sOf (bList s) = s := by
  apply ByteArray.ext
  apply Array.ext'
  unfold sOf bList
  simp only [List.map_map]
  have : ((fun n : Int => UInt8.ofNat n.toNat) ∘ fun b : UInt8 => ((b.toNat : Nat) : Int)) = id := by
    funext b
    simp
  rw [this, List.map_id]
theorem bList_zero : bList ⟨#[0]⟩ = [0] := rfl
end Go.Proofs.Ytmkbigaofhionaa
