/- The abstract machine's operations are what the model does (without calls of functions); no program. -/
import Derived.Test.YtmkbigaofhionaaAbsD
import Derived.Laws.CopyRow
import Derived.Laws.Rows
import Derived.Laws.MakeOwn
import Derived.Great.BuildSlice
import Derived.Laws.StructEq
import Derived.WideShapes
import Derived.Lib.AppendStr
import Derived.Lib.ConvBytes
namespace Go.Proofs.Ytmkbigaofhionaa
open Go.RowKit
set_option linter.unusedVariables false
set_option linter.unusedSimpArgs false

def patch (p : Pat) (hp : Heap) : Heap := fun k => match look k p with
  | some x => x
  | none => hp k

theorem patch_nil (hp : Heap) : patch [] hp = hp := rfl

theorem beq_ne {a b : Nat} (h : a ≠ b) : Nat.beq a b = false := by
  cases e : Nat.beq a b
  · rfl
  · exact absurd (Nat.eq_of_beq_eq_true e) h
theorem beq_eq {a b : Nat} (h : Nat.beq a b = true) : a = b := Nat.eq_of_beq_eq_true h

structure NewIn (O : Nat → Prop) (w0 : World) (g g' : G) (nx : Nat) : Prop where
  m : ∀ k, g'.m k ≠ none → g.m k ≠ none ∨ (nx ≤ k ∧ k < nx + 64)
  β : ∀ k, g'.β k ≠ none → g.β k ≠ none ∨ (nx ≤ k ∧ k < nx + 64)
  S : ∀ b, g'.S b → g.S b ∨ O b ∨ w0.heap.size ≤ b

theorem NewIn.refl (O : Nat → Prop) (w0 : World) (g : G) (nx : Nat) : NewIn O w0 g g nx := ⟨fun _ h => .inl h, fun _ h => .inl h, fun _ h => .inl h⟩

/-- A step that gives c and goes to w' is told by an answer in K. -/
def Good (O : Nat → Prop) (w0 : World) (g : G) (hp : Heap) (nx : Nat) (w : World) (K : Out → Prop) (c : Value) (w' : World) : Prop :=
  ∃ a p g', K (a, p) ∧ g.le g' ∧ NewIn O w0 g g' nx ∧ Inv O w0 g' (patch p hp) w' ∧ Stay g.S w w' ∧ VRel g' w' a c

def Bad (O : Nat → Prop) (w0 : World) (Z : TypeId → AV → Prop) (ch : List PanicEntry) (w' : World) : Prop :=
  ∃ T x v g', Z T x ∧ ch = [{ v := .iface T v, recovered := false }] ∧ VRel g' w' x v ∧ FrW O w0 w'

def Did (P : Program) (r : Result Next) (good : Value → World → Prop) (bad : List PanicEntry → World → Prop) : Prop :=
  match r with
  | .ok (.value c) w' => good c w'
  | .ok .skip w' => good undef w'
  | .ok (.enter f args) w' => Calls P f args w' fun
      | .returned c, w'' => good c w''
      | .panicked ch, w'' => bad ch w''
      | .outgrown, _ => False
  | .halt (.panic v) w' => bad [{ v, recovered := false }] w'
  | _ => False

/-- What no memory is turned by: a run that gives its answer in the same world. -/
def Same (P : Program) (g : G) (w : World) (s : Sem Value) (K : AV → Prop) : Prop :=
  ∃ c a, s.run P w = .ok c w ∧ VRel g w a c ∧ K a

theorem Stay.refl (S : Nat → Prop) (w : World) : Stay S w w := fun _ _ => rfl

theorem VRel.v_iff {g : G} {w : World} {x c : Value} : VRel g w (.v x) c ↔ c = x := by simp only [VRel]
theorem VRel.nb {g : G} {w : World} : ∀ {a : AV} {c : Value}, VRel g w a c → VRel g w (nb a) c
  | .v _, _, h => h
  | .bv i b, c, h => by simp only [VRel] at h; simp only [Go.Proofs.Ytmkbigaofhionaa.nb, VRel]; exact h.1
  | .ro _ _, _, h => h
  | .el _ _ _, _, h => h
  | .own _, _, h => h
  | .oel _ _ _ _, _, h => h
  | .ptr _ _, _, h => h
  | .mp _, _, h => h
  | .clo _ _, _, h => h
  | .agg _, _, h => h
  | .tup _, _, h => h
  | .ifc _ _, _, h => h

section
variable {O : Nat → Prop} {w0 w : World} {g : G} {hp : Heap} {nx : Nat} {K : Out → Prop} {P : Program}

theorem good_same (hI : Inv O w0 g hp w) {a : AV} {c : Value} (hK : K (a, [])) (hc : VRel g w a c) : Good O w0 g hp nx w K c w :=
  ⟨a, [], g, hK, G.le.refl g, NewIn.refl O w0 g nx, hI, Stay.refl _ _, hc⟩

/-- A truth gets a number. -/
theorem good_tag (hI : Inv O w0 g hp w) (hf : ∀ k, nx ≤ k → k < nx + 64 → g.m k = none ∧ g.β k = none) {a : AV} {c : Value} (hK : K (tag nx a, [])) (hc : VRel g w a c) : Good O w0 g hp nx w K c w := by
  by_cases hb : ∃ b, a = .v (.bool b)
  · obtain ⟨b, rfl⟩ := hb
    let g' : G := { g with β := fun k => if k = nx then some b else g.β k }
    have hle : g.le g' := ⟨fun _ _ h => h, fun _ h => h, fun k v h => by
      have : k ≠ nx := fun e => by subst e; rw [(hf k (Nat.le_refl _) (by omega)).2] at h; cases h
      simp only [g', if_neg this]; exact h⟩
    refine ⟨.bv nx b, [], g', hK, hle, ⟨fun k h => .inl h, fun k h => ?_, fun _ h => .inl h⟩, ?_, Stay.refl _ _, ?_⟩
    · by_cases e : k = nx
      · exact .inr (by omega)
      · simp only [g', if_neg e] at h; exact .inl h
    · exact (hI.step (w' := w) (hp' := hp) (fun _ => False) hle (fun _ h => h) rfl rfl rfl (Nat.le_refl _) (fun _ _ _ => rfl) (fun _ _ => rfl) (fun _ _ h => h.elim) (fun _ _ _ _ _ h => h.elim)).1
    · simp only [VRel] at hc ⊢
      exact ⟨hc, by simp only [g', if_true]⟩
  · have : tag nx a = a := by
      cases a with
      | v x => cases x with
        | bool b => exact absurd ⟨b, rfl⟩ hb
        | _ => rfl
      | _ => rfl
    rw [this] at hK
    exact good_same hI hK hc

/-- A new block. -/
theorem good_new (hI : Inv O w0 g hp w) (hf : ∀ k, nx ≤ k → k < nx + 64 → g.m k = none ∧ g.β k = none) (o : Obj) (c : Value) (hc : blkOf c = some w.heap.size) (w1 : World) (hw1 : w1.heap = w.heap) (hos : w1.os = w.os) (htape : w1.tape = w.tape) (hout : w1.output = w.output)
    {a : AV} {ob : OB} (hK : K (a, [(nx, some ob)])) (ha : ∀ g' : G, g'.m nx = some c → VRel g' (w1.alloc o) a c)
    (hob : ∀ g' : G, g.le g' → g'.m nx = some c → Stay g.S w (w1.alloc o) → OBSat g' (w1.alloc o) c ob) : Good O w0 g hp nx w K c (w1.alloc o) := by
  let g' : G := { g with m := fun k => if k = nx then some c else g.m k }
  have hle : g.le g' := ⟨fun k v h => by
      have : k ≠ nx := fun e => by subst e; rw [(hf k (Nat.le_refl _) (by omega)).1] at h; cases h
      simp only [g', if_neg this]; exact h, fun _ h => h, fun _ _ h => h⟩
  have hgn : g'.m nx = some c := by simp only [g', if_true]
  have hheap : ∀ b, b < w.heap.size → (w1.alloc o).heap[b]? = w.heap[b]? := fun b hb => by
    rw [← hw1] at hb ⊢
    exact Below.heap_alloc w1 o b hb
  have hst : Stay g.S w (w1.alloc o) := fun b hb => hheap b (hI.stab b hb)
  refine ⟨a, [(nx, some ob)], g', hK, hle, ⟨fun k h => ?_, fun k h => .inl h, fun _ h => .inl h⟩, ?_, hst, ha g' hgn⟩
  · by_cases e : k = nx
    · exact .inr (by omega)
    · simp only [g', if_neg e] at h; exact .inl h
  · refine (hI.step (w' := w1.alloc o) (hp' := patch [(nx, some ob)] hp) (fun k => k = nx) hle (fun _ h => h) hos htape hout (by
      show w.heap.size ≤ (w1.heap.push o).size
      rw [hw1]; simp) (fun b hb _ => hheap b hb) ?_ ?_ ?_).1
    · intro k hk
      have : Nat.beq nx k = false := beq_ne (fun e => hk e.symm)
      simp only [patch, look, this]
    · rintro k ob' rfl hob'
      have : Nat.beq k k = true := by simp
      simp only [patch, look, this] at hob'
      injection hob' with hob'; subst hob'
      refine ⟨c, hgn, hob g' hle hgn hst, fun b hb => .inl ?_⟩
      rw [hc] at hb; injection hb with hb; omega
    · rintro k k' _ _ _ rfl rfl; intros; rfl
end

theorem run_isAgg' {P : Program} {T : TypeId} {u : TypeDesc} (h : P.underlying T = some u) (w : World) : (isAgg T).run P w = .ok (isAggT u) w := by
  unfold isAgg
  rw [Sem.run_bind, run_underlying h w]
  cases u <;> simp [isAggT]
theorem run_sizeOf' {P : Program} {T : TypeId} {j : TypeInfo} {n : Nat} (h : P.info? T = some j) (hs : j.size = n) (w : World) : (sizeOf T).run P w = .ok n w := by
  subst hs
  simp [sizeOf, typeInfo, h]
theorem run_zero' {P : Program} {T : TypeId} {j : TypeInfo} {z : Value} (h : P.info? T = some j) (hz : j.zero = some z) (w : World) : (zeroValue T).run P w = .ok z w := by
  simp [zeroValue, typeInfo, h, hz]

section
variable {P : Program} {g : G} {w : World} {K : AV → Prop} {Z : TypeId → AV → Prop}

theorem cmpV_ok {op : BinOp} {a b : Int} {k : IntKind} (hop : op ≠ .add ∧ op ≠ .sub ∧ op ≠ .mul ∧ op ≠ .quo ∧ op ≠ .rem ∧ op ≠ .and ∧ op ≠ .or ∧ op ≠ .xor ∧ op ≠ .andNot ∧ op ≠ .shl ∧ op ≠ .shr)
    (h : (cmpV op a b).wp K Z) : Same P g w (Op.intCmp op a b) K := by
  cases op <;> first
    | exact h.elim
    | (simp only [cmpV, R.wpE1, R.wpE2, R.wpE3, R.wpE4, R.wpE5, R.wpE6] at h; exact ⟨_, _, rfl, VRel.v_iff.2 rfl, h⟩)

theorem arithV_ok {op : BinOp} {a b : Int} {k : IntKind} (hop : op ≠ .shl ∧ op ≠ .shr) (h : (arithV op k a b).wp K Z) : Same P g w (binOp op 0 (.int k a) (.int k b)) K := by
  cases op
  case add => simp only [arithV, R.wpE1, R.wpE2, R.wpE3, R.wpE4, R.wpE5, R.wpE6] at h; exact ⟨_, _, by simp [binOp, Op.intArith], VRel.v_iff.2 rfl, h⟩
  case sub => simp only [arithV, R.wpE1, R.wpE2, R.wpE3, R.wpE4, R.wpE5, R.wpE6] at h; exact ⟨_, _, by simp [binOp, Op.intArith], VRel.v_iff.2 rfl, h⟩
  case mul => simp only [arithV, R.wpE1, R.wpE2, R.wpE3, R.wpE4, R.wpE5, R.wpE6] at h; exact ⟨_, _, by simp [binOp, Op.intArith], VRel.v_iff.2 rfl, h⟩
  case quo => simp only [arithV, R.wpE1, R.wpE2, R.wpE3, R.wpE4, R.wpE5, R.wpE6] at h; exact ⟨_, _, by simp [binOp, Op.intDiv, h.1], VRel.v_iff.2 rfl, h.2⟩
  case rem => simp only [arithV, R.wpE1, R.wpE2, R.wpE3, R.wpE4, R.wpE5, R.wpE6] at h; exact ⟨_, _, by simp [binOp, Op.intDiv, h.1], VRel.v_iff.2 rfl, h.2⟩
  case and => simp only [arithV, R.wpE1, R.wpE2, R.wpE3, R.wpE4, R.wpE5, R.wpE6] at h; exact ⟨.int k (bits .and k a b), _, by simp [binOp, Op.intBits, bits], VRel.v_iff.2 rfl, h⟩
  case or => simp only [arithV, R.wpE1, R.wpE2, R.wpE3, R.wpE4, R.wpE5, R.wpE6] at h; exact ⟨.int k (bits .or k a b), _, by simp [binOp, Op.intBits, bits], VRel.v_iff.2 rfl, h⟩
  case xor => simp only [arithV, R.wpE1, R.wpE2, R.wpE3, R.wpE4, R.wpE5, R.wpE6] at h; exact ⟨.int k (bits .xor k a b), _, by simp [binOp, Op.intBits, bits], VRel.v_iff.2 rfl, h⟩
  case andNot => simp only [arithV, R.wpE1, R.wpE2, R.wpE3, R.wpE4, R.wpE5, R.wpE6] at h; exact ⟨.int k (bits .andNot k a b), _, by simp [binOp, Op.intBits, bits], VRel.v_iff.2 rfl, h⟩
  case shl => exact absurd rfl hop.1
  case shr => exact absurd rfl hop.2
  all_goals
    simp only [arithV, cmpV, R.wpE1, R.wpE2, R.wpE3, R.wpE4, R.wpE5, R.wpE6] at h
    exact ⟨_, _, by simp [binOp, Op.intCmp], VRel.v_iff.2 rfl, h⟩

theorem toList_inj {a b : ByteArray} : (a.toList == b.toList) = decide (a = b) := by
  rw [Bool.eq_iff_iff]
  simp only [beq_iff_eq, decide_eq_true_eq]
  constructor
  · intro h
    rw [ByteArray.toList_eq, ByteArray.toList_eq] at h
    exact WideShapes.bytes_inj h
  · rintro rfl; rfl

theorem strV_ok {op : BinOp} {a b : ByteArray} (h : (strV op a b).wp K Z) : Same P g w (Op.stringOp op a b) K := by
  cases op <;> first
    | exact h.elim
    | (simp only [strV, R.wpE1, R.wpE2, R.wpE3, R.wpE4, R.wpE5, R.wpE6] at h
       refine ⟨_, _, ?_, VRel.v_iff.2 rfl, h.2⟩
       have h1 := h.1
       simp only [Op.stringOp]
       rw [if_neg (by simp [IntKind.max, IntKind.bits, IntKind.signed]; omega)]
       rfl)
    | (simp only [strV, R.wpE1, R.wpE2, R.wpE3, R.wpE4, R.wpE5, R.wpE6] at h
       refine ⟨_, _, ?_, VRel.v_iff.2 rfl, h⟩
       simp only [Op.stringOp, toList_inj]
       rfl)

theorem run_part_one {T : TypeId} {u : TypeDesc} (hu : P.underlying T = some u) (ha : isAggT u = false) {cs : Array Value} {off : Nat} {v : Value} (h : cs[off]? = some v) (w : World) : (part T cs off).run P w = .ok v w := by
  simp only [part, Sem.run_bind, run_isAgg' hu, Result.andThen_ok, ha, Bool.false_eq_true, if_false, h, Sem.run_pure]

theorem eqCells_ok {tt : TypeId → Option TInf} (htt : TTok P tt) {d : Nat} {xs ys : List AV} {cx cy : Array Value} (hx : VRels g w xs cx.toList) (hy : VRels g w ys cy.toList) : ∀ {fs : List Field} {b : Bool}, (fs.all fun f => f.name != "_") = true → eqCells tt xs ys fs = some b → (Op.eqFields (d + 1) cx cy fs).run P w = .ok b w
  | [], b, _, h => by simp only [eqCells, Option.some.injEq] at h; subst h; simp [Op.eqFields]
  | f :: fs, b, hn, h => by
    simp only [List.all_cons, Bool.and_eq_true, bne_iff_ne, ne_eq] at hn
    simp only [eqCells] at h
    have fin : ∀ {T : TypeId} {x y : Value} {p r : Bool}, (part f.type cx f.offset).run P w = .ok x w → (part f.type cy f.offset).run P w = .ok y w → (Op.equalIn (d + 1) f.type x y).run P w = .ok p w → eqCells tt xs ys fs = some r →
        (Op.eqFields (d + 1) cx cy (f :: fs)).run P w = .ok (p && r) w := by
      intro T x y p r h1 h2 h3 h4
      have ih := eqCells_ok htt (d := d) hx hy (fs := fs) hn.2 h4
      have e : f.name ≠ "_" := hn.1
      simp only [Op.eqFields, Sem.run_ite, if_pos e, Sem.run_bind, h1, h2, h3, Result.andThen_ok]
      cases p
      · simp
      · simp [ih]
    have gx : ∀ {a : AV} {l : List AV} {cl : Array Value}, VRels g w l cl.toList → l[f.offset]? = some a → ∃ c, cl[f.offset]? = some c ∧ VRel g w a c := fun hl ha => by
      obtain ⟨c, h1, h2⟩ := hl.get _ _ ha
      exact ⟨c, by simpa using h1, h2⟩
    split at h
    · rename_i j hj
      obtain ⟨hu, _⟩ := htt f.type j hj
      split at h
      · rename_i a b' r hju hxa hyb hr
        injection h with h; subst h
        rw [hju] at hu
        obtain ⟨c1, h1, h2⟩ := gx hx hxa
        obtain ⟨c2, h3, h4⟩ := gx hy hyb
        rw [VRel.v_iff] at h2 h4; subst h2 h4
        refine fin (T := f.type) (run_part_one hu rfl h1 w) (run_part_one hu rfl h3 w) ?_ hr
        rw [run_equalIn_string w d f.type a b' hu, toList_inj]
      · rename_i k a k' b' r hju hxa hyb hr
        split at h
        · rename_i hk _
          subst hk
          injection h with h; subst h
          rw [hju] at hu
          obtain ⟨c1, h1, h2⟩ := gx hx hxa
          obtain ⟨c2, h3, h4⟩ := gx hy hyb
          rw [VRel.v_iff] at h2 h4; subst h2 h4
          exact fin (T := f.type) (run_part_one hu rfl h1 w) (run_part_one hu rfl h3 w) (run_equalIn_int w d f.type _ _ _ _ hu) hr
        · cases h
      · rename_i a b' r hju hxa hyb hr
        injection h with h; subst h
        rw [hju] at hu
        obtain ⟨c1, h1, h2⟩ := gx hx hxa
        obtain ⟨c2, h3, h4⟩ := gx hy hyb
        rw [VRel.v_iff] at h2 h4; subst h2 h4
        exact fin (T := f.type) (run_part_one hu rfl h1 w) (run_part_one hu rfl h3 w) (run_equalIn_bool' w d f.type _ _ hu) hr
      · cases h
    · cases h

theorem binA_ok {tt : TypeId → Option TInf} (htt : TTok P tt) {op : BinOp} {T : TypeId} {x y : Operand} {a b : AV} {ca cb : Value} (ha : VRel g w a ca) (hb : VRel g w b cb) (h : (binA tt op T a b).wp K Z) :
    Same P g w (do eqGuard op T x y ca cb; binOp op T ca cb) K := by
  unfold binA at h
  split at h
  · rename_i k a' j b'
    rw [VRel.v_iff] at ha hb; subst ha hb
    have hg : ∀ w, (eqGuard op T x y (.int k a') (.int j b')).run P w = .ok () w := fun w => by
      unfold eqGuard; split <;> rfl
    split at h
    · simp only [R.wpE1, R.wpE2, R.wpE3, R.wpE4, R.wpE5, R.wpE6] at h
      refine ⟨_, _, ?_, VRel.v_iff.2 rfl, h.2⟩
      simp only [Sem.run_bind, hg, Result.andThen_ok, binOp, Op.shift]
      rw [if_neg (by omega)]; rfl
    · simp only [R.wpE1, R.wpE2, R.wpE3, R.wpE4, R.wpE5, R.wpE6] at h
      refine ⟨_, _, ?_, VRel.v_iff.2 rfl, h.2⟩
      simp only [Sem.run_bind, hg, Result.andThen_ok, binOp, Op.shift]
      rw [if_neg (by omega)]; rfl
    · rename_i op' hn1 hn2
      split at h
      · rename_i hkj _
        subst hkj
        obtain ⟨c, a1, h1, h2, h3⟩ := arithV_ok (P := P) (g := g) (w := w) ⟨hn1, hn2⟩ h
        refine ⟨c, a1, ?_, h2, h3⟩
        simp only [Sem.run_bind, hg, Result.andThen_ok]
        rw [← h1]
        cases op <;> first | rfl | exact absurd rfl hn1 | exact absurd rfl hn2
      · exact h.elim
  · rename_i a' b'
    rw [VRel.v_iff] at ha hb; subst ha hb
    have hg : ∀ w, (eqGuard op T x y (.string a') (.string b')).run P w = .ok () w := fun w => by
      unfold eqGuard; split <;> rfl
    obtain ⟨c, a1, h1, h2, h3⟩ := strV_ok (P := P) (g := g) (w := w) h
    refine ⟨c, a1, ?_, h2, h3⟩
    simp only [Sem.run_bind, hg, Result.andThen_ok]
    rw [← h1]
    cases op <;> rfl
  · rename_i a' b'
    rw [VRel.v_iff] at ha hb; subst ha hb
    have hg : ∀ w, (eqGuard op T x y (.bool a') (.bool b')).run P w = .ok () w := fun w => by
      unfold eqGuard; split <;> rfl
    split at h
    · rename_i i hi
      obtain ⟨hu, _⟩ := htt T i hi
      split at h
      · rename_i hu' 
        rw [hu'] at hu
        simp only [R.wpE1, R.wpE2, R.wpE3, R.wpE4, R.wpE5, R.wpE6] at h
        refine ⟨.bool (a' == b'), _, ?_, VRel.v_iff.2 rfl, h⟩
        have he : (Op.equal T (.bool a') (.bool b')).run P w = .ok (a' == b') w := run_equalIn_bool' w 9999 T a' b' hu
        simp only [Sem.run_bind, hg, Result.andThen_ok, binOp, he]; rfl
      · rename_i hu' 
        rw [hu'] at hu
        simp only [R.wpE1, R.wpE2, R.wpE3, R.wpE4, R.wpE5, R.wpE6] at h
        refine ⟨.bool (!(a' == b')), _, ?_, VRel.v_iff.2 rfl, h⟩
        have he : (Op.equal T (.bool a') (.bool b')).run P w = .ok (a' == b') w := run_equalIn_bool' w 9999 T a' b' hu
        simp only [Sem.run_bind, hg, Result.andThen_ok, binOp, he]; rfl
      · exact h.elim
    · exact h.elim
  · rename_i xs ys
    split at h
    · rename_i i hi
      split at h
      · rename_i fs hie hiu
        unfold opt at h
        split at h
        · rename_i bb hbb
          obtain ⟨hu, _, _, _, _, heq⟩ := htt T i hi
          rw [hiu] at hu
          simp only [eqOK, hie, hiu, Bool.not_true, Bool.false_or, Bool.and_eq_true, Bool.not_eq_true'] at heq
          obtain ⟨⟨he1, he2⟩, he3⟩ := heq
          simp only [VRel] at ha hb
          obtain ⟨c1, h1, rfl⟩ := ha
          obtain ⟨c2, h2, rfl⟩ := hb
          have hf : P.fieldsOf T = fs := by simp [Program.fieldsOf, hu]
          have hrun := eqCells_ok (P := P) (w := w) htt (d := 9998) (cx := c1.toArray) (cy := c2.toArray) (by simpa using h1) (by simpa using h2) he3 hbb
          have hgd := run_eqGuard_agg (P := P) w op T x y c1.toArray c2.toArray he2
          have heq2 : (Op.equalIn 10000 T (.agg c1.toArray) (.agg c2.toArray)).run P w = .ok bb w := by
            rw [run_equalIn_agg w 9999 T _ _ (by rw [hf]; exact hu) he1, hf]; exact hrun
          split at h
          · refine ⟨.bool bb, _, ?_, VRel.v_iff.2 rfl, h⟩
            simp only [Sem.run_bind, hgd, Result.andThen_ok, run_eql_struct, heq2]
          · refine ⟨.bool (!bb), _, ?_, VRel.v_iff.2 rfl, h⟩
            simp only [Sem.run_bind, hgd, Result.andThen_ok, run_neq_struct, heq2]
          · exact h.elim
        · exact h.elim
      · exact h.elim
    · exact h.elim
  · exact h.elim

theorem unA_ok {op : UnOp} {a : AV} {ca : Value} (ha : VRel g w a ca) (h : (unA op a).wp K Z) : Same P g w (Op.unary op ca) K := by
  unfold unA at h
  split at h
  · rw [VRel.v_iff] at ha; subst ha
    split at h
    · exact ⟨_, _, rfl, VRel.v_iff.2 rfl, h⟩
    · exact h.elim
  · rw [VRel.v_iff] at ha; subst ha
    split at h
    · exact ⟨_, _, by simp [Op.unary, Op.intArith], VRel.v_iff.2 rfl, h⟩
    · exact h.elim
  · exact h.elim

theorem convA_ok {tt : TypeId → Option TInf} (htt : TTok P tt) {src dst : TypeId} {a : AV} {ca : Value} (ha : VRel g w a ca) (h : (convA tt src dst a).wp K Z) : Same P g w (convert src dst ca) K := by
  unfold convA at h
  split at h
  · rw [VRel.v_iff] at ha; subst ha
    split at h
    · rename_i i j hi hj
      obtain ⟨hu, _⟩ := htt _ _ hi
      obtain ⟨hv, _⟩ := htt _ _ hj
      split at h
      · rename_i hj'
        rw [hj'] at hv
        refine ⟨_, _, ?_, VRel.v_iff.2 rfl, h⟩
        simp [convert, run_underlying hu, run_underlying hv, Conv.intToInt]
      · exact h.elim
    · exact h.elim
  · rw [VRel.v_iff] at ha; subst ha
    split at h
    · rename_i i j hi hj
      obtain ⟨hu, _⟩ := htt _ _ hi
      obtain ⟨hv, _⟩ := htt _ _ hj
      split at h
      · rename_i hj'
        rw [hj'] at hv
        refine ⟨_, _, ?_, VRel.v_iff.2 rfl, h⟩
        simp [convert, run_underlying hu, run_underlying hv]
      · exact h.elim
    · exact h.elim
  · exact h.elim

end

theorem storeCells_Z (P : Program) (g o : Nat) (t : TypeId) (fz : Nat × Nat) : ∀ (vs : List Value) (i : Nat) (cur : Array Value) (w : World), w.heap[g]? = some (.cells cur t fz) → (fz.2 = 0 ∨ cur.size ≤ fz.1) → o + i + vs.length ≤ cur.size → (∀ v ∈ vs, v.oneCell' = true) →
    (storeCells ⟨g, o, none⟩ vs i).run P w = .ok () (w.setRow g (cur.toList.take (o + i) ++ vs ++ cur.toList.drop (o + i + vs.length)).toArray)
  | [], i, cur, w, hg, _, _, _ => by
    simp only [storeCells, List.append_nil, List.length_nil, Nat.add_zero, List.take_append_drop, Array.toArray_toList]
    rw [setRow_self w g cur t fz hg]
    rfl
  | v :: rest, i, cur, w, hg, hfz, hl, h1 => by
    have hi : o + i < cur.size := by simp at hl; omega
    have hadd : (⟨g, o, none⟩ : Addr).add i = ⟨g, o + i, none⟩ := by unfold Addr.add; split <;> simp_all
    have hcell : w.cell? ⟨g, o + i, none⟩ = some cur[o + i] := by simp [World.cell?, hg, hi]
    have hfro : w.frozen? ⟨g, o + i, none⟩ = false := by
      obtain ⟨lo, hi'⟩ := fz
      simp only [World.frozen?, hg, Bool.and_eq_false_iff, decide_eq_false_iff_not]
      simp only at hfz
      omega
    have hst : (store ((⟨g, o, none⟩ : Addr).add i) v).run P w = .ok () (w.setRow g (cur.setIfInBounds (o + i) v)) := by
      rw [hadd, run_store P w _ v _ (h1 v (by simp)), hcell]
      simp [hfro, setCell_eq_setRow w g (o + i) cur t fz v hg]
    have ih := storeCells_Z P g o t fz rest (i + 1) (cur.setIfInBounds (o + i) v) (w.setRow g (cur.setIfInBounds (o + i) v)) (setRow_heap w g cur _ t _ hg) (by simpa using hfz) (by simp at hl ⊢; omega) (fun x hx => h1 x (by simp [hx]))
    simp only [storeCells, Sem.run_bind, hst, Result.andThen_ok, ih, setRow_setRow]
    congr 3
    have e := list_seg_step cur.toList (o + i) v rest (by simp at hl ⊢; omega)
    simpa [Array.toList_setIfInBounds, Nat.add_assoc] using e

theorem ownsRowZ.cells {w : World} {e : TypeId} {size : Nat} {v : Value} {n : Nat} {xs : List Value} (h : ownsRowZ w e size v n xs) {g : Nat} (hg : v.ownBlock = some g) : ∀ j u, xs[j]? = some u → w.cell? ((⟨g, 0, none⟩ : Addr).add j) = some u := by
  intro j u hu
  rcases h.2 with ⟨rfl, _⟩ | ⟨g', cap, cur, fz, rfl, _, hgg, _, _, _, htake⟩
  · simp [Value.ownBlock] at hg
  · simp [Value.ownBlock] at hg
    subst hg
    have hadd : (⟨g', 0, none⟩ : Addr).add j = ⟨g', j, none⟩ := by unfold Addr.add; split <;> simp_all
    rw [hadd, cell_of_row w g' j cur e fz hgg]
    rw [← htake, List.getElem?_take] at hu
    split at hu
    · simpa using hu
    · cases hu

section
variable {P : Program} (w : World)

/-- Appending, whatever is appended: news, of which the three arms are told. -/
theorem append_Z {t e : TypeId} {z : Value} {size : Nat} {act : Sem Value} (hzs : z.cells.size = size) {v : Value} {n m : Nat} {xs news : List Value} (hown : ownsRowZ w e size v n xs) (hl : news.length = m * size)
    (h63 : n + m ≤ maxLen)
    (hnil : v = .slice none 0 0 → xs = [] → n = 0 → ∃ v' w', act.run P w = .ok v' w' ∧ ownsRowZ w' e size v' m news ∧ w.grownBy w' none ∧ (v'.ownBlock = none ∨ v'.ownBlock = some w.heap.size))
    (hroom : ∀ (g cap : Nat) (cur : Array Value) (fz : Nat × Nat), v = .slice (some ⟨g, 0, none⟩) n cap → w.heap[g]? = some (.cells cur e fz) → (fz.2 = 0 ∨ cur.size ≤ fz.1) → n + m ≤ cap → n * size + news.length ≤ cur.size →
      act.run P w = .ok (.slice (some ⟨g, 0, none⟩) (n + m) cap) (w.setRow g (cur.toList.take (n * size) ++ news ++ cur.toList.drop (n * size + news.length)).toArray))
    (hgrow : ∀ (g cap : Nat), v = .slice (some ⟨g, 0, none⟩) n cap → (∀ j u, xs[j]? = some u → w.cell? ((⟨g, 0, none⟩ : Addr).add j) = some u) → cap < n + m →
      act.run P w = .ok (.slice (some ⟨w.heap.size, 0, none⟩) (n + m) (grownCap w (n + m) cap e)) (w.drew.alloc (.cells (xs.toArray ++ news.toArray ++ Builtin.zeroCells z.cells (grownCap w (n + m) cap e - (n + m))) e))) :
    ∃ v' w', act.run P w = .ok v' w' ∧ ownsRowZ w' e size v' (n + m) (xs ++ news) ∧ w.grownBy w' v.ownBlock ∧ (v'.ownBlock = v.ownBlock ∨ v'.ownBlock = some w.heap.size) := by
  have hlen : (xs ++ news).length = (n + m) * size := by rw [List.length_append, hown.1, hl, Nat.add_mul]
  have hown' := hown
  rcases hown.2 with ⟨rfl, rfl⟩ | ⟨g, cap, cur, fz, rfl, hfz, hg, hnc, hcm, hcs, htake⟩
  · have hx : xs = [] := List.eq_nil_of_length_eq_zero (by simpa using hown.1)
    subst hx
    obtain ⟨v', w', h1, h2, h3, h4⟩ := hnil rfl rfl rfl
    exact ⟨v', w', h1, by simpa using h2, h3, h4⟩
  · by_cases hr : n + m ≤ cap
    · have hfit : n * size + news.length ≤ cur.size := by rw [hl, hcs, ← Nat.add_mul]; exact Nat.mul_le_mul_right _ hr
      refine ⟨_, _, hroom g cap cur fz rfl hg hfz hr hfit, ⟨hlen, .inr ⟨g, cap, _, fz, rfl, ?_, setRow_heap w g cur _ e _ hg, hr, hcm, ?_, ?_⟩⟩, ⟨rfl, rfl, rfl, by simp, fun k _ hk => setRow_other w g k _ (fun e => hk (by simp [Value.ownBlock, e]))⟩, Or.inl rfl⟩
      · simp only [List.size_toArray, List.length_append, List.length_take, List.length_drop, Array.length_toList]
        omega
      · simp only [List.size_toArray, List.length_append, List.length_take, List.length_drop, Array.length_toList]
        omega
      · simp only
        rw [htake, ← hlen]
        exact List.take_left
    · have hge := grownCap_ge w (n + m) cap e
      have hcm' : grownCap w (n + m) cap e ≤ maxLen := grownCap_le_maxLen w (n + m) cap e h63
      refine ⟨_, _, hgrow g cap rfl (hown'.cells (g := g) rfl) (by omega), ⟨hlen, .inr ⟨w.heap.size, _, _, (0, 0), rfl, .inl rfl, heap_alloc_new w.drew _, hge, hcm', ?_, ?_⟩⟩, ⟨rfl, rfl, rfl, by simp, fun k hk _ => Go.heap_alloc_old w.drew _ hk⟩, Or.inr rfl⟩
      · simp only [Array.size_append, List.size_toArray, size_zeroCells, hzs, hown.1, hl, ← Nat.add_mul]
        congr 1
        omega
      · simp only [Array.toList_append, List.append_assoc]
        rw [← List.append_assoc, ← hlen]
        exact List.take_left

theorem append_slice_Z {t ty e : TypeId} {i : TypeInfo} {z : Value} {size bytes : Nat} (ht : P.underlying t = some (.slice e)) (hi : P.info? e = some i) (hz : i.zero = some z)
    (hsize : i.size = size) (hby : i.bytes = bytes) (hzs : z.cells.size = size) (hsz : 0 < size)
    {v : Value} {n : Nat} {xs : List Value} (hown : ownsRowZ w e size v n xs)
    (a : Addr) (m c : Nat) (news : List Value) (hl : news.length = m * size) (hnews : ∀ j u, news[j]? = some u → w.cell? (a.add j) = some u) (h1 : ∀ u ∈ news, u.oneCell' = true)
    (h63 : n + m ≤ maxLen) (hbytes : (n + m) * bytes ≤ 140737488355328) :
    ∃ v' w', (Builtin.append_ #[t, t] ty #[v, .slice (some a) m c]).run P w = .ok v' w' ∧ ownsRowZ w' e size v' (n + m) (xs ++ news) ∧ w.grownBy w' v.ownBlock ∧ (v'.ownBlock = v.ownBlock ∨ v'.ownBlock = some w.heap.size) := by
  refine append_Z (t := t) w hzs hown hl h63 (fun hv hx hn => ?_) (fun g cap cur fz hv hg hfz hr hfit => ?_) (fun g cap hv holds hc => ?_)
  · subst hv hx hn
    obtain ⟨v', w', h2, h3, h4, _, h5⟩ := run_append_own_at (P := P) w 0 t ty e i z size bytes ht hi hz hsize hby hzs hsz (.slice none 0 0) 0 [] (World.ownsRow_nil _ _ _ _) a m c news hl hnews h1 (by simpa using h63) (by simpa using hbytes) (Nat.zero_le _)
    exact ⟨v', w', h2, by simpa using ownsRowZ_of h3, h4, h5⟩
  · subst hv hsize
    have hf := run_firstCells_some (P := P) w i.size m a m c news hl hnews
    have hst := storeCells_Z P g (n * i.size) e fz news 0 cur w hg hfz (by simpa using hfit) h1
    simp only [Nat.add_zero] at hst
    simp [Builtin.append_, run_underlying ht, sizeOf, typeInfo, hi, Builtin.lenOf, hr, hf, Addr.add_lit, hst]
  · subst hv hsize hby
    have hsm : n + m ≤ 9223372036854775807 := by simp only [maxLen] at h63; omega
    exact run_append_grow (P := P) w t ty e i z ht hi hz ⟨g, 0, none⟩ n cap xs hown.1 holds a m c news hl hnews (by omega) (by omega) (growslice_fits (by omega) hbytes)

theorem append_string_Z {t u ty e : TypeId} {i : TypeInfo} (ht : P.underlying t = some (.slice e)) (hu : P.underlying u = some .string) (hi : P.info? e = some i) (hz : i.zero = some (.int .u8 0))
    (hsize : i.size = 1) (hby : i.bytes = 1) {v : Value} {n : Nat} {xs : List Value} (hown : ownsRowZ w e 1 v n xs) (s : ByteArray)
    (hbytes : n + s.size ≤ 140737488355328) :
    ∃ v' w', (Builtin.append_ #[t, u] ty #[v, .string s]).run P w = .ok v' w' ∧ ownsRowZ w' e 1 v' (n + s.size) (xs ++ Lib.strCells s) ∧ w.grownBy w' v.ownBlock ∧ (v'.ownBlock = v.ownBlock ∨ v'.ownBlock = some w.heap.size) := by
  have h63 : n + s.size ≤ maxLen := by unfold maxLen; omega
  refine append_Z (t := t) (z := .int .u8 0) (size := 1) w rfl hown (by rw [Lib.strCells_length]; omega) h63 (fun hv hx hn => ?_) (fun g cap cur fz hv hg hfz hr hfit => ?_) (fun g cap hv holds hc => ?_)
  · subst hv hx hn
    by_cases hs : s.size = 0
    · have hn : Lib.strCells s = [] := List.eq_nil_of_length_eq_zero (by rw [Lib.strCells_length]; exact hs)
      obtain ⟨v', w', h2, h3, h4, h5⟩ := Lib.run_append_own_string (P := P) w 0 t u ty e i ht hu hi hz hsize hby (.slice none 0 0) 0 [] (World.ownsRow_nil _ _ _ _) s (by simpa using h63) (by simpa using hbytes) (Nat.zero_le _)
      have hv := h5.2 ⟨rfl, hs⟩
      exact ⟨v', w', h2, by simpa using ownsRowZ_of h3, h4, .inl (by rw [hv]; rfl)⟩
    · have hr := run_append_nil_string (P := P) w t u ty e i (.int .u8 0) ht hu hi hz s (by omega) (by unfold maxLen at h63; omega) (by rw [hby]; omega)
      have e1 : (s.data.map fun b => Value.int .u8 b.toNat) = (Lib.strCells s).toArray := by
        apply Array.ext'
        simp [Lib.strCells]
      rw [e1] at hr
      have hge := grownCap_ge w s.size 0 e
      have hcm' : grownCap w s.size 0 e ≤ maxLen := grownCap_le_maxLen w s.size 0 e (by simpa using h63)
      have hlen : (Lib.strCells s).length = s.size * 1 := by rw [Lib.strCells_length]; omega
      refine ⟨_, _, hr, ⟨hlen, .inr ⟨w.heap.size, _, _, (0, 0), rfl, .inl rfl, heap_alloc_new w.drew _, hge, hcm', ?_, ?_⟩⟩, ⟨rfl, rfl, rfl, by simp, fun k hk _ => Go.heap_alloc_old w.drew _ hk⟩, Or.inr rfl⟩
      · have hz1 : (Value.int IntKind.u8 0).cells.size = 1 := rfl
        simp only [Array.size_append, List.size_toArray, size_zeroCells, hz1, Lib.strCells_length]
        omega
      · simp only [Array.toList_append]
        rw [← hlen]
        exact List.take_left
  · subst hv
    rw [Nat.mul_one] at hfit ⊢
    have hf := Lib.run_firstCells_string (P := P) w 1 s
    have hst := storeCells_Z P g n e fz (Lib.strCells s) 0 cur w hg hfz (by simpa using hfit) (Lib.strCells_oneCell s)
    simp only [Nat.add_zero, Lib.strCells_length] at hst
    simp [Builtin.append_, run_underlying ht, run_underlying hu, sizeOf, typeInfo, hi, hsize, Builtin.lenOf, hr, hf, Addr.add_lit, hst, Lib.strCells_length]
  · subst hv
    have hsm : n + s.size ≤ 9223372036854775807 := by omega
    exact Lib.run_append_grow_string (P := P) w t u ty e i (.int .u8 0) ht hu hi hz ⟨g, 0, none⟩ n cap xs (by rw [hsize]; exact hown.1) holds s (by omega) (by omega) (by rw [hby]; exact growslice_fits (by omega) (by omega))
end
end Go.Proofs.Ytmkbigaofhionaa
