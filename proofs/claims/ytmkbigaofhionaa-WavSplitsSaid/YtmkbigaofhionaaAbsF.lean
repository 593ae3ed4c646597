/- Functions of the abstract machine: what is said of one by its body; no program. -/
import Derived.Test.YtmkbigaofhionaaAbsK
namespace Go.Proofs.Ytmkbigaofhionaa
open Go.RowKit
set_option linter.unusedVariables false
set_option linter.unusedSimpArgs false

def zipA : List AV → Nat → Fra
  | [], _ => []
  | a :: l, i => (i, a) :: zipA l (i + 1)

def resOne (tt : TypeId → Option TInf) (fr : Fra) (hp : Heap) : ResultVar → Option AV
  | .tmp t => match look t fr with
    | some a => some (nb a)
    | none => none
  | .cell t T => match look t fr with
    | some (.ptr k off) => match tt T with
      | some i => match loadA hp (isAggT i.u) i.size (.ptr k off) with
        | .ok a => some (nb a)
        | _ => none
      | none => none
    | _ => none
def resList (tt : TypeId → Option TInf) (fr : Fra) (hp : Heap) : List ResultVar → Option (List AV)
  | [] => some []
  | r :: rs => match resOne tt fr hp r, resList tt fr hp rs with
    | some a, some l => some (a :: l)
    | _, _ => none
def resA (tt : TypeId → Option TInf) (rs : List ResultVar) (st : AS) : Option AV :=
  match st with
  | ⟨fr, hp, _⟩ => match resList tt fr (hpOf hp) rs with
    | some [a] => some a
    | some l => some (.tup l)
    | none => none

def retK (tt : TypeId → Option TInf) (rs : List ResultVar) (K : AV → AS → Prop) (e : Exit) (st : AS) : Prop :=
  match e with
  | .normal => match resA tt rs st with
    | some v => K v st
    | none => False
  | .ret => match resA tt rs st with
    | some v => K v st
    | none => False
  | _ => False

theorem zipA_look {g : G} {w : World} : ∀ {args : List AV} {cargs : List Value}, VRels g w args cargs → ∀ (i t : Nat) (x : AV), look t (zipA args i) = some x → ∃ j c, t = i + j ∧ cargs[j]? = some c ∧ VRel g w x c
  | [], _, _, i, t, x, h => by simp [zipA, look] at h
  | a :: l, cargs, hv, i, t, x, h => by
    obtain ⟨c, r, rfl, h2, h3⟩ := VRels.cons.1 hv
    simp only [zipA, look] at h
    split at h
    · rename_i hb
      have := beq_eq hb
      subst this
      injection h with h; subst h
      exact ⟨0, c, rfl, rfl, h2⟩
    · obtain ⟨j, c', h4, h5, h6⟩ := zipA_look h3 (i + 1) t x h
      exact ⟨j + 1, c', by omega, by simpa using h5, h6⟩

def resRun (a : Act) : ResultVar → Sem Value
  | .tmp t => pure (a.tmps.getD t undef)
  | .cell c t => do loadVar t (← asAddr (a.tmps.getD c undef))

theorem resOne_ok {P : Program} {tt : TypeId → Option TInf} (htt : TTok P tt) {O : Nat → Prop} {w0 w : World} {g : G} {hp : Heap} (hI : Inv O w0 g hp w) {fr : Fra} {a : Act} (hfr : ∀ t x, look t fr = some x → ∃ c, a.tmps[t]? = some c ∧ VRel g w x c) {r : ResultVar} {v : AV} (h : resOne tt fr hp r = some v) :
    ∃ c, (resRun a r).run P w = .ok c w ∧ VRel g w v c := by
  cases r with
  | tmp t =>
    simp only [resOne] at h
    split at h
    · rename_i x hx
      injection h with h; subst h
      obtain ⟨c, h1, h2⟩ := hfr t x hx
      refine ⟨c, by simp [resRun, h1], h2.nb⟩
    · cases h
  | cell t T =>
    simp only [resOne] at h
    split at h
    · rename_i k off hx
      split at h
      · rename_i i hi
        split at h
        · rename_i x hl
          injection h with h; subst h
          obtain ⟨c, h1, h2⟩ := hfr t _ hx
          have := loadA_ok (K := fun y => y = x) (Z := fun _ _ => True) hI htt hi h2 (by rw [hl]; rfl)
          obtain ⟨d, y, h3, h5, h4⟩ := this
          subst h4
          simp only [VRel] at h2
          obtain ⟨b, h6, rfl⟩ := h2
          refine ⟨d, ?_, h5.nb⟩
          simp only [resRun, Array.getD_eq_getD_getElem?, h1, Option.getD_some, asAddr, Sem.run_bind, Sem.run_pure, Result.andThen_ok]
          simpa [Instr.loadAt, Instr.sureAddr] using h3
        · cases h
      · cases h
    · cases h

theorem resList_ok {P : Program} {tt : TypeId → Option TInf} (htt : TTok P tt) {O : Nat → Prop} {w0 w : World} {g : G} {hp : Heap} (hI : Inv O w0 g hp w) {fr : Fra} {a : Act} (hfr : ∀ t x, look t fr = some x → ∃ c, a.tmps[t]? = some c ∧ VRel g w x c) : ∀ {rs : List ResultVar} {l : List AV}, resList tt fr hp rs = some l →
    ∃ cs, (rs.mapM (resRun a)).run P w = .ok cs w ∧ VRels g w l cs
  | [], l, h => by simp only [resList, Option.some.injEq] at h; subst h; exact ⟨[], by simp, VRels.nil.2 rfl⟩
  | r :: rs, l, h => by
    simp only [resList] at h
    split at h
    · rename_i x l' h1 h2
      injection h with h; subst h
      obtain ⟨c, h3, h4⟩ := resOne_ok htt hI hfr h1
      obtain ⟨cs, h5, h6⟩ := resList_ok htt hI hfr h2
      exact ⟨c :: cs, by simp [h3, h5], VRels.cons.2 ⟨c, cs, rfl, h4, h6⟩⟩
    · cases h

theorem resA_ok {P : Program} {tt : TypeId → Option TInf} (htt : TTok P tt) {fn : Func} {O : Nat → Prop} {w0 w : World} {g : G} {st : AS} (hI : Inv O w0 g (hpOf st.hp) w) {a : Act} {v : AV} (h : resA tt fn.results.toList st = some v) (hfr : ∀ t x, look t st.fr = some x → ∃ c, a.tmps[t]? = some c ∧ VRel g w x c) :
    ∃ c, (results fn a.tmps).run P w = .ok c w ∧ VRel g w v c := by
  obtain ⟨fr, hp, nx⟩ := st
  simp only [resA] at h
  have hm : (fn.results.mapM (resRun a)).run P w = ((fn.results.toList.mapM (resRun a)).run P w).andThen (fun l w => .ok l.toArray w) := by
    rw [← Array.toArray_toList (xs := fn.results), List.mapM_toArray]
    simp only [Functor.map]
    show (Sem.bind _ _).run P w = _
    rw [show ∀ (x : Sem (List Value)) (f : List Value → Sem (Array Value)), (Sem.bind x f).run P w = (x.run P w).andThen (fun a w => (f a).run P w) from fun x f => Sem.run_bind ..]
    rfl
  have hres : (results fn a.tmps).run P w = ((fn.results.mapM (resRun a)).run P w).andThen (fun vs w => .ok (if h : vs.size = 1 then vs[0] else .tuple vs) w) := by
    unfold results
    rw [Sem.run_bind]
    congr 1
  split at h
  · rename_i x hl
    injection h with h; subst h
    obtain ⟨cs, h1, h2⟩ := resList_ok htt hI hfr hl
    obtain ⟨c, r, rfl, h3, h4⟩ := VRels.cons.1 h2
    rw [VRels.nil.1 h4] at h1
    exact ⟨c, by rw [hres, hm, h1]; simp, h3⟩
  · rename_i l hne hl
    injection h with h; subst h
    obtain ⟨cs, h1, h2⟩ := resList_ok htt hI hfr hl
    refine ⟨.tuple cs.toArray, ?_, ?_⟩
    · rw [hres, hm, h1]
      have hlen : ¬ cs.toArray.size = 1 := by
        intro hs
        have h3 := h2.len
        match l, h3 with
        | [], h3 => simp at hs h3; rw [h3] at hs; simp at hs
        | [x], _ => exact hne x rfl
        | _ :: _ :: _, h3 => simp at hs h3; omega
      simp only [Result.andThen_ok, dif_neg hlen]
    · simp only [VRel]
      exact ⟨cs, h2, rfl⟩
  · cases h

section
variable {P : Program} {cx : Cx}

/-- A call, by its body. -/
theorem calls_awp (hcx : CxOK P cx) (hmix : P.follows .mixedOrders = true) {f : FuncId} {fn : Func} {c : Code} (hrf : ∀ c S, cx.rf = some (c, S) → RfOK P fn.ntmps c S) (hf : P.funcs[f]? = some fn) (hb : fn.body = some c) {O : Nat → Prop} {w : World} {g : G} {p : Pat} {args : List AV} {cargs : List Value} {K : AV → AS → Prop} {Z : TypeId → AV → Prop}
    (hI : Inv O w g (hpOf p) w) (hfresh : ∀ k, cx.pin ≤ k → g.m k = none ∧ g.β k = none) (hv : VRels g w args cargs) (hlen : args.length ≤ fn.ntmps)
    (h : awp cx fn.ntmps Z c (retK cx.tt fn.results.toList K) ⟨zipA args 0, p, cx.pin⟩) :
    Calls P f cargs.toArray w fun
      | .returned d, w' => ∃ v st g', K v st ∧ Inv O w g' (hpOf st.hp) w' ∧ VRel g' w' v d ∧ (∀ b, g.S b → g'.S b) ∧ (∀ b, g'.S b → g.S b ∨ O b ∨ w.heap.size ≤ b) ∧ (∀ k c, g.m k = some c → g'.m k = some c)
      | .panicked ch, w' => Bad O w Z ch w'
      | .outgrown, _ => False := by
  have hpin : ∀ k, g.m k ≠ none → k < cx.pin := fun k hk => by
    rcases Nat.lt_or_ge k cx.pin with h1 | h1
    · exact h1
    · exact absurd (hfresh k h1).1 hk
  have hsz : (cargs.toArray ++ Array.replicate (fn.ntmps - cargs.toArray.size) undef).size = fn.ntmps := by
    have := hv.len
    simp; omega
  have hr : Rel fn.ntmps O w ⟨g, ∀ T x, ¬ Z T x⟩ g (zipA args 0) (hpOf p) cx.pin { tmps := cargs.toArray ++ Array.replicate (fn.ntmps - cargs.toArray.size) undef, defers := [] } w := by
    refine ⟨hI, fun t x hx => ?_, Marks.nil, .inl rfl, hsz, hfresh, fun _ h => h, fun _ h => .inl h, fun _ _ h => h⟩
    obtain ⟨j, c, h1, h2, h3⟩ := zipA_look hv 0 t x hx
    have : t = j := by omega
    subst this
    refine ⟨c, ?_, h3⟩
    have hlt := (List.getElem?_eq_some_iff.1 h2).1
    rw [Array.getElem?_append_left (by simpa using hlt)]
    simpa using h2
  have := awp_ok hcx hmix hrf (fun h => h) (fun _ h => h) hpin c _ _ g _ w h hr
  refine callsIn_wide.1 (callsIn_of_wp_marks (n := 0) hf hb trivial (wpIn_wide.2 (wp_mono this (fun e a w' hq => ?_))))
  have fin : ∀ e, (e = .normal ∨ e = .ret) → QOf fn.ntmps O w ⟨g, ∀ T x, ¬ Z T x⟩ (retK cx.tt fn.results.toList K) Z e a w' → LeavesInM Fence.wide 0 P fn a.tmps (fun
      | .returned d, w' => ∃ v st g', K v st ∧ Inv O w g' (hpOf st.hp) w' ∧ VRel g' w' v d ∧ (∀ b, g.S b → g'.S b) ∧ (∀ b, g'.S b → g.S b ∨ O b ∨ w.heap.size ≤ b) ∧ (∀ k c, g.m k = some c → g'.m k = some c)
      | .panicked ch, w' => Bad O w Z ch w'
      | .outgrown, _ => False) a.defers .returning w' := by
    intro e he hq
    have : ∃ g' st, retK cx.tt fn.results.toList K .normal st ∧ Rel fn.ntmps O w ⟨g, ∀ T x, ¬ Z T x⟩ g' st.fr (hpOf st.hp) st.nx a w' := by
      rcases he with rfl | rfl <;> exact hq
    obtain ⟨g', st, h1, h2⟩ := this
    simp only [retK] at h1
    split at h1
    · rename_i v hv'
      obtain ⟨Ds, hd1, hd2, hd3⟩ := h2.dn
      rw [hd1]
      refine marks_leave (O := O) (w0 := w) (g := g') (hp := hpOf st.hp) (J := fun w' => ∀ t x, look t st.fr = some x → ∃ c, a.tmps[t]? = some c ∧ VRel g' w' x c) (fun w1 w2 hn hj t x hx => ?_) (fun w1 hI1 hj => ?_) Ds w' hd2 hd3 h2.inv h2.fr
      · obtain ⟨c, k1, k2⟩ := hj t x hx
        exact ⟨c, k1, k2.nc hn⟩
      · obtain ⟨d, h3, h4⟩ := resA_ok (P := P) hcx.tt hI1 hv' hj
        exact ⟨d, h3, v, st, g', h1, hI1, h4, h2.sb, h2.sn, h2.pin⟩
    · exact h1.elim
  cases e with
  | normal => exact fin .normal (.inl rfl) hq
  | ret => exact fin .ret (.inr rfl) hq
  | panic ch =>
    obtain ⟨hd, hb⟩ := hq
    change LeavesInM _ _ _ _ _ _ a.defers _ _
    rw [hd]
    exact hb
  | outgrown => exact hq
  | exit id =>
    obtain ⟨g', st, h1, _⟩ := hq
    exact h1
  | goto l =>
    obtain ⟨g', st, h1, _⟩ := hq
    exact h1

/-- What comes out: the answer, and what it and the things below n0 lead to, numbered from n0 on. -/
def outC (n0 : Nat) (v : AV) (st : AS) : Option (AV × Pat) :=
  match st with
  | ⟨_, hp, _⟩ => match force (dedup (reach (hpOf hp) 6 (idsA v ++ upN n0)) (upN n0)) with
    | some idl => match renA (fun k => idxN k idl 0) v, heapL (hpOf hp) (fun k => idxN k idl 0) idl 0 with
      | some v, some q => some (v, q)
      | _, _ => none
    | none => none

abbrev LSpec := Nat → List AV → Pat → R (AV × Pat)

def backN (idl : List Nat) (nx : Nat) (i : Nat) : Option Nat :=
  match idl[i]? with
  | some k => some k
  | none => match Nat.blt (i - idl.length) 64 with
    | true => some (nx + (i - idl.length))
    | false => none
def renP (f : Nat → Option Nat) : Pat → Option Pat
  | [] => some []
  | (i, some ob) :: r => match f i, renOB f ob, renP f r with
    | some j, some ob, some r => some ((j, some ob) :: r)
    | _, _, _ => none
  | (i, none) :: r => renP f r
def nones : List Nat → Pat
  | [] => []
  | k :: l => (k, none) :: nones l

/-- What is said of a function on numbers of its own, said of any. -/
noncomputable def specOf (S : LSpec) : Spec := fun args hp nx =>
  match force (dedup (reach hp 4 (idsL args)) []) with
  | some idl => match renL (fun k => idxN k idl 0) args, heapL hp (fun k => idxN k idl 0) idl 0 with
    | some args, some p => (S idl.length args p).bind fun r => match r with
      | (v, q) => match renA (backN idl nx) v, renP (backN idl nx) q with
        | some v, some q => .ok (v, q ++ nones idl)
        | _, _ => .bad
    | _, _ => .bad
  | none => .bad

/-- A function's body does what is said of it. -/
def LocalOK (P : Program) (mk : Nat → Cx) (f : FuncId) (S : LSpec) : Prop :=
  ∃ fn c, P.funcs[f]? = some fn ∧ fn.body = some c ∧ ∀ (n0 : Nat) (args : List AV) (p : Pat) (K : AV × Pat → Prop) (Z : TypeId → AV → Prop), (S n0 args p).wp K Z →
    Nat.ble args.length fn.ntmps = true ∧ awp (mk n0) fn.ntmps Z c (retK (mk n0).tt fn.results.toList (fun v st => match outC n0 v st with
      | some r => K r
      | none => False)) ⟨zipA args 0, p, n0⟩

/-- The same, of a function that holds a range over a function: no panic is let out. -/
def LocalOKN (P : Program) (mk : Nat → Cx) (f : FuncId) (S : LSpec) : Prop :=
  ∃ fn c, P.funcs[f]? = some fn ∧ fn.body = some c ∧ ∀ (n0 : Nat) (args : List AV) (p : Pat) (K : AV × Pat → Prop) (Z : TypeId → AV → Prop), (S n0 args p).wp K Z →
    Nat.ble args.length fn.ntmps = true ∧ awp (mk n0) fn.ntmps (fun _ _ => False) c (retK (mk n0).tt fn.results.toList (fun v st => match outC n0 v st with
      | some r => K r
      | none => False)) ⟨zipA args 0, p, n0⟩
def LocalOKZ (P : Program) (mk : Nat → Cx) (f : FuncId) (S : LSpec) : Prop :=
  ∃ fn c, P.funcs[f]? = some fn ∧ fn.body = some c ∧ ∀ (n0 : Nat) (args : List AV) (p : Pat) (K : AV × Pat → Prop) (Z : TypeId → AV → Prop), (S n0 args p).wp K Z →
    Nat.ble args.length fn.ntmps = true ∧ ∃ Z' : TypeId → AV → Prop, (∀ T x, Z' T x → Z T x) ∧ awp (mk n0) fn.ntmps Z' c (retK (mk n0).tt fn.results.toList (fun v st => match outC n0 v st with
      | some r => K r
      | none => False)) ⟨zipA args 0, p, n0⟩
theorem LocalOK.z {mk : Nat → Cx} {f : FuncId} {S : LSpec} (h : LocalOK P mk f S) : LocalOKZ P mk f S := by
  obtain ⟨fn, c, h1, h2, h3⟩ := h
  exact ⟨fn, c, h1, h2, fun n0 args p K Z h => ⟨(h3 n0 args p K Z h).1, Z, fun _ _ h => h, (h3 n0 args p K Z h).2⟩⟩
theorem LocalOKN.z {mk : Nat → Cx} {f : FuncId} {S : LSpec} (h : LocalOKN P mk f S) : LocalOKZ P mk f S := by
  obtain ⟨fn, c, h1, h2, h3⟩ := h
  exact ⟨fn, c, h1, h2, fun n0 args p K Z h => ⟨(h3 n0 args p K Z h).1, fun _ _ => False, fun _ _ h => h.elim, (h3 n0 args p K Z h).2⟩⟩

theorem look_renP {f : Nat → Option Nat} : ∀ {q q' : Pat}, renP f q = some q' → ∀ j x, look j q' = some x → ∃ i ob ob', (i, some ob) ∈ q ∧ f i = some j ∧ renOB f ob = some ob' ∧ x = some ob'
  | [], q', h, j, x, hx => by simp only [renP, Option.some.injEq] at h; subst h; simp [look] at hx
  | (i, some ob) :: r, q', h, j, x, hx => by
    simp only [renP] at h
    split at h
    · rename_i j' ob' r' h1 h2 h3
      injection h with h; subst h
      simp only [look] at hx
      split at hx
      · rename_i hb
        have := beq_eq hb
        subst this
        injection hx with hx; subst hx
        exact ⟨i, ob, ob', by simp, h1, h2, rfl⟩
      · obtain ⟨i', ob1, ob2, k1, k2⟩ := look_renP h3 j x hx
        exact ⟨i', ob1, ob2, by simp [k1], k2⟩
    · cases h
  | (i, none) :: r, q', h, j, x, hx => by
    simp only [renP] at h
    obtain ⟨i', ob1, ob2, k1, k2⟩ := look_renP h j x hx
    exact ⟨i', ob1, ob2, by simp [k1], k2⟩

theorem look_nones : ∀ {l : List Nat} {k : Nat} {x : Option OB}, look k (nones l) = some x → x = none ∧ k ∈ l
  | [], k, x, h => by simp [nones, look] at h
  | i :: l, k, x, h => by
    simp only [nones, look] at h
    split at h
    · rename_i hb
      have := beq_eq hb
      subst this
      injection h with h
      exact ⟨h.symm, by simp⟩
    · obtain ⟨h1, h2⟩ := look_nones h
      exact ⟨h1, by simp [h2]⟩
theorem look_nones_mem : ∀ {l : List Nat} {k : Nat}, k ∈ l → look k (nones l) = some none
  | i :: l, k, h => by
    simp only [nones, look]
    split
    · rfl
    · rename_i hb
      rcases List.mem_cons.1 h with rfl | h
      · simp at hb
      · exact look_nones_mem h

mutual
theorem idsA_bound {g : G} {w : World} : ∀ {a : AV} {c : Value}, VRel g w a c → ∀ k ∈ idsA a, g.m k ≠ none
  | .v _, _, _, k, hk => by simp [idsA] at hk
  | .bv _ _, _, _, k, hk => by simp [idsA] at hk
  | .ro _ _, _, _, k, hk => by simp [idsA] at hk
  | .el _ _ _, _, _, k, hk => by simp [idsA] at hk
  | .own i, c, h, k, hk => by
    simp only [idsA, List.mem_singleton] at hk
    subst hk
    simp only [VRel] at h
    rw [h.1]; simp
  | .oel i _ _ _, c, h, k, hk => by
    simp only [idsA, List.mem_singleton] at hk
    subst hk
    simp only [VRel] at h
    obtain ⟨_, _, _, h, _⟩ := h
    rw [h]; simp
  | .ptr i _, c, h, k, hk => by
    simp only [idsA, List.mem_singleton] at hk
    subst hk
    simp only [VRel] at h
    obtain ⟨_, h, _⟩ := h
    rw [h]; simp
  | .mp i, c, h, k, hk => by
    simp only [idsA, List.mem_singleton] at hk
    subst hk
    simp only [VRel] at h
    rw [h.1]; simp
  | .clo _ l, c, h, k, hk => by
    simp only [VRel] at h
    obtain ⟨cs, h, _⟩ := h
    exact idsL_bound h k (by simpa [idsA] using hk)
  | .agg l, c, h, k, hk => by
    simp only [VRel] at h
    obtain ⟨cs, h, _⟩ := h
    exact idsL_bound h k (by simpa [idsA] using hk)
  | .tup l, c, h, k, hk => by
    simp only [VRel] at h
    obtain ⟨cs, h, _⟩ := h
    exact idsL_bound h k (by simpa [idsA] using hk)
  | .ifc _ x, c, h, k, hk => by
    simp only [VRel] at h
    obtain ⟨d, h, _⟩ := h
    exact idsA_bound h k (by simpa [idsA] using hk)
theorem idsL_bound {g : G} {w : World} : ∀ {l : List AV} {cs : List Value}, VRels g w l cs → ∀ k ∈ idsL l, g.m k ≠ none
  | [], _, _, k, hk => by simp [idsL] at hk
  | a :: l, cs, h, k, hk => by
    obtain ⟨c, r, rfl, h2, h3⟩ := VRels.cons.1 h
    rw [idsL_cons] at hk
    rcases List.mem_append.1 hk with hk | hk
    · exact idsA_bound h2 k hk
    · exact idsL_bound h3 k hk
end

theorem nextIds_bound {O : Nat → Prop} {w0 w : World} {g : G} {hp : Heap} (hI : Inv O w0 g hp w) : ∀ {l : List Nat}, ∀ k ∈ nextIds hp l, g.m k ≠ none
  | [], k, hk => by simp [nextIds] at hk
  | i :: l, k, hk => by
    simp only [nextIds] at hk
    rcases List.mem_append.1 hk with hk | hk
    · unfold obIds at hk
      split at hk
      · rename_i T cs h
        obtain ⟨c, _, b, cvs, _, _, h3⟩ := hI.sat i _ h
        exact idsL_bound h3 k hk
      · simp at hk
    · exact nextIds_bound hI k hk
theorem reach_bound {O : Nat → Prop} {w0 w : World} {g : G} {hp : Heap} (hI : Inv O w0 g hp w) : ∀ {n : Nat} {l : List Nat}, (∀ k ∈ l, g.m k ≠ none) → ∀ k ∈ reach hp n l, g.m k ≠ none
  | 0, l, h, k, hk => h k hk
  | n + 1, l, h, k, hk => by
    rw [reach_succ] at hk
    rcases List.mem_append.1 hk with hk | hk
    · exact h k hk
    · exact reach_bound hI (nextIds_bound hI) k hk
theorem dedup_mem : ∀ {l acc : List Nat} {k : Nat}, k ∈ dedup l acc → k ∈ l ∨ k ∈ acc
  | [], acc, k, h => .inr h
  | a :: l, acc, k, h => by
    simp only [dedup] at h
    split at h
    · rcases dedup_mem h with h | h
      · exact .inl (by simp [h])
      · exact .inr h
    · rcases dedup_mem h with h | h
      · exact .inl (by simp [h])
      · rcases List.mem_append.1 h with h | h
        · exact .inr h
        · exact .inl (by simp at h; simp [h])

theorem heapL_mem {hp : Heap} {f : Nat → Option Nat} : ∀ {l : List Nat} {b : Nat} {p : Pat}, heapL hp f l b = some p → ∀ i x, (i, x) ∈ p → b ≤ i ∧ look i p = some x
  | [], b, p, h, i, x, hx => by simp only [heapL, Option.some.injEq] at h; subst h; simp at hx
  | k :: l, b, p, h, i, x, hx => by
    simp only [heapL] at h
    split at h
    · rename_i r _ _ hr
      injection h with h; subst h
      obtain ⟨h1, h2⟩ := heapL_mem hr i x hx
      exact ⟨by omega, h2⟩
    · rename_i ob j r hk hf hr
      split at h
      · rename_i hb
        have := beq_eq hb
        subst this
        split at h
        · rename_i ob' hob
          injection h with h; subst h
          rcases List.mem_cons.1 hx with hx | hx
          · injection hx with e1 e2
            subst e1 e2
            refine ⟨Nat.le_refl _, ?_⟩
            have : Nat.beq i i = true := by simp
            simp only [look, this]
          · obtain ⟨h1, h2⟩ := heapL_mem hr i x hx
            refine ⟨by omega, ?_⟩
            simp only [look, beq_ne (show j ≠ i by omega)]
            exact h2
        · cases h
      · injection h with h; subst h
        obtain ⟨h1, h2⟩ := heapL_mem hr i x hx
        exact ⟨by omega, h2⟩
    · cases h

theorem backN_ok {idl : List Nat} {nx i j : Nat} (h : backN idl nx i = some j) : idl[i]? = some j ∨ (idl.length ≤ i ∧ j = nx + (i - idl.length) ∧ i - idl.length < 64) := by
  unfold backN at h
  split at h
  · rename_i k hk
    injection h with h; subst h
    exact .inl hk
  · rename_i hn
    split at h
    · rename_i hb
      injection h with h; subst h
      refine .inr ⟨?_, rfl, ?_⟩
      · rcases Nat.lt_or_ge i idl.length with h1 | h1
        · rw [List.getElem?_eq_getElem h1] at hn; cases hn
        · exact h1
      · simp [Nat.blt] at hb; omega
    · cases h

theorem specOf_ok {mk : Nat → Cx} {f : FuncId} {S : LSpec} (hL : LocalOKZ P mk f S) (hcx : ∀ n0, CxOK P (mk n0)) (hrf : ∀ fn, P.funcs[f]? = some fn → ∀ n0 c S, (mk n0).rf = some (c, S) → RfOK P fn.ntmps c S) (hpin : ∀ n0, (mk n0).pin = n0) (hmix : P.follows .mixedOrders = true) : SpecOK P f (specOf S) := by
  obtain ⟨fn, c, hf, hb, hloc⟩ := hL
  intro O w0 w g hp nx args cargs K Z hI hfr hv h
  unfold specOf at h
  rw [force_eq] at h
  simp only at h
  have hidl : ∀ k ∈ dedup (reach hp 4 (idsL args)) [], g.m k ≠ none := fun k hk => by
    rcases dedup_mem hk with hk | hk
    · exact reach_bound hI (idsL_bound hv) k hk
    · simp at hk
  generalize dedup (reach hp 4 (idsL args)) [] = idl at h hidl
  split at h
  · rename_i args' p hargs hp'
    obtain ⟨f1, f2, f3⟩ := frame_sub (nx := nx) hI (only_sub idl hp)
    have h := R.wp_bind h
    obtain ⟨hlen, Z', hZ', haw⟩ := hloc idl.length args' p _ _ h
    -- the things, under numbers of the callee's own
    let g1 : G := { m := fun i => (idl[i]?).bind g.m, S := g.S, β := fun _ => none }
    have hf1 : ∀ k i, idxN k idl 0 = some i → ∀ c, g.m k = some c → g1.m i = some c := fun k i hi c hc => by
      obtain ⟨j, h1, h2⟩ := idxN_ok hi
      have : i = j := by omega
      subst this
      simp only [g1, h2, Option.bind_some]; exact hc
    have hI1 : Inv (ownBy g (only idl hp)) w g1 (hpOf p) w := by
      refine ren_inv f1 hf1 rfl (fun i ob' hi => ?_)
      simp only [hpOf, patch] at hi
      split at hi
      · rename_i x hx
        obtain ⟨k, ob, ob2, h1, h2, h3, h4⟩ := heapL_ok hp' i x hx
        rw [h1] at hi; injection hi with hi; subst hi
        obtain ⟨j, _, h5⟩ := idxN_ok h2
        have hk : memN k idl = true := memN_iff.2 (List.mem_of_getElem? h5)
        exact ⟨k, ob, h2, by simp only [only, hk]; exact h3, h4⟩
      · cases hi
    have hv1 : VRels g1 w args' cargs := renL_ok hf1 (fun _ h => h) hargs hv
    have hfresh1 : ∀ k, (mk idl.length).pin ≤ k → g1.m k = none ∧ g1.β k = none := fun k hk => by
      rw [hpin] at hk
      simp only [g1, List.getElem?_eq_none hk, Option.bind_none, and_self]
    have hcall := calls_awp (hcx idl.length) hmix (hrf fn hf idl.length) hf hb hI1 hfresh1 hv1 (Nat.le_of_ble_eq_true hlen) (by rw [hpin]; exact haw)
    refine hcall.mono (fun e w' he => ?_)
    cases e with
    | panicked ch =>
      obtain ⟨T, x, v, g', h1, h2, h3, h4⟩ := he
      exact ⟨T, x, v, g', hZ' T x h1, h2, h3, f2 w' h4⟩
    | outgrown => exact he
    | returned d =>
      obtain ⟨v, st, g2, hK, hI2, hv2, hS1, hS2, hm2⟩ := he
      split at hK
      · rename_i r hr
        obtain ⟨fr, hp2, nx2⟩ := st
        simp only [outC] at hr
        rw [force_eq] at hr
        simp only at hr
        have hpre : ∀ i, i < idl.length → (dedup (reach (hpOf hp2) 6 (idsA v ++ upN idl.length)) (upN idl.length))[i]? = some i := fun i hi => dedup_pre (upN_get hi)
        generalize dedup (reach (hpOf hp2) 6 (idsA v ++ upN idl.length)) (upN idl.length) = idl2 at hr hpre
        split at hr
        · rename_i v' q hv' hq
          injection hr with hr; subst hr
          simp only at hK
          split at hK
          · rename_i v'' q' hv'' hq'
            let g3 : G := { m := fun i => (idl2[i]?).bind g2.m, S := g2.S, β := fun _ => none }
            have hf3 : ∀ k i, idxN k idl2 0 = some i → ∀ c, g2.m k = some c → g3.m i = some c := fun k i hi c hc => by
              obtain ⟨j, h1, h2⟩ := idxN_ok hi
              have : i = j := by omega
              subst this
              simp only [g3, h2, Option.bind_some]; exact hc
            have hI3 : Inv (ownBy g (only idl hp)) w g3 (hpOf q) w' := by
              refine ren_inv hI2 hf3 rfl (fun i ob' hi => ?_)
              simp only [hpOf, patch] at hi
              split at hi
              · rename_i x hx
                obtain ⟨k, ob, ob2, h1, h2, h3, h4⟩ := heapL_ok hq i x hx
                rw [h1] at hi; injection hi with hi; subst hi
                exact ⟨k, ob, h2, h3, h4⟩
              · cases hi
            have hv3 : VRel g3 w' v' d := renA_ok hf3 (fun _ h => h) hv' hv2
            let g4 : G := { m := fun k => match g.m k with
              | some c => some c
              | none => if nx ≤ k ∧ k < nx + 64 then g3.m (idl.length + (k - nx)) else none, S := g2.S, β := g.β }
            have hf4 : ∀ i j, backN idl nx i = some j → ∀ c, g3.m i = some c → g4.m j = some c := fun i j hij c hc => by
              rcases backN_ok hij with h1 | ⟨h1, h2, h3⟩
              · have hi : i < idl.length := (List.getElem?_eq_some_iff.1 h1).1
                have hb := hidl j (List.mem_of_getElem? h1)
                cases e : g.m j with
                | none => exact absurd e hb
                | some c0 =>
                  have : g1.m i = some c0 := by simp only [g1, h1, Option.bind_some]; exact e
                  have h4 := hm2 i c0 this
                  simp only [g3, hpre i hi, Option.bind_some] at hc
                  rw [h4] at hc
                  simp only [g4, e]; exact hc
              · subst h2
                have hn := (hfr (nx + (i - idl.length)) (by omega) (by omega)).1
                simp only [g4, hn]
                rw [if_pos ⟨by omega, by omega⟩, show idl.length + (nx + (i - idl.length) - nx) = i by omega]
                exact hc
            have hle : g.le g4 := ⟨fun k c hk => by simp only [g4, hk], fun b hb => hS1 b hb, fun _ _ h => h⟩
            have hnew : NewIn (ownBy g (only idl hp)) w g g4 nx := ⟨fun k hk => by
                simp only [g4] at hk
                cases e : g.m k with
                | some c => exact .inl (by simp)
                | none =>
                  rw [e] at hk
                  simp only at hk
                  split at hk
                  · rename_i hr; exact .inr hr
                  · exact absurd rfl hk, fun k hk => .inl hk, hS2⟩
            have hI4 : Inv (ownBy g (only idl hp)) w g4 (hpOf q') w' := by
              refine ren_inv hI3 hf4 rfl (fun j ob' hj => ?_)
              simp only [hpOf, patch] at hj
              split at hj
              · rename_i x hx
                obtain ⟨i, ob, ob2, h1, h2, h3, h4⟩ := look_renP hq' j x hx
                rw [h4] at hj; injection hj with hj; subst hj
                have := (heapL_mem hq i _ h1).2
                exact ⟨i, ob, h2, by simp only [hpOf, patch, this], h3⟩
              · cases hj
            have heq : patch (q' ++ nones idl) (only idl hp) = hpOf q' := by
              funext k
              rw [patch_append]
              simp only [patch, hpOf]
              cases look k q' with
              | some x => rfl
              | none =>
                simp only
                by_cases hk : k ∈ idl
                · rw [look_nones_mem hk]
                · have : look k (nones idl) = none := by
                    cases e : look k (nones idl) with
                    | none => rfl
                    | some x => exact absurd (look_nones e).2 hk
                  rw [this]
                  have hm : memN k idl = false := by
                    cases e : memN k idl with
                    | false => rfl
                    | true => exact absurd (memN_iff.1 e) hk
                  simp only [only, hm]
            have hst : Stay g.S w w' := fun b hb => by
              refine hI2.frame b (hI.stab b hb) (fun hob => ?_)
              obtain ⟨k, c, h1, h2, h3⟩ := hob
              exact f1.apart k c b h1 h2 h3 hb
            obtain ⟨h8, h9⟩ := f3 (q' ++ nones idl) g4 w' hle hnew (by rw [heq]; exact hI4) hst
            exact ⟨v'', q' ++ nones idl, g4, hK, hle, h9, rfl, h8, hst, renA_ok hf4 (fun _ h => h) hv'' hv3⟩
          · exact hK.elim
        · cases hr
      · exact hK.elim
  · exact h.elim
end
end Go.Proofs.Ytmkbigaofhionaa
