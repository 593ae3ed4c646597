/- Regions that draw their order: the answers hang on no order; no program. -/
import Derived.Test.YtmkbigaofhionaaAbsL
namespace Go.Proofs.Ytmkbigaofhionaa
open Go.RowKit
set_option linter.unusedVariables false
set_option linter.unusedSimpArgs false

structure Fp where
  rT : List Nat
  wT : List Nat
  rH : List Nat
  wH : List Nat

def inter (a b : List Nat) : Bool := a.any fun k => memN k b
def conf (a b : Fp) : Bool := inter a.wT b.rT || inter a.wT b.wT || inter b.wT a.rT || inter a.wH b.rH || inter a.wH b.wH || inter b.wH a.rH

def preds (o : Oper) : List Nat := (o.after.toList.filter (Region.binds .any)).map (·.on)
def maskOf (ms : List Nat) (o : Oper) : Nat := (preds o).foldl (fun s e => s ||| 2 ^ e ||| ms.getD e 0) 0
def masksOf : List Oper → List Nat → List Nat
  | [], ms => ms
  | o :: r, ms => masksOf r (ms ++ [maskOf ms o])
def ahead (ms : List Nat) (i j : Nat) : Bool := Nat.testBit (ms.getD j 0) i

def opTmps (o : Oper) : List Nat := o.op.operands.toList.filterMap fun x => match x with
  | .tmp t => some t
  | _ => none
def gdTmps (ops : List Oper) (o : Oper) : List Nat := match o.guard with
  | some (g, _) => match (ops[g]?).bind (·.dst) with
    | some t => [t]
    | none => []
  | none => []
def dsts (o : Oper) : List Nat := match o.dst with
  | some d => [d]
  | none => []
def keysP (p : Pat) : List Nat := p.map (·.1)
def fpOf (cx : Cx) (ops : List Oper) (o : Oper) (fr : Fra) (hp : Heap) (p : Pat) : Fp :=
  ⟨gdTmps ops o ++ opTmps o, dsts o, foot cx (evOf fr) hp o.op, keysP p⟩

/-- Those that meet in a place stand in an order. -/
def chk (ms : List Nat) (fps : List Fp) : Bool :=
  (List.range fps.length).all fun j => (List.range j).all fun i => match fps[i]?, fps[j]? with
    | some a, some b => !conf a b || ahead ms i j
    | _, _ => true
/-- Nothing stands ahead of what it waits for; no select. -/
def ordOk (ops : List Oper) : Bool := (List.range ops.length).all fun j => match ops[j]? with
  | some o => (preds o).all (fun e => Nat.blt e j)
  | none => true
def allAfter (ms : List Nat) (n i : Nat) : Bool := (List.range n).all fun j => Nat.ble j i || ahead ms i j

/-- A truth is known: whatever bears its number is that truth. -/
noncomputable def setN (k : Nat) (v : Bool) : Fra → R Fra
  | [] => .ok []
  | (t, a) :: r => match a with
    | .bv j x => match Nat.beq j k with
      | true => .need (x = v) ((setN k v r).bind fun r => .ok ((t, .v (.bool v)) :: r))
      | false => (setN k v r).bind fun r => .ok ((t, .bv j x) :: r)
    | a => (setN k v r).bind fun r => .ok ((t, a) :: r)

noncomputable def guardD (ops : List Oper) (o : Oper) (fr : Fra) : R (Bool × Fra) :=
  match o.guard with
  | none => .ok (true, fr)
  | some (j, want) => match (ops[j]?).bind (·.dst) with
    | some t => match look t fr with
      | some (.v (.bool b)) => match want with
        | true => .br b (.ok (true, fr)) (.ok (false, fr))
        | false => .br b (.ok (false, fr)) (.ok (true, fr))
      | some (.bv k b) => match want with
        | true => .br b ((setN k true fr).bind fun fr => .ok (true, fr)) ((setN k false fr).bind fun fr => .ok (false, fr))
        | false => .br b ((setN k true fr).bind fun fr => .ok (false, fr)) ((setN k false fr).bind fun fr => .ok (true, fr))
      | some (.v (.tuple _)) => .ok (false, fr)
      | _ => .bad
    | none => .bad

noncomputable def onStop {α : Type} (p : Prop) : R α → R α
  | .ok a => .ok a
  | .need q r => .need q (onStop p r)
  | .fact q r => .need q (onStop p r)
  | .br b x y => .br b (onStop p x) (onStop p y)
  | .stop T x => .need p (.stop T x)
  | .bad => .bad

def forceFp (f : Fp) : Option Fp := match force f.rT, force f.wT, force f.rH, force f.wH with
  | some a, some b, some c, some d => some ⟨a, b, c, d⟩
  | _, _, _, _ => none

/-- One behind the other, whatever the order: what they name is kept. -/
noncomputable def runD (cx : Cx) (n : Nat) (ops : List Oper) (ms : List Nat) : Nat → List Oper → Nat → Fra → Pat → List Fp → R AS
  | _, [], nx, fr, hp, fps => .need (chk ms fps = true) (.ok ⟨fr, hp, nx⟩)
  | i, o :: r, nx, fr, hp, fps => (guardD ops o fr).bind fun q => match q with
    | (true, fr) => (onStop (chk ms (fps ++ [fpOf cx ops o fr (hpOf hp) []]) = true ∧ allAfter ms ops.length i = true) (stepA cx nx (evOf fr) (hpOf hp) o.op)).bind fun q => match q with
      | (a, p) => opt (putF n o.dst a fr) fun fr2 => opt (force (p ++ hp)) fun hp2 => opt (forceFp (fpOf cx ops o fr (hpOf hp) p)) fun f => runD cx n ops ms (i + 1) r (nx + 64) fr2 hp2 (fps ++ [f])
    | (false, fr) => opt (putF n o.dst (.v undef) fr) fun fr2 => opt (forceFp (fpOf cx ops o fr (hpOf hp) [])) fun f => runD cx n ops ms (i + 1) r (nx + 64) fr2 hp (fps ++ [f])

theorem forceFp_eq (f : Fp) : forceFp f = some f := by simp only [forceFp, force_eq]

theorem wp_cases {α : Type} {K : α → Prop} {Z : TypeId → AV → Prop} : ∀ {r : R α}, r.wp K Z → (∃ a, K a ∧ r.wp (· = a) (fun _ _ => False)) ∨ r.wp (fun _ => False) Z
  | .ok a, h => .inl ⟨a, h, rfl⟩
  | .need p r, h => by
    rcases wp_cases (r := r) h.2 with ⟨a, h1, h2⟩ | h1
    · exact .inl ⟨a, h1, h.1, h2⟩
    · exact .inr ⟨h.1, h1⟩
  | .fact p r, h => by
    by_cases hp : p
    · rcases wp_cases (r := r) (h hp) with ⟨a, h1, h2⟩ | h1
      · exact .inl ⟨a, h1, fun _ => h2⟩
      · exact .inr (fun _ => h1)
    · exact .inr (fun h => absurd h hp)
  | .br b x y, h => by
    cases b
    · rcases wp_cases (r := y) (h.2 rfl) with ⟨a, h1, h2⟩ | h1
      · exact .inl ⟨a, h1, by simp, fun _ => h2⟩
      · exact .inr ⟨by simp, fun _ => h1⟩
    · rcases wp_cases (r := x) (h.1 rfl) with ⟨a, h1, h2⟩ | h1
      · exact .inl ⟨a, h1, fun _ => h2, by simp⟩
      · exact .inr ⟨fun _ => h1, by simp⟩
  | .stop T x, h => .inr h
  | .bad, h => h.elim
theorem onStop_cases {α : Type} {p : Prop} {K : α → Prop} {Z : TypeId → AV → Prop} : ∀ {r : R α}, (onStop p r).wp K Z → (∃ a, K a ∧ r.wp (· = a) (fun _ _ => False)) ∨ (p ∧ r.wp (fun _ => False) Z)
  | .ok a, h => .inl ⟨a, h, rfl⟩
  | .need q r, h => by
    rcases onStop_cases (r := r) h.2 with ⟨a, h1, h2⟩ | ⟨h0, h1⟩
    · exact .inl ⟨a, h1, h.1, h2⟩
    · exact .inr ⟨h0, h.1, h1⟩
  | .fact q r, h => by
    rcases onStop_cases (r := r) h.2 with ⟨a, h1, h2⟩ | ⟨h0, h1⟩
    · exact .inl ⟨a, h1, fun _ => h2⟩
    · exact .inr ⟨h0, fun _ => h1⟩
  | .br b x y, h => by
    cases b
    · rcases onStop_cases (r := y) (h.2 rfl) with ⟨a, h1, h2⟩ | ⟨h0, h1⟩
      · exact .inl ⟨a, h1, by simp, fun _ => h2⟩
      · exact .inr ⟨h0, by simp, fun _ => h1⟩
    · rcases onStop_cases (r := x) (h.1 rfl) with ⟨a, h1, h2⟩ | ⟨h0, h1⟩
      · exact .inl ⟨a, h1, fun _ => h2, by simp⟩
      · exact .inr ⟨h0, fun _ => h1, by simp⟩
  | .stop T x, h => .inr ⟨h.1, h.2⟩
  | .bad, h => h.elim

/-- A value says no less than another one, whatever it stands for. -/
def Says (y x : AV) : Prop := ∀ g w c, VRel g w y c → VRel g w x c
def Tells (f : Nat → Option AV) (fr : Fra) : Prop := ∀ t x, look t fr = some x → ∃ y, f t = some y ∧ Says y x

theorem Says.refl (x : AV) : Says x x := fun _ _ _ h => h
theorem Tells.refl (fr : Fra) : Tells (fun t => look t fr) fr := fun t x h => ⟨x, h, Says.refl x⟩

theorem setN_ok {k : Nat} {v : Bool} {K : Fra → Prop} {Z : TypeId → AV → Prop} : ∀ {fr : Fra}, (setN k v fr).wp K Z → ∃ fr', K fr' ∧ Tells (fun t => look t fr) fr'
  | [], h => ⟨[], h, Tells.refl _⟩
  | (t, a) :: r, h => by
    have key : ∀ (a' : AV), Says a a' → ((setN k v r).bind fun r => .ok ((t, a') :: r)).wp K Z → ∃ fr', K fr' ∧ Tells (fun i => look i ((t, a) :: r)) fr' := fun a' ha h => by
      obtain ⟨fr', h1, h2⟩ := setN_ok (R.wp_bind h)
      refine ⟨_, h1, fun i x hx => ?_⟩
      simp only [look] at hx ⊢
      split at hx
      · injection hx with hx; subst hx
        exact ⟨a, rfl, ha⟩
      · exact h2 i x hx
    unfold setN at h
    cases a with
    | bv j x =>
      simp only at h
      split at h
      · refine key _ (fun g w c hc => ?_) h.2
        simp only [VRel] at hc ⊢
        rw [hc.1, h.1]
      · exact key _ (Says.refl _) h
    | _ => exact key _ (Says.refl _) h

/-- A guard asked: for the value that the frame holds. -/
theorem guardD_ok {ops : List Oper} {o : Oper} {fr : Fra} {K : Bool × Fra → Prop} {Z : TypeId → AV → Prop} (h : (guardD ops o fr).wp K Z) :
    ∃ ran fr', K (ran, fr') ∧ Tells (fun t => look t fr) fr' ∧ ∀ (g : G) (w : World) (a : Act), (∀ t ∈ gdTmps ops o, ∀ x, look t fr = some x → ∃ c, a.tmps[t]? = some c ∧ VRel g w x c) → Region.wanted o (yielded ops.toArray a.tmps) = ran := by
  unfold guardD at h
  split at h
  · rename_i hgd
    exact ⟨true, fr, h, Tells.refl _, fun g w a _ => by simp [Region.wanted, hgd]⟩
  · rename_i j want hgd
    split at h
    · rename_i t ht
      have hmem : t ∈ gdTmps ops o := by simp [gdTmps, hgd, ht]
      have hw : ∀ (a : Act) (c : Value), a.tmps[t]? = some c → Region.wanted o (yielded ops.toArray a.tmps) = ((match c with | .bool b => some b | _ => none) == some want) := fun a c hc => by
        simp only [Region.wanted, hgd]
        unfold yielded
        have : (ops.toArray[j]?).bind (·.dst) = some t := by simpa using ht
        rw [this]
        simp only [Option.bind_some, hc]
        cases c <;> rfl
      split at h
      · rename_i b hl
        have hv : ∀ (g : G) (w : World) (a : Act), (∀ t ∈ gdTmps ops o, ∀ x, look t fr = some x → ∃ c, a.tmps[t]? = some c ∧ VRel g w x c) → Region.wanted o (yielded ops.toArray a.tmps) = (some b == some want) := fun g w a hg => by
          obtain ⟨c, hc, hv⟩ := hg t hmem _ hl
          rw [VRel.v_iff] at hv; subst hv
          exact hw a _ hc
        split at h
        · cases b
          · exact ⟨_, _, h.2 rfl, Tells.refl _, hv⟩
          · exact ⟨_, _, h.1 rfl, Tells.refl _, hv⟩
        · cases b
          · exact ⟨_, _, h.2 rfl, Tells.refl _, hv⟩
          · exact ⟨_, _, h.1 rfl, Tells.refl _, hv⟩
      · rename_i k b hl
        have hv : ∀ (g : G) (w : World) (a : Act), (∀ t ∈ gdTmps ops o, ∀ x, look t fr = some x → ∃ c, a.tmps[t]? = some c ∧ VRel g w x c) → Region.wanted o (yielded ops.toArray a.tmps) = (some b == some want) := fun g w a hg => by
          obtain ⟨c, hc, hv⟩ := hg t hmem _ hl
          simp only [VRel] at hv
          rw [hv.1] at hc
          exact hw a _ hc
        split at h
        · cases b
          · obtain ⟨fr', h1, h2⟩ := setN_ok (R.wp_bind (h.2 rfl))
            exact ⟨_, _, h1, h2, hv⟩
          · obtain ⟨fr', h1, h2⟩ := setN_ok (R.wp_bind (h.1 rfl))
            exact ⟨_, _, h1, h2, hv⟩
        · cases b
          · obtain ⟨fr', h1, h2⟩ := setN_ok (R.wp_bind (h.2 rfl))
            exact ⟨_, _, h1, h2, hv⟩
          · obtain ⟨fr', h1, h2⟩ := setN_ok (R.wp_bind (h.1 rfl))
            exact ⟨_, _, h1, h2, hv⟩
      · rename_i vs hl
        refine ⟨false, fr, h, Tells.refl _, fun g w a hg => ?_⟩
        obtain ⟨c, hc, hv⟩ := hg t hmem _ hl
        rw [VRel.v_iff] at hv; subst hv
        exact hw a _ hc
      · exact h.elim
    · exact h.elim

/-- One operation of a run, as it was made. -/
structure Step where
  o : Oper
  fr : Fra
  fr' : Fra
  hp : Pat
  ran : Bool
  out : AV
  p : Pat

/-- Frames and heaps, from the answers of those of D. -/
def FD (ts : List Step) (D : Nat → Bool) (f : Nat → Option AV) : Nat → Nat → Option AV
  | 0 => f
  | j + 1 => match ts[j]?, D j with
    | some t, true => updF t.o.dst t.out (FD ts D f j)
    | _, _ => FD ts D f j
def HD (ts : List Step) (D : Nat → Bool) (h : Heap) : Nat → Heap
  | 0 => h
  | j + 1 => match ts[j]?, D j with
    | some t, true => patch t.p (HD ts D h j)
    | _, _ => HD ts D h j
def every : Nat → Bool := fun _ => true

def stepFp (cx : Cx) (ops : List Oper) (t : Step) : Fp := fpOf cx ops t.o t.fr' (hpOf t.hp) t.p

/-- A run, as it was made. -/
structure Made (cx : Cx) (n : Nat) (ops : List Oper) (nx0 : Nat) (f0 : Nat → Option AV) (h0 : Heap) (ts : List Step) : Prop where
  op : ∀ (i : Nat) (t : Step), ts[i]? = some t → ops[i]? = some t.o
  gd : ∀ (i : Nat) (t : Step), ts[i]? = some t → ∀ (g : G) (w : World) (a : Act), (∀ s ∈ gdTmps ops t.o, ∀ x, look s t.fr = some x → ∃ c, a.tmps[s]? = some c ∧ VRel g w x c) → Region.wanted t.o (yielded ops.toArray a.tmps) = t.ran
  one : ∀ (i : Nat) (t : Step), ts[i]? = some t → t.ran = true → (stepA cx (nx0 + 64 * i) (evOf t.fr') (hpOf t.hp) t.o.op).wp (· = (t.out, t.p)) (fun _ _ => False)
  no : ∀ (i : Nat) (t : Step), ts[i]? = some t → t.ran = false → t.out = .v undef ∧ t.p = []
  dst : ∀ (i : Nat) (t : Step), ts[i]? = some t → ∀ d, t.o.dst = some d → d < n
  frame : ∀ (i : Nat) (t : Step), ts[i]? = some t → Tells (FD ts every f0 i) t.fr ∧ Tells (FD ts every f0 i) t.fr'
  heap : ∀ (i : Nat) (t : Step), ts[i]? = some t → hpOf t.hp = HD ts every h0 i

theorem FD_append {ts us : List Step} {D : Nat → Bool} {f : Nat → Option AV} : ∀ {i : Nat}, i ≤ ts.length → FD (ts ++ us) D f i = FD ts D f i
  | 0, _ => rfl
  | i + 1, h => by
    simp only [FD, List.getElem?_append_left (show i < ts.length by omega)]
    rw [FD_append (by omega)]
theorem HD_append {ts us : List Step} {D : Nat → Bool} {f : Heap} : ∀ {i : Nat}, i ≤ ts.length → HD (ts ++ us) D f i = HD ts D f i
  | 0, _ => rfl
  | i + 1, h => by
    simp only [HD, List.getElem?_append_left (show i < ts.length by omega)]
    rw [HD_append (by omega)]

theorem Tells.trans {f : Nat → Option AV} {fr fr' : Fra} (h : Tells f fr) (k : Tells (fun t => look t fr) fr') : Tells f fr' := fun t x hx => by
  obtain ⟨y, h1, h2⟩ := k t x hx
  obtain ⟨z, h3, h4⟩ := h t y h1
  exact ⟨z, h3, fun g w c hc => h2 g w c (h4 g w c hc)⟩
theorem Tells.put {f : Nat → Option AV} {fr fr2 : Fra} {n : Nat} {d : Option Nat} {x : AV} (h : Tells f fr) (hp : putF n d x fr = some fr2) : Tells (updF d x f) fr2 := fun t y hy => by
  rw [(putF_look hp).1] at hy
  cases d with
  | none => exact h t y hy
  | some d =>
    simp only [updF] at hy ⊢
    split at hy
    · rename_i e
      rw [if_pos e]
      injection hy with hy; subst hy
      exact ⟨x, rfl, Says.refl x⟩
    · rename_i e
      rw [if_neg e]
      exact h t y hy

theorem getElem?_snoc {α : Type} {ts : List α} {s : α} {i : Nat} {t : α} (h : (ts ++ [s])[i]? = some t) : ts[i]? = some t ∧ i < ts.length ∨ (i = ts.length ∧ t = s) := by
  rw [List.getElem?_append] at h
  split at h
  · rename_i hlt; exact .inl ⟨h, hlt⟩
  · rename_i hge
    cases e : i - ts.length with
    | zero => rw [e] at h; simp at h; exact .inr ⟨by omega, h.symm⟩
    | succ k => rw [e] at h; simp at h

theorem Made.snoc {cx : Cx} {n : Nat} {ops : List Oper} {nx0 : Nat} {f0 : Nat → Option AV} {h0 : Heap} {ts : List Step} (m : Made cx n ops nx0 f0 h0 ts) {s : Step}
    (op : ops[ts.length]? = some s.o)
    (gd : ∀ (g : G) (w : World) (a : Act), (∀ q ∈ gdTmps ops s.o, ∀ x, look q s.fr = some x → ∃ c, a.tmps[q]? = some c ∧ VRel g w x c) → Region.wanted s.o (yielded ops.toArray a.tmps) = s.ran)
    (one : s.ran = true → (stepA cx (nx0 + 64 * ts.length) (evOf s.fr') (hpOf s.hp) s.o.op).wp (· = (s.out, s.p)) (fun _ _ => False))
    (no : s.ran = false → s.out = .v undef ∧ s.p = []) (dst : ∀ d, s.o.dst = some d → d < n)
    (frame : Tells (FD ts every f0 ts.length) s.fr ∧ Tells (FD ts every f0 ts.length) s.fr') (heap : hpOf s.hp = HD ts every h0 ts.length) : Made cx n ops nx0 f0 h0 (ts ++ [s]) := by
  refine ⟨fun i t ht => ?_, fun i t ht => ?_, fun i t ht => ?_, fun i t ht => ?_, fun i t ht => ?_, fun i t ht => ?_, fun i t ht => ?_⟩ <;> rcases getElem?_snoc ht with ⟨h, hlt⟩ | ⟨rfl, rfl⟩
  · exact m.op i t h
  · exact op
  · exact m.gd i t h
  · exact gd
  · exact m.one i t h
  · exact one
  · exact m.no i t h
  · exact no
  · exact m.dst i t h
  · exact dst
  · rw [FD_append (by omega)]; exact m.frame i t h
  · rw [FD_append (Nat.le_refl _)]; exact frame
  · rw [HD_append (by omega)]; exact m.heap i t h
  · rw [HD_append (Nat.le_refl _)]; exact heap

/-- How a run ends. -/
def Ends (cx : Cx) (n : Nat) (ops : List Oper) (ms : List Nat) (nx0 : Nat) (f0 : Nat → Option AV) (h0 : Heap) (K : AS → Prop) (Z : TypeId → AV → Prop) (ts : List Step) : Prop :=
  (ts.length = ops.length ∧ chk ms (ts.map (stepFp cx ops)) = true ∧ ∃ st, K st ∧ Tells (FD ts every f0 ops.length) st.fr ∧ hpOf st.hp = HD ts every h0 ops.length ∧ st.nx = nx0 + 64 * ops.length) ∨
  (∃ o fr fr' hp, ops[ts.length]? = some o ∧ (∀ (g : G) (w : World) (a : Act), (∀ q ∈ gdTmps ops o, ∀ x, look q fr = some x → ∃ c, a.tmps[q]? = some c ∧ VRel g w x c) → Region.wanted o (yielded ops.toArray a.tmps) = true) ∧
    Tells (FD ts every f0 ts.length) fr ∧ Tells (FD ts every f0 ts.length) fr' ∧ hpOf hp = HD ts every h0 ts.length ∧
    (stepA cx (nx0 + 64 * ts.length) (evOf fr') (hpOf hp) o.op).wp (fun _ => False) Z ∧ chk ms (ts.map (stepFp cx ops) ++ [fpOf cx ops o fr' (hpOf hp) []]) = true ∧ allAfter ms ops.length ts.length = true)

theorem runD_made {cx : Cx} {n : Nat} {ops : List Oper} {ms : List Nat} {nx0 : Nat} {f0 : Nat → Option AV} {h0 : Heap} {K : AS → Prop} {Z : TypeId → AV → Prop} :
    ∀ (l : List Oper) (i nx : Nat) (fr : Fra) (hp : Pat) (ts : List Step), (runD cx n ops ms i l nx fr hp (ts.map (stepFp cx ops))).wp K Z → Made cx n ops nx0 f0 h0 ts → ts.length = i → nx = nx0 + 64 * i → (∀ j, l[j]? = ops[i + j]?) →
      Tells (FD ts every f0 i) fr → hpOf hp = HD ts every h0 i → ∃ ts', Made cx n ops nx0 f0 h0 ts' ∧ Ends cx n ops ms nx0 f0 h0 K Z ts'
  | [], i, nx, fr, hp, ts, h, m, hi, hnx, hl, hfr, hhp => by
    have hlen : i = ops.length := by
      have h1 := hl 0
      simp at h1
      have : i ≤ ops.length := by
        rcases Nat.eq_zero_or_pos i with h3 | h3
        · omega
        · have h4 : i - 1 < ts.length := by omega
          have := m.op (i - 1) _ (List.getElem?_eq_getElem h4)
          have := (List.getElem?_eq_some_iff.1 this).1
          omega
      omega
    subst hlen
    exact ⟨ts, m, .inl ⟨hi, h.1, ⟨fr, hp, nx⟩, h.2, hfr, hhp, hnx⟩⟩
  | o :: r, i, nx, fr, hp, ts, h, m, hi, hnx, hl, hfr, hhp => by
    subst hi
    have hop : ops[ts.length]? = some o := by have := hl 0; simpa using this.symm
    have hl' : ∀ j, r[j]? = ops[ts.length + 1 + j]? := fun j => by have := hl (j + 1); simpa [Nat.add_assoc, Nat.add_comm 1 j] using this
    simp only [runD] at h
    obtain ⟨ran, fr', h1, h2, h3⟩ := guardD_ok (R.wp_bind h)
    have hfr' := hfr.trans h2
    cases ran with
    | true =>
      rcases onStop_cases (R.wp_bind h1) with ⟨⟨a, p⟩, k1, k2⟩ | ⟨⟨k0, k1⟩, k2⟩
      · obtain ⟨fr2, k3, k4⟩ := opt_wp k1
        obtain ⟨hp2, k5, k6⟩ := opt_wp k4
        rw [force_eq] at k5; injection k5 with k5; subst k5
        obtain ⟨f, k7, k8⟩ := opt_wp k6
        rw [forceFp_eq] at k7; injection k7 with k7; subst k7
        have m' := m.snoc (s := ⟨o, fr, fr', hp, true, a, p⟩) hop h3 (fun _ => by subst hnx; exact k2) (fun h => by cases h) (putF_look k3).2 ⟨hfr, hfr'⟩ hhp
        refine runD_made r (ts.length + 1) (nx + 64) fr2 (p ++ hp) (ts ++ [⟨o, fr, fr', hp, true, a, p⟩]) ?_ m' (by simp) (by omega) hl' ?_ ?_
        · rw [List.map_append]; exact k8
        · simp only [FD, List.getElem?_append_right (Nat.le_refl _), Nat.sub_self, List.getElem?_cons_zero, every]
          rw [FD_append (Nat.le_refl _)]
          exact hfr'.put k3
        · simp only [HD, List.getElem?_append_right (Nat.le_refl _), Nat.sub_self, List.getElem?_cons_zero, every]
          rw [HD_append (Nat.le_refl _), hpOf_append, hhp]
      · exact ⟨ts, m, .inr ⟨o, fr, fr', hp, hop, h3, hfr, hfr', hhp, by subst hnx; exact k2, k0, k1⟩⟩
    | false =>
      obtain ⟨fr2, k3, k4⟩ := opt_wp h1
      obtain ⟨f, k7, k8⟩ := opt_wp k4
      rw [forceFp_eq] at k7; injection k7 with k7; subst k7
      have m' := m.snoc (s := ⟨o, fr, fr', hp, false, .v undef, []⟩) hop h3 (fun h => by cases h) (fun _ => ⟨rfl, rfl⟩) (putF_look k3).2 ⟨hfr, hfr'⟩ hhp
      refine runD_made r (ts.length + 1) (nx + 64) fr2 hp (ts ++ [⟨o, fr, fr', hp, false, .v undef, []⟩]) ?_ m' (by simp) (by omega) hl' ?_ ?_
      · rw [List.map_append]; exact k8
      · simp only [FD, List.getElem?_append_right (Nat.le_refl _), Nat.sub_self, List.getElem?_cons_zero, every]
        rw [FD_append (Nat.le_refl _)]
        exact hfr'.put k3
      · simp only [HD, List.getElem?_append_right (Nat.le_refl _), Nat.sub_self, List.getElem?_cons_zero, every]
        rw [HD_append (Nat.le_refl _), hhp]
        rfl

/-- What is closed under 'directly ahead' is closed under the masks. -/
theorem maskOf_ok {ms : List Nat} {o : Oper} {i : Nat} (h : Nat.testBit (maskOf ms o) i = true) : ∃ e ∈ preds o, i = e ∨ Nat.testBit (ms.getD e 0) i = true := by
  have key : ∀ (l : List Nat) (s : Nat), Nat.testBit (l.foldl (fun s e => s ||| 2 ^ e ||| ms.getD e 0) s) i = true → Nat.testBit s i = true ∨ ∃ e ∈ l, i = e ∨ Nat.testBit (ms.getD e 0) i = true := by
    intro l
    induction l with
    | nil => intro s h; exact .inl h
    | cons e l ih =>
      intro s h
      rcases ih _ h with h1 | ⟨e', h1, h2⟩
      · simp only [Nat.testBit_or, Bool.or_eq_true] at h1
        rcases h1 with (h1 | h1) | h1
        · exact .inl h1
        · rw [Nat.testBit_two_pow] at h1
          simp at h1
          exact .inr ⟨e, by simp, .inl h1.symm⟩
        · exact .inr ⟨e, by simp, .inr h1⟩
      · exact .inr ⟨e', by simp [h1], h2⟩
  rcases key _ _ h with h1 | h1
  · simp at h1
  · exact h1

theorem masksOf_closed {ops : List Oper} {D : Nat → Bool} (hD : ∀ j o, D j = true → ops[j]? = some o → ∀ e ∈ preds o, D e = true) :
    ∀ (l : List Oper) (ms : List Nat), (∀ j, l[j]? = ops[ms.length + j]?) → (∀ j i, Nat.testBit (ms.getD j 0) i = true → D j = true → D i = true) → ∀ j i, Nat.testBit ((masksOf l ms).getD j 0) i = true → D j = true → D i = true
  | [], ms, _, h => h
  | o :: r, ms, hl, h => by
    simp only [masksOf]
    refine masksOf_closed hD r (ms ++ [maskOf ms o]) (fun j => by have := hl (j + 1); simpa [Nat.add_assoc, Nat.add_comm 1 j] using this) (fun j i hb hj => ?_)
    simp only [List.getD_eq_getElem?_getD, List.getElem?_append] at hb
    split at hb
    · exact h j i (by simpa [List.getD_eq_getElem?_getD] using hb) hj
    · rename_i hge
      cases e : j - ms.length with
      | zero =>
        rw [e] at hb
        simp at hb
        have hj' : j = ms.length := by omega
        subst hj'
        obtain ⟨e', h1, h2⟩ := maskOf_ok hb
        have hop : ops[ms.length]? = some o := by have := hl 0; simpa using this.symm
        have := hD _ o hj hop e' h1
        rcases h2 with rfl | h2
        · exact this
        · exact h e' i h2 this
      | succ k => rw [e] at hb; simp at hb

/-- The places that two frames (heaps) may differ in. -/
theorem FD_eq {ts : List Step} {D D' : Nat → Bool} {f : Nat → Option AV} {t : Nat} (h : ∀ j s, ts[j]? = some s → s.o.dst = some t → D j = D' j) : ∀ m, FD ts D f m t = FD ts D' f m t
  | 0 => rfl
  | m + 1 => by
    have ih := FD_eq (f := f) h m
    simp only [FD]
    cases hs : ts[m]? with
    | none => exact ih
    | some s =>
      by_cases hd : s.o.dst = some t
      · rw [h m s hs hd]
        cases D' m
        · exact ih
        · simp only [updF, hd, if_true]
      · have e : ∀ g : Nat → Option AV, updF s.o.dst s.out g t = g t := fun g => by
          cases hdd : s.o.dst with
          | none => rfl
          | some d =>
            have : d ≠ t := fun e => hd (by rw [hdd, e])
            simp only [updF, if_neg this]
        cases D m <;> cases D' m <;> simp only [e] <;> exact ih
theorem look_keys {p : Pat} {k : Nat} (h : k ∉ keysP p) : look k p = none := by
  induction p with
  | nil => rfl
  | cons x p ih =>
    obtain ⟨i, a⟩ := x
    simp only [keysP, List.map_cons, List.mem_cons, not_or] at h
    simp only [look, beq_ne (Ne.symm h.1)]
    exact ih h.2
theorem HD_eq {ts : List Step} {D D' : Nat → Bool} {f : Heap} {k : Nat} (h : ∀ j s, ts[j]? = some s → k ∈ keysP s.p → D j = D' j) : ∀ m, HD ts D f m k = HD ts D' f m k
  | 0 => rfl
  | m + 1 => by
    have ih := HD_eq (f := f) h m
    simp only [HD]
    cases hs : ts[m]? with
    | none => exact ih
    | some s =>
      by_cases hd : k ∈ keysP s.p
      · rw [h m s hs hd]
        cases D' m
        · exact ih
        · simp only [patch]; rw [ih]
      · have e : ∀ g : Heap, patch s.p g k = g k := fun g => by simp only [patch, look_keys hd]
        cases D m <;> cases D' m <;> simp only [e] <;> exact ih
/-- What stands behind m does not count. -/
def below (m : Nat) : Nat → Bool := fun j => decide (j < m)
theorem FD_below {ts : List Step} {f : Nat → Option AV} {m : Nat} : ∀ M, m ≤ M → FD ts (below m) f M = FD ts every f m := by
  have h1 : ∀ i, i ≤ m → FD ts (below m) f i = FD ts every f i := by
    intro i
    induction i with
    | zero => intro _; rfl
    | succ i ih => intro hi; simp only [FD, ih (by omega), below, every, show i < m by omega, decide_true]
  intro M
  induction M with
  | zero => intro h; have : m = 0 := by omega
            subst this; rfl
  | succ M ih =>
    intro h
    by_cases e : m = M + 1
    · subst e; exact h1 _ (Nat.le_refl _)
    · simp only [FD, ih (by omega), below, show ¬ M < m by omega, decide_false]
      split <;> first | rfl | simp_all
theorem HD_below {ts : List Step} {f : Heap} {m : Nat} : ∀ M, m ≤ M → HD ts (below m) f M = HD ts every f m := by
  have h1 : ∀ i, i ≤ m → HD ts (below m) f i = HD ts every f i := by
    intro i
    induction i with
    | zero => intro _; rfl
    | succ i ih => intro hi; simp only [HD, ih (by omega), below, every, show i < m by omega, decide_true]
  intro M
  induction M with
  | zero => intro h; have : m = 0 := by omega
            subst this; rfl
  | succ M ih =>
    intro h
    by_cases e : m = M + 1
    · subst e; exact h1 _ (Nat.le_refl _)
    · simp only [HD, ih (by omega), below, show ¬ M < m by omega, decide_false]
      split <;> first | rfl | simp_all

theorem inter_mem {a b : List Nat} {k : Nat} (ha : k ∈ a) (hb : k ∈ b) : inter a b = true := by
  unfold inter
  rw [List.any_eq_true]
  exact ⟨k, ha, memN_iff.2 hb⟩

theorem chk_spec {ms : List Nat} {fps : List Fp} (h : chk ms fps = true) {i j : Nat} {a b : Fp} (hij : i < j) (ha : fps[i]? = some a) (hb : fps[j]? = some b) (hc : conf a b = true) : ahead ms i j = true := by
  have hj : j < fps.length := (List.getElem?_eq_some_iff.1 hb).1
  unfold chk at h
  rw [List.all_eq_true] at h
  have h1 := h j (by simpa using hj)
  rw [List.all_eq_true] at h1
  have h2 := h1 i (by simpa using hij)
  simp only [ha, hb, hc, Bool.not_true, Bool.false_or] at h2
  exact h2

/-- The operation i comes up when D has been made: what it names is as it was in the order of the text. -/
theorem comes {cx : Cx} {ops : List Oper} {ms : List Nat} {ts : List Step} {fps : List Fp} {D : Nat → Bool} {i : Nat} {fi : Fp} {f0 : Nat → Option AV} {h0 : Heap} {M : Nat} (hchk : chk ms fps = true) (hts : ∀ (j : Nat) (s : Step), ts[j]? = some s → j ≠ i → fps[j]? = some (stepFp cx ops s)) (hfi : fps[i]? = some fi) (hM : i ≤ M)
    (hcl : ∀ j k, ahead ms k j = true → D j = true → D k = true) (hpre : ∀ k, k < i → ahead ms k i = true → D k = true) (hi : D i = false) (hlt : i ≤ ts.length) :
    (∀ t ∈ fi.rT, FD ts D f0 M t = FD ts every f0 i t) ∧ (∀ k ∈ fi.rH, HD ts D h0 M k = HD ts every h0 i k) := by
  have key : ∀ j s, ts[j]? = some s → (conf (stepFp cx ops s) fi = true) → (conf fi (stepFp cx ops s) = true) → D j = below i j := by
    intro j s hs c1 c2
    by_cases e : j = i
    · subst e; simp only [below, Nat.lt_irrefl, decide_false]; exact hi
    · have hf := hts j s hs e
      by_cases hlt : j < i
      · have := hpre j hlt (chk_spec hchk hlt hf hfi c1)
        simp only [below, hlt, decide_true]; exact this
      · have h1 := chk_spec hchk (show i < j by omega) hfi hf c2
        simp only [below, hlt, decide_false]
        cases hd : D j with
        | false => rfl
        | true => rw [hcl j i h1 hd] at hi; cases hi
  refine ⟨fun t ht => ?_, fun k hk => ?_⟩
  · rw [FD_eq (D' := below i) (fun j s hs hd => ?_) M, FD_below M hM]
    refine key j s hs ?_ ?_
    · have : inter (stepFp cx ops s).wT fi.rT = true := inter_mem (k := t) (by simp [stepFp, fpOf, dsts, hd]) ht
      simp [conf, this]
    · have : inter (stepFp cx ops s).wT fi.rT = true := inter_mem (k := t) (by simp [stepFp, fpOf, dsts, hd]) ht
      simp [conf, this]
  · rw [HD_eq (D' := below i) (fun j s hs hd => ?_) M, HD_below M hM]
    refine key j s hs ?_ ?_
    · have : inter (stepFp cx ops s).wH fi.rH = true := inter_mem (k := k) (by simpa [stepFp, fpOf] using hd) hk
      simp [conf, this]
    · have : inter (stepFp cx ops s).wH fi.rH = true := inter_mem (k := k) (by simpa [stepFp, fpOf] using hd) hk
      simp [conf, this]

/-- Behind i: what has been made is told anew. -/
theorem goes {cx : Cx} {ops : List Oper} {ms : List Nat} {ts : List Step} {fps : List Fp} {D D' : Nat → Bool} {i : Nat} {s : Step} {f0 : Nat → Option AV} {h0 : Heap} {M : Nat} (hchk : chk ms fps = true) (hts : ∀ (j : Nat) (s : Step), ts[j]? = some s → fps[j]? = some (stepFp cx ops s)) (hs : ts[i]? = some s) (hM : i < M)
    (hcl : ∀ j k, ahead ms k j = true → D j = true → D k = true) (hpre : ∀ k, k < i → ahead ms k i = true → D k = true) (hi : D i = false) (hD' : D' i = true) (hD : ∀ j, j ≠ i → D' j = D j) :
    FD ts D' f0 M = updF s.o.dst s.out (FD ts D f0 M) ∧ HD ts D' h0 M = patch s.p (HD ts D h0 M) := by
  have key : ∀ j u, ts[j]? = some u → (conf (stepFp cx ops u) (stepFp cx ops s) = true) → (conf (stepFp cx ops s) (stepFp cx ops u) = true) → D' j = below (i + 1) j := by
    intro j u hu c1 c2
    by_cases e : j = i
    · subst e; simp only [below, Nat.lt_succ_self, decide_true]; exact hD'
    · rw [hD j e]
      by_cases hlt : j < i
      · have := hpre j hlt (chk_spec hchk hlt (hts j u hu) (hts i s hs) c1)
        simp only [below, show j < i + 1 by omega, decide_true]; exact this
      · have h1 := chk_spec hchk (show i < j by omega) (hts i s hs) (hts j u hu) c2
        simp only [below, show ¬ j < i + 1 by omega, decide_false]
        cases hd : D j with
        | false => rfl
        | true => rw [hcl j i h1 hd] at hi; cases hi
  constructor
  · funext t
    by_cases hd : s.o.dst = some t
    · rw [FD_eq (D' := below (i + 1)) (fun j u hu hud => ?_) M, FD_below M hM]
      · simp only [FD, hs, every, updF, hd, if_true]
      · have : inter (stepFp cx ops u).wT (stepFp cx ops s).wT = true := inter_mem (k := t) (by simp [stepFp, fpOf, dsts, hud]) (by simp [stepFp, fpOf, dsts, hd])
        have h2 : inter (stepFp cx ops s).wT (stepFp cx ops u).wT = true := inter_mem (k := t) (by simp [stepFp, fpOf, dsts, hd]) (by simp [stepFp, fpOf, dsts, hud])
        exact key j u hu (by simp [conf, this]) (by simp [conf, h2])
    · have e : updF s.o.dst s.out (FD ts D f0 M) t = FD ts D f0 M t := by
        cases hdd : s.o.dst with
        | none => rfl
        | some d =>
          have : d ≠ t := fun e => hd (by rw [hdd, e])
          simp only [updF, if_neg this]
      rw [e]
      refine FD_eq (fun j u hu hud => ?_) M
      by_cases e : j = i
      · subst e; rw [hs] at hu; injection hu with hu; subst hu; exact absurd hud hd
      · exact hD j e
  · funext k
    by_cases hk : k ∈ keysP s.p
    · rw [HD_eq (D' := below (i + 1)) (fun j u hu hud => ?_) M, HD_below M hM]
      · simp only [HD, hs, every, patch]
        have : look k s.p ≠ none := by
          intro h0
          have : ∀ p : Pat, k ∈ keysP p → look k p ≠ none := by
            intro p
            induction p with
            | nil => intro h; simp [keysP] at h
            | cons x p ih =>
              obtain ⟨i, a⟩ := x
              intro h
              simp only [look]
              split
              · simp
              · rename_i hne
                refine ih ?_
                simp only [keysP, List.map_cons, List.mem_cons] at h
                rcases h with rfl | h
                · simp at hne
                · exact h
          exact this s.p hk h0
        cases h1 : look k s.p with
        | none => exact absurd h1 this
        | some x => rfl
      · have : inter (stepFp cx ops u).wH (stepFp cx ops s).wH = true := inter_mem (k := k) (by simpa [stepFp, fpOf] using hud) (by simpa [stepFp, fpOf] using hk)
        have h2 : inter (stepFp cx ops s).wH (stepFp cx ops u).wH = true := inter_mem (k := k) (by simpa [stepFp, fpOf] using hk) (by simpa [stepFp, fpOf] using hud)
        exact key j u hu (by simp [conf, this]) (by simp [conf, h2])
    · have e : patch s.p (HD ts D h0 M) k = HD ts D h0 M k := by simp only [patch, look_keys hk]
      rw [e]
      refine HD_eq (fun j u hu hud => ?_) M
      by_cases e : j = i
      · subst e; rw [hs] at hu; injection hu with hu; subst hu; exact absurd hud hk
      · exact hD j e

def dB (D : Array Bool) (i : Nat) : Bool := D.getD i false
def undone (D : Array Bool) : Nat → Nat
  | 0 => 0
  | m + 1 => undone D m + (if dB D m = true then 0 else 1)

theorem dB_set {D : Array Bool} {i : Nat} (hi : i < D.size) (j : Nat) : dB (D.setIfInBounds i true) j = if j = i then true else dB D j := by
  unfold dB
  by_cases e : j = i
  · subst e; simp [hi]
  · rw [if_neg e, getD_set_ne false (Ne.symm e)]

theorem undone_set {D : Array Bool} {i n : Nat} (hs : D.size = n) (hi : i < n) (hd : dB D i = false) : undone (D.setIfInBounds i true) n + 1 = undone D n := by
  have : ∀ m, undone (D.setIfInBounds i true) m + (if i < m then 1 else 0) = undone D m := by
    intro m
    induction m with
    | zero => rfl
    | succ m ih =>
      simp only [undone, dB_set (hs ▸ hi)]
      by_cases e : m = i
      · subst e
        rw [if_neg (Nat.lt_irrefl _)] at ih
        rw [if_pos (Nat.lt_succ_self _), if_pos rfl, if_pos rfl, hd, if_neg (by simp)]
        omega
      · rw [if_neg e]
        by_cases h2 : i < m
        · rw [if_pos h2] at ih
          rw [if_pos (show i < m + 1 by omega)]; omega
        · rw [if_neg h2] at ih
          rw [if_neg (show ¬ i < m + 1 by omega)]; omega
  have := this n
  rw [if_pos hi] at this
  exact this

theorem done_of {D : Array Bool} : ∀ {n : Nat}, undone D n = 0 → ∀ i, i < n → dB D i = true
  | 0, _, i, hi => by omega
  | n + 1, h, i, hi => by
    simp only [undone] at h
    by_cases e : i = n
    · subst e
      cases e' : dB D i with
      | true => rfl
      | false => rw [e', if_neg (by simp)] at h; omega
    · exact done_of (n := n) (by omega) i (by omega)

/-- What is told when D has been made. -/
structure DInv (n : Nat) (O : Nat → Prop) (w0 : World) (S0 : G0) (ts : List Step) (M nx0 : Nat) (f0 : Nat → Option AV) (h0 : Heap) (D : Array Bool) (g : G) (a : Act) (w : World) : Prop where
  inv : Inv O w0 g (HD ts (dB D) h0 M) w
  fr : FRel g w (FD ts (dB D) f0 M) a
  dn : Marks g w0 w a.defers
  dz : a.defers = [] ∨ S0.nz
  sz : a.tmps.size = n
  fresh : ∀ k, (g.m k ≠ none ∨ g.β k ≠ none) → k < nx0 ∨ ∃ i, dB D i = true ∧ nx0 + 64 * i ≤ k ∧ k < nx0 + 64 * i + 64
  sb : ∀ b, S0.S b → g.S b
  sn : ∀ b, g.S b → S0.S b ∨ O b ∨ w0.heap.size ≤ b
  pin : ∀ k c, S0.m k = some c → g.m k = some c

section
variable {P : Program} {n : Nat} {O : Nat → Prop} {w0 : World} {S0 : G0} {Z : TypeId → AV → Prop} {cx : Cx} {K : AS → Prop} {Q : Exit → Act → World → Prop}

theorem drawn_sim (hcx : CxOK P cx) {ops : List Oper} {ts : List Step} {nx0 : Nat} {f0 : Nat → Option AV} {h0 : Heap} (hord : ordOk ops = true) (hmade : Made cx n ops nx0 f0 h0 ts) (hends : Ends cx n ops (masksOf ops []) nx0 f0 h0 K Z ts)
    (hK : ∀ g st a w, K st → Rel n O w0 S0 g st.fr (hpOf st.hp) st.nx a w → Q .normal a w) (hZ : ∀ ch a w, (a.defers = [] ∨ S0.nz) → Bad O w0 Z ch w → Q (.panic ch) a w) :
    ∀ (fuel : Nat) (D : Array Bool) (g : G) (a : Act) (w : World), D.size = ops.length → undone D ops.length ≤ fuel → (∀ j o, dB D j = true → ops[j]? = some o → ∀ e ∈ preds o, dB D e = true) → (∀ i, dB D i = true → i < ts.length) →
      DInv n O w0 S0 ts ops.length nx0 f0 h0 D g a w → wpAny P .any ops.toArray Q fuel D a w := by
  -- the whole is done
  have fin : ∀ (D : Array Bool) (g : G) (a : Act) (w : World), (∀ i, i < ops.length → dB D i = true) → (∀ i, dB D i = true → i < ts.length) → DInv n O w0 S0 ts ops.length nx0 f0 h0 D g a w → Q .normal a w := by
    intro D g a w hall hin hI
    rcases hends with ⟨h1, _, st, h3, h4, h5, h6⟩ | ⟨o, fr, fr', hp, h1, _⟩
    · have eF : FD ts (dB D) f0 ops.length = FD ts every f0 ops.length := by
        funext t
        refine FD_eq (fun j s hs _ => ?_) _
        exact hall j (by rw [← h1]; exact (List.getElem?_eq_some_iff.1 hs).1)
      have eH : HD ts (dB D) h0 ops.length = HD ts every h0 ops.length := by
        funext t
        refine HD_eq (fun j s hs _ => ?_) _
        exact hall j (by rw [← h1]; exact (List.getElem?_eq_some_iff.1 hs).1)
      refine hK g st a w h3 ⟨by rw [h5, ← eH]; exact hI.inv, fun t x hx => ?_, hI.dn, hI.dz, hI.sz, fun k hk => ?_, hI.sb, hI.sn, hI.pin⟩
      · obtain ⟨y, h7, h8⟩ := h4 t x hx
        rw [← eF] at h7
        obtain ⟨c, h9, h10⟩ := hI.fr t y h7
        exact ⟨c, h9, h8 g w c h10⟩
      · have hno : ∀ (p : Prop), ((g.m k ≠ none ∨ g.β k ≠ none) → False) := fun _ h => by
          rcases hI.fresh k h with h7 | ⟨i, h7, h8, h9⟩
          · omega
          · have := hin i h7; omega
        constructor
        · cases e : g.m k with
          | none => rfl
          | some c => exact (hno True (.inl (by rw [e]; simp))).elim
        · cases e : g.β k with
          | none => rfl
          | some c => exact (hno True (.inr (by rw [e]; simp))).elim
    · have := (List.getElem?_eq_some_iff.1 h1).1
      have := hin _ (hall _ this)
      omega
  have hms : ∀ (D : Nat → Bool), (∀ j o, D j = true → ops[j]? = some o → ∀ e ∈ preds o, D e = true) → ∀ j k, ahead (masksOf ops []) k j = true → D j = true → D k = true := fun D hD j k h1 h2 =>
    masksOf_closed hD ops [] (by simp) (fun j i h => by simp at h) j k h1 h2
  -- what may come up, if anything is left
  have left : ∀ (D : Array Bool), D.size = ops.length → (∀ i, i < ops.length → dB D i = true) ∨ ∃ i, i ∈ Region.ready .any ops.toArray D := by
    intro D hs
    by_cases hall : ∀ i, i < ops.length → dB D i = true
    · exact .inl hall
    · refine .inr ?_
      have hex : ∃ i, i < ops.length ∧ dB D i = false ∧ ∀ j, j < i → dB D j = true := by
        have : ∀ m, m ≤ ops.length → (∀ j, j < m → dB D j = true) ∨ ∃ i, i < m ∧ dB D i = false ∧ ∀ j, j < i → dB D j = true := by
          intro m
          induction m with
          | zero => intro _; exact .inl (fun j hj => by omega)
          | succ m ih =>
            intro hm
            rcases ih (by omega) with h1 | ⟨i, h1, h2⟩
            · cases e : dB D m with
              | true => exact .inl (fun j hj => by
                  by_cases e' : j = m
                  · subst e'; exact e
                  · exact h1 j (by omega))
              | false => exact .inr ⟨m, by omega, e, h1⟩
            · exact .inr ⟨i, by omega, h2⟩
        rcases this _ (Nat.le_refl _) with h1 | ⟨i, h1, h2⟩
        · exact absurd h1 hall
        · exact ⟨i, h1, h2⟩
      obtain ⟨i, h1, h2, h3⟩ := hex
      refine ⟨i, ?_⟩
      rw [mem_ready]
      have hop := List.getElem?_eq_getElem h1
      refine ⟨?_, ops[i], by simp, fun e he hb => ?_⟩
      · unfold dB at h2
        have : i < D.size := by omega
        simpa [this] using h2
      · have h4 : e.on ∈ preds ops[i] := by
          unfold preds
          rw [List.mem_map]
          exact ⟨e, by rw [List.mem_filter]; exact ⟨by simpa using he, hb⟩, rfl⟩
        unfold ordOk at hord
        rw [List.all_eq_true] at hord
        have h5 := hord i (by simpa using h1)
        simp only [hop] at h5
        rw [List.all_eq_true] at h5
        have h6 := h5 _ h4
        exact h3 e.on (by simp [Nat.blt] at h6; omega)
  have hready : ∀ (D : Array Bool) (i : Nat), D.size = ops.length → i ∈ Region.ready .any ops.toArray D → i < ops.length ∧ dB D i = false ∧ ∃ o, ops[i]? = some o ∧ ∀ e ∈ preds o, dB D e = true := by
    intro D i hs hi
    rw [mem_ready] at hi
    obtain ⟨h1, o, h2, h3⟩ := hi
    have hlt : i < ops.length := by
      have := (Array.getElem?_eq_some_iff.1 h2).1
      simpa using this
    refine ⟨hlt, ?_, o, by simpa using h2, fun e he => ?_⟩
    · have : i < D.size := by omega
      unfold dB
      simpa [this] using h1
    · unfold preds at he
      rw [List.mem_map] at he
      obtain ⟨e', h4, rfl⟩ := he
      rw [List.mem_filter] at h4
      exact h3 e' (by simpa using h4.1) h4.2
  intro fuel
  induction fuel with
  | zero =>
    intro D g a w hs hu hcl hin hI
    have hall := done_of (Nat.le_zero.1 hu)
    refine ⟨?_, fin D g a w hall hin hI⟩
    cases e : Region.ready .any ops.toArray D with
    | nil => rfl
    | cons i r =>
      obtain ⟨h1, h2, _⟩ := hready D i hs (by rw [e]; simp)
      rw [hall i h1] at h2; cases h2
  | succ fuel ih =>
    intro D g a w hs hu hcl hin hI
    refine ⟨fun hnil => ?_, fun i hi => ?_⟩
    · rcases left D hs with h1 | ⟨i, h1⟩
      · exact fin D g a w h1 hin hI
      · rw [hnil] at h1; cases h1
    · obtain ⟨hlt, hdi, o, hop, hpre⟩ := hready D i hs hi
      have hsz : i < D.size := by omega
      -- D and i, closed
      let D' := D.setIfInBounds i true
      have hD'i : dB D' i = true := by simp only [D', dB_set hsz, if_true]
      have hD'j : ∀ j, j ≠ i → dB D' j = dB D j := fun j hj => by simp only [D', dB_set hsz, if_neg hj]
      have hcl' : ∀ j o, dB D' j = true → ops[j]? = some o → ∀ e ∈ preds o, dB D' e = true := by
        intro j o' hj ho' e he
        have : dB D e = true := by
          by_cases e' : j = i
          · subst e'; rw [hop] at ho'; injection ho' with ho'; subst ho'; exact hpre e he
          · rw [hD'j j e'] at hj; exact hcl j o' hj ho' e he
        by_cases e' : e = i
        · subst e'; exact hD'i
        · rw [hD'j e e']; exact this
      have hclm := hms (dB D) hcl
      have hprem : ∀ k, k < i → ahead (masksOf ops []) k i = true → dB D k = true := fun k hk h => by
        have := hms (dB D') hcl' i k h hD'i
        rw [hD'j k (by omega)] at this; exact this
      have hu' : undone D' ops.length ≤ fuel := by have := undone_set hs hlt hdi; simp only [D']; omega
      have hs' : D'.size = ops.length := by simp only [D', Array.size_setIfInBounds]; exact hs
      have hfr64 : ∀ k, nx0 + 64 * i ≤ k → k < nx0 + 64 * i + 64 → g.m k = none ∧ g.β k = none := by
        intro k h1 h2
        have hno : (g.m k ≠ none ∨ g.β k ≠ none) → False := fun h => by
          rcases hI.fresh k h with h3 | ⟨j, h3, h4, h5⟩
          · omega
          · have : j = i := by omega
            subst this; rw [hdi] at h3; cases h3
        constructor
        · cases e : g.m k with
          | none => rfl
          | some c => exact (hno (.inl (by rw [e]; simp))).elim
        · cases e : g.β k with
          | none => rfl
          | some c => exact (hno (.inr (by rw [e]; simp))).elim
      have hfresh' : ∀ g', NewIn O w0 g g' (nx0 + 64 * i) → ∀ k, (g'.m k ≠ none ∨ g'.β k ≠ none) → k < nx0 ∨ ∃ j, dB D' j = true ∧ nx0 + 64 * j ≤ k ∧ k < nx0 + 64 * j + 64 := by
        intro g' hn k hk
        have : (g.m k ≠ none ∨ g.β k ≠ none) ∨ (nx0 + 64 * i ≤ k ∧ k < nx0 + 64 * i + 64) := by
          rcases hk with hk | hk
          · rcases hn.m k hk with h1 | h1
            · exact .inl (.inl h1)
            · exact .inr h1
          · rcases hn.β k hk with h1 | h1
            · exact .inl (.inr h1)
            · exact .inr h1
        rcases this with h1 | h1
        · rcases hI.fresh k h1 with h2 | ⟨j, h2, h3⟩
          · exact .inl h2
          · refine .inr ⟨j, ?_, h3⟩
            by_cases e : j = i
            · subst e; exact hD'i
            · rw [hD'j j e]; exact h2
        · exact .inr ⟨i, hD'i, h1⟩
      -- an operation that is made as the text's order has it
      have act : ∀ (fps : List Fp) (fr fr' : Fra) (hp : Pat) (fi : Fp), chk (masksOf ops []) fps = true → (∀ (j : Nat) (s : Step), ts[j]? = some s → j ≠ i → fps[j]? = some (stepFp cx ops s)) → fps[i]? = some fi → fi.rT = gdTmps ops o ++ opTmps o → fi.rH = foot cx (evOf fr') (hpOf hp) o.op → i ≤ ts.length →
          Tells (FD ts every f0 i) fr → Tells (FD ts every f0 i) fr' → hpOf hp = HD ts every h0 i →
          (∀ q ∈ gdTmps ops o, ∀ x, look q fr = some x → ∃ c, a.tmps[q]? = some c ∧ VRel g w x c) ∧
          (∀ (K' : Out → Prop) (Z' : TypeId → AV → Prop), (stepA cx (nx0 + 64 * i) (evOf fr') (hpOf hp) o.op).wp K' Z' → Did P ((execOp a.eval o).run P w) (Good O w0 g (HD ts (dB D) h0 ops.length) (nx0 + 64 * i) w K') (Bad O w0 Z')) := by
        classical
        intro fps fr fr' hp fi hchk hts hfi hrT hrH hile hfr hfr' hhp
        obtain ⟨c1, c2⟩ := comes (f0 := f0) (h0 := h0) (M := ops.length) hchk hts hfi (by omega) hclm hprem hdi hile
        have get : ∀ (fr : Fra), Tells (FD ts every f0 i) fr → ∀ t ∈ fi.rT, ∀ x, look t fr = some x → ∃ c, a.tmps[t]? = some c ∧ VRel g w x c := by
          intro fr hfr t ht x hx
          obtain ⟨y, h1, h2⟩ := hfr t x hx
          rw [← c1 t ht] at h1
          obtain ⟨c, h3, h4⟩ := hI.fr t y h1
          exact ⟨c, h3, h2 g w c h4⟩
        refine ⟨fun q hq => get fr hfr q (by rw [hrT]; simp [hq]), fun K' Z' h => ?_⟩
        have hag : Agree (foot cx (evOf fr') (hpOf hp) o.op) (hpOf hp) (HD ts (dB D) h0 ops.length) := fun k hk => by
          rw [hhp, c2 k (by rw [hrH]; exact hk)]
        rw [stepA_local hag, stepA_ev (ev' := fun x => if x ∈ o.op.operands then evOf fr' x else none) (fun x hx => by rw [if_pos hx])] at h
        refine stepA_ok hcx hI.inv hfr64 (fun x b hb => ?_) o h
        split at hb
        · rename_i hx
          cases x with
          | tmp t =>
            obtain ⟨c, h1, h2⟩ := get fr' hfr' t (by
              rw [hrT]
              refine List.mem_append_right _ ?_
              unfold opTmps
              rw [List.mem_filterMap]
              exact ⟨.tmp t, by simpa using hx, rfl⟩) b hb
            simpa [Act.eval, h1] using h2
          | const v => simp only [evOf, Option.some.injEq] at hb; subst hb; exact VRel.v_iff.2 rfl
          | func f =>
            simp only [evOf, Option.some.injEq] at hb; subst hb
            simp only [VRel]
            exact ⟨[], VRels.nil.2 rfl, rfl⟩
          | global _ => cases hb
        · cases hb
      have hopA : ops.toArray[i]? = some o := by simpa using hop
      unfold wpOp
      rw [hopA]
      simp only
      rcases Nat.lt_trichotomy i ts.length with hit | hit | hit
      · -- it is one of those that were made
        have hst := List.getElem?_eq_getElem hit
        generalize ts[i] = s at hst
        have hso : s.o = o := by have := hmade.op i s hst; rw [hop] at this; injection this with this; exact this.symm
        have hfps : ∃ fps, chk (masksOf ops []) fps = true ∧ ∀ (j : Nat) (s : Step), ts[j]? = some s → fps[j]? = some (stepFp cx ops s) := by
          rcases hends with ⟨_, h2, _⟩ | ⟨o', fr, fr', hp, _, _, _, _, _, _, h2, _⟩
          · exact ⟨_, h2, fun j s hs => by simp [hs]⟩
          · refine ⟨_, h2, fun j s hs => ?_⟩
            have := (List.getElem?_eq_some_iff.1 hs).1
            rw [List.getElem?_append_left (by simpa using this)]
            simp [hs]
        obtain ⟨fps, hchk, hts⟩ := hfps
        obtain ⟨hfr, hfr'⟩ := hmade.frame i s hst
        obtain ⟨a1, a2⟩ := act fps s.fr s.fr' s.hp (stepFp cx ops s) hchk (fun j s hs _ => hts j s hs) (hts i s hst) (by simp [stepFp, fpOf, hso]) (by simp [stepFp, fpOf, hso]) (by omega) hfr hfr' (hmade.heap i s hst)
        have hw := hmade.gd i s hst g w a (by rw [hso]; exact a1)
        rw [hso] at hw
        rw [hw]
        obtain ⟨e1, e2⟩ := goes (f0 := f0) (h0 := h0) (M := ops.length) (D := dB D) (D' := dB D') hchk hts hst hlt hclm hprem hdi hD'i hD'j
        have hin' : ∀ j, dB D' j = true → j < ts.length := fun j hj => by
          by_cases e : j = i
          · omega
          · rw [hD'j j e] at hj; exact hin j hj
        have hput : ∀ d, o.dst = some d → d < a.tmps.size := fun d hd => by rw [hI.sz]; exact hmade.dst i s hst d (by rw [hso]; exact hd)
        cases hran : s.ran with
        | true =>
          rw [if_pos rfl]
          have hone := hmade.one i s hst hran
          rw [hso] at hone
          refine .inl (did_upon (a2 _ _ hone) (fun c w' hg => ?_) (fun ch w' hb => ?_))
          · obtain ⟨x, p, g', k1, k2, k3, k4, k5, k6⟩ := hg
            simp only [Prod.mk.injEq] at k1
            obtain ⟨rfl, rfl⟩ := k1
            refine ih D' g' _ w' hs' hu' hcl' hin' ⟨by rw [e2]; exact k4, ?_, by rw [(put_size _ _ _).2]; exact hI.dn.stay k2.S k5, by rw [(put_size _ _ _).2]; exact hI.dz, by rw [(put_size _ _ _).1]; exact hI.sz, hfresh' g' k3, fun b hb => k2.S b (hI.sb b hb), fun b hb => by
              rcases k3.S b hb with h9 | h9
              · exact hI.sn b h9
              · exact .inr h9, fun k c hk => k2.m k c (hI.pin k c hk)⟩
            rw [e1, hso]
            exact frel_put (hI.fr.stay k2 k5) k6 hput
          · obtain ⟨T, x, v, g', k1, _⟩ := hb
            exact k1.elim
        | false =>
          rw [if_neg (by simp)]
          obtain ⟨n1, n2⟩ := hmade.no i s hst hran
          refine ih D' g _ w hs' hu' hcl' hin' ⟨by rw [e2, n2, patch_nil]; exact hI.inv, ?_, by rw [(put_size _ _ _).2]; exact hI.dn, by rw [(put_size _ _ _).2]; exact hI.dz, by rw [(put_size _ _ _).1]; exact hI.sz, hfresh' g (NewIn.refl O w0 g _), hI.sb, hI.sn, hI.pin⟩
          rw [e1, hso, n1]
          exact frel_put hI.fr (VRel.v_iff.2 rfl) hput
      · -- it is the one that panics
        rcases hends with ⟨h1, _⟩ | ⟨o', fr, fr', hp, h1, h2, h3, h4, h5, h6, h7, h8⟩
        · omega
        · rw [← hit, hop] at h1
          injection h1 with h1; subst h1
          have hlen : (ts.map (stepFp cx ops)).length = i := by simp [hit]
          obtain ⟨a1, a2⟩ := act _ fr fr' hp (fpOf cx ops o fr' (hpOf hp) []) h7 (fun j s hs _ => by
              have := (List.getElem?_eq_some_iff.1 hs).1
              rw [List.getElem?_append_left (by simpa using this)]
              simp [hs]) (by rw [List.getElem?_append_right (by omega), hlen]; simp) rfl rfl (by omega) (hit ▸ h3) (hit ▸ h4) (hit ▸ h5)
          rw [h2 g w a a1, if_pos rfl]
          rw [← hit] at h6
          refine .inl (did_upon (a2 _ _ h6) (fun c w' hg => ?_) (fun ch w' hb => hZ ch a w' hI.dz hb))
          obtain ⟨x, p, g', k1, _⟩ := hg
          exact k1.elim
      · -- what stands behind it can't come up
        rcases hends with ⟨h1, _⟩ | ⟨o', fr, fr', hp, h1, h2, h3, h4, h5, h6, h7, h8⟩
        · omega
        · unfold allAfter at h8
          rw [List.all_eq_true] at h8
          have h9 := h8 i (by simpa using hlt)
          simp only [Bool.or_eq_true] at h9
          rcases h9 with h9 | h9
          · have := Nat.le_of_ble_eq_true h9; omega
          · have := hin _ (hprem _ hit h9); omega
end
end Go.Proofs.Ytmkbigaofhionaa
