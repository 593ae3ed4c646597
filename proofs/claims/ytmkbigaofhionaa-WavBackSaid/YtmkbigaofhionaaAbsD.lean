/- The abstract machine's operations: what each answers, what it asks, what it turns; no program. -/
import Derived.Test.YtmkbigaofhionaaAbs
namespace Go.Proofs.Ytmkbigaofhionaa
open Go.RowKit
set_option linter.unusedVariables false
set_option linter.unusedSimpArgs false

/-- An answer; something to be shown first; two ways; a panic; none. -/
inductive R (α : Type) where
  | ok (a : α)
  | need (p : Prop) (r : R α)
  | fact (p : Prop) (r : R α)
  | br (b : Bool) (x y : R α)
  | stop (T : TypeId) (x : AV)
  | bad

noncomputable def R.bind {α β : Type} (r : R α) (f : α → R β) : R β :=
  @R.rec α (fun _ => R β) (fun a => f a) (fun p _ ih => .need p ih) (fun p _ ih => .fact p ih) (fun b _ _ ihx ihy => .br b ihx ihy) (fun T x => .stop T x) .bad r

noncomputable def R.wp {α : Type} (r : R α) (K : α → Prop) (Z : TypeId → AV → Prop) : Prop :=
  @R.rec α (fun _ => Prop) (fun a => K a) (fun p _ ih => p ∧ ih) (fun p _ ih => p → ih) (fun b _ _ ihx ihy => (b = true → ihx) ∧ (b = false → ihy)) (fun T x => Z T x) False r
section
variable {α : Type} {K : α → Prop} {Z : TypeId → AV → Prop}
theorem R.wpE1 {a : α} : (R.ok a).wp K Z = K a := rfl
theorem R.wpE2 {p : Prop} {r : R α} : (R.need p r).wp K Z = (p ∧ r.wp K Z) := rfl
theorem R.wpE3 {p : Prop} {r : R α} : (R.fact p r).wp K Z = (p → r.wp K Z) := rfl
theorem R.wpE4 {b : Bool} {x y : R α} : (R.br b x y).wp K Z = ((b = true → x.wp K Z) ∧ (b = false → y.wp K Z)) := rfl
theorem R.wpE5 {T : TypeId} {x : AV} : (R.stop T x : R α).wp K Z = Z T x := rfl
theorem R.wpE6 : (R.bad : R α).wp K Z = False := rfl
end

theorem R.wp_bind {α β : Type} {f : α → R β} {K : β → Prop} {Z : TypeId → AV → Prop} : ∀ {r : R α}, (r.bind f).wp K Z → r.wp (fun a => (f a).wp K Z) Z
  | .ok a, h => h
  | .need p r, h => ⟨h.1, R.wp_bind (r := r) h.2⟩
  | .fact p r, h => fun hp => R.wp_bind (r := r) (h hp)
  | .br b x y, h => ⟨fun hb => R.wp_bind (r := x) (h.1 hb), fun hb => R.wp_bind (r := y) (h.2 hb)⟩
  | .stop T x, h => h
  | .bad, h => h
theorem R.wp_mono {α : Type} {K K' : α → Prop} {Z Z' : TypeId → AV → Prop} (hk : ∀ a, K a → K' a) (hz : ∀ T x, Z T x → Z' T x) : ∀ {r : R α}, r.wp K Z → r.wp K' Z'
  | .ok a, h => hk a h
  | .need p r, h => ⟨h.1, R.wp_mono hk hz (r := r) h.2⟩
  | .fact p r, h => fun hp => R.wp_mono hk hz (r := r) (h hp)
  | .br b x y, h => ⟨fun hb => R.wp_mono hk hz (r := x) (h.1 hb), fun hb => R.wp_mono hk hz (r := y) (h.2 hb)⟩
  | .stop T x, h => hz T x h
  | .bad, h => h

def opt {α β : Type} (r : Option α) (f : α → R β) : R β :=
  match r with
  | some a => f a
  | none => .bad

structure TInf where
  u : TypeDesc
  size : Nat
  bytes : Nat
  zero : Value
  code : Option Ty
  eq : Bool

abbrev Heap := Nat → Option OB
abbrev Pat := List (Nat × Option OB)
abbrev Out := AV × Pat
abbrev Spec := List AV → Heap → Nat → R Out

abbrev Fra := List (Nat × AV)

structure AS where
  fr : Fra
  hp : Pat
  nx : Nat

structure Cx where
  tt : TypeId → Option TInf
  ga : FuncId → Option Spec
  pin : Nat
  rf : Option (Code × (Fra → Pat → Nat → R AS)) := none

def isAggT : TypeDesc → Bool
  | .struct _ => true
  | .array _ _ => true
  | _ => false

/-- Without the number of a truth. -/
def nb : AV → AV
  | .bv _ b => .v (.bool b)
  | a => a
def nbS : AV → Option AV
  | .bv _ b => some (.v (.bool b))
  | .v x => some (.v x)
  | .ro t xs => some (.ro t xs)
  | .el t x off => some (.el t x off)
  | .own k => some (.own k)
  | .oel k i sz off => some (.oel k i sz off)
  | .ptr k off => some (.ptr k off)
  | .mp k => some (.mp k)
  | .clo fn cap => some (.clo fn cap)
  | .agg l => some (.agg l)
  | .tup l => some (.tup l)
  | .ifc T x => some (.ifc T x)
theorem nbS_eq (a : AV) : nbS a = some (nb a) := by cases a <;> rfl
/-- With one. -/
def tag (i : Nat) : AV → AV
  | .v (.bool b) => .bv i b
  | a => a

/-- A value's cells. -/
def avCells : AV → List AV
  | .agg l => l
  | .bv _ b => [.v (.bool b)]
  | .v (.agg cs) => cs.toList.map .v
  | a => [a]

def isAggV : AV → Bool
  | .agg _ => true
  | .tup _ => true
  | .v (.agg _) => true
  | .v (.tuple _) => true
  | _ => false

/-- A list, laid open. -/
def force {α : Type} : List α → Option (List α)
  | [] => some []
  | a :: l => match force l with
    | some r => some (a :: r)
    | none => none
theorem force_eq {α : Type} : ∀ (l : List α), force l = some l
  | [] => rfl
  | a :: l => by simp only [force, force_eq l]

def isStr : AV → Bool
  | .agg _ => true
  | .v (.agg _) => true
  | _ => false

/-- n cells from a place on. -/
def cut (l : List AV) (off n : Nat) : Option (List AV) :=
  match force ((l.drop off).take n) with
  | some r => match Nat.beq r.length n with
    | true => some r
    | false => none
  | none => none

def headOr (agg : Bool) : List AV → R AV
  | l => match agg with
    | true => .ok (.agg l)
    | false => match l with
      | [a] => .ok a
      | _ => .bad

def loadA (hp : Heap) (agg : Bool) (n : Nat) : AV → R AV
  | .ptr k off => match hp k with
    | some (.cells _ cs) => match cut cs off n with
      | some l => headOr agg l
      | none => .bad
    | _ => .bad
  | .el t x off => match cut (cellsAV t x) off n with
    | some l => headOr agg l
    | none => .bad
  | .oel k i sz off => match hp k with
    | some (.row _ t xs) => match Nat.beq t.cells sz with
      | true => match cut (cellsAV t (xs.getD i t.dflt)) off n with
        | some l => headOr agg l
        | none => .bad
      | false => .bad
    | _ => .bad
  | _ => .bad

/-- Rows in cells become data that stays. -/
def stills (hp : Heap) : List AV → Option (List AV × Pat)
  | [] => some ([], [])
  | .own k :: l => match hp k, stills hp l with
    | some (.row _ t xs), some (r, p) => some (.ro t xs :: r, (k, none) :: p)
    | _, _ => none
  | a :: l => match stills hp l with
    | some (r, p) => some (a :: r, p)
    | none => none

def decInt (k : IntKind) : List AV → Option (Int × List AV)
  | .v (.int j n) :: r => match decEq j k with
    | .isTrue _ => some (n, r)
    | .isFalse _ => none
  | _ => none
def decBool : List AV → Option (Bool × List AV)
  | .v (.bool b) :: r => some (b, r)
  | _ => none
def decStr : List AV → Option (ByteArray × List AV)
  | .v (.string s) :: r => some (s, r)
  | _ => none
def decSl (e : Ty) : List AV → Option (List e.Val × List AV)
  | .v (.slice none 0 0) :: r => some ([], r)
  | .ro t xs :: r => match decEq t e with
    | .isTrue h => some (h ▸ xs, r)
    | .isFalse _ => none
  | _ => none
/-- Cells read as a datum; and what is left. -/
def dec : (t : Ty) → List AV → Option (t.Val × List AV)
  | .int k => decInt k
  | .bool => decBool
  | .str => decStr
  | .slice _ e => decSl e
  | .unit => fun r => some ((), r)
  | .pair a b => fun l => match dec a l with
    | some (x, l1) => match dec b l1 with
      | some (y, l2) => some ((x, y), l2)
      | none => none
    | none => none
def decs (t : Ty) : Nat → List AV → Option (List t.Val)
  | 0 => fun l => match l with
    | [] => some []
    | _ :: _ => none
  | n + 1 => fun l => match dec t l with
    | some (x, r) => match decs t n r with
      | some xs => some (x :: xs)
      | none => none
    | none => none

def setAt (cs : List AV) (off : Nat) (l : List AV) : List AV := cs.take off ++ l ++ cs.drop (off + l.length)
def setAtF (cs : List AV) (off : Nat) (l : List AV) : Option (List AV) := force (setAt cs off l)

def storeA (hp : Heap) (n : Nat) (x : AV) : AV → R Out
  | .ptr k off => match hp k, force (avCells x) with
    | some (.cells T cs), some xc => match Nat.beq xc.length n && Nat.ble (off + n) cs.length && !xc.any isAggV with
      | true => match setAtF cs off xc with
        | some cs' => .ok (.v undef, [(k, some (.cells T cs'))])
        | none => .bad
      | false => .bad
    | _, _ => .bad
  | .oel k i sz off => match hp k, force (avCells x) with
    | some (.row E t xs), some xc => match Nat.beq xc.length n && Nat.ble (off + n) t.cells && Nat.beq t.cells sz && !xc.any isAggV with
      | true => match stills hp xc with
        | some (xc', []) => match dec t (setAt (cellsAV t (xs.getD i t.dflt)) off xc') with
          | some (y, []) => .ok (.v undef, [(k, some (.row E t (xs.set i y)))])
          | _ => .bad
        | _ => .bad
      | false => .bad
    | _, _ => .bad
  | _ => .bad

def cmpV (op : BinOp) (a b : Int) : R AV :=
  match op with
  | .eql => .ok (.v (.bool (a == b)))
  | .neq => .ok (.v (.bool (a != b)))
  | .lss => .ok (.v (.bool (decide (a < b))))
  | .leq => .ok (.v (.bool (decide (a ≤ b))))
  | .gtr => .ok (.v (.bool (decide (a > b))))
  | .geq => .ok (.v (.bool (decide (a ≥ b))))
  | _ => .bad

def arithV (op : BinOp) (k : IntKind) (a b : Int) : R AV :=
  match op with
  | .add => .ok (.v (.int k (k.wrap (a + b))))
  | .sub => .ok (.v (.int k (k.wrap (a - b))))
  | .mul => .ok (.v (.int k (k.wrap (a * b))))
  | .quo => .need (b ≠ 0) (.ok (.v (.int k (k.wrap (a.tdiv b)))))
  | .rem => .need (b ≠ 0) (.ok (.v (.int k (a.tmod b))))
  | .and => .ok (.v (.int k (bits .and k a b)))
  | .or => .ok (.v (.int k (bits .or k a b)))
  | .xor => .ok (.v (.int k (bits .xor k a b)))
  | .andNot => .ok (.v (.int k (bits .andNot k a b)))
  | op => cmpV op a b

def strV (op : BinOp) (a b : ByteArray) : R AV :=
  match op with
  | .add => .need (a.size + b.size ≤ 140737488355328) (.ok (.v (.string (a ++ b))))
  | .eql => .ok (.v (.bool (decide (a = b))))
  | .neq => .ok (.v (.bool (!decide (a = b))))
  | .lss => .ok (.v (.bool (Op.bytesLess a.toList b.toList)))
  | .geq => .ok (.v (.bool (!Op.bytesLess a.toList b.toList)))
  | _ => .bad

/-- Two structs of flat fields, one field behind the other. -/
def eqCells (tt : TypeId → Option TInf) (xs ys : List AV) : List Field → Option Bool
  | [] => some true
  | f :: fs => match tt f.type with
    | some j => match j.u, xs[f.offset]?, ys[f.offset]?, eqCells tt xs ys fs with
      | .string, some (.v (.string a)), some (.v (.string b)), some r => some (decide (a = b) && r)
      | .int _, some (.v (.int k a)), some (.v (.int k' b)), some r => match decEq k k' with
        | .isTrue _ => some ((a == b) && r)
        | .isFalse _ => none
      | .bool, some (.v (.bool a)), some (.v (.bool b)), some r => some ((a == b) && r)
      | _, _, _, _ => none
    | none => none

def binA (tt : TypeId → Option TInf) (op : BinOp) (T : TypeId) : AV → AV → R AV
  | .v (.int k a), .v (.int j b) => match op with
    | .shl => .need (0 ≤ b) (.ok (.v (.int k (k.wrap (a * 2 ^ (min b.toNat k.bits))))))
    | .shr => .need (0 ≤ b) (.ok (.v (.int k (a.fdiv (2 ^ (min b.toNat k.bits))))))
    | op => match decEq k j with
      | .isTrue _ => arithV op k a b
      | .isFalse _ => .bad
  | .v (.string a), .v (.string b) => strV op a b
  | .v (.bool a), .v (.bool b) => match tt T with
    | some i => match i.u, op with
      | .bool, .eql => .ok (.v (.bool (a == b)))
      | .bool, .neq => .ok (.v (.bool (!(a == b))))
      | _, _ => .bad
    | none => .bad
  | .agg xs, .agg ys => match tt T with
    | some i => match i.eq, i.u with
      | true, .struct fs => opt (eqCells tt xs ys fs.toList) fun b => match op with
        | .eql => .ok (.v (.bool b))
        | .neq => .ok (.v (.bool (!b)))
        | _ => .bad
      | _, _ => .bad
    | none => .bad
  | _, _ => .bad

def unA (op : UnOp) : AV → R AV
  | .v (.bool b) => match op with
    | .not => .ok (.v (.bool (!b)))
    | _ => .bad
  | .v (.int k a) => match op with
    | .neg => .ok (.v (.int k (k.wrap (0 - a))))
    | _ => .bad
  | _ => .bad

def convA (tt : TypeId → Option TInf) (src dst : TypeId) : AV → R AV
  | .v (.int _ a) => match tt src, tt dst with
    | some _, some i => match i.u with
      | .int k => .ok (.v (.int k (k.wrap a)))
      | _ => .bad
    | _, _ => .bad
  | .v (.string s) => match tt src, tt dst with
    | some _, some i => match i.u with
      | .string => .ok (.v (.string s))
      | _ => .bad
    | _, _ => .bad
  | _ => .bad

/-- The byte at a place. -/
def bAt (s : ByteArray) (i : Nat) : Int := ((s.data.toList.getD i 0).toNat : Int)

def intOr (d : Int) : Option AV → Option Int
  | none => some d
  | some (.v (.int _ n)) => some n
  | _ => none

def sliceA (tt : TypeId → Option TInf) (T : TypeId) (x : AV) (lo hi : Option AV) : R AV :=
  match tt T with
  | none => .bad
  | some i => match i.u, x with
    | .string, .v (.string s) => match intOr 0 lo, intOr s.size hi with
      | some l, some h => .need (0 ≤ l ∧ l ≤ h ∧ h ≤ s.size) (.ok (.v (.string (s.extract l.toNat h.toNat))))
      | _, _ => .bad
    | .slice E, .ro t xs => match tt E with
      | some e => match Nat.beq e.size t.cells with
        | true => match intOr 0 lo, intOr xs.length hi with
          | some l, some h => .need (0 ≤ l ∧ l ≤ h ∧ h ≤ xs.length) (.ok (.ro t ((xs.take h.toNat).drop l.toNat)))
          | _, _ => .bad
        | false => .bad
      | none => .bad
    | _, _ => .bad

def fieldOf (tt : TypeId → Option TInf) (T : TypeId) (f : Nat) : Option (Nat × Nat × Bool) :=
  match tt T with
  | none => none
  | some i => match i.u with
    | .struct fs => match fs.toList[f]? with
      | some f => match tt f.type with
        | some j => match j.size with
          | 0 => none
          | n + 1 => some (f.offset, n + 1, isAggT j.u)
        | none => none
      | none => none
    | _ => none

def moved (o : Nat) : AV → R AV
  | .ptr k off => .ok (.ptr k (off + o))
  | .el t x off => .ok (.el t x (off + o))
  | .oel k i sz off => .ok (.oel k i sz (off + o))
  | _ => .bad

def indexAddrA (tt : TypeId → Option TInf) (hp : Heap) (T : TypeId) (x i : AV) : R AV :=
  match i with
  | .v (.int _ i) => match tt T with
    | none => .bad
    | some j => match j.u with
      | .slice E => match tt E with
        | some e => match x with
          | .ro t xs => match Nat.beq e.size t.cells with
            | true => .need (0 ≤ i ∧ i < xs.length) (.ok (.el t (xs.getD i.toNat t.dflt) 0))
            | false => .bad
          | .own k => match hp k with
            | some (.row _ t xs) => match Nat.beq e.size t.cells with
              | true => .need (0 ≤ i ∧ i < xs.length) (.ok (.oel k i.toNat t.cells 0))
              | false => .bad
            | _ => .bad
          | _ => .bad
        | none => .bad
      | _ => .bad
  | _ => .bad

def indexA (tt : TypeId → Option TInf) (T : TypeId) : AV → AV → R AV
  | .v (.string s), .v (.int _ i) => match tt T with
    | some j => match j.u with
      | .string => .need (0 ≤ i ∧ i < s.size) (.ok (.v (.int .u8 (bAt s i.toNat))))
      | _ => .bad
    | none => .bad
  | _, _ => .bad

def fillA (cells : List AV) : List (Nat × Nat × List AV) → Option (List AV)
  | [] => some cells
  | (off, n, l) :: r => match Nat.beq l.length n && Nat.ble (off + n) cells.length with
    | true => match setAtF cells off l with
      | some cs => fillA cs r
      | none => none
    | false => none

def plsOf (tt : TypeId → Option TInf) : List Field → Option (List (Nat × Nat))
  | [] => some []
  | f :: r => match tt f.type, plsOf tt r with
    | some j, some l => some ((f.offset, j.size) :: l)
    | _, _ => none
def places (pl : List (Nat × Nat)) (ev : Operand → Option AV) : List (Nat × Operand) → Option (List (Nat × Nat × List AV))
  | [] => some []
  | (i, x) :: r => match pl[i]?, ev x, places pl ev r with
    | some q, some a, some l => some ((q.1, q.2, avCells a) :: l)
    | _, _, _ => none
def placesN (n : Nat) (ev : Operand → Option AV) : List (Nat × Operand) → Option (List (Nat × Nat × List AV))
  | [] => some []
  | (i, x) :: r => match ev x, placesN n ev r with
    | some a, some l => some ((i * n, n, avCells a) :: l)
    | _, _ => none

def repC (z : List AV) : Nat → List AV
  | 0 => []
  | n + 1 => z ++ repC z n

def evs (ev : Operand → Option AV) : List Operand → Option (List AV)
  | [] => some []
  | x :: r => match ev x, evs ev r with
    | some a, some l => match nbS a with
      | some a => some (a :: l)
      | none => none
    | _, _ => none

def isNil : Value → Bool
  | .slice none 0 0 => true
  | _ => false

def lenV (tt : TypeId → Option TInf) (T : TypeId) : Value → R AV
  | .string s => match tt T with
    | some j => match j.u with
      | .string => .ok (.v (.int .i64 s.size))
      | _ => .bad
    | none => .bad
  | .slice none 0 0 => match tt T with
    | some j => match j.u with
      | .slice _ => .ok (.v (.int .i64 0))
      | _ => .bad
    | none => .bad
  | _ => .bad

def lenA (tt : TypeId → Option TInf) (hp : Heap) (T : TypeId) : AV → R AV
  | .v x => lenV tt T x
  | .ro t xs => match tt T with
    | some j => match j.u with
      | .slice _ => .ok (.v (.int .i64 xs.length))
      | _ => .bad
    | none => .bad
  | .own k => match tt T with
    | some j => match j.u with
      | .slice _ => match hp k with
        | some (.row _ _ xs) => .ok (.v (.int .i64 xs.length))
        | _ => .bad
      | _ => .bad
    | none => .bad
  | _ => .bad

/-- A slice's elements, of a kind. -/
def asList (hp : Heap) (t : Ty) : AV → Option (List t.Val)
  | .v x => match isNil x with
    | true => some []
    | false => none
  | .ro u xs => match decEq u t with
    | .isTrue h => some (h ▸ xs)
    | .isFalse _ => none
  | .own k => match hp k with
    | some (.row _ u xs) => match decEq u t with
      | .isTrue h => some (h ▸ xs)
      | .isFalse _ => none
    | _ => none
  | _ => none

def zeroCells (i : TInf) : List AV := i.zero.cells.toList.map .v

/-- A string's bytes, as numbers; and back. -/
def bList (s : ByteArray) : List Int := s.data.toList.map fun b => ((b.toNat : Nat) : Int)
def sOf (xs : List Int) : ByteArray := ⟨(xs.map fun n => UInt8.ofNat n.toNat).toArray⟩
def bytesIn (xs : List Int) : Prop := ∀ x ∈ xs, 0 ≤ x ∧ x < 256
def isByte (e : TInf) : Bool :=
  match e.code, e.u, e.zero with
  | some (.int .u8), .int .u8, .int .u8 0 => Nat.beq e.bytes 1 && Nat.beq e.size 1
  | _, _, _ => false

def appendStrA (tt : TypeId → Option TInf) (hp : Heap) (nx : Nat) (T T' : TypeId) (s : AV) (x : ByteArray) : R Out :=
  match tt T, tt T' with
  | some i, some i' => match i.u, i'.u with
    | .slice E, .string => match tt E with
      | some e => match isByte e with
        | true => match s with
          | .v q => match isNil q with
            | true => .need (x.size ≤ 140737488355328) (.ok (.own nx, [(nx, some (.row E (.int .u8) (bList x)))]))
            | false => .bad
          | .own k => match hp k with
            | some (.row E' (.int .u8) xs) => match Nat.beq E E' with
              | true => .need ((xs : List Int).length + x.size ≤ 140737488355328) (.ok (.own nx, [(nx, some (.row E (.int .u8) ((xs : List Int) ++ bList x))), (k, none)]))
              | false => .bad
            | _ => .bad
          | _ => .bad
        | false => .bad
      | none => .bad
    | _, _ => .bad
  | _, _ => .bad

noncomputable def convB (tt : TypeId → Option TInf) (hp : Heap) (nx : Nat) (src dst : TypeId) (a : AV) : R Out :=
  match tt src, tt dst with
  | some i, some j => match i.u, j.u with
    | .string, .slice E => match tt E, a with
      | some e, .v (.string s) => match isByte e with
        | true => .need (s.size ≤ 140737488351232) (.ok (.own nx, [(nx, some (.row E (.int .u8) (bList s)))]))
        | false => .bad
      | _, _ => .bad
    | .slice E, .string => match tt E with
      | some e => match isByte e with
        | true => match asList hp (.int .u8) a with
          | some xs => .need (bytesIn xs) (.ok (.v (.string (sOf xs)), []))
          | none => .bad
        | false => .bad
      | none => .bad
    | _, _ => (convA tt src dst a).bind fun a => .ok (a, [])
  | _, _ => .bad

def makeA (tt : TypeId → Option TInf) (nx : Nat) (T : TypeId) (l c : AV) : R Out :=
  match l, c, tt T with
  | .v (.int _ l), .v (.int _ c), some i => match i.u with
    | .slice E => match tt E with
      | some e => match e.code with
        | some t => match dec t (zeroCells e) with
          | some (z, []) => .need (0 ≤ l ∧ l ≤ c ∧ (e.bytes : Int) * c ≤ 140737488355328) (.ok (.own nx, [(nx, some (.row E t (List.replicate l.toNat z)))]))
          | _ => .bad
        | none => .bad
      | none => .bad
    | _ => .bad
  | _, _, _ => .bad

def appendA (tt : TypeId → Option TInf) (hp : Heap) (nx : Nat) (T T' : TypeId) (s x : AV) : R Out :=
  match Nat.beq T T', tt T with
  | true, some i => match i.u with
    | .slice E => match tt E with
      | some e => match e.code with
        | some t => match asList hp t x with
          | some ys => match s with
            | .v q => match isNil q with
              | true => .need (ys.length * e.bytes ≤ 140737488355328) (.ok (.own nx, [(nx, some (.row E t ys))]))
              | false => .bad
            | .own k => match hp k with
              | some (.row E' u xs) => match Nat.beq E E', decEq u t with
                | true, .isTrue h => .need (((h ▸ xs : List t.Val).length + ys.length) * e.bytes ≤ 140737488355328) (.ok (.own nx, [(nx, some (.row E t ((h ▸ xs : List t.Val) ++ ys))), (k, none)]))
                | _, _ => .bad
              | _ => .bad
            | _ => .bad
          | none => .bad
        | none => .bad
      | none => .bad
    | _ => .bad
  | _, _ => .bad

def minmaxA (mx : Bool) : AV → AV → R AV
  | .v (.int k a), .v (.int j b) => match decEq k j with
    | .isTrue _ => .ok (.v (.int k (if mx then max a b else min a b)))
    | .isFalse _ => .bad
  | _, _ => .bad

def keyEq : (t : Ty) → t.Val → t.Val → Bool
  | .int _ => fun (a b : Int) => a == b
  | .bool => fun (a b : Bool) => a == b
  | .str => fun (a b : ByteArray) => decide (a = b)
  | _ => fun _ _ => false
def mapGet {kt et : Ty} (k : kt.Val) : List (kt.Val × et.Val) → Option et.Val
  | [] => none
  | p :: l => match keyEq kt k p.1 with
    | true => some p.2
    | false => mapGet k l
def mapPut {kt et : Ty} (k : kt.Val) (x : et.Val) : List (kt.Val × et.Val) → List (kt.Val × et.Val)
  | [] => [(k, x)]
  | p :: l => match keyEq kt k p.1 with
    | true => (k, x) :: l
    | false => p :: mapPut k x l
def keyKind (u : TypeDesc) (t : Ty) : Bool :=
  match u, t with
  | .int k, .int j => decide (k = j)
  | .string, .str => true
  | .bool, .bool => true
  | _, _ => false
/-- A map's type: the kinds of its keys and values, whether these are of cells, their type. -/
def mapT (tt : TypeId → Option TInf) (T : TypeId) : Option (Ty × Ty × TInf) :=
  match tt T with
  | some i => match i.u with
    | .map K E => match tt K, tt E with
      | some ki, some ei => match ki.code, ei.code with
        | some kt, some et => match keyKind ki.u kt with
          | true => some (kt, et, ei)
          | false => none
        | _, _ => none
      | _, _ => none
    | _ => none
  | none => none

noncomputable def lookupA (tt : TypeId → Option TInf) (hp : Heap) (T : TypeId) (m x : AV) (ok : Bool) : R AV :=
  match m with
  | .mp k => match hp k, mapT tt T with
    | some (.map ag kt et l), some (kt', et', ei) => match decEq kt kt', decEq et et', decEq ag (isStr (.v ei.zero)), dec kt [nb x], dec et (zeroCells ei) with
      | .isTrue _, .isTrue _, .isTrue _, some (key, []), some (z, []) => (headOr ag (cellsAV et ((mapGet key l).getD z))).bind fun v => match ok with
        | true => .ok (.tup [v, .v (.bool (mapGet key l).isSome)])
        | false => .ok v
      | _, _, _, _, _ => .bad
    | _, _ => .bad
  | _ => .bad

noncomputable def updateA (tt : TypeId → Option TInf) (hp : Heap) (T : TypeId) (m x y : AV) : R Out :=
  match m with
  | .mp k => match hp k, mapT tt T, force (avCells y) with
    | some (.map ag kt et l), some (kt', et', ei), some yc => match decEq kt kt', decEq et et', decEq ag (isStr y), decEq ag (isAggV y), dec kt [nb x], stills hp yc with
      | .isTrue _, .isTrue _, .isTrue _, .isTrue _, some (key, []), some (yc', p) => match dec et yc' with
        | some (d, []) => .ok (.v undef, (k, some (.map ag kt et (mapPut key d l))) :: p)
        | _ => .bad
      | _, _, _, _, _, _ => .bad
    | _, _, _ => .bad
  | _ => .bad

mutual
/-- The owned things that a value names. -/
def idsA : AV → List Nat
  | .own k => [k]
  | .oel k _ _ _ => [k]
  | .ptr k _ => [k]
  | .mp k => [k]
  | .clo _ l => idsL l
  | .agg l => idsL l
  | .tup l => idsL l
  | .ifc _ x => idsA x
  | _ => []
def idsL : List AV → List Nat
  | [] => []
  | a :: l => idsA a ++ idsL l
end
def obIds (hp : Heap) (k : Nat) : List Nat :=
  match hp k with
  | some (.cells _ cs) => idsL cs
  | _ => []
def nextIds (hp : Heap) : List Nat → List Nat
  | [] => []
  | k :: l => obIds hp k ++ nextIds hp l
/-- What is reached from some, in so many steps. -/
def reach (hp : Heap) : Nat → List Nat → List Nat
  | 0, l => l
  | n + 1, l => match force l with
    | some l => match force (nextIds hp l) with
      | some r => l ++ reach hp n r
      | none => []
    | none => []
theorem reach_succ (hp : Heap) (n : Nat) (l : List Nat) : reach hp (n + 1) l = l ++ reach hp n (nextIds hp l) := by simp only [reach, force_eq]
def memN (k : Nat) : List Nat → Bool
  | [] => false
  | i :: l => match Nat.beq i k with
    | true => true
    | false => memN k l
def only (L : List Nat) (hp : Heap) : Heap := fun k => match memN k L with
  | true => hp k
  | false => none

noncomputable def callA (cx : Cx) (hp : Heap) (nx : Nat) (f : AV) (args : List AV) : R Out :=
  match f with
  | .clo (.func g) cap => match cx.ga g with
    | some s => opt (force (args ++ cap)) fun l => opt (force (reach hp 4 (idsL l))) fun L => s l (only L hp) nx
    | none => .bad
  | _ => .bad

noncomputable def pureO (r : R AV) : R Out := r.bind fun a => .ok (a, [])

def tagR (i : Nat) : AV → R AV
  | .v (.bool b) => .ok (.bv i b)
  | a => .ok a
noncomputable def pureT (nx : Nat) (r : R AV) : R Out := r.bind fun a => (tagR nx a).bind fun a => .ok (a, [])

noncomputable def builtinA (cx : Cx) (hp : Heap) (nx : Nat) (b : Builtin) (ts : List TypeId) (args : List AV) : R Out :=
  match b, ts, args with
  | .len, [T], [x] => pureO (lenA cx.tt hp T x)
  | .append, [T, T'], [s, .v (.string x)] => appendStrA cx.tt hp nx T T' s x
  | .append, [T, T'], [s, x] => appendA cx.tt hp nx T T' s x
  | .min, _, [x, y] => pureO (minmaxA false x y)
  | .max, _, [x, y] => pureO (minmaxA true x y)
  | _, _, _ => .bad

def bsC (cx : Cx) (ev : Operand → Option AV) (T : TypeId) (n : Nat) (parts : Array (Nat × Operand)) : Option (TypeId × TInf × List AV) :=
  match cx.tt T with
  | some i => match i.u with
    | .slice E => match cx.tt E with
      | some e => match placesN e.size ev parts.toList with
        | some l => match fillA (repC (zeroCells e) n) l with
          | some cs => some (E, e, cs)
          | none => none
        | none => none
      | none => none
    | _ => none
  | none => none

noncomputable def stepA (cx : Cx) (nx : Nat) (ev : Operand → Option AV) (hp : Heap) : Op → R Out
  | .move x | .assign x => opt (ev x) fun a => .ok (a, [])
  | .pick c a b => opt (ev c) fun c => match nb c with
    | .v (.bool t) => .br t (opt (ev a) fun a => .ok (a, [])) (opt (ev b) fun b => .ok (b, []))
    | _ => .bad
  | .alloc T => opt (cx.tt T) fun i => opt (force (zeroCells i)) fun l => .ok (.ptr nx 0, [(nx, some (.cells T l))])
  | .box T x => opt (ev x) fun a => opt (force (avCells a)) fun l => .ok (.ptr nx 0, [(nx, some (.cells T l))])
  | .build T parts => opt (cx.tt T) fun i => match i.u with
    | .struct fs => opt (plsOf cx.tt fs.toList) fun pl => opt (places pl ev parts.toList) fun l => opt (fillA (zeroCells i) l) fun cs => .ok (.agg cs, [])
    | _ => .bad
  | .buildSlice T n parts => opt (bsC cx ev T n parts) fun b => match b with
    | (E, e, cs) => opt e.code fun t =>
      opt (stills hp cs) fun q => opt (decs t n q.1) fun xs => match Nat.ble (n * e.size) 16777216 && Nat.blt 0 n with
        | true => .ok (.own nx, (nx, some (.row E t xs)) :: q.2)
        | false => .bad
  | .load T a => opt (ev a) fun a => opt (cx.tt T) fun i => pureT nx (loadA hp (isAggT i.u) i.size a)
  | .store T a x => opt (ev a) fun a => opt (ev x) fun x => opt (cx.tt T) fun i => storeA hp i.size x a
  | .nilCheck x => opt (ev x) fun a => match a with
    | .ptr _ _ | .el _ _ _ | .oel _ _ _ _ | .clo (.func _) _ => .ok (a, [])
    | _ => .bad
  | .binOp op T x y _ => opt (ev x) fun a => opt (ev y) fun b => pureT nx (binA cx.tt op T (nb a) (nb b))
  | .unOp op _ x => opt (ev x) fun a => pureT nx (unA op (nb a))
  | .convert src dst x => opt (ev x) fun a => convB cx.tt hp nx src dst (nb a)
  | .makeSlice T l c => opt (ev l) fun l => opt (ev c) fun c => makeA cx.tt nx T l c
  | .makeInterface T x => opt (ev x) fun a => opt (cx.tt T) fun i => match i.u with
    | .interface _ => .bad
    | _ => .ok (.ifc T (nb a), [])
  | .makeFunc fn first cap => match first.toList with
    | [] => opt (evs ev cap.toList) fun l => .ok (.clo fn l, [])
    | _ => .bad
  | .slice T x lo hi mx => match mx with
    | none => opt (ev x) fun a => match lo, hi with
      | none, none => pureO (sliceA cx.tt T a none none)
      | some l, none => opt (ev l) fun l => pureO (sliceA cx.tt T a (some l) none)
      | none, some h => opt (ev h) fun h => pureO (sliceA cx.tt T a none (some h))
      | some l, some h => opt (ev l) fun l => opt (ev h) fun h => pureO (sliceA cx.tt T a (some l) (some h))
    | some _ => .bad
  | .fieldAddr T x f => opt (ev x) fun a => opt (fieldOf cx.tt T f) fun p => pureO (moved p.1 a)
  | .field T x f => opt (ev x) fun a => opt (fieldOf cx.tt T f) fun p => match isStr a with
    | true => opt (cut (avCells a) p.1 p.2.1) fun l => pureT nx (headOr p.2.2 l)
    | false => .bad
  | .indexAddr T x i => opt (ev x) fun a => opt (ev i) fun i => pureO (indexAddrA cx.tt hp T a i)
  | .index T x i => opt (ev x) fun a => opt (ev i) fun i => pureO (indexA cx.tt T a i)
  | .extract x i => opt (ev x) fun a => match a with
    | .tup l => opt (l[i]?) fun a => pureT nx (.ok a)
    | _ => .bad
  | .panic x => opt (ev x) fun a => match a with
    | .ifc T x => .stop T x
    | _ => .bad
  | .makeMap T r => match r with
    | none => opt (mapT cx.tt T) fun q => match q with
      | (kt, et, ei) => .ok (.mp nx, [(nx, some (.map (isAggT ei.u) kt et []))])
    | some _ => .bad
  | .lookup T m x ok => opt (ev m) fun m => opt (ev x) fun x => pureT nx (lookupA cx.tt hp T m x ok)
  | .mapUpdate T m x y => opt (ev m) fun m => opt (ev x) fun x => opt (ev y) fun y => updateA cx.tt hp T m x y
  | .insert T m x y => opt (ev m) fun m => opt (ev x) fun x => opt (ev y) fun y => updateA cx.tt hp T m x y
  | .call c => opt (evs ev c.args.toList) fun args => match c.callee with
    | .value f => opt (ev f) fun f => (callA cx hp nx f args).bind fun r => match r with
      | (a, p) => (tagR nx a).bind fun a => .ok (a, p)
    | .builtin b => builtinA cx hp nx b c.argTypes.toList args
    | .invoke _ _ => .bad
  | _ => .bad

/-- What an operation's answer may hang on. -/
def idsO : Option AV → List Nat
  | some a => idsA a
  | none => []
def idsC : Option AV → List Nat
  | some a => idsL (avCells a)
  | none => []
def foot (cx : Cx) (ev : Operand → Option AV) (hp : Heap) : Op → List Nat
  | .load _ a => idsO (ev a)
  | .store _ a x => idsO (ev a) ++ idsC (ev x)
  | .buildSlice T n parts => match bsC cx ev T n parts with
    | some q => idsL q.2.2
    | none => []
  | .indexAddr _ x _ => idsO (ev x)
  | .convert _ _ x => idsO (ev x)
  | .lookup _ m _ _ => idsO (ev m)
  | .mapUpdate _ m _ y => idsO (ev m) ++ idsC (ev y)
  | .insert _ m _ y => idsO (ev m) ++ idsC (ev y)
  | .call c => match evs ev c.args.toList with
    | some args => match c.callee with
      | .value f => match ev f with
        | some (.clo _ cap) => reach hp 4 (idsL (args ++ cap))
        | _ => []
      | _ => idsL args
    | none => []
  | _ => []

/-- Values of a type may be compared as they are. -/
def eqOK (P : Program) (T : TypeId) (i : TInf) : Bool := !i.eq || (!P.stoodInHeld T && !P.eqGuardType P.depth T && match i.u with
  | .struct fs => fs.toList.all fun f => f.name != "_"
  | _ => true)
/-- What is said of a program's types. -/
def TTok (P : Program) (tt : TypeId → Option TInf) : Prop :=
  ∀ T i, tt T = some i → P.underlying T = some i.u ∧ (∃ j, P.info? T = some j ∧ j.size = i.size ∧ j.bytes = i.bytes ∧ j.zero = some i.zero) ∧ i.zero.cells.size = i.size ∧ (i.zero.cells.all (·.oneCell') = true) ∧
    (∀ t, i.code = some t → t.cells = i.size ∧ 0 < i.size ∧ 0 < i.bytes) ∧ eqOK P T i = true

end Go.Proofs.Ytmkbigaofhionaa
