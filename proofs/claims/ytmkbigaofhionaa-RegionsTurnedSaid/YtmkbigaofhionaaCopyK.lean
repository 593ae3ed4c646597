/- copy between rows whose elements have several cells; a row's block laid anew; no program. -/
import Derived.Test.YtmkbigaofhionaaFr
import Derived.Laws.CopyOwn
import Derived.Laws.CopyRow
import Derived.Laws.OwnMore
import Derived.Lib.AppendZerosOnto
import Derived.Lib.Overlaps
import Derived.Maps.AppendAt
import Derived.Shelf.Spec.SlicesInsert
import Derived.Shelf.Spec.SlicesInsertGrow
namespace Go.Proofs.Ytmkbigaofhionaa
open Go.RowKit
set_option linter.unusedVariables false
set_option linter.unusedSimpArgs false

theorem run_copy_rowK {P : Program} (w : World) (dT sT ty elem : TypeId) (K n g o dLen dCap : Nat) (a : Addr) (sLen sCap : Nat) (cur : Array Value) (t : TypeId) (cs : List Value)
    (hu : P.underlying dT = some (.slice elem)) (hs : (P.info? elem).map (·.size) = some K) (hm : Nat.min sLen dLen = n)
    (hg : w.heap[g]? = some (.cells cur t (0, 0))) (hn : cs.length = n * K)
    (hsrc : ∀ j v, cs[j]? = some v → w.cell? (a.add j) = some v) (hfit : o + cs.length ≤ cur.size) (h1 : ∀ v ∈ cs, v.oneCell' = true) :
    (Builtin.copy_ #[dT, sT] ty #[.slice (some ⟨g, o, none⟩) dLen dCap, .slice (some a) sLen sCap]).run P w =
      .ok (goInt n) (w.setRow g (cur.toList.take o ++ cs ++ cur.toList.drop (o + cs.length)).toArray) := by
  have hl := run_loadCells_list (P := P) w a cs hsrc
  have hst := run_storeCells_at P g o t cs 0 cur w hg (by simpa using hfit) h1
  cases hq : P.info? elem with
  | none => simp [hq] at hs
  | some i =>
    have hi : i.size = K := by simpa [hq] using hs
    simp [Builtin.copy_, run_underlying hu, Builtin.lenOf, Builtin.firstCells, sizeOf, typeInfo, hq, hi, hm, ← hn, hl, hst]

theorem grownBy_setRow {w : World} (g : Nat) (cs : Array Value) : w.grownBy (w.setRow g cs) (some g) :=
  ⟨rfl, rfl, rfl, by simp [World.setRow], fun k _ hk => setRow_other w g k cs (by intro h; exact hk (by rw [h]))⟩

theorem run_copy_K {P : Program} (w : World) (dT sT ty elem : TypeId) (K n g o dLen dCap : Nat) (a : Addr) (sLen sCap : Nat) (cur : List Value) (t : TypeId) (cs : List Value)
    (hu : P.underlying dT = some (.slice elem)) (hs : (P.info? elem).map (·.size) = some K) (hm : Nat.min sLen dLen = n)
    (hg : Blk w g (.cells cur.toArray t (0, 0))) (hn : cs.length = n * K)
    (hsrc : ∀ j v, cs[j]? = some v → w.cell? (a.add j) = some v) (hfit : o + cs.length ≤ cur.length) (h1 : ∀ v ∈ cs, v.oneCell' = true) :
    ∃ w', (Builtin.copy_ #[dT, sT] ty #[.slice (some ⟨g, o, none⟩) dLen dCap, .slice (some a) sLen sCap]).run P w = .ok (goInt n) w' ∧ Blk w' g (.cells (splice cur o cs).toArray t (0, 0)) ∧ w.grownBy w' (some g) := by
  refine ⟨_, run_copy_rowK w dT sT ty elem K n g o dLen dCap a sLen sCap cur.toArray t cs hu hs hm hg hn hsrc (by simpa using hfit) h1, ?_, grownBy_setRow _ _⟩
  have := setRow_heap w g cur.toArray ((cur.take o ++ cs ++ cur.drop (o + cs.length)).toArray) t _ hg
  simpa [Blk, splice] using this

theorem wpList_copy_K {P : Program} {w : World} {ops : Array Oper} {rest : List Oper} {o : Oper} {a : Act} {Q : Exit → Act → World → Prop} (hgd : o.guard = none) (d s : Operand) (dT sT : TypeId)
    (ho : o.op = .call { callee := .builtin .copy, args := #[d, s], argTypes := #[dT, sT] }) (elem : TypeId) (K n : Nat) (hu : P.underlying dT = some (.slice elem)) (hsz : (P.info? elem).map (·.size) = some K)
    (g off dLen dCap : Nat) (ad : Addr) (sLen sCap : Nat) (hd : a.eval d = .slice (some ⟨g, off, none⟩) dLen dCap) (hs : a.eval s = .slice (some ad) sLen sCap) (hm : Nat.min sLen dLen = n)
    (cur : List Value) (t : TypeId) (hg : Blk w g (.cells cur.toArray t (0, 0))) (cs : List Value) (hn : cs.length = n * K)
    (hsrc : ∀ j v, cs[j]? = some v → w.cell? (ad.add j) = some v) (hfit : off + cs.length ≤ cur.length) (h1 : ∀ v ∈ cs, v.oneCell' = true)
    (h : ∀ w', Blk w' g (.cells (splice cur off cs).toArray t (0, 0)) → w.grownBy w' (some g) → wpList P ops Q rest (a.put o.dst (goInt n)) w') : wpList P ops Q (o :: rest) a w := by
  refine wpList_plain hgd fun K' hK => ?_
  obtain ⟨w', hrun, h2, h3⟩ := run_copy_K (P := P) w dT sT o.type elem K n g off dLen dCap ad sLen sCap cur t cs hu hsz hm hg hn hsrc hfit h1
  unfold Oper.wp
  simp [execOp, ho, resolve, invoke, builtin, hd, hs, hrun, Result.andThen]
  exact hK _ _ (h w' h2 h3)

/-- The same as one step of a region that draws its order. -/
theorem step_copy_K {P : Program} {ops : Array Oper} {o : Oper} {a : Act} {w : World} {K' : Act → World → Prop} {Q : Exit → Act → World → Prop} {E : Prop} (hgd : o.guard = none) (d s : Operand) (dT sT : TypeId)
    (ho : o.op = .call { callee := .builtin .copy, args := #[d, s], argTypes := #[dT, sT] }) (elem : TypeId) (K n : Nat) (hu : P.underlying dT = some (.slice elem)) (hsz : (P.info? elem).map (·.size) = some K)
    (g off dLen dCap : Nat) (ad : Addr) (sLen sCap : Nat) (hd : a.eval d = .slice (some ⟨g, off, none⟩) dLen dCap) (hs : a.eval s = .slice (some ad) sLen sCap) (hm : Nat.min sLen dLen = n)
    (cur : List Value) (t : TypeId) (hg : Blk w g (.cells cur.toArray t (0, 0))) (cs : List Value) (hn : cs.length = n * K)
    (hsrc : ∀ j v, cs[j]? = some v → w.cell? (ad.add j) = some v) (hfit : off + cs.length ≤ cur.length) (h1 : ∀ v ∈ cs, v.oneCell' = true)
    (h : ∀ w', Blk w' g (.cells (splice cur off cs).toArray t (0, 0)) → w.grownBy w' (some g) → K' (a.put o.dst (goInt n)) w') :
    if Region.wanted o (yielded ops a.tmps) = true then Oper.wp P o a w K' Q else E := by
  have hw : Region.wanted o (yielded ops a.tmps) = true := by simp [Region.wanted, hgd]
  rw [if_pos hw]
  obtain ⟨w', hrun, h2, h3⟩ := run_copy_K (P := P) w dT sT o.type elem K n g off dLen dCap ad sLen sCap cur t cs hu hsz hm hg hn hsrc hfit h1
  unfold Oper.wp
  simp [execOp, ho, resolve, invoke, builtin, hd, hs, hrun, Result.andThen]
  exact h w' h2 h3

/-- append(s[:n], make(S, k)...), where there is no room: a new row, of which the first cells are s's. -/
theorem wpList_append_zerosK {P : Program} {w : World} {ops : Array Oper} {rest : List Oper} {o : Oper} {a : Act} {Q : Exit → Act → World → Prop} (hgd : o.guard = none) (s x : Operand) (t tn : TypeId)
    (ho : o.op = .call { callee := .builtin .append, args := #[s, x], argTypes := #[t, tn] }) (e : TypeId) (i : TypeInfo) (z : Value) (K bytes : Nat) (kn : IntKind)
    (ht : P.underlying t = some (.slice e)) (htn : P.underlying tn = some (.int kn)) (hi : P.info? e = some i) (hz : i.zero = some z) (hsize : i.size = K) (hby : i.bytes = bytes) (hzs : z.cells.size = K) (hK : 0 < K)
    (ad : Addr) (n c k N : Nat) (kx : Int) (hs : a.eval s = .slice (some ad) n c) (hx : a.eval x = .int .i64 kx) (hkx : kx = (k : Int)) (olds : List Value) (hol : olds.length = n * K) (hold : ∀ j v, olds[j]? = some v → w.cell? (ad.add j) = some v)
    (hN : n + k = N) (hk : 0 < k) (hroom : c < N) (hbig : N * bytes ≤ 140737488355328) (hb0 : 0 < bytes)
    (h : ∀ w' cap, ∀ row : List Value, Blk w' w.heap.size (.cells (olds ++ row).toArray e (0, 0)) → (olds ++ row).length = cap * K → N ≤ cap → cap ≤ maxLen → w.grownBy w' none → w.heap.size < w'.heap.size → wpList P ops Q rest (a.put o.dst (.slice (some ⟨w.heap.size, 0, none⟩) N cap)) w') : wpList P ops Q (o :: rest) a w := by
  subst hsize
  subst hby
  subst hkx
  subst hN
  have hlen : n + k ≤ 140737488355328 := Nat.le_trans (Nat.le_mul_of_pos_right _ hb0) hbig
  have ho' : (Builtin.firstCells i.size n (.slice (some ad) n c)).run P w.drew = .ok olds.toArray w.drew := by
    exact run_firstCells_some w.drew i.size n ad n c olds hol (fun j v hj => hold j v hj)
  have hr := Lib.run_append_grow_zeros w t tn o.type e i z .i64 kn ht htn hi hz (some ad) n c olds ho' k hk hK (by omega) (by omega) (by
    have : k * i.bytes ≤ (n + k) * i.bytes := Nat.mul_le_mul_right _ (by omega)
    omega) (growslice_fits (by omega) (by omega))
  have hcap := grownCap_ge w (n + k) c e
  have hcap2 := grownCap_le_maxLen w (n + k) c e (by unfold maxLen; omega)
  refine Lib.wpList_append_run _ hgd _ _ _ _ ho _ _ hs hx _ _ hr ?_
  refine h _ _ (Builtin.zeroCells z.cells k ++ Builtin.zeroCells z.cells (grownCap w (n + k) c e - (n + k))).toList ?_ ?_ hcap hcap2 ?_ (by simp)
  · have := Blk.new w.drew (.cells (olds.toArray ++ Builtin.zeroCells z.cells k ++ Builtin.zeroCells z.cells (grownCap w (n + k) c e - (n + k))) e)
    have e1 : (olds ++ (Builtin.zeroCells z.cells k ++ Builtin.zeroCells z.cells (grownCap w (n + k) c e - (n + k))).toList).toArray = olds.toArray ++ Builtin.zeroCells z.cells k ++ Builtin.zeroCells z.cells (grownCap w (n + k) c e - (n + k)) := by
      apply Array.ext'; simp
    rw [e1]
    exact this
  · rw [List.length_append, hol, Array.length_toList, Array.size_append, size_zeroCells, size_zeroCells, hzs, ← Nat.add_mul, ← Nat.add_mul]
    congr 1; omega
  · exact (show w.grownBy w.drew none from ⟨rfl, rfl, rfl, Nat.le_refl _, fun _ _ _ => rfl⟩).trans (World.grownBy_alloc _ _ _)

theorem splice_take {α : Type} (L cs : List α) (p m : Nat) (hm : p + cs.length = m) (hL : m ≤ L.length) : (splice L p cs).take m = L.take p ++ cs := by
  subst hm
  unfold splice
  have h1 : (L.take p).length = p := by rw [List.length_take]; omega
  rw [← List.append_assoc, List.take_append_of_le_length (by rw [List.length_append, h1]; exact Nat.le_refl _)]
  exact List.take_of_length_le (by rw [List.length_append, h1]; exact Nat.le_refl _)
theorem splice_two {α : Type} (X row news Y : List α) (p q N : Nat) (hX : X.length = p) (hq : p + news.length = q) (hN : q + Y.length = N) (hl : N ≤ (X ++ row).length) :
    (splice (splice (X ++ row) p news) q Y).take N = X ++ news ++ Y := by
  have h1 := length_splice (X ++ row) p news (by omega)
  rw [splice_take _ _ _ _ hN (by omega), splice_take _ _ _ _ hq (by omega), ← hX, List.take_left]
theorem grown_new {w w1 w2 : World} {g : Nat} (h : w.grownBy w1 none) (k : w1.grownBy w2 (some g)) (hg : w.heap.size ≤ g) : w.grownBy w2 none :=
  ⟨k.os.trans h.os, k.tape.trans h.tape, k.output.trans h.output, Nat.le_trans h.size k.size, fun i hi _ => (k.block i (Nat.lt_of_lt_of_le hi h.size) (by intro e; have := Option.some.inj e; omega)).trans (h.block i hi (by simp))⟩
theorem grown_any {w w1 : World} {row : Option Nat} (h : w.grownBy w1 none) : w.grownBy w1 row := ⟨h.os, h.tape, h.output, h.size, fun i hi _ => h.block i hi (by simp)⟩
theorem splice_over {α : Type} (cur Y news : List α) (p q N : Nat) (hq : p + news.length = q) (hN : q + Y.length = N) (hl : N ≤ cur.length) :
    (splice (splice cur q Y) p news).take N = cur.take p ++ news ++ Y := by
  have hq1 : (cur.take q).length = q := by rw [List.length_take]; omega
  have e1 : (splice cur q Y).take p = cur.take p := by
    unfold splice
    rw [List.take_append_of_le_length (by omega), List.take_take, Nat.min_eq_left (by omega)]
  have e2 : (splice cur q Y).drop q = Y ++ cur.drop (q + Y.length) := by
    unfold splice
    conv => lhs; rw [← hq1]
    rw [hq1, List.drop_append, hq1, List.drop_eq_nil_of_le (by omega)]
    simp
  have hp1 : (cur.take p).length = p := by rw [List.length_take]; omega
  show ((splice cur q Y).take p ++ (news ++ (splice cur q Y).drop (p + news.length))).take N = _
  rw [e1, hq, e2, ← List.append_assoc, ← List.append_assoc, List.take_append_of_le_length (by simp only [List.length_append, hp1]; omega)]
  exact List.take_of_length_le (by simp only [List.length_append, hp1]; omega)
end Go.Proofs.Ytmkbigaofhionaa
