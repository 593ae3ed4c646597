/- Channels in one goroutine, for the walk: a region of which one operation communicates (a send with room, a receive that finds something or takes the default); no program. -/
import Derived.Test.YtekinbeiljmddaaBase
import Derived.Conc.LoneCalls
namespace Go.Proofs.Ytekinbeiljmddaa
open Go.RowKit Go.Conc
set_option linter.unusedVariables false
set_option linter.unusedSimpArgs false

/-- The operations of a region that are left, from this frame and world on. -/
def SemOps (P : Program) (ops : Array Oper) (Q : Exit → Act → World → Prop) (l : List Nat) (a : Act) (w : World) : Prop :=
  ∀ (b : Frame) (k : List Item) (cs : List Frame), ∃ e a' w', Q e a' w' ∧ Arrives P (lone (b.at a (.inRegion ops l :: k)) cs w) b k cs e a' w'

section
variable {P : Program} {ops : Array Oper} {Q : Exit → Act → World → Prop} {a : Act} {w w' : World} {i : Nat} {rest l : List Nat} {o : Oper}

theorem semOps_wp (h : wpOps P ops Q l a w) : SemOps P ops Q l a w := fun b k cs => wp_ops l a w h b k cs

theorem semOps_region {id : Nat} (h : SemOps P ops Q (List.range ops.size) a w) : (Code.region id ops false).wp P Q a w :=
  fun b k cs => let ⟨e, a', w', q, r⟩ := h b k cs; ⟨e, a', w', q, .of_steps (.one step_region) r⟩

theorem semOps_value {v : Value} (ho : ops[i]? = some o) (hw : o.guard = none) (hr : (execOp a.eval o).run P w = .ok (.value v) w')
    (h : SemOps P ops Q rest (a.put o.dst v) w') : SemOps P ops Q (i :: rest) a w := by
  intro b k cs
  obtain ⟨e, a', w'', hq, harr⟩ := h b k cs
  have hw' : Region.wanted o (yielded ops a.tmps) = true := by simp [Region.wanted, hw]
  have hg := stepG_op (P := P) (b := b) (k := k) (cs := cs) (w := w) (rest := rest) ho hw'
  have hfin : (b.at a (.inRegion ops (i :: rest) :: k)).finish v = b.at (a.put o.dst v) (.inRegion ops rest :: k) := by rw [Frame.finish_at, ho]; rfl
  refine ⟨e, a', w'', hq, .of_steps (.one (step_lone_go ?_)) harr⟩
  rw [hg, ← hfin]; simp [stepG.apply, hr]

theorem semOps_val {v : Value} (ho : ops[i]? = some o) (hw : o.guard = none) (hr : (execOp a.eval o).run P w = .ok (.value v) w)
    (h : SemOps P ops Q rest (a.put o.dst v) w) : SemOps P ops Q (i :: rest) a w := semOps_value ho hw hr h

theorem semOps_nil (h : Q .normal a w) : SemOps P ops Q [] a w := semOps_wp h

theorem stepG_comm {cases : Array CommCase} {blocking : Bool} {shape : CommShape} {b : Frame} {k : List Item} {cs : List Frame} (ho : ops[i]? = some o) (hw : o.guard = none)
    (hr : (execOp a.eval o).run P w = .ok (.comm cases blocking shape) w) : ∃ es,
    stepG P true (G (b.at a (.inRegion ops (i :: rest) :: k)) cs) w = .comm (G (b.at a (.inRegion ops (i :: rest) :: k)) cs) cases blocking shape w es := by
  have hw' : Region.wanted o (yielded ops a.tmps) = true := by simp [Region.wanted, hw]
  have hg := stepG_op (P := P) (b := b) (k := k) (cs := cs) (w := w) (rest := rest) ho hw'
  have hg' : stepG P true (G (b.at a (.inRegion ops (i :: rest) :: k)) cs) w = stepG.apply P true (b.at a (.inRegion ops (i :: rest) :: k)) cs none (execOp a.eval o) w := hg
  rw [hg']
  simp [stepG.apply, hr, G, GStep.after]

theorem semOps_send {c cap s r : Nat} {buf : Array Value} {v z : Value} {tm : Bool} (ho : ops[i]? = some o) (hw : o.guard = none)
    (hr : (execOp a.eval o).run P w = .ok (.comm #[{ chan := .chan (some c), send := some v, zero := z }] true .send) w)
    (hc : w.heap[c]? = some (.chan cap buf false s r tm)) (hroom : buf.size < cap)
    (h : SemOps P ops Q rest (a.put o.dst undef) (w.setChan c cap (buf.push v) false (s + 1) r tm)) : SemOps P ops Q (i :: rest) a w := by
  intro b k cs
  obtain ⟨e, a', w'', hq, harr⟩ := h b k cs
  have hfin : (b.at a (.inRegion ops (i :: rest) :: k)).finish undef = b.at (a.put o.dst undef) (.inRegion ops rest :: k) := by rw [Frame.finish_at, ho]; rfl
  obtain ⟨es, hg⟩ := stepG_comm (P := P) (b := b) (k := k) (cs := cs) (rest := rest) ho hw hr
  refine ⟨e, a', w'', hq, .of_steps (.one ?_) harr⟩
  rw [← hfin]
  exact step_lone_send_room hg hc hroom

theorem semOps_default {c cap s r : Nat} {z : Value} {tm : Bool} (ho : ops[i]? = some o) (hw : o.guard = none)
    (hr : (execOp a.eval o).run P w = .ok (.comm #[{ chan := .chan (some c), send := none, zero := z }] false .select) w)
    (hc : w.heap[c]? = some (.chan cap #[] false s r tm))
    (h : SemOps P ops Q rest (a.put o.dst (.tuple #[goInt (-1), .bool false, z])) w) : SemOps P ops Q (i :: rest) a w := by
  intro b k cs
  obtain ⟨e, a', w'', hq, harr⟩ := h b k cs
  have hfin : (b.at a (.inRegion ops (i :: rest) :: k)).finish (.tuple #[goInt (-1), .bool false, z]) = b.at (a.put o.dst (.tuple #[goInt (-1), .bool false, z])) (.inRegion ops rest :: k) := by rw [Frame.finish_at, ho]; rfl
  obtain ⟨es, hg⟩ := stepG_comm (P := P) (b := b) (k := k) (cs := cs) (rest := rest) ho hw hr
  refine ⟨e, a', w'', hq, .of_steps (.one ?_) harr⟩
  rw [← hfin]
  exact step_lone_select_default hg hc

theorem step_lone_select_recv {fr : Frame} {cs : List Frame} {w₁ : World} {es : Array Event} {c cap s r : Nat} {buf : Array Value} {z : Value} {tm closed : Bool}
    (h : stepG P true (G fr cs) w = .comm (G fr cs) #[rcase c z] false .select w₁ es) (hc : w₁.heap[c]? = some (.chan cap buf closed s r tm)) (hsome : 0 < buf.size) :
    step P (solo (G fr cs) w) = .next (solo (G (fr.finish (.tuple #[goInt 0, .bool true, buf.getD 0 undef])) cs) (w₁.setChan c cap (buf.extract 1 buf.size) closed s (r + 1) tm)) := by
  have hp := partners_alone (c := c) true
  rw [step, stepT_solo rfl]
  simp [runT, solo, G, Array.swapAt!, Array.swapAt, h, GStep.es, communicate, ways, rcase, hc, hp, hsome, choose, Sem.run, Question.forced, bind, Sem.bind, pure, Goroutine.finishComm, commResult, World.setChan] at h ⊢

theorem semOps_recv {c cap s r : Nat} {buf : Array Value} {z : Value} {tm closed : Bool} (ho : ops[i]? = some o) (hw : o.guard = none)
    (hr : (execOp a.eval o).run P w = .ok (.comm #[{ chan := .chan (some c), send := none, zero := z }] false .select) w)
    (hc : w.heap[c]? = some (.chan cap buf closed s r tm)) (hsome : 0 < buf.size)
    (h : SemOps P ops Q rest (a.put o.dst (.tuple #[goInt 0, .bool true, buf.getD 0 undef])) (w.setChan c cap (buf.extract 1 buf.size) closed s (r + 1) tm)) : SemOps P ops Q (i :: rest) a w := by
  intro b k cs
  obtain ⟨e, a', w'', hq, harr⟩ := h b k cs
  have hfin : (b.at a (.inRegion ops (i :: rest) :: k)).finish (.tuple #[goInt 0, .bool true, buf.getD 0 undef]) = b.at (a.put o.dst (.tuple #[goInt 0, .bool true, buf.getD 0 undef])) (.inRegion ops rest :: k) := by rw [Frame.finish_at, ho]; rfl
  obtain ⟨es, hg⟩ := stepG_comm (P := P) (b := b) (k := k) (cs := cs) (rest := rest) ho hw hr
  refine ⟨e, a', w'', hq, .of_steps (.one ?_) harr⟩
  rw [← hfin]
  exact step_lone_select_recv hg hc hsome
end

theorem blk_setChan {w : World} {c : Nat} {o : Obj} (h : Blk w c o) (cap : Nat) (buf : Array Value) (cl : Bool) (s r : Nat) (tm : Bool) : Blk (w.setChan c cap buf cl s r tm) c (.chan cap buf cl s r tm) :=
  heap_setChan w c cap buf cl s r tm h.lt
theorem blk_setChan_other {w : World} {b c : Nat} {o : Obj} (h : Blk w b o) (hbc : b ≠ c) (cap : Nat) (buf : Array Value) (cl : Bool) (s r : Nat) (tm : Bool) : Blk (w.setChan c cap buf cl s r tm) b o := by
  unfold Blk World.setChan at *
  rw [Array.getElem?_setIfInBounds_ne (fun h => hbc h.symm)]; exact h

end Go.Proofs.Ytekinbeiljmddaa
