/- Contracts of package src: New. -/
import Derived.Test.YtekinbeiljmddaaSrc
import Derived.Deep.DeepCutAuto
import Derived.Maps.AppendAt
namespace Go.Proofs.Ytekinbeiljmddaa
open Go.RowKit Go.Conc
set_option linter.unusedVariables false
set_option linter.unusedSimpArgs false

def stepV (x : TStep.Val) : Value := .agg #[.int .i64 x.1, .int .i64 x.2.1]

theorem info_step : (Try.prog.info? 63).map (fun i => (i.zero, i.size, i.bytes)) = some (some (.agg #[.int .i64 0, .int .i64 0]), 2, 16) := by kernel_rfl

theorem mk_chan (n : Nat) (h : n ≤ 1000) (w : World) : (Instr.makeChan 81 (.int .i64 n)).run Try.prog w = .ok (.chan (some w.heap.size)) (w.alloc (.chan n #[] false 0 0 false)) := by
  obtain ⟨i0, hi, hz0, hz1, hz2⟩ := info_parts info_step
  have hu := Try.underlying81
  have w1 : IntKind.i64.wrap (n : Int) = (n : Int) := IntWalk.i64_in _ (by omega)
  have w3 : ¬ (281474976710544 < (16 : Int) * (n : Int)) := by omega
  have w4 : ¬ (9223372036854775807 < (n : Int)) := by omega
  have w2 : ¬ (n : Int) < 0 := by omega
  have hm : IntKind.i64.max = 9223372036854775807 := rfl
  simp [Instr.makeChan, run_underlying hu, asInt, asIntOf, typeInfo, hi, hz2, w1, w2, w3, w4, hm]

def spanV (r : Int × Int) : List Value := [.int .i64 r.1, .int .i64 r.2]

/-- A source in memory: its struct at block B, its script's channel at C, its reads' slice rv. -/
structure SrcInv (w : World) (B C : Nat) (rv : Value) (s : ByteArray) (steps : List TStep.Val) (reads : List (Int × Int)) : Prop where
  lt : C < B
  obj : Blk w B (.cells #[.string s, .chan (some C), rv] 83 (0, 0))
  chan : ∃ cap sent rcvd, Blk w C (.chan cap (steps.map stepV).toArray false sent rcvd false)
  row : w.ownsRow (B + 1) 77 2 rv reads.length (reads.flatMap spanV)

/-- Of what was there only blocks of F have turned. -/
structure Fr (F : Nat → Prop) (w w' : World) : Prop where
  os : w'.os = w.os
  tape : w'.tape = w.tape
  output : w'.output = w.output
  size : w.heap.size ≤ w'.heap.size
  block : ∀ k, k < w.heap.size → ¬ F k → w'.heap[k]? = w.heap[k]?
theorem Fr.refl (F : Nat → Prop) (w : World) : Fr F w w := ⟨rfl, rfl, rfl, Nat.le_refl _, fun _ _ _ => rfl⟩
theorem Fr.trans {F F' : Nat → Prop} {a b c : World} (h : Fr F a b) (k : Fr F' b c) (hF : ∀ k, F' k → F k ∨ a.heap.size ≤ k) : Fr F a c :=
  ⟨k.os.trans h.os, k.tape.trans h.tape, k.output.trans h.output, Nat.le_trans h.size k.size, fun i hi hn => (k.block i (Nat.lt_of_lt_of_le hi h.size) (fun h1 => by rcases hF i h1 with h2 | h2; exact hn h2; omega)).trans (h.block i hi hn)⟩
theorem Fr.of_below {F : Nat → Prop} {a b : World} (h : Below a.heap.size a b) : Fr F a b := ⟨h.os, h.tape, h.output, h.size, fun k hk _ => h.block k hk⟩
theorem Fr.then_below {F : Nat → Prop} {a b c : World} (h : Fr F a b) (k : Below b.heap.size b c) : Fr F a c := h.trans (F' := fun _ => False) (Fr.of_below k) (fun _ h => h.elim)
theorem Fr.alloc {F : Nat → Prop} {a b : World} (h : Fr F a b) (o : Obj) : Fr F a (b.alloc o) := h.then_below (bel_alloc (bel_refl _) o)
theorem Fr.drew {F : Nat → Prop} {a b : World} (h : Fr F a b) : Fr F a b.drew := ⟨h.os, h.tape, h.output, h.size, h.block⟩
theorem Fr.drewN {F : Nat → Prop} {a b : World} (h : Fr F a b) (n : Nat) : Fr F a (b.drewN n) := ⟨h.os, h.tape, h.output, h.size, h.block⟩
theorem Fr.setCell {F : Nat → Prop} {a b : World} (h : Fr F a b) {p : Addr} (hp : F p.block ∨ a.heap.size ≤ p.block) (v : Value) : Fr F a (b.setCell p v) :=
  h.trans (F' := fun k => k = p.block) ⟨rfl, rfl, rfl, by simp [World.setCell], fun k _ hk => Below.heap_setCell _ _ _ _ hk⟩ (fun k hk => hk ▸ hp)
theorem Fr.setChan {F : Nat → Prop} {a b : World} (h : Fr F a b) {c : Nat} (hp : F c ∨ a.heap.size ≤ c) (cap : Nat) (buf : Array Value) (cl : Bool) (s r : Nat) (tm : Bool) : Fr F a (b.setChan c cap buf cl s r tm) :=
  h.trans (F' := fun k => k = c) ⟨rfl, rfl, rfl, by simp [World.setChan], fun k _ hk => by simp only [World.setChan]; rw [Array.getElem?_setIfInBounds_ne (fun h => hk h.symm)]⟩ (fun k hk => hk ▸ hp)
theorem Fr.grown {F : Nat → Prop} {a b c : World} {row : Option Nat} (h : Fr F a b) (k : b.grownBy c row) (hr : ∀ x, row = some x → F x ∨ a.heap.size ≤ x) : Fr F a c :=
  h.trans (F' := fun k => row = some k) ⟨k.os, k.tape, k.output, k.size, fun i hi hn => k.block i hi (fun e => hn e.symm)⟩ (fun k hk => hr k hk)
theorem Fr.blk {F : Nat → Prop} {a b : World} (h : Fr F a b) {k : Nat} {o : Obj} (hk : Blk a k o) (hn : ¬ F k) : Blk b k o := by
  unfold Blk; rw [h.block k hk.lt hn]; exact hk
/-- A source's own blocks. -/
def SrcF (B C : Nat) (rv : Value) (k : Nat) : Prop := k = B ∨ k = C ∨ rv.ownBlock = some k

theorem owns_slice {w : World} {base e size n : Nat} {v : Value} {xs : List Value} (h : w.ownsRow base e size v n xs) : ∃ a c, v = .slice a n c := by
  rcases h.2 with ⟨h1, h2⟩ | ⟨g, cap, cur, h1, _⟩
  · exact ⟨none, 0, by rw [h1, h2]⟩
  · exact ⟨_, _, h1⟩
theorem blk_grown {w w' : World} {b : Nat} {o : Obj} {row : Option Nat} (h : Blk w b o) (hg : w.grownBy w' row) (hn : row ≠ some b) : Blk w' b o := by
  unfold Blk; rw [hg.block b h.lt (fun e => hn e.symm)]; exact h

theorem fr_below {F : Nat → Prop} {a b : World} {base : Nat} (h : Fr F a b) (hF : ∀ k, F k → base ≤ k) (hb : base ≤ a.heap.size) : Below base a b :=
  ⟨h.os, h.tape, h.output, h.size, fun k hk => h.block k (by omega) (fun h1 => by have := hF k h1; omega)⟩
theorem srcF_ge {B C : Nat} {rv : Value} {base : Nat} (hC : base ≤ C) (hB : C < B) (hr : ∀ k, rv.ownBlock = some k → base ≤ k) : ∀ k, SrcF B C rv k → base ≤ k := by
  rintro k (h | h | h)
  · omega
  · omega
  · exact hr k h

def NewPost (s : ByteArray) (xs : TSteps.Val) (w : World) (e : Ending) (w' : World) : Prop :=
  ∃ B C, e = .returned (.tuple #[.pointer (some ⟨B, 0, none⟩), .int .i64 0]) ∧ w.heap.size ≤ C ∧ SrcInv w' B C (.slice none 0 0) s xs [] ∧ Below w.heap.size w w'

set_option maxHeartbeats 1000000 in
theorem new_ok (s : ByteArray) (xs : TSteps.Val) (a : Option Addr) (cap : Nat) (w : World) (h : Rep w TSteps xs [.slice a xs.length cap]) (hl : xs.length ≤ 1000) (hf : (xs.any fun x => !fineB x) = false) :
    Calls Try.prog 13 #[.string s, .slice a xs.length cap] w (NewPost s xs w) := by
  have hB := bel_refl w
  have hmc := mk_chan xs.length hl
  have hd1 : decide ((1000 : Int) < (xs.length : Int)) = false := decide_eq_false (by omega)
  go_enter Try.func13, Try.ntmps13
  go_wp2_with (go_at_call 41; with_reducible refine (anyBad_any xs a cap _ h).mono ?_; rintro e w1 ⟨rfl, hb⟩; have hB : Below w.heap.size w w1 := bel_trans (by repeat (first | exact hB | refine bel_alloc ?_ _ | refine below_drewN ?_ _ | refine Below.drew ?_ | refine bel_set ?_ (by simp; omega) _)) hb; have hc := (bcell hb).1; have hs0 := hb.size; (try simp only [heap_size_alloc', heap_size_drewN', heap_size_drew'] at hs0))
  clear hmc hc
  go_loopw [8, 21] (fun _ v21 wr => ∃ k : Nat, k ≤ xs.length ∧ v21 = .int .i64 k ∧ Blk wr w1.heap.size (.chan xs.length ((xs.take k).map stepV).toArray false k 0 false) ∧ Below w.heap.size w wr) (fun _ v21 _ => xs.length - (intOf v21).toNat)
  case atStart => exact ⟨0, by omega, rfl, Blk.new w1 _, (by repeat (first | exact hB | refine bel_alloc ?_ _ | refine below_drewN ?_ _ | refine Below.drew ?_ | refine bel_set ?_ (by simp; omega) _))⟩
  case round =>
    obtain ⟨k, hk, rfl, hch, hB⟩ := hrel
    by_cases hlt : k < xs.length
    · have hr := Rep.below hB h
      obtain ⟨b, o, rfl, hb, hc1, hc2⟩ := step_cells hr hlt
      go_upto_region 7 with (fail)
      refine semOps_region ?_
      show SemOps _ _ _ [0, 1, 2] _ _
      refine semOps_val rfl rfl (v := .chan (some w1.heap.size)) ?_ ?_
      · go_simp
      refine semOps_val rfl rfl (v := stepV xs[k]) ?_ ?_
      · go_simp
        rfl
      go_simp
      refine semOps_send rfl rfl (c := w1.heap.size) (cap := xs.length) (s := k) (r := 0) (buf := ((xs.take k).map stepV).toArray) (v := stepV xs[k]) (z := .tuple #[]) (tm := false) ?_ ?_ ?_ ?_
      · go_simp
      · exact hch.alloc _
      · simp; omega
      refine semOps_nil ?_
      have htk : ((xs.take k).map stepV).toArray.push (stepV xs[k]) = ((xs.take (k + 1)).map stepV).toArray := by
        rw [List.take_succ_eq_append_getElem hlt, List.push_toArray, List.map_append]; rfl
      have hnx : Blk ((wr.alloc (.cells #[.int .i64 xs[k].1, .int .i64 xs[k].2.1] 63)).setChan w1.heap.size xs.length (((xs.take k).map stepV).toArray.push (stepV xs[k])) false (k + 1) 0 false) w1.heap.size (.chan xs.length ((xs.take (k + 1)).map stepV).toArray false (k + 1) 0 false) := by
        rw [htk]; exact blk_setChan (hch.alloc _) _ _ _ _ _ _
      have Hnx := hid hnx
      clear hnx htk
      have hB' := Go.Conc.below_setChan (c := w1.heap.size) (bel_alloc hB (.cells #[.int .i64 xs[k].1, .int .i64 xs[k].2.1] 63)) (by omega) xs.length (((xs.take k).map stepV).toArray.push (stepV xs[k])) false (k + 1) 0 false
      generalize (wr.alloc (.cells #[.int .i64 xs[k].1, .int .i64 xs[k].2.1] 63)).setChan w1.heap.size xs.length (((xs.take k).map stepV).toArray.push (stepV xs[k])) false (k + 1) 0 false = wz at *
      go_wp2
      go_roundw
      case rel => exact ⟨k + 1, by omega, by go_num, Hnx.out, hB'⟩
      case measure => simp [intOf]; omega
    · have hk' : k = xs.length := by omega
      subst hk'
      go_wp2
      go_ret2
      refine ⟨wr.heap.size, w1.heap.size, rfl, by omega, ⟨hch.lt, Blk.new wr _, ⟨xs.length, xs.length, 0, ?_⟩, by simp, .inl ⟨rfl, rfl⟩⟩, bel_alloc hB _⟩
      have := hch.alloc (.cells #[.string s, .chan (some w1.heap.size), .slice none 0 0] 83)
      rw [List.take_length] at this
      exact this

theorem new_no (s : ByteArray) (xs : TSteps.Val) (a : Option Addr) (cap : Nat) (w : World) (h : Rep w TSteps xs [.slice a xs.length cap]) (hn : 1000 < xs.length ∨ (xs.any fun x => !fineB x) = true) :
    Calls Try.prog 13 #[.string s, .slice a xs.length cap] w fun e w' => e = .returned (.tuple #[.pointer none, .int .i64 1]) ∧ Below w.heap.size w w' := by
  have hB := bel_refl w
  have hl := slice_len h
  by_cases h1 : 1000 < xs.length
  · clear hn
    go_enter Try.func13, Try.ntmps13
    go_wp2
    go_ret2
    exact ⟨rfl, hB⟩
  · have hb := hn.resolve_left h1
    clear hn
    go_enter Try.func13, Try.ntmps13
    go_wp2_with (go_at_call 41; with_reducible refine (anyBad_any xs a cap _ h).mono ?_; rintro e w1 ⟨rfl, hb⟩; have hB : Below w.heap.size w w1 := bel_trans (by repeat (first | exact hB | refine bel_alloc ?_ _ | refine below_drewN ?_ _ | refine Below.drew ?_ | refine bel_set ?_ (by simp; omega) _)) hb; have hc := (bcell hb).1; have hs0 := hb.size; (try simp only [heap_size_alloc', heap_size_drewN', heap_size_drew'] at hs0))
    go_ret2
    exact ⟨rfl, hB⟩

/-- What next answers: the script's next step. -/
def nextS : List TStep.Val → TStep.Val
  | [] => (0, 0, ())
  | x :: _ => x

def NextPost (B C : Nat) (rv : Value) (s : ByteArray) (steps : List TStep.Val) (reads : List (Int × Int)) (w : World) (e : Ending) (w' : World) : Prop :=
  e = .returned (.agg #[.int .i64 (nextS steps).1, .int .i64 (nextS steps).2.1]) ∧ SrcInv w' B C rv s steps.tail reads ∧ Fr (fun k => k = C) w w'

theorem SrcInv.keep {w w' : World} {B C : Nat} {rv : Value} {s : ByteArray} {steps : List TStep.Val} {reads : List (Int × Int)} (h : SrcInv w B C rv s steps reads) {F : Nat → Prop} (hf : Fr F w w')
    (hB : ¬ F B) (hC : ¬ F C) (hr : ∀ k, rv.ownBlock = some k → ¬ F k) : SrcInv w' B C rv s steps reads := by
  obtain ⟨h1, h2, ⟨cap, sent, rcvd, h3⟩, h4⟩ := h
  refine ⟨h1, hf.blk h2 hB, ⟨cap, sent, rcvd, hf.blk h3 hC⟩, ?_⟩
  obtain ⟨hl, hx⟩ := h4
  refine ⟨hl, ?_⟩
  rcases hx with hx | ⟨g, cp, cur, h5, h6, h7, h8⟩
  · exact .inl hx
  · exact .inr ⟨g, cp, cur, h5, h6, hf.blk h7 (hr g (by rw [h5]; rfl)), h8⟩

theorem SrcInv.chan' {w w' : World} {B C : Nat} {rv : Value} {s : ByteArray} {steps steps' : List TStep.Val} {reads : List (Int × Int)} (h : SrcInv w B C rv s steps reads) (hf : Fr (fun k => k = C) w w')
    (hc : ∃ cap sent rcvd, Blk w' C (.chan cap (steps'.map stepV).toArray false sent rcvd false)) : SrcInv w' B C rv s steps' reads := by
  obtain ⟨h1, h2, h3, h4⟩ := h
  refine ⟨h1, hf.blk h2 (by omega), hc, ?_⟩
  obtain ⟨hl, hx⟩ := h4
  refine ⟨hl, ?_⟩
  rcases hx with hx | ⟨g, cp, cur, h5, h6, h7, h8⟩
  · exact .inl hx
  · exact .inr ⟨g, cp, cur, h5, h6, hf.blk h7 (by omega), h8⟩

set_option maxHeartbeats 1000000 in
theorem next_any {B C : Nat} {rv : Value} {s : ByteArray} {steps : List TStep.Val} {reads : List (Int × Int)} (w : World) (h : SrcInv w B C rv s steps reads) :
    Calls Try.prog 45 #[.pointer (some ⟨B, 0, none⟩)] w (NextPost B C rv s steps reads w) := by
  obtain ⟨cap, sent, rcvd, hch⟩ := h.chan
  have hc0 : w.cell? ⟨B, 1, none⟩ = some (.chan (some C)) := by rw [h.obj.cell]; rfl
  have hBl := h.obj.lt
  have hCl := hch.lt
  cases steps with
  | nil =>
    go_enter Try.func45, Try.ntmps45
    go_upto_region 2 with (fail)
    refine semOps_region ?_
    show SemOps _ _ _ [0, 1, 2] _ _
    refine semOps_default rfl rfl (c := C) (cap := cap) (s := sent) (r := rcvd) (z := .agg #[.int .i64 0, .int .i64 0]) (tm := false) ?_ ?_ ?_
    · go_simp
    · exact hch.alloc _
    go_simp
    refine semOps_val rfl rfl (v := .int .i64 (-1)) ?_ ?_
    · go_simp
    go_simp
    refine semOps_val rfl rfl (v := .bool false) ?_ ?_
    · go_simp
    go_simp
    refine semOps_nil ?_
    go_wp2
    refine bodyPost_ret (v := .agg #[.int .i64 0, .int .i64 0]) (by simp [results, Try.results45, go_sem]) rfl ⟨rfl, ?_, ?_⟩
    · exact h.keep (F := fun _ => False) (Fr.alloc (Fr.refl _ _) _) (fun h => h) (fun h => h) (fun _ _ h => h)
    · exact Fr.alloc (Fr.refl _ _) _
  | cons x r =>
    go_enter Try.func45, Try.ntmps45
    go_upto_region 2 with (fail)
    refine semOps_region ?_
    show SemOps _ _ _ [0, 1, 2] _ _
    refine semOps_recv rfl rfl (c := C) (cap := cap) (s := sent) (r := rcvd) (buf := (stepV x :: r.map stepV).toArray) (z := .agg #[.int .i64 0, .int .i64 0]) (tm := false) (closed := false) ?_ ?_ ?_ ?_
    · go_simp
    · exact hch.alloc _
    · simp
    have hnb : (stepV x :: r.map stepV).toArray.extract 1 (stepV x :: r.map stepV).toArray.size = (r.map stepV).toArray := by
      apply Array.ext'
      simp only [Array.toList_extract, List.extract, List.size_toArray, List.length_cons, List.drop_succ_cons, List.drop_zero]
      exact List.take_of_length_le (by simp)
    have hgd : (stepV x :: r.map stepV).toArray.getD 0 undef = stepV x := by simp
    rw [hnb, hgd]
    have hF := (Fr.alloc (Fr.refl (fun k => k = C) w) (.cells #[.int .i64 0, .int .i64 0] 63)).setChan (c := C) (.inl rfl) cap (r.map stepV).toArray false sent (rcvd + 1) false
    have hc2 := blk_setChan (hch.alloc (.cells #[.int .i64 0, .int .i64 0] 63)) cap (r.map stepV).toArray false sent (rcvd + 1) false
    have hn2 := blk_setChan_other (c := C) (Blk.new w (.cells #[.int .i64 0, .int .i64 0] 63)) (by omega) cap (r.map stepV).toArray false sent (rcvd + 1) false
    have hz2 : ((w.alloc (.cells #[.int .i64 0, .int .i64 0] 63)).setChan C cap (r.map stepV).toArray false sent (rcvd + 1) false).heap.size = w.heap.size + 1 := by rw [Go.Conc.size_setChan]; simp
    generalize (w.alloc (.cells #[.int .i64 0, .int .i64 0] 63)).setChan C cap (r.map stepV).toArray false sent (rcvd + 1) false = wz at *
    have hsv : stepV x = .agg #[.int .i64 x.1, .int .i64 x.2.1] := rfl
    rw [hsv]
    go_simp
    refine semOps_val rfl rfl (v := .int .i64 0) ?_ ?_
    · go_simp
    go_simp
    refine semOps_val rfl rfl (v := .bool true) ?_ ?_
    · go_simp
    go_simp
    refine semOps_nil ?_
    have hn3 := hn2.cell 0
    have hn4 := hn2.cell 1
    have hf3 := hn2.frozen 0
    have hf4 := hn2.frozen 1
    simp at hn3 hn4
    have Hz := hid hz2
    have hz3 : w.heap.size < wz.heap.size := by omega
    clear hz2
    have hn5 := ((hn2.setCell_same 0 (.int .i64 x.1)).setCell_same 1 (.int .i64 x.2.1)).alloc (.cells #[.int .i64 x.1, .int .i64 x.2.1] 63)
    have r0 := hn5.cell 0
    have r1 := hn5.cell 1
    simp at r0 r1
    have Hr := hid (And.intro r0 r1)
    clear hn5 r0 r1
    go_wp2
    have hF' := ((hF.setCell (p := ⟨w.heap.size, 0, none⟩) (.inr (Nat.le_refl _)) (.int .i64 x.1)).setCell (p := ⟨w.heap.size, 1, none⟩) (.inr (Nat.le_refl _)) (.int .i64 x.2.1)).alloc (.cells #[.int .i64 x.1, .int .i64 x.2.1] 63)
    have hc2' := ((hc2.setCell_other (a := ⟨w.heap.size, 0, none⟩) (.int .i64 x.1) (by simp; omega)).setCell_other (a := ⟨w.heap.size, 1, none⟩) (.int .i64 x.2.1) (by simp; omega)).alloc (.cells #[.int .i64 x.1, .int .i64 x.2.1] 63)
    have r0 := Hr.out.1
    have r1 := Hr.out.2
    refine bodyPost_ret (v := .agg #[.int .i64 x.1, .int .i64 x.2.1]) (by simp [results, Try.results45, go_sem, r0, r1]) rfl ⟨rfl, h.chan' hF' ⟨_, _, _, hc2'⟩, hF'⟩

end Go.Proofs.Ytekinbeiljmddaa
