/- What an operation's answer hangs on: its operands, some of the heap; no program. -/
import Derived.Test.YtmkbigaofhionaaAbsR
namespace Go.Proofs.Ytmkbigaofhionaa
open Go.RowKit
set_option linter.unusedVariables false
set_option linter.unusedSimpArgs false

def Agree (L : List Nat) (hp hp' : Heap) : Prop := ∀ k ∈ L, hp k = hp' k

theorem idsL_cons (a : AV) (l : List AV) : idsL (a :: l) = idsA a ++ idsL l := by simp only [idsL]

theorem stills_local {hp hp' : Heap} : ∀ {l : List AV}, Agree (idsL l) hp hp' → stills hp l = stills hp' l
  | [], _ => rfl
  | a :: l, h => by
    rw [idsL_cons] at h
    have ih := stills_local (l := l) (fun k hk => h k (List.mem_append_right _ hk))
    cases a <;> simp only [stills, ih]
    case own k => rw [h k (List.mem_append_left _ (by simp [idsA]))]

theorem loadA_local {hp hp' : Heap} {agg : Bool} {n : Nat} {a : AV} (h : Agree (idsA a) hp hp') : loadA hp agg n a = loadA hp' agg n a := by
  cases a <;> simp only [loadA]
  case ptr k off => rw [h k (by simp [idsA])]
  case oel k i sz off => rw [h k (by simp [idsA])]

theorem storeA_local {hp hp' : Heap} {n : Nat} {x a : AV} (h : Agree (idsA a) hp hp') (hx : Agree (idsL (avCells x)) hp hp') : storeA hp n x a = storeA hp' n x a := by
  cases a <;> simp only [storeA]
  case ptr k off => rw [h k (by simp [idsA])]
  case oel k i sz off =>
    rw [h k (by simp [idsA]), force_eq]
    cases hp' k with
    | none => rfl
    | some ob => cases ob <;> simp only [stills_local hx]

theorem asList_local {hp hp' : Heap} {t : Ty} {x : AV} (h : Agree (idsA x) hp hp') : asList hp t x = asList hp' t x := by
  cases x <;> try rfl
  case own k => simp only [asList, h k (by simp [idsA])]

theorem appendA_local {tt : TypeId → Option TInf} {hp hp' : Heap} {nx : Nat} {T T' : TypeId} {s x : AV} (hs : Agree (idsA s) hp hp') (hx : Agree (idsA x) hp hp') : appendA tt hp nx T T' s x = appendA tt hp' nx T T' s x := by
  simp only [appendA, fun t => asList_local (t := t) hx]
  cases s <;> try rfl
  case own k => simp only [hs k (by simp [idsA])]

theorem lenA_local {tt : TypeId → Option TInf} {hp hp' : Heap} {T : TypeId} {x : AV} (h : Agree (idsA x) hp hp') : lenA tt hp T x = lenA tt hp' T x := by
  cases x <;> try rfl
  case own k => simp only [lenA, h k (by simp [idsA])]

theorem indexAddrA_local {tt : TypeId → Option TInf} {hp hp' : Heap} {T : TypeId} {x i : AV} (h : Agree (idsA x) hp hp') : indexAddrA tt hp T x i = indexAddrA tt hp' T x i := by
  cases x <;> try rfl
  case own k => simp only [indexAddrA, h k (by simp [idsA])]

theorem appendStrA_local {tt : TypeId → Option TInf} {hp hp' : Heap} {nx : Nat} {T T' : TypeId} {s : AV} {x : ByteArray} (hs : Agree (idsA s) hp hp') : appendStrA tt hp nx T T' s x = appendStrA tt hp' nx T T' s x := by
  cases s <;> try rfl
  case own k => simp only [appendStrA, hs k (by simp [idsA])]
theorem convB_local {tt : TypeId → Option TInf} {hp hp' : Heap} {nx : Nat} {src dst : TypeId} {a : AV} (h : Agree (idsA a) hp hp') : convB tt hp nx src dst a = convB tt hp' nx src dst a := by
  simp only [convB, asList_local h]
theorem idsA_nb (a : AV) : idsA (nb a) = idsA a := by cases a <;> rfl

theorem lookupA_local {tt : TypeId → Option TInf} {hp hp' : Heap} {T : TypeId} {m x : AV} {ok : Bool} (h : Agree (idsA m) hp hp') : lookupA tt hp T m x ok = lookupA tt hp' T m x ok := by
  cases m <;> try rfl
  case mp k => simp only [lookupA, h k (by simp [idsA])]
theorem updateA_local {tt : TypeId → Option TInf} {hp hp' : Heap} {T : TypeId} {m x y : AV} (h : Agree (idsA m) hp hp') (hy : Agree (idsL (avCells y)) hp hp') : updateA tt hp T m x y = updateA tt hp' T m x y := by
  cases m <;> try rfl
  case mp k =>
    simp only [updateA, h k (by simp [idsA]), force_eq]
    cases hp' k with
    | none => rfl
    | some ob =>
      cases ob <;> try rfl
      cases mapT tt T with
      | none => rfl
      | some q => obtain ⟨a, b, c⟩ := q; simp only [stills_local hy]

theorem obIds_local {hp hp' : Heap} {k : Nat} (h : hp k = hp' k) : obIds hp k = obIds hp' k := by simp only [obIds, h]
theorem nextIds_local {hp hp' : Heap} : ∀ {l : List Nat}, Agree l hp hp' → nextIds hp l = nextIds hp' l
  | [], _ => rfl
  | k :: l, h => by simp only [nextIds, obIds_local (h k (by simp)), nextIds_local (l := l) (fun k hk => h k (by simp [hk]))]
theorem reach_local {hp hp' : Heap} : ∀ {n : Nat} {l : List Nat}, Agree (reach hp n l) hp hp' → reach hp n l = reach hp' n l
  | 0, l, _ => rfl
  | n + 1, l, h => by
    rw [reach_succ] at h ⊢
    rw [reach_succ]
    have e := nextIds_local (l := l) (fun k hk => h k (List.mem_append_left _ hk))
    rw [reach_local (n := n) (fun k hk => h k (List.mem_append_right _ hk)), e]
theorem memN_iff {k : Nat} : ∀ {L : List Nat}, memN k L = true ↔ k ∈ L
  | [] => by simp [memN]
  | i :: l => by
    simp only [memN]
    split
    · rename_i h; have := beq_eq h; subst this; simp
    · rename_i h
      rw [memN_iff (L := l)]
      constructor
      · intro h'; simp [h']
      · intro h'
        rcases List.mem_cons.1 h' with rfl | h'
        · simp at h
        · exact h'
theorem only_local {L : List Nat} {hp hp' : Heap} (h : Agree L hp hp') : only L hp = only L hp' := by
  funext k
  unfold only
  split
  · rename_i hk; exact h k (memN_iff.1 hk)
  · rfl

theorem callA_local {cx : Cx} {hp hp' : Heap} {nx : Nat} {f : AV} {args : List AV} (h : ∀ fn cap, f = .clo fn cap → Agree (reach hp 4 (idsL (args ++ cap))) hp hp') : callA cx hp nx f args = callA cx hp' nx f args := by
  cases f <;> try rfl
  case clo fn cap =>
    have := h fn cap rfl
    cases fn <;> try rfl
    case func g =>
      simp only [callA]
      cases cx.ga g with
      | none => rfl
      | some s => simp only [opt, force_eq, ← reach_local this, only_local this]

theorem builtinA_local {cx : Cx} {hp hp' : Heap} {nx : Nat} {b : Builtin} {ts : List TypeId} {args : List AV} (h : Agree (idsL args) hp hp') : builtinA cx hp nx b ts args = builtinA cx hp' nx b ts args := by
  unfold builtinA
  split
  · rw [lenA_local (fun k hk => h k (by simp [idsL_cons, hk]))]
  · rw [appendStrA_local (fun k hk => h k (by simp [idsL_cons, hk]))]
  · rw [appendA_local (fun k hk => h k (by simp [idsL_cons, hk])) (fun k hk => h k (by simp [idsL_cons, hk]))]
  · rfl
  · rfl
  · rfl

theorem opt_congr {α β : Type} {r : Option α} {f f' : α → R β} (h : ∀ a, r = some a → f a = f' a) : opt r f = opt r f' := by
  cases r with
  | none => rfl
  | some a => exact h a rfl

/-- The heap, but for what the operation names, may be another one. -/
theorem stepA_local {cx : Cx} {nx : Nat} {ev : Operand → Option AV} {hp hp' : Heap} {op : Op} (h : Agree (foot cx ev hp op) hp hp') : stepA cx nx ev hp op = stepA cx nx ev hp' op := by
  cases op <;> simp only [stepA, foot] at h ⊢
  case load T a =>
    refine opt_congr fun a' ha => opt_congr fun i hi => ?_
    rw [ha] at h
    rw [loadA_local h]
  case store T a x =>
    refine opt_congr fun a' ha => opt_congr fun x' hx => opt_congr fun i hi => ?_
    rw [ha, hx] at h
    exact storeA_local (fun k hk => h k (List.mem_append_left _ hk)) (fun k hk => h k (List.mem_append_right _ hk))
  case convert src dst x =>
    refine opt_congr fun x' hx => ?_
    rw [hx] at h
    exact convB_local (by rw [idsA_nb]; exact h)
  case lookup T m x ok =>
    refine opt_congr fun m' hm => opt_congr fun x' hx => ?_
    rw [hm] at h
    rw [lookupA_local h]
  case mapUpdate T m x y =>
    refine opt_congr fun m' hm => opt_congr fun x' hx => opt_congr fun y' hy => ?_
    rw [hm, hy] at h
    exact updateA_local (fun k hk => h k (List.mem_append_left _ hk)) (fun k hk => h k (List.mem_append_right _ hk))
  case insert T m x y =>
    refine opt_congr fun m' hm => opt_congr fun x' hx => opt_congr fun y' hy => ?_
    rw [hm, hy] at h
    exact updateA_local (fun k hk => h k (List.mem_append_left _ hk)) (fun k hk => h k (List.mem_append_right _ hk))
  case buildSlice T n parts =>
    refine opt_congr fun b hb => ?_
    rw [hb] at h
    obtain ⟨E, e, cs⟩ := b
    simp only
    rw [stills_local h]
  case indexAddr T x i =>
    refine opt_congr fun a' ha => opt_congr fun i' hi => ?_
    rw [ha] at h
    rw [indexAddrA_local h]
  case call c =>
    refine opt_congr fun args ha => ?_
    rw [ha] at h
    obtain ⟨callee, ops, ts⟩ := c
    cases callee with
    | value f =>
      refine opt_congr fun f' hf => ?_
      simp only [hf] at h
      rw [callA_local (fun fn cap e => by subst e; exact h)]
    | builtin b => exact builtinA_local h
    | invoke r m => rfl

theorem evs_ev {ev ev' : Operand → Option AV} : ∀ {xs : List Operand}, (∀ x ∈ xs, ev x = ev' x) → evs ev xs = evs ev' xs
  | [], _ => rfl
  | x :: r, h => by simp only [evs, h x (by simp), evs_ev (xs := r) (fun y hy => h y (by simp [hy]))]
theorem places_ev {pl : List (Nat × Nat)} {ev ev' : Operand → Option AV} : ∀ {ps : List (Nat × Operand)}, (∀ p ∈ ps, ev p.2 = ev' p.2) → places pl ev ps = places pl ev' ps
  | [], _ => rfl
  | (i, x) :: r, h => by simp only [places, h (i, x) (by simp), places_ev (ps := r) (fun y hy => h y (by simp [hy]))]
theorem placesN_ev {n : Nat} {ev ev' : Operand → Option AV} : ∀ {ps : List (Nat × Operand)}, (∀ p ∈ ps, ev p.2 = ev' p.2) → placesN n ev ps = placesN n ev' ps
  | [], _ => rfl
  | (i, x) :: r, h => by simp only [placesN, h (i, x) (by simp), placesN_ev (ps := r) (fun y hy => h y (by simp [hy]))]

/-- The operands that it does not name may be others. -/
theorem stepA_ev {cx : Cx} {nx : Nat} {ev ev' : Operand → Option AV} {hp : Heap} {op : Op} (h : ∀ x ∈ op.operands, ev x = ev' x) : stepA cx nx ev hp op = stepA cx nx ev' hp op := by
  cases op <;> simp only [Op.operands] at h <;> simp only [stepA]
  case build T ps => simp only [fun pl => places_ev (pl := pl) (ps := ps.toList) (fun p hp => h p.2 (by simp; exact ⟨p.1, by simpa using hp⟩))]
  case buildSlice T n ps => simp only [bsC, fun n => placesN_ev (n := n) (ps := ps.toList) (fun p hp => h p.2 (by simp; exact ⟨p.1, by simpa using hp⟩))]
  case makeFunc fn first cap => rw [evs_ev (xs := cap.toList) (fun x hx => h x (by simp; exact .inr (by simpa using hx)))]
  case call c =>
    rw [evs_ev (xs := c.args.toList) (fun x hx => h x (by simp [Call.operands]; exact .inr (by simpa using hx)))]
    obtain ⟨callee, ops, ts⟩ := c
    cases callee with
    | value f => simp only [h f (by simp [Call.operands])]
    | _ => rfl
  case slice T x lo hi mx => cases lo <;> cases hi <;> cases mx <;> simp_all
  all_goals first | rfl | (simp_all; done)

theorem foot_ev {cx : Cx} {ev ev' : Operand → Option AV} {hp : Heap} {op : Op} (h : ∀ x ∈ op.operands, ev x = ev' x) : foot cx ev hp op = foot cx ev' hp op := by
  cases op <;> simp only [Op.operands] at h <;> simp only [foot]
  case buildSlice T n ps => simp only [bsC, fun n => placesN_ev (n := n) (ps := ps.toList) (fun p hp => h p.2 (by simp; exact ⟨p.1, by simpa using hp⟩))]
  case call c =>
    rw [evs_ev (xs := c.args.toList) (fun x hx => h x (by simp [Call.operands]; exact .inr (by simpa using hx)))]
    obtain ⟨callee, ops, ts⟩ := c
    cases callee with
    | value f => simp only [h f (by simp [Call.operands])]
    | _ => rfl
  all_goals first | rfl | (simp_all; done)
end Go.Proofs.Ytmkbigaofhionaa
