/- Bytes that the call owns, and strings: rows across frames, the conversion back. -/
import Derived.Test.YtekinbeiljmddaaSrcR
import Derived.Lib.AppendStr
import Derived.Lib.BufferRead
namespace Go.Proofs.Ytekinbeiljmddaa
open Go.RowKit Go.Conc Go.Lib
set_option linter.unusedVariables false
set_option linter.unusedSimpArgs false

theorem strCells_append (a b : ByteArray) : strCells (a ++ b) = strCells a ++ strCells b := by
  simp [strCells, ByteArray.data_append]
theorem size_zero_bytes {s : ByteArray} (h : s.size = 0) : s = ⟨#[]⟩ := by
  apply ByteArray.ext
  exact Array.eq_empty_of_size_eq_zero h

theorem conv_own {w : World} {base n : Nat} {v : Value} {s : ByteArray} (h : w.ownsRow base 5 1 v n (strCells s)) :
    (convert 89 9 v).run Try.prog w = .ok (.string s) w := by
  have hl : s.size = n := by have := h.1; rw [strCells_length] at this; omega
  rcases h.2 with ⟨h1, h2⟩ | ⟨g, cap, cur, h1, _⟩
  · subst h1
    rw [size_zero_bytes (hl.trans h2)]
    exact run_convert_nil_bytes (P := Try.prog) w 89 9 5 0 Try.underlying89 Try.underlying5 Try.underlying9
  · subst h1
    have hcv := run_convert_bytes_back (P := Try.prog) w 89 9 5 ⟨g, 0, none⟩ cap s.data.toList Try.underlying89 Try.underlying5 Try.underlying9
      (fun j hj => h.cells (g := g) rfl j _ (by rw [strCells, List.getElem?_map, List.getElem?_eq_getElem hj]; rfl))
    have hl2 : s.data.toList.length = n := by rw [Array.length_toList]; exact hl
    rw [hl2] at hcv
    simpa only [Array.toArray_toList] using hcv

theorem own_fr {F : Nat → Prop} {a b : World} {base n size : Nat} {e : TypeId} {v : Value} {xs : List Value} (h : a.ownsRow base e size v n xs) (hf : Fr F a b) (hn : ∀ k, v.ownBlock = some k → ¬ F k) : b.ownsRow base e size v n xs := by
  obtain ⟨hl, hx⟩ := h
  refine ⟨hl, ?_⟩
  rcases hx with hx | ⟨g, cp, cur, h5, h6, h7, h8⟩
  · exact .inl hx
  · exact .inr ⟨g, cp, cur, h5, h6, hf.blk h7 (hn g (by rw [h5]; rfl)), h8⟩

theorem own_block {w : World} {base n size : Nat} {e : TypeId} {v : Value} {xs : List Value} (h : w.ownsRow base e size v n xs) {k : Nat} (hk : v.ownBlock = some k) : ∃ cur, w.heap[k]? = some (.cells cur e (0, 0)) ∧ base ≤ k := by
  rcases h.2 with ⟨h1, _⟩ | ⟨g, cp, cur, h5, h6, h7, h8⟩
  · subst h1; simp [Value.ownBlock] at hk
  · subst h5; simp [Value.ownBlock] at hk; subst hk; exact ⟨cur, h7, h6⟩

theorem own_apart {w : World} {B C : Nat} {rv : Value} {s : ByteArray} {steps : List TStep.Val} {reads : List (Int × Int)} (h : SrcInv w B C rv s steps reads) {base n : Nat} {v : Value} {xs : List Value}
    (hv : w.ownsRow base 5 1 v n xs) : ∀ k, v.ownBlock = some k → ¬ SrcF B C rv k := by
  intro k hk hF
  obtain ⟨cur, hc, _⟩ := own_block hv hk
  obtain ⟨cap, sent, rcvd, hch⟩ := h.chan
  rcases hF with rfl | rfl | hr
  · have := h.obj; unfold Blk at this; rw [hc] at this; simp at this
  · unfold Blk at hch; rw [hc] at hch; simp at hch
  · obtain ⟨cur2, hc2, _⟩ := own_block h.row hr
    rw [hc] at hc2; simp at hc2

theorem extract_cat (s : ByteArray) {i j k : Nat} (h1 : i ≤ j) (h2 : j ≤ k) : s.extract i j ++ s.extract j k = s.extract i k := by
  rw [ByteArray.extract_append_extract]
  congr 1 <;> omega
end Go.Proofs.Ytekinbeiljmddaa
