/- What a RIFF file's form and chunks are, in plain words; no program. -/
import Derived.Test.YtmkbigaofhionaaWinU
namespace Go.Proofs.Ytmkbigaofhionaa
open Go.RowKit
set_option linter.unusedVariables false
set_option linter.unusedSimpArgs false

abbrev Chunk := ByteArray × ByteArray
def chunkC (c : Chunk) : List Value := [.string c.1, .string c.2]

/-- Is a byte one that is seen? -/
def seenB (n : Nat) : Bool := decide (32 ≤ n ∧ n ≤ 126)
def typeB (s : ByteArray) : Bool := decide (s.size = 4) && s.data.toList.all fun b => seenB b.toNat

/-- The number of four bytes, the lowest first. -/
def u32 (s : ByteArray) (p : Nat) : Nat := valF (s.extract p (p + 4)) 4 false 4
theorem u32_lt (s : ByteArray) (p : Nat) : u32 s p < 4294967296 := by have := valF_lt (s.extract p (p + 4)) 4 false 4; unfold u32; omega

/-- The chunks from a place on, and why there are none. -/
def chunksS (s : ByteArray) : Nat → Nat → List Chunk × Int
  | 0, _ => ([], 0)
  | f + 1, p =>
    if s.size ≤ p then ([], 0) else if s.size - p < 8 then ([], 2) else if typeB (s.extract p (p + 4)) = false then ([], 3)
    else if s.size - (p + 8) < u32 s (p + 4) + u32 s (p + 4) % 2 then ([], 2)
    else if u32 s (p + 4) % 2 = 1 ∧ bget s (p + 8 + u32 s (p + 4)) ≠ 0 then ([], 3)
    else if (chunksS s f (p + 8 + (u32 s (p + 4) + u32 s (p + 4) % 2))).2 = 0 then ((s.extract p (p + 4), s.extract (p + 8) (p + 8 + u32 s (p + 4))) :: (chunksS s f (p + 8 + (u32 s (p + 4) + u32 s (p + 4) % 2))).1, 0)
    else ([], (chunksS s f (p + 8 + (u32 s (p + 4) + u32 s (p + 4) % 2))).2)

def riffB (s : ByteArray) : Bool := decide (s.extract 0 4 = ⟨#[82, 73, 70, 70]⟩)

/-- Split's answer: the form, the chunks, and why there are none. -/
def splitS (s : ByteArray) : ByteArray × List Chunk × Int :=
  if s.size < 12 then (⟨#[]⟩, [], 2) else if riffB s = false ∨ typeB (s.extract 8 12) = false then (⟨#[]⟩, [], 3)
  else if s.size - 8 < u32 s 4 then (⟨#[]⟩, [], 2) else if u32 s 4 < s.size - 8 then (⟨#[]⟩, [], 3)
  else if (chunksS s (s.size + 1) 12).2 = 0 then (s.extract 8 12, (chunksS s (s.size + 1) 12).1, 0) else (⟨#[]⟩, [], (chunksS s (s.size + 1) 12).2)

/-- What is told where some chunks are gathered, and this of the rest is told. -/
def gathS (os : List Chunk) (r : List Chunk × Int) : List Chunk × Int := if r.2 = 0 then (os ++ r.1, 0) else ([], r.2)
theorem gathS_nil (r : List Chunk × Int) (h : r.2 ≠ 0 → r.1 = []) : gathS [] r = r := by
  unfold gathS
  split
  · rename_i h0; rw [List.nil_append, ← h0]
  · rename_i h0; rw [← h h0]
theorem chunksS_nil (s : ByteArray) : ∀ f p, (chunksS s f p).2 ≠ 0 → (chunksS s f p).1 = []
  | 0, p => fun h => rfl
  | f + 1, p => by
    intro h
    simp only [chunksS] at h ⊢
    repeat' split
    all_goals first | rfl | (exfalso; simp_all)
/-- One more is gathered. -/
theorem gathS_step {s : ByteArray} {f p : Nat} (os : List Chunk) (h1 : p < s.size) (h2 : 8 ≤ s.size - p) (h3 : typeB (s.extract p (p + 4)) = true) (h4 : u32 s (p + 4) + u32 s (p + 4) % 2 ≤ s.size - (p + 8))
    (h5 : ¬ (u32 s (p + 4) % 2 = 1 ∧ bget s (p + 8 + u32 s (p + 4)) ≠ 0)) :
    gathS os (chunksS s (f + 1) p) = gathS (os ++ [(s.extract p (p + 4), s.extract (p + 8) (p + 8 + u32 s (p + 4)))]) (chunksS s f (p + 8 + (u32 s (p + 4) + u32 s (p + 4) % 2))) := by
  simp only [chunksS]
  rw [if_neg (by omega), if_neg (by omega), if_neg (by rw [h3]; decide), if_neg (by omega), if_neg h5]
  unfold gathS
  by_cases h6 : (chunksS s f (p + 8 + (u32 s (p + 4) + u32 s (p + 4) % 2))).2 = 0
  · simp [h6]
  · simp [h6]
theorem gathS_end {s : ByteArray} {f p : Nat} (os : List Chunk) (h1 : s.size ≤ p) : gathS os (chunksS s (f + 1) p) = (os, 0) := by
  simp only [chunksS]
  rw [if_pos h1]
  simp [gathS]
theorem gathS_cut {s : ByteArray} {f p : Nat} (os : List Chunk) (h1 : p < s.size) (h2 : s.size - p < 8) : gathS os (chunksS s (f + 1) p) = ([], 2) := by
  simp only [chunksS]
  rw [if_neg (by omega), if_pos h2]
  simp [gathS]
theorem gathS_type {s : ByteArray} {f p : Nat} (os : List Chunk) (h1 : p < s.size) (h2 : 8 ≤ s.size - p) (h3 : typeB (s.extract p (p + 4)) = false) : gathS os (chunksS s (f + 1) p) = ([], 3) := by
  simp only [chunksS]
  rw [if_neg (by omega), if_neg (by omega), if_pos h3]
  simp [gathS]
theorem gathS_long {s : ByteArray} {f p : Nat} (os : List Chunk) (h1 : p < s.size) (h2 : 8 ≤ s.size - p) (h3 : typeB (s.extract p (p + 4)) = true) (h4 : s.size - (p + 8) < u32 s (p + 4) + u32 s (p + 4) % 2) : gathS os (chunksS s (f + 1) p) = ([], 2) := by
  simp only [chunksS]
  rw [if_neg (by omega), if_neg (by omega), if_neg (by rw [h3]; decide), if_pos h4]
  simp [gathS]
theorem gathS_pad {s : ByteArray} {f p : Nat} (os : List Chunk) (h1 : p < s.size) (h2 : 8 ≤ s.size - p) (h3 : typeB (s.extract p (p + 4)) = true) (h4 : u32 s (p + 4) + u32 s (p + 4) % 2 ≤ s.size - (p + 8))
    (h5 : u32 s (p + 4) % 2 = 1 ∧ bget s (p + 8 + u32 s (p + 4)) ≠ 0) : gathS os (chunksS s (f + 1) p) = ([], 3) := by
  simp only [chunksS]
  rw [if_neg (by omega), if_neg (by omega), if_neg (by rw [h3]; decide), if_neg (by omega), if_pos h5]
  simp [gathS]

/-- A part of a part. -/
theorem extract_extract (s : ByteArray) (a b i j : Nat) (h : a + j ≤ b) (hb : b ≤ s.size) : (s.extract a b).extract i j = s.extract (a + i) (a + j) := by
  apply ByteArray.ext
  simp only [ByteArray.data_extract, Array.extract_extract]
  congr 1
  omega
end Go.Proofs.Ytmkbigaofhionaa
