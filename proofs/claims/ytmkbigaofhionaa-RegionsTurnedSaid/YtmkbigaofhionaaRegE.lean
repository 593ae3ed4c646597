/- What Add tells, and the list behind it; no program. -/
import Derived.Test.YtmkbigaofhionaaRegP
namespace Go.Proofs.Ytmkbigaofhionaa

def addE {α : Type} (lo hi : Int) (l : List (Item α)) : Int := if spanB lo hi = true then (if meets lo hi l = true then 5 else 0) else 1
def addL {α : Type} (lo hi : Int) (x : α) (l : List (Item α)) : List (Item α) := if spanB lo hi = true ∧ meets lo hi l = false then insS (lo, hi, x) l else l
theorem addL_rises {α : Type} {lo hi : Int} {x : α} {l : List (Item α)} (hr : Rises l) : Rises (addL lo hi x l) := by
  unfold addL
  split
  · rename_i h
    exact insS_rises hr h.1 h.2
  · exact hr
theorem addL_length {α : Type} (lo hi : Int) (x : α) (l : List (Item α)) : (addL lo hi x l).length ≤ l.length + 1 := by
  unfold addL
  split
  · rw [insS_length]; exact Nat.le_refl _
  · omega
end Go.Proofs.Ytmkbigaofhionaa
