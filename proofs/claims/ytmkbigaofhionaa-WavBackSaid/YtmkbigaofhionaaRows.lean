/-
  No cell of these rows narrows 'for every input' (looked for: loops, veiled, ifaces, maps, wideKeys, modest, calm, conditions, laid).
  DERIVED. THE GIVEN ROWS OF THIS SEAT. 11 by the template 'for every input the law returns true; each argument reads behind the call as it read before'; 0 by the template 'total and deterministic' (their statements: YtmkbigaofhionaaTotals.lean).
  GIVEN WITH THE SEED: the statements are not yours to turn. If you find one false, say at which input.
  Laid BY PROGRAM, IN A SANDBOX (cutbox-rows.mjs): the forced cells as the released guide's own fill.sh prints them over the translation ea615a281d169a19… (all of the seat's roots in one cut). By AI agents, Wed Nov 11 2026. No macro, syntax, notation, axiom, sorry.
-/
import Derived.Test.YtmkbigaofhionaaChecked
import GoSem.Claim
import GoSem.ClaimJoined
import GoSem.ClaimMapViews
import Derived.JoinedTies
import Derived.KernelRfl
namespace Go.Proofs.Ytmkbigaofhionaa
/- THE CELL 'sum', in the pinned program and in every row, IS THE sha256 OF THE DUMP (.gsa) THAT YtmkbigaofhionaaProg.lean LOADS. Nothing in Lean hashes anything: it is a label: what it is worth is what the hold of that sum in a sandbox is worth. -/
noncomputable def Try.pinned : Pinned := { name := "ytmkbigaofhionaa", sum := "ea615a281d169a1952b503172a91099e82a52e771c4c0e991bda8ab4c2094b2b", checked := Try.checked }
namespace Rows
def none {H : Type} : Left H := { results := [], args := [] }

/-- 'mortiselaw04.RegionsFinds': WHATEVER THE INPUT: true; the input reads as it did. -/
def regionsFindsSpec : ChangeSpec := { name := "regionsFinds", fn := fun _ => fun
  | [d1, d2] => { results := [.lit (.bool true)], args := [d1, d2] }
  | _ => none }
def regionsFindsRow : OpenClaim := { program := "ytmkbigaofhionaa", sum := "ea615a281d169a1952b503172a91099e82a52e771c4c0e991bda8ab4c2094b2b", func := "mortise/mortiselaw04.RegionsFinds", spec := "regionsFinds", inPlace := ["slices.overlaps[mortise/regions.item[int]]"], unfollowed := true, recurses := true, apart := false }
def RegionsFindsSaid : Prop := regionsFindsRow.holds Try.pinned (OpenSpec.ofChange regionsFindsSpec)

/-- ITS FALSE NEIGHBOUR: 'it returns false'. Refute it at one input. -/
def regionsFindsWrong : ChangeSpec := { name := "regionsFinds", fn := fun _ => fun
  | [d1, d2] => { results := [.lit (.bool false)], args := [d1, d2] }
  | _ => none }
def RegionsFindsWrongFalsely : Prop := regionsFindsRow.holds Try.pinned (OpenSpec.ofChange regionsFindsWrong)

/-- 'mortiselaw04.RegionsAll': WHATEVER THE INPUT: true; the input reads as it did. -/
def regionsAllSpec : ChangeSpec := { name := "regionsAll", fn := fun _ => fun
  | [d1, d2, d3] => { results := [.lit (.bool true)], args := [d1, d2, d3] }
  | _ => none }
def regionsAllRow : OpenClaim := { program := "ytmkbigaofhionaa", sum := "ea615a281d169a1952b503172a91099e82a52e771c4c0e991bda8ab4c2094b2b", func := "mortise/mortiselaw04.RegionsAll", spec := "regionsAll", inPlace := ["slices.overlaps[mortise/regions.item[int]]"], unfollowed := true, recurses := true, apart := false }
def RegionsAllSaid : Prop := regionsAllRow.holds Try.pinned (OpenSpec.ofChange regionsAllSpec)

/-- ITS FALSE NEIGHBOUR: 'it returns false'. Refute it at one input. -/
def regionsAllWrong : ChangeSpec := { name := "regionsAll", fn := fun _ => fun
  | [d1, d2, d3] => { results := [.lit (.bool false)], args := [d1, d2, d3] }
  | _ => none }
def RegionsAllWrongFalsely : Prop := regionsAllRow.holds Try.pinned (OpenSpec.ofChange regionsAllWrong)

/-- 'mortiselaw04.RegionsBytes': WHATEVER THE INPUT: true; the input reads as it did. -/
def regionsBytesSpec : ChangeSpec := { name := "regionsBytes", fn := fun _ => fun
  | [d] => { results := [.lit (.bool true)], args := [d] }
  | _ => none }
def regionsBytesRow : OpenClaim := { program := "ytmkbigaofhionaa", sum := "ea615a281d169a1952b503172a91099e82a52e771c4c0e991bda8ab4c2094b2b", func := "mortise/mortiselaw04.RegionsBytes", spec := "regionsBytes", inPlace := ["slices.overlaps[mortise/regions.item[int]]"], unfollowed := true, recurses := true, apart := false }
def RegionsBytesSaid : Prop := regionsBytesRow.holds Try.pinned (OpenSpec.ofChange regionsBytesSpec)

/-- ITS FALSE NEIGHBOUR: 'it returns false'. Refute it at one input. -/
def regionsBytesWrong : ChangeSpec := { name := "regionsBytes", fn := fun _ => fun
  | [d] => { results := [.lit (.bool false)], args := [d] }
  | _ => none }
def RegionsBytesWrongFalsely : Prop := regionsBytesRow.holds Try.pinned (OpenSpec.ofChange regionsBytesWrong)

/-- 'mortiselaw04.RegionsAdds': WHATEVER THE INPUT: true; the input reads as it did. -/
def regionsAddsSpec : ChangeSpec := { name := "regionsAdds", fn := fun _ => fun
  | [d1, d2, d3] => { results := [.lit (.bool true)], args := [d1, d2, d3] }
  | _ => none }
def regionsAddsRow : OpenClaim := { program := "ytmkbigaofhionaa", sum := "ea615a281d169a1952b503172a91099e82a52e771c4c0e991bda8ab4c2094b2b", func := "mortise/mortiselaw04.RegionsAdds", spec := "regionsAdds", inPlace := ["slices.overlaps[mortise/regions.item[int]]"], unfollowed := true, recurses := true, apart := false }
def RegionsAddsSaid : Prop := regionsAddsRow.holds Try.pinned (OpenSpec.ofChange regionsAddsSpec)

/-- ITS FALSE NEIGHBOUR: 'it returns false'. Refute it at one input. -/
def regionsAddsWrong : ChangeSpec := { name := "regionsAdds", fn := fun _ => fun
  | [d1, d2, d3] => { results := [.lit (.bool false)], args := [d1, d2, d3] }
  | _ => none }
def RegionsAddsWrongFalsely : Prop := regionsAddsRow.holds Try.pinned (OpenSpec.ofChange regionsAddsWrong)

/-- 'mortiselaw04.RegionsTurned': WHATEVER THE INPUT: true; the input reads as it did. -/
def regionsTurnedSpec : ChangeSpec := { name := "regionsTurned", fn := fun _ => fun
  | [d] => { results := [.lit (.bool true)], args := [d] }
  | _ => none }
def regionsTurnedRow : OpenClaim := { program := "ytmkbigaofhionaa", sum := "ea615a281d169a1952b503172a91099e82a52e771c4c0e991bda8ab4c2094b2b", func := "mortise/mortiselaw04.RegionsTurned", spec := "regionsTurned", inPlace := ["slices.overlaps[mortise/regions.item[mortise/api.Span]]", "slices.overlaps[mortise/regions.item[int]]"], unfollowed := true, recurses := true, apart := false }
def RegionsTurnedSaid : Prop := regionsTurnedRow.holds Try.pinned (OpenSpec.ofChange regionsTurnedSpec)

/-- ITS FALSE NEIGHBOUR: 'it returns false'. Refute it at one input. -/
def regionsTurnedWrong : ChangeSpec := { name := "regionsTurned", fn := fun _ => fun
  | [d] => { results := [.lit (.bool false)], args := [d] }
  | _ => none }
def RegionsTurnedWrongFalsely : Prop := regionsTurnedRow.holds Try.pinned (OpenSpec.ofChange regionsTurnedWrong)

/-- 'mortiselaw19.WavSplits': WHATEVER THE INPUT: true; the input reads as it did. -/
def wavSplitsSpec : ChangeSpec := { name := "wavSplits", fn := fun _ => fun
  | [d] => { results := [.lit (.bool true)], args := [d] }
  | _ => none }
def wavSplitsRow : OpenClaim := { program := "ytmkbigaofhionaa", sum := "ea615a281d169a1952b503172a91099e82a52e771c4c0e991bda8ab4c2094b2b", func := "mortise/mortiselaw19.WavSplits", spec := "wavSplits", inPlace := ["internal/abi.NoEscape"], unfollowed := true, recurses := true, apart := false }
def WavSplitsSaid : Prop := wavSplitsRow.holds Try.pinned (OpenSpec.ofChange wavSplitsSpec)

/-- ITS FALSE NEIGHBOUR: 'it returns false'. Refute it at one input. -/
def wavSplitsWrong : ChangeSpec := { name := "wavSplits", fn := fun _ => fun
  | [d] => { results := [.lit (.bool false)], args := [d] }
  | _ => none }
def WavSplitsWrongFalsely : Prop := wavSplitsRow.holds Try.pinned (OpenSpec.ofChange wavSplitsWrong)

/-- 'mortiselaw19.WavJoins': WHATEVER THE INPUT: true; the input reads as it did. -/
def wavJoinsSpec : ChangeSpec := { name := "wavJoins", fn := fun _ => fun
  | [d1, d2] => { results := [.lit (.bool true)], args := [d1, d2] }
  | _ => none }
def wavJoinsRow : OpenClaim := { program := "ytmkbigaofhionaa", sum := "ea615a281d169a1952b503172a91099e82a52e771c4c0e991bda8ab4c2094b2b", func := "mortise/mortiselaw19.WavJoins", spec := "wavJoins", inPlace := ["internal/abi.NoEscape"], unfollowed := true, recurses := true, apart := false }
def WavJoinsSaid : Prop := wavJoinsRow.holds Try.pinned (OpenSpec.ofChange wavJoinsSpec)

/-- ITS FALSE NEIGHBOUR: 'it returns false'. Refute it at one input. -/
def wavJoinsWrong : ChangeSpec := { name := "wavJoins", fn := fun _ => fun
  | [d1, d2] => { results := [.lit (.bool false)], args := [d1, d2] }
  | _ => none }
def WavJoinsWrongFalsely : Prop := wavJoinsRow.holds Try.pinned (OpenSpec.ofChange wavJoinsWrong)

/-- 'mortiselaw19.WavWrites': WHATEVER THE INPUT: true; the input reads as it did. -/
def wavWritesSpec : ChangeSpec := { name := "wavWrites", fn := fun _ => fun
  | [d] => { results := [.lit (.bool true)], args := [d] }
  | _ => none }
def wavWritesRow : OpenClaim := { program := "ytmkbigaofhionaa", sum := "ea615a281d169a1952b503172a91099e82a52e771c4c0e991bda8ab4c2094b2b", func := "mortise/mortiselaw19.WavWrites", spec := "wavWrites", inPlace := ["internal/abi.NoEscape"], unfollowed := true, recurses := true, apart := false }
def WavWritesSaid : Prop := wavWritesRow.holds Try.pinned (OpenSpec.ofChange wavWritesSpec)

/-- ITS FALSE NEIGHBOUR: 'it returns false'. Refute it at one input. -/
def wavWritesWrong : ChangeSpec := { name := "wavWrites", fn := fun _ => fun
  | [d] => { results := [.lit (.bool false)], args := [d] }
  | _ => none }
def WavWritesWrongFalsely : Prop := wavWritesRow.holds Try.pinned (OpenSpec.ofChange wavWritesWrong)

/-- 'mortiselaw19.WavBack': WHATEVER THE INPUT: true; the input reads as it did. -/
def wavBackSpec : ChangeSpec := { name := "wavBack", fn := fun _ => fun
  | [d] => { results := [.lit (.bool true)], args := [d] }
  | _ => none }
def wavBackRow : OpenClaim := { program := "ytmkbigaofhionaa", sum := "ea615a281d169a1952b503172a91099e82a52e771c4c0e991bda8ab4c2094b2b", func := "mortise/mortiselaw19.WavBack", spec := "wavBack", inPlace := ["internal/abi.NoEscape"], unfollowed := true, recurses := true, apart := false }
def WavBackSaid : Prop := wavBackRow.holds Try.pinned (OpenSpec.ofChange wavBackSpec)

/-- ITS FALSE NEIGHBOUR: 'it returns false'. Refute it at one input. -/
def wavBackWrong : ChangeSpec := { name := "wavBack", fn := fun _ => fun
  | [d] => { results := [.lit (.bool false)], args := [d] }
  | _ => none }
def WavBackWrongFalsely : Prop := wavBackRow.holds Try.pinned (OpenSpec.ofChange wavBackWrong)

/-- 'mortiselaw19.WavJoined': WHATEVER THE INPUT: true; the input reads as it did. -/
def wavJoinedSpec : ChangeSpec := { name := "wavJoined", fn := fun _ => fun
  | [d1, d2, d3] => { results := [.lit (.bool true)], args := [d1, d2, d3] }
  | _ => none }
def wavJoinedRow : OpenClaim := { program := "ytmkbigaofhionaa", sum := "ea615a281d169a1952b503172a91099e82a52e771c4c0e991bda8ab4c2094b2b", func := "mortise/mortiselaw19.WavJoined", spec := "wavJoined", inPlace := ["internal/abi.NoEscape"], unfollowed := true, recurses := true, apart := false }
def WavJoinedSaid : Prop := wavJoinedRow.holds Try.pinned (OpenSpec.ofChange wavJoinedSpec)

/-- ITS FALSE NEIGHBOUR: 'it returns false'. Refute it at one input. -/
def wavJoinedWrong : ChangeSpec := { name := "wavJoined", fn := fun _ => fun
  | [d1, d2, d3] => { results := [.lit (.bool false)], args := [d1, d2, d3] }
  | _ => none }
def WavJoinedWrongFalsely : Prop := wavJoinedRow.holds Try.pinned (OpenSpec.ofChange wavJoinedWrong)

/-- 'mortiselaw19.WavOrder': WHATEVER THE INPUT: true; the input reads as it did. -/
def wavOrderSpec : ChangeSpec := { name := "wavOrder", fn := fun _ => fun
  | [d1, d2] => { results := [.lit (.bool true)], args := [d1, d2] }
  | _ => none }
def wavOrderRow : OpenClaim := { program := "ytmkbigaofhionaa", sum := "ea615a281d169a1952b503172a91099e82a52e771c4c0e991bda8ab4c2094b2b", func := "mortise/mortiselaw19.WavOrder", spec := "wavOrder", inPlace := ["internal/abi.NoEscape"], unfollowed := true, recurses := true, apart := false }
def WavOrderSaid : Prop := wavOrderRow.holds Try.pinned (OpenSpec.ofChange wavOrderSpec)

/-- ITS FALSE NEIGHBOUR: 'it returns false'. Refute it at one input. -/
def wavOrderWrong : ChangeSpec := { name := "wavOrder", fn := fun _ => fun
  | [d1, d2] => { results := [.lit (.bool false)], args := [d1, d2] }
  | _ => none }
def WavOrderWrongFalsely : Prop := wavOrderRow.holds Try.pinned (OpenSpec.ofChange wavOrderWrong)

/- THE SECOND FORM. 'bulk': how many values and letters a reading holds, each counted each time it is reached (what is shared counts as often as it is met; a slice's spare places count too). A statement '..UptoSaid' is the law's where the arguments, and the package variables that the reading takes, are together of bulk at most 1048576: NARROWER than '..Said'. Prove '..Said' where nothing that the law and all that it calls make is longer than what came in: it says more and counts as full. Else prove '..UptoSaid'. A law counts once. -/
mutual
def uptoBulk {H : Type} : DataW H → Nat
  | .lit (.string bytes) => bytes.length + 1
  | .lit _ => 1
  | .nil => 1
  | .ptr d => uptoBulk d + 1
  | .slice elems spare => uptoBulkAll elems + uptoBulkAll spare + 1
  | .agg parts => uptoBulkAll parts + 1
  | .iface _ d => uptoBulk d + 1
  | .map entries => uptoBulkEntries entries + 1
  | .held _ => 1
def uptoBulkAll {H : Type} : List (DataW H) → Nat
  | [] => 0
  | d :: r => uptoBulk d + uptoBulkAll r
def uptoBulkEntries {H : Type} : List (Lit × DataW H) → Nat
  | [] => 0
  | x :: r => uptoBulkEntry x + uptoBulkEntries r
def uptoBulkEntry {H : Type} : Lit × DataW H → Nat
  | (.string bytes, d) => bytes.length + uptoBulk d + 1
  | (_, d) => uptoBulk d + 1
 end
def uptoSmall : (H : Type) → List (DataW H) → Bool := fun _ ds => decide (uptoBulkAll ds ≤ 1048576)
def OpenSpec.upto (s : _root_.Go.ChangeSpec) : _root_.Go.OpenSpec := { _root_.Go.OpenSpec.ofChange s with cond := some uptoSmall }

/-- 'mortiselaw04.RegionsFinds', WHERE WHAT IT READS IS OF BULK AT MOST 1048576: true; the input reads as it did. -/
def regionsFindsUptoRow : OpenClaim := { program := "ytmkbigaofhionaa", sum := "ea615a281d169a1952b503172a91099e82a52e771c4c0e991bda8ab4c2094b2b", func := "mortise/mortiselaw04.RegionsFinds", spec := "regionsFinds", inPlace := ["slices.overlaps[mortise/regions.item[int]]"], unfollowed := true, recurses := true, apart := false, narrowed := true }
def RegionsFindsUptoSaid : Prop := regionsFindsUptoRow.holds Try.pinned (OpenSpec.upto regionsFindsSpec)

/-- 'mortiselaw04.RegionsAll', WHERE WHAT IT READS IS OF BULK AT MOST 1048576: true; the input reads as it did. -/
def regionsAllUptoRow : OpenClaim := { program := "ytmkbigaofhionaa", sum := "ea615a281d169a1952b503172a91099e82a52e771c4c0e991bda8ab4c2094b2b", func := "mortise/mortiselaw04.RegionsAll", spec := "regionsAll", inPlace := ["slices.overlaps[mortise/regions.item[int]]"], unfollowed := true, recurses := true, apart := false, narrowed := true }
def RegionsAllUptoSaid : Prop := regionsAllUptoRow.holds Try.pinned (OpenSpec.upto regionsAllSpec)

/-- 'mortiselaw04.RegionsBytes', WHERE WHAT IT READS IS OF BULK AT MOST 1048576: true; the input reads as it did. -/
def regionsBytesUptoRow : OpenClaim := { program := "ytmkbigaofhionaa", sum := "ea615a281d169a1952b503172a91099e82a52e771c4c0e991bda8ab4c2094b2b", func := "mortise/mortiselaw04.RegionsBytes", spec := "regionsBytes", inPlace := ["slices.overlaps[mortise/regions.item[int]]"], unfollowed := true, recurses := true, apart := false, narrowed := true }
def RegionsBytesUptoSaid : Prop := regionsBytesUptoRow.holds Try.pinned (OpenSpec.upto regionsBytesSpec)

/-- 'mortiselaw04.RegionsAdds', WHERE WHAT IT READS IS OF BULK AT MOST 1048576: true; the input reads as it did. -/
def regionsAddsUptoRow : OpenClaim := { program := "ytmkbigaofhionaa", sum := "ea615a281d169a1952b503172a91099e82a52e771c4c0e991bda8ab4c2094b2b", func := "mortise/mortiselaw04.RegionsAdds", spec := "regionsAdds", inPlace := ["slices.overlaps[mortise/regions.item[int]]"], unfollowed := true, recurses := true, apart := false, narrowed := true }
def RegionsAddsUptoSaid : Prop := regionsAddsUptoRow.holds Try.pinned (OpenSpec.upto regionsAddsSpec)

/-- 'mortiselaw04.RegionsTurned', WHERE WHAT IT READS IS OF BULK AT MOST 1048576: true; the input reads as it did. -/
def regionsTurnedUptoRow : OpenClaim := { program := "ytmkbigaofhionaa", sum := "ea615a281d169a1952b503172a91099e82a52e771c4c0e991bda8ab4c2094b2b", func := "mortise/mortiselaw04.RegionsTurned", spec := "regionsTurned", inPlace := ["slices.overlaps[mortise/regions.item[mortise/api.Span]]", "slices.overlaps[mortise/regions.item[int]]"], unfollowed := true, recurses := true, apart := false, narrowed := true }
def RegionsTurnedUptoSaid : Prop := regionsTurnedUptoRow.holds Try.pinned (OpenSpec.upto regionsTurnedSpec)

/-- 'mortiselaw19.WavSplits', WHERE WHAT IT READS IS OF BULK AT MOST 1048576: true; the input reads as it did. -/
def wavSplitsUptoRow : OpenClaim := { program := "ytmkbigaofhionaa", sum := "ea615a281d169a1952b503172a91099e82a52e771c4c0e991bda8ab4c2094b2b", func := "mortise/mortiselaw19.WavSplits", spec := "wavSplits", inPlace := ["internal/abi.NoEscape"], unfollowed := true, recurses := true, apart := false, narrowed := true }
def WavSplitsUptoSaid : Prop := wavSplitsUptoRow.holds Try.pinned (OpenSpec.upto wavSplitsSpec)

/-- 'mortiselaw19.WavJoins', WHERE WHAT IT READS IS OF BULK AT MOST 1048576: true; the input reads as it did. -/
def wavJoinsUptoRow : OpenClaim := { program := "ytmkbigaofhionaa", sum := "ea615a281d169a1952b503172a91099e82a52e771c4c0e991bda8ab4c2094b2b", func := "mortise/mortiselaw19.WavJoins", spec := "wavJoins", inPlace := ["internal/abi.NoEscape"], unfollowed := true, recurses := true, apart := false, narrowed := true }
def WavJoinsUptoSaid : Prop := wavJoinsUptoRow.holds Try.pinned (OpenSpec.upto wavJoinsSpec)

/-- 'mortiselaw19.WavWrites', WHERE WHAT IT READS IS OF BULK AT MOST 1048576: true; the input reads as it did. -/
def wavWritesUptoRow : OpenClaim := { program := "ytmkbigaofhionaa", sum := "ea615a281d169a1952b503172a91099e82a52e771c4c0e991bda8ab4c2094b2b", func := "mortise/mortiselaw19.WavWrites", spec := "wavWrites", inPlace := ["internal/abi.NoEscape"], unfollowed := true, recurses := true, apart := false, narrowed := true }
def WavWritesUptoSaid : Prop := wavWritesUptoRow.holds Try.pinned (OpenSpec.upto wavWritesSpec)

/-- 'mortiselaw19.WavBack', WHERE WHAT IT READS IS OF BULK AT MOST 1048576: true; the input reads as it did. -/
def wavBackUptoRow : OpenClaim := { program := "ytmkbigaofhionaa", sum := "ea615a281d169a1952b503172a91099e82a52e771c4c0e991bda8ab4c2094b2b", func := "mortise/mortiselaw19.WavBack", spec := "wavBack", inPlace := ["internal/abi.NoEscape"], unfollowed := true, recurses := true, apart := false, narrowed := true }
def WavBackUptoSaid : Prop := wavBackUptoRow.holds Try.pinned (OpenSpec.upto wavBackSpec)

/-- 'mortiselaw19.WavJoined', WHERE WHAT IT READS IS OF BULK AT MOST 1048576: true; the input reads as it did. -/
def wavJoinedUptoRow : OpenClaim := { program := "ytmkbigaofhionaa", sum := "ea615a281d169a1952b503172a91099e82a52e771c4c0e991bda8ab4c2094b2b", func := "mortise/mortiselaw19.WavJoined", spec := "wavJoined", inPlace := ["internal/abi.NoEscape"], unfollowed := true, recurses := true, apart := false, narrowed := true }
def WavJoinedUptoSaid : Prop := wavJoinedUptoRow.holds Try.pinned (OpenSpec.upto wavJoinedSpec)

/-- 'mortiselaw19.WavOrder', WHERE WHAT IT READS IS OF BULK AT MOST 1048576: true; the input reads as it did. -/
def wavOrderUptoRow : OpenClaim := { program := "ytmkbigaofhionaa", sum := "ea615a281d169a1952b503172a91099e82a52e771c4c0e991bda8ab4c2094b2b", func := "mortise/mortiselaw19.WavOrder", spec := "wavOrder", inPlace := ["internal/abi.NoEscape"], unfollowed := true, recurses := true, apart := false, narrowed := true }
def WavOrderUptoSaid : Prop := wavOrderUptoRow.holds Try.pinned (OpenSpec.upto wavOrderSpec)

end Rows
end Go.Proofs.Ytmkbigaofhionaa
