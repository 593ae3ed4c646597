/-
  No cell of these rows narrows 'for every input' (looked for: loops, veiled, ifaces, maps, wideKeys, modest, calm, conditions, laid).
  DERIVED. THE GIVEN ROWS OF THIS SEAT. 10 by the template 'for every input the law returns true; each argument reads behind the call as it read before'; 0 by the template 'total and deterministic' (their statements: YtekinbeiljmddaaTotals.lean).
  GIVEN WITH THE SEED: the statements are not yours to turn. If you find one false, say at which input.
  Laid BY PROGRAM, IN A SANDBOX (cutbox-rows.mjs): the forced cells as the released guide's own fill.sh prints them over the translation 2db017213b2cb8f4… (all of the seat's roots in one cut). By AI agents, Wed Nov 11 2026. No macro, syntax, notation, axiom, sorry.
-/
import Derived.Test.YtekinbeiljmddaaChecked
import GoSem.Claim
import GoSem.ClaimJoined
import GoSem.ClaimMapViews
import Derived.JoinedTies
import Derived.KernelRfl
namespace Go.Proofs.Ytekinbeiljmddaa
/- THE CELL 'sum', in the pinned program and in every row, IS THE sha256 OF THE DUMP (.gsa) THAT YtekinbeiljmddaaProg.lean LOADS. Nothing in Lean hashes anything: it is a label: what it is worth is what the hold of that sum in a sandbox is worth. -/
noncomputable def Try.pinned : Pinned := { name := "ytekinbeiljmddaa", sum := "2db017213b2cb8f4558f70122c866701a3dbf645f2870266da3761470d8ca7f3", checked := Try.checked }
namespace Rows
def none {H : Type} : Left H := { results := [], args := [] }

/-- 'mortiselaw02.SrcStands': WHATEVER THE INPUT: true; the input reads as it did. -/
def srcStandsSpec : ChangeSpec := { name := "srcStands", fn := fun _ => fun
  | [d] => { results := [.lit (.bool true)], args := [d] }
  | _ => none }
def srcStandsRow : OpenClaim := { program := "ytekinbeiljmddaa", sum := "2db017213b2cb8f4558f70122c866701a3dbf645f2870266da3761470d8ca7f3", func := "mortise/mortiselaw02.SrcStands", spec := "srcStands", unfollowed := true, recurses := true, apart := false }
def SrcStandsSaid : Prop := srcStandsRow.holds Try.pinned (OpenSpec.ofChange srcStandsSpec)

/-- ITS FALSE NEIGHBOUR: 'it returns false'. Refute it at one input. -/
def srcStandsWrong : ChangeSpec := { name := "srcStands", fn := fun _ => fun
  | [d] => { results := [.lit (.bool false)], args := [d] }
  | _ => none }
def SrcStandsWrongFalsely : Prop := srcStandsRow.holds Try.pinned (OpenSpec.ofChange srcStandsWrong)

/-- 'mortiselaw01.WinBytes': WHATEVER THE INPUT: true; the input reads as it did. -/
def winBytesSpec : ChangeSpec := { name := "winBytes", fn := fun _ => fun
  | [d1, d2, d3] => { results := [.lit (.bool true)], args := [d1, d2, d3] }
  | _ => none }
def winBytesRow : OpenClaim := { program := "ytekinbeiljmddaa", sum := "2db017213b2cb8f4558f70122c866701a3dbf645f2870266da3761470d8ca7f3", func := "mortise/mortiselaw01.WinBytes", spec := "winBytes", unfollowed := true, recurses := true, apart := false }
def WinBytesSaid : Prop := winBytesRow.holds Try.pinned (OpenSpec.ofChange winBytesSpec)

/-- ITS FALSE NEIGHBOUR: 'it returns false'. Refute it at one input. -/
def winBytesWrong : ChangeSpec := { name := "winBytes", fn := fun _ => fun
  | [d1, d2, d3] => { results := [.lit (.bool false)], args := [d1, d2, d3] }
  | _ => none }
def WinBytesWrongFalsely : Prop := winBytesRow.holds Try.pinned (OpenSpec.ofChange winBytesWrong)

/-- 'mortiselaw01.WinReads': WHATEVER THE INPUT: true; the input reads as it did. -/
def winReadsSpec : ChangeSpec := { name := "winReads", fn := fun _ => fun
  | [d] => { results := [.lit (.bool true)], args := [d] }
  | _ => none }
def winReadsRow : OpenClaim := { program := "ytekinbeiljmddaa", sum := "2db017213b2cb8f4558f70122c866701a3dbf645f2870266da3761470d8ca7f3", func := "mortise/mortiselaw01.WinReads", spec := "winReads", unfollowed := true, recurses := true, apart := false }
def WinReadsSaid : Prop := winReadsRow.holds Try.pinned (OpenSpec.ofChange winReadsSpec)

/-- ITS FALSE NEIGHBOUR: 'it returns false'. Refute it at one input. -/
def winReadsWrong : ChangeSpec := { name := "winReads", fn := fun _ => fun
  | [d] => { results := [.lit (.bool false)], args := [d] }
  | _ => none }
def WinReadsWrongFalsely : Prop := winReadsRow.holds Try.pinned (OpenSpec.ofChange winReadsWrong)

/-- 'mortiselaw01.WinBack': WHATEVER THE INPUT: true; the input reads as it did. -/
def winBackSpec : ChangeSpec := { name := "winBack", fn := fun _ => fun
  | [d] => { results := [.lit (.bool true)], args := [d] }
  | _ => none }
def winBackRow : OpenClaim := { program := "ytekinbeiljmddaa", sum := "2db017213b2cb8f4558f70122c866701a3dbf645f2870266da3761470d8ca7f3", func := "mortise/mortiselaw01.WinBack", spec := "winBack", unfollowed := true, recurses := true, apart := false }
def WinBackSaid : Prop := winBackRow.holds Try.pinned (OpenSpec.ofChange winBackSpec)

/-- ITS FALSE NEIGHBOUR: 'it returns false'. Refute it at one input. -/
def winBackWrong : ChangeSpec := { name := "winBack", fn := fun _ => fun
  | [d] => { results := [.lit (.bool false)], args := [d] }
  | _ => none }
def WinBackWrongFalsely : Prop := winBackRow.holds Try.pinned (OpenSpec.ofChange winBackWrong)

/-- 'mortiselaw01.WinAligned': WHATEVER THE INPUT: true; the input reads as it did. -/
def winAlignedSpec : ChangeSpec := { name := "winAligned", fn := fun _ => fun
  | [d1, d2] => { results := [.lit (.bool true)], args := [d1, d2] }
  | _ => none }
def winAlignedRow : OpenClaim := { program := "ytekinbeiljmddaa", sum := "2db017213b2cb8f4558f70122c866701a3dbf645f2870266da3761470d8ca7f3", func := "mortise/mortiselaw01.WinAligned", spec := "winAligned", unfollowed := true, recurses := true, apart := false }
def WinAlignedSaid : Prop := winAlignedRow.holds Try.pinned (OpenSpec.ofChange winAlignedSpec)

/-- ITS FALSE NEIGHBOUR: 'it returns false'. Refute it at one input. -/
def winAlignedWrong : ChangeSpec := { name := "winAligned", fn := fun _ => fun
  | [d1, d2] => { results := [.lit (.bool false)], args := [d1, d2] }
  | _ => none }
def WinAlignedWrongFalsely : Prop := winAlignedRow.holds Try.pinned (OpenSpec.ofChange winAlignedWrong)

/-- 'mortiselaw01.WinSubs': WHATEVER THE INPUT: true; the input reads as it did. -/
def winSubsSpec : ChangeSpec := { name := "winSubs", fn := fun _ => fun
  | [d] => { results := [.lit (.bool true)], args := [d] }
  | _ => none }
def winSubsRow : OpenClaim := { program := "ytekinbeiljmddaa", sum := "2db017213b2cb8f4558f70122c866701a3dbf645f2870266da3761470d8ca7f3", func := "mortise/mortiselaw01.WinSubs", spec := "winSubs", unfollowed := true, recurses := true, apart := false }
def WinSubsSaid : Prop := winSubsRow.holds Try.pinned (OpenSpec.ofChange winSubsSpec)

/-- ITS FALSE NEIGHBOUR: 'it returns false'. Refute it at one input. -/
def winSubsWrong : ChangeSpec := { name := "winSubs", fn := fun _ => fun
  | [d] => { results := [.lit (.bool false)], args := [d] }
  | _ => none }
def WinSubsWrongFalsely : Prop := winSubsRow.holds Try.pinned (OpenSpec.ofChange winSubsWrong)

/-- 'mortiselaw02.SrcFull': WHATEVER THE INPUT: true; the input reads as it did. -/
def srcFullSpec : ChangeSpec := { name := "srcFull", fn := fun _ => fun
  | [d] => { results := [.lit (.bool true)], args := [d] }
  | _ => none }
def srcFullRow : OpenClaim := { program := "ytekinbeiljmddaa", sum := "2db017213b2cb8f4558f70122c866701a3dbf645f2870266da3761470d8ca7f3", func := "mortise/mortiselaw02.SrcFull", spec := "srcFull", unfollowed := true, recurses := true, apart := false }
def SrcFullSaid : Prop := srcFullRow.holds Try.pinned (OpenSpec.ofChange srcFullSpec)

/-- ITS FALSE NEIGHBOUR: 'it returns false'. Refute it at one input. -/
def srcFullWrong : ChangeSpec := { name := "srcFull", fn := fun _ => fun
  | [d] => { results := [.lit (.bool false)], args := [d] }
  | _ => none }
def SrcFullWrongFalsely : Prop := srcFullRow.holds Try.pinned (OpenSpec.ofChange srcFullWrong)

/-- 'mortiselaw01.WinSums': WHATEVER THE INPUT: true; the input reads as it did. -/
def winSumsSpec : ChangeSpec := { name := "winSums", fn := fun _ => fun
  | [d1, d2] => { results := [.lit (.bool true)], args := [d1, d2] }
  | _ => none }
def winSumsRow : OpenClaim := { program := "ytekinbeiljmddaa", sum := "2db017213b2cb8f4558f70122c866701a3dbf645f2870266da3761470d8ca7f3", func := "mortise/mortiselaw01.WinSums", spec := "winSums", unfollowed := true, recurses := true, apart := false }
def WinSumsSaid : Prop := winSumsRow.holds Try.pinned (OpenSpec.ofChange winSumsSpec)

/-- ITS FALSE NEIGHBOUR: 'it returns false'. Refute it at one input. -/
def winSumsWrong : ChangeSpec := { name := "winSums", fn := fun _ => fun
  | [d1, d2] => { results := [.lit (.bool false)], args := [d1, d2] }
  | _ => none }
def WinSumsWrongFalsely : Prop := winSumsRow.holds Try.pinned (OpenSpec.ofChange winSumsWrong)

/-- 'mortiselaw02.SrcReads': WHATEVER THE INPUT: true; the input reads as it did. -/
def srcReadsSpec : ChangeSpec := { name := "srcReads", fn := fun _ => fun
  | [d1, d2, d3] => { results := [.lit (.bool true)], args := [d1, d2, d3] }
  | _ => none }
def srcReadsRow : OpenClaim := { program := "ytekinbeiljmddaa", sum := "2db017213b2cb8f4558f70122c866701a3dbf645f2870266da3761470d8ca7f3", func := "mortise/mortiselaw02.SrcReads", spec := "srcReads", unfollowed := true, recurses := true, apart := false }
def SrcReadsSaid : Prop := srcReadsRow.holds Try.pinned (OpenSpec.ofChange srcReadsSpec)

/-- ITS FALSE NEIGHBOUR: 'it returns false'. Refute it at one input. -/
def srcReadsWrong : ChangeSpec := { name := "srcReads", fn := fun _ => fun
  | [d1, d2, d3] => { results := [.lit (.bool false)], args := [d1, d2, d3] }
  | _ => none }
def SrcReadsWrongFalsely : Prop := srcReadsRow.holds Try.pinned (OpenSpec.ofChange srcReadsWrong)

/-- 'mortiselaw02.SrcNone': WHATEVER THE INPUT: true; the input reads as it did. -/
def srcNoneSpec : ChangeSpec := { name := "srcNone", fn := fun _ => fun
  | [d1, d2] => { results := [.lit (.bool true)], args := [d1, d2] }
  | _ => none }
def srcNoneRow : OpenClaim := { program := "ytekinbeiljmddaa", sum := "2db017213b2cb8f4558f70122c866701a3dbf645f2870266da3761470d8ca7f3", func := "mortise/mortiselaw02.SrcNone", spec := "srcNone", unfollowed := true, recurses := true, apart := false }
def SrcNoneSaid : Prop := srcNoneRow.holds Try.pinned (OpenSpec.ofChange srcNoneSpec)

/-- ITS FALSE NEIGHBOUR: 'it returns false'. Refute it at one input. -/
def srcNoneWrong : ChangeSpec := { name := "srcNone", fn := fun _ => fun
  | [d1, d2] => { results := [.lit (.bool false)], args := [d1, d2] }
  | _ => none }
def SrcNoneWrongFalsely : Prop := srcNoneRow.holds Try.pinned (OpenSpec.ofChange srcNoneWrong)

/- THE SECOND FORM. 'bulk': how many values and letters a reading holds, each counted each time it is reached (what is shared counts as often as it is met; a slice's spare places count too). A statement '..UptoSaid' is the law's where the arguments, and the package variables that the reading takes, are together of bulk at most 1048576: NARROWER than '..Said'. Prove '..Said' where nothing that the law and all that it calls make is longer than what came in: it says more and counts as full. Else prove '..UptoSaid'. A law counts once. -/
mutual
def uptoBulk {H : Type} : DataW H → Nat
  | .lit (.string bytes) => bytes.length + 1
  | .lit _ => 1
  | .nil => 1
  | .ptr d => uptoBulk d + 1
  | .slice elems spare => uptoBulkAll elems + uptoBulkAll spare + 1
  | .agg parts => uptoBulkAll parts + 1
  | .iface _ d => uptoBulk d + 1
  | .map entries => uptoBulkEntries entries + 1
  | .held _ => 1
def uptoBulkAll {H : Type} : List (DataW H) → Nat
  | [] => 0
  | d :: r => uptoBulk d + uptoBulkAll r
def uptoBulkEntries {H : Type} : List (Lit × DataW H) → Nat
  | [] => 0
  | x :: r => uptoBulkEntry x + uptoBulkEntries r
def uptoBulkEntry {H : Type} : Lit × DataW H → Nat
  | (.string bytes, d) => bytes.length + uptoBulk d + 1
  | (_, d) => uptoBulk d + 1
 end
def uptoSmall : (H : Type) → List (DataW H) → Bool := fun _ ds => decide (uptoBulkAll ds ≤ 1048576)
def OpenSpec.upto (s : _root_.Go.ChangeSpec) : _root_.Go.OpenSpec := { _root_.Go.OpenSpec.ofChange s with cond := some uptoSmall }

/-- 'mortiselaw02.SrcStands', WHERE WHAT IT READS IS OF BULK AT MOST 1048576: true; the input reads as it did. -/
def srcStandsUptoRow : OpenClaim := { program := "ytekinbeiljmddaa", sum := "2db017213b2cb8f4558f70122c866701a3dbf645f2870266da3761470d8ca7f3", func := "mortise/mortiselaw02.SrcStands", spec := "srcStands", unfollowed := true, recurses := true, apart := false, narrowed := true }
def SrcStandsUptoSaid : Prop := srcStandsUptoRow.holds Try.pinned (OpenSpec.upto srcStandsSpec)

/-- 'mortiselaw01.WinBytes', WHERE WHAT IT READS IS OF BULK AT MOST 1048576: true; the input reads as it did. -/
def winBytesUptoRow : OpenClaim := { program := "ytekinbeiljmddaa", sum := "2db017213b2cb8f4558f70122c866701a3dbf645f2870266da3761470d8ca7f3", func := "mortise/mortiselaw01.WinBytes", spec := "winBytes", unfollowed := true, recurses := true, apart := false, narrowed := true }
def WinBytesUptoSaid : Prop := winBytesUptoRow.holds Try.pinned (OpenSpec.upto winBytesSpec)

/-- 'mortiselaw01.WinReads', WHERE WHAT IT READS IS OF BULK AT MOST 1048576: true; the input reads as it did. -/
def winReadsUptoRow : OpenClaim := { program := "ytekinbeiljmddaa", sum := "2db017213b2cb8f4558f70122c866701a3dbf645f2870266da3761470d8ca7f3", func := "mortise/mortiselaw01.WinReads", spec := "winReads", unfollowed := true, recurses := true, apart := false, narrowed := true }
def WinReadsUptoSaid : Prop := winReadsUptoRow.holds Try.pinned (OpenSpec.upto winReadsSpec)

/-- 'mortiselaw01.WinBack', WHERE WHAT IT READS IS OF BULK AT MOST 1048576: true; the input reads as it did. -/
def winBackUptoRow : OpenClaim := { program := "ytekinbeiljmddaa", sum := "2db017213b2cb8f4558f70122c866701a3dbf645f2870266da3761470d8ca7f3", func := "mortise/mortiselaw01.WinBack", spec := "winBack", unfollowed := true, recurses := true, apart := false, narrowed := true }
def WinBackUptoSaid : Prop := winBackUptoRow.holds Try.pinned (OpenSpec.upto winBackSpec)

/-- 'mortiselaw01.WinAligned', WHERE WHAT IT READS IS OF BULK AT MOST 1048576: true; the input reads as it did. -/
def winAlignedUptoRow : OpenClaim := { program := "ytekinbeiljmddaa", sum := "2db017213b2cb8f4558f70122c866701a3dbf645f2870266da3761470d8ca7f3", func := "mortise/mortiselaw01.WinAligned", spec := "winAligned", unfollowed := true, recurses := true, apart := false, narrowed := true }
def WinAlignedUptoSaid : Prop := winAlignedUptoRow.holds Try.pinned (OpenSpec.upto winAlignedSpec)

/-- 'mortiselaw01.WinSubs', WHERE WHAT IT READS IS OF BULK AT MOST 1048576: true; the input reads as it did. -/
def winSubsUptoRow : OpenClaim := { program := "ytekinbeiljmddaa", sum := "2db017213b2cb8f4558f70122c866701a3dbf645f2870266da3761470d8ca7f3", func := "mortise/mortiselaw01.WinSubs", spec := "winSubs", unfollowed := true, recurses := true, apart := false, narrowed := true }
def WinSubsUptoSaid : Prop := winSubsUptoRow.holds Try.pinned (OpenSpec.upto winSubsSpec)

/-- 'mortiselaw02.SrcFull', WHERE WHAT IT READS IS OF BULK AT MOST 1048576: true; the input reads as it did. -/
def srcFullUptoRow : OpenClaim := { program := "ytekinbeiljmddaa", sum := "2db017213b2cb8f4558f70122c866701a3dbf645f2870266da3761470d8ca7f3", func := "mortise/mortiselaw02.SrcFull", spec := "srcFull", unfollowed := true, recurses := true, apart := false, narrowed := true }
def SrcFullUptoSaid : Prop := srcFullUptoRow.holds Try.pinned (OpenSpec.upto srcFullSpec)

/-- 'mortiselaw01.WinSums', WHERE WHAT IT READS IS OF BULK AT MOST 1048576: true; the input reads as it did. -/
def winSumsUptoRow : OpenClaim := { program := "ytekinbeiljmddaa", sum := "2db017213b2cb8f4558f70122c866701a3dbf645f2870266da3761470d8ca7f3", func := "mortise/mortiselaw01.WinSums", spec := "winSums", unfollowed := true, recurses := true, apart := false, narrowed := true }
def WinSumsUptoSaid : Prop := winSumsUptoRow.holds Try.pinned (OpenSpec.upto winSumsSpec)

/-- 'mortiselaw02.SrcReads', WHERE WHAT IT READS IS OF BULK AT MOST 1048576: true; the input reads as it did. -/
def srcReadsUptoRow : OpenClaim := { program := "ytekinbeiljmddaa", sum := "2db017213b2cb8f4558f70122c866701a3dbf645f2870266da3761470d8ca7f3", func := "mortise/mortiselaw02.SrcReads", spec := "srcReads", unfollowed := true, recurses := true, apart := false, narrowed := true }
def SrcReadsUptoSaid : Prop := srcReadsUptoRow.holds Try.pinned (OpenSpec.upto srcReadsSpec)

/-- 'mortiselaw02.SrcNone', WHERE WHAT IT READS IS OF BULK AT MOST 1048576: true; the input reads as it did. -/
def srcNoneUptoRow : OpenClaim := { program := "ytekinbeiljmddaa", sum := "2db017213b2cb8f4558f70122c866701a3dbf645f2870266da3761470d8ca7f3", func := "mortise/mortiselaw02.SrcNone", spec := "srcNone", unfollowed := true, recurses := true, apart := false, narrowed := true }
def SrcNoneUptoSaid : Prop := srcNoneUptoRow.holds Try.pinned (OpenSpec.upto srcNoneSpec)

end Rows
end Go.Proofs.Ytekinbeiljmddaa
