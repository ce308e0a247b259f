/-
  NARROWER THAN 'FOR EVERY INPUT', by the rows' own cells (each row's printed sentence says how): RlpCaps: loops · RlpCuts: loops · WalkItems: loops · RlpPuts: loops.
  DERIVED. THE GIVEN ROWS OF THIS SEAT. 7 by the template 'for every input the law returns true; each argument reads behind the call as it read before'; 0 by the template 'total and deterministic' (their statements: YtopfpfpefljkkaaTotals.lean).
  GIVEN WITH THE SEED: the statements are not yours to turn. If you find one false, say at which input.
  Laid BY PROGRAM, IN A SANDBOX (cutbox-rows.mjs): the forced cells as the released guide's own fill.sh prints them over the translation d9ccf2acabe25171… (all of the seat's roots in one cut). By AI agents, Wed Nov 11 2026. No macro, syntax, notation, axiom, sorry.
-/
import Derived.Test.YtopfpfpefljkkaaChecked
import GoSem.Claim
import GoSem.ClaimJoined
import GoSem.ClaimMapViews
import Derived.JoinedTies
import Derived.KernelRfl
namespace Go.Proofs.Ytopfpfpefljkkaa
/- THE CELL 'sum', in the pinned program and in every row, IS THE sha256 OF THE DUMP (.gsa) THAT YtopfpfpefljkkaaProg.lean LOADS. Nothing in Lean hashes anything: it is a label: what it is worth is what the hold of that sum in a sandbox is worth. -/
noncomputable def Try.pinned : Pinned := { name := "ytopfpfpefljkkaa", sum := "d9ccf2acabe251719e5479a3ef7fcda1689a80ff8bce74668815fe43b34738de", checked := Try.checked }
namespace Rows
def none {H : Type} : Left H := { results := [], args := [] }

/-- 'hatchwaylaw09.RlpReads': WHATEVER THE INPUT: true; the input reads as it did. -/
def rlpReadsSpec : ChangeSpec := { name := "rlpReads", fn := fun _ => fun
  | [d1, d2, d3] => { results := [.lit (.bool true)], args := [d1, d2, d3] }
  | _ => none }
def rlpReadsRow : OpenClaim := { program := "ytopfpfpefljkkaa", sum := "d9ccf2acabe251719e5479a3ef7fcda1689a80ff8bce74668815fe43b34738de", func := "hatchway/hatchwaylaw09.RlpReads", spec := "rlpReads", unfollowed := true, recurses := true, apart := false }
def RlpReadsSaid : Prop := rlpReadsRow.holds Try.pinned (OpenSpec.ofChange rlpReadsSpec)

/-- ITS FALSE NEIGHBOUR: 'it returns false'. Refute it at one input. -/
def rlpReadsWrong : ChangeSpec := { name := "rlpReads", fn := fun _ => fun
  | [d1, d2, d3] => { results := [.lit (.bool false)], args := [d1, d2, d3] }
  | _ => none }
def RlpReadsWrongFalsely : Prop := rlpReadsRow.holds Try.pinned (OpenSpec.ofChange rlpReadsWrong)

/-- 'hatchwaylaw09.RlpCaps': WHATEVER THE INPUT: true; the input reads as it did. -/
def rlpCapsSpec : ChangeSpec := { name := "rlpCaps", fn := fun _ => fun
  | [d1, d2] => { results := [.lit (.bool true)], args := [d1, d2] }
  | _ => none }
def rlpCapsRow : OpenClaim := { program := "ytopfpfpefljkkaa", sum := "d9ccf2acabe251719e5479a3ef7fcda1689a80ff8bce74668815fe43b34738de", func := "hatchway/hatchwaylaw09.RlpCaps", spec := "rlpCaps", unfollowed := true, recurses := true, loops := true, apart := false }
def RlpCapsSaid : Prop := rlpCapsRow.holds Try.pinned (OpenSpec.ofChange rlpCapsSpec)

/-- ITS FALSE NEIGHBOUR: 'it returns false'. Refute it at one input. -/
def rlpCapsWrong : ChangeSpec := { name := "rlpCaps", fn := fun _ => fun
  | [d1, d2] => { results := [.lit (.bool false)], args := [d1, d2] }
  | _ => none }
def RlpCapsWrongFalsely : Prop := rlpCapsRow.holds Try.pinned (OpenSpec.ofChange rlpCapsWrong)

/-- 'hatchwaylaw09.RlpCuts': WHATEVER THE INPUT: true; the input reads as it did. -/
def rlpCutsSpec : ChangeSpec := { name := "rlpCuts", fn := fun _ => fun
  | [d1, d2, d3] => { results := [.lit (.bool true)], args := [d1, d2, d3] }
  | _ => none }
def rlpCutsRow : OpenClaim := { program := "ytopfpfpefljkkaa", sum := "d9ccf2acabe251719e5479a3ef7fcda1689a80ff8bce74668815fe43b34738de", func := "hatchway/hatchwaylaw09.RlpCuts", spec := "rlpCuts", unfollowed := true, recurses := true, loops := true, apart := false }
def RlpCutsSaid : Prop := rlpCutsRow.holds Try.pinned (OpenSpec.ofChange rlpCutsSpec)

/-- ITS FALSE NEIGHBOUR: 'it returns false'. Refute it at one input. -/
def rlpCutsWrong : ChangeSpec := { name := "rlpCuts", fn := fun _ => fun
  | [d1, d2, d3] => { results := [.lit (.bool false)], args := [d1, d2, d3] }
  | _ => none }
def RlpCutsWrongFalsely : Prop := rlpCutsRow.holds Try.pinned (OpenSpec.ofChange rlpCutsWrong)

/-- 'hatchwaylaw10.WalkItems': WHATEVER THE INPUT: true; the input reads as it did. -/
def walkItemsSpec : ChangeSpec := { name := "walkItems", fn := fun _ => fun
  | [d] => { results := [.lit (.bool true)], args := [d] }
  | _ => none }
def walkItemsRow : OpenClaim := { program := "ytopfpfpefljkkaa", sum := "d9ccf2acabe251719e5479a3ef7fcda1689a80ff8bce74668815fe43b34738de", func := "hatchway/hatchwaylaw10.WalkItems", spec := "walkItems", unfollowed := true, recurses := true, loops := true, apart := false }
def WalkItemsSaid : Prop := walkItemsRow.holds Try.pinned (OpenSpec.ofChange walkItemsSpec)

/-- ITS FALSE NEIGHBOUR: 'it returns false'. Refute it at one input. -/
def walkItemsWrong : ChangeSpec := { name := "walkItems", fn := fun _ => fun
  | [d] => { results := [.lit (.bool false)], args := [d] }
  | _ => none }
def WalkItemsWrongFalsely : Prop := walkItemsRow.holds Try.pinned (OpenSpec.ofChange walkItemsWrong)

/-- 'hatchwaylaw10.WalkBytes': WHATEVER THE INPUT: true; the input reads as it did. -/
def walkBytesSpec : ChangeSpec := { name := "walkBytes", fn := fun _ => fun
  | [d1, d2, d3] => { results := [.lit (.bool true)], args := [d1, d2, d3] }
  | _ => none }
def walkBytesRow : OpenClaim := { program := "ytopfpfpefljkkaa", sum := "d9ccf2acabe251719e5479a3ef7fcda1689a80ff8bce74668815fe43b34738de", func := "hatchway/hatchwaylaw10.WalkBytes", spec := "walkBytes", unfollowed := true, recurses := true, apart := false }
def WalkBytesSaid : Prop := walkBytesRow.holds Try.pinned (OpenSpec.ofChange walkBytesSpec)

/-- ITS FALSE NEIGHBOUR: 'it returns false'. Refute it at one input. -/
def walkBytesWrong : ChangeSpec := { name := "walkBytes", fn := fun _ => fun
  | [d1, d2, d3] => { results := [.lit (.bool false)], args := [d1, d2, d3] }
  | _ => none }
def WalkBytesWrongFalsely : Prop := walkBytesRow.holds Try.pinned (OpenSpec.ofChange walkBytesWrong)

/-- 'hatchwaylaw10.WalkBuilds': WHATEVER THE INPUT: true; the input reads as it did. -/
def walkBuildsSpec : ChangeSpec := { name := "walkBuilds", fn := fun _ => fun
  | [d] => { results := [.lit (.bool true)], args := [d] }
  | _ => none }
def walkBuildsRow : OpenClaim := { program := "ytopfpfpefljkkaa", sum := "d9ccf2acabe251719e5479a3ef7fcda1689a80ff8bce74668815fe43b34738de", func := "hatchway/hatchwaylaw10.WalkBuilds", spec := "walkBuilds", unfollowed := true, recurses := true, apart := false }
def WalkBuildsSaid : Prop := walkBuildsRow.holds Try.pinned (OpenSpec.ofChange walkBuildsSpec)

/-- ITS FALSE NEIGHBOUR: 'it returns false'. Refute it at one input. -/
def walkBuildsWrong : ChangeSpec := { name := "walkBuilds", fn := fun _ => fun
  | [d] => { results := [.lit (.bool false)], args := [d] }
  | _ => none }
def WalkBuildsWrongFalsely : Prop := walkBuildsRow.holds Try.pinned (OpenSpec.ofChange walkBuildsWrong)

/-- 'hatchwaylaw09.RlpPuts': WHATEVER THE INPUT: true; the input reads as it did. -/
def rlpPutsSpec : ChangeSpec := { name := "rlpPuts", fn := fun _ => fun
  | [d] => { results := [.lit (.bool true)], args := [d] }
  | _ => none }
def rlpPutsRow : OpenClaim := { program := "ytopfpfpefljkkaa", sum := "d9ccf2acabe251719e5479a3ef7fcda1689a80ff8bce74668815fe43b34738de", func := "hatchway/hatchwaylaw09.RlpPuts", spec := "rlpPuts", unfollowed := true, recurses := true, loops := true, apart := false }
def RlpPutsSaid : Prop := rlpPutsRow.holds Try.pinned (OpenSpec.ofChange rlpPutsSpec)

/-- ITS FALSE NEIGHBOUR: 'it returns false'. Refute it at one input. -/
def rlpPutsWrong : ChangeSpec := { name := "rlpPuts", fn := fun _ => fun
  | [d] => { results := [.lit (.bool false)], args := [d] }
  | _ => none }
def RlpPutsWrongFalsely : Prop := rlpPutsRow.holds Try.pinned (OpenSpec.ofChange rlpPutsWrong)

/- THE SECOND FORM. 'bulk': how many values and letters a reading holds, each counted each time it is reached (what is shared counts as often as it is met; a slice's spare places count too). A statement '..UptoSaid' is the law's where the arguments, and the package variables that the reading takes, are together of bulk at most 1048576: NARROWER than '..Said'. Prove '..Said' where nothing that the law and all that it calls make is longer than what came in: it says more and counts as full. Else prove '..UptoSaid'. A law counts once. -/
mutual
def uptoBulk {H : Type} : DataW H → Nat
  | .lit (.string bytes) => bytes.length + 1
  | .lit _ => 1
  | .nil => 1
  | .ptr d => uptoBulk d + 1
  | .slice elems spare => uptoBulkAll elems + uptoBulkAll spare + 1
  | .agg parts => uptoBulkAll parts + 1
  | .iface _ d => uptoBulk d + 1
  | .map entries => uptoBulkEntries entries + 1
  | .held _ => 1
def uptoBulkAll {H : Type} : List (DataW H) → Nat
  | [] => 0
  | d :: r => uptoBulk d + uptoBulkAll r
def uptoBulkEntries {H : Type} : List (Lit × DataW H) → Nat
  | [] => 0
  | x :: r => uptoBulkEntry x + uptoBulkEntries r
def uptoBulkEntry {H : Type} : Lit × DataW H → Nat
  | (.string bytes, d) => bytes.length + uptoBulk d + 1
  | (_, d) => uptoBulk d + 1
 end
def uptoSmall : (H : Type) → List (DataW H) → Bool := fun _ ds => decide (uptoBulkAll ds ≤ 1048576)
def OpenSpec.upto (s : _root_.Go.ChangeSpec) : _root_.Go.OpenSpec := { _root_.Go.OpenSpec.ofChange s with cond := some uptoSmall }

/-- 'hatchwaylaw09.RlpReads', WHERE WHAT IT READS IS OF BULK AT MOST 1048576: true; the input reads as it did. -/
def rlpReadsUptoRow : OpenClaim := { program := "ytopfpfpefljkkaa", sum := "d9ccf2acabe251719e5479a3ef7fcda1689a80ff8bce74668815fe43b34738de", func := "hatchway/hatchwaylaw09.RlpReads", spec := "rlpReads", unfollowed := true, recurses := true, apart := false, narrowed := true }
def RlpReadsUptoSaid : Prop := rlpReadsUptoRow.holds Try.pinned (OpenSpec.upto rlpReadsSpec)

/-- 'hatchwaylaw09.RlpCaps', WHERE WHAT IT READS IS OF BULK AT MOST 1048576: true; the input reads as it did. -/
def rlpCapsUptoRow : OpenClaim := { program := "ytopfpfpefljkkaa", sum := "d9ccf2acabe251719e5479a3ef7fcda1689a80ff8bce74668815fe43b34738de", func := "hatchway/hatchwaylaw09.RlpCaps", spec := "rlpCaps", unfollowed := true, recurses := true, loops := true, apart := false, narrowed := true }
def RlpCapsUptoSaid : Prop := rlpCapsUptoRow.holds Try.pinned (OpenSpec.upto rlpCapsSpec)

/-- 'hatchwaylaw09.RlpCuts', WHERE WHAT IT READS IS OF BULK AT MOST 1048576: true; the input reads as it did. -/
def rlpCutsUptoRow : OpenClaim := { program := "ytopfpfpefljkkaa", sum := "d9ccf2acabe251719e5479a3ef7fcda1689a80ff8bce74668815fe43b34738de", func := "hatchway/hatchwaylaw09.RlpCuts", spec := "rlpCuts", unfollowed := true, recurses := true, loops := true, apart := false, narrowed := true }
def RlpCutsUptoSaid : Prop := rlpCutsUptoRow.holds Try.pinned (OpenSpec.upto rlpCutsSpec)

/-- 'hatchwaylaw10.WalkItems', WHERE WHAT IT READS IS OF BULK AT MOST 1048576: true; the input reads as it did. -/
def walkItemsUptoRow : OpenClaim := { program := "ytopfpfpefljkkaa", sum := "d9ccf2acabe251719e5479a3ef7fcda1689a80ff8bce74668815fe43b34738de", func := "hatchway/hatchwaylaw10.WalkItems", spec := "walkItems", unfollowed := true, recurses := true, loops := true, apart := false, narrowed := true }
def WalkItemsUptoSaid : Prop := walkItemsUptoRow.holds Try.pinned (OpenSpec.upto walkItemsSpec)

/-- 'hatchwaylaw10.WalkBytes', WHERE WHAT IT READS IS OF BULK AT MOST 1048576: true; the input reads as it did. -/
def walkBytesUptoRow : OpenClaim := { program := "ytopfpfpefljkkaa", sum := "d9ccf2acabe251719e5479a3ef7fcda1689a80ff8bce74668815fe43b34738de", func := "hatchway/hatchwaylaw10.WalkBytes", spec := "walkBytes", unfollowed := true, recurses := true, apart := false, narrowed := true }
def WalkBytesUptoSaid : Prop := walkBytesUptoRow.holds Try.pinned (OpenSpec.upto walkBytesSpec)

/-- 'hatchwaylaw10.WalkBuilds', WHERE WHAT IT READS IS OF BULK AT MOST 1048576: true; the input reads as it did. -/
def walkBuildsUptoRow : OpenClaim := { program := "ytopfpfpefljkkaa", sum := "d9ccf2acabe251719e5479a3ef7fcda1689a80ff8bce74668815fe43b34738de", func := "hatchway/hatchwaylaw10.WalkBuilds", spec := "walkBuilds", unfollowed := true, recurses := true, apart := false, narrowed := true }
def WalkBuildsUptoSaid : Prop := walkBuildsUptoRow.holds Try.pinned (OpenSpec.upto walkBuildsSpec)

/-- 'hatchwaylaw09.RlpPuts', WHERE WHAT IT READS IS OF BULK AT MOST 1048576: true; the input reads as it did. -/
def rlpPutsUptoRow : OpenClaim := { program := "ytopfpfpefljkkaa", sum := "d9ccf2acabe251719e5479a3ef7fcda1689a80ff8bce74668815fe43b34738de", func := "hatchway/hatchwaylaw09.RlpPuts", spec := "rlpPuts", unfollowed := true, recurses := true, loops := true, apart := false, narrowed := true }
def RlpPutsUptoSaid : Prop := rlpPutsUptoRow.holds Try.pinned (OpenSpec.upto rlpPutsSpec)

end Rows
end Go.Proofs.Ytopfpfpefljkkaa
