/-
  No cell of these rows narrows 'for every input' (looked for: loops, veiled, ifaces, maps, wideKeys, modest, calm, conditions, laid).
  DERIVED. THE GIVEN ROWS OF THIS SEAT. 7 by the template 'for every input the law returns true; each argument reads behind the call as it read before'; 0 by the template 'total and deterministic' (their statements: YtemfecdpjegocaaTotals.lean).
  GIVEN WITH THE SEED: the statements are not yours to turn. If you find one false, say at which input.
  Laid BY PROGRAM, IN A SANDBOX (cutbox-rows.mjs): the forced cells as the released guide's own fill.sh prints them over the translation 664d6790c859fe12… (all of the seat's roots in one cut). By AI agents, Wed Nov 11 2026. No macro, syntax, notation, axiom, sorry.
-/
import Derived.Test.YtemfecdpjegocaaChecked
import GoSem.Claim
import GoSem.ClaimJoined
import GoSem.ClaimMapViews
import Derived.JoinedTies
import Derived.KernelRfl
namespace Go.Proofs.Ytemfecdpjegocaa
/- THE CELL 'sum', in the pinned program and in every row, IS THE sha256 OF THE DUMP (.gsa) THAT YtemfecdpjegocaaProg.lean LOADS. Nothing in Lean hashes anything: it is a label: what it is worth is what the hold of that sum in a sandbox is worth. -/
noncomputable def Try.pinned : Pinned := { name := "ytemfecdpjegocaa", sum := "664d6790c859fe1209fcef3fa286f86e85efb7d04ef8289fe860af63da725a0b", checked := Try.checked }
namespace Rows
def none {H : Type} : Left H := { results := [], args := [] }

/-- 'hatchwaylaw30.PartsCuts': WHATEVER THE INPUT: true; the input reads as it did. -/
def partsCutsSpec : ChangeSpec := { name := "partsCuts", fn := fun _ => fun
  | [d1, d2, d3] => { results := [.lit (.bool true)], args := [d1, d2, d3] }
  | _ => none }
def partsCutsRow : OpenClaim := { program := "ytemfecdpjegocaa", sum := "664d6790c859fe1209fcef3fa286f86e85efb7d04ef8289fe860af63da725a0b", func := "hatchway/hatchwaylaw30.PartsCuts", spec := "partsCuts", inPlace := ["internal/abi.NoEscape"], unfollowed := true, recurses := true, apart := false }
def PartsCutsSaid : Prop := partsCutsRow.holds Try.pinned (OpenSpec.ofChange partsCutsSpec)

/-- ITS FALSE NEIGHBOUR: 'it returns false'. Refute it at one input. -/
def partsCutsWrong : ChangeSpec := { name := "partsCuts", fn := fun _ => fun
  | [d1, d2, d3] => { results := [.lit (.bool false)], args := [d1, d2, d3] }
  | _ => none }
def PartsCutsWrongFalsely : Prop := partsCutsRow.holds Try.pinned (OpenSpec.ofChange partsCutsWrong)

/-- 'hatchwaylaw31.KnownLately': WHATEVER THE INPUT: true; the input reads as it did. -/
def knownLatelySpec : ChangeSpec := { name := "knownLately", fn := fun _ => fun
  | [d1, d2] => { results := [.lit (.bool true)], args := [d1, d2] }
  | _ => none }
def knownLatelyRow : OpenClaim := { program := "ytemfecdpjegocaa", sum := "664d6790c859fe1209fcef3fa286f86e85efb7d04ef8289fe860af63da725a0b", func := "hatchway/hatchwaylaw31.KnownLately", spec := "knownLately", unfollowed := true, recurses := true, apart := false }
def KnownLatelySaid : Prop := knownLatelyRow.holds Try.pinned (OpenSpec.ofChange knownLatelySpec)

/-- ITS FALSE NEIGHBOUR: 'it returns false'. Refute it at one input. -/
def knownLatelyWrong : ChangeSpec := { name := "knownLately", fn := fun _ => fun
  | [d1, d2] => { results := [.lit (.bool false)], args := [d1, d2] }
  | _ => none }
def KnownLatelyWrongFalsely : Prop := knownLatelyRow.holds Try.pinned (OpenSpec.ofChange knownLatelyWrong)

/-- 'hatchwaylaw31.KnownAsks': WHATEVER THE INPUT: true; the input reads as it did. -/
def knownAsksSpec : ChangeSpec := { name := "knownAsks", fn := fun _ => fun
  | [d1, d2] => { results := [.lit (.bool true)], args := [d1, d2] }
  | _ => none }
def knownAsksRow : OpenClaim := { program := "ytemfecdpjegocaa", sum := "664d6790c859fe1209fcef3fa286f86e85efb7d04ef8289fe860af63da725a0b", func := "hatchway/hatchwaylaw31.KnownAsks", spec := "knownAsks", unfollowed := true, recurses := true, apart := false }
def KnownAsksSaid : Prop := knownAsksRow.holds Try.pinned (OpenSpec.ofChange knownAsksSpec)

/-- ITS FALSE NEIGHBOUR: 'it returns false'. Refute it at one input. -/
def knownAsksWrong : ChangeSpec := { name := "knownAsks", fn := fun _ => fun
  | [d1, d2] => { results := [.lit (.bool false)], args := [d1, d2] }
  | _ => none }
def KnownAsksWrongFalsely : Prop := knownAsksRow.holds Try.pinned (OpenSpec.ofChange knownAsksWrong)

/-- 'hatchwaylaw31.KnownPlays': WHATEVER THE INPUT: true; the input reads as it did. -/
def knownPlaysSpec : ChangeSpec := { name := "knownPlays", fn := fun _ => fun
  | [d1, d2, d3] => { results := [.lit (.bool true)], args := [d1, d2, d3] }
  | _ => none }
def knownPlaysRow : OpenClaim := { program := "ytemfecdpjegocaa", sum := "664d6790c859fe1209fcef3fa286f86e85efb7d04ef8289fe860af63da725a0b", func := "hatchway/hatchwaylaw31.KnownPlays", spec := "knownPlays", unfollowed := true, recurses := true, apart := false }
def KnownPlaysSaid : Prop := knownPlaysRow.holds Try.pinned (OpenSpec.ofChange knownPlaysSpec)

/-- ITS FALSE NEIGHBOUR: 'it returns false'. Refute it at one input. -/
def knownPlaysWrong : ChangeSpec := { name := "knownPlays", fn := fun _ => fun
  | [d1, d2, d3] => { results := [.lit (.bool false)], args := [d1, d2, d3] }
  | _ => none }
def KnownPlaysWrongFalsely : Prop := knownPlaysRow.holds Try.pinned (OpenSpec.ofChange knownPlaysWrong)

/-- 'hatchwaylaw30.PartsBytes': WHATEVER THE INPUT: true; the input reads as it did. -/
def partsBytesSpec : ChangeSpec := { name := "partsBytes", fn := fun _ => fun
  | [d1, d2] => { results := [.lit (.bool true)], args := [d1, d2] }
  | _ => none }
def partsBytesRow : OpenClaim := { program := "ytemfecdpjegocaa", sum := "664d6790c859fe1209fcef3fa286f86e85efb7d04ef8289fe860af63da725a0b", func := "hatchway/hatchwaylaw30.PartsBytes", spec := "partsBytes", inPlace := ["internal/abi.NoEscape"], unfollowed := true, recurses := true, apart := false }
def PartsBytesSaid : Prop := partsBytesRow.holds Try.pinned (OpenSpec.ofChange partsBytesSpec)

/-- ITS FALSE NEIGHBOUR: 'it returns false'. Refute it at one input. -/
def partsBytesWrong : ChangeSpec := { name := "partsBytes", fn := fun _ => fun
  | [d1, d2] => { results := [.lit (.bool false)], args := [d1, d2] }
  | _ => none }
def PartsBytesWrongFalsely : Prop := partsBytesRow.holds Try.pinned (OpenSpec.ofChange partsBytesWrong)

/-- 'hatchwaylaw30.PartsPlays': WHATEVER THE INPUT: true; the input reads as it did. -/
def partsPlaysSpec : ChangeSpec := { name := "partsPlays", fn := fun _ => fun
  | [d1, d2, d3] => { results := [.lit (.bool true)], args := [d1, d2, d3] }
  | _ => none }
def partsPlaysRow : OpenClaim := { program := "ytemfecdpjegocaa", sum := "664d6790c859fe1209fcef3fa286f86e85efb7d04ef8289fe860af63da725a0b", func := "hatchway/hatchwaylaw30.PartsPlays", spec := "partsPlays", inPlace := ["internal/abi.NoEscape"], unfollowed := true, recurses := true, apart := false }
def PartsPlaysSaid : Prop := partsPlaysRow.holds Try.pinned (OpenSpec.ofChange partsPlaysSpec)

/-- ITS FALSE NEIGHBOUR: 'it returns false'. Refute it at one input. -/
def partsPlaysWrong : ChangeSpec := { name := "partsPlays", fn := fun _ => fun
  | [d1, d2, d3] => { results := [.lit (.bool false)], args := [d1, d2, d3] }
  | _ => none }
def PartsPlaysWrongFalsely : Prop := partsPlaysRow.holds Try.pinned (OpenSpec.ofChange partsPlaysWrong)

/-- 'hatchwaylaw30.PartsOrder': WHATEVER THE INPUT: true; the input reads as it did. -/
def partsOrderSpec : ChangeSpec := { name := "partsOrder", fn := fun _ => fun
  | [d1, d2, d3, d4] => { results := [.lit (.bool true)], args := [d1, d2, d3, d4] }
  | _ => none }
def partsOrderRow : OpenClaim := { program := "ytemfecdpjegocaa", sum := "664d6790c859fe1209fcef3fa286f86e85efb7d04ef8289fe860af63da725a0b", func := "hatchway/hatchwaylaw30.PartsOrder", spec := "partsOrder", inPlace := ["internal/abi.NoEscape"], unfollowed := true, recurses := true, apart := false }
def PartsOrderSaid : Prop := partsOrderRow.holds Try.pinned (OpenSpec.ofChange partsOrderSpec)

/-- ITS FALSE NEIGHBOUR: 'it returns false'. Refute it at one input. -/
def partsOrderWrong : ChangeSpec := { name := "partsOrder", fn := fun _ => fun
  | [d1, d2, d3, d4] => { results := [.lit (.bool false)], args := [d1, d2, d3, d4] }
  | _ => none }
def PartsOrderWrongFalsely : Prop := partsOrderRow.holds Try.pinned (OpenSpec.ofChange partsOrderWrong)

/- THE SECOND FORM. 'bulk': how many values and letters a reading holds, each counted each time it is reached (what is shared counts as often as it is met; a slice's spare places count too). A statement '..UptoSaid' is the law's where the arguments, and the package variables that the reading takes, are together of bulk at most 1048576: NARROWER than '..Said'. Prove '..Said' where nothing that the law and all that it calls make is longer than what came in: it says more and counts as full. Else prove '..UptoSaid'. A law counts once. -/
mutual
def uptoBulk {H : Type} : DataW H → Nat
  | .lit (.string bytes) => bytes.length + 1
  | .lit _ => 1
  | .nil => 1
  | .ptr d => uptoBulk d + 1
  | .slice elems spare => uptoBulkAll elems + uptoBulkAll spare + 1
  | .agg parts => uptoBulkAll parts + 1
  | .iface _ d => uptoBulk d + 1
  | .map entries => uptoBulkEntries entries + 1
  | .held _ => 1
def uptoBulkAll {H : Type} : List (DataW H) → Nat
  | [] => 0
  | d :: r => uptoBulk d + uptoBulkAll r
def uptoBulkEntries {H : Type} : List (Lit × DataW H) → Nat
  | [] => 0
  | x :: r => uptoBulkEntry x + uptoBulkEntries r
def uptoBulkEntry {H : Type} : Lit × DataW H → Nat
  | (.string bytes, d) => bytes.length + uptoBulk d + 1
  | (_, d) => uptoBulk d + 1
 end
def uptoSmall : (H : Type) → List (DataW H) → Bool := fun _ ds => decide (uptoBulkAll ds ≤ 1048576)
def OpenSpec.upto (s : _root_.Go.ChangeSpec) : _root_.Go.OpenSpec := { _root_.Go.OpenSpec.ofChange s with cond := some uptoSmall }

/-- 'hatchwaylaw30.PartsCuts', WHERE WHAT IT READS IS OF BULK AT MOST 1048576: true; the input reads as it did. -/
def partsCutsUptoRow : OpenClaim := { program := "ytemfecdpjegocaa", sum := "664d6790c859fe1209fcef3fa286f86e85efb7d04ef8289fe860af63da725a0b", func := "hatchway/hatchwaylaw30.PartsCuts", spec := "partsCuts", inPlace := ["internal/abi.NoEscape"], unfollowed := true, recurses := true, apart := false, narrowed := true }
def PartsCutsUptoSaid : Prop := partsCutsUptoRow.holds Try.pinned (OpenSpec.upto partsCutsSpec)

/-- 'hatchwaylaw31.KnownLately', WHERE WHAT IT READS IS OF BULK AT MOST 1048576: true; the input reads as it did. -/
def knownLatelyUptoRow : OpenClaim := { program := "ytemfecdpjegocaa", sum := "664d6790c859fe1209fcef3fa286f86e85efb7d04ef8289fe860af63da725a0b", func := "hatchway/hatchwaylaw31.KnownLately", spec := "knownLately", unfollowed := true, recurses := true, apart := false, narrowed := true }
def KnownLatelyUptoSaid : Prop := knownLatelyUptoRow.holds Try.pinned (OpenSpec.upto knownLatelySpec)

/-- 'hatchwaylaw31.KnownAsks', WHERE WHAT IT READS IS OF BULK AT MOST 1048576: true; the input reads as it did. -/
def knownAsksUptoRow : OpenClaim := { program := "ytemfecdpjegocaa", sum := "664d6790c859fe1209fcef3fa286f86e85efb7d04ef8289fe860af63da725a0b", func := "hatchway/hatchwaylaw31.KnownAsks", spec := "knownAsks", unfollowed := true, recurses := true, apart := false, narrowed := true }
def KnownAsksUptoSaid : Prop := knownAsksUptoRow.holds Try.pinned (OpenSpec.upto knownAsksSpec)

/-- 'hatchwaylaw31.KnownPlays', WHERE WHAT IT READS IS OF BULK AT MOST 1048576: true; the input reads as it did. -/
def knownPlaysUptoRow : OpenClaim := { program := "ytemfecdpjegocaa", sum := "664d6790c859fe1209fcef3fa286f86e85efb7d04ef8289fe860af63da725a0b", func := "hatchway/hatchwaylaw31.KnownPlays", spec := "knownPlays", unfollowed := true, recurses := true, apart := false, narrowed := true }
def KnownPlaysUptoSaid : Prop := knownPlaysUptoRow.holds Try.pinned (OpenSpec.upto knownPlaysSpec)

/-- 'hatchwaylaw30.PartsBytes', WHERE WHAT IT READS IS OF BULK AT MOST 1048576: true; the input reads as it did. -/
def partsBytesUptoRow : OpenClaim := { program := "ytemfecdpjegocaa", sum := "664d6790c859fe1209fcef3fa286f86e85efb7d04ef8289fe860af63da725a0b", func := "hatchway/hatchwaylaw30.PartsBytes", spec := "partsBytes", inPlace := ["internal/abi.NoEscape"], unfollowed := true, recurses := true, apart := false, narrowed := true }
def PartsBytesUptoSaid : Prop := partsBytesUptoRow.holds Try.pinned (OpenSpec.upto partsBytesSpec)

/-- 'hatchwaylaw30.PartsPlays', WHERE WHAT IT READS IS OF BULK AT MOST 1048576: true; the input reads as it did. -/
def partsPlaysUptoRow : OpenClaim := { program := "ytemfecdpjegocaa", sum := "664d6790c859fe1209fcef3fa286f86e85efb7d04ef8289fe860af63da725a0b", func := "hatchway/hatchwaylaw30.PartsPlays", spec := "partsPlays", inPlace := ["internal/abi.NoEscape"], unfollowed := true, recurses := true, apart := false, narrowed := true }
def PartsPlaysUptoSaid : Prop := partsPlaysUptoRow.holds Try.pinned (OpenSpec.upto partsPlaysSpec)

/-- 'hatchwaylaw30.PartsOrder', WHERE WHAT IT READS IS OF BULK AT MOST 1048576: true; the input reads as it did. -/
def partsOrderUptoRow : OpenClaim := { program := "ytemfecdpjegocaa", sum := "664d6790c859fe1209fcef3fa286f86e85efb7d04ef8289fe860af63da725a0b", func := "hatchway/hatchwaylaw30.PartsOrder", spec := "partsOrder", inPlace := ["internal/abi.NoEscape"], unfollowed := true, recurses := true, apart := false, narrowed := true }
def PartsOrderUptoSaid : Prop := partsOrderUptoRow.holds Try.pinned (OpenSpec.upto partsOrderSpec)

end Rows
end Go.Proofs.Ytemfecdpjegocaa
