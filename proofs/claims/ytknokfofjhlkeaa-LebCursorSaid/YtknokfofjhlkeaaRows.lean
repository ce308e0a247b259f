/-
  No cell of these rows narrows 'for every input' (looked for: loops, veiled, ifaces, maps, wideKeys, modest, calm, conditions, laid).
  DERIVED. THE GIVEN ROWS OF THIS SEAT. 9 by the template 'for every input the law returns true; each argument reads behind the call as it read before'; 0 by the template 'total and deterministic' (their statements: YtknokfofjhlkeaaTotals.lean).
  GIVEN WITH THE SEED: the statements are not yours to turn. If you find one false, say at which input.
  Laid BY PROGRAM, IN A SANDBOX (cutbox-rows.mjs): the forced cells as the released guide's own fill.sh prints them over the translation 87ae1bd0d8a413a7… (all of the seat's roots in one cut). By AI agents, Wed Nov 11 2026. No macro, syntax, notation, axiom, sorry.
-/
import Derived.Test.YtknokfofjhlkeaaChecked
import GoSem.Claim
import GoSem.ClaimJoined
import GoSem.ClaimMapViews
import Derived.JoinedTies
import Derived.KernelRfl
namespace Go.Proofs.Ytknokfofjhlkeaa
/- THE CELL 'sum', in the pinned program and in every row, IS THE sha256 OF THE DUMP (.gsa) THAT YtknokfofjhlkeaaProg.lean LOADS. Nothing in Lean hashes anything: it is a label: what it is worth is what the hold of that sum in a sandbox is worth. -/
noncomputable def Try.pinned : Pinned := { name := "ytknokfofjhlkeaa", sum := "87ae1bd0d8a413a7854e07e05d476d64a3811d4766acb06f648e4e6abe4e0fb7", checked := Try.checked }
namespace Rows
def none {H : Type} : Left H := { results := [], args := [] }

/-- 'hatchwaylaw03.LebReads': WHATEVER THE INPUT: true; the input reads as it did. -/
def lebReadsSpec : ChangeSpec := { name := "lebReads", fn := fun _ => fun
  | [d] => { results := [.lit (.bool true)], args := [d] }
  | _ => none }
def lebReadsRow : OpenClaim := { program := "ytknokfofjhlkeaa", sum := "87ae1bd0d8a413a7854e07e05d476d64a3811d4766acb06f648e4e6abe4e0fb7", func := "hatchway/hatchwaylaw03.LebReads", spec := "lebReads", apart := false }
def LebReadsSaid : Prop := lebReadsRow.holds Try.pinned (OpenSpec.ofChange lebReadsSpec)

/-- ITS FALSE NEIGHBOUR: 'it returns false'. Refute it at one input. -/
def lebReadsWrong : ChangeSpec := { name := "lebReads", fn := fun _ => fun
  | [d] => { results := [.lit (.bool false)], args := [d] }
  | _ => none }
def LebReadsWrongFalsely : Prop := lebReadsRow.holds Try.pinned (OpenSpec.ofChange lebReadsWrong)

/-- 'hatchwaylaw03.LebShort': WHATEVER THE INPUT: true; the input reads as it did. -/
def lebShortSpec : ChangeSpec := { name := "lebShort", fn := fun _ => fun
  | [d1, d2] => { results := [.lit (.bool true)], args := [d1, d2] }
  | _ => none }
def lebShortRow : OpenClaim := { program := "ytknokfofjhlkeaa", sum := "87ae1bd0d8a413a7854e07e05d476d64a3811d4766acb06f648e4e6abe4e0fb7", func := "hatchway/hatchwaylaw03.LebShort", spec := "lebShort", apart := false }
def LebShortSaid : Prop := lebShortRow.holds Try.pinned (OpenSpec.ofChange lebShortSpec)

/-- ITS FALSE NEIGHBOUR: 'it returns false'. Refute it at one input. -/
def lebShortWrong : ChangeSpec := { name := "lebShort", fn := fun _ => fun
  | [d1, d2] => { results := [.lit (.bool false)], args := [d1, d2] }
  | _ => none }
def LebShortWrongFalsely : Prop := lebShortRow.holds Try.pinned (OpenSpec.ofChange lebShortWrong)

/-- 'hatchwaylaw03.LebPuts': WHATEVER THE INPUT: true; the input reads as it did. -/
def lebPutsSpec : ChangeSpec := { name := "lebPuts", fn := fun _ => fun
  | [d1, d2] => { results := [.lit (.bool true)], args := [d1, d2] }
  | _ => none }
def lebPutsRow : OpenClaim := { program := "ytknokfofjhlkeaa", sum := "87ae1bd0d8a413a7854e07e05d476d64a3811d4766acb06f648e4e6abe4e0fb7", func := "hatchway/hatchwaylaw03.LebPuts", spec := "lebPuts", recurses := true, apart := false }
def LebPutsSaid : Prop := lebPutsRow.holds Try.pinned (OpenSpec.ofChange lebPutsSpec)

/-- ITS FALSE NEIGHBOUR: 'it returns false'. Refute it at one input. -/
def lebPutsWrong : ChangeSpec := { name := "lebPuts", fn := fun _ => fun
  | [d1, d2] => { results := [.lit (.bool false)], args := [d1, d2] }
  | _ => none }
def LebPutsWrongFalsely : Prop := lebPutsRow.holds Try.pinned (OpenSpec.ofChange lebPutsWrong)

/-- 'hatchwaylaw07.MeterSums': WHATEVER THE INPUT: true; the input reads as it did. -/
def meterSumsSpec : ChangeSpec := { name := "meterSums", fn := fun _ => fun
  | [d1, d2] => { results := [.lit (.bool true)], args := [d1, d2] }
  | _ => none }
def meterSumsRow : OpenClaim := { program := "ytknokfofjhlkeaa", sum := "87ae1bd0d8a413a7854e07e05d476d64a3811d4766acb06f648e4e6abe4e0fb7", func := "hatchway/hatchwaylaw07.MeterSums", spec := "meterSums", unfollowed := true, recurses := true, apart := false }
def MeterSumsSaid : Prop := meterSumsRow.holds Try.pinned (OpenSpec.ofChange meterSumsSpec)

/-- ITS FALSE NEIGHBOUR: 'it returns false'. Refute it at one input. -/
def meterSumsWrong : ChangeSpec := { name := "meterSums", fn := fun _ => fun
  | [d1, d2] => { results := [.lit (.bool false)], args := [d1, d2] }
  | _ => none }
def MeterSumsWrongFalsely : Prop := meterSumsRow.holds Try.pinned (OpenSpec.ofChange meterSumsWrong)

/-- 'hatchwaylaw01.CursorWhole': WHATEVER THE INPUT: true; the input reads as it did. -/
def cursorWholeSpec : ChangeSpec := { name := "cursorWhole", fn := fun _ => fun
  | [d1, d2] => { results := [.lit (.bool true)], args := [d1, d2] }
  | _ => none }
def cursorWholeRow : OpenClaim := { program := "ytknokfofjhlkeaa", sum := "87ae1bd0d8a413a7854e07e05d476d64a3811d4766acb06f648e4e6abe4e0fb7", func := "hatchway/hatchwaylaw01.CursorWhole", spec := "cursorWhole", unfollowed := true, recurses := true, apart := false }
def CursorWholeSaid : Prop := cursorWholeRow.holds Try.pinned (OpenSpec.ofChange cursorWholeSpec)

/-- ITS FALSE NEIGHBOUR: 'it returns false'. Refute it at one input. -/
def cursorWholeWrong : ChangeSpec := { name := "cursorWhole", fn := fun _ => fun
  | [d1, d2] => { results := [.lit (.bool false)], args := [d1, d2] }
  | _ => none }
def CursorWholeWrongFalsely : Prop := cursorWholeRow.holds Try.pinned (OpenSpec.ofChange cursorWholeWrong)

/-- 'hatchwaylaw01.CursorShort': WHATEVER THE INPUT: true; the input reads as it did. -/
def cursorShortSpec : ChangeSpec := { name := "cursorShort", fn := fun _ => fun
  | [d1, d2, d3, d4] => { results := [.lit (.bool true)], args := [d1, d2, d3, d4] }
  | _ => none }
def cursorShortRow : OpenClaim := { program := "ytknokfofjhlkeaa", sum := "87ae1bd0d8a413a7854e07e05d476d64a3811d4766acb06f648e4e6abe4e0fb7", func := "hatchway/hatchwaylaw01.CursorShort", spec := "cursorShort", unfollowed := true, recurses := true, apart := false }
def CursorShortSaid : Prop := cursorShortRow.holds Try.pinned (OpenSpec.ofChange cursorShortSpec)

/-- ITS FALSE NEIGHBOUR: 'it returns false'. Refute it at one input. -/
def cursorShortWrong : ChangeSpec := { name := "cursorShort", fn := fun _ => fun
  | [d1, d2, d3, d4] => { results := [.lit (.bool false)], args := [d1, d2, d3, d4] }
  | _ => none }
def CursorShortWrongFalsely : Prop := cursorShortRow.holds Try.pinned (OpenSpec.ofChange cursorShortWrong)

/-- 'hatchwaylaw07.MeterPlays': WHATEVER THE INPUT: true; the input reads as it did. -/
def meterPlaysSpec : ChangeSpec := { name := "meterPlays", fn := fun _ => fun
  | [d1, d2] => { results := [.lit (.bool true)], args := [d1, d2] }
  | _ => none }
def meterPlaysRow : OpenClaim := { program := "ytknokfofjhlkeaa", sum := "87ae1bd0d8a413a7854e07e05d476d64a3811d4766acb06f648e4e6abe4e0fb7", func := "hatchway/hatchwaylaw07.MeterPlays", spec := "meterPlays", unfollowed := true, recurses := true, apart := false }
def MeterPlaysSaid : Prop := meterPlaysRow.holds Try.pinned (OpenSpec.ofChange meterPlaysSpec)

/-- ITS FALSE NEIGHBOUR: 'it returns false'. Refute it at one input. -/
def meterPlaysWrong : ChangeSpec := { name := "meterPlays", fn := fun _ => fun
  | [d1, d2] => { results := [.lit (.bool false)], args := [d1, d2] }
  | _ => none }
def MeterPlaysWrongFalsely : Prop := meterPlaysRow.holds Try.pinned (OpenSpec.ofChange meterPlaysWrong)

/-- 'hatchwaylaw01.CursorPlays': WHATEVER THE INPUT: true; the input reads as it did. -/
def cursorPlaysSpec : ChangeSpec := { name := "cursorPlays", fn := fun _ => fun
  | [d1, d2] => { results := [.lit (.bool true)], args := [d1, d2] }
  | _ => none }
def cursorPlaysRow : OpenClaim := { program := "ytknokfofjhlkeaa", sum := "87ae1bd0d8a413a7854e07e05d476d64a3811d4766acb06f648e4e6abe4e0fb7", func := "hatchway/hatchwaylaw01.CursorPlays", spec := "cursorPlays", unfollowed := true, recurses := true, apart := false }
def CursorPlaysSaid : Prop := cursorPlaysRow.holds Try.pinned (OpenSpec.ofChange cursorPlaysSpec)

/-- ITS FALSE NEIGHBOUR: 'it returns false'. Refute it at one input. -/
def cursorPlaysWrong : ChangeSpec := { name := "cursorPlays", fn := fun _ => fun
  | [d1, d2] => { results := [.lit (.bool false)], args := [d1, d2] }
  | _ => none }
def CursorPlaysWrongFalsely : Prop := cursorPlaysRow.holds Try.pinned (OpenSpec.ofChange cursorPlaysWrong)

/-- 'hatchwaylaw03.LebCursor': WHATEVER THE INPUT: true; the input reads as it did. -/
def lebCursorSpec : ChangeSpec := { name := "lebCursor", fn := fun _ => fun
  | [d1, d2] => { results := [.lit (.bool true)], args := [d1, d2] }
  | _ => none }
def lebCursorRow : OpenClaim := { program := "ytknokfofjhlkeaa", sum := "87ae1bd0d8a413a7854e07e05d476d64a3811d4766acb06f648e4e6abe4e0fb7", func := "hatchway/hatchwaylaw03.LebCursor", spec := "lebCursor", unfollowed := true, recurses := true, apart := false }
def LebCursorSaid : Prop := lebCursorRow.holds Try.pinned (OpenSpec.ofChange lebCursorSpec)

/-- ITS FALSE NEIGHBOUR: 'it returns false'. Refute it at one input. -/
def lebCursorWrong : ChangeSpec := { name := "lebCursor", fn := fun _ => fun
  | [d1, d2] => { results := [.lit (.bool false)], args := [d1, d2] }
  | _ => none }
def LebCursorWrongFalsely : Prop := lebCursorRow.holds Try.pinned (OpenSpec.ofChange lebCursorWrong)

/- THE SECOND FORM. 'bulk': how many values and letters a reading holds, each counted each time it is reached (what is shared counts as often as it is met; a slice's spare places count too). A statement '..UptoSaid' is the law's where the arguments, and the package variables that the reading takes, are together of bulk at most 1048576: NARROWER than '..Said'. Prove '..Said' where nothing that the law and all that it calls make is longer than what came in: it says more and counts as full. Else prove '..UptoSaid'. A law counts once. -/
mutual
def uptoBulk {H : Type} : DataW H → Nat
  | .lit (.string bytes) => bytes.length + 1
  | .lit _ => 1
  | .nil => 1
  | .ptr d => uptoBulk d + 1
  | .slice elems spare => uptoBulkAll elems + uptoBulkAll spare + 1
  | .agg parts => uptoBulkAll parts + 1
  | .iface _ d => uptoBulk d + 1
  | .map entries => uptoBulkEntries entries + 1
  | .held _ => 1
def uptoBulkAll {H : Type} : List (DataW H) → Nat
  | [] => 0
  | d :: r => uptoBulk d + uptoBulkAll r
def uptoBulkEntries {H : Type} : List (Lit × DataW H) → Nat
  | [] => 0
  | x :: r => uptoBulkEntry x + uptoBulkEntries r
def uptoBulkEntry {H : Type} : Lit × DataW H → Nat
  | (.string bytes, d) => bytes.length + uptoBulk d + 1
  | (_, d) => uptoBulk d + 1
 end
def uptoSmall : (H : Type) → List (DataW H) → Bool := fun _ ds => decide (uptoBulkAll ds ≤ 1048576)
def OpenSpec.upto (s : _root_.Go.ChangeSpec) : _root_.Go.OpenSpec := { _root_.Go.OpenSpec.ofChange s with cond := some uptoSmall }

/-- 'hatchwaylaw03.LebReads', WHERE WHAT IT READS IS OF BULK AT MOST 1048576: true; the input reads as it did. -/
def lebReadsUptoRow : OpenClaim := { program := "ytknokfofjhlkeaa", sum := "87ae1bd0d8a413a7854e07e05d476d64a3811d4766acb06f648e4e6abe4e0fb7", func := "hatchway/hatchwaylaw03.LebReads", spec := "lebReads", apart := false, narrowed := true }
def LebReadsUptoSaid : Prop := lebReadsUptoRow.holds Try.pinned (OpenSpec.upto lebReadsSpec)

/-- 'hatchwaylaw03.LebShort', WHERE WHAT IT READS IS OF BULK AT MOST 1048576: true; the input reads as it did. -/
def lebShortUptoRow : OpenClaim := { program := "ytknokfofjhlkeaa", sum := "87ae1bd0d8a413a7854e07e05d476d64a3811d4766acb06f648e4e6abe4e0fb7", func := "hatchway/hatchwaylaw03.LebShort", spec := "lebShort", apart := false, narrowed := true }
def LebShortUptoSaid : Prop := lebShortUptoRow.holds Try.pinned (OpenSpec.upto lebShortSpec)

/-- 'hatchwaylaw03.LebPuts', WHERE WHAT IT READS IS OF BULK AT MOST 1048576: true; the input reads as it did. -/
def lebPutsUptoRow : OpenClaim := { program := "ytknokfofjhlkeaa", sum := "87ae1bd0d8a413a7854e07e05d476d64a3811d4766acb06f648e4e6abe4e0fb7", func := "hatchway/hatchwaylaw03.LebPuts", spec := "lebPuts", recurses := true, apart := false, narrowed := true }
def LebPutsUptoSaid : Prop := lebPutsUptoRow.holds Try.pinned (OpenSpec.upto lebPutsSpec)

/-- 'hatchwaylaw07.MeterSums', WHERE WHAT IT READS IS OF BULK AT MOST 1048576: true; the input reads as it did. -/
def meterSumsUptoRow : OpenClaim := { program := "ytknokfofjhlkeaa", sum := "87ae1bd0d8a413a7854e07e05d476d64a3811d4766acb06f648e4e6abe4e0fb7", func := "hatchway/hatchwaylaw07.MeterSums", spec := "meterSums", unfollowed := true, recurses := true, apart := false, narrowed := true }
def MeterSumsUptoSaid : Prop := meterSumsUptoRow.holds Try.pinned (OpenSpec.upto meterSumsSpec)

/-- 'hatchwaylaw01.CursorWhole', WHERE WHAT IT READS IS OF BULK AT MOST 1048576: true; the input reads as it did. -/
def cursorWholeUptoRow : OpenClaim := { program := "ytknokfofjhlkeaa", sum := "87ae1bd0d8a413a7854e07e05d476d64a3811d4766acb06f648e4e6abe4e0fb7", func := "hatchway/hatchwaylaw01.CursorWhole", spec := "cursorWhole", unfollowed := true, recurses := true, apart := false, narrowed := true }
def CursorWholeUptoSaid : Prop := cursorWholeUptoRow.holds Try.pinned (OpenSpec.upto cursorWholeSpec)

/-- 'hatchwaylaw01.CursorShort', WHERE WHAT IT READS IS OF BULK AT MOST 1048576: true; the input reads as it did. -/
def cursorShortUptoRow : OpenClaim := { program := "ytknokfofjhlkeaa", sum := "87ae1bd0d8a413a7854e07e05d476d64a3811d4766acb06f648e4e6abe4e0fb7", func := "hatchway/hatchwaylaw01.CursorShort", spec := "cursorShort", unfollowed := true, recurses := true, apart := false, narrowed := true }
def CursorShortUptoSaid : Prop := cursorShortUptoRow.holds Try.pinned (OpenSpec.upto cursorShortSpec)

/-- 'hatchwaylaw07.MeterPlays', WHERE WHAT IT READS IS OF BULK AT MOST 1048576: true; the input reads as it did. -/
def meterPlaysUptoRow : OpenClaim := { program := "ytknokfofjhlkeaa", sum := "87ae1bd0d8a413a7854e07e05d476d64a3811d4766acb06f648e4e6abe4e0fb7", func := "hatchway/hatchwaylaw07.MeterPlays", spec := "meterPlays", unfollowed := true, recurses := true, apart := false, narrowed := true }
def MeterPlaysUptoSaid : Prop := meterPlaysUptoRow.holds Try.pinned (OpenSpec.upto meterPlaysSpec)

/-- 'hatchwaylaw01.CursorPlays', WHERE WHAT IT READS IS OF BULK AT MOST 1048576: true; the input reads as it did. -/
def cursorPlaysUptoRow : OpenClaim := { program := "ytknokfofjhlkeaa", sum := "87ae1bd0d8a413a7854e07e05d476d64a3811d4766acb06f648e4e6abe4e0fb7", func := "hatchway/hatchwaylaw01.CursorPlays", spec := "cursorPlays", unfollowed := true, recurses := true, apart := false, narrowed := true }
def CursorPlaysUptoSaid : Prop := cursorPlaysUptoRow.holds Try.pinned (OpenSpec.upto cursorPlaysSpec)

/-- 'hatchwaylaw03.LebCursor', WHERE WHAT IT READS IS OF BULK AT MOST 1048576: true; the input reads as it did. -/
def lebCursorUptoRow : OpenClaim := { program := "ytknokfofjhlkeaa", sum := "87ae1bd0d8a413a7854e07e05d476d64a3811d4766acb06f648e4e6abe4e0fb7", func := "hatchway/hatchwaylaw03.LebCursor", spec := "lebCursor", unfollowed := true, recurses := true, apart := false, narrowed := true }
def LebCursorUptoSaid : Prop := lebCursorUptoRow.holds Try.pinned (OpenSpec.upto lebCursorSpec)

end Rows
end Go.Proofs.Ytknokfofjhlkeaa
