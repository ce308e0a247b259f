/-
  NARROWER THAN 'FOR EVERY INPUT', by the rows' own cells (each row's printed sentence says how): WholeBytes: laid · WholeOne: laid · WholeUnlike: loops, laid · WholeTyped: laid · WholeMixed: loops, laid.
  DERIVED. THE GIVEN ROWS OF THIS SEAT. 5 by the template 'for every input the law returns true; each argument reads behind the call as it read before'; 0 by the template 'total and deterministic' (their statements: YtamfcjmhnndbdaaGreatDoorTotals.lean).
  GIVEN WITH THE SEED: the statements are not yours to turn. If you find one false, say at which input.
  Laid BY PROGRAM, IN A SANDBOX (cutbox-rows.mjs): the forced cells as the released guide's own fill.sh prints them over the translation bdef9fdfc6592084… (all of the seat's roots in one cut). By AI agents, Wed Nov 11 2026. No macro, syntax, notation, axiom, sorry.
-/
import Derived.Test.YtamfcjmhnndbdaaGreatDoorChecked
import GoSem.PinnedTables
import GoSem.Claim
import GoSem.ClaimJoined
import GoSem.ClaimMapViews
import Derived.JoinedTies
import Derived.KernelRfl
namespace Go.Proofs.YtamfcjmhnndbdaaGreatDoor
/- THE CELL 'sum', in the pinned program and in every row, IS THE sha256 OF THE DUMP (.gsa) THAT YtamfcjmhnndbdaaGreatDoorProg.lean LOADS. Nothing in Lean hashes anything: it is a label: what it is worth is what the hold of that sum in a sandbox is worth. -/
noncomputable def Tryz.pinned : Pinned := { name := "ytamfcjmhnndbdaagreatdoor", sum := "bdef9fdfc659208441db3837bd657a7aa85d8a9ced98a23c292c1f1734c4cd87", checked := Tryz.checked }
namespace Rows
def none {H : Type} : Left H := { results := [], args := [] }

/- WHAT THE LISTED PACKAGE-LEVEL VARIABLES READ AS WHEN THE CALL BEGINS. Each datum BY PROGRAM (the guide's laid-datum.mjs) off the statement by which the dump's own 'gosem.cut.vars' lays the variable. In a bare row this is a premise. The card (YtamfcjmhnndbdaaGreatDoorCards.lean) ties it to the program's text. -/
def laid_unicode_utf8_acceptRanges {H : Type} : DataW H := .agg [.agg [.lit (.int .u8 128), .lit (.int .u8 191)], .agg [.lit (.int .u8 160), .lit (.int .u8 191)], .agg [.lit (.int .u8 128), .lit (.int .u8 159)], .agg [.lit (.int .u8 144), .lit (.int .u8 191)], .agg [.lit (.int .u8 128), .lit (.int .u8 143)], .agg [.lit (.int .u8 0), .lit (.int .u8 0)], .agg [.lit (.int .u8 0), .lit (.int .u8 0)], .agg [.lit (.int .u8 0), .lit (.int .u8 0)], .agg [.lit (.int .u8 0), .lit (.int .u8 0)], .agg [.lit (.int .u8 0), .lit (.int .u8 0)], .agg [.lit (.int .u8 0), .lit (.int .u8 0)], .agg [.lit (.int .u8 0), .lit (.int .u8 0)], .agg [.lit (.int .u8 0), .lit (.int .u8 0)], .agg [.lit (.int .u8 0), .lit (.int .u8 0)], .agg [.lit (.int .u8 0), .lit (.int .u8 0)], .agg [.lit (.int .u8 0), .lit (.int .u8 0)]]
def laid_hatchway_compact_behind {H : Type} : DataW H := .agg [.lit (.int .i64 2), .lit (.int .i64 4), .lit (.int .i64 8)]
def laid_hatchway_schema_uintSizes {H : Type} : DataW H := .agg [.lit (.int .i64 1), .lit (.int .i64 2), .lit (.int .i64 4), .lit (.int .i64 8)]
/-- One of Go's own tables, pinned by name: the form's constant. -/
def laid_unicode_utf8_first : DataW Unit := Go.Pinned.utf8First

/-- 'hatchwaytop.WholeBytes': WHATEVER THE INPUT: true; the input reads as it did. -/
def wholeBytesSpec : ChangeSpec := { name := "wholeBytes", fn := fun _ => fun
  | [d1, d2, d3] => { results := [.lit (.bool true)], args := [d1, d2, d3] }
  | _ => none }
def wholeBytesRow : OpenClaim := { program := "ytamfcjmhnndbdaagreatdoor", sum := "bdef9fdfc659208441db3837bd657a7aa85d8a9ced98a23c292c1f1734c4cd87", func := "hatchway/hatchwaytop.WholeBytes", spec := "wholeBytes", inPlace := ["internal/abi.NoEscape", "internal/bytealg.MakeNoZero", "internal/bytealg.IndexByteString", "internal/bytealg.IndexString"], unfollowed := true, recurses := true, named := ["hatchway/schema.uintSizes", "hatchway/compact.behind", "unicode/utf8.first", "unicode/utf8.acceptRanges", "internal/bytealg.MaxLen"], plainKeys := false, apart := false, laid := [("unicode/utf8.acceptRanges", laid_unicode_utf8_acceptRanges), ("hatchway/compact.behind", laid_hatchway_compact_behind), ("hatchway/schema.uintSizes", laid_hatchway_schema_uintSizes), ("unicode/utf8.first", laid_unicode_utf8_first)] }
def WholeBytesSaid : Prop := wholeBytesRow.holds Tryz.pinned (OpenSpec.ofChange wholeBytesSpec)

/-- ITS FALSE NEIGHBOUR: 'it returns false'. Refute it at one input. -/
def wholeBytesWrong : ChangeSpec := { name := "wholeBytes", fn := fun _ => fun
  | [d1, d2, d3] => { results := [.lit (.bool false)], args := [d1, d2, d3] }
  | _ => none }
def WholeBytesWrongFalsely : Prop := wholeBytesRow.holds Tryz.pinned (OpenSpec.ofChange wholeBytesWrong)

/-- 'hatchwaytop.WholeOne': WHATEVER THE INPUT: true; the input reads as it did. -/
def wholeOneSpec : ChangeSpec := { name := "wholeOne", fn := fun _ => fun
  | [d1, d2, d3] => { results := [.lit (.bool true)], args := [d1, d2, d3] }
  | _ => none }
def wholeOneRow : OpenClaim := { program := "ytamfcjmhnndbdaagreatdoor", sum := "bdef9fdfc659208441db3837bd657a7aa85d8a9ced98a23c292c1f1734c4cd87", func := "hatchway/hatchwaytop.WholeOne", spec := "wholeOne", inPlace := ["internal/abi.NoEscape", "internal/bytealg.MakeNoZero", "internal/bytealg.IndexByteString", "internal/bytealg.IndexString"], unfollowed := true, recurses := true, named := ["hatchway/schema.uintSizes", "hatchway/compact.behind", "unicode/utf8.first", "unicode/utf8.acceptRanges", "internal/bytealg.MaxLen"], plainKeys := false, apart := false, laid := [("unicode/utf8.acceptRanges", laid_unicode_utf8_acceptRanges), ("hatchway/compact.behind", laid_hatchway_compact_behind), ("hatchway/schema.uintSizes", laid_hatchway_schema_uintSizes), ("unicode/utf8.first", laid_unicode_utf8_first)] }
def WholeOneSaid : Prop := wholeOneRow.holds Tryz.pinned (OpenSpec.ofChange wholeOneSpec)

/-- ITS FALSE NEIGHBOUR: 'it returns false'. Refute it at one input. -/
def wholeOneWrong : ChangeSpec := { name := "wholeOne", fn := fun _ => fun
  | [d1, d2, d3] => { results := [.lit (.bool false)], args := [d1, d2, d3] }
  | _ => none }
def WholeOneWrongFalsely : Prop := wholeOneRow.holds Tryz.pinned (OpenSpec.ofChange wholeOneWrong)

/-- 'hatchwaytop.WholeUnlike': WHATEVER THE INPUT: true; the input reads as it did. -/
def wholeUnlikeSpec : ChangeSpec := { name := "wholeUnlike", fn := fun _ => fun
  | [d1, d2, d3, d4] => { results := [.lit (.bool true)], args := [d1, d2, d3, d4] }
  | _ => none }
def wholeUnlikeRow : OpenClaim := { program := "ytamfcjmhnndbdaagreatdoor", sum := "bdef9fdfc659208441db3837bd657a7aa85d8a9ced98a23c292c1f1734c4cd87", func := "hatchway/hatchwaytop.WholeUnlike", spec := "wholeUnlike", inPlace := ["internal/abi.NoEscape", "internal/bytealg.MakeNoZero", "internal/bytealg.IndexByteString", "internal/bytealg.IndexString"], unfollowed := true, recurses := true, named := ["hatchway/schema.uintSizes", "hatchway/compact.behind", "unicode/utf8.first", "unicode/utf8.acceptRanges", "internal/bytealg.MaxLen"], loops := true, plainKeys := false, apart := false, laid := [("unicode/utf8.acceptRanges", laid_unicode_utf8_acceptRanges), ("hatchway/compact.behind", laid_hatchway_compact_behind), ("hatchway/schema.uintSizes", laid_hatchway_schema_uintSizes), ("unicode/utf8.first", laid_unicode_utf8_first)] }
def WholeUnlikeSaid : Prop := wholeUnlikeRow.holds Tryz.pinned (OpenSpec.ofChange wholeUnlikeSpec)

/-- ITS FALSE NEIGHBOUR: 'it returns false'. Refute it at one input. -/
def wholeUnlikeWrong : ChangeSpec := { name := "wholeUnlike", fn := fun _ => fun
  | [d1, d2, d3, d4] => { results := [.lit (.bool false)], args := [d1, d2, d3, d4] }
  | _ => none }
def WholeUnlikeWrongFalsely : Prop := wholeUnlikeRow.holds Tryz.pinned (OpenSpec.ofChange wholeUnlikeWrong)

/-- 'hatchwaytop.WholeTyped': WHATEVER THE INPUT: true; the input reads as it did. -/
def wholeTypedSpec : ChangeSpec := { name := "wholeTyped", fn := fun _ => fun
  | [d1, d2, d3] => { results := [.lit (.bool true)], args := [d1, d2, d3] }
  | _ => none }
def wholeTypedRow : OpenClaim := { program := "ytamfcjmhnndbdaagreatdoor", sum := "bdef9fdfc659208441db3837bd657a7aa85d8a9ced98a23c292c1f1734c4cd87", func := "hatchway/hatchwaytop.WholeTyped", spec := "wholeTyped", inPlace := ["internal/abi.NoEscape", "internal/bytealg.MakeNoZero", "internal/bytealg.IndexByteString", "internal/bytealg.IndexString"], unfollowed := true, recurses := true, named := ["hatchway/schema.uintSizes", "hatchway/compact.behind", "unicode/utf8.first", "unicode/utf8.acceptRanges", "internal/bytealg.MaxLen"], plainKeys := false, apart := false, laid := [("unicode/utf8.acceptRanges", laid_unicode_utf8_acceptRanges), ("hatchway/compact.behind", laid_hatchway_compact_behind), ("hatchway/schema.uintSizes", laid_hatchway_schema_uintSizes), ("unicode/utf8.first", laid_unicode_utf8_first)] }
def WholeTypedSaid : Prop := wholeTypedRow.holds Tryz.pinned (OpenSpec.ofChange wholeTypedSpec)

/-- ITS FALSE NEIGHBOUR: 'it returns false'. Refute it at one input. -/
def wholeTypedWrong : ChangeSpec := { name := "wholeTyped", fn := fun _ => fun
  | [d1, d2, d3] => { results := [.lit (.bool false)], args := [d1, d2, d3] }
  | _ => none }
def WholeTypedWrongFalsely : Prop := wholeTypedRow.holds Tryz.pinned (OpenSpec.ofChange wholeTypedWrong)

/-- 'hatchwaytop.WholeMixed': WHATEVER THE INPUT: true; the input reads as it did. -/
def wholeMixedSpec : ChangeSpec := { name := "wholeMixed", fn := fun _ => fun
  | [d1, d2, d3] => { results := [.lit (.bool true)], args := [d1, d2, d3] }
  | _ => none }
def wholeMixedRow : OpenClaim := { program := "ytamfcjmhnndbdaagreatdoor", sum := "bdef9fdfc659208441db3837bd657a7aa85d8a9ced98a23c292c1f1734c4cd87", func := "hatchway/hatchwaytop.WholeMixed", spec := "wholeMixed", inPlace := ["internal/abi.NoEscape", "internal/bytealg.MakeNoZero", "internal/bytealg.IndexByteString", "internal/bytealg.IndexString"], unfollowed := true, recurses := true, named := ["hatchway/schema.uintSizes", "hatchway/compact.behind", "unicode/utf8.first", "unicode/utf8.acceptRanges", "internal/bytealg.MaxLen"], loops := true, plainKeys := false, apart := false, laid := [("unicode/utf8.acceptRanges", laid_unicode_utf8_acceptRanges), ("hatchway/compact.behind", laid_hatchway_compact_behind), ("hatchway/schema.uintSizes", laid_hatchway_schema_uintSizes), ("unicode/utf8.first", laid_unicode_utf8_first)] }
def WholeMixedSaid : Prop := wholeMixedRow.holds Tryz.pinned (OpenSpec.ofChange wholeMixedSpec)

/-- ITS FALSE NEIGHBOUR: 'it returns false'. Refute it at one input. -/
def wholeMixedWrong : ChangeSpec := { name := "wholeMixed", fn := fun _ => fun
  | [d1, d2, d3] => { results := [.lit (.bool false)], args := [d1, d2, d3] }
  | _ => none }
def WholeMixedWrongFalsely : Prop := wholeMixedRow.holds Tryz.pinned (OpenSpec.ofChange wholeMixedWrong)

/- THE SECOND FORM. 'bulk': how many values and letters a reading holds, each counted each time it is reached (what is shared counts as often as it is met; a slice's spare places count too). A statement '..UptoSaid' is the law's where the arguments, and the package variables that the reading takes, are together of bulk at most 1048576: NARROWER than '..Said'. Prove '..Said' where nothing that the law and all that it calls make is longer than what came in: it says more and counts as full. Else prove '..UptoSaid'. A law counts once. -/
mutual
def uptoBulk {H : Type} : DataW H → Nat
  | .lit (.string bytes) => bytes.length + 1
  | .lit _ => 1
  | .nil => 1
  | .ptr d => uptoBulk d + 1
  | .slice elems spare => uptoBulkAll elems + uptoBulkAll spare + 1
  | .agg parts => uptoBulkAll parts + 1
  | .iface _ d => uptoBulk d + 1
  | .map entries => uptoBulkEntries entries + 1
  | .held _ => 1
def uptoBulkAll {H : Type} : List (DataW H) → Nat
  | [] => 0
  | d :: r => uptoBulk d + uptoBulkAll r
def uptoBulkEntries {H : Type} : List (Lit × DataW H) → Nat
  | [] => 0
  | x :: r => uptoBulkEntry x + uptoBulkEntries r
def uptoBulkEntry {H : Type} : Lit × DataW H → Nat
  | (.string bytes, d) => bytes.length + uptoBulk d + 1
  | (_, d) => uptoBulk d + 1
 end
def uptoSmall : (H : Type) → List (DataW H) → Bool := fun _ ds => decide (uptoBulkAll ds ≤ 1048576)
def OpenSpec.upto (s : _root_.Go.ChangeSpec) : _root_.Go.OpenSpec := { _root_.Go.OpenSpec.ofChange s with cond := some uptoSmall }

/-- 'hatchwaytop.WholeBytes', WHERE WHAT IT READS IS OF BULK AT MOST 1048576: true; the input reads as it did. -/
def wholeBytesUptoRow : OpenClaim := { program := "ytamfcjmhnndbdaagreatdoor", sum := "bdef9fdfc659208441db3837bd657a7aa85d8a9ced98a23c292c1f1734c4cd87", func := "hatchway/hatchwaytop.WholeBytes", spec := "wholeBytes", inPlace := ["internal/abi.NoEscape", "internal/bytealg.MakeNoZero", "internal/bytealg.IndexByteString", "internal/bytealg.IndexString"], unfollowed := true, recurses := true, named := ["hatchway/schema.uintSizes", "hatchway/compact.behind", "unicode/utf8.first", "unicode/utf8.acceptRanges", "internal/bytealg.MaxLen"], plainKeys := false, apart := false, laid := [("unicode/utf8.acceptRanges", laid_unicode_utf8_acceptRanges), ("hatchway/compact.behind", laid_hatchway_compact_behind), ("hatchway/schema.uintSizes", laid_hatchway_schema_uintSizes), ("unicode/utf8.first", laid_unicode_utf8_first)], narrowed := true }
def WholeBytesUptoSaid : Prop := wholeBytesUptoRow.holds Tryz.pinned (OpenSpec.upto wholeBytesSpec)

/-- 'hatchwaytop.WholeOne', WHERE WHAT IT READS IS OF BULK AT MOST 1048576: true; the input reads as it did. -/
def wholeOneUptoRow : OpenClaim := { program := "ytamfcjmhnndbdaagreatdoor", sum := "bdef9fdfc659208441db3837bd657a7aa85d8a9ced98a23c292c1f1734c4cd87", func := "hatchway/hatchwaytop.WholeOne", spec := "wholeOne", inPlace := ["internal/abi.NoEscape", "internal/bytealg.MakeNoZero", "internal/bytealg.IndexByteString", "internal/bytealg.IndexString"], unfollowed := true, recurses := true, named := ["hatchway/schema.uintSizes", "hatchway/compact.behind", "unicode/utf8.first", "unicode/utf8.acceptRanges", "internal/bytealg.MaxLen"], plainKeys := false, apart := false, laid := [("unicode/utf8.acceptRanges", laid_unicode_utf8_acceptRanges), ("hatchway/compact.behind", laid_hatchway_compact_behind), ("hatchway/schema.uintSizes", laid_hatchway_schema_uintSizes), ("unicode/utf8.first", laid_unicode_utf8_first)], narrowed := true }
def WholeOneUptoSaid : Prop := wholeOneUptoRow.holds Tryz.pinned (OpenSpec.upto wholeOneSpec)

/-- 'hatchwaytop.WholeUnlike', WHERE WHAT IT READS IS OF BULK AT MOST 1048576: true; the input reads as it did. -/
def wholeUnlikeUptoRow : OpenClaim := { program := "ytamfcjmhnndbdaagreatdoor", sum := "bdef9fdfc659208441db3837bd657a7aa85d8a9ced98a23c292c1f1734c4cd87", func := "hatchway/hatchwaytop.WholeUnlike", spec := "wholeUnlike", inPlace := ["internal/abi.NoEscape", "internal/bytealg.MakeNoZero", "internal/bytealg.IndexByteString", "internal/bytealg.IndexString"], unfollowed := true, recurses := true, named := ["hatchway/schema.uintSizes", "hatchway/compact.behind", "unicode/utf8.first", "unicode/utf8.acceptRanges", "internal/bytealg.MaxLen"], loops := true, plainKeys := false, apart := false, laid := [("unicode/utf8.acceptRanges", laid_unicode_utf8_acceptRanges), ("hatchway/compact.behind", laid_hatchway_compact_behind), ("hatchway/schema.uintSizes", laid_hatchway_schema_uintSizes), ("unicode/utf8.first", laid_unicode_utf8_first)], narrowed := true }
def WholeUnlikeUptoSaid : Prop := wholeUnlikeUptoRow.holds Tryz.pinned (OpenSpec.upto wholeUnlikeSpec)

/-- 'hatchwaytop.WholeTyped', WHERE WHAT IT READS IS OF BULK AT MOST 1048576: true; the input reads as it did. -/
def wholeTypedUptoRow : OpenClaim := { program := "ytamfcjmhnndbdaagreatdoor", sum := "bdef9fdfc659208441db3837bd657a7aa85d8a9ced98a23c292c1f1734c4cd87", func := "hatchway/hatchwaytop.WholeTyped", spec := "wholeTyped", inPlace := ["internal/abi.NoEscape", "internal/bytealg.MakeNoZero", "internal/bytealg.IndexByteString", "internal/bytealg.IndexString"], unfollowed := true, recurses := true, named := ["hatchway/schema.uintSizes", "hatchway/compact.behind", "unicode/utf8.first", "unicode/utf8.acceptRanges", "internal/bytealg.MaxLen"], plainKeys := false, apart := false, laid := [("unicode/utf8.acceptRanges", laid_unicode_utf8_acceptRanges), ("hatchway/compact.behind", laid_hatchway_compact_behind), ("hatchway/schema.uintSizes", laid_hatchway_schema_uintSizes), ("unicode/utf8.first", laid_unicode_utf8_first)], narrowed := true }
def WholeTypedUptoSaid : Prop := wholeTypedUptoRow.holds Tryz.pinned (OpenSpec.upto wholeTypedSpec)

/-- 'hatchwaytop.WholeMixed', WHERE WHAT IT READS IS OF BULK AT MOST 1048576: true; the input reads as it did. -/
def wholeMixedUptoRow : OpenClaim := { program := "ytamfcjmhnndbdaagreatdoor", sum := "bdef9fdfc659208441db3837bd657a7aa85d8a9ced98a23c292c1f1734c4cd87", func := "hatchway/hatchwaytop.WholeMixed", spec := "wholeMixed", inPlace := ["internal/abi.NoEscape", "internal/bytealg.MakeNoZero", "internal/bytealg.IndexByteString", "internal/bytealg.IndexString"], unfollowed := true, recurses := true, named := ["hatchway/schema.uintSizes", "hatchway/compact.behind", "unicode/utf8.first", "unicode/utf8.acceptRanges", "internal/bytealg.MaxLen"], loops := true, plainKeys := false, apart := false, laid := [("unicode/utf8.acceptRanges", laid_unicode_utf8_acceptRanges), ("hatchway/compact.behind", laid_hatchway_compact_behind), ("hatchway/schema.uintSizes", laid_hatchway_schema_uintSizes), ("unicode/utf8.first", laid_unicode_utf8_first)], narrowed := true }
def WholeMixedUptoSaid : Prop := wholeMixedUptoRow.holds Tryz.pinned (OpenSpec.upto wholeMixedSpec)

end Rows
end Go.Proofs.YtamfcjmhnndbdaaGreatDoor
