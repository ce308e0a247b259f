/-
  No cell of these rows narrows 'for every input' (looked for: loops, veiled, ifaces, maps, wideKeys, modest, calm, conditions, laid).
  DERIVED. THE GIVEN ROWS OF THIS SEAT. 12 by the template 'for every input the law returns true; each argument reads behind the call as it read before'; 0 by the template 'total and deterministic' (their statements: YtekcehicjggmiaaTotals.lean).
  GIVEN WITH THE SEED: the statements are not yours to turn. If you find one false, say at which input.
  Laid BY PROGRAM, IN A SANDBOX (cutbox-rows.mjs): the forced cells as the released guide's own fill.sh prints them over the translation 241d472b564bb86b… (all of the seat's roots in one cut). By AI agents, Wed Nov 11 2026. No macro, syntax, notation, axiom, sorry.
-/
import Derived.Test.YtekcehicjggmiaaChecked
import GoSem.Claim
import GoSem.ClaimJoined
import GoSem.ClaimMapViews
import Derived.JoinedTies
import Derived.KernelRfl
namespace Go.Proofs.Ytekcehicjggmiaa
/- THE CELL 'sum', in the pinned program and in every row, IS THE sha256 OF THE DUMP (.gsa) THAT YtekcehicjggmiaaProg.lean LOADS. Nothing in Lean hashes anything: it is a label: what it is worth is what the hold of that sum in a sandbox is worth. -/
noncomputable def Try.pinned : Pinned := { name := "ytekcehicjggmiaa", sum := "241d472b564bb86b8416e14751cae4bc4205edcaf6f5b42a6bf2f0a9572630fc", checked := Try.checked }
namespace Rows
def none {H : Type} : Left H := { results := [], args := [] }

/-- 'hatchwaylaw05.ShaSums': WHATEVER THE INPUT: true; the input reads as it did. -/
def shaSumsSpec : ChangeSpec := { name := "shaSums", fn := fun _ => fun
  | [d] => { results := [.lit (.bool true)], args := [d] }
  | _ => none }
def shaSumsRow : OpenClaim := { program := "ytekcehicjggmiaa", sum := "241d472b564bb86b8416e14751cae4bc4205edcaf6f5b42a6bf2f0a9572630fc", func := "hatchway/hatchwaylaw05.ShaSums", spec := "shaSums", unfollowed := true, recurses := true, apart := false }
def ShaSumsSaid : Prop := shaSumsRow.holds Try.pinned (OpenSpec.ofChange shaSumsSpec)

/-- ITS FALSE NEIGHBOUR: 'it returns false'. Refute it at one input. -/
def shaSumsWrong : ChangeSpec := { name := "shaSums", fn := fun _ => fun
  | [d] => { results := [.lit (.bool false)], args := [d] }
  | _ => none }
def ShaSumsWrongFalsely : Prop := shaSumsRow.holds Try.pinned (OpenSpec.ofChange shaSumsWrong)

/-- 'hatchwaylaw05.ShaPads': WHATEVER THE INPUT: true; the input reads as it did. -/
def shaPadsSpec : ChangeSpec := { name := "shaPads", fn := fun _ => fun
  | [d] => { results := [.lit (.bool true)], args := [d] }
  | _ => none }
def shaPadsRow : OpenClaim := { program := "ytekcehicjggmiaa", sum := "241d472b564bb86b8416e14751cae4bc4205edcaf6f5b42a6bf2f0a9572630fc", func := "hatchway/hatchwaylaw05.ShaPads", spec := "shaPads", unfollowed := true, recurses := true, apart := false }
def ShaPadsSaid : Prop := shaPadsRow.holds Try.pinned (OpenSpec.ofChange shaPadsSpec)

/-- ITS FALSE NEIGHBOUR: 'it returns false'. Refute it at one input. -/
def shaPadsWrong : ChangeSpec := { name := "shaPads", fn := fun _ => fun
  | [d] => { results := [.lit (.bool false)], args := [d] }
  | _ => none }
def ShaPadsWrongFalsely : Prop := shaPadsRow.holds Try.pinned (OpenSpec.ofChange shaPadsWrong)

/-- 'hatchwaylaw02.FixedOrder': WHATEVER THE INPUT: true; the input reads as it did. -/
def fixedOrderSpec : ChangeSpec := { name := "fixedOrder", fn := fun _ => fun
  | [d1, d2] => { results := [.lit (.bool true)], args := [d1, d2] }
  | _ => none }
def fixedOrderRow : OpenClaim := { program := "ytekcehicjggmiaa", sum := "241d472b564bb86b8416e14751cae4bc4205edcaf6f5b42a6bf2f0a9572630fc", func := "hatchway/hatchwaylaw02.FixedOrder", spec := "fixedOrder", apart := false }
def FixedOrderSaid : Prop := fixedOrderRow.holds Try.pinned (OpenSpec.ofChange fixedOrderSpec)

/-- ITS FALSE NEIGHBOUR: 'it returns false'. Refute it at one input. -/
def fixedOrderWrong : ChangeSpec := { name := "fixedOrder", fn := fun _ => fun
  | [d1, d2] => { results := [.lit (.bool false)], args := [d1, d2] }
  | _ => none }
def FixedOrderWrongFalsely : Prop := fixedOrderRow.holds Try.pinned (OpenSpec.ofChange fixedOrderWrong)

/-- 'hatchwaylaw05.ShaMixes': WHATEVER THE INPUT: true; the input reads as it did. -/
def shaMixesSpec : ChangeSpec := { name := "shaMixes", fn := fun _ => fun
  | [d1, d2] => { results := [.lit (.bool true)], args := [d1, d2] }
  | _ => none }
def shaMixesRow : OpenClaim := { program := "ytekcehicjggmiaa", sum := "241d472b564bb86b8416e14751cae4bc4205edcaf6f5b42a6bf2f0a9572630fc", func := "hatchway/hatchwaylaw05.ShaMixes", spec := "shaMixes", unfollowed := true, recurses := true, apart := false }
def ShaMixesSaid : Prop := shaMixesRow.holds Try.pinned (OpenSpec.ofChange shaMixesSpec)

/-- ITS FALSE NEIGHBOUR: 'it returns false'. Refute it at one input. -/
def shaMixesWrong : ChangeSpec := { name := "shaMixes", fn := fun _ => fun
  | [d1, d2] => { results := [.lit (.bool false)], args := [d1, d2] }
  | _ => none }
def ShaMixesWrongFalsely : Prop := shaMixesRow.holds Try.pinned (OpenSpec.ofChange shaMixesWrong)

/-- 'hatchwaylaw05.ShaChain': WHATEVER THE INPUT: true; the input reads as it did. -/
def shaChainSpec : ChangeSpec := { name := "shaChain", fn := fun _ => fun
  | [d] => { results := [.lit (.bool true)], args := [d] }
  | _ => none }
def shaChainRow : OpenClaim := { program := "ytekcehicjggmiaa", sum := "241d472b564bb86b8416e14751cae4bc4205edcaf6f5b42a6bf2f0a9572630fc", func := "hatchway/hatchwaylaw05.ShaChain", spec := "shaChain", unfollowed := true, recurses := true, apart := false }
def ShaChainSaid : Prop := shaChainRow.holds Try.pinned (OpenSpec.ofChange shaChainSpec)

/-- ITS FALSE NEIGHBOUR: 'it returns false'. Refute it at one input. -/
def shaChainWrong : ChangeSpec := { name := "shaChain", fn := fun _ => fun
  | [d] => { results := [.lit (.bool false)], args := [d] }
  | _ => none }
def ShaChainWrongFalsely : Prop := shaChainRow.holds Try.pinned (OpenSpec.ofChange shaChainWrong)

/-- 'hatchwaylaw02.FixedPuts': WHATEVER THE INPUT: true; the input reads as it did. -/
def fixedPutsSpec : ChangeSpec := { name := "fixedPuts", fn := fun _ => fun
  | [d1, d2] => { results := [.lit (.bool true)], args := [d1, d2] }
  | _ => none }
def fixedPutsRow : OpenClaim := { program := "ytekcehicjggmiaa", sum := "241d472b564bb86b8416e14751cae4bc4205edcaf6f5b42a6bf2f0a9572630fc", func := "hatchway/hatchwaylaw02.FixedPuts", spec := "fixedPuts", apart := false }
def FixedPutsSaid : Prop := fixedPutsRow.holds Try.pinned (OpenSpec.ofChange fixedPutsSpec)

/-- ITS FALSE NEIGHBOUR: 'it returns false'. Refute it at one input. -/
def fixedPutsWrong : ChangeSpec := { name := "fixedPuts", fn := fun _ => fun
  | [d1, d2] => { results := [.lit (.bool false)], args := [d1, d2] }
  | _ => none }
def FixedPutsWrongFalsely : Prop := fixedPutsRow.holds Try.pinned (OpenSpec.ofChange fixedPutsWrong)

/-- 'hatchwaylaw02.FixedGets': WHATEVER THE INPUT: true; the input reads as it did. -/
def fixedGetsSpec : ChangeSpec := { name := "fixedGets", fn := fun _ => fun
  | [d] => { results := [.lit (.bool true)], args := [d] }
  | _ => none }
def fixedGetsRow : OpenClaim := { program := "ytekcehicjggmiaa", sum := "241d472b564bb86b8416e14751cae4bc4205edcaf6f5b42a6bf2f0a9572630fc", func := "hatchway/hatchwaylaw02.FixedGets", spec := "fixedGets", apart := false }
def FixedGetsSaid : Prop := fixedGetsRow.holds Try.pinned (OpenSpec.ofChange fixedGetsSpec)

/-- ITS FALSE NEIGHBOUR: 'it returns false'. Refute it at one input. -/
def fixedGetsWrong : ChangeSpec := { name := "fixedGets", fn := fun _ => fun
  | [d] => { results := [.lit (.bool false)], args := [d] }
  | _ => none }
def FixedGetsWrongFalsely : Prop := fixedGetsRow.holds Try.pinned (OpenSpec.ofChange fixedGetsWrong)

/-- 'hatchwaylaw06.TwiceSums': WHATEVER THE INPUT: true; the input reads as it did. -/
def twiceSumsSpec : ChangeSpec := { name := "twiceSums", fn := fun _ => fun
  | [d1, d2] => { results := [.lit (.bool true)], args := [d1, d2] }
  | _ => none }
def twiceSumsRow : OpenClaim := { program := "ytekcehicjggmiaa", sum := "241d472b564bb86b8416e14751cae4bc4205edcaf6f5b42a6bf2f0a9572630fc", func := "hatchway/hatchwaylaw06.TwiceSums", spec := "twiceSums", unfollowed := true, recurses := true, apart := false }
def TwiceSumsSaid : Prop := twiceSumsRow.holds Try.pinned (OpenSpec.ofChange twiceSumsSpec)

/-- ITS FALSE NEIGHBOUR: 'it returns false'. Refute it at one input. -/
def twiceSumsWrong : ChangeSpec := { name := "twiceSums", fn := fun _ => fun
  | [d1, d2] => { results := [.lit (.bool false)], args := [d1, d2] }
  | _ => none }
def TwiceSumsWrongFalsely : Prop := twiceSumsRow.holds Try.pinned (OpenSpec.ofChange twiceSumsWrong)

/-- 'hatchwaylaw06.TwiceTurned': WHATEVER THE INPUT: true; the input reads as it did. -/
def twiceTurnedSpec : ChangeSpec := { name := "twiceTurned", fn := fun _ => fun
  | [d1, d2, d3, d4] => { results := [.lit (.bool true)], args := [d1, d2, d3, d4] }
  | _ => none }
def twiceTurnedRow : OpenClaim := { program := "ytekcehicjggmiaa", sum := "241d472b564bb86b8416e14751cae4bc4205edcaf6f5b42a6bf2f0a9572630fc", func := "hatchway/hatchwaylaw06.TwiceTurned", spec := "twiceTurned", unfollowed := true, recurses := true, apart := false }
def TwiceTurnedSaid : Prop := twiceTurnedRow.holds Try.pinned (OpenSpec.ofChange twiceTurnedSpec)

/-- ITS FALSE NEIGHBOUR: 'it returns false'. Refute it at one input. -/
def twiceTurnedWrong : ChangeSpec := { name := "twiceTurned", fn := fun _ => fun
  | [d1, d2, d3, d4] => { results := [.lit (.bool false)], args := [d1, d2, d3, d4] }
  | _ => none }
def TwiceTurnedWrongFalsely : Prop := twiceTurnedRow.holds Try.pinned (OpenSpec.ofChange twiceTurnedWrong)

/-- 'hatchwaylaw15.PlainPuts': WHATEVER THE INPUT: true; the input reads as it did. -/
def plainPutsSpec : ChangeSpec := { name := "plainPuts", fn := fun _ => fun
  | [d1, d2, d3] => { results := [.lit (.bool true)], args := [d1, d2, d3] }
  | _ => none }
def plainPutsRow : OpenClaim := { program := "ytekcehicjggmiaa", sum := "241d472b564bb86b8416e14751cae4bc4205edcaf6f5b42a6bf2f0a9572630fc", func := "hatchway/hatchwaylaw15.PlainPuts", spec := "plainPuts", unfollowed := true, recurses := true, apart := false }
def PlainPutsSaid : Prop := plainPutsRow.holds Try.pinned (OpenSpec.ofChange plainPutsSpec)

/-- ITS FALSE NEIGHBOUR: 'it returns false'. Refute it at one input. -/
def plainPutsWrong : ChangeSpec := { name := "plainPuts", fn := fun _ => fun
  | [d1, d2, d3] => { results := [.lit (.bool false)], args := [d1, d2, d3] }
  | _ => none }
def PlainPutsWrongFalsely : Prop := plainPutsRow.holds Try.pinned (OpenSpec.ofChange plainPutsWrong)

/-- 'hatchwaylaw15.PlainReads': WHATEVER THE INPUT: true; the input reads as it did. -/
def plainReadsSpec : ChangeSpec := { name := "plainReads", fn := fun _ => fun
  | [d1, d2, d3] => { results := [.lit (.bool true)], args := [d1, d2, d3] }
  | _ => none }
def plainReadsRow : OpenClaim := { program := "ytekcehicjggmiaa", sum := "241d472b564bb86b8416e14751cae4bc4205edcaf6f5b42a6bf2f0a9572630fc", func := "hatchway/hatchwaylaw15.PlainReads", spec := "plainReads", unfollowed := true, recurses := true, apart := false }
def PlainReadsSaid : Prop := plainReadsRow.holds Try.pinned (OpenSpec.ofChange plainReadsSpec)

/-- ITS FALSE NEIGHBOUR: 'it returns false'. Refute it at one input. -/
def plainReadsWrong : ChangeSpec := { name := "plainReads", fn := fun _ => fun
  | [d1, d2, d3] => { results := [.lit (.bool false)], args := [d1, d2, d3] }
  | _ => none }
def PlainReadsWrongFalsely : Prop := plainReadsRow.holds Try.pinned (OpenSpec.ofChange plainReadsWrong)

/-- 'hatchwaylaw15.PlainRow': WHATEVER THE INPUT: true; the input reads as it did. -/
def plainRowSpec : ChangeSpec := { name := "plainRow", fn := fun _ => fun
  | [d1, d2] => { results := [.lit (.bool true)], args := [d1, d2] }
  | _ => none }
def plainRowRow : OpenClaim := { program := "ytekcehicjggmiaa", sum := "241d472b564bb86b8416e14751cae4bc4205edcaf6f5b42a6bf2f0a9572630fc", func := "hatchway/hatchwaylaw15.PlainRow", spec := "plainRow", unfollowed := true, recurses := true, apart := false }
def PlainRowSaid : Prop := plainRowRow.holds Try.pinned (OpenSpec.ofChange plainRowSpec)

/-- ITS FALSE NEIGHBOUR: 'it returns false'. Refute it at one input. -/
def plainRowWrong : ChangeSpec := { name := "plainRow", fn := fun _ => fun
  | [d1, d2] => { results := [.lit (.bool false)], args := [d1, d2] }
  | _ => none }
def PlainRowWrongFalsely : Prop := plainRowRow.holds Try.pinned (OpenSpec.ofChange plainRowWrong)

/- THE SECOND FORM. 'bulk': how many values and letters a reading holds, each counted each time it is reached (what is shared counts as often as it is met; a slice's spare places count too). A statement '..UptoSaid' is the law's where the arguments, and the package variables that the reading takes, are together of bulk at most 1048576: NARROWER than '..Said'. Prove '..Said' where nothing that the law and all that it calls make is longer than what came in: it says more and counts as full. Else prove '..UptoSaid'. A law counts once. -/
mutual
def uptoBulk {H : Type} : DataW H → Nat
  | .lit (.string bytes) => bytes.length + 1
  | .lit _ => 1
  | .nil => 1
  | .ptr d => uptoBulk d + 1
  | .slice elems spare => uptoBulkAll elems + uptoBulkAll spare + 1
  | .agg parts => uptoBulkAll parts + 1
  | .iface _ d => uptoBulk d + 1
  | .map entries => uptoBulkEntries entries + 1
  | .held _ => 1
def uptoBulkAll {H : Type} : List (DataW H) → Nat
  | [] => 0
  | d :: r => uptoBulk d + uptoBulkAll r
def uptoBulkEntries {H : Type} : List (Lit × DataW H) → Nat
  | [] => 0
  | x :: r => uptoBulkEntry x + uptoBulkEntries r
def uptoBulkEntry {H : Type} : Lit × DataW H → Nat
  | (.string bytes, d) => bytes.length + uptoBulk d + 1
  | (_, d) => uptoBulk d + 1
 end
def uptoSmall : (H : Type) → List (DataW H) → Bool := fun _ ds => decide (uptoBulkAll ds ≤ 1048576)
def OpenSpec.upto (s : _root_.Go.ChangeSpec) : _root_.Go.OpenSpec := { _root_.Go.OpenSpec.ofChange s with cond := some uptoSmall }

/-- 'hatchwaylaw05.ShaSums', WHERE WHAT IT READS IS OF BULK AT MOST 1048576: true; the input reads as it did. -/
def shaSumsUptoRow : OpenClaim := { program := "ytekcehicjggmiaa", sum := "241d472b564bb86b8416e14751cae4bc4205edcaf6f5b42a6bf2f0a9572630fc", func := "hatchway/hatchwaylaw05.ShaSums", spec := "shaSums", unfollowed := true, recurses := true, apart := false, narrowed := true }
def ShaSumsUptoSaid : Prop := shaSumsUptoRow.holds Try.pinned (OpenSpec.upto shaSumsSpec)

/-- 'hatchwaylaw05.ShaPads', WHERE WHAT IT READS IS OF BULK AT MOST 1048576: true; the input reads as it did. -/
def shaPadsUptoRow : OpenClaim := { program := "ytekcehicjggmiaa", sum := "241d472b564bb86b8416e14751cae4bc4205edcaf6f5b42a6bf2f0a9572630fc", func := "hatchway/hatchwaylaw05.ShaPads", spec := "shaPads", unfollowed := true, recurses := true, apart := false, narrowed := true }
def ShaPadsUptoSaid : Prop := shaPadsUptoRow.holds Try.pinned (OpenSpec.upto shaPadsSpec)

/-- 'hatchwaylaw02.FixedOrder', WHERE WHAT IT READS IS OF BULK AT MOST 1048576: true; the input reads as it did. -/
def fixedOrderUptoRow : OpenClaim := { program := "ytekcehicjggmiaa", sum := "241d472b564bb86b8416e14751cae4bc4205edcaf6f5b42a6bf2f0a9572630fc", func := "hatchway/hatchwaylaw02.FixedOrder", spec := "fixedOrder", apart := false, narrowed := true }
def FixedOrderUptoSaid : Prop := fixedOrderUptoRow.holds Try.pinned (OpenSpec.upto fixedOrderSpec)

/-- 'hatchwaylaw05.ShaMixes', WHERE WHAT IT READS IS OF BULK AT MOST 1048576: true; the input reads as it did. -/
def shaMixesUptoRow : OpenClaim := { program := "ytekcehicjggmiaa", sum := "241d472b564bb86b8416e14751cae4bc4205edcaf6f5b42a6bf2f0a9572630fc", func := "hatchway/hatchwaylaw05.ShaMixes", spec := "shaMixes", unfollowed := true, recurses := true, apart := false, narrowed := true }
def ShaMixesUptoSaid : Prop := shaMixesUptoRow.holds Try.pinned (OpenSpec.upto shaMixesSpec)

/-- 'hatchwaylaw05.ShaChain', WHERE WHAT IT READS IS OF BULK AT MOST 1048576: true; the input reads as it did. -/
def shaChainUptoRow : OpenClaim := { program := "ytekcehicjggmiaa", sum := "241d472b564bb86b8416e14751cae4bc4205edcaf6f5b42a6bf2f0a9572630fc", func := "hatchway/hatchwaylaw05.ShaChain", spec := "shaChain", unfollowed := true, recurses := true, apart := false, narrowed := true }
def ShaChainUptoSaid : Prop := shaChainUptoRow.holds Try.pinned (OpenSpec.upto shaChainSpec)

/-- 'hatchwaylaw02.FixedPuts', WHERE WHAT IT READS IS OF BULK AT MOST 1048576: true; the input reads as it did. -/
def fixedPutsUptoRow : OpenClaim := { program := "ytekcehicjggmiaa", sum := "241d472b564bb86b8416e14751cae4bc4205edcaf6f5b42a6bf2f0a9572630fc", func := "hatchway/hatchwaylaw02.FixedPuts", spec := "fixedPuts", apart := false, narrowed := true }
def FixedPutsUptoSaid : Prop := fixedPutsUptoRow.holds Try.pinned (OpenSpec.upto fixedPutsSpec)

/-- 'hatchwaylaw02.FixedGets', WHERE WHAT IT READS IS OF BULK AT MOST 1048576: true; the input reads as it did. -/
def fixedGetsUptoRow : OpenClaim := { program := "ytekcehicjggmiaa", sum := "241d472b564bb86b8416e14751cae4bc4205edcaf6f5b42a6bf2f0a9572630fc", func := "hatchway/hatchwaylaw02.FixedGets", spec := "fixedGets", apart := false, narrowed := true }
def FixedGetsUptoSaid : Prop := fixedGetsUptoRow.holds Try.pinned (OpenSpec.upto fixedGetsSpec)

/-- 'hatchwaylaw06.TwiceSums', WHERE WHAT IT READS IS OF BULK AT MOST 1048576: true; the input reads as it did. -/
def twiceSumsUptoRow : OpenClaim := { program := "ytekcehicjggmiaa", sum := "241d472b564bb86b8416e14751cae4bc4205edcaf6f5b42a6bf2f0a9572630fc", func := "hatchway/hatchwaylaw06.TwiceSums", spec := "twiceSums", unfollowed := true, recurses := true, apart := false, narrowed := true }
def TwiceSumsUptoSaid : Prop := twiceSumsUptoRow.holds Try.pinned (OpenSpec.upto twiceSumsSpec)

/-- 'hatchwaylaw06.TwiceTurned', WHERE WHAT IT READS IS OF BULK AT MOST 1048576: true; the input reads as it did. -/
def twiceTurnedUptoRow : OpenClaim := { program := "ytekcehicjggmiaa", sum := "241d472b564bb86b8416e14751cae4bc4205edcaf6f5b42a6bf2f0a9572630fc", func := "hatchway/hatchwaylaw06.TwiceTurned", spec := "twiceTurned", unfollowed := true, recurses := true, apart := false, narrowed := true }
def TwiceTurnedUptoSaid : Prop := twiceTurnedUptoRow.holds Try.pinned (OpenSpec.upto twiceTurnedSpec)

/-- 'hatchwaylaw15.PlainPuts', WHERE WHAT IT READS IS OF BULK AT MOST 1048576: true; the input reads as it did. -/
def plainPutsUptoRow : OpenClaim := { program := "ytekcehicjggmiaa", sum := "241d472b564bb86b8416e14751cae4bc4205edcaf6f5b42a6bf2f0a9572630fc", func := "hatchway/hatchwaylaw15.PlainPuts", spec := "plainPuts", unfollowed := true, recurses := true, apart := false, narrowed := true }
def PlainPutsUptoSaid : Prop := plainPutsUptoRow.holds Try.pinned (OpenSpec.upto plainPutsSpec)

/-- 'hatchwaylaw15.PlainReads', WHERE WHAT IT READS IS OF BULK AT MOST 1048576: true; the input reads as it did. -/
def plainReadsUptoRow : OpenClaim := { program := "ytekcehicjggmiaa", sum := "241d472b564bb86b8416e14751cae4bc4205edcaf6f5b42a6bf2f0a9572630fc", func := "hatchway/hatchwaylaw15.PlainReads", spec := "plainReads", unfollowed := true, recurses := true, apart := false, narrowed := true }
def PlainReadsUptoSaid : Prop := plainReadsUptoRow.holds Try.pinned (OpenSpec.upto plainReadsSpec)

/-- 'hatchwaylaw15.PlainRow', WHERE WHAT IT READS IS OF BULK AT MOST 1048576: true; the input reads as it did. -/
def plainRowUptoRow : OpenClaim := { program := "ytekcehicjggmiaa", sum := "241d472b564bb86b8416e14751cae4bc4205edcaf6f5b42a6bf2f0a9572630fc", func := "hatchway/hatchwaylaw15.PlainRow", spec := "plainRow", unfollowed := true, recurses := true, apart := false, narrowed := true }
def PlainRowUptoSaid : Prop := plainRowUptoRow.holds Try.pinned (OpenSpec.upto plainRowSpec)

end Rows
end Go.Proofs.Ytekcehicjggmiaa
