/- The walk of TwiceSums. -/
import Derived.Test.YtemfecdpjegocaaTwice
import Derived.Test.YtemfecdpjegocaaShaDocSum
namespace Go.Proofs.Ytemfecdpjegocaa
open Go.RowKit Go.Shelf
set_option linter.unusedVariables false
set_option linter.unusedSimpArgs false

/-- What the key is to the document: an array of 72 cells by which any text's digest is f. -/
structure DocBy (KA : Array Value) (f : List UInt8 → List UInt8) : Prop where
  size : (Try.prog.info? 47).map (·.size) = some KA.size
  len : ∀ l, (f l).length = 32
  one : KA.all (·.oneCell') = true
  sum : ∀ (s : ByteArray) (w : World), s.size ≤ 100000 → Calls Try.prog 50 #[.agg KA, .string s] w fun e w' => e = .returned (.string ⟨(f s.data.toList).toArray⟩) ∧ Below w.heap.size w w'
theorem doc_by : DocBy (kA keyN) sumN where
  size := by rw [kA_size, keyN_length]; exact (zero_of_info (P := Try.prog) key_info).2
  len := sumN_length
  one := kA_one _
  sum s w h := ref_sum s w h

end Go.Proofs.Ytemfecdpjegocaa
