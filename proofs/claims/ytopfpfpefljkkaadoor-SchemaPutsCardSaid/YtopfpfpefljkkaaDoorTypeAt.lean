/- A type in memory: its cells. -/
import Derived.Test.YtopfpfpefljkkaaDoorRows
import Derived.Test.YtopfpfpefljkkaaDoorSchPlain
import Derived.Test.YtopfpfpefljkkaaDoorOwn
import Derived.Test.YtopfpfpefljkkaaDoorObj
import Derived.Test.YtopfpfpefljkkaaDoorInv
import Derived.WalkSpells
import Derived.OwnWalk
import Derived.IntWalk
import Derived.Lib.Strings
import Derived.Deep.CutBlock
import Derived.Deep.DeepCutAuto
namespace Go.Proofs.YtopfpfpefljkkaaDoor
open Go.RowKit
set_option linter.unusedVariables false

def anyB : Nat → Prop := fun _ => True
/-- The slice v of types. -/
abbrev TSubs (w : World) (v : Value) (s : List (Rose TL)) : Prop := tshape.Subs w anyB v s

theorem TSubs.slice {w : World} {v : Value} {s : List (Rose TL)} (h : TSubs w v s) : ∃ oa cap, v = .slice oa s.length cap ∧ s.length ≤ cap ∧ cap ≤ maxLen := by
  obtain ⟨oa, cap, h1, h2, h3, _⟩ := h
  exact ⟨oa, cap, h1, h2, h3⟩
/-- The cells of an element. -/
theorem TSubs.at_ {w : World} {oa : Option Addr} {n cap : Nat} {s : List (Rose TL)} (h : TSubs w (.slice oa n cap) s) {i : Nat} {x : Rose TL} (hx : s[i]? = some x) :
    ∃ b off u, oa = some ⟨b, off, none⟩ ∧ b < w.heap.size ∧ w.cell? ⟨b, off + i * 4, none⟩ = some (.int .i64 x.lab.kind) ∧ w.cell? ⟨b, off + i * 4 + 1, none⟩ = some (.int .i64 x.lab.size) ∧
      w.cell? ⟨b, off + i * 4 + 2, none⟩ = some u ∧ w.cell? ⟨b, off + i * 4 + 3, none⟩ = some (.int .i64 x.lab.tail) ∧ TSubs w u x.sub ∧ TL.wf x.lab := by
  obtain ⟨oa', cap', hv, h1, h2, h3⟩ := h.get
  cases hv
  obtain ⟨b, off, u, e, hb, _, ho, hc, hs⟩ := h3 i x hx
  exact ⟨b, off, u, e, hb, by simpa [tshape, Nat.add_assoc] using hc 0 (by decide), by simpa [tshape, Nat.add_assoc] using hc 1 (by decide), by simpa [tshape, Nat.add_assoc] using hc 2 (by decide), by simpa [tshape, Nat.add_assoc] using hc 3 (by decide), hs, ho⟩
/-- A type that is handed over by value. -/
def tval (a : TL) (v : Value) : Value := .agg #[.int .i64 a.kind, .int .i64 a.size, v, .int .i64 a.tail]
def tcells (a : TL) (v : Value) : Array Value := #[.int .i64 a.kind, .int .i64 a.size, v, .int .i64 a.tail]
end Go.Proofs.YtopfpfpefljkkaaDoor
