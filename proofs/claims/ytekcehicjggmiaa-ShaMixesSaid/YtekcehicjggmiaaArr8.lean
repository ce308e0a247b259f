/- An argument that is eight words by value. -/
import Derived.Test.YtekcehicjggmiaaShaMixIn
import Derived.OpenShut
namespace Go.Proofs.Ytekcehicjggmiaa
open Go.RowKit
set_option linter.unusedVariables false

theorem list8 {l : List Value} (h : l.length = 8) (hi : ∀ i, i < 8 → ∃ x : UInt32, l[i]? = some (.int .u32 (x.toNat : Int))) : ∃ Z : S8, l.toArray = Z.cs := by
  obtain ⟨a, ha⟩ := hi 0 (by omega)
  obtain ⟨b, hb⟩ := hi 1 (by omega)
  obtain ⟨c, hc⟩ := hi 2 (by omega)
  obtain ⟨d, hd⟩ := hi 3 (by omega)
  obtain ⟨e, he⟩ := hi 4 (by omega)
  obtain ⟨f, hf⟩ := hi 5 (by omega)
  obtain ⟨g, hg⟩ := hi 6 (by omega)
  obtain ⟨k, hk⟩ := hi 7 (by omega)
  refine ⟨⟨a, b, c, d, e, f, g, k⟩, ?_⟩
  match l, h with
  | [v0, v1, v2, v3, v4, v5, v6, v7], _ =>
    simp at ha hb hc hd he hf hg hk
    subst ha hb hc hd he hf hg hk
    rfl
theorem open_arr8 {H : Type} {enc : TypeId × Value → H} {P : Program} {w : World} {base : Nat} {spare : Nat → Bool} {held : Bool} {t e : TypeId} {cs : Array Value} {d : DataW H} {p : List MemPlace}
    (ht : P.underlying t = some (.array 8 e)) (he : P.underlying e = some (.int .u32)) (hc : P.cellsOf e = 1) (hct : P.cellsOf t = 8) (h : DataW.Trod enc P w base spare held t (.agg cs) d p) : ∃ Z : S8, cs = Z.cs := by
  obtain ⟨fuel, hf⟩ := h
  obtain ⟨xs, m, rfl, hx, hl, hxl, hi⟩ := DataW.trod_array ht hf
  have hcl : cs.toList.length = 8 := by
    rw [hct] at hl; simpa [Value.cells] using hl
  have := list8 hcl (fun i h8 => by
    have h1 := hi i h8
    rw [hc, Nat.mul_one] at h1
    have h2 : i < xs.length := by omega
    rw [List.getElem?_eq_getElem h2] at h1
    obtain ⟨y, hy⟩ : ∃ y, xs[i] = y := ⟨_, rfl⟩
    rw [hy] at h1
    obtain ⟨dy, py⟩ := y
    obtain ⟨x, e1, _, wf⟩ := DataW.trod_int he h1
    have hb : 0 ≤ x ∧ x ≤ 4294967295 := bounds_u32 wf
    refine ⟨UInt32.ofNat x.toNat, ?_⟩
    have e2 : ((UInt32.ofNat x.toNat).toNat : Int) = x := by
      rw [show (UInt32.ofNat x.toNat).toNat = x.toNat % 4294967296 from rfl]; omega
    rw [e2]
    have h4 : (cs.toList.drop i).take 1 = [.int .u32 x] := by simpa [Value.cells] using e1
    have h3 : ((cs.toList.drop i).take 1)[0]? = some (.int .u32 x) := by rw [h4]; rfl
    rw [List.getElem?_take_of_lt (by omega), List.getElem?_drop] at h3
    exact h3)
  obtain ⟨Z, hZ⟩ := this
  exact ⟨Z, by rw [← hZ]⟩
end Go.Proofs.Ytekcehicjggmiaa
