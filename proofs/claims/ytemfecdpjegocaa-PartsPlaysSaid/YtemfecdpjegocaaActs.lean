/- A slice of acts that came in: each a number and a part. -/
import Derived.Test.YtemfecdpjegocaaArgPt
namespace Go.Proofs.Ytemfecdpjegocaa
open Go.RowKit Go.ChangeShapes Go.WideShapes Go.Deep
set_option linter.unusedVariables false

/-- The acts that came in: kinds and parts. -/
def IsActs (w : World) (a : Option Addr) (len : Nat) : Prop := len ≤ maxLen ∧ ∀ i, i < len → ∃ b off K q, a = some ⟨b, off, none⟩ ∧ b < w.heap.size ∧ (Lit.int .u8 K).wf = true ∧ Pt.wf q ∧
  w.cell? ⟨b, off + i * 5, none⟩ = some (.int .u8 K) ∧ w.cell? ⟨b, off + i * 5 + 1, none⟩ = some (.int .i64 q.id) ∧ w.cell? ⟨b, off + i * 5 + 2, none⟩ = some (.int .i64 q.n) ∧
  w.cell? ⟨b, off + i * 5 + 3, none⟩ = some (.int .i64 q.of_) ∧ w.cell? ⟨b, off + i * 5 + 4, none⟩ = some (.string q.text)

theorem open_acts {H : Type} {enc : TypeId × Value → H} {P : Program} {w : World} {base : Nat} {spare : Nat → Bool} {held : Bool} {t e : TypeId} {g0 g1 f0 f1 f2 f3 : Field} {a : Option Addr} {len cap : Nat} {d : DataW H} {p : List MemPlace}
    (ht : P.underlying t = some (.slice e)) (he : P.underlying e = some (.struct #[g0, g1])) (hp : P.underlying g1.type = some (.struct #[f0, f1, f2, f3])) (hoff : g0.offset = 0 ∧ g1.offset = 1) (hc0 : P.cellsOf g0.type = 1) (hc1 : P.cellsOf g1.type = 4)
    (hC : P.cellsOf e = 5) (hone : oneCellFields P #[f0, f1, f2, f3] = true) (u0 : P.underlying g0.type = some (.int .u8)) (e0 : P.underlying f0.type = some (.int .i64)) (e1 : P.underlying f1.type = some (.int .i64))
    (e2 : P.underlying f2.type = some (.int .i64)) (e3 : P.underlying f3.type = some .string) (h : DataW.Trod enc P w base spare held t (.slice a len cap) d p) : IsActs w a len := by
  obtain ⟨fuel, hf⟩ := h
  rcases open_slice ht hf with ⟨h0, _⟩ | ⟨a', len', cap', m, n, D, Pl, hcs, hb, hl, hm, hmm, hx, hi⟩
  · simp [Value.cells] at h0
    exact ⟨by omega, fun i hi => by omega⟩
  · simp [Value.cells] at hcs
    obtain ⟨rfl, rfl, rfl⟩ := hcs
    have hml : len ≤ m := by rw [hmm]; split <;> omega
    have key : ∀ i, i < len → ∃ K q, (Lit.int .u8 K).wf = true ∧ Pt.wf q ∧ w.cell? (a'.add (i * 5 + 0)) = some (.int .u8 K) ∧ w.cell? (a'.add (i * 5 + 1)) = some (.int .i64 q.id) ∧
        w.cell? (a'.add (i * 5 + 2)) = some (.int .i64 q.n) ∧ w.cell? (a'.add (i * 5 + 3)) = some (.int .i64 q.of_) ∧ w.cell? (a'.add (i * 5 + 4)) = some (.string q.text) := by
      intro i hil
      obtain ⟨cs', hc, ht'⟩ := hi i (by omega)
      rw [hC] at hc
      obtain ⟨ys, n', hn', hy, hlen, hyl, hff⟩ := DataW.trod_struct he ht'
      obtain ⟨_, hcl, hat⟩ := World.cells?_some hc
      have hyl2 : ys.length = 2 := hyl
      have x0 := hff 0 g0 rfl
      have x1 := hff 1 g1 rfl
      rw [hoff.1, hc0, List.getElem?_eq_getElem (by omega)] at x0
      rw [hoff.2, hc1, List.getElem?_eq_getElem (by omega)] at x1
      have one : (cs'.drop 0).take 1 = [cs'[0]'(by omega)] := by
        rw [List.drop_eq_getElem_cons (by omega)]; rfl
      rw [one] at x0
      obtain ⟨K, hK, wK⟩ := field_int u0 x0
      obtain ⟨q, hq, wq⟩ := open_part (cs := ((cs'.drop 1).take 4).toArray) (d := (ys[1]'(by omega)).1) (p := (ys[1]'(by omega)).2) hp hone hc1 e0 e1 e2 e3 ⟨n', by simpa [Value.cells] using x1⟩
      have hq' : (cs'.drop 1).take 4 = q.cs.toList := by rw [← hq]
      have at_ : ∀ j, j < 5 → w.cell? (a'.add (i * 5 + j)) = cs'[j]? := fun j hj => by rw [← Go.Deep.add_add]; exact hat j hj
      have part : ∀ j, j < 4 → cs'[j + 1]? = q.cs.toList[j]? := fun j hj => by
        rw [← hq', List.getElem?_take, if_pos hj, List.getElem?_drop, Nat.add_comm 1 j]
      refine ⟨K, q, wK, wq, ?_, ?_, ?_, ?_, ?_⟩
      · rw [at_ 0 (by omega), List.getElem?_eq_getElem (by omega), hK]
      · rw [at_ 1 (by omega), part 0 (by omega)]; rfl
      · rw [at_ 2 (by omega), part 1 (by omega)]; rfl
      · rw [at_ 3 (by omega), part 2 (by omega)]; rfl
      · rw [at_ 4 (by omega), part 3 (by omega)]; rfl
    obtain ⟨b, off, spot⟩ := a'
    refine ⟨Nat.le_trans hl hm, fun i hil => ?_⟩
    obtain ⟨K, q, wK, wq, k0, k1, k2, k3, k4⟩ := key i hil
    obtain ⟨_, _, _, _, k00, _⟩ := key 0 (by omega)
    have hspot : spot = none := by simpa [Addr.add] using World.cell?_spot k00
    subst hspot
    have hadd : ∀ k, (⟨b, off, none⟩ : Addr).add k = ⟨b, off + k, none⟩ := fun k => by unfold Addr.add; split <;> simp_all
    rw [hadd] at k0 k1 k2 k3 k4
    refine ⟨b, off, K, q, rfl, ?_, wK, wq, by simpa [Nat.add_assoc] using k0, by simpa [Nat.add_assoc] using k1, by simpa [Nat.add_assoc] using k2, by simpa [Nat.add_assoc] using k3, by simpa [Nat.add_assoc] using k4⟩
    rcases Nat.lt_or_ge b w.heap.size with h' | h'
    · exact h'
    · simp [World.cell?, Array.getElem?_eq_none h'] at k0
end Go.Proofs.Ytemfecdpjegocaa
