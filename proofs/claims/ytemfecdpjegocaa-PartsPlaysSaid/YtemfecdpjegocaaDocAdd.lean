/- The walk of the document's Add. -/
import Derived.Test.YtemfecdpjegocaaDocAddPlain
import Derived.Test.YtemfecdpjegocaaDocIdsW
import Derived.Deep.Slices
namespace Go.Proofs.Ytemfecdpjegocaa
open Go.RowKit Go.Maps
set_option linter.unusedVariables false
set_option linter.unusedSimpArgs false

/-- Cells that hold texts. -/
def sC (l : List ByteArray) : Array Value := (l.map Value.string).toArray
theorem sC_set (l : List ByteArray) (i : Nat) (x : ByteArray) : (sC l).setIfInBounds i (.string x) = sC (l.set i x) := by
  unfold sC
  simp [List.map_set]
theorem sC_at (l : List ByteArray) (i : Nat) (h : i < l.length) : (sC l)[i]? = some (.string l[i]) := by simp [sC, h]
theorem info_str : ∃ i, Try.prog.info? 9 = some i ∧ i.zero = some (.string ByteArray.empty) ∧ i.size = 1 ∧ i.bytes = 16 := by
  have h : (Try.prog.info? 9).map (fun i => (i.zero, i.size, i.bytes)) = some (some (.string ByteArray.empty), 1, 16) := by kernel_rfl
  obtain ⟨i, hi, hz⟩ := Option.map_eq_some_iff.1 h
  simp only [Prod.mk.injEq] at hz
  exact ⟨i, hi, hz.1, hz.2.1, hz.2.2⟩
theorem make_texts (n : Nat) (hn : n ≤ 2000) (w : World) : (Instr.makeSlice 42 (.int .i64 n) (.int .i64 n)).run Try.prog w =
    .ok (.slice (some ⟨w.heap.size, 0, none⟩) n n) (w.alloc (.cells (sC (List.replicate n ByteArray.empty)) 9)) := by
  obtain ⟨i, hi, hz, hs, hb⟩ := info_str
  have hr := run_make (P := Try.prog) w 42 9 i (.string ByteArray.empty) Try.underlying42 hi hz .i64 .i64 (n : Int) (n : Int) (by omega) (by omega) (by rw [hb]; omega) (by omega)
  have e : madeCells #[.string ByteArray.empty] n = sC (List.replicate n ByteArray.empty) := by
    apply Array.ext'
    rw [toList_madeCells_one]; simp [sC]
  simpa [hs, Value.cells, e] using hr
theorem mayP_wfD {p : Pt} (h : mayP p) : p.wf := by
  obtain ⟨⟨hi0, hi1⟩, ⟨ho0, ho1⟩, ⟨hn0, hn1⟩, hT, _⟩ := h
  have I : ∀ x : Int, 0 ≤ x → x ≤ 2147483647 → (Lit.int .i64 x).wf = true := fun x h0 h1 => by simp [Lit.wf, IntKind.min, IntKind.max, IntKind.signed, IntKind.bits]; omega
  exact ⟨I _ hi0 hi1, I _ (by omega) (by omega), I _ (by omega) (by omega), by unfold maxLen; omega⟩
/-- What the document's Add answers. -/
def DAddPost (v : Value) (m o : Int) (L : List Pt) (p : Pt) (w : World) (en : Ending) (w' : World) : Prop :=
  ∃ v', en = .returned (.tuple #[.agg #[.int .i64 m, .int .i64 o, v'], .string (addJ m o L p).2.1, .bool (addJ m o L p).2.2.1, .int .i64 (addJ m o L p).2.2.2]) ∧ PV w' v' (addJ m o L p).1 ∧ Below w.heap.size w w'∧ ∀ b, v'.ownBlock = some b → (v.ownBlock = some b ∨ w.heap.size ≤ b)

theorem set3 {w0 W : World} {g b : Nat} {x y z : Value} {t : TypeId} (h : Blk W b #[x, y, z] t) (hb : Below g w0 W) (hgb : g ≤ b) (x' y' z' : Value) :
    Blk (((W.setCell ⟨b, 0, none⟩ x').setCell ⟨b, 1, none⟩ y').setCell ⟨b, 2, none⟩ z') b #[x', y', z'] t ∧ Below g w0 (((W.setCell ⟨b, 0, none⟩ x').setCell ⟨b, 1, none⟩ y').setCell ⟨b, 2, none⟩ z') ∧
      ∀ c, c ≠ b → (((W.setCell ⟨b, 0, none⟩ x').setCell ⟨b, 1, none⟩ y').setCell ⟨b, 2, none⟩ z').heap[c]? = W.heap[c]? := by
  have h1 := ((h.set 0 x').set 1 y').set 2 z'
  simp only [List.setIfInBounds_toArray, List.set_cons_zero, List.set_cons_succ] at h1
  refine ⟨h1, ((hb.setCell hgb _).setCell hgb _).setCell hgb _, fun c hc => ?_⟩
  rw [Below.heap_setCell _ _ _ _ hc, Below.heap_setCell _ _ _ _ hc, Below.heap_setCell _ _ _ _ hc]

set_option maxRecDepth 100000 in
set_option maxHeartbeats 2000000 in
theorem doc_add_bad {w : World} {v : Value} {L : List Pt} (h : PV w v L) (p : Pt) (hwf : p.wf) (hm : ¬ mayP p) (m o : Int) :
    Calls Try.prog 42 #[.agg #[.int .i64 m, .int .i64 o, v], .agg p.cs] w (DAddPost v m o L p w) := by
  obtain ⟨ao, cap, rfl⟩ := h.ps.slice
  obtain ⟨g, hg⟩ : ∃ g, w.heap.size = g := ⟨_, rfl⟩
  have he : addJ m o L p = (L, ByteArray.empty, false, 1) := by unfold addJ; rw [if_pos hm]
  have HF : Hid (∀ W, Below g w W → DAddPost (.slice ao L.length cap) m o L p w (.returned (.tuple #[.agg #[.int .i64 m, .int .i64 o, .slice ao L.length cap], .string ⟨#[]⟩, .bool false, .int .i64 1])) W) := fun W hb => by
    refine ⟨.slice ao L.length cap, ?_, ?_, hg ▸ hb, fun b h => .inl h⟩
    · rw [he]; rfl
    · rw [he]; exact h.below (hg ▸ hb)
  have CM := Lib.hid (fun w => ref_may p w hwf)
  have hmf : decide (mayP p) = false := decide_eq_false hm
  obtain ⟨N, hN⟩ : ∃ N, L.length = N := ⟨_, rfl⟩
  rw [hN] at HF ⊢
  clear h he hwf hm
  obtain ⟨pi, pn, po, pT⟩ := p
  simp only [Pt.cs] at CM ⊢
  have HW : Hid (∀ W2, ((w.alloc (.cells #[.int .i64 m, .int .i64 o, .slice ao N cap] 84)).alloc (.cells #[.int .i64 pi, .int .i64 pn, .int .i64 po, .string pT] 31)).alloc (.cells #[.int .i64 0, .int .i64 0, .slice none 0 0] 84) = W2 →
      Below g w W2 ∧ Blk W2 g #[.int .i64 m, .int .i64 o, .slice ao N cap] 84 ∧ Blk W2 (g + 1) #[.int .i64 pi, .int .i64 pn, .int .i64 po, .string pT] 31 ∧ Blk W2 (g + 2) #[.int .i64 0, .int .i64 0, .slice none 0 0] 84 ∧ W2.heap.size = g + 3) := fun W2 hW => by
    subst hW
    have h1 := Blk.new (w.alloc (.cells #[.int .i64 m, .int .i64 o, .slice ao N cap] 84)) #[.int .i64 pi, .int .i64 pn, .int .i64 po, .string pT] 31
    have h2 := Blk.new ((w.alloc (.cells #[.int .i64 m, .int .i64 o, .slice ao N cap] 84)).alloc (.cells #[.int .i64 pi, .int .i64 pn, .int .i64 po, .string pT] 31)) #[.int .i64 0, .int .i64 0, .slice none 0 0] 84
    rw [World.size_alloc, hg] at h1
    rw [World.size_alloc, World.size_alloc, hg] at h2
    exact ⟨(((Below.refl _ _).alloc (by omega) _).alloc (by simp; omega) _).alloc (by simp; omega) _, ((hg ▸ Blk.new w _ _).alloc _).alloc _, h1.alloc _, h2, by simp; omega⟩
  go_enter Try.func42, Try.ntmps42
  go_wp2_with fail
  generalize ((w.alloc (.cells #[.int .i64 m, .int .i64 o, .slice ao N cap] 84)).alloc (.cells #[.int .i64 pi, .int .i64 pn, .int .i64 po, .string pT] 31)).alloc (.cells #[.int .i64 0, .int .i64 0, .slice none 0 0] 84) = w1 at *
  have H1 := Lib.hid (HW.out _ rfl)
  clear HW
  refine (CM.out _).mono ?_
  rintro e w2 ⟨rfl, hb2⟩
  rw [hmf]
  have hsz := H1.out.2.2.2.2
  have H2 : Hid (Below g w w2) := H1.out.1.trans (hb2.mono (by omega))
  have K1 := Lib.hid (Below.blk hb2 H1.out.2.1 (by omega))
  have K2 := Lib.hid (Below.blk hb2 H1.out.2.2.2.1 (by omega))
  clear H1 hb2
  have b0 : w2.cell? ⟨g, 0, none⟩ = some (.int .i64 m) := K1.out.cell 0
  have b1 : w2.cell? ⟨g, 1, none⟩ = some (.int .i64 o) := K1.out.cell 1
  have b2 : w2.cell? ⟨g, 2, none⟩ = some (.slice ao N cap) := K1.out.cell 2
  have c0 : w2.cell? ⟨g + 2, 0, none⟩ = some (.int .i64 0) := K2.out.cell 0
  have c1 : w2.cell? ⟨g + 2, 1, none⟩ = some (.int .i64 0) := K2.out.cell 1
  have c2 : w2.cell? ⟨g + 2, 2, none⟩ = some (.slice none 0 0) := K2.out.cell 2
  have f2 := fun i => K2.out.free i
  go_wp2_with fail
  obtain ⟨e1, e2, e3⟩ := set3 K2.out H2.out (by omega) (.int .i64 m) (.int .i64 o) (.slice ao N cap)
  generalize ((w2.setCell ⟨g + 2, 0, none⟩ (.int .i64 m)).setCell ⟨g + 2, 1, none⟩ (.int .i64 o)).setCell ⟨g + 2, 2, none⟩ (.slice ao N cap) = WF at *
  have d0 := e1.cell 0
  have d1 := e1.cell 1
  have d2 := e1.cell 2
  simp at d0 d1 d2
  refine bodyPost_ret (v := .tuple #[.agg #[.int .i64 m, .int .i64 o, .slice ao N cap], .string ⟨#[]⟩, .bool false, .int .i64 1]) (by simp [results, Try.results42, go_sem, d0, d1, d2]) rfl ?_
  exact HF.out _ e2
end Go.Proofs.Ytemfecdpjegocaa
