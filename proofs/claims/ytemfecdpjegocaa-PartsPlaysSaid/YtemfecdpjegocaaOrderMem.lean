/- A slice of parts whose parts change places. -/
import Derived.Test.YtemfecdpjegocaaOrderPlain
import Derived.Test.YtemfecdpjegocaaOpen
import Derived.Test.YtemfecdpjegocaaJAlive
import Derived.Test.YtemfecdpjegocaaRow
namespace Go.Proofs.Ytemfecdpjegocaa
open Go.RowKit Go.Maps
set_option linter.unusedVariables false

/-- Block g begins with these parts. -/
def BP (w : World) (g : Nat) (t : TypeId) (M : List Pt) : Prop := ∃ cur, Blk w g cur t ∧ ∀ (i : Nat) (h : i < M.length) (j : Nat), j < 4 → cur[i * 4 + j]? = M[i].cs[j]?
theorem BP.lt {w : World} {g : Nat} {t : TypeId} {M : List Pt} (h : BP w g t M) : g < w.heap.size := let ⟨_, h, _⟩ := h; h.lt
theorem BP.of_own {w : World} {B : Nat} {t : TypeId} {v : Value} {M : List Pt} (h : OwnP w B t v M) (hne : 1 ≤ M.length) : ∃ g cap, v = .slice (some ⟨g, 0, none⟩) M.length cap ∧ B ≤ g ∧ BP w g t M := by
  rcases h.2 with ⟨rfl, h0⟩ | ⟨g, cap, cur, rfl, hb, hg, hcap, hm, hsz, htake⟩
  · omega
  · refine ⟨g, cap, rfl, hb, cur, hg, fun i hi j hj => ?_⟩
    have hlt : i * 4 + j < M.length * 4 := by omega
    rw [← pcells_at hi hj, ← htake, List.getElem?_take_of_lt hlt]
    simp
theorem BP.kept {w w' : World} {g : Nat} {t : TypeId} {M : List Pt} (h : BP w g t M) (hb : w'.heap[g]? = w.heap[g]?) : BP w' g t M := by
  obtain ⟨cur, h1, h2⟩ := h
  exact ⟨cur, by unfold Blk; rw [hb]; exact h1, h2⟩
theorem BP.free {w : World} {g : Nat} {t : TypeId} {M : List Pt} (h : BP w g t M) (i : Nat) : w.frozen? ⟨g, i, none⟩ = false := let ⟨_, h, _⟩ := h; h.free i
theorem BP.at_ {w : World} {g : Nat} {t : TypeId} {M : List Pt} (h : BP w g t M) {i : Nat} (hi : i < M.length) :
    w.cell? ⟨g, i * 4, none⟩ = some (.int .i64 M[i].id) ∧ w.cell? ⟨g, i * 4 + 1, none⟩ = some (.int .i64 M[i].n) ∧ w.cell? ⟨g, i * 4 + 2, none⟩ = some (.int .i64 M[i].of_) ∧ w.cell? ⟨g, i * 4 + 3, none⟩ = some (.string M[i].text) := by
  obtain ⟨cur, h1, h2⟩ := h
  refine ⟨(h1.cell _).trans (h2 i hi 0 (by omega)), (h1.cell _).trans (h2 i hi 1 (by omega)), (h1.cell _).trans (h2 i hi 2 (by omega)), (h1.cell _).trans (h2 i hi 3 (by omega))⟩
theorem BP.set4 {w : World} {g : Nat} {t : TypeId} {M : List Pt} (h : BP w g t M) {i : Nat} (hi : i < M.length) (p : Pt) :
    BP ((((w.setCell ⟨g, i * 4, none⟩ (.int .i64 p.id)).setCell ⟨g, i * 4 + 1, none⟩ (.int .i64 p.n)).setCell ⟨g, i * 4 + 2, none⟩ (.int .i64 p.of_)).setCell ⟨g, i * 4 + 3, none⟩ (.string p.text)) g t (M.set i p) := by
  obtain ⟨cur, h1, h2⟩ := h
  have hc3 := h2 i hi 3 (by omega)
  have hsz : i * 4 + 3 < cur.size := by
    rcases Nat.lt_or_ge (i * 4 + 3) cur.size with h | h
    · exact h
    · rw [Array.getElem?_eq_none h] at hc3; simp [Pt.cs] at hc3
  refine ⟨_, (((h1.set _ _).set _ _).set _ _).set _ _, fun k hk j hj => ?_⟩
  rw [List.length_set] at hk
  simp only [Array.getElem?_setIfInBounds, Array.size_setIfInBounds]
  by_cases hki : i = k
  · subst hki
    rw [List.getElem_set_self]
    match j, hj with
    | 0, _ => simp [Pt.cs]; omega
    | 1, _ => simp [Pt.cs]; omega
    | 2, _ => simp [Pt.cs]; omega
    | 3, _ => simp [Pt.cs]; omega
  · rw [List.getElem_set_ne hki, ← h2 k hk j hj, if_neg (by omega), if_neg (by omega), if_neg (by omega), if_neg (by omega)]
/-- Two parts change places. -/
def swapL (M : List Pt) (i k : Nat) (hi : i < M.length) (hk : k < M.length) : List Pt := (M.set i M[k]).set k M[i]
theorem swapL_perm (M : List Pt) (i k : Nat) (hi : i < M.length) (hk : k < M.length) : (swapL M i k hi hk).Perm M := List.set_set_perm hi hk
theorem swapL_len (M : List Pt) (i k : Nat) (hi : i < M.length) (hk : k < M.length) : (swapL M i k hi hk).length = M.length := by simp [swapL]
theorem four_keeps {w : World} {g i : Nat} (x y z u : Value) : (∀ b, b ≠ g → ((((w.setCell ⟨g, i * 4, none⟩ x).setCell ⟨g, i * 4 + 1, none⟩ y).setCell ⟨g, i * 4 + 2, none⟩ z).setCell ⟨g, i * 4 + 3, none⟩ u).heap[b]? = w.heap[b]?) ∧
    Upd g w ((((w.setCell ⟨g, i * 4, none⟩ x).setCell ⟨g, i * 4 + 1, none⟩ y).setCell ⟨g, i * 4 + 2, none⟩ z).setCell ⟨g, i * 4 + 3, none⟩ u) := by
  refine ⟨fun b hb => ?_, ((((Upd.refl g w).set _ _).set _ _).set _ _).set _ _⟩
  rw [Below.heap_setCell _ _ _ _ hb, Below.heap_setCell _ _ _ _ hb, Below.heap_setCell _ _ _ _ hb, Below.heap_setCell _ _ _ _ hb]
theorem BP.drew {w : World} {g : Nat} {t : TypeId} {M : List Pt} (h : BP w g t M) : BP w.drew g t M := let ⟨cur, h1, h2⟩ := h; ⟨cur, h1.drew, h2⟩
theorem swap8 {w : World} {g : Nat} {t : TypeId} {M : List Pt} (h : BP w g t M) {i k : Nat} (hi : i < M.length) (hk : k < M.length) :
    BP ((((((((w.setCell ⟨g, i * 4, none⟩ (.int .i64 M[k].id)).setCell ⟨g, i * 4 + 1, none⟩ (.int .i64 M[k].n)).setCell ⟨g, i * 4 + 2, none⟩ (.int .i64 M[k].of_)).setCell ⟨g, i * 4 + 3, none⟩ (.string M[k].text)).setCell
      ⟨g, k * 4, none⟩ (.int .i64 M[i].id)).setCell ⟨g, k * 4 + 1, none⟩ (.int .i64 M[i].n)).setCell ⟨g, k * 4 + 2, none⟩ (.int .i64 M[i].of_)).setCell ⟨g, k * 4 + 3, none⟩ (.string M[i].text)).drew g t (swapL M i k hi hk) ∧
    Upd g w ((((((((w.setCell ⟨g, i * 4, none⟩ (.int .i64 M[k].id)).setCell ⟨g, i * 4 + 1, none⟩ (.int .i64 M[k].n)).setCell ⟨g, i * 4 + 2, none⟩ (.int .i64 M[k].of_)).setCell ⟨g, i * 4 + 3, none⟩ (.string M[k].text)).setCell
      ⟨g, k * 4, none⟩ (.int .i64 M[i].id)).setCell ⟨g, k * 4 + 1, none⟩ (.int .i64 M[i].n)).setCell ⟨g, k * 4 + 2, none⟩ (.int .i64 M[i].of_)).setCell ⟨g, k * 4 + 3, none⟩ (.string M[i].text)).drew := by
  have h1 := h.set4 hi M[k]
  have h2 := h1.set4 (i := k) (by rw [List.length_set]; exact hk) M[i]
  exact ⟨h2.drew, ((four_keeps (w := w) (g := g) (i := i) _ _ _ _).2.trans (four_keeps (g := g) (i := k) _ _ _ _).2).drew⟩
/-- The joiner, where another block has turned. -/
theorem JK.upd {B bj n : Nat} {most open_ : Int} {w0 w w' : World} {L : List Pt} {g : Nat} (h : JK B bj n most open_ w0 w L) (hu : Upd g w w') (hg : g < B) : JK B bj n most open_ w' w' L := by
  obtain ⟨bb, bo, f, h1, h2⟩ := h
  exact ⟨bb, bo, f, h1.other fun b hb hlt => hu.block b hlt (fun e => by have := OwnJ.lo h1 b hb; cases e; omega), Below.refl _ _⟩
theorem JK.self {B bj n : Nat} {most open_ : Int} {w0 w : World} {L : List Pt} (h : JK B bj n most open_ w0 w L) : JK B bj n most open_ w w L := let ⟨bb, bo, f, h1, _⟩ := h; ⟨bb, bo, f, h1, Below.refl _ _⟩
theorem JK.up {B bj n m : Nat} {most open_ : Int} {w0 w : World} {L : List Pt} (h : JK B bj n most open_ w0 w L) (hm : n ≤ m) : JK B bj m most open_ w0 w L := let ⟨bb, bo, f, h1, h2⟩ := h; ⟨bb, bo, f, h1.up hm, h2⟩
theorem jk_used {B bj n : Nat} {most open_ : Int} {w0 w : World} {L : List Pt} (h : JK B bj n most open_ w0 w L) :
    Calls Try.prog 39 #[.pointer (some ⟨bj, 0, none⟩)] w fun en w' => en = .returned (.int .i64 (usedL L : Nat)) ∧ w' = w := let ⟨_, _, _, h1, _⟩ := h; parts_used h1
theorem jk_open {B bj n : Nat} {most open_ : Int} {w0 w : World} {L : List Pt} (h : JK B bj n most open_ w0 w L) (hn : n ≤ 100000) :
    Calls Try.prog 38 #[.pointer (some ⟨bj, 0, none⟩)] w (OpenPost B (idsL L) w) := let ⟨_, _, _, h1, _⟩ := h; parts_open h1 hn
end Go.Proofs.Ytemfecdpjegocaa
