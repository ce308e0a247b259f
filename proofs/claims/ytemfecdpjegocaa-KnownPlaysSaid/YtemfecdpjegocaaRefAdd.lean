/- Add to the document's row. -/
import Derived.Test.YtemfecdpjegocaaRefAsk
import Derived.Test.YtemfecdpjegocaaObj
import Derived.Laws.AppendOwnNone
namespace Go.Proofs.Ytemfecdpjegocaa
open Go.RowKit
set_option linter.unusedVariables false
set_option linter.unusedSimpArgs false

theorem OwnS.empty {w : World} {B : Nat} {e : TypeId} (hB : B ≤ w.heap.size) : OwnS (w.alloc (.cells #[] e)) B e (.slice (some ⟨w.heap.size, 0, none⟩) 0 0) [] :=
  ⟨rfl, .inr ⟨w.heap.size, 0, #[], rfl, hB, Blk.new w #[] e, Nat.le_refl _, Nat.zero_le _, rfl, rfl⟩⟩
theorem OwnS.block {w : World} {B : Nat} {e : TypeId} {v : Value} {l : List ByteArray} (h : OwnS w B e v l) : ∀ b, v.ownBlock = some b → B ≤ b := by
  rcases h.2 with ⟨rfl, h0⟩ | ⟨g, cap, cur, rfl, hb, _⟩
  · intro b h; cases h
  · intro b h; cases h; exact hb
/-- 'append(l, r...)' of texts that are there, onto a slice that the call made. -/
theorem append_rs {P : Program} {t e : TypeId} (T : StrTypes P t e) {ops : Array Oper} {rest : List Oper} {o : Oper} {a : Act} {Q : Exit → Act → World → Prop} (hgd : o.guard = none) (x y : Operand)
    (ho : o.op = .call { callee := .builtin .append, args := #[x, y], argTypes := #[t, t] })
    (B : Nat) (v z : Value) (l m : List ByteArray) (w : World) (hx : a.eval x = v) (hown : OwnS w B e v l)
    (hy : a.eval y = z) (hz : RS w z m) (hz0 : z = .slice none 0 0 ∨ ∃ ad n c, z = .slice (some ad) n c) (hlen : l.length + m.length ≤ 1000000) (hB : B ≤ w.heap.size)
    (h : ∀ v' w', OwnS w' B e v' (l ++ m) → Below B w w' → w.heap.size ≤ w'.heap.size → wpList P ops Q rest (a.put o.dst v') w') :
    wpList P ops Q (o :: rest) a w := by
  obtain ⟨i0, hi, hz1, hz2, hz3⟩ := info_parts T.hi
  rcases hz0 with rfl | ⟨ad, n, c, rfl⟩
  · have hm : m = [] := by
      obtain ⟨ao, cap, he⟩ := hz.slice
      simp at he
      exact List.length_eq_zero_iff.1 he.2.1.symm
    subst hm
    refine wpList_append_own_none hgd x y t ho B e i0 1 T.ht hi v l.length (scells l) hx hown hy ?_
    exact h _ _ (by rw [List.append_nil]; exact hown) (Below.refl _ _) (Nat.le_refl _)
  · obtain ⟨ao, cap, he⟩ := hz.slice
    simp only [Value.slice.injEq] at he
    obtain ⟨rfl, rfl, rfl⟩ := he
    refine wpList_append_own _ hgd x y t ho B e i0 (.string ByteArray.empty) 1 16 T.ht hi hz1 hz2 hz3 rfl (by decide) v l.length (scells l) hx hown
      ad m.length c (scells m) hy (by simp) ?_ (scells_one m) (by unfold maxLen; omega) (by omega) (by omega) ?_
    · intro j u hj
      obtain ⟨hj1, rfl⟩ : ∃ hj : j < m.length, u = .string m[j] := by
        simp [scells] at hj
        obtain ⟨b, hb, rfl⟩ := hj
        obtain ⟨h1, h2⟩ := List.getElem?_eq_some_iff.1 hb
        exact ⟨h1, by rw [h2]⟩
      obtain ⟨b, off, he, _, hc⟩ := hz.at_ hj1
      cases he
      have e1 : (⟨b, off, none⟩ : Addr).add j = ⟨b, off + j, none⟩ := by unfold Addr.add; split <;> simp_all
      rw [e1]; exact hc
    · intro v' w' h1 h2 _
      refine h v' w' ?_ ?_ h2.size
      · show w'.ownsRow B e 1 v' (l ++ m).length (scells (l ++ m))
        rw [List.length_append, scells_append]; exact h1
      · exact (Below.refl B w).grown h2 hB fun j hj => (World.ownsRow.lt hown j hj).1

/-- What Add leaves: the row itself, or a fresh one. -/
def RowAdded (w : World) (v : Value) (row : List ByteArray) (s : ByteArray) (w' : World) (v' : Value) : Prop :=
  (s ∈ row ∧ v' = v) ∨ (s ∉ row ∧ RS w' v' (row ++ [s]) ∧ (∀ b, v'.ownBlock = some b → w.heap.size ≤ b) ∧ (v' = .slice none 0 0 ∨ ∃ ad n c, v' = .slice (some ad) n c))

set_option maxRecDepth 100000 in
set_option maxHeartbeats 1000000 in
theorem ref_add31 {w : World} {v : Value} {row : List ByteArray} (h1 : RS w v row) (hv0 : v = .slice none 0 0 ∨ ∃ ad n c, v = .slice (some ad) n c) (hr : row.length ≤ 1000) (s : ByteArray) :
    Calls Try.prog 20 #[v, .int .i64 1024, .string s] w fun en w' => ∃ v' b, en = .returned (.tuple #[v', .bool b]) ∧ RowAdded w v row s w' v' ∧ Below w.heap.size w w' := by
  obtain ⟨ao, cap, rfl⟩ := h1.slice
  have H1 := Lib.hid h1
  have HV := Lib.hid hv0
  clear h1 hv0
  have hp := Lib.hid (ref_place H1.out (by omega) s)
  obtain ⟨B, hB⟩ : ∃ B, w.heap.size = B := ⟨_, rfl⟩
  rw [hB]
  go_enter Try.func20, Try.ntmps20
  go_wp2_with fail
  refine hp.out.mono ?_
  rintro en w2 ⟨r, rfl, hr1, rfl⟩
  rcases hr1 with ⟨hr0, hin⟩ | ⟨hr0, hni⟩
  · have hd : decide ((0 : Int) ≤ r) = true := by simp; omega
    have hin' := Lib.hid hin
    clear hin
    go_wp2_with fail
    go_returns
    exact ⟨_, _, rfl, .inl ⟨hin'.out, rfl⟩, Below.refl _ _⟩
  · have hd : decide ((0 : Int) ≤ r) = false := by simp; omega
    have hni' := Lib.hid hni
    clear hni
    have hz1 : Hid (RS (w2.alloc (.cells #[] 9)) (.slice ao row.length cap) row) := H1.out.below ((Below.refl _ _).alloc (Nat.le_refl _) _)
    have hlr : row.length + 1 ≤ 1024 := by omega
    have hown0 : Hid (OwnS (w2.alloc (.cells #[] 9)) B 9 (.slice (some ⟨B, 0, none⟩) 0 0) []) := by unfold Hid; rw [← hB]; exact OwnS.empty (Nat.le_refl _)
    have hb0 : Hid (Below B w2 (w2.alloc (.cells #[] 9))) := (Below.refl _ _).alloc (by omega) _
    have hB0 : B ≤ (w2.alloc (.cells #[] 9)).heap.size := by simp; omega
    go_wp2_with (first
      | (at_builtin; refine append_rs strs_types rfl (.tmp 14) (.tmp 15) rfl B _ _ [] row _ rfl hown0.out rfl hz1.out HV.out (by simp; omega) hB0 ?_; intro v1 w1 hown1 hb1 hsz1
         have hown1' : Hid (OwnS w1 B 9 v1 row) := hown1
         have hB1 : B ≤ w1.heap.size := by omega)
      | (at_builtin; refine append_strs strs_types rfl (.tmp 16) (.tmp 18) rfl B _ row [s] 1 rfl w1 _ rfl rfl hown1'.out rfl (by omega) hB1 ?_; intro v' w' hown' hb' hsz'
         obtain ⟨ao9, cap9, hv0⟩ := hown'.rs.slice
         have hv9 : v' = .slice ao9 (row.length + 1) cap9 := by rw [hv0, List.length_append]; rfl
         clear hv0
         have hfin : Hid (RS w' v' (row ++ [s])) := hown'.rs
         have hblk : Hid (∀ b, v'.ownBlock = some b → w2.heap.size ≤ b) := by unfold Hid; rw [hB]; exact hown'.block
         have hnz : Hid (v' = .slice none 0 0 ∨ ∃ ad n c, v' = .slice (some ad) n c) := by
           rcases hown'.2 with ⟨h, _⟩ | ⟨g, cap, cur, h, _⟩
           · exact .inl h
           · exact .inr ⟨_, _, _, h⟩
         have hbe : Hid (Below B w2 w') := (hb0.out.trans hb1).trans hb'
         have hll : (row ++ [s]).length ≤ 1024 := by simp; omega
         clear hown' hown1 hown1' hown0
         subst hv9))
    go_returns
    exact ⟨_, _, rfl, .inr ⟨hni'.out, hfin.out, hblk.out, hnz.out⟩, hbe.out⟩
end Go.Proofs.Ytemfecdpjegocaa
