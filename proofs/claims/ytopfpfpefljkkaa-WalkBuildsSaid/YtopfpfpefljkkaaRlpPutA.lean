/- rlp.Put: the head that its closure appends; Get, Size. -/
import Derived.Test.YtopfpfpefljkkaaItemMay
import Derived.Test.YtopfpfpefljkkaaFixBig
import Derived.Test.YtopfpfpefljkkaaRlpNst2
import Derived.Test.YtopfpfpefljkkaaRlpDoc
import Derived.Lib.AppendStr
import Derived.Deep.AppendLies
namespace Go.Proofs.Ytopfpfpefljkkaa
open Go.RowKit
set_option linter.unusedVariables false
set_option linter.unusedSimpArgs false

theorem flat_bcells (l : List UInt8) : l.flatMap (fun b => [Value.int .u8 (b.toNat : Int)]) = bcells l := by
  induction l with
  | nil => rfl
  | cons b l ih => rw [List.flatMap_cons, ih]; rfl
/-- 'append(b, x)' of bytes written out, onto a slice that the call made: where it lies. -/
theorem append_byte_at {P : Program} {t e s : TypeId} (T : ByteTypes P t e s) {ops : Array Oper} {rest : List Oper} {o : Oper} {a : Act} {Q : Exit → Act → World → Prop} (hgd : o.guard = none) (x y : Operand)
    (ho : o.op = .call { callee := .builtin .append, args := #[x, y], argTypes := #[t, t] })
    (B : Nat) (v : Value) (l : List UInt8) (b : UInt8) (w : World) (cs : Array Value) (hcs : cs.toList = bcells [b]) (hx : a.eval x = v) (hown : OwnB w B e v l)
    (hy : a.eval y = .slice (some ⟨w.heap.size, 0, none⟩) 1 1) (hlen : l.length + 1 ≤ 140737488355328) (hB : B ≤ w.heap.size)
    (h : ∀ v' w', OwnB w' B e v' (l ++ [b]) → w.grownBy w' v.ownBlock → (v'.ownBlock = v.ownBlock ∨ ∃ g, v'.ownBlock = some g ∧ w.heap.size ≤ g) → wpList P ops Q rest (a.put o.dst v') w') :
    wpList P ops Q (o :: rest) a (w.alloc (.cells cs e)) := by
  obtain ⟨i0, hi, hz0, hz1, hz2⟩ := info_parts T.hi
  have hal := (Below.refl w.heap.size w).alloc (Nat.le_refl _) (.cells cs e)
  have hB0 := Blk.new w cs e
  refine wpList_append_lies _ hgd x y t ho B e i0 (.int .u8 0) 1 1 T.ht hi hz0 hz1 hz2 rfl (by decide) v l.length (bcells l) hx (World.ownsRow.alloc hown _)
    ⟨w.heap.size, 0, none⟩ 1 1 (bcells [b]) hy (by simp) ?_ (bcells_one _) (by decide) (by unfold maxLen; omega) (by omega) (by simp; omega) _ rfl ?_
  · intro j u hj
    have e1 : (⟨w.heap.size, 0, none⟩ : Addr).add j = ⟨w.heap.size, j, none⟩ := by unfold Addr.add; split <;> simp_all
    rw [e1, hB0.cell, ← hj, ← hcs, Array.getElem?_toList]
  · intro g cap w' h1 h2 h3 h4
    refine h _ w' ?_ ⟨h2.os, h2.tape, h2.output, by have := h2.size; simp at this; omega, fun c hc hne => (h2.block c (by simp; omega) hne).trans (hal.block c hc)⟩ ?_
    · show w'.ownsRow B e 1 _ (l ++ [b]).length (bcells (l ++ [b]))
      rw [List.length_append, bcells_append]; exact h1
    · rcases h3 with h3 | h3
      · exact .inl h3.symm
      · exact .inr ⟨g, rfl, by rw [h3]; simp⟩

/-- 'append(b, s...)' of a text's bytes. -/
theorem append_text {P : Program} {t e s : TypeId} (T : ByteTypes P t e s) {ops : Array Oper} {rest : List Oper} {o : Oper} {a : Act} {Q : Exit → Act → World → Prop} (hgd : o.guard = none) (x y : Operand)
    (ho : o.op = .call { callee := .builtin .append, args := #[x, y], argTypes := #[t, s] })
    (B : Nat) (v : Value) (l : List UInt8) (S : ByteArray) (w : World) (hx : a.eval x = v) (hown : OwnB w B e v l)
    (hy : a.eval y = .string S) (hlen : l.length + S.size ≤ 140737488355328) (hB : B ≤ w.heap.size)
    (h : ∀ v' w', OwnB w' B e v' (l ++ S.data.toList) → w.grownBy w' v.ownBlock → wpList P ops Q rest (a.put o.dst v') w') :
    wpList P ops Q (o :: rest) a w := by
  obtain ⟨i0, hi, hz0, hz1, hz2⟩ := info_parts T.hi
  refine Lib.wpList_append_own_string _ hgd x y t s ho B e i0 T.ht T.hs hi hz0 hz1 hz2 v l.length (bcells l) hx hown S hy (by unfold maxLen; omega) (by omega) hB ?_
  intro v' w' h1 h2 _
  refine h v' w' ?_ h2
  have e1 : Lib.strCells S = bcells S.data.toList := by simp [Lib.strCells, bcells]
  show w'.ownsRow B e 1 v' (l ++ S.data.toList).length (bcells (l ++ S.data.toList))
  rw [List.length_append, bcells_append, ← e1]
  have e2 : S.data.toList.length = S.size := by simp
  rw [e2]; exact h1

set_option maxRecDepth 100000 in
set_option maxHeartbeats 1000000 in
theorem put_head (b n B : Nat) (v : Value) (l : List UInt8) (w : World) (hb : b = 128 ∨ b = 192) (hn : n ≤ 1000000) (hown : OwnB w B 5 v l) (hl : l.length ≤ 1000000) (hB : B ≤ w.heap.size) :
    Calls Try.prog 39 #[v, .int .i64 b, .int .i64 n] w fun e w' => ∃ v', e = .returned v' ∧ OwnB w' B 5 v' (l ++ hdr b n) ∧ w.grownBy w' v.ownBlock := by
  have hb2 : b ≤ 192 := by omega
  by_cases c : n ≤ 55
  · have HR : Hid (hdr b n = [UInt8.ofNat (b + n)]) := Lib.hid (by unfold hdr; rw [if_pos c])
    have hbn : b + n ≤ 255 := by omega
    go_enter Try.func39, Try.ntmps39
    go_wp2_with (at_builtin; go_loud (refine append_byte_at btf rfl _ _ rfl B v l (UInt8.ofNat (b + n)) w _ (lit1 (n := b + n) (by omega) (by omega)) rfl hown rfl (by omega) hB ?_); intro v' w' h1 h2 h3; have HF := Lib.hid (And.intro h1 h2); clear h1 h2 h3)
    go_returns
    exact ⟨_, rfl, by rw [HR.out]; exact HF.out.1, HF.out.2⟩
  · have c0 := Lib.hid (fix_least n w (by omega))
    have hl3 := lsN_le 3 n (Nat.lt_of_le_of_lt hn (by decide))
    have HR : Hid (hdr b n = UInt8.ofNat (b + 55 + (lsN n).length) :: (lsN n).reverse) := Lib.hid (by unfold hdr; rw [if_neg c])
    obtain ⟨S, hS⟩ : ∃ S : ByteArray, S = ⟨(lsN n).reverse.toArray⟩ := ⟨_, rfl⟩
    have hSs : S.size = (lsN n).length := by rw [hS, size_mk]; simp
    rw [← hS] at c0
    have hSl : S.data.toList = (lsN n).reverse := by rw [hS]
    rw [← hSs, ← hSl] at HR
    have hs3 : S.size ≤ 3 := by omega
    have HOWN := Lib.hid hown
    clear hS hSs hSl hown hl3
    go_enter Try.func39, Try.ntmps39
    go_wp2_with fail
    refine c0.out.mono ?_
    rintro e w2 ⟨rfl, hb2'⟩
    have HOWN2 := Lib.hid (HOWN.out.below hb2')
    have hB2 : B ≤ w2.heap.size := Nat.le_trans hB hb2'.size
    have HG2 := Lib.hid hb2'
    clear hb2'
    go_wp2_with (first
      | (at_builtin; refine append_byte_at btf rfl _ _ rfl B v l (UInt8.ofNat (b + 55 + S.size)) w2 _ (lit1 (n := b + 55 + S.size) (by omega) (by omega)) rfl HOWN2.out rfl (by omega) hB2 ?_; intro v' w' h1 h2 h3; have HF := Lib.hid (And.intro h1 (And.intro h2 h3)); have hB3 := Nat.le_trans hB2 h2.size; clear h1 h2 h3)
      | (at_builtin; refine append_text btf rfl _ _ rfl B v' (l ++ [UInt8.ofNat (b + 55 + S.size)]) S w' rfl HF.out.1 rfl (by simp; omega) hB3 ?_; intro v2 w3 h1 h2; have HF2 := Lib.hid (And.intro h1 h2); clear h1 h2))
    go_returns
    refine ⟨_, rfl, ?_, ?_⟩
    · rw [HR.out]
      have := HF2.out.1
      rwa [List.append_assoc] at this
    · obtain ⟨h1, h2, h3⟩ := HF.out
      have h4 := HF2.out.2
      have h0 := HG2.out
      refine ⟨h4.os.trans (h2.os.trans h0.os), h4.tape.trans (h2.tape.trans h0.tape), h4.output.trans (h2.output.trans h0.output), Nat.le_trans h0.size (Nat.le_trans h2.size h4.size), fun c hc hne => ?_⟩
      have hc2 : c < w2.heap.size := Nat.lt_of_lt_of_le hc h0.size
      rw [h4.block c (Nat.lt_of_lt_of_le hc2 h2.size) ?_, h2.block c hc2 hne, h0.block c hc]
      intro e
      rcases h3 with h3 | ⟨g, h3, h5⟩
      · exact hne (by rw [e, h3])
      · rw [h3] at e; cases e; omega
end Go.Proofs.Ytopfpfpefljkkaa
