/- The last region of the document's Add: 'j.L = append(append([]Part{}, j.L...), p)'. -/
import Derived.Test.YtemfecdpjegocaaDocAdd
import Derived.Test.YtemfecdpjegocaaOrd
namespace Go.Proofs.Ytemfecdpjegocaa
open Go.RowKit Go.Maps
set_option linter.unusedVariables false
set_option linter.unusedSimpArgs false

theorem PV.blockLt {w : World} {v : Value} {L : List Pt} (h : PV w v L) : ∀ b, v.ownBlock = some b → b < w.heap.size := by
  rcases h with ⟨_, rfl⟩ | ⟨b, off, cap, rfl, hlt, hc⟩
  · intro b h; cases h
  · intro b h; cases h; exact hlt
/-- 'append(l, m...)' of parts onto a slice that the call made. -/
theorem run_append_parts {P : Program} {t e ty : TypeId} (T : PartTypes P t e) {w : World} {B : Nat} {v u : Value} {L M : List Pt} (hown : OwnP w B e v L) (hu : PV w u M) (hlen : L.length + M.length ≤ 1000000) (hB : B ≤ w.heap.size) :
    ∃ v' w', (Builtin.append_ #[t, t] ty #[v, u]).run P w = .ok v' w' ∧ OwnP w' B e v' (L ++ M) ∧ w.grownBy w' v.ownBlock := by
  obtain ⟨i0, hi, hz0, hz1, hz2⟩ := info_parts T.hi
  rcases hu with ⟨rfl, rfl⟩ | ⟨g, off, cap, rfl, hlt, hc⟩
  · refine ⟨v, w, run_append_owned_none w B t ty e i0 4 T.ht hi v L.length (pcells L) hown, by rw [List.append_nil]; exact hown, ?_⟩
    exact ⟨rfl, rfl, rfl, Nat.le_refl _, fun _ _ _ => rfl⟩
  · obtain ⟨v', w', hr, h1, h2, _⟩ := run_append_own w B t ty e i0 _ 4 40 T.ht hi hz0 hz1 hz2 rfl (by decide) v L.length (pcells L) hown ⟨g, off, none⟩ M.length cap (pcells M) (pcells_length M) (fun j x hj => by
      have hjl : j < (pcells M).length := (List.getElem?_eq_some_iff.1 hj).1
      rw [pcells_length] at hjl
      have e1 : (⟨g, off, none⟩ : Addr).add j = ⟨g, off + j, none⟩ := by unfold Addr.add; split <;> simp_all
      have hd : j / 4 < M.length := by omega
      have hm : j % 4 < 4 := by omega
      have := hc (j / 4) hd (j % 4) hm
      rw [show off + j / 4 * 4 + j % 4 = off + j by omega] at this
      rw [e1, this, ← pcells_at hd hm, show j / 4 * 4 + j % 4 = j by omega]
      exact hj) (pcells_one M) (by unfold maxLen; omega) (by omega) hB
    refine ⟨v', w', hr, ?_, h2⟩
    show w'.ownsRow B e 4 v' (L ++ M).length (pcells (L ++ M))
    rw [List.length_append, pcells_append]; exact h1
/-- What each operation of that region leaves. -/
def R27 (g B : Nat) (vL : Value) (p : Pt) (L : List Pt) : Nat → Value → World → Prop
  | 0, v, w => ∃ h, v = .slice (some ⟨h, 0, none⟩) 0 0 ∧ Blk w h #[] 31 ∧ B ≤ h
  | 1, v, _ => v = .pointer (some ⟨g, 2, none⟩)
  | 2, v, _ => v = vL
  | 3, v, w => OwnP w B 31 v L
  | 4, v, _ => v = .agg p.cs
  | _, v, w => ∃ h, v = .slice (some ⟨h, 0, none⟩) 1 1 ∧ Blk w h p.cs 31 ∧ B ≤ h
def G27 : Nat → World → World → Prop
  | 3, w, w' => ∀ b cs t, 0 < cs.size → Blk w b cs t → Blk w' b cs t
  | _, w, w' => Below w.heap.size w w'
def C27 (j : Nat) : Option Nat := if j = 0 then some 3 else none

set_option maxRecDepth 100000 in
set_option maxHeartbeats 1000000 in
theorem add27 {id : Nat} {Q : Exit → Act → World → Prop} {a0 : Act} {w5 : World} {g : Nat} {m o : Int} {vL : Value} {p : Pt} {L : List Pt} (h2 : a0.tmps.getD 2 undef = .pointer (some ⟨g, 0, none⟩)) (h3 : a0.tmps.getD 3 undef = .pointer (some ⟨g + 1, 0, none⟩))
    (hsz : a0.tmps.size = 123) (bj : Blk w5 g #[.int .i64 m, .int .i64 o, vL] 84) (bp : Blk w5 (g + 1) p.cs 31) (hL : PV w5 vL L) (hlen : L.length ≤ 1000)
    (hQ : ∀ (x0 x1 x2 x3 x4 x5 v x7 : Value) W, Below w5.heap.size w5 W → OwnP W w5.heap.size 31 v (L ++ [p]) →
      Q .normal { a0 with tmps := (((((((a0.tmps.setIfInBounds 114 x0).setIfInBounds 115 x1).setIfInBounds 116 x2).setIfInBounds 117 x3).setIfInBounds 118 x4).setIfInBounds 119 x5).setIfInBounds 120 v).setIfInBounds 121 x7 } (W.setCell ⟨g, 2, none⟩ v)) :
    (Code.region id #[{ dst := some 114, op := Go.Op.buildSlice 27 0 #[], type := 27, pos := "ref.go:146", after := #[], guard := none }, { dst := some 115, op := Go.Op.fieldAddr 84 (Go.Operand.tmp 2) 2, type := 0, pos := "ref.go:146", after := #[], guard := none }, { dst := some 116, op := Go.Op.load 27 (Go.Operand.tmp 115), type := 27, pos := "ref.go:146", after := #[{ on := 1, ground := Go.Ground.data }], guard := none }, { dst := some 117, op := Go.Op.call { callee := Go.Callee.builtin Go.Builtin.append, args := #[Go.Operand.tmp 114, Go.Operand.tmp 116], argTypes := #[27, 27] }, type := 27, pos := "ref.go:146", after := #[{ on := 0, ground := Go.Ground.data }, { on := 2, ground := Go.Ground.data }], guard := none }, { dst := some 118, op := Go.Op.load 31 (Go.Operand.tmp 3), type := 31, pos := "ref.go:146", after := #[], guard := none }, { dst := some 119, op := Go.Op.buildSlice 27 1 #[(0, Go.Operand.tmp 118)], type := 27, pos := "ref.go:146", after := #[{ on := 4, ground := Go.Ground.data }], guard := none }, { dst := some 120, op := Go.Op.call { callee := Go.Callee.builtin Go.Builtin.append, args := #[Go.Operand.tmp 117, Go.Operand.tmp 119], argTypes := #[27, 27] }, type := 27, pos := "ref.go:146", after := #[{ on := 3, ground := Go.Ground.data }, { on := 5, ground := Go.Ground.data }, { on := 3, ground := Go.Ground.chain }], guard := none }, { dst := some 121, op := Go.Op.fieldAddr 84 (Go.Operand.tmp 2) 2, type := 0, pos := "ref.go:146", after := #[{ on := 0, ground := Go.Ground.phase }, { on := 1, ground := Go.Ground.phase }, { on := 2, ground := Go.Ground.phase }, { on := 3, ground := Go.Ground.phase }, { on := 4, ground := Go.Ground.phase }, { on := 5, ground := Go.Ground.phase }, { on := 6, ground := Go.Ground.phase }], guard := none }, { dst := none, op := Go.Op.store 27 (Go.Operand.tmp 121) (Go.Operand.tmp 120), type := 0, pos := "ref.go:146", after := #[{ on := 7, ground := Go.Ground.data }, { on := 6, ground := Go.Ground.data }, { on := 6, ground := Go.Ground.chain }, { on := 0, ground := Go.Ground.phase }, { on := 1, ground := Go.Ground.phase }, { on := 2, ground := Go.Ground.phase }, { on := 3, ground := Go.Ground.phase }, { on := 4, ground := Go.Ground.phase }, { on := 5, ground := Go.Ground.phase }, { on := 6, ground := Go.Ground.phase }], guard := none }] true).wp Try.prog Q a0 w5 := by
  obtain ⟨B, hB⟩ : ∃ B, w5.heap.size = B := ⟨_, rfl⟩
  rw [hB] at hQ
  have hgB := bj.lt
  have hpB := bp.lt
  rw [hB] at hgB hpB
  have hPB := hL.blockLt
  refine wp_region_ord 6 123 C27 (fun W => Below B w5 W) (R27 g B vL p L) G27 (by kernel_rfl) hsz (by kernel_rfl) (.inr (by kernel_rfl)) (by kernel_rfl) ((Below.refl _ _).drew) ?_ ?_ ?_
  · intro i j v u u' hi hj hij hw hc hc2 hG hR
    match j, hj with
    | 1, _ => exact hR
    | 2, _ => exact hR
    | 4, _ => exact hR
    | 0, _ =>
      have h3' : i ≠ 3 := fun e => hc (by subst e; rfl)
      have hG' : Below u.heap.size u u' := by match i, h3' with | 0, _ | 1, _ | 2, _ | n + 4, _ => exact hG
      obtain ⟨h, e1, e2, e3⟩ := hR
      exact ⟨h, e1, Below.blk hG' e2 e2.lt, e3⟩
    | 3, _ =>
      have h3' : i ≠ 3 := hij
      have hG' : Below u.heap.size u u' := by match i, h3' with | 0, _ | 1, _ | 2, _ | n + 4, _ => exact hG
      exact OwnP.below hR hG'
    | 5, _ =>
      obtain ⟨h, e1, e2, e3⟩ := hR
      by_cases h3' : i = 3
      · subst h3'
        exact ⟨h, e1, hG h _ _ (by simp [Pt.cs]) e2, e3⟩
      · have hG' : Below u.heap.size u u' := by match i, h3' with | 0, _ | 1, _ | 2, _ | n + 4, _ => exact hG
        exact ⟨h, e1, Below.blk hG' e2 e2.lt, e3⟩
  · intro i o' hi ho
    match i, hi with
    | 0, _ =>
      obtain rfl := Option.some.inj ho
      intro vs a W K hI hR hev hK
      go_simp
      exact hK (.slice (some ⟨W.heap.size, 0, none⟩) 0 0) _ _ rfl (hI.alloc (hB ▸ hI.size) _) ⟨_, rfl, Blk.new W _ _, hB ▸ hI.size⟩ ((Below.refl _ _).alloc (Nat.le_refl _) _)
    | 1, _ =>
      obtain rfl := Option.some.inj ho
      intro vs a W K hI hR hev hK
      have e2 : a.tmps.getD 2 undef = .pointer (some ⟨g, 0, none⟩) := (hev 2 (by decide)).trans h2
      go_simp
      exact hK (.pointer (some ⟨g, 2, none⟩)) _ _ rfl hI rfl (Below.refl _ _)
    | 2, _ =>
      obtain rfl := Option.some.inj ho
      intro vs a W K hI hR hev hK
      have e115 : a.tmps.getD 115 undef = .pointer (some ⟨g, 2, none⟩) := (hev 115 (by decide)).trans (hR 1 (by decide) (by decide))
      have c2 : W.cell? ⟨g, 2, none⟩ = some vL := (hI.cell (p := ⟨g, 2, none⟩) hgB).trans (bj.cell 2)
      go_simp
      exact hK vL _ _ rfl hI rfl (Below.refl _ _)
    | 3, _ =>
      obtain rfl := Option.some.inj ho
      intro vs a W K hI hR hev hK
      obtain ⟨h, e1, e2, e3⟩ := hR 0 (by decide) (by decide)
      have e114 : a.eval (.tmp 114) = .slice (some ⟨h, 0, none⟩) 0 0 := (hev 114 (by decide)).trans e1
      have e116 : a.eval (.tmp 116) = vL := (hev 116 (by decide)).trans (hR 2 (by decide) (by decide))
      have hown : OwnP W B 31 (.slice (some ⟨h, 0, none⟩) 0 0) [] := by
        refine ⟨by simp [pcells], .inr ⟨h, 0, #[], rfl, e3, e2, Nat.le_refl _, by unfold maxLen; omega, rfl, rfl⟩⟩
      obtain ⟨v', W', hr, h1', h2'⟩ := run_append_parts (ty := 27) rpart_types hown (hL.below (hB ▸ hI)) (by simp; omega) (by have := hI.size; omega)
      rw [if_pos (by rfl)]
      unfold Oper.wp execOp
      simp only [resolve, invoke, builtin, Sem.run_bind, Sem.run_pure, Result.andThen_ok, List.map_toArray, List.map_cons, List.map_nil, e114, e116, hr]
      refine hK v' _ _ rfl (hI.grown h2' (by have := hI.size; omega) fun j hj => by cases hj; exact e3) (by rw [List.nil_append] at h1'; exact h1') ?_
      intro b cs t hcs hb
      unfold Blk
      rw [h2'.block b hb.lt fun e => by
        cases e
        have := e2.symm.trans hb
        cases this
        simp at hcs]
      exact hb
    | 4, _ =>
      obtain rfl := Option.some.inj ho
      intro vs a W K hI hR hev hK
      have e3 : a.tmps.getD 3 undef = .pointer (some ⟨g + 1, 0, none⟩) := (hev 3 (by decide)).trans h3
      have c0 : W.cell? ⟨g + 1, 0, none⟩ = some (.int .i64 p.id) := (hI.cell (p := ⟨g + 1, 0, none⟩) hpB).trans (bp.cell 0)
      have c1 : W.cell? ⟨g + 1, 1, none⟩ = some (.int .i64 p.n) := (hI.cell (p := ⟨g + 1, 1, none⟩) hpB).trans (bp.cell 1)
      have c2 : W.cell? ⟨g + 1, 2, none⟩ = some (.int .i64 p.of_) := (hI.cell (p := ⟨g + 1, 2, none⟩) hpB).trans (bp.cell 2)
      have c3 : W.cell? ⟨g + 1, 3, none⟩ = some (.string p.text) := (hI.cell (p := ⟨g + 1, 3, none⟩) hpB).trans (bp.cell 3)
      go_simp
      exact hK (.agg p.cs) _ _ rfl hI rfl (Below.refl _ _)
    | 5, _ =>
      obtain rfl := Option.some.inj ho
      intro vs a W K hI hR hev hK
      have e118 : a.tmps.getD 118 undef = .agg #[.int .i64 p.id, .int .i64 p.n, .int .i64 p.of_, .string p.text] := (hev 118 (by decide)).trans (hR 4 (by decide) (by decide))
      have e118' : a.tmps[118]?.getD undef = .agg #[.int .i64 p.id, .int .i64 p.n, .int .i64 p.of_, .string p.text] := by simpa using e118
      go_simp
      exact hK (.slice (some ⟨W.heap.size, 0, none⟩) 1 1) _ _ rfl (hI.alloc (hB ▸ hI.size) _) ⟨_, rfl, Blk.new W _ _, hB ▸ hI.size⟩ ((Below.refl _ _).alloc (Nat.le_refl _) _)
  · intro vs W hI hR
    have hown : OwnP W B 31 (vs 3) L := hR 3 (by decide) rfl
    obtain ⟨h5, e5, b5, hB5⟩ := hR 5 (by decide) rfl
    have hp5 : PV W (vs 5) [p] := .inr ⟨h5, 0, 1, e5, b5.lt, fun i hi j hj => by
      obtain rfl : i = 0 := by simpa using hi
      rw [b5.cell]; simp⟩
    show wpList _ _ _ _  { a0 with tmps := ((((((a0.tmps.setIfInBounds 114 (vs 0)).setIfInBounds 115 (vs 1)).setIfInBounds 116 (vs 2)).setIfInBounds 117 (vs 3)).setIfInBounds 118 (vs 4)).setIfInBounds 119 (vs 5)) } W
    obtain ⟨X, df⟩ := a0
    simp only at hsz h2 hQ ⊢
    simp only [List.drop_succ_cons, List.drop_zero]
    obtain ⟨v', W', hr, h1', h2'⟩ := run_append_parts (ty := 27) rpart_types hown hp5 (by simp; omega) (by have := hI.size; omega)
    have hbl : ∀ j, (vs 3).ownBlock = some j → B ≤ j := fun j hj => (hown.block j hj).1
    have hb' : Below B w5 W' := hI.grown h2' (by have := hI.size; omega) hbl
    have hfin := Lib.hid (fun x7 => hQ (vs 0) (vs 1) (vs 2) (vs 3) (vs 4) (vs 5) v' x7 W' hb' h1')
    have c2 : W'.cell? ⟨g, 2, none⟩ = some vL := (hb'.cell (p := ⟨g, 2, none⟩) hgB).trans (bj.cell 2)
    have f2 : W'.frozen? ⟨g, 2, none⟩ = false := (Below.frozen hb' (p := ⟨g, 2, none⟩) hgB).trans (bj.free 2)
    have hY2 : ((((((X.setIfInBounds 114 (vs 0)).setIfInBounds 115 (vs 1)).setIfInBounds 116 (vs 2)).setIfInBounds 117 (vs 3)).setIfInBounds 118 (vs 4)).setIfInBounds 119 (vs 5)).getD 2 undef = .pointer (some ⟨g, 0, none⟩) := by
      rw [Array.getD_eq_getD_getElem?]
      rw [Array.getElem?_setIfInBounds_ne (by decide), Array.getElem?_setIfInBounds_ne (by decide), Array.getElem?_setIfInBounds_ne (by decide), Array.getElem?_setIfInBounds_ne (by decide), Array.getElem?_setIfInBounds_ne (by decide), Array.getElem?_setIfInBounds_ne (by decide)]
      rw [← Array.getD_eq_getD_getElem?]; exact h2
    have hY117 : ((((((X.setIfInBounds 114 (vs 0)).setIfInBounds 115 (vs 1)).setIfInBounds 116 (vs 2)).setIfInBounds 117 (vs 3)).setIfInBounds 118 (vs 4)).setIfInBounds 119 (vs 5)).getD 117 undef = vs 3 := by
      rw [Array.getD_eq_getD_getElem?]
      rw [Array.getElem?_setIfInBounds_ne (by decide), Array.getElem?_setIfInBounds_ne (by decide), Array.getElem?_setIfInBounds_self_of_lt (by simp; omega)]
      rfl
    have hY119 : ((((((X.setIfInBounds 114 (vs 0)).setIfInBounds 115 (vs 1)).setIfInBounds 116 (vs 2)).setIfInBounds 117 (vs 3)).setIfInBounds 118 (vs 4)).setIfInBounds 119 (vs 5)).getD 119 undef = vs 5 := by
      rw [Array.getD_eq_getD_getElem?]
      rw [Array.getElem?_setIfInBounds_self_of_lt (by simp; omega)]
      rfl
    have hYs : ((((((X.setIfInBounds 114 (vs 0)).setIfInBounds 115 (vs 1)).setIfInBounds 116 (vs 2)).setIfInBounds 117 (vs 3)).setIfInBounds 118 (vs 4)).setIfInBounds 119 (vs 5)).size = 123 := by simp [hsz]
    obtain ⟨vo, vc, hvs⟩ := h1'.ps.slice
    clear hQ h2 h3 hown hR hI b5 hp5 e5 h1' h2' hbl hb' bj bp hPB hL
    generalize (((((X.setIfInBounds 114 (vs 0)).setIfInBounds 115 (vs 1)).setIfInBounds 116 (vs 2)).setIfInBounds 117 (vs 3)).setIfInBounds 118 (vs 4)).setIfInBounds 119 (vs 5) = Y at *
    generalize vs 3 = v3 at *
    generalize vs 5 = v5 at *
    subst hvs
    refine wpList_plain rfl fun K hK => ?_
    have e117 : Act.eval { tmps := Y, defers := df } (.tmp 117) = v3 := hY117
    have e119 : Act.eval { tmps := Y, defers := df } (.tmp 119) = v5 := hY119
    unfold Oper.wp execOp
    simp only [resolve, invoke, builtin, Sem.run_bind, Sem.run_pure, Result.andThen_ok, List.map_toArray, List.map_cons, List.map_nil, e117, e119, hr]
    refine hK _ _ ?_
    clear hK K e117 e119 hr hY117 hY119
    have hZ2 : (Y.setIfInBounds 120 (.slice vo (L ++ [p]).length vc)).getD 2 undef = .pointer (some ⟨g, 0, none⟩) := by
      rw [Array.getD_eq_getD_getElem?, Array.getElem?_setIfInBounds_ne (by decide), ← Array.getD_eq_getD_getElem?]; exact hY2
    have hZs : (Y.setIfInBounds 120 (.slice vo (L ++ [p]).length vc)).size = 123 := by simp [hYs]
    have hZ120 : (Y.setIfInBounds 120 (.slice vo (L ++ [p]).length vc)).getD 120 undef = .slice vo (L ++ [p]).length vc := by
      rw [Array.getD_eq_getD_getElem?, Array.getElem?_setIfInBounds_self_of_lt (by omega)]; rfl
    show wpList _ _ _ _ { tmps := Y.setIfInBounds 120 (.slice vo (L ++ [p]).length vc), defers := df } W'
    generalize Y.setIfInBounds 120 (.slice vo (L ++ [p]).length vc) = Z at *
    generalize (L ++ [p]).length = N at *
    clear hY2 hYs
    refine wpList_plain rfl fun K hK => ?_
    have e2 : Act.eval { tmps := Z, defers := df } (.tmp 2) = .pointer (some ⟨g, 0, none⟩) := hZ2
    have hx : Z[2]'(by omega) = .pointer (some ⟨g, 0, none⟩) := by
      rw [Array.getD_eq_getD_getElem?, Array.getElem?_eq_getElem (by omega)] at hZ2
      simpa using hZ2
    go_simp
    refine hK _ _ ?_
    clear hK K e2 hx
    have hU121 : (Z.setIfInBounds 121 (.pointer (some ⟨g, 2, none⟩))).getD 121 undef = .pointer (some ⟨g, 2, none⟩) := by
      rw [Array.getD_eq_getD_getElem?, Array.getElem?_setIfInBounds_self_of_lt (by omega)]; rfl
    have hU120 : (Z.setIfInBounds 121 (.pointer (some ⟨g, 2, none⟩))).getD 120 undef = .slice vo N vc := by
      rw [Array.getD_eq_getD_getElem?, Array.getElem?_setIfInBounds_ne (by decide), ← Array.getD_eq_getD_getElem?]; exact hZ120
    have hUs : (Z.setIfInBounds 121 (.pointer (some ⟨g, 2, none⟩))).size = 123 := by simp [hZs]
    have hfin2 := Lib.hid (hfin.out (.pointer (some ⟨g, 2, none⟩)))
    clear hfin
    generalize Z.setIfInBounds 121 (.pointer (some ⟨g, 2, none⟩)) = U at *
    have hx121 : U[121]'(by omega) = .pointer (some ⟨g, 2, none⟩) := by
      rw [Array.getD_eq_getD_getElem?, Array.getElem?_eq_getElem (by omega)] at hU121
      simpa using hU121
    have hx120 : U[120]'(by omega) = .slice vo N vc := by
      rw [Array.getD_eq_getD_getElem?, Array.getElem?_eq_getElem (by omega)] at hU120
      simpa using hU120
    clear hZ2 hZs hZ120 hU121 hU120
    refine wpList_plain rfl fun K hK => ?_
    go_simp
    exact hK _ _ hfin2.out
end Go.Proofs.Ytemfecdpjegocaa
