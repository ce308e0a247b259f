/- rlp.Put. -/
import Derived.Test.YtopfpfpefljkkaaRlpPutS
import Derived.Test.YtopfpfpefljkkaaBar
import Derived.Laws.OwnMore
import Derived.Laws.AppendOwnNone
namespace Go.Proofs.Ytopfpfpefljkkaa
open Go.RowKit
set_option linter.unusedVariables false
set_option linter.unusedSimpArgs false

/-- The state at the loop's head. -/
def PutSt (w4 w : World) (B1 : Nat) (E : List UInt8) (vr : Value) (st : List PF) : Prop := st ≠ [] ∧ PInv w4 w B1 vr st ∧ pfin st = E
/-- What Put makes at first. -/
theorem put_ini {w w3 w4 : World} {x : Rose IL} {v : Value} {B0 : Nat} (hv : ISubsQ w (fun c => c < B0) v x.sub) (hx : x.lab.text.length ≤ maxLen) (hB0 : B0 ≤ w.heap.size) (h3 : w.alloc (.cells #[.string (txt x.lab), .bool x.lab.list, v] IT) = w3)
    (h4 : w3.alloc (.cells #[.slice (some ⟨w.heap.size, 0, none⟩) 1 1, .slice none 0 0] LT) = w4) :
    PutSt w4 w4 (w.heap.size + 1) (enc x) (.slice (some ⟨w.heap.size + 1, 0, none⟩) 1 1) [⟨.slice (some ⟨w.heap.size, 0, none⟩) 1 1, [x], .slice none 0 0, [], w.heap.size + 2⟩] ∧ Below w.heap.size w w4 := by
  obtain ⟨g, hg⟩ : ∃ g, w.heap.size = g := ⟨_, rfl⟩
  rw [hg] at h4 hB0 ⊢
  have s3 : w3.heap.size = g + 1 := by rw [← h3]; simp; omega
  have s4 : w4.heap.size = g + 2 := by rw [← h4]; simp; omega
  have b3 : Below g w w3 := by rw [← h3, ← hg]; exact (Below.refl _ w).alloc (Nat.le_refl _) _
  have b4 : Below (g + 1) w3 w4 := by rw [← h4, ← s3]; exact (Below.refl _ w3).alloc (Nat.le_refl _) _
  have k3 : Blk w3 g #[.string (txt x.lab), .bool x.lab.list, v] IT := by have := Blk.new w #[.string (txt x.lab), .bool x.lab.list, v] IT; rw [h3, hg] at this; exact this
  have k3' := Below.blk b4 k3 (by omega)
  have k4 : Blk w4 (g + 1) #[.slice (some ⟨g, 0, none⟩) 1 1, .slice none 0 0] LT := by have := Blk.new w3 #[.slice (some ⟨g, 0, none⟩) 1 1, .slice none 0 0] LT; rw [h4, s3] at this; exact this
  have hbe : Below g w w4 := b3.trans (b4.mono (by omega))
  have hv4 : ISubsQ w4 (fun c => c < g + 1) v x.sub := Shape.Subs.keep hv hbe.size (fun c _ hc => by show c < g + 1; omega) fun c hc hq => hbe.block c (by omega)
  have hsub : ISubsQ w4 (fun c => c < g + 1) (.slice (some ⟨g, 0, none⟩) 1 1) [x] := by
    refine ⟨some ⟨g, 0, none⟩, 1, rfl, Nat.le_refl _, by decide, fun _ => ⟨g, 0, rfl, by omega, by omega, ?_⟩⟩
    simp only [Shape.RowAt]
    refine ⟨?_, trivial⟩
    cases x with
    | node a s =>
      simp only [Shape.NodeAt]
      refine ⟨hx, v, fun j hj => ?_, hv4⟩
      rw [k3'.cell]
      have : j < 3 := hj
      match j, this with
      | 0, _ => rfl
      | 1, _ => rfl
      | 2, _ => rfl
  refine ⟨⟨by simp, ⟨?_, ⟨by show g + 1 ≤ g + 2; omega, by show g + 2 ≤ _; omega, OwnB.nil _ _ _, fun b hb => by simp [Value.ownBlock] at hb, hsub, trivial⟩, Below.refl _ _, by omega⟩, ?_⟩, hbe⟩
  · exact OwnG.of (f := pf2) (k := 2) (L := [⟨.slice (some ⟨g, 0, none⟩) 1 1, [x], .slice none 0 0, [], g + 2⟩]) (by omega) k4 (by simp) (by decide) rfl pf2_len rfl
  · simp [pfin, pup, encL]

theorem pst_close {x y : PF} {xs : List PF} {E : List UInt8} (h : pfin (x :: y :: xs) = E) (hx : x.s = []) {bv : Value} : pfin ({ y with bv := bv, l := y.l ++ hdr 192 x.l.length ++ x.l } :: xs) = E := by
  rw [← h]
  simp [pfin, pup, hx, encL]
theorem pst_text {x : PF} {xs : List PF} {E : List UInt8} {a : IL} {sub s : List (Rose IL)} (h : pfin (x :: xs) = E) (hx : x.s = .node a sub :: s) (ha : a.list = false) {iv bv : Value} :
    pfin (⟨iv, s, bv, x.l ++ (if single a.text then a.text else hdr 128 a.text.length ++ a.text), x.B⟩ :: xs) = E := by
  rw [← h]
  simp [pfin, hx, encL, enc_node, ha]
theorem pst_list {x : PF} {xs : List PF} {E : List UInt8} {a : IL} {sub s : List (Rose IL)} (h : pfin (x :: xs) = E) (hx : x.s = .node a sub :: s) (ha : a.list = true) {iv v2 : Value} {B2 : Nat} :
    pfin (⟨v2, sub, .slice none 0 0, [], B2⟩ :: { x with iv := iv, s := s } :: xs) = E := by
  rw [← h]
  simp [pfin, pup, hx, encL, enc_node, ha]
theorem pup_depth : ∀ (st : List PF) (b : List UInt8), st.length ≤ (pup st b).length
  | [], b => Nat.zero_le _
  | x :: xs, b => by
    have key : ∀ (st : List PF) (b : List UInt8), b.length + st.length ≤ (pup st b).length := by
      intro st
      induction st with
      | nil => intro b; simp [pup]
      | cons z zs ih =>
        intro b
        have h1 := ih (z.l ++ (hdr 192 b.length ++ b) ++ encL z.s)
        have h2 := hdr_pos 192 b.length
        simp only [List.length_append] at h1
        simp only [pup, List.length_cons]
        omega
    have := key (x :: xs) b
    omega
theorem pfin_depth {x : PF} {xs : List PF} : xs.length ≤ (pfin (x :: xs)).length := pup_depth xs _
/-- 'append(b, c...)' of bytes that lie in a row of one's own. -/
theorem append_row {P : Program} {t e s : TypeId} (T : ByteTypes P t e s) {ops : Array Oper} {rest : List Oper} {o : Oper} {a : Act} {Q : Exit → Act → World → Prop} (hgd : o.guard = none) (x y : Operand)
    (ho : o.op = .call { callee := .builtin .append, args := #[x, y], argTypes := #[t, t] })
    (B B' : Nat) (v u : Value) (l m : List UInt8) (w : World) (hx : a.eval x = v) (hown : OwnB w B e v l) (hu : OwnB w B' e u m)
    (hy : a.eval y = u) (hlen : l.length + m.length ≤ 140737488355328) (hB : B ≤ w.heap.size)
    (h : ∀ v' w', OwnB w' B e v' (l ++ m) → w.grownBy w' v.ownBlock → wpList P ops Q rest (a.put o.dst v') w') :
    wpList P ops Q (o :: rest) a w := by
  obtain ⟨i0, hi, hz0, hz1, hz2⟩ := info_parts T.hi
  rcases hu.2 with ⟨hn, h0⟩ | ⟨g, cap, cur, hv, hb, hg, hcap, hm, hsz, htake⟩
  · have hm0 : m = [] := List.length_eq_zero_iff.1 h0
    subst hm0
    refine wpList_append_own_none hgd x y t ho B e i0 1 T.ht hi v l.length (bcells l) hx hown (by rw [hy, hn]) ?_
    exact h v w (by rw [List.append_nil]; exact hown) ⟨rfl, rfl, rfl, Nat.le_refl _, fun _ _ _ => rfl⟩
  · refine wpList_append_own _ hgd x y t ho B e i0 (.int .u8 0) 1 1 T.ht hi hz0 hz1 hz2 rfl (by decide) v l.length (bcells l) hx hown ⟨g, 0, none⟩ m.length cap (bcells m) (by rw [hy, hv]) (by simp)
      (World.ownsRow.cells hu (by rw [hv]; rfl)) (bcells_one m) (by unfold maxLen; omega) (by omega) hB ?_
    intro v' w' h1 h2 _
    refine h v' w' ?_ h2
    show w'.ownsRow B e 1 v' (l ++ m).length (bcells (l ++ m))
    rw [List.length_append, bcells_append]; exact h1
theorem far_two {w w5 w6 : World} {B : Nat} {v v' : Value} {l l' : List UInt8} (h : OwnB w B U8 v l) (hg : w.grownBy w5 v.ownBlock) (h' : OwnB w5 B U8 v' l') (hg' : w5.grownBy w6 v'.ownBlock) :
    ∀ c, c < w.heap.size → (c < B ∨ ∃ cs, Blk w c cs LT) → w6.heap[c]? = w.heap[c]? := fun c hc hh => by
  have h1 := h.far hg c hc hh
  have h2 := h'.far hg' c (Nat.lt_of_lt_of_le hc hg.size) (hh.imp id fun ⟨cs, hb⟩ => ⟨cs, by unfold Blk; rw [h1]; exact hb⟩)
  rw [h2, h1]
theorem cell_of_heap {w w' : World} {b : Nat} (h : w'.heap[b]? = w.heap[b]?) (i : Nat) : w'.cell? ⟨b, i, none⟩ = w.cell? ⟨b, i, none⟩ ∧ w'.frozen? ⟨b, i, none⟩ = w.frozen? ⟨b, i, none⟩ :=
  ⟨World.cell?_of_block (w := w) (a := ⟨b, i, none⟩) h, World.frozen?_of_block (w := w) (a := ⟨b, i, none⟩) h⟩
theorem pmeas_close {y y2 : PF} {zs : List PF} {bv : Value} {l : List UInt8} : pmeas ({ y2 with bv := bv, l := l } :: zs) < pmeas (y :: y2 :: zs) := by
  simp [pmeas]; omega
theorem subs_tail {w : World} {Q : Nat → Prop} {b off n c : Nat} {y : Rose IL} {s : List (Rose IL)} (h : ISubsQ w Q (.slice (some ⟨b, off, none⟩) (n + 1) c) (y :: s)) : ISubsQ w Q (.slice (some ⟨b, off + 3, none⟩) n (c - 1)) s := by
  obtain ⟨oa, cap, e, h1, h2, h3⟩ := h
  have hl : n = s.length := by
    injection e with _ e _
    simpa using e
  subst hl
  injection e with e1 _ e3
  subst e1 e3
  obtain ⟨b', o', e', hb, hq, hr⟩ := h3 (by simp)
  injection e' with e'
  injection e' with e4 e5
  subst e4 e5
  simp only [Shape.RowAt] at hr
  exact ⟨_, _, rfl, by simp at h1; omega, by omega, fun hn => ⟨_, _, rfl, hb, hq, hr.2⟩⟩

theorem row_B {w : World} {B : Nat} {v : Value} {L : List PF} {f f' : PF} (h : OwnG pf2 2 w B LT v (L ++ [f])) (h1 : f.iv = f'.iv) (h2 : f.bv = f'.bv) : OwnG pf2 2 w B LT v (L ++ [f']) := by
  unfold OwnG at *
  have e : (L ++ [f]).flatMap pf2 = (L ++ [f']).flatMap pf2 := by simp [pf2, h1, h2]
  rw [e] at h
  simpa using h
theorem pmeas_list {y : PF} {ys : List PF} {a : IL} {sub s : List (Rose IL)} (hy : y.s = .node a sub :: s) {v2 iv bv : Value} {l : List UInt8} {B2 : Nat} : pmeas (⟨v2, sub, bv, l, B2⟩ :: { y with iv := iv, s := s } :: ys) < pmeas (y :: ys) := by
  simp [pmeas, hy, Rose.countL, Rose.count]; omega
theorem pmeas_text {y : PF} {ys : List PF} {a : IL} {sub s : List (Rose IL)} (hy : y.s = .node a sub :: s) {iv bv : Value} {l : List UInt8} {B2 : Nat} : pmeas (⟨iv, s, bv, l, B2⟩ :: ys) < pmeas (y :: ys) := by
  simp [pmeas, hy, Rose.countL, Rose.count]; omega
/-- 'append(b, s...)' at a step of a region that draws its order. -/
theorem step_append_text {P : Program} {t e s : TypeId} (T : ByteTypes P t e s) {ops : Array Oper} {o : Oper} {a : Act} {K : Act → World → Prop} {Q : Exit → Act → World → Prop} {E : Prop} (hgd : o.guard = none) (x y : Operand)
    (ho : o.op = .call { callee := .builtin .append, args := #[x, y], argTypes := #[t, s] })
    (B : Nat) (v : Value) (l : List UInt8) (S : ByteArray) (w : World) (hx : a.eval x = v) (hown : OwnB w B e v l)
    (hy : a.eval y = .string S) (hlen : l.length + S.size ≤ 140737488355328) (hB : B ≤ w.heap.size)
    (h : ∀ v' w', OwnB w' B e v' (l ++ S.data.toList) → w.grownBy w' v.ownBlock → K (a.put o.dst v') w') :
    if Region.wanted o (yielded ops a.tmps) = true then Oper.wp P o a w K Q else E := by
  have hw : Region.wanted o (yielded ops a.tmps) = true := by simp [Region.wanted, hgd]
  rw [if_pos hw]
  obtain ⟨i0, hi, hz0, hz1, hz2⟩ := info_parts T.hi
  obtain ⟨v', w', hr, h1, h2, _⟩ := Lib.run_append_own_string (P := P) w B t s o.type e i0 T.ht T.hs hi hz0 hz1 hz2 v l.length (bcells l) hown S (by unfold maxLen; omega) (by omega) hB
  unfold Oper.wp execOp
  simp only [ho, resolve, invoke, builtin, Sem.run_bind, Sem.run_pure, Result.andThen_ok, List.map_toArray, List.map_cons, List.map_nil, hx, hy]
  rw [hr]
  refine h v' w' ?_ h2
  have e1 : Lib.strCells S = bcells S.data.toList := by simp [Lib.strCells, bcells]
  show w'.ownsRow B e 1 v' (l ++ S.data.toList).length (bcells (l ++ S.data.toList))
  rw [List.length_append, bcells_append, ← e1]
  have e2 : S.data.toList.length = S.size := by simp
  rw [e2]; exact h1
theorem subs_tail2 {w : World} {Q : Nat → Prop} {b off n c : Nat} {y : Rose IL} {s : List (Rose IL)} (h : ISubsQ w Q (.slice (some ⟨b, off, none⟩) (n + 1) c) (y :: s)) :
    ISubsQ w Q (.slice (if c = 1 then some ⟨b, off, none⟩ else some ⟨b, off + 3, none⟩) n (c - 1)) s := by
  by_cases h1 : c = 1
  · rw [if_pos h1]
    obtain ⟨oa, cap, e, h2, h3, _⟩ := h
    have hl : n = s.length := by
      injection e with _ e _
      simpa using e
    injection e with _ _ e3
    subst e3 hl
    have : s.length = 0 := by simp at h2; omega
    exact ⟨_, _, rfl, by omega, by omega, fun hn => by omega⟩
  · rw [if_neg h1]; exact subs_tail h

set_option maxRecDepth 100000 in
set_option maxHeartbeats 8000000 in
theorem rlp_put_ok (x : Rose IL) (w : World) (v : Value) (hv : ISubs w v x.sub) (hx : x.lab.text.length ≤ maxLen) (hm : mayI x = true) (hE : (enc x).length ≤ 100000) :
    Calls Try.prog 16 #[.agg #[.string (txt x.lab), .bool x.lab.list, v]] w fun e w' => e = .returned (.tuple #[.string ⟨(enc x).toArray⟩, .int .i64 0]) ∧ Below w.heap.size w w' := by
  have HW := Lib.hid (box_item (T := txt x.lab) (l := x.lab.list) (t := IT) hv)
  have HV := Lib.hid hv
  obtain ⟨oa, cap, rfl, hcap, hml⟩ := ISubsQ.slice hv
  obtain ⟨g, hg⟩ : ∃ g, w.heap.size = g := ⟨_, rfl⟩
  have CM := Lib.hid (fun (W : World) (h : ISubs W (.slice oa x.sub.length cap) x.sub) => item_may x W _ h)
  rw [hm] at CM
  obtain ⟨E, hEE⟩ : ∃ E, enc x = E := ⟨_, rfl⟩
  rw [hEE] at hE ⊢
  have HX := Lib.hid hx
  have HEE := Lib.hid hEE
  obtain ⟨M, hM⟩ : ∃ M, x.sub.length = M := ⟨_, rfl⟩
  rw [hg] at HW ⊢
  rw [hM] at HW CM HV ⊢
  clear hv hcap hml hx hm hEE hM
  go_enter Try.func16, Try.ntmps16
  go_upto_region 1 with fail
  generalize w.alloc (.cells #[.string (txt x.lab), .bool x.lab.list, .slice oa M cap] IT) = w1 at *
  obtain ⟨hb1, ht1, hsz, c0, c1, c2, _⟩ := HW.out _ rfl
  have HT := Lib.hid ht1
  have HB := Lib.hid hb1
  have hsz1 : w1.heap.size = g + 1 := hsz
  clear HW ht1 hb1 hsz
  go_wp2_with fail
  refine (CM.out _ HT.out).mono ?_
  rintro e w2 ⟨rfl, hb2⟩
  have d0 := (hb2.cell (p := ⟨g, 0, none⟩) (show g < w1.heap.size by omega)).trans c0
  have d1 := (hb2.cell (p := ⟨g, 1, none⟩) (show g < w1.heap.size by omega)).trans c1
  have d2 := (hb2.cell (p := ⟨g, 2, none⟩) (show g < w1.heap.size by omega)).trans c2
  have HV2 : Hid (ISubsQ w2 (fun c => c < g) (.slice oa M cap) x.sub) := Lib.hid (by
    have h2 := HB.out.trans (hb2.mono (show g ≤ w1.heap.size by omega))
    exact Shape.Subs.keep HV.out h2.size (fun c hc _ => by omega) fun c hc _ => h2.block c (by omega))
  have HB2 := Lib.hid (HB.out.trans (hb2.mono (show g ≤ w1.heap.size by omega)))
  have hgw2 : g + 1 ≤ w2.heap.size := by have := hb2.size; omega
  clear hb2 CM
  have HINI : Hid (∀ w3 w4, w2.alloc (.cells #[.string (txt x.lab), .bool x.lab.list, .slice oa M cap] IT) = w3 → w3.alloc (.cells #[.slice (some ⟨w2.heap.size, 0, none⟩) 1 1, .slice none 0 0] LT) = w4 → _) := Lib.hid fun w3 w4 h3 h4 => put_ini HV2.out HX.out (by omega : g ≤ w2.heap.size) h3 h4
  rw [HEE.out] at HINI
  clear c0 c1 c2
  go_wp2_with fail
  have hini := HINI.out _ _ rfl rfl
  generalize (w2.alloc (.cells #[.string (txt x.lab), .bool x.lab.list, .slice oa M cap] IT)).alloc (.cells #[.slice (some ⟨w2.heap.size, 0, none⟩) 1 1, .slice none 0 0] LT) = w4 at *
  obtain ⟨hst0, hbe4⟩ := hini
  have HST0 := Lib.hid hst0
  have HBE4 := Lib.hid (HB2.out.trans (hbe4.mono (by omega)))
  obtain ⟨B1, hB1⟩ : ∃ B1, w2.heap.size + 1 = B1 := ⟨_, rfl⟩
  have hgB1 : g ≤ B1 := by omega
  rw [hB1] at HST0
  have HBB1 := Lib.hid hB1
  clear hB1
  clear hst0 hbe4 HINI HV2 HT
  obtain ⟨meas, hmeas⟩ := least_fn (fun (z : Value × World) n => ∃ st, PutSt w4 z.2 B1 E z.1 st ∧ pmeas st = n)
  have HME := Lib.hid hmeas
  clear hmeas
  go_loopw [5] (fun vr wi => ∃ st, Hid (PutSt w4 wi B1 E vr st)) (fun vr wi => meas (vr, wi))
  case atStart => exact ⟨_, by rw [← HBB1.out]; rw [← HBB1.out] at HST0; exact HST0⟩
  case round =>
    obtain ⟨st0, HS0⟩ := hrel
    obtain ⟨⟨st, hst, hmst⟩, _⟩ := HME.out (_, _) _ ⟨st0, HS0.out, rfl⟩
    simp only at hst
    have HMST := Lib.hid hmst
    clear hmst HS0
    cases st with
    | nil => exact absurd rfl hst.1
    | cons y ys =>
      obtain ⟨N, hN⟩ : ∃ N, ys.length = N := ⟨_, rfl⟩
      obtain ⟨go, cr, hvr, r0, r1, z0, z1, hcr⟩ := pinv_cells hst.2.1 hN
      subst hvr
      have hlen := pfin_le (x := y) (xs := ys)
      rw [hst.2.2] at hlen
      obtain ⟨a1, a2, a3, a4, a5, a6⟩ := hst.2.1.lev
      obtain ⟨io, ic, hiv, hic, hicm⟩ := ISubsQ.slice a5
      obtain ⟨bo, bc, hbv⟩ := a3.slice
      have HST := Lib.hid hst
      have HNN := Lib.hid hN
      have HLEN := Lib.hid hlen
      have HOWN := Lib.hid a3
      have HIT := Lib.hid a5
      have HA := Lib.hid (And.intro a1 a2)
      have hN16 : N ≤ 100000 := by have := pfin_depth (x := y) (xs := ys); rw [hst.2.2, hN] at this; omega
      rw [hiv] at r0
      rw [hbv] at r1
      have HIV := Lib.hid hiv
      have HBV := Lib.hid hbv
      clear hst hN hlen a1 a2 a3 a4 a5 a6 hiv hbv
      cases hys : y.s with
      | nil =>
        rw [hys] at r0
        simp only [List.length_nil] at r0
        by_cases hN0 : N = 0
        · subst hN0
          have hys0 : ys = [] := List.length_eq_zero_iff.1 HNN.out
          have hEl : y.l = E := by
            have := HST.out.2.2
            rw [hys0] at this
            simpa [pfin, pup, hys, encL] using this
          have hst2 := (HOWN.out).string btf
          rw [HBV.out] at hst2
          have HEl := Lib.hid hEl
          have HF : Hid (Below g w wr) := Lib.hid (HBE4.out.trans (HST.out.2.1.bel.mono hgB1))
          clear hys0 hEl
          go_wp2_with fail
          go_returns
          exact ⟨by rw [← HEl.out]; rfl, HF.out⟩
        · obtain ⟨y2, zs, rfl⟩ : ∃ y2 zs, ys = y2 :: zs := by
            cases ys with
            | nil => exact absurd HNN.out.symm hN0
            | cons a b => exact ⟨a, b, rfl⟩
          obtain ⟨N2, rfl⟩ : ∃ N2, N = N2 + 1 := ⟨N - 1, by omega⟩
          have hN2 : zs.length = N2 := by have := HNN.out; simpa using this
          have hpop := HST.out.2.1.pop HNN.out
          obtain ⟨go', cr', he, q0, q1, z2, z3, _⟩ := pinv_cells hpop hN2
          injection he with he1 _ he2
          injection he1 with he1
          injection he1 with he1
          subst he1 he2
          obtain ⟨b1, b2, b3, b4, _, _⟩ := HST.out.2.1.lev.2.2.2.2.2
          have hl2 : y2.l.length ≤ 100000 := by have := HLEN.out.2 y2 (List.mem_cons_self ..); omega
          have hl1 : y.l.length ≤ 100000 := by have := HLEN.out.1; omega
          have hBw : y2.B ≤ wr.heap.size := by have := HA.out.2; omega
          have CH := Lib.hid (put_head 192 y.l.length y2.B y2.bv y2.l wr (.inr rfl) (by omega) b3 (by omega) hBw)
          obtain ⟨bo2, bc2, hbv2⟩ := b3.slice
          have HB3 := Lib.hid b3
          have HB4 := Lib.hid b4
          have HPOP := Lib.hid hpop
          have hgo : ∃ cs, Blk wr go cs LT := by obtain ⟨_, _, cs, h⟩ := hpop.row.block go rfl; exact ⟨cs, h⟩
          have HGO := Lib.hid hgo
          rw [hbv2] at q1
          have HBV2 := Lib.hid hbv2
          rw [hbv2] at CH
          have hhl := hdr_le 192 y.l.length (by omega)
          clear hpop b1 b2 b3 b4 hbv2 hgo
          go_upto_region 12 with fail
          go_wp2_with fail
          refine CH.out.mono ?_
          rintro e w5 ⟨v5, rfl, hown5, hg5⟩
          obtain ⟨cs, hgb⟩ := HGO.out
          have hgo5 := cell_of_heap (HB3.out.far (by rw [HBV2.out]; exact hg5) go hgb.lt (.inr ⟨cs, hgb⟩))
          have hinner : OwnB w5 y.B U8 y.bv y.l := HOWN.out.keep fun b cs' hb hB => hg5.block b hB.lt fun e => by
            have h1 := HB4.out b (by rw [HBV2.out]; exact e.symm)
            have h2 := (HOWN.out.form b hb).1
            omega
          rw [HBV.out] at hinner
          have hB5 : y2.B ≤ w5.heap.size := Nat.le_trans hBw hg5.size
          have HF5 := Lib.hid (And.intro hown5 hg5)
          have HINN := Lib.hid hinner
          clear hown5 hg5 hinner hgb hgo5
          go_wp2_with (at_builtin; go_loud (refine append_row btf rfl _ _ rfl y2.B y.B v5 (.slice bo y.l.length bc) (y2.l ++ hdr 192 y.l.length) y.l w5 rfl HF5.out.1 HINN.out rfl (by simp; omega) hB5 ?_); intro v6 w6 hown6 hg6; obtain ⟨so6, nl6, sc6, hv6⟩ : ∃ so n sc, v6 = .slice so n sc := (by obtain ⟨a, b, h⟩ := hown6.slice; exact ⟨a, _, b, h⟩); subst hv6; have HF6 := Lib.hid (And.intro hown6 hg6); obtain ⟨cs, hgb⟩ := HGO.out; have hk6 := far_two HB3.out (by rw [HBV2.out]; exact HF5.out.2) HF5.out.1 hg6; have h6 := cell_of_heap (hk6 go hgb.lt (.inr ⟨cs, hgb⟩)) (N2 * 2 + 1); have k0 := h6.1.trans q1; have k1 := h6.2.trans z3; have HK6 := Lib.hid hk6; clear hown6 hg6 hgb hk6 h6)
          have hb5 := HF5.out.2
          have hb6 := HF6.out.2
          have hsz56 : wr.heap.size ≤ w6.heap.size := Nat.le_trans hb5.size hb6.size
          have hnew := PInv.bytes (x := y2) (xs := zs) (N := N2) HPOP.out hN2 (l := y2.l ++ hdr 192 y.l.length ++ y.l) HF6.out.1 hsz56 ⟨hb6.os.trans hb5.os, hb6.tape.trans hb5.tape, hb6.output.trans hb5.output⟩ HK6.out
          have hfin := pst_close (x := y) (y := y2) (xs := zs) HST.out.2.2 hys (bv := .slice so6 nl6 sc6)
          have HNEW := Lib.hid (show PutSt w4 _ B1 E _ _ from ⟨by simp, hnew, hfin⟩)
          clear hnew hfin hb5 hb6
          go_roundw
          case rel => exact ⟨_, HNEW⟩
          case measure =>
            have h1 := (HME.out (_, _) _ ⟨_, HNEW.out, rfl⟩).2
            have h2 := HMST.out
            have h3 := pmeas_close (y := y) (y2 := y2) (zs := zs) (bv := .slice so6 nl6 sc6) (l := y2.l ++ hdr 192 y.l.length ++ y.l)
            rw [h2] at h3
            exact Nat.lt_of_le_of_lt h1 h3
      | cons t s' =>
        rw [hys] at r0
        simp only [List.length_cons] at r0
        obtain ⟨a, sub⟩ := t
        have hit := HIT.out
        rw [HIV.out, hys] at hit
        simp only [List.length_cons] at hit
        obtain ⟨b, off, u, he0, hblt, hbB, i0, i1, i2, hu, hal⟩ := ISubsQ.at_ hit (i := 0) (x := .node a sub) rfl
        subst he0
        simp only [Nat.zero_mul, Nat.add_zero, Rose.lab_node, Rose.sub_node] at i0 i1 i2 hu hal
        obtain ⟨uo, uc, hu1, huc, _⟩ := ISubsQ.slice hu
        obtain ⟨un, hun⟩ : ∃ un, sub.length = un := ⟨_, rfl⟩
        rw [hun] at hu1
        subst hu1
        obtain ⟨ns, hns⟩ : ∃ ns, s'.length = ns := ⟨_, rfl⟩
        have HNS := Lib.hid hns
        rw [hns] at r0 hit
        have hit2 := subs_tail2 hit
        obtain ⟨oA, hoA⟩ : ∃ oA, (if ic = 1 then (some ⟨b, off, none⟩ : Option Addr) else some ⟨b, off + 3, none⟩) = oA := ⟨_, rfl⟩
        rw [hoA] at hit2
        have HIT2 := Lib.hid hit2
        clear hit2
        have HU := Lib.hid hu
        have hic1 : ns + 1 ≤ ic := by rw [hys] at hic; simp at hic; omega
        have HYS := Lib.hid hys
        have HA5 : Hid (∀ W, wr.alloc (.cells #[.string (txt a), .bool a.list, .slice uo un uc] IT) = W → PInv w4 W B1 (.slice (some ⟨go, 0, none⟩) (N + 1) cr) (y :: ys) ∧ Blk W wr.heap.size #[.string (txt a), .bool a.list, .slice uo un uc] IT ∧ Below wr.heap.size wr W) := Lib.hid fun W h => by
          subst h
          have hal := (Below.refl _ wr).alloc (Nat.le_refl _) (.cells #[.string (txt a), .bool a.list, .slice uo un uc] IT)
          exact ⟨HST.out.2.1.below hal, Blk.new wr _ _, hal⟩
        clear hu hit hys hic huc hun hns
        go_upto_region 14 with fail
        generalize wr.alloc (.cells #[.string (txt a), .bool a.list, .slice uo un uc] IT) = w5 at *
        obtain ⟨hp5, hblk5, hbe5⟩ := HA5.out _ rfl
        obtain ⟨go', cr', he, q0, q1, z2, z3, _⟩ := pinv_cells hp5 HNN.out
        injection he with he1 _ he2
        injection he1 with he1
        injection he1 with he1
        subst he1 he2
        obtain ⟨hgB, csg, hgb⟩ := go_blk hp5.row
        have hne : go ≠ wr.heap.size := by
          rintro rfl
          unfold Blk at hgb hblk5
          rw [hblk5] at hgb
          injection hgb with hgb
          injection hgb with _ hgb _
          exact absurd hgb (by decide)
        have hne' : wr.heap.size ≠ go := fun h => hne h.symm
        have HIT5 : Hid (ISubsQ w5 (fun c => c < B1) (.slice oA ns (ic - 1)) s') := Lib.hid (Shape.Subs.below HIT2.out hbe5)
        have HU5 : Hid (ISubsQ w5 (fun c => c < B1) (.slice uo un uc) sub) := Lib.hid (Shape.Subs.below HU.out hbe5)
        have HP5 := Lib.hid hp5
        have HB5 := Lib.hid hblk5
        have n0 := hblk5.cell 0
        have n1 := hblk5.cell 1
        have n2 := hblk5.cell 2
        simp only [List.getElem?_toArray, List.getElem?_cons_zero, List.getElem?_cons_succ] at n0 n1 n2
        rw [HIV.out, HYS.out] at q0
        simp only [List.length_cons, HNS.out] at q0
        rw [HBV.out] at q1
        clear hp5 hblk5 hbe5 HA5 hgb hgB r0 r1 z0 z1 i0 i1 i2
        have HP6 := Lib.hid (HP5.out.items HNN.out HIT5.out)
        have HGH : Hid (∀ i v, (w5.setCell ⟨go, i, none⟩ v).heap[wr.heap.size]? = w5.heap[wr.heap.size]?) := Lib.hid fun i v => Below.heap_setCell _ _ _ _ hne'
        have q1' : (w5.setCell ⟨go, N * 2, none⟩ (.slice oA ns (ic - 1))).cell? ⟨go, N * 2 + 1, none⟩ = some (.slice bo y.l.length bc) := by
          obtain ⟨_, _, e, _, e2, _⟩ := pinv_cells HP6.out HNN.out
          injection e with e _ _
          injection e with e
          injection e with e
          subst e
          rw [e2]
          exact congrArg some HBV.out
        have HP6b : Hid (Blk (w5.setCell ⟨go, N * 2, none⟩ (.slice oA ns (ic - 1))) wr.heap.size #[.string (txt a), .bool a.list, .slice uo un uc] IT) := Lib.hid (HB5.out.setOther (a := ⟨go, N * 2, none⟩) hne' _)
        have HU6 : Hid (ISubsQ (w5.setCell ⟨go, N * 2, none⟩ (.slice oA ns (ic - 1))) (fun c => c < B1) (.slice uo un uc) sub) := Lib.hid (Shape.Subs.keep HU5.out (by simp [World.setCell]) (fun _ _ h => h) fun c _ hc => Below.heap_setCell _ _ _ _ (fun e => by
          have h1 := (go_blk HP5.out.row).1
          have : c < B1 := hc
          simp only at e
          omega))
        go_upto_region 15 with fail
        generalize w5.setCell ⟨go, N * 2, none⟩ (.slice oA ns (ic - 1)) = w6 at *
        have m0 := HP6b.out.cell 0
        have m1 := HP6b.out.cell 1
        have m2 := HP6b.out.cell 2
        simp only [List.getElem?_toArray, List.getElem?_cons_zero, List.getElem?_cons_succ] at m0 m1 m2
        clear q0 q1 z2 z3 n0 n1 n2
        cases hal2 : a.list with
        | true =>
          rw [hal2] at m1
          have HRL : Hid (({ y with iv := .slice oA ns (ic - 1), s := s' } :: ys : List PF).reverse.length = N + 1) := Lib.hid (by simp [HNN.out])
          have hB16 : B1 ≤ w6.heap.size := HP6.out.hB
          go_wp2_with (at_builtin; go_loud (refine wpList_append_g lt_row pf2_len rfl _ _ rfl (B := B1) (v := .slice (some ⟨go, 0, none⟩) (N + 1) cr) (L := ({ y with iv := .slice oA ns (ic - 1), s := s' } :: ys : List PF).reverse) (y := ⟨.slice uo un uc, sub, .slice none 0 0, [], 0⟩) rfl (HP6.out.row.below ((Below.refl _ w6).alloc (Nat.le_refl _) _)) rfl (Blk.new w6 #[.slice uo un uc, .slice none 0 0] LT) rfl (by simp [pf2, Value.oneCell']) (by rw [HRL.out]; omega) (by simp; omega) ?_); intro gg cap w7 hown7 hgrow7 hat7 hlt7; have HG := Lib.hid (And.intro hown7 hgrow7); rw [HRL.out]; clear hown7 hgrow7 hat7 hlt7)
          have hrow7 := HG.out.1
          rw [List.length_reverse] at hrow7
          have hnew := PInv.push (f := ⟨.slice uo un uc, sub, .slice none 0 0, [], w7.heap.size⟩) HP6.out ((Below.refl _ w6).alloc (Nat.le_refl _) _) (row_B hrow7 rfl rfl) HG.out.2 HU6.out ⟨rfl, rfl, rfl⟩
          have hfin := pst_list (x := y) (xs := ys) HST.out.2.2 HYS.out hal2 (iv := .slice oA ns (ic - 1)) (v2 := .slice uo un uc) (B2 := w7.heap.size)
          have hlr : ({ y with iv := .slice oA ns (ic - 1), s := s' } :: ys : List PF).length = N + 1 := by simp [HNN.out]
          rw [hlr] at hnew
          have HNEW := Lib.hid (show PutSt w4 _ B1 E _ _ from ⟨by simp, hnew, hfin⟩)
          clear hnew hfin hrow7 hlr
          go_roundw
          case rel => exact ⟨_, HNEW⟩
          case measure =>
            have h1 := (HME.out (_, _) _ ⟨_, HNEW.out, rfl⟩).2
            have h3 := pmeas_list (ys := ys) HYS.out (v2 := .slice uo un uc) (iv := .slice oA ns (ic - 1)) (bv := .slice none 0 0) (l := []) (B2 := w7.heap.size)
            rw [HMST.out] at h3
            exact Nat.lt_of_le_of_lt h1 h3
        | false =>
          rw [hal2] at m1
          have hEsz := HLEN.out.1
          rw [HYS.out] at hEsz
          simp only [encL, List.length_append] at hEsz
          have hen : enc (Rose.node a sub) = (if single a.text then a.text else hdr 128 a.text.length ++ a.text) := by rw [enc_node, hal2]; simp
          rw [hen] at hEsz
          have hTl : a.text.length ≤ 100000 := by
            revert hEsz
            split
            · intro h; omega
            · intro h; rw [List.length_append] at h; omega
          have hyl : y.l.length ≤ 100000 := by omega
          have hts := txt_size a
          have hTs : (txt a).size ≤ 100000 := by omega
          have hBw6 : y.B ≤ w6.heap.size := HP6.out.lev.2.1
          have hhl := hdr_le 128 a.text.length (by omega)
          have HP6x : Hid (∃ bo nl bc, y.bv = .slice bo nl bc) := Lib.hid ⟨bo, _, bc, HBV.out⟩
          have HFIN := Lib.hid (fun iv bv => pst_text (x := y) (xs := ys) HST.out.2.2 HYS.out hal2 (iv := iv) (bv := bv))
          have HBL0 := Lib.hid hTl
          clear hEsz hen
          obtain ⟨hBgo, csg6, hgb6⟩ := go_blk HP6.out.row
          clear hne
          have csg6' := csg6
          have HO19 : Hid (OwnB w6 y.B U8 (.slice bo y.l.length bc) y.l) := Lib.hid (by have := HP6.out.lev.2.2.1; simp only at this; rw [HBV.out] at this; exact this)
          have HPX : Hid (PInv w4 w6 B1 (.slice (some ⟨go, 0, none⟩) (N + 1) cr) (⟨.slice oA ns (ic - 1), s', .slice bo y.l.length bc, y.l, y.B⟩ :: ys)) := Lib.hid (by have := HP6.out; rw [HBV.out] at this; exact this)
          have HGB19 : Hid (B1 ≤ go ∧ Blk w6 go csg6 LT) := Lib.hid ⟨hBgo, hgb6⟩
          have hB19 := hBw6
          have g1' := q1'
          have g3' : w6.frozen? ⟨go, N * 2 + 1, none⟩ = false := hgb6.free _
          have m0' := m0
          by_cases h1 : (txt a).size = 1
          · have hsg := single_txt h1
            have hsz1 : 0 < (txt a).size := by omega
            have e0 : (((txt a).size : Int) != 1) = false := by rw [h1]; rfl
            by_cases hb : (txt a)[0].toNat < 128
            · have hsing : Hid (single a.text = true) := Lib.hid (by rw [hsg]; simpa using hb)
              have e1 : decide (128 ≤ (txt a)[0].toNat) = false := by simpa using hb
              clear hsg
              go_upto_region 19 with fail
              refine wp_region_bar (S := fun w' => w'.cell? ⟨go, N * 2 + 1, none⟩ = some (.slice bo y.l.length bc) ∧ w'.cell? ⟨wr.heap.size, 0, none⟩ = some (.string (txt a))) 8 (by kernel_rfl) ⟨g1', m0'⟩ (fun hHeld => ?_)
              refine wpAnyB_take (i := 0) (oi := ?oia0) (v := ?va0) ?hia0 (by kernel_rfl) (by kernel_rfl) (by kernel_rfl) (by kernel_rfl) (by kernel_rfl) ?hQa0 (Or.inl ⟨?hwa0, ?hya0⟩) hHeld ?resta0
              case hia0 => simp only [List.getElem?_toArray, List.getElem?_cons_succ, List.getElem?_cons_zero]; rfl
              case hQa0 => exact fun _ _ _ h => h
              case hwa0 => rfl
              case hya0 => (intro w hSw; (try dsimp only at hSw); go_simp; try rfl)
              simp only [Act.put, List.setIfInBounds_toArray, List.set_cons_zero, List.set_cons_succ]
              refine wpAnyB_take (i := 1) (oi := ?oia1) (v := ?va1) ?hia1 (by kernel_rfl) (by kernel_rfl) (by kernel_rfl) (by kernel_rfl) (by kernel_rfl) ?hQa1 (Or.inl ⟨?hwa1, ?hya1⟩) hHeld ?resta1
              case hia1 => simp only [List.getElem?_toArray, List.getElem?_cons_succ, List.getElem?_cons_zero]; rfl
              case hQa1 => exact fun _ _ _ h => h
              case hwa1 => rfl
              case hya1 => (intro w hSw; (try dsimp only at hSw); go_simp; try rfl)
              simp only [Act.put, List.setIfInBounds_toArray, List.set_cons_zero, List.set_cons_succ]
              refine wpAnyB_take (i := 2) (oi := ?oia2) (v := ?va2) ?hia2 (by kernel_rfl) (by kernel_rfl) (by kernel_rfl) (by kernel_rfl) (by kernel_rfl) ?hQa2 (Or.inl ⟨?hwa2, ?hya2⟩) hHeld ?resta2
              case hia2 => simp only [List.getElem?_toArray, List.getElem?_cons_succ, List.getElem?_cons_zero]; rfl
              case hQa2 => exact fun _ _ _ h => h
              case hwa2 => rfl
              case hya2 => (intro w hSw; (try dsimp only at hSw); go_simp; try rfl)
              simp only [Act.put, List.setIfInBounds_toArray, List.set_cons_zero, List.set_cons_succ]
              refine wpAnyB_take (i := 3) (oi := ?oia3) (v := ?va3) ?hia3 (by kernel_rfl) (by kernel_rfl) (by kernel_rfl) (by kernel_rfl) (by kernel_rfl) ?hQa3 (Or.inl ⟨?hwa3, ?hya3⟩) hHeld ?resta3
              case hia3 => simp only [List.getElem?_toArray, List.getElem?_cons_succ, List.getElem?_cons_zero]; rfl
              case hQa3 => exact fun _ _ _ h => h
              case hwa3 => rfl
              case hya3 => (intro w hSw; (try dsimp only at hSw); go_simp; try rfl)
              simp only [Act.put, List.setIfInBounds_toArray, List.set_cons_zero, List.set_cons_succ]
              refine wpAnyB_take (i := 4) (oi := ?oia4) (v := ?va4) ?hia4 (by kernel_rfl) (by kernel_rfl) (by kernel_rfl) (by kernel_rfl) (by kernel_rfl) ?hQa4 (Or.inl ⟨?hwa4, ?hya4⟩) hHeld ?resta4
              case hia4 => simp only [List.getElem?_toArray, List.getElem?_cons_succ, List.getElem?_cons_zero]; rfl
              case hQa4 => exact fun _ _ _ h => h
              case hwa4 => rfl
              case hya4 => (intro w hSw; (try dsimp only at hSw); go_simp; try rfl)
              simp only [Act.put, List.setIfInBounds_toArray, List.set_cons_zero, List.set_cons_succ]
              refine wpAnyB_take (i := 5) (oi := ?oia5) (v := ?va5) ?hia5 (by kernel_rfl) (by kernel_rfl) (by kernel_rfl) (by kernel_rfl) (by kernel_rfl) ?hQa5 (Or.inl ⟨?hwa5, ?hya5⟩) hHeld ?resta5
              case hia5 => simp only [List.getElem?_toArray, List.getElem?_cons_succ, List.getElem?_cons_zero]; rfl
              case hQa5 => exact fun _ _ _ h => h
              case hwa5 => rfl
              case hya5 => (intro w hSw; (try dsimp only at hSw); go_simp; try rfl)
              simp only [Act.put, List.setIfInBounds_toArray, List.set_cons_zero, List.set_cons_succ]
              refine wpAnyB_take (i := 6) (oi := ?oia6) (v := ?va6) ?hia6 (by kernel_rfl) (by kernel_rfl) (by kernel_rfl) (by kernel_rfl) (by kernel_rfl) ?hQa6 (Or.inl ⟨?hwa6, ?hya6⟩) hHeld ?resta6
              case hia6 => simp only [List.getElem?_toArray, List.getElem?_cons_succ, List.getElem?_cons_zero]; rfl
              case hQa6 => exact fun _ _ _ h => h
              case hwa6 => rfl
              case hya6 => (intro w hSw; (try dsimp only at hSw); go_simp; try rfl)
              simp only [Act.put, List.setIfInBounds_toArray, List.set_cons_zero, List.set_cons_succ]
              refine wpAnyB_one (i := 7) (o := ?oia7) (by kernel_rfl) ?hia7 (fun K hK => ?_)
              case hia7 => simp only [List.getElem?_toArray, List.getElem?_cons_succ, List.getElem?_cons_zero]; rfl
              refine step_append_text btf (by rfl) _ _ (by rfl) y.B (.slice bo y.l.length bc) y.l (txt a) w6.drew (by rfl) HO19.out.drew (by rfl) (by rw [hts]; omega) (by exact hB19) ?_
              intro v9 w9 hown9 hg9
              obtain ⟨so9, nl9, sc9, hv9⟩ : ∃ so n sc, v9 = .slice so n sc := (by obtain ⟨a, b, h⟩ := hown9.slice; exact ⟨a, _, b, h⟩)
              subst hv9
              have hg9n : w6.grownBy w9 (Value.slice bo y.l.length bc).ownBlock := ⟨hg9.os, hg9.tape, hg9.output, hg9.size, hg9.block⟩
              have hk9 := HO19.out.far hg9n
              have h9 := cell_of_heap (hk9 go HGB19.out.2.lt (.inr ⟨_, HGB19.out.2⟩)) (N * 2 + 1)
              have hm9 := cell_of_heap (HO19.out.far2 hg9n HP6b.out (by decide)) 0
              have HN9 := Lib.hid (PInv.bytes HPX.out HNN.out hown9 hg9n.size ⟨hg9n.os, hg9n.tape, hg9n.output⟩ hk9)
              have j1 := h9.1.trans g1'
              have j3 := h9.2.trans g3'
              have HM9 := Lib.hid (hm9.1.trans m0')
              clear hk9 h9 hm9 hown9 hg9 hg9n
              refine hK.out _ _ ⟨j1, HM9.out⟩ (fun hHeld2 => ?_)
              clear hK K hHeld2
              try simp only [Act.put, List.setIfInBounds_toArray, List.set_cons_zero, List.set_cons_succ]
              refine wpAnyB_full _ _ _ _ (by kernel_rfl) (wpAny_of_held (S := fun _ => True) _ _ _ _ ?_)
              have hHeld3 : True := trivial
              refine wpAnyH_take (i := 8) (oi := ?oia8) (v := ?va8) ?hia8 (by kernel_rfl) (by kernel_rfl) (by kernel_rfl) ?hQa8 (Or.inl ⟨?hwa8, ?hya8⟩) hHeld3 ?resta8
              case hia8 => simp only [List.getElem?_toArray, List.getElem?_cons_succ, List.getElem?_cons_zero]; rfl
              case hQa8 => exact fun _ _ _ h => h
              case hwa8 => rfl
              case hya8 => (intro w hSw; (try dsimp only at hSw); go_simp; try rfl)
              simp only [Act.put, List.setIfInBounds_toArray, List.set_cons_zero, List.set_cons_succ]
              refine wpAnyH_take (i := 9) (oi := ?oia9) (v := ?va9) ?hia9 (by kernel_rfl) (by kernel_rfl) (by kernel_rfl) ?hQa9 (Or.inl ⟨?hwa9, ?hya9⟩) hHeld3 ?resta9
              case hia9 => simp only [List.getElem?_toArray, List.getElem?_cons_succ, List.getElem?_cons_zero]; rfl
              case hQa9 => exact fun _ _ _ h => h
              case hwa9 => rfl
              case hya9 => (intro w hSw; (try dsimp only at hSw); go_simp; try rfl)
              simp only [Act.put, List.setIfInBounds_toArray, List.set_cons_zero, List.set_cons_succ]
              refine wpAnyH_ready (rs := [10]) (by kernel_rfl) (by simp) ?_
              refine AllReadyH.cons (o := ?oia10) ?hia10 (fun K hK => ?_) AllReadyH.nil
              case hia10 => simp only [List.getElem?_toArray, List.getElem?_cons_succ, List.getElem?_cons_zero]; rfl
              go_simp
              refine hK.out _ _ trivial (fun hHeld4 => ?_)
              clear hK K
              try simp only [Act.put, List.setIfInBounds_toArray, List.set_cons_zero, List.set_cons_succ]
              refine wpAnyH_done (by kernel_rfl) ?_ _
              have hfin := HFIN.out (.slice oA ns (ic - 1)) (.slice so9 nl9 sc9)
              rw [show (if single a.text then a.text else hdr 128 a.text.length ++ a.text) = (txt a).data.toList by rw [hsing.out]; rfl] at hfin
              have HNEW := Lib.hid (show PutSt w4 _ B1 E _ _ from ⟨by simp, HN9.out, hfin⟩)
              clear hfin
              go_wp2_with fail
              go_roundw
              case rel => exact ⟨_, HNEW⟩
              case measure =>
                have h1 := (HME.out (_, _) _ ⟨_, HNEW.out, rfl⟩).2
                have h3 := pmeas_text (ys := ys) HYS.out (iv := .slice oA ns (ic - 1)) (bv := .slice so9 nl9 sc9) (l := y.l ++ (txt a).data.toList) (B2 := y.B)
                rw [HMST.out] at h3
                exact Nat.lt_of_le_of_lt h1 h3
            · have hsing : Hid (single a.text = false) := Lib.hid (by rw [hsg]; simpa using hb)
              have e1 : decide (128 ≤ (txt a)[0].toNat) = true := by simpa using hb
              clear hsg
              go_upto_region 18 with fail
              have ch := put_head 128 a.text.length y.B (.slice bo y.l.length bc) y.l w6.drew (.inl rfl) (by omega) HO19.out.drew (by omega) (by exact hB19)
              rw [show ((a.text.length : Nat) : Int) = (1 : Int) by rw [← hts, h1]; rfl] at ch
              have CH := Lib.hid ch
              clear ch
              refine wp_region_bar (S := fun w' => w'.cell? ⟨go, N * 2 + 1, none⟩ = some (.slice bo y.l.length bc) ∧ w'.cell? ⟨wr.heap.size, 0, none⟩ = some (.string (txt a))) 10 (by kernel_rfl) ⟨g1', m0'⟩ (fun hHeld => ?_)
              refine wpAnyB_take (i := 0) (oi := ?oib0) (v := ?vb0) ?hib0 (by kernel_rfl) (by kernel_rfl) (by kernel_rfl) (by kernel_rfl) (by kernel_rfl) ?hQb0 (Or.inl ⟨?hwb0, ?hyb0⟩) hHeld ?restb0
              case hib0 => simp only [List.getElem?_toArray, List.getElem?_cons_succ, List.getElem?_cons_zero]; rfl
              case hQb0 => exact fun _ _ _ h => h
              case hwb0 => rfl
              case hyb0 => (intro w hSw; (try dsimp only at hSw); go_simp; try rfl)
              simp only [Act.put, List.setIfInBounds_toArray, List.set_cons_zero, List.set_cons_succ]
              refine wpAnyB_take (i := 1) (oi := ?oib1) (v := ?vb1) ?hib1 (by kernel_rfl) (by kernel_rfl) (by kernel_rfl) (by kernel_rfl) (by kernel_rfl) ?hQb1 (Or.inl ⟨?hwb1, ?hyb1⟩) hHeld ?restb1
              case hib1 => simp only [List.getElem?_toArray, List.getElem?_cons_succ, List.getElem?_cons_zero]; rfl
              case hQb1 => exact fun _ _ _ h => h
              case hwb1 => rfl
              case hyb1 => (intro w hSw; (try dsimp only at hSw); go_simp; try rfl)
              simp only [Act.put, List.setIfInBounds_toArray, List.set_cons_zero, List.set_cons_succ]
              refine wpAnyB_take (i := 2) (oi := ?oib2) (v := ?vb2) ?hib2 (by kernel_rfl) (by kernel_rfl) (by kernel_rfl) (by kernel_rfl) (by kernel_rfl) ?hQb2 (Or.inl ⟨?hwb2, ?hyb2⟩) hHeld ?restb2
              case hib2 => simp only [List.getElem?_toArray, List.getElem?_cons_succ, List.getElem?_cons_zero]; rfl
              case hQb2 => exact fun _ _ _ h => h
              case hwb2 => rfl
              case hyb2 => (intro w hSw; (try dsimp only at hSw); go_simp; try rfl)
              simp only [Act.put, List.setIfInBounds_toArray, List.set_cons_zero, List.set_cons_succ]
              refine wpAnyB_take (i := 3) (oi := ?oib3) (v := ?vb3) ?hib3 (by kernel_rfl) (by kernel_rfl) (by kernel_rfl) (by kernel_rfl) (by kernel_rfl) ?hQb3 (Or.inl ⟨?hwb3, ?hyb3⟩) hHeld ?restb3
              case hib3 => simp only [List.getElem?_toArray, List.getElem?_cons_succ, List.getElem?_cons_zero]; rfl
              case hQb3 => exact fun _ _ _ h => h
              case hwb3 => rfl
              case hyb3 => (intro w hSw; (try dsimp only at hSw); go_simp; try rfl)
              simp only [Act.put, List.setIfInBounds_toArray, List.set_cons_zero, List.set_cons_succ]
              refine wpAnyB_take (i := 4) (oi := ?oib4) (v := ?vb4) ?hib4 (by kernel_rfl) (by kernel_rfl) (by kernel_rfl) (by kernel_rfl) (by kernel_rfl) ?hQb4 (Or.inl ⟨?hwb4, ?hyb4⟩) hHeld ?restb4
              case hib4 => simp only [List.getElem?_toArray, List.getElem?_cons_succ, List.getElem?_cons_zero]; rfl
              case hQb4 => exact fun _ _ _ h => h
              case hwb4 => rfl
              case hyb4 => (intro w hSw; (try dsimp only at hSw); go_simp; try rfl)
              simp only [Act.put, List.setIfInBounds_toArray, List.set_cons_zero, List.set_cons_succ]
              refine wpAnyB_take (i := 5) (oi := ?oib5) (v := ?vb5) ?hib5 (by kernel_rfl) (by kernel_rfl) (by kernel_rfl) (by kernel_rfl) (by kernel_rfl) ?hQb5 (Or.inl ⟨?hwb5, ?hyb5⟩) hHeld ?restb5
              case hib5 => simp only [List.getElem?_toArray, List.getElem?_cons_succ, List.getElem?_cons_zero]; rfl
              case hQb5 => exact fun _ _ _ h => h
              case hwb5 => rfl
              case hyb5 => (intro w hSw; (try dsimp only at hSw); go_simp; try rfl)
              simp only [Act.put, List.setIfInBounds_toArray, List.set_cons_zero, List.set_cons_succ]
              refine wpAnyB_take (i := 6) (oi := ?oib6) (v := ?vb6) ?hib6 (by kernel_rfl) (by kernel_rfl) (by kernel_rfl) (by kernel_rfl) (by kernel_rfl) ?hQb6 (Or.inl ⟨?hwb6, ?hyb6⟩) hHeld ?restb6
              case hib6 => simp only [List.getElem?_toArray, List.getElem?_cons_succ, List.getElem?_cons_zero]; rfl
              case hQb6 => exact fun _ _ _ h => h
              case hwb6 => rfl
              case hyb6 => (intro w hSw; (try dsimp only at hSw); go_simp; try rfl)
              simp only [Act.put, List.setIfInBounds_toArray, List.set_cons_zero, List.set_cons_succ]
              refine wpAnyB_take (i := 7) (oi := ?oib7) (v := ?vb7) ?hib7 (by kernel_rfl) (by kernel_rfl) (by kernel_rfl) (by kernel_rfl) (by kernel_rfl) ?hQb7 (Or.inl ⟨?hwb7, ?hyb7⟩) hHeld ?restb7
              case hib7 => simp only [List.getElem?_toArray, List.getElem?_cons_succ, List.getElem?_cons_zero]; rfl
              case hQb7 => exact fun _ _ _ h => h
              case hwb7 => rfl
              case hyb7 => (intro w hSw; (try dsimp only at hSw); go_simp; try rfl)
              simp only [Act.put, List.setIfInBounds_toArray, List.set_cons_zero, List.set_cons_succ]
              refine wpAnyB_take (i := 8) (oi := ?oib8) (v := ?vb8) ?hib8 (by kernel_rfl) (by kernel_rfl) (by kernel_rfl) (by kernel_rfl) (by kernel_rfl) ?hQb8 (Or.inl ⟨?hwb8, ?hyb8⟩) hHeld ?restb8
              case hib8 => simp only [List.getElem?_toArray, List.getElem?_cons_succ, List.getElem?_cons_zero]; rfl
              case hQb8 => exact fun _ _ _ h => h
              case hwb8 => rfl
              case hyb8 => (intro w hSw; (try dsimp only at hSw); go_simp; try rfl)
              simp only [Act.put, List.setIfInBounds_toArray, List.set_cons_zero, List.set_cons_succ]
              refine wpAnyB_one (i := 9) (o := ?oib9) (by kernel_rfl) ?hib9 (fun K hK => ?_)
              case hib9 => simp only [List.getElem?_toArray, List.getElem?_cons_succ, List.getElem?_cons_zero]; rfl
              go_simp
              go_at_call 39
              refine CH.out.mono ?_
              rintro e w7 ⟨v7, rfl, hown7, hg7⟩
              obtain ⟨so7, nl7, sc7, hv7⟩ : ∃ so n sc, v7 = .slice so n sc := (by obtain ⟨a, b, h⟩ := hown7.slice; exact ⟨a, _, b, h⟩)
              subst hv7
              have hg7n : w6.grownBy w7 (Value.slice bo y.l.length bc).ownBlock := ⟨hg7.os, hg7.tape, hg7.output, hg7.size, hg7.block⟩
              have hk7 := HO19.out.far hg7n
              have h7 := cell_of_heap (hk7 go HGB19.out.2.lt (.inr ⟨_, HGB19.out.2⟩)) (N * 2 + 1)
              have hm7 := HO19.out.far2 hg7n HP6b.out (by decide)
              have HN7 := Lib.hid (PInv.bytes HPX.out HNN.out hown7 hg7n.size ⟨hg7n.os, hg7n.tape, hg7n.output⟩ hk7)
              have j1 := h7.1.trans g1'
              have j3 := h7.2.trans g3'
              have HM7 : Hid (Blk w7 wr.heap.size #[.string (txt a), .bool a.list, .slice uo un uc] IT) := Lib.hid (by unfold Blk; rw [hm7]; exact HP6b.out)
              clear hk7 h7 hm7 hown7 hg7 hg7n
              refine hK.out _ _ ⟨j1, HM7.out.cell 0⟩ (fun hHeld2 => ?_)
              clear hK K hHeld2 CH
              try simp only [Act.put, List.setIfInBounds_toArray, List.set_cons_zero, List.set_cons_succ]
              refine wpAnyB_full _ _ _ _ (by kernel_rfl) (wpAny_of_held (S := fun _ => True) _ _ _ _ ?_)
              have hHeld3 : True := trivial
              refine wpAnyH_take (i := 10) (oi := ?oib10) (v := ?vb10) ?hib10 (by kernel_rfl) (by kernel_rfl) (by kernel_rfl) ?hQb10 (Or.inl ⟨?hwb10, ?hyb10⟩) hHeld3 ?restb10
              case hib10 => simp only [List.getElem?_toArray, List.getElem?_cons_succ, List.getElem?_cons_zero]; rfl
              case hQb10 => exact fun _ _ _ h => h
              case hwb10 => rfl
              case hyb10 => (intro w hSw; (try dsimp only at hSw); go_simp; try rfl)
              simp only [Act.put, List.setIfInBounds_toArray, List.set_cons_zero, List.set_cons_succ]
              refine wpAnyH_take (i := 11) (oi := ?oib11) (v := ?vb11) ?hib11 (by kernel_rfl) (by kernel_rfl) (by kernel_rfl) ?hQb11 (Or.inl ⟨?hwb11, ?hyb11⟩) hHeld3 ?restb11
              case hib11 => simp only [List.getElem?_toArray, List.getElem?_cons_succ, List.getElem?_cons_zero]; rfl
              case hQb11 => exact fun _ _ _ h => h
              case hwb11 => rfl
              case hyb11 => (intro w hSw; (try dsimp only at hSw); go_simp; try rfl)
              simp only [Act.put, List.setIfInBounds_toArray, List.set_cons_zero, List.set_cons_succ]
              refine wpAnyH_ready (rs := [12]) (by kernel_rfl) (by simp) ?_
              refine AllReadyH.cons (o := ?oib12) ?hib12 (fun K hK => ?_) AllReadyH.nil
              case hib12 => simp only [List.getElem?_toArray, List.getElem?_cons_succ, List.getElem?_cons_zero]; rfl
              go_simp
              refine hK.out _ _ trivial (fun hHeld4 => ?_)
              clear hK K
              try simp only [Act.put, List.setIfInBounds_toArray, List.set_cons_zero, List.set_cons_succ]
              refine wpAnyH_done (by kernel_rfl) ?_ _
              have HM8 : Hid (Blk (w7.setCell ⟨go, N * 2 + 1, none⟩ (.slice so7 nl7 sc7)) wr.heap.size #[.string (txt a), .bool a.list, .slice uo un uc] IT) := Lib.hid (HM7.out.setOther (a := ⟨go, N * 2 + 1, none⟩) hne' _)
              generalize w7.setCell ⟨go, N * 2 + 1, none⟩ (.slice so7 nl7 sc7) = w8 at *
              have HOLD19 := HGB19
              clear HO19 HGB19 hB19 g1' g3' m0' j1 j3
              obtain ⟨_, _, he, _, k1, _, k3, _⟩ := pinv_cells HN7.out HNN.out
              injection he with he1 _ he2
              injection he1 with he1
              injection he1 with he1
              subst he1 he2
              have HO19 : Hid (OwnB w8 y.B U8 (.slice so7 nl7 sc7) (y.l ++ hdr 128 a.text.length)) := Lib.hid HN7.out.lev.2.2.1
              have hB19 : y.B ≤ w8.heap.size := HN7.out.lev.2.1
              obtain ⟨hBgo8, cs8, hgb8⟩ := go_blk HN7.out.row
              have HGB19 : Hid (B1 ≤ go ∧ Blk w8 go cs8 LT) := Lib.hid ⟨hBgo8, hgb8⟩
              have g1' := k1
              have g3' := k3
              have m0' : w8.cell? ⟨wr.heap.size, 0, none⟩ = some (.string (txt a)) := HM8.out.cell 0
              clear k1 k3 hBgo8 hgb8
              go_upto_region 19 with fail
              refine wp_region_bar (S := fun w' => w'.cell? ⟨go, N * 2 + 1, none⟩ = some (.slice so7 nl7 sc7) ∧ w'.cell? ⟨wr.heap.size, 0, none⟩ = some (.string (txt a))) 8 (by kernel_rfl) ⟨g1', m0'⟩ (fun hHeld => ?_)
              refine wpAnyB_take (i := 0) (oi := ?oic0) (v := ?vc0) ?hic0 (by kernel_rfl) (by kernel_rfl) (by kernel_rfl) (by kernel_rfl) (by kernel_rfl) ?hQc0 (Or.inl ⟨?hwc0, ?hyc0⟩) hHeld ?restc0
              case hic0 => simp only [List.getElem?_toArray, List.getElem?_cons_succ, List.getElem?_cons_zero]; rfl
              case hQc0 => exact fun _ _ _ h => h
              case hwc0 => rfl
              case hyc0 => (intro w hSw; (try dsimp only at hSw); go_simp; try rfl)
              simp only [Act.put, List.setIfInBounds_toArray, List.set_cons_zero, List.set_cons_succ]
              refine wpAnyB_take (i := 1) (oi := ?oic1) (v := ?vc1) ?hic1 (by kernel_rfl) (by kernel_rfl) (by kernel_rfl) (by kernel_rfl) (by kernel_rfl) ?hQc1 (Or.inl ⟨?hwc1, ?hyc1⟩) hHeld ?restc1
              case hic1 => simp only [List.getElem?_toArray, List.getElem?_cons_succ, List.getElem?_cons_zero]; rfl
              case hQc1 => exact fun _ _ _ h => h
              case hwc1 => rfl
              case hyc1 => (intro w hSw; (try dsimp only at hSw); go_simp; try rfl)
              simp only [Act.put, List.setIfInBounds_toArray, List.set_cons_zero, List.set_cons_succ]
              refine wpAnyB_take (i := 2) (oi := ?oic2) (v := ?vc2) ?hic2 (by kernel_rfl) (by kernel_rfl) (by kernel_rfl) (by kernel_rfl) (by kernel_rfl) ?hQc2 (Or.inl ⟨?hwc2, ?hyc2⟩) hHeld ?restc2
              case hic2 => simp only [List.getElem?_toArray, List.getElem?_cons_succ, List.getElem?_cons_zero]; rfl
              case hQc2 => exact fun _ _ _ h => h
              case hwc2 => rfl
              case hyc2 => (intro w hSw; (try dsimp only at hSw); go_simp; try rfl)
              simp only [Act.put, List.setIfInBounds_toArray, List.set_cons_zero, List.set_cons_succ]
              refine wpAnyB_take (i := 3) (oi := ?oic3) (v := ?vc3) ?hic3 (by kernel_rfl) (by kernel_rfl) (by kernel_rfl) (by kernel_rfl) (by kernel_rfl) ?hQc3 (Or.inl ⟨?hwc3, ?hyc3⟩) hHeld ?restc3
              case hic3 => simp only [List.getElem?_toArray, List.getElem?_cons_succ, List.getElem?_cons_zero]; rfl
              case hQc3 => exact fun _ _ _ h => h
              case hwc3 => rfl
              case hyc3 => (intro w hSw; (try dsimp only at hSw); go_simp; try rfl)
              simp only [Act.put, List.setIfInBounds_toArray, List.set_cons_zero, List.set_cons_succ]
              refine wpAnyB_take (i := 4) (oi := ?oic4) (v := ?vc4) ?hic4 (by kernel_rfl) (by kernel_rfl) (by kernel_rfl) (by kernel_rfl) (by kernel_rfl) ?hQc4 (Or.inl ⟨?hwc4, ?hyc4⟩) hHeld ?restc4
              case hic4 => simp only [List.getElem?_toArray, List.getElem?_cons_succ, List.getElem?_cons_zero]; rfl
              case hQc4 => exact fun _ _ _ h => h
              case hwc4 => rfl
              case hyc4 => (intro w hSw; (try dsimp only at hSw); go_simp; try rfl)
              simp only [Act.put, List.setIfInBounds_toArray, List.set_cons_zero, List.set_cons_succ]
              refine wpAnyB_take (i := 5) (oi := ?oic5) (v := ?vc5) ?hic5 (by kernel_rfl) (by kernel_rfl) (by kernel_rfl) (by kernel_rfl) (by kernel_rfl) ?hQc5 (Or.inl ⟨?hwc5, ?hyc5⟩) hHeld ?restc5
              case hic5 => simp only [List.getElem?_toArray, List.getElem?_cons_succ, List.getElem?_cons_zero]; rfl
              case hQc5 => exact fun _ _ _ h => h
              case hwc5 => rfl
              case hyc5 => (intro w hSw; (try dsimp only at hSw); go_simp; try rfl)
              simp only [Act.put, List.setIfInBounds_toArray, List.set_cons_zero, List.set_cons_succ]
              refine wpAnyB_take (i := 6) (oi := ?oic6) (v := ?vc6) ?hic6 (by kernel_rfl) (by kernel_rfl) (by kernel_rfl) (by kernel_rfl) (by kernel_rfl) ?hQc6 (Or.inl ⟨?hwc6, ?hyc6⟩) hHeld ?restc6
              case hic6 => simp only [List.getElem?_toArray, List.getElem?_cons_succ, List.getElem?_cons_zero]; rfl
              case hQc6 => exact fun _ _ _ h => h
              case hwc6 => rfl
              case hyc6 => (intro w hSw; (try dsimp only at hSw); go_simp; try rfl)
              simp only [Act.put, List.setIfInBounds_toArray, List.set_cons_zero, List.set_cons_succ]
              refine wpAnyB_one (i := 7) (o := ?oic7) (by kernel_rfl) ?hic7 (fun K hK => ?_)
              case hic7 => simp only [List.getElem?_toArray, List.getElem?_cons_succ, List.getElem?_cons_zero]; rfl
              refine step_append_text btf (by rfl) _ _ (by rfl) y.B (.slice so7 nl7 sc7) (y.l ++ hdr 128 a.text.length) (txt a) w8.drew (by rfl) HO19.out.drew (by rfl) (by rw [hts]; rw [List.length_append]; omega) (by exact hB19) ?_
              intro v9 w9 hown9 hg9
              obtain ⟨so9, nl9, sc9, hv9⟩ : ∃ so n sc, v9 = .slice so n sc := (by obtain ⟨a, b, h⟩ := hown9.slice; exact ⟨a, _, b, h⟩)
              subst hv9
              have hg9n : w8.grownBy w9 (Value.slice so7 nl7 sc7).ownBlock := ⟨hg9.os, hg9.tape, hg9.output, hg9.size, hg9.block⟩
              have hk9 := HO19.out.far hg9n
              have h9 := cell_of_heap (hk9 go HGB19.out.2.lt (.inr ⟨_, HGB19.out.2⟩)) (N * 2 + 1)
              have hm9 := cell_of_heap (HO19.out.far2 hg9n HM8.out (by decide)) 0
              have HN9 := Lib.hid (PInv.bytes HN7.out HNN.out hown9 hg9n.size ⟨hg9n.os, hg9n.tape, hg9n.output⟩ hk9)
              have j1 := h9.1.trans g1'
              have j3 := h9.2.trans g3'
              have HM9 := Lib.hid (hm9.1.trans m0')
              clear hk9 h9 hm9 hown9 hg9 hg9n
              refine hK.out _ _ ⟨j1, HM9.out⟩ (fun hHeld2 => ?_)
              clear hK K hHeld2
              try simp only [Act.put, List.setIfInBounds_toArray, List.set_cons_zero, List.set_cons_succ]
              refine wpAnyB_full _ _ _ _ (by kernel_rfl) (wpAny_of_held (S := fun _ => True) _ _ _ _ ?_)
              have hHeld3 : True := trivial
              refine wpAnyH_take (i := 8) (oi := ?oic8) (v := ?vc8) ?hic8 (by kernel_rfl) (by kernel_rfl) (by kernel_rfl) ?hQc8 (Or.inl ⟨?hwc8, ?hyc8⟩) hHeld3 ?restc8
              case hic8 => simp only [List.getElem?_toArray, List.getElem?_cons_succ, List.getElem?_cons_zero]; rfl
              case hQc8 => exact fun _ _ _ h => h
              case hwc8 => rfl
              case hyc8 => (intro w hSw; (try dsimp only at hSw); go_simp; try rfl)
              simp only [Act.put, List.setIfInBounds_toArray, List.set_cons_zero, List.set_cons_succ]
              refine wpAnyH_take (i := 9) (oi := ?oic9) (v := ?vc9) ?hic9 (by kernel_rfl) (by kernel_rfl) (by kernel_rfl) ?hQc9 (Or.inl ⟨?hwc9, ?hyc9⟩) hHeld3 ?restc9
              case hic9 => simp only [List.getElem?_toArray, List.getElem?_cons_succ, List.getElem?_cons_zero]; rfl
              case hQc9 => exact fun _ _ _ h => h
              case hwc9 => rfl
              case hyc9 => (intro w hSw; (try dsimp only at hSw); go_simp; try rfl)
              simp only [Act.put, List.setIfInBounds_toArray, List.set_cons_zero, List.set_cons_succ]
              refine wpAnyH_ready (rs := [10]) (by kernel_rfl) (by simp) ?_
              refine AllReadyH.cons (o := ?oic10) ?hic10 (fun K hK => ?_) AllReadyH.nil
              case hic10 => simp only [List.getElem?_toArray, List.getElem?_cons_succ, List.getElem?_cons_zero]; rfl
              go_simp
              refine hK.out _ _ trivial (fun hHeld4 => ?_)
              clear hK K
              try simp only [Act.put, List.setIfInBounds_toArray, List.set_cons_zero, List.set_cons_succ]
              refine wpAnyH_done (by kernel_rfl) ?_ _
              have hfin := HFIN.out (.slice oA ns (ic - 1)) (.slice so9 nl9 sc9)
              rw [show y.l ++ (if single a.text then a.text else hdr 128 a.text.length ++ a.text) = y.l ++ hdr 128 a.text.length ++ (txt a).data.toList by rw [hsing.out, List.append_assoc]; rfl] at hfin
              have HNEW := Lib.hid (show PutSt w4 _ B1 E _ _ from ⟨by simp, HN9.out, hfin⟩)
              clear hfin
              go_wp2_with fail
              go_roundw
              case rel => exact ⟨_, HNEW⟩
              case measure =>
                have h1 := (HME.out (_, _) _ ⟨_, HNEW.out, rfl⟩).2
                have h3 := pmeas_text (ys := ys) HYS.out (iv := .slice oA ns (ic - 1)) (bv := .slice so9 nl9 sc9) (l := (y.l ++ hdr 128 a.text.length) ++ (txt a).data.toList) (B2 := y.B)
                rw [HMST.out] at h3
                exact Nat.lt_of_le_of_lt h1 h3
          · have hsing : Hid (single a.text = false) := Lib.hid (single_size (by rw [← txt_size]; exact h1))
            have e0 : (((txt a).size : Int) != 1) = true := by rw [bne_iff_ne]; omega
            go_upto_region 18 with fail
            have ch := put_head 128 a.text.length y.B (.slice bo y.l.length bc) y.l w6.drew (.inl rfl) (by omega) HO19.out.drew (by omega) (by exact hB19)
            rw [show ((a.text.length : Nat) : Int) = ((txt a).size : Int) by rw [hts]] at ch
            have CH := Lib.hid ch
            clear ch
            refine wp_region_bar (S := fun w' => w'.cell? ⟨go, N * 2 + 1, none⟩ = some (.slice bo y.l.length bc) ∧ w'.cell? ⟨wr.heap.size, 0, none⟩ = some (.string (txt a))) 10 (by kernel_rfl) ⟨g1', m0'⟩ (fun hHeld => ?_)
            refine wpAnyB_take (i := 0) (oi := ?oid0) (v := ?vd0) ?hid0 (by kernel_rfl) (by kernel_rfl) (by kernel_rfl) (by kernel_rfl) (by kernel_rfl) ?hQd0 (Or.inl ⟨?hwd0, ?hyd0⟩) hHeld ?restd0
            case hid0 => simp only [List.getElem?_toArray, List.getElem?_cons_succ, List.getElem?_cons_zero]; rfl
            case hQd0 => exact fun _ _ _ h => h
            case hwd0 => rfl
            case hyd0 => (intro w hSw; (try dsimp only at hSw); go_simp; try rfl)
            simp only [Act.put, List.setIfInBounds_toArray, List.set_cons_zero, List.set_cons_succ]
            refine wpAnyB_take (i := 1) (oi := ?oid1) (v := ?vd1) ?hid1 (by kernel_rfl) (by kernel_rfl) (by kernel_rfl) (by kernel_rfl) (by kernel_rfl) ?hQd1 (Or.inl ⟨?hwd1, ?hyd1⟩) hHeld ?restd1
            case hid1 => simp only [List.getElem?_toArray, List.getElem?_cons_succ, List.getElem?_cons_zero]; rfl
            case hQd1 => exact fun _ _ _ h => h
            case hwd1 => rfl
            case hyd1 => (intro w hSw; (try dsimp only at hSw); go_simp; try rfl)
            simp only [Act.put, List.setIfInBounds_toArray, List.set_cons_zero, List.set_cons_succ]
            refine wpAnyB_take (i := 2) (oi := ?oid2) (v := ?vd2) ?hid2 (by kernel_rfl) (by kernel_rfl) (by kernel_rfl) (by kernel_rfl) (by kernel_rfl) ?hQd2 (Or.inl ⟨?hwd2, ?hyd2⟩) hHeld ?restd2
            case hid2 => simp only [List.getElem?_toArray, List.getElem?_cons_succ, List.getElem?_cons_zero]; rfl
            case hQd2 => exact fun _ _ _ h => h
            case hwd2 => rfl
            case hyd2 => (intro w hSw; (try dsimp only at hSw); go_simp; try rfl)
            simp only [Act.put, List.setIfInBounds_toArray, List.set_cons_zero, List.set_cons_succ]
            refine wpAnyB_take (i := 3) (oi := ?oid3) (v := ?vd3) ?hid3 (by kernel_rfl) (by kernel_rfl) (by kernel_rfl) (by kernel_rfl) (by kernel_rfl) ?hQd3 (Or.inl ⟨?hwd3, ?hyd3⟩) hHeld ?restd3
            case hid3 => simp only [List.getElem?_toArray, List.getElem?_cons_succ, List.getElem?_cons_zero]; rfl
            case hQd3 => exact fun _ _ _ h => h
            case hwd3 => rfl
            case hyd3 => (intro w hSw; (try dsimp only at hSw); go_simp; try rfl)
            simp only [Act.put, List.setIfInBounds_toArray, List.set_cons_zero, List.set_cons_succ]
            refine wpAnyB_take (i := 4) (oi := ?oid4) (v := ?vd4) ?hid4 (by kernel_rfl) (by kernel_rfl) (by kernel_rfl) (by kernel_rfl) (by kernel_rfl) ?hQd4 (Or.inl ⟨?hwd4, ?hyd4⟩) hHeld ?restd4
            case hid4 => simp only [List.getElem?_toArray, List.getElem?_cons_succ, List.getElem?_cons_zero]; rfl
            case hQd4 => exact fun _ _ _ h => h
            case hwd4 => rfl
            case hyd4 => (intro w hSw; (try dsimp only at hSw); go_simp; try rfl)
            simp only [Act.put, List.setIfInBounds_toArray, List.set_cons_zero, List.set_cons_succ]
            refine wpAnyB_take (i := 5) (oi := ?oid5) (v := ?vd5) ?hid5 (by kernel_rfl) (by kernel_rfl) (by kernel_rfl) (by kernel_rfl) (by kernel_rfl) ?hQd5 (Or.inl ⟨?hwd5, ?hyd5⟩) hHeld ?restd5
            case hid5 => simp only [List.getElem?_toArray, List.getElem?_cons_succ, List.getElem?_cons_zero]; rfl
            case hQd5 => exact fun _ _ _ h => h
            case hwd5 => rfl
            case hyd5 => (intro w hSw; (try dsimp only at hSw); go_simp; try rfl)
            simp only [Act.put, List.setIfInBounds_toArray, List.set_cons_zero, List.set_cons_succ]
            refine wpAnyB_take (i := 6) (oi := ?oid6) (v := ?vd6) ?hid6 (by kernel_rfl) (by kernel_rfl) (by kernel_rfl) (by kernel_rfl) (by kernel_rfl) ?hQd6 (Or.inl ⟨?hwd6, ?hyd6⟩) hHeld ?restd6
            case hid6 => simp only [List.getElem?_toArray, List.getElem?_cons_succ, List.getElem?_cons_zero]; rfl
            case hQd6 => exact fun _ _ _ h => h
            case hwd6 => rfl
            case hyd6 => (intro w hSw; (try dsimp only at hSw); go_simp; try rfl)
            simp only [Act.put, List.setIfInBounds_toArray, List.set_cons_zero, List.set_cons_succ]
            refine wpAnyB_take (i := 7) (oi := ?oid7) (v := ?vd7) ?hid7 (by kernel_rfl) (by kernel_rfl) (by kernel_rfl) (by kernel_rfl) (by kernel_rfl) ?hQd7 (Or.inl ⟨?hwd7, ?hyd7⟩) hHeld ?restd7
            case hid7 => simp only [List.getElem?_toArray, List.getElem?_cons_succ, List.getElem?_cons_zero]; rfl
            case hQd7 => exact fun _ _ _ h => h
            case hwd7 => rfl
            case hyd7 => (intro w hSw; (try dsimp only at hSw); go_simp; try rfl)
            simp only [Act.put, List.setIfInBounds_toArray, List.set_cons_zero, List.set_cons_succ]
            refine wpAnyB_take (i := 8) (oi := ?oid8) (v := ?vd8) ?hid8 (by kernel_rfl) (by kernel_rfl) (by kernel_rfl) (by kernel_rfl) (by kernel_rfl) ?hQd8 (Or.inl ⟨?hwd8, ?hyd8⟩) hHeld ?restd8
            case hid8 => simp only [List.getElem?_toArray, List.getElem?_cons_succ, List.getElem?_cons_zero]; rfl
            case hQd8 => exact fun _ _ _ h => h
            case hwd8 => rfl
            case hyd8 => (intro w hSw; (try dsimp only at hSw); go_simp; try rfl)
            simp only [Act.put, List.setIfInBounds_toArray, List.set_cons_zero, List.set_cons_succ]
            refine wpAnyB_one (i := 9) (o := ?oid9) (by kernel_rfl) ?hid9 (fun K hK => ?_)
            case hid9 => simp only [List.getElem?_toArray, List.getElem?_cons_succ, List.getElem?_cons_zero]; rfl
            go_simp
            go_at_call 39
            refine CH.out.mono ?_
            rintro e w7 ⟨v7, rfl, hown7, hg7⟩
            obtain ⟨so7, nl7, sc7, hv7⟩ : ∃ so n sc, v7 = .slice so n sc := (by obtain ⟨a, b, h⟩ := hown7.slice; exact ⟨a, _, b, h⟩)
            subst hv7
            have hg7n : w6.grownBy w7 (Value.slice bo y.l.length bc).ownBlock := ⟨hg7.os, hg7.tape, hg7.output, hg7.size, hg7.block⟩
            have hk7 := HO19.out.far hg7n
            have h7 := cell_of_heap (hk7 go HGB19.out.2.lt (.inr ⟨_, HGB19.out.2⟩)) (N * 2 + 1)
            have hm7 := HO19.out.far2 hg7n HP6b.out (by decide)
            have HN7 := Lib.hid (PInv.bytes HPX.out HNN.out hown7 hg7n.size ⟨hg7n.os, hg7n.tape, hg7n.output⟩ hk7)
            have j1 := h7.1.trans g1'
            have j3 := h7.2.trans g3'
            have HM7 : Hid (Blk w7 wr.heap.size #[.string (txt a), .bool a.list, .slice uo un uc] IT) := Lib.hid (by unfold Blk; rw [hm7]; exact HP6b.out)
            clear hk7 h7 hm7 hown7 hg7 hg7n
            refine hK.out _ _ ⟨j1, HM7.out.cell 0⟩ (fun hHeld2 => ?_)
            clear hK K hHeld2 CH
            try simp only [Act.put, List.setIfInBounds_toArray, List.set_cons_zero, List.set_cons_succ]
            refine wpAnyB_full _ _ _ _ (by kernel_rfl) (wpAny_of_held (S := fun _ => True) _ _ _ _ ?_)
            have hHeld3 : True := trivial
            refine wpAnyH_take (i := 10) (oi := ?oid10) (v := ?vd10) ?hid10 (by kernel_rfl) (by kernel_rfl) (by kernel_rfl) ?hQd10 (Or.inl ⟨?hwd10, ?hyd10⟩) hHeld3 ?restd10
            case hid10 => simp only [List.getElem?_toArray, List.getElem?_cons_succ, List.getElem?_cons_zero]; rfl
            case hQd10 => exact fun _ _ _ h => h
            case hwd10 => rfl
            case hyd10 => (intro w hSw; (try dsimp only at hSw); go_simp; try rfl)
            simp only [Act.put, List.setIfInBounds_toArray, List.set_cons_zero, List.set_cons_succ]
            refine wpAnyH_take (i := 11) (oi := ?oid11) (v := ?vd11) ?hid11 (by kernel_rfl) (by kernel_rfl) (by kernel_rfl) ?hQd11 (Or.inl ⟨?hwd11, ?hyd11⟩) hHeld3 ?restd11
            case hid11 => simp only [List.getElem?_toArray, List.getElem?_cons_succ, List.getElem?_cons_zero]; rfl
            case hQd11 => exact fun _ _ _ h => h
            case hwd11 => rfl
            case hyd11 => (intro w hSw; (try dsimp only at hSw); go_simp; try rfl)
            simp only [Act.put, List.setIfInBounds_toArray, List.set_cons_zero, List.set_cons_succ]
            refine wpAnyH_ready (rs := [12]) (by kernel_rfl) (by simp) ?_
            refine AllReadyH.cons (o := ?oid12) ?hid12 (fun K hK => ?_) AllReadyH.nil
            case hid12 => simp only [List.getElem?_toArray, List.getElem?_cons_succ, List.getElem?_cons_zero]; rfl
            go_simp
            refine hK.out _ _ trivial (fun hHeld4 => ?_)
            clear hK K
            try simp only [Act.put, List.setIfInBounds_toArray, List.set_cons_zero, List.set_cons_succ]
            refine wpAnyH_done (by kernel_rfl) ?_ _
            have HM8 : Hid (Blk (w7.setCell ⟨go, N * 2 + 1, none⟩ (.slice so7 nl7 sc7)) wr.heap.size #[.string (txt a), .bool a.list, .slice uo un uc] IT) := Lib.hid (HM7.out.setOther (a := ⟨go, N * 2 + 1, none⟩) hne' _)
            generalize w7.setCell ⟨go, N * 2 + 1, none⟩ (.slice so7 nl7 sc7) = w8 at *
            have HOLD19 := HGB19
            clear HO19 HGB19 hB19 g1' g3' m0' j1 j3
            obtain ⟨_, _, he, _, k1, _, k3, _⟩ := pinv_cells HN7.out HNN.out
            injection he with he1 _ he2
            injection he1 with he1
            injection he1 with he1
            subst he1 he2
            have HO19 : Hid (OwnB w8 y.B U8 (.slice so7 nl7 sc7) (y.l ++ hdr 128 a.text.length)) := Lib.hid HN7.out.lev.2.2.1
            have hB19 : y.B ≤ w8.heap.size := HN7.out.lev.2.1
            obtain ⟨hBgo8, cs8, hgb8⟩ := go_blk HN7.out.row
            have HGB19 : Hid (B1 ≤ go ∧ Blk w8 go cs8 LT) := Lib.hid ⟨hBgo8, hgb8⟩
            have g1' := k1
            have g3' := k3
            have m0' : w8.cell? ⟨wr.heap.size, 0, none⟩ = some (.string (txt a)) := HM8.out.cell 0
            clear k1 k3 hBgo8 hgb8
            go_upto_region 19 with fail
            refine wp_region_bar (S := fun w' => w'.cell? ⟨go, N * 2 + 1, none⟩ = some (.slice so7 nl7 sc7) ∧ w'.cell? ⟨wr.heap.size, 0, none⟩ = some (.string (txt a))) 8 (by kernel_rfl) ⟨g1', m0'⟩ (fun hHeld => ?_)
            refine wpAnyB_take (i := 0) (oi := ?oie0) (v := ?ve0) ?hie0 (by kernel_rfl) (by kernel_rfl) (by kernel_rfl) (by kernel_rfl) (by kernel_rfl) ?hQe0 (Or.inl ⟨?hwe0, ?hye0⟩) hHeld ?reste0
            case hie0 => simp only [List.getElem?_toArray, List.getElem?_cons_succ, List.getElem?_cons_zero]; rfl
            case hQe0 => exact fun _ _ _ h => h
            case hwe0 => rfl
            case hye0 => (intro w hSw; (try dsimp only at hSw); go_simp; try rfl)
            simp only [Act.put, List.setIfInBounds_toArray, List.set_cons_zero, List.set_cons_succ]
            refine wpAnyB_take (i := 1) (oi := ?oie1) (v := ?ve1) ?hie1 (by kernel_rfl) (by kernel_rfl) (by kernel_rfl) (by kernel_rfl) (by kernel_rfl) ?hQe1 (Or.inl ⟨?hwe1, ?hye1⟩) hHeld ?reste1
            case hie1 => simp only [List.getElem?_toArray, List.getElem?_cons_succ, List.getElem?_cons_zero]; rfl
            case hQe1 => exact fun _ _ _ h => h
            case hwe1 => rfl
            case hye1 => (intro w hSw; (try dsimp only at hSw); go_simp; try rfl)
            simp only [Act.put, List.setIfInBounds_toArray, List.set_cons_zero, List.set_cons_succ]
            refine wpAnyB_take (i := 2) (oi := ?oie2) (v := ?ve2) ?hie2 (by kernel_rfl) (by kernel_rfl) (by kernel_rfl) (by kernel_rfl) (by kernel_rfl) ?hQe2 (Or.inl ⟨?hwe2, ?hye2⟩) hHeld ?reste2
            case hie2 => simp only [List.getElem?_toArray, List.getElem?_cons_succ, List.getElem?_cons_zero]; rfl
            case hQe2 => exact fun _ _ _ h => h
            case hwe2 => rfl
            case hye2 => (intro w hSw; (try dsimp only at hSw); go_simp; try rfl)
            simp only [Act.put, List.setIfInBounds_toArray, List.set_cons_zero, List.set_cons_succ]
            refine wpAnyB_take (i := 3) (oi := ?oie3) (v := ?ve3) ?hie3 (by kernel_rfl) (by kernel_rfl) (by kernel_rfl) (by kernel_rfl) (by kernel_rfl) ?hQe3 (Or.inl ⟨?hwe3, ?hye3⟩) hHeld ?reste3
            case hie3 => simp only [List.getElem?_toArray, List.getElem?_cons_succ, List.getElem?_cons_zero]; rfl
            case hQe3 => exact fun _ _ _ h => h
            case hwe3 => rfl
            case hye3 => (intro w hSw; (try dsimp only at hSw); go_simp; try rfl)
            simp only [Act.put, List.setIfInBounds_toArray, List.set_cons_zero, List.set_cons_succ]
            refine wpAnyB_take (i := 4) (oi := ?oie4) (v := ?ve4) ?hie4 (by kernel_rfl) (by kernel_rfl) (by kernel_rfl) (by kernel_rfl) (by kernel_rfl) ?hQe4 (Or.inl ⟨?hwe4, ?hye4⟩) hHeld ?reste4
            case hie4 => simp only [List.getElem?_toArray, List.getElem?_cons_succ, List.getElem?_cons_zero]; rfl
            case hQe4 => exact fun _ _ _ h => h
            case hwe4 => rfl
            case hye4 => (intro w hSw; (try dsimp only at hSw); go_simp; try rfl)
            simp only [Act.put, List.setIfInBounds_toArray, List.set_cons_zero, List.set_cons_succ]
            refine wpAnyB_take (i := 5) (oi := ?oie5) (v := ?ve5) ?hie5 (by kernel_rfl) (by kernel_rfl) (by kernel_rfl) (by kernel_rfl) (by kernel_rfl) ?hQe5 (Or.inl ⟨?hwe5, ?hye5⟩) hHeld ?reste5
            case hie5 => simp only [List.getElem?_toArray, List.getElem?_cons_succ, List.getElem?_cons_zero]; rfl
            case hQe5 => exact fun _ _ _ h => h
            case hwe5 => rfl
            case hye5 => (intro w hSw; (try dsimp only at hSw); go_simp; try rfl)
            simp only [Act.put, List.setIfInBounds_toArray, List.set_cons_zero, List.set_cons_succ]
            refine wpAnyB_take (i := 6) (oi := ?oie6) (v := ?ve6) ?hie6 (by kernel_rfl) (by kernel_rfl) (by kernel_rfl) (by kernel_rfl) (by kernel_rfl) ?hQe6 (Or.inl ⟨?hwe6, ?hye6⟩) hHeld ?reste6
            case hie6 => simp only [List.getElem?_toArray, List.getElem?_cons_succ, List.getElem?_cons_zero]; rfl
            case hQe6 => exact fun _ _ _ h => h
            case hwe6 => rfl
            case hye6 => (intro w hSw; (try dsimp only at hSw); go_simp; try rfl)
            simp only [Act.put, List.setIfInBounds_toArray, List.set_cons_zero, List.set_cons_succ]
            refine wpAnyB_one (i := 7) (o := ?oie7) (by kernel_rfl) ?hie7 (fun K hK => ?_)
            case hie7 => simp only [List.getElem?_toArray, List.getElem?_cons_succ, List.getElem?_cons_zero]; rfl
            refine step_append_text btf (by rfl) _ _ (by rfl) y.B (.slice so7 nl7 sc7) (y.l ++ hdr 128 a.text.length) (txt a) w8.drew (by rfl) HO19.out.drew (by rfl) (by rw [hts]; rw [List.length_append]; omega) (by exact hB19) ?_
            intro v9 w9 hown9 hg9
            obtain ⟨so9, nl9, sc9, hv9⟩ : ∃ so n sc, v9 = .slice so n sc := (by obtain ⟨a, b, h⟩ := hown9.slice; exact ⟨a, _, b, h⟩)
            subst hv9
            have hg9n : w8.grownBy w9 (Value.slice so7 nl7 sc7).ownBlock := ⟨hg9.os, hg9.tape, hg9.output, hg9.size, hg9.block⟩
            have hk9 := HO19.out.far hg9n
            have h9 := cell_of_heap (hk9 go HGB19.out.2.lt (.inr ⟨_, HGB19.out.2⟩)) (N * 2 + 1)
            have hm9 := cell_of_heap (HO19.out.far2 hg9n HM8.out (by decide)) 0
            have HN9 := Lib.hid (PInv.bytes HN7.out HNN.out hown9 hg9n.size ⟨hg9n.os, hg9n.tape, hg9n.output⟩ hk9)
            have j1 := h9.1.trans g1'
            have j3 := h9.2.trans g3'
            have HM9 := Lib.hid (hm9.1.trans m0')
            clear hk9 h9 hm9 hown9 hg9 hg9n
            refine hK.out _ _ ⟨j1, HM9.out⟩ (fun hHeld2 => ?_)
            clear hK K hHeld2
            try simp only [Act.put, List.setIfInBounds_toArray, List.set_cons_zero, List.set_cons_succ]
            refine wpAnyB_full _ _ _ _ (by kernel_rfl) (wpAny_of_held (S := fun _ => True) _ _ _ _ ?_)
            have hHeld3 : True := trivial
            refine wpAnyH_take (i := 8) (oi := ?oie8) (v := ?ve8) ?hie8 (by kernel_rfl) (by kernel_rfl) (by kernel_rfl) ?hQe8 (Or.inl ⟨?hwe8, ?hye8⟩) hHeld3 ?reste8
            case hie8 => simp only [List.getElem?_toArray, List.getElem?_cons_succ, List.getElem?_cons_zero]; rfl
            case hQe8 => exact fun _ _ _ h => h
            case hwe8 => rfl
            case hye8 => (intro w hSw; (try dsimp only at hSw); go_simp; try rfl)
            simp only [Act.put, List.setIfInBounds_toArray, List.set_cons_zero, List.set_cons_succ]
            refine wpAnyH_take (i := 9) (oi := ?oie9) (v := ?ve9) ?hie9 (by kernel_rfl) (by kernel_rfl) (by kernel_rfl) ?hQe9 (Or.inl ⟨?hwe9, ?hye9⟩) hHeld3 ?reste9
            case hie9 => simp only [List.getElem?_toArray, List.getElem?_cons_succ, List.getElem?_cons_zero]; rfl
            case hQe9 => exact fun _ _ _ h => h
            case hwe9 => rfl
            case hye9 => (intro w hSw; (try dsimp only at hSw); go_simp; try rfl)
            simp only [Act.put, List.setIfInBounds_toArray, List.set_cons_zero, List.set_cons_succ]
            refine wpAnyH_ready (rs := [10]) (by kernel_rfl) (by simp) ?_
            refine AllReadyH.cons (o := ?oie10) ?hie10 (fun K hK => ?_) AllReadyH.nil
            case hie10 => simp only [List.getElem?_toArray, List.getElem?_cons_succ, List.getElem?_cons_zero]; rfl
            go_simp
            refine hK.out _ _ trivial (fun hHeld4 => ?_)
            clear hK K
            try simp only [Act.put, List.setIfInBounds_toArray, List.set_cons_zero, List.set_cons_succ]
            refine wpAnyH_done (by kernel_rfl) ?_ _
            have hfin := HFIN.out (.slice oA ns (ic - 1)) (.slice so9 nl9 sc9)
            rw [show y.l ++ (if single a.text then a.text else hdr 128 a.text.length ++ a.text) = y.l ++ hdr 128 a.text.length ++ (txt a).data.toList by rw [hsing.out, List.append_assoc]; rfl] at hfin
            have HNEW := Lib.hid (show PutSt w4 _ B1 E _ _ from ⟨by simp, HN9.out, hfin⟩)
            clear hfin
            go_wp2_with fail
            go_roundw
            case rel => exact ⟨_, HNEW⟩
            case measure =>
              have h1 := (HME.out (_, _) _ ⟨_, HNEW.out, rfl⟩).2
              have h3 := pmeas_text (ys := ys) HYS.out (iv := .slice oA ns (ic - 1)) (bv := .slice so9 nl9 sc9) (l := (y.l ++ hdr 128 a.text.length) ++ (txt a).data.toList) (B2 := y.B)
              rw [HMST.out] at h3
              exact Nat.lt_of_le_of_lt h1 h3
end Go.Proofs.Ytopfpfpefljkkaa
