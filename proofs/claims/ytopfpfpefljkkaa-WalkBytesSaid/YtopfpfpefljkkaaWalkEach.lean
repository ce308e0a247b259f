/- walk.each's closure: the tokens of an item, one by one. -/
import Derived.Test.YtopfpfpefljkkaaWalkTok
import Derived.Test.YtopfpfpefljkkaaRlpPutS
import Derived.Test.YtopfpfpefljkkaaRlpNst2
import Derived.Shelf.Abstract
import Derived.TacticsInMore
import Derived.LoopNIn
import Derived.LoopIn
import Derived.OwnWalkIn
import Derived.Sort.CutIn
namespace Go.Proofs.Ytopfpfpefljkkaa
open Go.RowKit Go.Shelf
attribute [local go_sem] Oper.semAt_some
set_option linter.unusedVariables false
set_option linter.unusedSimpArgs false

def encT (T : List Tk) (k : Nat) : Array Value := match T[k]? with
  | some t => #[.agg #[.int .i64 t.kind, .string t.text]]
  | none => #[.agg #[.int .i64 0, .string ⟨#[]⟩]]
theorem encT_at {T : List Tk} {k : Nat} {t : Tk} (h : T[k]? = some t) : encT T k = #[.agg #[.int .i64 t.kind, .string t.text]] := by unfold encT; rw [h]
theorem encT_size (T : List Tk) (k : Nat) : (encT T k).size = 1 := by unfold encT; split <;> rfl

/-- 'append(l, x)' of one element, in a fence. -/
theorem wpListIn_append_g {β : Type} {f : β → List Value} {k : Nat} {F : Fence} {n : Nat} {P : Program} {st t : TypeId} (T : RowTypes P st t k) (hk : ∀ y, (f y).length = k) {ops : Array Oper} {rest : List Oper} {o : Oper} {a : Act} {Q : Exit → Act → World → Prop} (hgd : o.guard = none) (s x : Operand)
    (ho : o.op = .call { callee := .builtin .append, args := #[s, x], argTypes := #[st, st] }) {w : World} {B b c : Nat} {v : Value} {L : List β} {y : β} {cs : Array Value} {t' : TypeId} (hs : a.eval s = v) (hown : OwnG f k w B t v L)
    (hx : a.eval x = .slice (some ⟨b, 0, none⟩) 1 c) (hb : Blk w b cs t') (hcs : cs.toList = f y) (h1 : ∀ u ∈ f y, u.oneCell' = true) (hlen : L.length ≤ 1000000) (hB : B ≤ w.heap.size)
    (h : ∀ g cap w', OwnG f k w' B t (.slice (some ⟨g, 0, none⟩) (L.length + 1) cap) (L ++ [y]) → w.grownBy w' v.ownBlock → (v.ownBlock = some g ∨ g = w.heap.size) → g < w'.heap.size → wpListIn F n P ops Q rest (a.put o.dst (.slice (some ⟨g, 0, none⟩) (L.length + 1) cap)) w') :
    wpListIn F n P ops Q (o :: rest) a w := by
  refine wpListIn_plain hgd fun K hK => ?_
  obtain ⟨g, cap, w', hr, h2, h3, h4, h5, _⟩ := run_append_g (ty := o.type) T hk hown hb hcs h1 hlen hB
  unfold Oper.wpIn
  refine ⟨?_, ?_⟩
  · simp [Oper.about, ho, resolve, Target.leads, Sem.run_pure]
  · rw [Oper.semAt_plain F _ _ (by rw [ho]; intro c hc'; cases hc')]
    simp only [execOp, ho, resolve, invoke, builtin, Sem.run_bind, Sem.run_pure, Result.andThen_ok, List.map_toArray, List.map_cons, List.map_nil, hs, hx]
    rw [hr]
    exact hK _ _ (h g cap w' h2 h3 h4 h5)

/-- What stands at the head of the loop: so much is left. -/
def EachInv (D b1 : Nat) (T : List Tk) (J : Nat → (Nat → Prop) → World → Prop) (p : Value × World) (m : Nat) : Prop :=
  ∃ (k : Nat) (st : List Fv) (M : Nat → Prop), J k M p.2 ∧ EachM D b1 st M p.1 p.2 ∧ T.drop k = flatS (st.map Fv.rows) ∧ k ≤ T.length ∧ m = leftS (st.map Fv.rows)

theorem each_start {W : World} {D : Nat} {x : Rose IL} {v : Value} {J : Nat → (Nat → Prop) → World → Prop} (hJ : AbM J) (hD : D ≤ W.heap.size) (hv : ISubsQ W (fun c => c < D) v x.sub) (hxl : x.lab.text.length ≤ maxLen) (h0 : J 0 (fun _ => False) W) :
    EachInv D W.heap.size (toks x) J (.slice (some ⟨W.heap.size + 1, 0, none⟩) 1 1, (W.alloc (.cells #[.string (txt x.lab), .bool x.lab.list, v] IT)).alloc (.cells #[.slice (some ⟨W.heap.size, 0, none⟩) 1 1] ST)) (leftS [[x]]) := by
  have b1 := Blk.new W #[.string (txt x.lab), .bool x.lab.list, v] IT
  have g1 := World.grownBy_alloc W (.cells #[.string (txt x.lab), .bool x.lab.list, v] IT) none
  have z1 : (W.alloc (.cells #[.string (txt x.lab), .bool x.lab.list, v] IT)).heap.size = W.heap.size + 1 := by simp
  generalize W.alloc (.cells #[.string (txt x.lab), .bool x.lab.list, v] IT) = W1 at *
  have b2 := Blk.new W1 #[.slice (some ⟨W.heap.size, 0, none⟩) 1 1] ST
  have g2 := World.grownBy_alloc W1 (.cells #[.slice (some ⟨W.heap.size, 0, none⟩) 1 1] ST) none
  have z2 : (W1.alloc (.cells #[.slice (some ⟨W.heap.size, 0, none⟩) 1 1] ST)).heap.size = W.heap.size + 2 := by simp [z1]
  rw [z1] at b2
  generalize W1.alloc (.cells #[.slice (some ⟨W.heap.size, 0, none⟩) 1 1] ST) = W2 at *
  have j2 := hJ _ _ _ _ none (hJ _ _ _ _ none h0 g1 (fun _ e => by cases e)) g2 (fun _ e => by cases e)
  have b1' : Blk W2 W.heap.size #[.string (txt x.lab), .bool x.lab.list, v] IT := by
    unfold Blk
    rw [g2.block _ b1.lt (fun e => by cases e)]; exact b1
  refine ⟨0, [⟨.slice (some ⟨W.heap.size, 0, none⟩) 1 1, [x]⟩], _, j2, ⟨?_, ?_, ?_, hD, by show _ < W2.heap.size; omega, ?_⟩, ?_, by omega, rfl⟩
  · exact OwnG.of (f := fvf) (k := 1) (L := [⟨.slice (some ⟨W.heap.size, 0, none⟩) 1 1, [x]⟩]) (by omega) b2 (by simp) (by decide) (by simp) fvf_len (by simp [fvf])
  · intro b hb
    simp [Value.ownBlock] at hb
    subst hb
    exact ⟨.inr ⟨by omega, by omega⟩, by omega⟩
  · exact .inl (.inr ⟨by omega, by omega⟩)
  · intro y hy
    simp at hy
    subst hy
    refine ⟨some ⟨W.heap.size, 0, none⟩, 1, rfl, by simp, by decide, fun _ => ⟨W.heap.size, 0, rfl, by show _ < W2.heap.size; omega, .inr rfl, ?_⟩⟩
    simp only [Shape.RowAt, and_true]
    have hk : ISubsQ W2 (fun c => c < D ∨ c = W.heap.size) v x.sub := Shape.Subs.keep hv (by omega) (fun _ _ h => .inl h) fun c hc _ => (g2.block c (by omega) (fun e => by cases e)).trans (g1.block c hc (fun e => by cases e))
    cases x with
    | node a s =>
      simp only [Shape.NodeAt]
      refine ⟨hxl, v, fun j hj => ?_, hk⟩
      match j, hj with
      | 0, _ => exact b1'.cell 0
      | 1, _ => exact b1'.cell 1
      | 2, _ => exact b1'.cell 2
  · simp [flatS, toksL_cons, toksL_nil]

/-- An item is taken off the inmost row, into a block of its own. -/
theorem each_pop {D b1 k g n cap : Nat} {v v' u : Value} {x : Rose IL} {xs : List (Rose IL)} {ys : List Fv} {M : Nat → Prop} {w : World} {J : Nat → (Nat → Prop) → World → Prop} (hJ : AbM J) (hj : J k M w)
    (h : EachM D b1 (⟨v, x :: xs⟩ :: ys) M (.slice (some ⟨g, 0, none⟩) n cap) w) (hs : ISubsQ w (fun c => c < D ∨ c = b1) v' xs) (hu : ISubsQ w (fun c => c < D ∨ c = b1) u x.sub) (cs : Array Value) :
    ∃ M', J k M' ((w.setCell ⟨g, ys.length, none⟩ v').alloc (.cells cs IT)) ∧ EachM D b1 (⟨v', xs⟩ :: ys) M' (.slice (some ⟨g, 0, none⟩) n cap) ((w.setCell ⟨g, ys.length, none⟩ v').alloc (.cells cs IT)) ∧
      Blk ((w.setCell ⟨g, ys.length, none⟩ v').alloc (.cells cs IT)) w.heap.size cs IT ∧ M' w.heap.size ∧ ISubsQ ((w.setCell ⟨g, ys.length, none⟩ v').alloc (.cells cs IT)) (fun c => c < D ∨ c = b1) u x.sub := by
  have h1 := h.next hs (Below.refl _ w)
  have hgb : D ≤ g ∧ g ≠ b1 := ⟨(h.row.block g rfl).1, (h.mine g rfl).2⟩
  have hu1 : ISubsQ (w.setCell ⟨g, ys.length, none⟩ v') (fun c => c < D ∨ c = b1) u x.sub :=
    Shape.Subs.keep hu (by simp [World.setCell]) (fun _ _ h => h) fun c hc hq => Below.heap_setCell _ _ _ _ (show c ≠ g by rintro rfl; rcases hq with hq | hq <;> omega)
  have z : (w.setCell ⟨g, ys.length, none⟩ v').heap.size = w.heap.size := by simp [World.setCell]
  have gs : w.grownBy (w.setCell ⟨g, ys.length, none⟩ v') (some g) := ⟨rfl, rfl, rfl, by rw [z]; exact Nat.le_refl _, fun j hj hn => Below.heap_setCell _ _ _ _ fun e => hn (by rw [e])⟩
  have j1 := hJ _ _ _ _ _ hj gs (fun r e => by cases e; exact (h.mine g rfl).1)
  generalize w.setCell ⟨g, ys.length, none⟩ v' = w1 at *
  have g2 := World.grownBy_alloc w1 (.cells cs IT) none
  have b2 := Blk.new w1 cs IT
  rw [z] at b2
  have j2 := hJ _ _ _ _ none j1 g2 (fun _ e => by cases e)
  have hk : KpM D (fun b => M b ∨ (w.heap.size ≤ b ∧ b < w1.heap.size)) w1 (w1.alloc (.cells cs IT)) := ⟨g2.size, fun b hb _ => g2.block b hb (fun e => by cases e)⟩
  refine ⟨_, j2, (h1.keep (M' := fun b => (M b ∨ (w.heap.size ≤ b ∧ b < w1.heap.size)) ∨ (w1.heap.size ≤ b ∧ b < (w1.alloc (.cells cs IT)).heap.size)) (by simpa [z] using hk) fun b hb => ?_), b2, .inr ⟨by omega, by simp; omega⟩,
    Shape.Subs.keep hu1 g2.size (fun _ _ h => h) fun c hc _ => g2.block c hc (fun e => by cases e)⟩
  rcases hb with hb | hb
  · exact .inl (.inl hb)
  · omega

theorem wide_depthW (n : Nat) : Fence.wide.depth.isSome = true → 1 ≤ n := fun h => Bool.noConfusion h

set_option maxRecDepth 100000 in
set_option maxHeartbeats 4000000 in
theorem each1_in (n l : Nat) (x : Rose IL) (bx : Nat) (v : Value) (D : Nat) (J : Nat → (Nat → Prop) → World → Prop) (W : World) (hJ : AbM J) (hT : (toks x).length ≤ 100000)
    (hY : ∀ k M W1, k < (toks x).length → J k M W1 → YieldAt Fence.wide (n - 1) Try.prog l (encT (toks x) k) W1 fun e W' => e = .returned (.bool true) ∧ J (k + 1) M W' ∧ KpM D M W1 W')
    (hD : D ≤ W.heap.size) (hbx : Blk W bx #[.string (txt x.lab), .bool x.lab.list, v] IT) (hv : ISubsQ W (fun c => c < D) v x.sub) (hxl : x.lab.text.length ≤ maxLen) (h0 : J 0 (fun _ => False) W) :
    CallsIn Fence.wide n Try.prog 58 #[.func (.yield l) #[] #[], .pointer (some ⟨bx, 0, none⟩)] W fun e W' => (∃ v, e = .returned v) ∧ ∃ M, J (toks x).length M W' := by
  have hro : Fence.wide.round = none := rfl
  obtain ⟨T, hTT⟩ : ∃ T, toks x = T := ⟨_, rfl⟩
  have HTT := Lib.hid hTT
  rw [hTT] at hY hT ⊢
  have HY := Lib.hid hY
  obtain ⟨o, cap, rfl, _, _⟩ := hv.slice
  obtain ⟨N, hN⟩ : ∃ N, x.sub.length = N := ⟨_, rfl⟩
  have HV := Lib.hid hv
  obtain ⟨μ, hμ⟩ := least_fn (EachInv D W.heap.size T J)
  have HM := Lib.hid hμ
  have c0 := hbx.cell 0
  have c1 := hbx.cell 1
  have c2 := hbx.cell 2
  have HX := Lib.hid hxl
  have HJ := Lib.hid hJ
  have H0 := Lib.hid h0
  rw [hN] at c2
  clear hY hv hμ hxl hJ h0
  refine callsIn_of_wp Try.func58 rfl trivial ?_ hro
  simp only [Try.ntmps58, List.size_toArray, List.length_cons, List.length_nil, Nat.reduceAdd, Nat.reduceSub, Array.replicate_succ, Array.replicate_zero, List.push_toArray, List.append_toArray, List.nil_append, List.cons_append]
  gi_wp2
  gi_loopw [3] (fun cv wr => ∃ m, EachInv D W.heap.size T J (cv, wr) m) (fun cv wr => μ (cv, wr))
  case atStart =>
    have := each_start HJ.out hD HV.out HX.out H0.out
    rw [HTT.out, hN] at this
    exact ⟨_, this⟩
  case round =>
    obtain ⟨m, hinv⟩ := hrel
    obtain ⟨k, st, M, hj, hm, ht, hk, hmu⟩ := (HM.out _ _ hinv).1
    clear hinv m c0 c1 c2
    dsimp only at hj hm
    have HJ0 := Lib.hid hj
    have HE := Lib.hid hm
    have HTK := Lib.hid ht
    have HMU := Lib.hid hmu
    cases st with
    | nil =>
      obtain ⟨oa, cc, rfl⟩ := hm.row.slice
      have hkT : k = T.length := by
        have : T.drop k = [] := ht
        have := List.drop_eq_nil_iff.1 this
        omega
      clear hj hm ht hmu
      gi_wp2
      go_end0
      subst hkT
      exact ⟨⟨_, rfl⟩, _, HJ0.out⟩
    | cons y ys =>
      obtain ⟨rv, rows⟩ := y
      obtain ⟨K, hK⟩ : ∃ K, ys.length = K := ⟨_, rfl⟩
      obtain ⟨oa, cc, hcv⟩ := hm.row.slice
      have e1 : (⟨rv, rows⟩ :: ys : List Fv).reverse[ys.length]? = some ⟨rv, rows⟩ := by simp
      subst hcv
      obtain ⟨g, rfl, hDg, hglt, hlen, hcap, hce, hfr⟩ := hm.row.at_ fvf_len e1
      have hg0 := hce 0 (by decide)
      simp only [Nat.mul_one, Nat.add_zero, fvf, List.getElem?_cons_zero] at hg0
      have hf0 := hfr ys.length
      have hl1 : (⟨rv, rows⟩ :: ys : List Fv).reverse.length = K + 1 := by simp [hK]
      rw [hl1] at HE HMU hcap hlen ⊢
      rw [hK] at hg0 hf0
      have hKb : K ≤ 100001 := by
        have h1 := flatS_length ((⟨rv, rows⟩ :: ys : List Fv).map Fv.rows)
        rw [← ht, List.length_drop, List.length_map, List.length_cons, hK] at h1
        omega
      clear hlen hce hfr e1 hj hm ht hmu
      have hsub := HE.out.sub _ List.mem_cons_self
      dsimp only at hsub
      cases rows with
      | nil =>
        obtain ⟨o2, c2, rfl, _, _⟩ := hsub.slice
        rw [List.length_nil] at hg0
        clear hsub
        rcases Nat.eq_zero_or_pos K with h0K | h0K
        · subst h0K
          have hys : ys = [] := List.length_eq_zero_iff.1 hK
          have hnew : Hid (EachInv D W.heap.size T J (.slice (some ⟨g, 0, none⟩) 0 cc, wr) 0) := Lib.hid (by
            subst hys
            refine ⟨k, [], M, HJ0.out, HE.out.cut, ?_, hk, rfl⟩
            have := HTK.out
            simp only [List.map_cons, List.map_nil, flatS_nil_one] at this
            rw [this]; rfl)
          gi_wp2
          refine ⟨fun _ h => (by cases h), ?_⟩
          gi_wp2
          go_roundw
          case rel => exact ⟨_, hnew.out⟩
          case measure =>
            have h1 := (HM.out _ _ hnew.out).2
            have h2 := HMU.out
            simp only [List.map_cons, leftS] at h2
            omega
        · have hys : ys.map Fv.rows ≠ [] := by
            intro e
            rw [List.map_eq_nil_iff] at e
            subst e
            simp at hK; omega
          have ht2 := HTK.out
          simp only [List.map_cons] at ht2
          rw [flatS_nil hys] at ht2
          obtain ⟨hlt, hat, hdr⟩ := drop_cons ht2
          have HDR := Lib.hid hdr
          obtain ⟨fn, tmps, assign, body, hy, hR'⟩ := HY.out k M wr hlt HJ0.out
          rw [encT_at hat] at hy
          simp only [tShut] at hy
          clear hdr hat ht2 hys
          gi_wp2
          refine ⟨wide_depthW _, hR'.mono ?_⟩
          rintro e W3 ⟨rfl, hJ3, hK3⟩
          have hnew : Hid (EachInv D W.heap.size T J (.slice (some ⟨g, 0, none⟩) K cc, W3) (leftS (ys.map Fv.rows))) := Lib.hid (by
            rw [← hK]
            exact ⟨k + 1, ys, M, hJ3, HE.out.cut.keep hK3 (fun _ h => h), HDR.out, hlt, rfl⟩)
          clear hJ3 hK3 hR' hy
          gi_wp2
          go_roundw
          case rel => exact ⟨_, hnew.out⟩
          case measure =>
            have h1 := (HM.out _ _ hnew.out).2
            have h2 := HMU.out
            simp only [List.map_cons, leftS] at h2
            omega
      | cons x' xs =>
        obtain ⟨b, off, cp, u, rfl, hb, hq, ⟨d0, d1, d2⟩, hu, hxl', hcx, hcm, htl⟩ := ISubsQ.pop hsub
        obtain ⟨ou, cu, rfl, _, _⟩ := hu.slice
        obtain ⟨N', hN'⟩ : ∃ N', x'.sub.length = N' := ⟨_, rfl⟩
        rw [hN'] at d2 hu
        obtain ⟨L', hL'⟩ : ∃ L', xs.length = L' := ⟨_, rfl⟩
        obtain ⟨ad, had⟩ : ∃ ad, (if cp = 0 then some (⟨b, off, none⟩ : Addr) else some ⟨b, off + 3, none⟩) = ad := ⟨_, rfl⟩
        rw [had] at htl
        have HAD := Lib.hid had
        clear had
        have HU := Lib.hid hu
        have HT := Lib.hid htl
        rw [hL'] at HE hg0 hcx
        clear hsub hu htl hq
        have HP := Lib.hid (fun cs => each_pop HJ.out HJ0.out HE.out HT.out HU.out cs)
        rw [hK, hL'] at HP
        have HTK2 := HTK.out
        have HMU2 := HMU.out
        simp only [List.map_cons, leftS, Rose.countL] at HTK2 HMU2
        have hxc := Rose.count_pos x'
        cases hli : x'.lab.list with
        | false =>
          rw [hli] at d1
          rw [flatS_word hli] at HTK2
          obtain ⟨hlt, hat, hdr⟩ := drop_cons HTK2
          have HDR := Lib.hid hdr
          have HAT := Lib.hid (encT_at hat)
          clear hdr hat HTK2
          gi_upto_region 8 with (fail)
          rw [HAD.out]
          have HP2 := Lib.hid (HP.out #[.string (txt x'.lab), .bool false, .slice ou N' cu])
          generalize World.alloc _ _ = W1 at HP2 ⊢
          obtain ⟨M', hJ1, hE1, hB1, hM1, hu1⟩ := HP2.out
          have HE1 := Lib.hid hE1
          have a0 := hB1.cell 0
          have a1 := hB1.cell 1
          obtain ⟨fn, tmps, assign, body, hy, hR'⟩ := HY.out k M' W1 hlt hJ1
          rw [HAT.out] at hy
          simp only [tWord] at hy
          clear HP2 hE1 hB1 hM1 hu1 hJ1 d0 d1 d2 hg0 hf0
          gi_wp2
          refine ⟨wide_depthW _, hR'.mono ?_⟩
          rintro e W3 ⟨rfl, hJ3, hK3⟩
          have hnew : Hid (EachInv D W.heap.size T J (.slice (some ⟨g, 0, none⟩) (K + 1) cc, W3) (leftS (xs :: ys.map Fv.rows))) := Lib.hid
            ⟨k + 1, _, M', hJ3, HE1.out.keep hK3 (fun _ h => h), HDR.out, hlt, rfl⟩
          clear hJ3 hK3 hR' hy
          gi_wp2
          go_roundw
          case rel => exact ⟨_, hnew.out⟩
          case measure =>
            have h1 := (HM.out _ _ hnew.out).2
            simp only [leftS] at h1
            omega
        | true =>
          rw [hli] at d1
          rw [flatS_list hli] at HTK2
          obtain ⟨hlt, hat, hdr⟩ := drop_cons HTK2
          have HDR := Lib.hid hdr
          have HAT := Lib.hid (encT_at hat)
          clear hdr hat HTK2
          gi_upto_region 8 with (fail)
          rw [HAD.out]
          have HP2 := Lib.hid (HP.out #[.string (txt x'.lab), .bool true, .slice ou N' cu])
          generalize World.alloc _ _ = W1 at HP2 ⊢
          obtain ⟨M', hJ1, hE1, hB1, hM1, hu1⟩ := HP2.out
          have HE1 := Lib.hid hE1
          have HU1 := Lib.hid hu1
          have HB1 := Lib.hid hB1
          have a1 := hB1.cell 1
          obtain ⟨fn, tmps, assign, body, hy, hR'⟩ := HY.out k M' W1 hlt hJ1
          rw [HAT.out] at hy
          simp only [tOpen] at hy
          clear HP2 hE1 hB1 hu1 hJ1 d0 d1 d2 hg0 hf0
          gi_wp2
          refine ⟨wide_depthW _, hR'.mono ?_⟩
          rintro e W3 ⟨rfl, hJ3, hK3⟩
          have HJ3 := Lib.hid hJ3
          have hB3 : Blk W3 wr.heap.size #[.string (txt x'.lab), .bool true, .slice ou N' cu] IT := by
            unfold Blk
            rw [hK3.2 wr.heap.size HB1.out.lt (.inr hM1)]; exact HB1.out
          have a2 := hB3.cell 2
          have HE3 := Lib.hid (HE1.out.keep hK3 (fun _ h => h))
          have HU3 : Hid (ISubsQ W3 (fun c => c < D ∨ c = W.heap.size) (.slice ou N' cu) x'.sub) := Lib.hid (Shape.Subs.keep HU1.out hK3.1 (fun _ _ h => h) fun c hc hq => hK3.2 c hc (hq.elim (fun h => .inl h) fun e => .inr (by rw [e]; exact HE1.out.mb)))
          clear hJ3 hK3 hR' hy hB3
          have hxc2 : x'.count = 1 + Rose.countL x'.sub := by cases x'; simp only [Rose.count, Rose.sub] <;> omega
          have ga := Lib.hid (World.grownBy_alloc W3 (.cells #[.slice ou N' cu] ST) none)
          have za : (W3.alloc (.cells #[.slice ou N' cu] ST)).heap.size = W3.heap.size + 1 := by simp
          have hnb := Lib.hid (Blk.new W3 #[.slice ou N' cu] ST)
          have HJ4 := Lib.hid (HJ.out _ _ _ _ none HJ3.out ga.out (fun _ e => by cases e))
          have HE4 := Lib.hid (HE3.out.keep (M' := fun b => M' b ∨ (W3.heap.size ≤ b ∧ b < (W3.alloc (.cells #[.slice ou N' cu] ST)).heap.size)) ⟨ga.out.size, fun b hb _ => ga.out.block b hb (fun e => by cases e)⟩ fun b hb => .inl hb)
          have HU4 : Hid (ISubsQ (W3.alloc (.cells #[.slice ou N' cu] ST)) (fun c => c < D ∨ c = W.heap.size) (.slice ou N' cu) x'.sub) := Lib.hid (Shape.Subs.keep HU3.out ga.out.size (fun _ _ h => h) fun c hc _ => ga.out.block c hc (fun e => by cases e))
          have hDs : D ≤ (W3.alloc (.cells #[.slice ou N' cu] ST)).heap.size := by have := HE4.out.lt; have := HE4.out.db; omega
          have hrl : (⟨.slice ad L' cp, xs⟩ :: ys : List Fv).reverse.length = K + 1 := by simp [hK]
          have hrl2 : (⟨.slice ad L' cp, xs⟩ :: ys : List Fv).length = K + 1 := by simp [hK]
          have hfin : Hid (∀ g2 cap2 w4, OwnG fvf 1 w4 D ST (.slice (some ⟨g2, 0, none⟩) ((⟨.slice ad L' cp, xs⟩ :: ys : List Fv).reverse.length + 1) cap2) ((⟨.slice ad L' cp, xs⟩ :: ys : List Fv).reverse ++ [⟨.slice ou N' cu, x'.sub⟩]) →
              (W3.alloc (.cells #[.slice ou N' cu] ST)).grownBy w4 (some g) → (some g = some g2 ∨ g2 = (W3.alloc (.cells #[.slice ou N' cu] ST)).heap.size) → g2 < w4.heap.size →
              EachInv D W.heap.size T J (.slice (some ⟨g2, 0, none⟩) (K + 1 + 1) cap2, w4) (leftS (x'.sub :: xs :: ys.map Fv.rows))) := Lib.hid fun g2 cap2 w4 h1 h2 h3 h4 => by
            have hj := HJ.out _ _ _ _ _ HJ4.out h2 (fun r e => by cases e; exact (HE4.out.mine g rfl).1)
            have hp := HE4.out.push HU4.out h1 h2 (h3.imp id fun e => by omega) h4
            rw [hrl2] at hp
            exact ⟨k + 1, _, _, hj, hp, HDR.out, hlt, rfl⟩
          gi_wp2_with (gi_at_builtin; refine wpListIn_append_g (y := (⟨.slice ou N' cu, x'.sub⟩ : Fv)) st_row fvf_len rfl _ _ rfl rfl HE4.out.row rfl hnb.out rfl (by simp [fvf, Value.oneCell']) (by rw [hrl]; omega) hDs ?_; intro g2 cap2 w4 hr4 hg4 hat4 hlt4)
          have hnew := hfin.out _ _ _ hr4 hg4 hat4 hlt4
          refine ⟨⟨_, hnew⟩, ?_⟩
          have h1 := (HM.out _ _ hnew).2
          simp only [leftS] at h1
          omega

/-- The closure, as an iterator. -/
theorem each_seq (n : Nat) (x : Rose IL) (bx : Nat) (v : Value) (w : World) (hT : (toks x).length ≤ 100000) (hbx : Blk w bx #[.string (txt x.lab), .bool x.lab.list, v] IT) (hv : ISubs w v x.sub) (hxl : x.lab.text.length ≤ maxLen) :
    SeqMine Fence.wide n Try.prog 58 #[.pointer (some ⟨bx, 0, none⟩)] (encT (toks x)) (toks x).length w := by
  intro l J W hW hJ hY h0
  refine each1_in n l x bx v w.heap.size J W hJ hT hY hW.size (Below.blk hW hbx hbx.lt) (Shape.Subs.keep (Shape.Subs.keep hv (Nat.le_refl _) (Q' := fun c => c < w.heap.size) (fun _ h _ => h) fun _ _ _ => rfl) hW.size (fun _ _ h => h) fun c hc _ => hW.block c hc) hxl h0
end Go.Proofs.Ytopfpfpefljkkaa
