/- rlp.Next: what turns its state, call by call. -/
import Derived.Test.YtopfpfpefljkkaaRlpNst
namespace Go.Proofs.Ytopfpfpefljkkaa
open Go.RowKit
set_option linter.unusedVariables false
set_option linter.unusedSimpArgs false

theorem first_err {s : List UInt8} {K M er : Nat} (h : hdx s (decide (K ≤ 0)) (decide (M ≤ 0)) = .error er) : rdI K s M = .error er := by
  refine hdx_rdI ?_
  rw [← h]
  congr 1 <;> (rw [decide_eq_decide]; omega)
theorem first_head {s : List UInt8} {K M : Nat} {q : Bool × Nat × Nat} (h : hdx s (decide (K ≤ 0)) (decide (M ≤ 0)) = .ok q) : s ≠ [] ∧ 0 < K ∧ 0 < M ∧ hd s = .ok q ∧ q.2.1 + q.2.2 ≤ s.length ∧ 0 < q.2.1 + q.2.2 := by
  have e1 : decide (K ≤ 0) = decide (K = 0) := by rw [decide_eq_decide]; omega
  have e2 : decide (M ≤ 0) = decide (M = 0) := by rw [decide_eq_decide]; omega
  rw [e1, e2] at h
  obtain ⟨h1, h2, h3, h4⟩ := hdx_ok h
  obtain ⟨i1, i2, _⟩ := hd_inv h4
  exact ⟨h1, h2, h3, h4, i1, i2⟩
theorem NSt.first_text {s : List UInt8} {K M B bo bw : Nat} {w0 w w' : World} {vr v : Value} {z n : Nat} {Qx : Nat → Prop} (h : hdx s (decide (K ≤ 0)) (decide (M ≤ 0)) = .ok (false, z, n)) (hw0 : Below B w0 w)
    (hs : StkAt w' B bo bw vr []) (hb : Blk w' bw #[.string (txt ⟨(s.drop z).take n, false⟩), .bool false, v] IT) (hv : ISubsQ w' Qx v []) (hQ : ∀ c, Qx c → ¬ avo B bo bw vr c) (hw : Below B w w') :
    NSt s K M (rdI K s M) B bo bw w0 w' (z + n) 1 vr [] := by
  obtain ⟨h1, h2, h3, h4, h5, h6⟩ := first_head h
  refine ⟨hs, hw0.trans hw, h3, by simp, by simp, h5, ?_⟩
  obtain ⟨k, rfl⟩ : ∃ k, K = k + 1 := ⟨K - 1, by omega⟩
  obtain ⟨m, rfl⟩ : ∃ m, M = m + 1 := ⟨M - 1, by omega⟩
  exact ⟨Rose.node ⟨(s.drop z).take n, false⟩ [], v, Qx, rdI_text h1 h4, hb, hv, hQ⟩
theorem NSt.first_list {s : List UInt8} {K M B bo bw : Nat} {w0 w w' : World} {vr v' : Value} {z n : Nat} (h : hdx s (decide (K ≤ 0)) (decide (M ≤ 0)) = .ok (true, z, n)) (hw0 : Below B w0 w)
    (hs : StkAt w' B bo bw vr [⟨v', [], z + n⟩]) (hb : Blk w' bw zero3 IT) (hw : Below B w w') : NSt s K M (rdI K s M) B bo bw w0 w' z 1 vr [⟨v', [], z + n⟩] := by
  obtain ⟨h1, h2, h3, h4, h5, h6⟩ := first_head h
  refine ⟨hs, hw0.trans hw, h3, by simp; omega, by simp, ⟨by show z ≤ z + n; omega, h5⟩, hb, ?_⟩
  obtain ⟨k, rfl⟩ : ∃ k, K = k + 1 := ⟨K - 1, by omega⟩
  obtain ⟨m, rfl⟩ : ∃ m, M = m + 1 := ⟨M - 1, by omega⟩
  exact Go.Proofs.Ytopfpfpefljkkaa.first_list h4 h1 h5

/-- What Next tells. -/
def NextPost (R : RdR) (w : World) (e : Ending) (w' : World) : Prop := match R with
  | .error er => e = .returned (.tuple #[.agg zero3, .int .i64 0, .int .i64 (er : Nat)]) ∧ Below w.heap.size w w'
  | .ok y => ∃ v, e = .returned (.tuple #[.agg #[.string (txt y.1.lab), .bool y.1.lab.list, v], .int .i64 (y.2.1 : Nat), .int .i64 0]) ∧ ISubsQ w' (fun c => w.heap.size ≤ c) v y.1.sub ∧ Below w.heap.size w w'

/-- An open list is not at its end. -/
def Opn (p : Nat) : List Fr → Prop
  | [] => True
  | x :: _ => p < x.e
def fstN : Value → Nat
  | .bool true => 1
  | _ => 0
def stkLen (w : World) (b : Nat) : Nat := match w.cell? ⟨b, 0, none⟩ with
  | some (.slice _ n _) => n
  | _ => 0
theorem hd_errs {l : List UInt8} {er : Nat} (h : hd l = .error er) : er = 2 ∨ er = 3 := by
  have h2 : ∀ (L : Bool) (z n : Nat), hd2 l L z n = .error er → er = 2 ∨ er = 3 := by
    intro L z n h
    unfold hd2 at h
    split at h
    · cases h; exact .inl rfl
    split at h
    · cases h; exact .inr rfl
    · cases h
  cases l with
  | nil => simp only [hd] at h; cases h; exact .inl rfl
  | cons b r =>
    simp only [hd] at h
    generalize (if 192 ≤ b.toNat then (192 : Nat) else 128) = by' at h
    split at h
    · cases h
    split at h
    · exact h2 _ _ _ h
    split at h
    · cases h; exact .inl rfl
    split at h
    · cases h; exact .inr rfl
    · exact h2 _ _ _ h
theorem hdx_errs {l : List UInt8} {a b : Bool} {er : Nat} (h : hdx l a b = .error er) : 2 ≤ er ∧ er ≤ 6 := by
  unfold hdx at h
  split at h
  · cases h; decide
  split at h
  · cases h; decide
  split at h
  · cases h; decide
  · have := hd_errs h; omega
theorem hd_list_pos {l : List UInt8} {z n : Nat} (h : hd l = .ok (true, z, n)) : 0 < z := by
  obtain ⟨_, _, _, h4⟩ := hd_inv h
  rcases h4 with ⟨h5, _⟩ | ⟨_, _, h5⟩
  · cases h5
  · exact h5
theorem ext_seg {s : ByteArray} {l : List UInt8} (h : s.data.toList = l) (p e : Nat) : (s.extract p e).data.toList = seg l p e := by
  subst h
  simp only [ByteArray.data_extract, Array.toList_extract, List.extract, seg]
theorem seg_all (l : List UInt8) : seg l 0 l.length = l := by simp [seg]
theorem StkAt.fut {w w' : World} {B bo bw : Nat} {vr : Value} {st : List Fr} (h : StkAt w B bo bw vr st) (hb : Below w.heap.size w w') : StkAt w' B bo bw vr st :=
  ⟨Below.blk hb h.ho h.ho.lt, h.row.below hb, h.nbo, h.nbw, h.lev.below hb, h.hbo, h.hbw, h.ne, Nat.lt_of_lt_of_le h.lt hb.size⟩
theorem NSt.fut {s : List UInt8} {K M : Nat} {R : RdR} {B bo bw : Nat} {w0 w w' : World} {p c : Nat} {vr : Value} {st : List Fr} (h : NSt s K M R B bo bw w0 w p c vr st) (hb : Below w.heap.size w w') : NSt s K M R B bo bw w0 w' p c vr st := by
  have hlt := h.stk.lt
  refine ⟨h.stk.fut hb, h.below.trans (hb.mono (by have := h.stk.hbw; omega)), h.hc, h.len, h.Ls, h.ends, ?_⟩
  cases st with
  | nil =>
    obtain ⟨x, v, Qx, h1, h2, h3, h4⟩ := h.res
    exact ⟨x, v, Qx, h1, Below.blk hb h2 hlt, Shape.Subs.below h3 hb, h4⟩
  | cons x xs => exact ⟨Below.blk hb h.res.1 hlt, h.res.2⟩
/-- 'append(l, x)' of one element, at an operation of a plain region. -/
theorem wpList_append_g {β : Type} {f : β → List Value} {k : Nat} {P : Program} {st t : TypeId} (T : RowTypes P st t k) (hk : ∀ y, (f y).length = k) {ops : Array Oper} {rest : List Oper} {o : Oper} {a : Act} {Q : Exit → Act → World → Prop} (hgd : o.guard = none) (s x : Operand)
    (ho : o.op = .call { callee := .builtin .append, args := #[s, x], argTypes := #[st, st] }) {w : World} {B b c : Nat} {v : Value} {L : List β} {y : β} {cs : Array Value} {t' : TypeId} (hs : a.eval s = v) (hown : OwnG f k w B t v L)
    (hx : a.eval x = .slice (some ⟨b, 0, none⟩) 1 c) (hb : Blk w b cs t') (hcs : cs.toList = f y) (h1 : ∀ u ∈ f y, u.oneCell' = true) (hlen : L.length ≤ 1000000) (hB : B ≤ w.heap.size)
    (h : ∀ g cap w', OwnG f k w' B t (.slice (some ⟨g, 0, none⟩) (L.length + 1) cap) (L ++ [y]) → w.grownBy w' v.ownBlock → (v.ownBlock = some g ∨ g = w.heap.size) → g < w'.heap.size → wpList P ops Q rest (a.put o.dst (.slice (some ⟨g, 0, none⟩) (L.length + 1) cap)) w') :
    wpList P ops Q (o :: rest) a w := by
  refine wpList_plain hgd fun K hK => ?_
  obtain ⟨g, cap, w', hr, h2, h3, h4, h5, _⟩ := run_append_g (ty := o.type) T hk hown hb hcs h1 hlen hB
  unfold Oper.wp execOp
  simp only [ho, resolve, invoke, builtin, Sem.run_bind, Sem.run_pure, Result.andThen_ok, List.map_toArray, List.map_cons, List.map_nil, hs, hx]
  rw [hr]
  exact hK _ _ (h g cap w' h2 h3 h4 h5)
/-- Behind the row's growth: the variable may be stored to. -/
theorem stk_open {w w1 w2 : World} {B bo bw : Nat} {vr : Value} {st : List Fr} (h : StkAt w B bo bw vr st) (hw : Below w.heap.size w w1) (hg : w1.grownBy w2 vr.ownBlock) : w2.cell? ⟨bo, 0, none⟩ = some vr ∧ w2.frozen? ⟨bo, 0, none⟩ = false := by
  have hb1 := Below.blk hw h.ho h.ho.lt
  have hb2 : Blk w2 bo #[vr] OT := by
    unfold Blk
    rw [hg.block bo hb1.lt fun e => h.nbo e.symm]; exact hb1
  exact ⟨hb2.cell 0, hb2.free 0⟩
/-- What the result's block holds. -/
theorem n_res {g : Nat} {wa w : World} (h : Blk wa g zero3 IT) (hb : Below (g + 1) wa w) : (w.cell? ⟨g, 0, none⟩ = some (.string ⟨#[]⟩) ∧ w.cell? ⟨g, 1, none⟩ = some (.bool false) ∧ w.cell? ⟨g, 2, none⟩ = some (.slice none 0 0)) ∧
    (w.frozen? ⟨g, 0, none⟩ = false ∧ w.frozen? ⟨g, 1, none⟩ = false ∧ w.frozen? ⟨g, 2, none⟩ = false) ∧ Blk w g zero3 IT := by
  have := Below.blk hb h (Nat.lt_succ_self g)
  exact ⟨⟨this.cell 0, this.cell 1, this.cell 2⟩, ⟨this.free 0, this.free 1, this.free 2⟩, this⟩
theorem n_put {g : Nat} {w0 wa w : World} {a b c : Value} (h0 : Below g w0 wa) (hsa : g < wa.heap.size) (hb : Below (g + 1) wa w) (hr : Blk w g zero3 IT) : Blk (put3 w g 0 a b c) g #[a, b, c] IT ∧ Below g w0 (put3 w g 0 a b c) := by
  refine ⟨?_, ?_⟩
  · have := ((hr.set 0 a).set 1 b).set 2 c
    exact this
  · have h1 : Below g w0 w := h0.trans (hb.mono (by omega))
    exact Upd.below (put3_upd w g 0 a b c) h1 (Nat.le_refl _) (by have := hb.size; omega)
/-- What Next makes at first. -/
structure NIni (l : List UInt8) (g : Nat) (w wa W : World) : Prop where
  stk : StkAt W (g + 1) (g + 1) (g + 2) (.slice none 0 0) []
  whole : Blk W (g + 2) zero3 IT
  res : Blk wa g zero3 IT
  ba : Below g w wa
  bw : Below (g + 1) wa W
  o0 : W.cell? ⟨g + 1, 0, none⟩ = some (.slice none 0 0)
theorem n_ini {l : List UInt8} {g : Nat} {w wa wb W : World} (hg : w.heap.size = g) (ha : w.alloc (.cells #[.string ⟨#[]⟩, .bool false, .slice none 0 0] IT) = wa) (hb : wa.alloc (.cells #[.slice none 0 0] OT) = wb)
    (hc : wb.alloc (.cells #[.string ⟨#[]⟩, .bool false, .slice none 0 0] IT) = W) : NIni l g w wa W := by
  have s1 : wa.heap.size = g + 1 := by rw [← ha]; simp; omega
  have s2 : wb.heap.size = g + 2 := by rw [← hb]; simp; omega
  have s3 : W.heap.size = g + 3 := by rw [← hc]; simp; omega
  have b1 : Below g w wa := by rw [← ha, ← hg]; exact (Below.refl _ w).alloc (Nat.le_refl _) _
  have b2 : Below (g + 1) wa wb := by rw [← hb, ← s1]; exact (Below.refl _ wa).alloc (Nat.le_refl _) _
  have b3 : Below (g + 2) wb W := by rw [← hc, ← s2]; exact (Below.refl _ wb).alloc (Nat.le_refl _) _
  have k1 : Blk wa g zero3 IT := by have := Blk.new w #[.string ⟨#[]⟩, .bool false, .slice none 0 0] IT; rw [ha, hg] at this; exact this
  have k2 : Blk wb (g + 1) #[.slice none 0 0] OT := by have := Blk.new wa #[.slice none 0 0] OT; rw [hb, s1] at this; exact this
  have k3 : Blk W (g + 2) zero3 IT := by have := Blk.new wb #[.string ⟨#[]⟩, .bool false, .slice none 0 0] IT; rw [hc, s2] at this; exact this
  have k2' : Blk W (g + 1) #[.slice none 0 0] OT := Below.blk b3 k2 (by omega)
  exact ⟨⟨k2', OwnG.nil _ _ _, by simp [Value.ownBlock], by simp [Value.ownBlock], trivial, by omega, by omega, by omega, by omega⟩, k3, k1, b1, b2.trans (b3.mono (by omega)), k2'.cell 0⟩

theorem stk_len {w : World} {B bo bw : Nat} {vr : Value} {st : List Fr} (h : StkAt w B bo bw vr st) : stkLen w bo = st.length := by
  obtain ⟨oa, cap, hv⟩ := h.row.slice
  have := h.ho.cell 0
  rw [hv] at this
  unfold stkLen
  rw [this]
  simp
section
variable {l : List UInt8} {K M : Nat} {R : RdR} {g : Nat} {wa w : World} {p c : Nat} {vr : Value}
theorem nst_cells {x : Fr} {xs : List Fr} {N : Nat} (h : NSt l K M R (g + 1) (g + 1) (g + 2) wa w p c vr (x :: xs)) (hN : xs.length = N) : ∃ go cr, vr = .slice (some ⟨go, 0, none⟩) (N + 1) cr ∧
    w.cell? ⟨go, N * 2, none⟩ = some x.v ∧ w.cell? ⟨go, N * 2 + 1, none⟩ = some (.int .i64 (x.e : Nat)) ∧ w.cell? ⟨g + 1, 0, none⟩ = some (.slice (some ⟨go, 0, none⟩) (N + 1) cr) ∧ w.frozen? ⟨g + 1, 0, none⟩ = false ∧ N + 1 ≤ cr ∧ N + 1 ≤ K := by
  obtain ⟨oa, cr, hvr⟩ := h.stk.row.slice
  have hrl : (x :: xs).reverse.length = N + 1 := by simp [hN]
  rw [hrl] at hvr
  subst hvr
  obtain ⟨go, rfl, _, _, _, hcap, hcell, _⟩ := OwnG.at_ h.stk.row rf2_len (i := N) (y := x) (by simp [← hN])
  have := h.len
  rw [List.length_cons, hN] at this
  exact ⟨go, cr, rfl, hcell 0 (by decide), hcell 1 (by decide), h.stk.ho.cell 0, h.stk.ho.free 0, hcap, this⟩
theorem nst_top {x : Fr} {xs : List Fr} {ML : Nat} (h : NSt l K M R (g + 1) (g + 1) (g + 2) wa w p c vr (x :: xs)) (hM : x.L.length = ML) : ∃ ov cv, x.v = .slice ov ML cv ∧ ML ≤ cv ∧ ML ≤ c := by
  obtain ⟨Q, _, h1, _⟩ := h.stk.lev
  obtain ⟨ov, cv, h2, h3, _⟩ := ISubsQ.slice h1.subs
  rw [List.length_map, hM] at h2 h3
  have := h.Ls
  simp at this
  exact ⟨ov, cv, h2, h3, by omega⟩
theorem nst_opn {x : Fr} {xs : List Fr} (h : NSt l K M R (g + 1) (g + 1) (g + 2) wa w p c vr (x :: xs)) (he : ¬ x.e = p) : Opn p (x :: xs) := by
  have := h.ends.1
  show p < x.e
  omega
theorem nst_pop_whole {x : Fr} {go cr ML cv : Nat} {ov : Option Addr} (h : NSt l K M R (g + 1) (g + 1) (g + 2) wa w p c (.slice (some ⟨go, 0, none⟩) (0 + 1) cr) [x]) (he : x.e = p) (hv : x.v = .slice ov ML cv) (hM : x.L.length = ML) :
    Calls Try.prog 35 #[.agg #[.string ⟨#[]⟩, .bool true, .slice ov ML ML], .pointer (some ⟨g + 1, 0, none⟩), .pointer (some ⟨g + 2, 0, none⟩)] (w.setCell ⟨g + 1, 0, none⟩ (.slice (some ⟨go, 0, none⟩) 0 cr))
      fun e w' => e = .returned (.tuple #[]) ∧ NSt l K M R (g + 1) (g + 1) (g + 2) wa w' p c (.slice (some ⟨go, 0, none⟩) 0 cr) [] := by
  obtain ⟨Q, h1, h2, h3, _, hb, hfar⟩ := stk_pop h.stk rfl
  rw [hv] at h2
  have hs := h2.subs
  have hne : g + 2 ≠ g + 1 := by omega
  have hbw : Blk (w.setCell ⟨g + 1, 0, none⟩ (.slice (some ⟨go, 0, none⟩) 0 cr)) (g + 2) zero3 IT := by
    unfold Blk
    rw [hfar _ hne]; exact h.res.1
  have := next_add_whole (w.setCell ⟨g + 1, 0, none⟩ (.slice (some ⟨go, 0, none⟩) 0 cr)) (g + 1) (g + 1) (g + 2) _ ⟨⟨[], true⟩, .slice ov ML ML, x.L.map Elt.tree⟩ Q _ _ _ h1 hbw (subs_cap hs) h3
  refine this.mono fun e w' ⟨he', k1, k2, k3, k4⟩ => ⟨he', NSt.whole h he k1 k2 k3 h3 (hb.trans k4)⟩
theorem nst_pop_top {x x2 : Fr} {xs : List Fr} {go cr ML cv N : Nat} {ov : Option Addr} (h : NSt l K M R (g + 1) (g + 1) (g + 2) wa w p c (.slice (some ⟨go, 0, none⟩) (N + 1 + 1) cr) (x :: x2 :: xs)) (he : x.e = p) (hv : x.v = .slice ov ML cv) (hM : x.L.length = ML)
    (hN : (x2 :: xs).length = N + 1) (hK : K ≤ 16) (hM1 : M ≤ 1024) :
    Calls Try.prog 35 #[.agg #[.string ⟨#[]⟩, .bool true, .slice ov ML ML], .pointer (some ⟨g + 1, 0, none⟩), .pointer (some ⟨g + 2, 0, none⟩)] (w.setCell ⟨g + 1, 0, none⟩ (.slice (some ⟨go, 0, none⟩) (N + 1) cr))
      fun e w' => e = .returned (.tuple #[]) ∧ ∃ v', NSt l K M R (g + 1) (g + 1) (g + 2) wa w' p c (.slice (some ⟨go, 0, none⟩) (N + 1) cr) (⟨v', x2.L ++ [⟨⟨[], true⟩, .slice ov ML ML, x.L.map Elt.tree⟩], x2.e⟩ :: xs) := by
  obtain ⟨Q, h1, h2, h3, h4, hb, hfar⟩ := stk_pop h.stk hN
  rw [hv] at h2
  have hs := h2.subs
  have hne : g + 2 ≠ g + 1 := by omega
  have hbw : Blk (w.setCell ⟨g + 1, 0, none⟩ (.slice (some ⟨go, 0, none⟩) (N + 1) cr)) (g + 2) zero3 IT := by
    unfold Blk
    rw [hfar _ hne]; exact h.res.1
  have hlen := h.len
  have hLs := h.Ls
  have hc := h.hc
  simp at hlen hLs hN
  have := next_add_top x2 xs (w.setCell ⟨g + 1, 0, none⟩ (.slice (some ⟨go, 0, none⟩) (N + 1) cr)) (g + 1) (g + 1) (g + 2) _ ⟨⟨[], true⟩, .slice ov ML ML, x.L.map Elt.tree⟩ Q _ h1 (by omega) (by omega) hbw (subs_cap hs) h3 h4 (Nat.zero_le _)
  refine this.mono fun e w' ⟨he', v', k1, k2, k3⟩ => ⟨he', v', NSt.close h he rfl k1 k2 (hb.trans k3)⟩
theorem txt_ext {s : ByteArray} (hl : s.data.toList = l) (p n : Nat) : txt ⟨(l.drop p).take n, false⟩ = s.extract p (p + n) := bext (by
  rw [ext_seg hl]
  show (l.drop p).take n = (l.drop p).take (p + n - p)
  rw [show p + n - p = n by omega])
theorem n_first_text {s : ByteArray} {z n : Nat} (hl : s.data.toList = l) (hR : rdI K l M = R) (hH : hdx l (decide (K ≤ 0)) (decide (M ≤ 0)) = .ok (false, z, n)) (hs : StkAt w (g + 1) (g + 1) (g + 2) vr []) (hb : Blk w (g + 2) zero3 IT) (hw : Below (g + 1) wa w) :
    Calls Try.prog 35 #[.agg #[.string (s.extract z (z + n)), .bool false, .slice none 0 0], .pointer (some ⟨g + 1, 0, none⟩), .pointer (some ⟨g + 2, 0, none⟩)] w
      fun e w' => e = .returned (.tuple #[]) ∧ NSt l K M R (g + 1) (g + 1) (g + 2) wa w' (z + n) 1 vr [] := by
  have := next_add_whole w (g + 1) (g + 1) (g + 2) vr ⟨⟨(l.drop z).take n, false⟩, .slice none 0 0, []⟩ (fun _ => False) _ _ _ hs hb ⟨none, 0, rfl, Nat.le_refl _, Nat.zero_le _, fun h => absurd h (by simp)⟩ (fun _ h => h.elim)
  rw [txt_ext hl] at this
  refine this.mono fun e w' ⟨he', k1, k2, k3, k4⟩ => ⟨he', ?_⟩
  rw [← hR]
  rw [← txt_ext hl] at k2
  exact NSt.first_text hH hw k1 k2 k3 (fun _ h => h.elim) k4
theorem n_text {s : ByteArray} {x : Fr} {xs : List Fr} {z n : Nat} (hl : s.data.toList = l) (hs : s.size ≤ 100000) (h : NSt l K M R (g + 1) (g + 1) (g + 2) wa w p c vr (x :: xs)) (hp : p < x.e) (hK : K ≤ 16) (hM : M ≤ 1024)
    (hH : hdx (seg l p x.e) (decide (K ≤ (x :: xs).length)) (decide (M ≤ c)) = .ok (false, z, n)) :
    Calls Try.prog 35 #[.agg #[.string (s.extract (p + z) (p + z + n)), .bool false, .slice none 0 0], .pointer (some ⟨g + 1, 0, none⟩), .pointer (some ⟨g + 2, 0, none⟩)] w
      fun e w' => e = .returned (.tuple #[]) ∧ ∃ x', x'.e = x.e ∧ NSt l K M R (g + 1) (g + 1) (g + 2) wa w' (p + z + n) (c + 1) vr (x' :: xs) := by
  have hlen := h.len
  have hLs := h.Ls
  have hc := h.hc
  simp at hlen hLs
  have ht : txt ⟨seg l (p + z) (p + z + n), false⟩ = s.extract (p + z) (p + z + n) := bext (ext_seg hl _ _).symm
  have hll : l.length = s.size := by rw [← hl]; simp
  have := next_add_top x xs w (g + 1) (g + 1) (g + 2) vr ⟨⟨seg l (p + z) (p + z + n), false⟩, .slice none 0 0, []⟩ (fun _ => False) _ h.stk (by omega) (by omega) h.res.1 ⟨none, 0, rfl, Nat.le_refl _, Nat.zero_le _, fun h => absurd h (by simp)⟩ (fun _ h => h.elim)
    (h.stk.lev.keep (Nat.le_refl _) (fun _ _ _ => rfl) fun c _ hc => hc.elim id False.elim) (by
      show (seg l (p + z) (p + z + n)).length ≤ maxLen
      unfold seg maxLen
      simp; omega)
  rw [ht] at this
  exact this.mono fun e w' ⟨he', v', k1, k2, k3⟩ => ⟨he', ⟨v', _, x.e⟩, rfl, NSt.text h hp hH rfl k1 k2 k3⟩
theorem n_list {x f : Fr} {xs : List Fr} {w1 w2 : World} {z n gg cap N : Nat} (h : NSt l K M R (g + 1) (g + 1) (g + 2) wa w p c vr (x :: xs)) (hp : p < x.e) (hN : xs.length = N)
    (hH : hdx (seg l p x.e) (decide (K ≤ (x :: xs).length)) (decide (M ≤ c)) = .ok (true, z, n)) (hw : Below w.heap.size w w1) (hf : f = ⟨.slice none 0 0, [], p + z + n⟩)
    (hrow : OwnG rf2 2 w2 (g + 1) RT (.slice (some ⟨gg, 0, none⟩) ((x :: xs).reverse.length + 1) cap) ((x :: xs).reverse ++ [f])) (hg : w1.grownBy w2 vr.ownBlock) (hat : vr.ownBlock = some gg ∨ gg = w1.heap.size) :
    NSt l K M R (g + 1) (g + 1) (g + 2) wa (w2.setCell ⟨g + 1, 0, none⟩ (.slice (some ⟨gg, 0, none⟩) (N + 1 + 1) cap)) (p + z) (c + 1) (.slice (some ⟨gg, 0, none⟩) (N + 1 + 1) cap) (f :: x :: xs) := by
  subst hf hN
  rw [List.length_reverse] at hrow
  obtain ⟨q1, q2, q3⟩ := stk_push h.stk hw ⟨rfl, rfl⟩ hrow hg hat
  exact NSt.list h hp hH q1 ((q3 _ h.stk.lt (by omega) h.stk.nbw).trans h.res.1) q2
end
end Go.Proofs.Ytopfpfpefljkkaa
