/- The region of ScorePlays that asks for the peers of both; what the law holds. -/
import Derived.Test.YtemfecdpjegocaaDoorPlaysNil
import Derived.Test.YtemfecdpjegocaaDoorPeerFaultN
import Derived.Test.YtemfecdpjegocaaDoorOrd
namespace Go.Proofs.YtemfecdpjegocaaDoor
open Go.RowKit Go.Maps
set_option linter.unusedVariables false
set_option linter.unusedSimpArgs false

/-- The document's Fault. -/
theorem doc_fault {L H N : Nat} {v : Value} {K : List Pr} {w : World} (h : QV w v K) (hK : InvQ K) (hL : L ≤ 1000000) (hH : 1 ≤ H ∧ H ≤ 1099511627776) (hN : N ≤ 1099511627776) (s : ByteArray) (hs : s.size ≤ 100) (now e : Int) :
    Calls Tryd.prog 19 #[.agg #[.int .i64 L, .int .i64 H, .int .i64 N, v], .string s, .int .i64 now, .int .i64 e] w (FaultQPost L H N K s (clampN now) e v w) := by
  by_cases hz : ptsZ e = 0
  · exact doc_fault_zero h hK hH s hs now e hz
  · by_cases c : idxQ K s < K.length
    · exact doc_fault_old h hK hL hH hN s hs now e hz c
    · exact doc_fault_new h hK hL hH hN s hs now e hz c

theorem Blk.type_eq {w : World} {b : Nat} {cs cs' : Array Value} {t t' : TypeId} (h : Blk w b cs t) (h' : Blk w b cs' t') : t = t' := by
  unfold Blk at h h'
  rw [h] at h'
  injection h' with h'
  injection h'
/-- A block of another type is turned: the board stands. -/
theorem RelB.apart {B bb n L H N : Nat} {w w' : World} {K : List Pr} (h : RelB B bb n L H N w K) {b : Nat} {cs : Array Value} {t : TypeId} (hb : Blk w b cs t) (h1 : t ≠ 58) (h2 : t ≠ 62) (hh : ∀ c, c ≠ b → w'.heap[c]? = w.heap[c]?) : RelB B bb n L H N w' K := by
  obtain ⟨bm, sz, acc, ⟨k1, k2, k3, k4, k5, k6, k7, k8⟩, r⟩ := h
  refine ⟨bm, sz, acc, ⟨?_, ?_, ?_, k4, Below.refl _ _, k6, k7, fun b cs t h _ => h⟩, r⟩
  · unfold Blk
    rw [hh bb (fun e => h1 (by subst e; exact hb.type_eq k1))]; exact k1
  · refine k2.block (hh bm fun e => ?_)
    obtain ⟨_, ⟨es, clock, hm, _⟩, _⟩ := k2
    subst e
    unfold Blk at hb
    rw [hm] at hb
    cases hb
  · intro k a ha
    obtain ⟨⟨m1, m2⟩, m3⟩ := k3 k a ha
    refine ⟨⟨?_, m2⟩, m3⟩
    unfold Blk
    rw [hh a.blk (fun e => h2 (by rw [← e] at hb; exact hb.type_eq m1))]; exact m1
theorem QV.apart {w w' : World} {v : Value} {K : List Pr} (h : QV w v K) {b : Nat} {cs : Array Value} {t : TypeId} (hb : Blk w b cs t) (h1 : t ≠ 53) (hh : ∀ c, c ≠ b → w'.heap[c]? = w.heap[c]?) : QV w' v K := by
  rcases h with ⟨e1, e2⟩ | ⟨g, cap, cs', e1, e2, e3⟩
  · exact .inl ⟨e1, e2⟩
  · refine .inr ⟨g, cap, cs', e1, ?_, e3⟩
    unfold Blk
    rw [hh g (fun e => h1 (by subst e; exact hb.type_eq e2))]; exact e2

/-- What the law holds of both boards. -/
structure SPlay (B0 B bb n L H N : Nat) (ws w : World) (v : Value) (K : List Pr) : Prop where
  rel : RelB B bb n L H N w K
  bel : Below B0 ws w
  qv : QV w v K
  inv : InvQ K
  til : ∀ p ∈ K, p.til ≤ 2305843009213693952 + 1099511627776
  cap : ∀ p ∈ K, p.pts + 1 ≤ L ∨ p.pts = 0
  len : K.length ≤ n
  hB : B0 ≤ B
theorem SPlay.lt {B0 B bb n L H N : Nat} {ws w : World} {v : Value} {K : List Pr} (h : SPlay B0 B bb n L H N ws w v K) : B0 ≤ w.heap.size := by have := h.rel.lt; have := h.hB; omega
theorem SPlay.after {B0 B bb n L H N : Nat} {ws w w' : World} {v : Value} {K : List Pr} (h : SPlay B0 B bb n L H N ws w v K) (hb : Below w.heap.size w w') : SPlay B0 B bb n L H N ws w' v K :=
  ⟨h.rel.after hb, h.bel.trans (hb.mono h.lt), h.qv.below hb, h.inv, h.til, h.cap, h.len, h.hB⟩
theorem SPlay.more {B0 B bb n m L H N : Nat} {ws w : World} {v : Value} {K : List Pr} (h : SPlay B0 B bb n L H N ws w v K) (hm : n ≤ m) : SPlay B0 B bb m L H N ws w v K :=
  ⟨h.rel.more hm, h.bel, h.qv, h.inv, h.til, h.cap, Nat.le_trans h.len hm, h.hB⟩
theorem SPlay.turn {B0 B bb n L H N : Nat} {ws w w' : World} {v : Value} {K : List Pr} (h : SPlay B0 B bb n L H N ws w v K) {b : Nat} {cs : Array Value} {t : TypeId} (hb : Blk w b cs t) (h1 : t ≠ 58) (h2 : t ≠ 62) (h3 : t ≠ 53)
    (hh : ∀ c, c ≠ b → w'.heap[c]? = w.heap[c]?) (hbel : Below B0 ws w') : SPlay B0 B bb n L H N ws w' v K :=
  ⟨h.rel.apart hb h1 h2 hh, hbel, h.qv.apart hb h3 hh, h.inv, h.til, h.cap, h.len, h.hB⟩
theorem SPlay.tab {B0 B bb n L H N : Nat} {ws w : World} {v : Value} {K : List Pr} (h : SPlay B0 B bb n L H N ws w v K) (hT : TabP ws) (h0 : ws.heap.size = B0) : TabP w := hT.below h.bel (h0 ▸ hT.lt)

/-- What each operation of the region leaves. -/
def R32 (bb : Nat) (vx : Value) (ks : List (List UInt8)) : Nat → Value → World → Prop
  | 0, v, _ => v = .pointer (some ⟨bb, 0, none⟩)
  | 1, v, w => StrsAt w v (sortS ks)
  | 2, v, _ => v = vx
  | _, v, w => StrsAt w v (sortS ks)

set_option maxRecDepth 100000 in
set_option maxHeartbeats 1000000 in
theorem plays32 {id : Nat} {Q : Exit → Act → World → Prop} {a0 : Act} {w5 ws : World} {B0 B bb bx n L H N : Nat} {v : Value} {K : List Pr} (h9 : a0.tmps.getD 9 undef = .pointer (some ⟨bb, 0, none⟩)) (h11 : a0.tmps.getD 11 undef = .pointer (some ⟨bx, 0, none⟩))
    (hsz : a0.tmps.size = 218) (hP : SPlay B0 B bb n L H N ws w5 v K) (hx : Blk w5 bx #[.int .i64 L, .int .i64 H, .int .i64 N, v] 43) (hn : n ≤ 100000)
    (hQ : ∀ (x0 l x2 m : Value) W, Below w5.heap.size w5 W → StrsAt W l (sortS (K.map nm)) → StrsAt W m (sortS (K.map nm)) →
      Q .normal { a0 with tmps := (((((a0.tmps.setIfInBounds 160 x0).setIfInBounds 161 l).setIfInBounds 162 x2).setIfInBounds 163 m).setIfInBounds 17 l).setIfInBounds 18 m } W) :
    (Code.region id #[{ dst := some 160, op := Go.Op.move (Go.Operand.tmp 9), type := 26, pos := "law.go:67", after := #[], guard := none }, { dst := some 161, op := Go.Op.call { callee := Go.Callee.value (Go.Operand.func 15), args := #[Go.Operand.tmp 160], argTypes := #[26] }, type := 39, pos := "law.go:67", after := #[{ on := 0, ground := Go.Ground.data }], guard := none }, { dst := some 162, op := Go.Op.load 43 (Go.Operand.tmp 11), type := 43, pos := "law.go:67", after := #[], guard := none }, { dst := some 163, op := Go.Op.call { callee := Go.Callee.value (Go.Operand.func 20), args := #[Go.Operand.tmp 162], argTypes := #[43] }, type := 39, pos := "law.go:67", after := #[{ on := 2, ground := Go.Ground.data }, { on := 1, ground := Go.Ground.chain }], guard := none }, { dst := some 17, op := Go.Op.assign (Go.Operand.tmp 161), type := 39, pos := "law.go:67", after := #[{ on := 1, ground := Go.Ground.data }, { on := 3, ground := Go.Ground.chain }, { on := 0, ground := Go.Ground.phase }, { on := 1, ground := Go.Ground.phase }, { on := 2, ground := Go.Ground.textOnly Go.Departure.lateStores }, { on := 3, ground := Go.Ground.textOnly Go.Departure.lateStoresUnsure }], guard := none }, { dst := some 18, op := Go.Op.assign (Go.Operand.tmp 163), type := 39, pos := "law.go:67", after := #[{ on := 3, ground := Go.Ground.data }, { on := 4, ground := Go.Ground.chain }, { on := 0, ground := Go.Ground.phase }, { on := 1, ground := Go.Ground.phase }, { on := 2, ground := Go.Ground.phase }, { on := 3, ground := Go.Ground.phase }, { on := 4, ground := Go.Ground.phase }], guard := none }] true).wp Tryd.prog Q a0 w5 := by
  have HP := Lib.hid hP
  have hbx := hx.lt
  refine wp_region_ord 4 218 (fun _ => none) (fun W => Below w5.heap.size w5 W) (R32 bb (.agg #[.int .i64 L, .int .i64 H, .int .i64 N, v]) (K.map nm)) (fun _ w w' => Below w.heap.size w w') (by kernel_rfl) hsz (by kernel_rfl) (.inr (by kernel_rfl)) (by kernel_rfl) ((Below.refl _ _).drew) ?_ ?_ ?_
  · intro i j v u u' hi hj hij hw hc hc2 hG hR
    match j, hj with
    | 0, _ => exact hR
    | 2, _ => exact hR
    | 1, _ => exact StrsAt.below hR hG
    | 3, _ => exact StrsAt.below hR hG
  · intro i o' hi ho
    match i, hi with
    | 0, _ =>
      obtain rfl := Option.some.inj ho
      intro vs a W K' hI hR hev hK
      have e9 : a.tmps.getD 9 undef = .pointer (some ⟨bb, 0, none⟩) := (hev 9 (by decide)).trans h9
      go_simp
      exact hK (.pointer (some ⟨bb, 0, none⟩)) _ _ rfl hI rfl (Below.refl _ _)
    | 1, _ =>
      obtain rfl := Option.some.inj ho
      intro vs a W K' hI hR hev hK
      have e160 : a.tmps.getD 160 undef = .pointer (some ⟨bb, 0, none⟩) := (hev 160 (by decide)).trans (hR 0 (by decide) (by decide))
      have e160' : a.tmps[160]?.getD undef = .pointer (some ⟨bb, 0, none⟩) := by simpa using e160
      have CP := Lib.hid (plays_peers (HP.out.rel.after hI) hn)
      go_simp
      refine CP.out.mono ?_
      rintro en w' ⟨vl, rfl, hs, hb⟩
      exact hK vl _ _ rfl (hI.trans (hb.mono hI.size)) hs hb
    | 2, _ =>
      obtain rfl := Option.some.inj ho
      intro vs a W K' hI hR hev hK
      have e11 : a.tmps.getD 11 undef = .pointer (some ⟨bx, 0, none⟩) := (hev 11 (by decide)).trans h11
      have hxW := Below.blk hI hx hbx
      have c0 : W.cell? ⟨bx, 0, none⟩ = some (.int .i64 L) := hxW.cell 0
      have c1 : W.cell? ⟨bx, 1, none⟩ = some (.int .i64 H) := hxW.cell 1
      have c2 : W.cell? ⟨bx, 2, none⟩ = some (.int .i64 N) := hxW.cell 2
      have c3 : W.cell? ⟨bx, 3, none⟩ = some v := hxW.cell 3
      go_simp
      exact hK (.agg #[.int .i64 L, .int .i64 H, .int .i64 N, v]) _ _ rfl hI rfl (Below.refl _ _)
    | 3, _ =>
      obtain rfl := Option.some.inj ho
      intro vs a W K' hI hR hev hK
      have e162 : a.tmps.getD 162 undef = .agg #[.int .i64 L, .int .i64 H, .int .i64 N, v] := (hev 162 (by decide)).trans (hR 2 (by decide) (by decide))
      have e162' : a.tmps[162]?.getD undef = .agg #[.int .i64 L, .int .i64 H, .int .i64 N, v] := by simpa using e162
      have CP := Lib.hid (doc_names (L := L) (H := H) (N := N) (HP.out.qv.below hI) HP.out.inv)
      go_simp
      refine CP.out.mono ?_
      rintro en w' ⟨vl, rfl, hs, hb⟩
      exact hK vl _ _ rfl (hI.trans (hb.mono hI.size)) hs hb
  · intro vs W hI hR
    have hl : StrsAt W (vs 1) (sortS (K.map nm)) := hR 1 (by decide) rfl
    have hm : StrsAt W (vs 3) (sortS (K.map nm)) := hR 3 (by decide) rfl
    show wpList _ _ _ _  { a0 with tmps := ((((a0.tmps.setIfInBounds 160 (vs 0)).setIfInBounds 161 (vs 1)).setIfInBounds 162 (vs 2)).setIfInBounds 163 (vs 3)) } W
    obtain ⟨X, df⟩ := a0
    simp only at hsz h9 h11 hQ ⊢
    simp only [List.drop_succ_cons, List.drop_zero]
    have hq := hQ (vs 0) (vs 1) (vs 2) (vs 3) W hI hl hm
    have f1 : ((((X.setIfInBounds 160 (vs 0)).setIfInBounds 161 (vs 1)).setIfInBounds 162 (vs 2)).setIfInBounds 163 (vs 3)).getD 161 undef = vs 1 := by
      rw [Array.getD_eq_getD_getElem?]
      rw [Array.getElem?_setIfInBounds_ne (by decide), Array.getElem?_setIfInBounds_ne (by decide), Array.getElem?_setIfInBounds_self_of_lt (by simp; omega)]
      rfl
    have f3 : ((((X.setIfInBounds 160 (vs 0)).setIfInBounds 161 (vs 1)).setIfInBounds 162 (vs 2)).setIfInBounds 163 (vs 3)).getD 163 undef = vs 3 := by
      rw [Array.getD_eq_getD_getElem?]
      rw [Array.getElem?_setIfInBounds_self_of_lt (by simp; omega)]
      rfl
    have hYs : ((((X.setIfInBounds 160 (vs 0)).setIfInBounds 161 (vs 1)).setIfInBounds 162 (vs 2)).setIfInBounds 163 (vs 3)).size = 218 := by simp [hsz]
    have hfin := Lib.hid hq
    clear hq hl hm hR hI hx hP HP hQ h9 h11 hsz
    generalize (((X.setIfInBounds 160 (vs 0)).setIfInBounds 161 (vs 1)).setIfInBounds 162 (vs 2)).setIfInBounds 163 (vs 3) = Y at *
    generalize vs 1 = v1 at *
    generalize vs 3 = v3 at *
    have g1 : Y[161]'(by omega) = v1 := by
      rw [Array.getD_eq_getD_getElem?, Array.getElem?_eq_getElem (by omega)] at f1
      simpa using f1
    refine wpList_plain rfl fun K' hK => ?_
    go_simp
    refine hK _ _ ?_
    clear hK K' g1
    have hU163 : (Y.setIfInBounds 17 v1).getD 163 undef = v3 := by
      rw [Array.getD_eq_getD_getElem?, Array.getElem?_setIfInBounds_ne (by decide), ← Array.getD_eq_getD_getElem?]; exact f3
    have hUs : (Y.setIfInBounds 17 v1).size = 218 := by simp [hYs]
    clear f1 f3
    generalize Y.setIfInBounds 17 v1 = U at *
    have hx163 : U[163]'(by omega) = v3 := by
      rw [Array.getD_eq_getD_getElem?, Array.getElem?_eq_getElem (by omega)] at hU163
      simpa using hU163
    refine wpList_plain rfl fun K' hK => ?_
    go_simp
    exact hK _ _ hfin.out
end Go.Proofs.YtemfecdpjegocaaDoor
