/- The document's tokens of an item. -/
import Derived.Test.YtopfpfpefljkkaaWalkOf
namespace Go.Proofs.Ytopfpfpefljkkaa
open Go.RowKit
set_option linter.unusedVariables false
set_option linter.unusedSimpArgs false

abbrev DT : TypeId := 89
abbrev DS : TypeId := 52
theorem dk_row : RowTypes Try.prog DS DT 2 := ⟨Try.underlying52, ⟨.agg #[.int .i64 0, .string ⟨#[]⟩], 24, by
  obtain ⟨i, h1, h2, h3, h4⟩ := info_parts (show (Try.prog.info? DT).map (fun i => (i.zero, i.size, i.bytes)) = some (some (.agg #[.int .i64 0, .string ⟨#[]⟩]), 2, 24) by kernel_rfl)
  exact ⟨i, h1, h2, h3, h4, by decide, rfl⟩⟩, by decide⟩

/-- 'append(l, m...)' of elements, whose cells are known. -/
theorem wpList_append_gs {β : Type} {f : β → List Value} {k : Nat} {P : Program} {st t : TypeId} (T : RowTypes P st t k) (hk : ∀ y, (f y).length = k) {ops : Array Oper} {rest : List Oper} {o : Oper} {a : Act} {Q : Exit → Act → World → Prop} (hgd : o.guard = none) (s x : Operand)
    (ho : o.op = .call { callee := .builtin .append, args := #[s, x], argTypes := #[st, st] }) {w : World} {B b n c : Nat} {v : Value} {L M : List β} (hs : a.eval s = v) (hown : OwnG f k w B t v L)
    (hx : a.eval x = .slice (some ⟨b, 0, none⟩) n c) (hn : M.length = n) (hc : ∀ j u, (M.flatMap f)[j]? = some u → w.cell? ((⟨b, 0, none⟩ : Addr).add j) = some u) (h1 : ∀ u ∈ M.flatMap f, u.oneCell' = true) (hpos : 0 < M.length) (hlen : L.length + M.length ≤ 1000000) (hB : B ≤ w.heap.size)
    (h : ∀ g cap w', OwnG f k w' B t (.slice (some ⟨g, 0, none⟩) (L.length + M.length) cap) (L ++ M) → w.grownBy w' v.ownBlock → (v.ownBlock = some g ∨ g = w.heap.size) → g < w'.heap.size → wpList P ops Q rest (a.put o.dst (.slice (some ⟨g, 0, none⟩) (L.length + M.length) cap)) w') :
    wpList P ops Q (o :: rest) a w := by
  refine wpList_plain hgd fun K hK => ?_
  obtain ⟨z, bytes, i, hi, hz, hsz, hby, hle, hzs⟩ := T.hi
  have hby2 : (L.length + M.length) * bytes ≤ 140737488355328 := Nat.le_trans (Nat.mul_le_mul hlen hle) (by decide)
  obtain ⟨g, cap, w', hr, h2, h3, h4, h5⟩ := run_append_lies (P := P) w st o.type B t i z k bytes T.ht hi hz hsz hby hzs T.pos v L.length (L.flatMap f) hown ⟨b, 0, none⟩ M.length c (M.flatMap f) (flat_length hk M) hc h1 hpos (by unfold maxLen; omega) hby2 hB _ rfl
  unfold Oper.wp execOp
  simp only [ho, resolve, invoke, builtin, Sem.run_bind, Sem.run_pure, Result.andThen_ok, List.map_toArray, List.map_cons, List.map_nil, hs, hx]
  rw [← hn, hr]
  refine hK _ _ (h g cap w' ?_ h3 h4 h5)
  unfold OwnG
  rw [List.length_append, List.flatMap_append]
  exact h2
theorem tkf_one (M : List Tk) : ∀ u ∈ M.flatMap tkf, u.oneCell' = true := by
  intro u hu
  obtain ⟨t, _, h⟩ := List.mem_flatMap.1 hu
  simp [tkf] at h
  rcases h with rfl | rfl <;> rfl
theorem OwnG.cells_of {β : Type} {f : β → List Value} {k : Nat} {w : World} {B : Nat} {t : TypeId} {b n c : Nat} {M : List β} (h : OwnG f k w B t (.slice (some ⟨b, 0, none⟩) n c) M) : ∀ j u, (M.flatMap f)[j]? = some u → w.cell? ((⟨b, 0, none⟩ : Addr).add j) = some u :=
  World.ownsRow.cells h (g := b) rfl
/-- One element in a new block. -/
theorem own_one {w : World} {B : Nat} {t : TypeId} {y : Tk} (hB : B ≤ w.heap.size) : OwnG tkf 2 (w.alloc (.cells #[.int .i64 y.kind, .string y.text] t)) B t (.slice (some ⟨w.heap.size, 0, none⟩) 1 1) [y] :=
  OwnG.of (f := tkf) (k := 2) (L := [y]) hB (Blk.new w _ t) (by simp) (by decide) (by simp) tkf_len (by simp [tkf])

set_option maxRecDepth 100000 in
set_option maxHeartbeats 4000000 in
theorem doc_of (x : Rose IL) : ∀ (w : World) (v : Value), ISubs w v x.sub → x.count ≤ 100000 →
    Calls Try.prog 29 #[.agg #[.string (txt x.lab), .bool x.lab.list, v]] w fun e w' => ∃ g c, e = .returned (.slice (some ⟨g, 0, none⟩) (toks x).length c) ∧ OwnG tkf 2 w' w.heap.size DT (.slice (some ⟨g, 0, none⟩) (toks x).length c) (toks x) ∧ Below w.heap.size w w' := by
  induction x using Rose.ind with
  | h a s ih =>
    intro w v hv hc
    have htk := toks_le (.node a s)
    have hlist : a.list = true → toks (.node a s) = tOpen :: toksL s ++ [tShut] := fun h => toks_list (x := .node a s) h
    have hword : a.list = false → toks (.node a s) = [tWord a] := fun h => toks_word (x := .node a s) h
    simp only [Rose.sub_node, Rose.lab_node, Rose.count] at hv hc htk ⊢
    obtain ⟨T, hT⟩ : ∃ T, toks (.node a s) = T := ⟨_, rfl⟩
    rw [hT] at hlist hword htk ⊢
    have HLI := Lib.hid (And.intro hlist hword)
    obtain ⟨oa, cap, rfl, hcap, hml⟩ := ISubsQ.slice hv
    obtain ⟨g, hg⟩ : ∃ g, w.heap.size = g := ⟨_, rfl⟩
    have HW := Lib.hid (box_item (T := txt a) (l := a.list) (t := IT) hv)
    have hls := Rose.length_le_countL s
    obtain ⟨M, hM⟩ : ∃ M, s.length = M := ⟨_, rfl⟩
    have HM := Lib.hid hM
    have IH := Lib.hid ih
    obtain ⟨C, hC⟩ : ∃ C, Rose.countL s = C := ⟨_, rfl⟩
    have HC := Lib.hid hC
    rw [hg] at HW ⊢
    rw [hM] at HW hls ⊢
    rw [hC] at hc hls htk
    have HTL := Lib.hid htk.1
    clear hv hcap hml ih hM hC hT htk hlist hword
    go_enter Try.func29, Try.ntmps29
    go_upto_region 1 with fail
    generalize w.alloc (.cells #[.string (txt a), .bool a.list, .slice oa M cap] IT) = w1 at *
    obtain ⟨hb1, ht1, hsz, c0, c1, c2, hB1⟩ := HW.out _ rfl
    have H1 := Lib.hid (And.intro hb1 ht1)
    clear HW hb1 ht1
    cases hli : a.list with
    | false =>
      rw [hli] at c1
      have hF : Hid (OwnG tkf 2 (w1.alloc (.cells #[.int .i64 3, .string (txt a)] DT)) g DT (.slice (some ⟨g + 1, 0, none⟩) 1 1) [tWord a]) := Lib.hid (by rw [← hsz]; exact own_one (y := tWord a) (by omega))
      have hF2 := Lib.hid (H1.out.1.alloc (by omega) (.cells #[.int .i64 3, .string (txt a)] DT))
      have hTT := Lib.hid (HLI.out.2 hli)
      clear hB1
      go_wp2_with fail
      go_returns
      rw [hTT.out]
      exact ⟨_, _, rfl, hF.out, hF2.out⟩
    | true =>
      rw [hli] at c1
      have hTT := Lib.hid (HLI.out.1 hli)
      have hF : Hid (OwnG tkf 2 (w1.alloc (.cells #[.int .i64 1, .string ⟨#[]⟩] DT)) (g + 1) DT (.slice (some ⟨g + 1, 0, none⟩) 1 1) [tOpen]) := Lib.hid (by have := own_one (w := w1) (t := DT) (y := tOpen) (B := g + 1) (by omega); rw [hsz] at this; exact this)
      have hF2 := Lib.hid ((Below.refl (g + 1) w1).alloc (by omega) (.cells #[.int .i64 1, .string ⟨#[]⟩] DT))
      go_wp2_with fail
      go_loopw [3, 4] (fun ov iv wi => ∃ k : Nat, iv = .int .i64 k ∧ k ≤ M ∧ Hid (OwnG tkf 2 wi (g + 1) DT ov (tOpen :: toksL (s.take k))) ∧ Hid (Below (g + 1) w1 wi)) (fun _ iv _ => M - (intOf iv).toNat)
      case atStart => exact ⟨0, rfl, by omega, by unfold Hid; rw [List.take_zero, toksL_nil]; exact hF.out, hF2⟩
      case round =>
        obtain ⟨k, rfl, hk, ho, hbe⟩ := hrel
        have hcr : wr.cell? ⟨g, 2, none⟩ = some (.slice oa M cap) := (hbe.out.cell (p := ⟨g, 2, none⟩) (Nat.lt_succ_self g)).trans c2
        have hle := toksL_le (s.take (k + 1))
        have hle2 := Rose.countL_take_le s (k + 1)
        rw [HC.out] at hle2
        have hsz1 := hbe.out.size
        by_cases c : k < M
        · obtain ⟨hc', y, hy⟩ : ∃ h : k < s.length, ∃ y, s[k]? = some y := ⟨by rw [HM.out]; exact c, _, List.getElem?_eq_getElem (by rw [HM.out]; exact c)⟩
          obtain ⟨b, off, u, rfl, hlt, _, y0, y1, y2, hu, hwf⟩ := ISubsQ.at_ (Shape.Subs.below H1.out.2 (hsz ▸ hbe.out)) hy
          have hyc : y.count ≤ C := by rw [← HC.out]; exact Rose.countL_mem (List.mem_of_getElem? hy)
          have CY := Lib.hid (IH.out y (List.mem_of_getElem? hy) wr u hu (by omega))
          have het : tOpen :: toksL (s.take (k + 1)) = (tOpen :: toksL (s.take k)) ++ toks y := by rw [toksL_take hy]; rfl
          have HET := Lib.hid het
          have hlen := congrArg List.length het
          rw [List.length_append, List.length_cons] at hlen
          obtain ⟨L, hL⟩ : ∃ L, tOpen :: toksL (s.take k) = L := ⟨_, rfl⟩
          rw [hL] at ho HET hlen
          obtain ⟨oo, co, rfl⟩ := ho.out.slice
          have hpos := (toks_le y).2
          have hlen2 : L.length + (toks y).length ≤ 1000000 := by omega
          obtain ⟨N, hN⟩ : ∃ N, L.length = N := ⟨_, rfl⟩
          obtain ⟨N2, hN2⟩ : ∃ N2, (toks y).length = N2 := ⟨_, rfl⟩
          have HN := Lib.hid (And.intro hN hN2)
          have HO := Lib.hid ho
          have HLE := Lib.hid (And.intro hpos hlen2)
          rw [hN2] at CY
          rw [hN] at HO ⊢
          clear hu hwf het hL hlen hpos hlen2 hN hN2 ho hle hle2
          go_wp2_with fail
          refine (CY.out).mono ?_
          rintro e w2 ⟨gy, cy, rfl, hoy, hb2⟩
          have HOY := Lib.hid hoy
          have HO2 := Lib.hid (HO.out.out.below hb2)
          have HB2 := Lib.hid (hbe.out.trans (hb2.mono (by omega)))
          have hsz2 : g + 1 ≤ w2.heap.size := by have := hb2.size; omega
          clear hoy hb2
          go_wp2_with (at_builtin; refine wpList_append_gs dk_row tkf_len rfl (.tmp 21) (.tmp 27) rfl rfl HO2.out rfl HN.out.2 HOY.out.cells_of (tkf_one _) HLE.out.1 HLE.out.2 hsz2 ?_; intro g2 c2 w3 h1 h2 h3 h4; rw [HN.out.1, HN.out.2] at h1 ⊢; have HR := Lib.hid (And.intro h1 h2); clear h1 h2 h3 h4)
          go_roundw
          case rel =>
            refine ⟨k + 1, by go_num, by omega, ?_, Lib.hid (HB2.out.grown HR.out.2 hsz2 fun r e => (HO2.out.block r e).1)⟩
            unfold Hid
            rw [HET.out]
            exact HR.out.1
          case measure => simp [intOf]; omega
        · obtain rfl : k = M := by omega
          have htk : s.take k = s := by rw [← HM.out, List.take_length]
          rw [htk] at ho
          have hle3 := toksL_le s
          rw [HC.out] at hle3
          obtain ⟨L, hL⟩ : ∃ L, tOpen :: toksL s = L := ⟨_, rfl⟩
          have hll : L.length = (toksL s).length + 1 := by rw [← hL]; rfl
          have hTT2 := hTT.out
          rw [hL] at ho hTT2
          obtain ⟨oo, co, rfl⟩ := ho.out.slice
          have HO := Lib.hid (ho.out.below ((Below.refl wr.heap.size wr).alloc (Nat.le_refl _) (.cells #[.int .i64 2, .string ⟨#[]⟩] DT)))
          have HNB := Lib.hid (Blk.new wr #[.int .i64 2, .string ⟨#[]⟩] DT)
          have HBE := Lib.hid ((H1.out.1.trans (hbe.out.mono (by omega))).alloc (by omega) (.cells #[.int .i64 2, .string ⟨#[]⟩] DT))
          have hL6 : L.length ≤ 1000000 := by omega
          have HTT2 := Lib.hid hTT2
          obtain ⟨N, hN⟩ : ∃ N, L.length = N := ⟨_, rfl⟩
          have HN := Lib.hid hN
          rw [hN] at HO ⊢
          have hsz3 : g + 1 ≤ (wr.alloc (.cells #[.int .i64 2, .string ⟨#[]⟩] DT)).heap.size := by simp; omega
          clear hle hle2 hle3 hll hL hTT2 hN ho htk
          go_wp2_with (at_builtin; refine wpList_append_g (y := tShut) dk_row tkf_len rfl (.tmp 29) (.tmp 31) rfl rfl HO.out rfl HNB.out rfl (by simp [tkf, Value.oneCell']) hL6 hsz3 ?_; intro g2 c2 w3 h1 h2 h3 h4; rw [HN.out] at h1 ⊢; have HR := Lib.hid (And.intro h1 h2); clear h1 h2 h3 h4)
          go_returns
          rw [HTT2.out, List.length_append, HN.out]
          exact ⟨_, _, rfl, HR.out.1.lower (by omega), HBE.out.grown HR.out.2 (by omega) fun r e => by have := (HO.out.block r e).1; omega⟩
end Go.Proofs.Ytopfpfpefljkkaa
