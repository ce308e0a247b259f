/- The document's board: Names. -/
import Derived.Test.YtemfecdpjegocaaDoorInsPlain
import Derived.Test.YtemfecdpjegocaaDoorPeerRef2
import Derived.Test.YtemfecdpjegocaaDoorStrOwn
namespace Go.Proofs.YtemfecdpjegocaaDoor
open Go.RowKit Go.Maps
set_option linter.unusedVariables false
set_option linter.unusedSimpArgs false

theorem str_types : StrTypes Tryd.prog 39 9 := ⟨Tryd.underlying39, by kernel_rfl⟩
/-- Block g begins with these texts. -/
def SB (w : World) (g : Nat) (l : List ByteArray) : Prop := ∃ cur, Blk w g cur 9 ∧ ∀ (i : Nat) (h : i < l.length), cur[i]? = some (.string l[i])
theorem SB.cell {w : World} {g : Nat} {l : List ByteArray} (h : SB w g l) {i : Nat} (hi : i < l.length) : w.cell? ⟨g, i, none⟩ = some (.string (l.getD i ByteArray.empty)) := by
  obtain ⟨cur, h1, h2⟩ := h
  rw [h1.cell, h2 i hi, List.getD_eq_getElem?_getD, List.getElem?_eq_getElem hi]; rfl
theorem SB.free {w : World} {g : Nat} {l : List ByteArray} (h : SB w g l) (i : Nat) : w.frozen? ⟨g, i, none⟩ = false := let ⟨_, h, _⟩ := h; h.free i
theorem SB.lt {w : World} {g : Nat} {l : List ByteArray} (h : SB w g l) : g < w.heap.size := let ⟨_, h, _⟩ := h; h.lt
theorem SB.set {w : World} {g : Nat} {l : List ByteArray} (h : SB w g l) {i : Nat} (hi : i < l.length) (x : ByteArray) : SB (w.setCell ⟨g, i, none⟩ (.string x)) g (l.set i x) := by
  obtain ⟨cur, h1, h2⟩ := h
  refine ⟨_, h1.set i (.string x), fun j hj => ?_⟩
  have hj' : j < l.length := by simpa using hj
  have hsz : i < cur.size := by
    have := h2 i hi
    exact (Array.getElem?_eq_some_iff.1 this).1
  rw [List.getElem_set]
  by_cases e : i = j
  · subst e; simp [Array.getElem?_setIfInBounds, hsz]
  · rw [if_neg e, Array.getElem?_setIfInBounds_ne e]; exact h2 j hj'
theorem SB.drewN {w : World} {g : Nat} {l : List ByteArray} (h : SB w g l) (n : Nat) : SB (w.drewN n) g l := let ⟨cur, h1, h2⟩ := h; ⟨cur, h1.drewN n, h2⟩
def NamesPost (K : List Pr) (w : World) (en : Ending) (w' : World) : Prop := ∃ v, en = .returned v ∧ StrsAt w' v (sortS (K.map fun p => txt p.name)) ∧ Below w.heap.size w w'

set_option maxRecDepth 100000 in
set_option maxHeartbeats 2000000 in
theorem doc_names {L H N : Nat} {v : Value} {K : List Pr} {w : World} (h : QV w v K) (hK : InvQ K) :
    Calls Tryd.prog 20 #[.agg #[.int .i64 L, .int .i64 H, .int .i64 N, v]] w (NamesPost K w) := by
  obtain ⟨ao, cap, rfl⟩ := h.slice
  obtain ⟨g, hg⟩ : ∃ g, w.heap.size = g := ⟨_, rfl⟩
  obtain ⟨B, hB⟩ : ∃ B, g + 1 = B := ⟨_, rfl⟩
  have hl := hK.len
  have HK := Lib.hid hK
  have HW : Hid (∀ W, w.alloc (.cells #[.int .i64 L, .int .i64 H, .int .i64 N, .slice ao K.length cap] 43) = W → Below g w W ∧ Blk W g #[.int .i64 L, .int .i64 H, .int .i64 N, .slice ao K.length cap] 43 ∧ QV W (.slice ao K.length cap) K ∧ W.heap.size = B) := fun W hW => by
    subst hW
    have hal := (Below.refl w.heap.size w).alloc (Nat.le_refl _) (.cells #[.int .i64 L, .int .i64 H, .int .i64 N, .slice ao K.length cap] 43)
    exact ⟨hg ▸ hal, hg ▸ Blk.new w _ _, h.below hal, by simp; omega⟩
  obtain ⟨M, hM⟩ : ∃ M, K.length = M := ⟨_, rfl⟩
  have HM := Lib.hid hM
  rw [hM] at HW hl ⊢
  clear h hK hM
  go_enter Tryd.func20, Tryd.ntmps20
  go_upto_region 1 with fail
  generalize w.alloc (.cells #[.int .i64 L, .int .i64 H, .int .i64 N, .slice ao M cap] 43) = w1 at *
  have H1 := Lib.hid (HW.out _ rfl)
  clear HW
  go_wp2_with fail
  go_loopw [3, 4] (fun lv iv wi => ∃ k : Nat, iv = .int .i64 k ∧ k ≤ M ∧ Hid (OwnS wi B 9 lv ((K.take k).map Pr.name)) ∧ Hid (Below B w1 wi)) (fun _ iv _ => M - (intOf iv).toNat)
  case atStart => exact ⟨0, rfl, by omega, OwnS.nil _ _ _, Below.refl _ _⟩
  case round =>
    obtain ⟨k, rfl, hk, hown, hbe⟩ := hrel
    have b3 : wr.cell? ⟨g, 3, none⟩ = some (.slice ao M cap) := (Below.blk hbe.out H1.out.2.1 (by omega)).cell 3
    have hBr : B ≤ wr.heap.size := by have := hbe.out.size; have := H1.out.2.2.2; omega
    by_cases c : k < M
    · have c' : k < K.length := by rw [HM.out]; exact c
      have hq := H1.out.2.2.1
      rw [← HM.out] at hq
      obtain ⟨gb, rfl, hlb, x0, _, _, _⟩ := hq.at_ c'
      have hlb2 : gb < B := by have := H1.out.2.2.2; omega
      have y0 := (hbe.out.cell (p := ⟨gb, k * 4, none⟩) hlb2).trans x0
      have HST : Hid ((K.take (k + 1)).map Pr.name = (K.take k).map Pr.name ++ [K[k].name]) := by unfold Hid; rw [← List.take_append_getElem c', List.map_append]; rfl
      have hln : ((K.take k).map Pr.name).length ≤ 1000 := by simp; omega
      clear hq x0
      generalize K[k].name = qn at *
      obtain ⟨lo, lc, hlv⟩ := hown.out.rs.slice
      subst hlv
      go_wp2_with (at_builtin; refine append_strs str_types rfl (.tmp 14) (.tmp 21) rfl B _ ((K.take k).map Pr.name) [qn] 1 rfl wr _ rfl rfl hown.out rfl (by omega) hBr ?_; intro v2 w2 hown2 hb2 hsz2)
      go_roundw
      case rel => exact ⟨k + 1, by go_num, by omega, by rw [HST.out]; exact hown2, hbe.out.trans hb2⟩
      case measure => simp [intOf]; omega
    · obtain rfl : k = M := by omega
      have htk : (K.take k).map Pr.name = K.map Pr.name := by rw [← HM.out, List.take_length]
      rw [htk] at hown
      have hlen : (K.map Pr.name).length = k := by rw [List.length_map]; exact HM.out
      have HBW : Hid (Below g w wr) := H1.out.1.trans (hbe.out.mono (by omega))
      rcases hown.out.2 with ⟨hv, h0⟩ | ⟨gs, cs, cur, hv, hgb, hgs, hcap, hm, hsz, htake⟩
      · have hk0 : k = 0 := by omega
        subst hv
        have HFIN : Hid (NamesPost K w (.returned (.slice none 0 0)) wr) := by
          have hKn : K = [] := List.eq_nil_of_length_eq_zero (HM.out.trans hk0)
          have hz : (sortS (K.map fun p => txt p.name)).length = 0 := by unfold sortS; rw [List.length_mergeSort, hKn]; rfl
          refine ⟨_, rfl, ⟨none, 0, by rw [hz], fun a ha => by omega⟩, hg ▸ HBW.out⟩
        clear hown hlen h0
        go_wp2_with fail
        go_loopw [5] (fun iv wi => iv = .int .i64 1 ∧ wi = wr) (fun _ _ => 0)
        case atStart => exact ⟨rfl, rfl⟩
        case round =>
          obtain ⟨rfl, rfl⟩ := hrel
          go_wp2_with fail
          go_returns
          exact HFIN.out
      · rw [hlen] at hv
        have HSB : Hid (SB wr gs (K.map Pr.name)) := ⟨cur, hgs, fun i hi => by
          have := congrArg (fun l => l[i]?) htake
          simp only [scells, List.getElem?_map, List.getElem?_eq_getElem hi, Option.map_some] at this
          rw [List.getElem?_take_of_lt (by omega)] at this
          simpa using this⟩
        obtain ⟨l0, hl0⟩ : ∃ l0, K.map Pr.name = l0 := ⟨_, rfl⟩
        have HLE : Hid (K.map Pr.name = l0) := hl0
        rw [hl0] at HSB hlen
        subst hv
        have hl0k : l0.length = k := hlen
        have HL0 := Lib.hid hlen
        clear hown hcap hm hsz htake hgs hlen
        go_wp2_with fail
        go_loopw [5, 6] (fun iv kv wi => ∃ (i : Nat) (l : List ByteArray), iv = .int .i64 i ∧ 1 ≤ i ∧ (i ≤ k ∨ i = 1) ∧ Hid (SB wi gs l) ∧ Hid (SP l i) ∧ Hid (l.Perm l0) ∧ Hid (Below g w wi)) (fun iv _ _ => k - (intOf iv).toNat)
        case atStart => exact ⟨1, l0, rfl, by omega, .inr rfl, HSB, SP.one _, .refl _, HBW⟩
        case round =>
          obtain ⟨i, l, rfl, hi1, hi2, hsb, hsp, hper, hbw⟩ := hrel
          by_cases ci : i < k
          · go_wp2_with fail
            go_loopw [6] (fun kv wi => ∃ (j : Nat) (m : List ByteArray), kv = .int .i64 j ∧ j ≤ i ∧ Hid (SB wi gs m) ∧ Hid (InsP m i j) ∧ Hid (m.Perm l0) ∧ Hid (Below g w wi)) (fun kv _ => (intOf kv).toNat)
            case atStart => exact ⟨i, l, rfl, by omega, hsb, InsP.start hsp.out, hper, hbw⟩
            case round =>
              obtain ⟨j, m, rfl, hj, hsb2, hin, hper2, hbw2⟩ := hrel
              have hml : m.length = k := hper2.out.length_eq.trans HL0.out
              by_cases cj : 0 < j
              · obtain ⟨X, hX⟩ : ∃ X, m.getD j ByteArray.empty = X := ⟨_, rfl⟩
                obtain ⟨Y, hY⟩ : ∃ Y, m.getD (j - 1) ByteArray.empty = Y := ⟨_, rfl⟩
                have x1 := hsb2.out.cell (i := j) (by omega)
                have x2 := hsb2.out.cell (i := j - 1) (by omega)
                rw [hX] at x1
                rw [hY] at x2
                have HXY : Hid (at' m j = txt X ∧ at' m (j - 1) = txt Y) := ⟨by unfold at'; rw [hX], by unfold at'; rw [hY]⟩
                have HSW : Hid (swapT m j = (m.set j Y).set (j - 1) X) := by unfold Hid swapT; rw [hX, hY]
                clear hX hY
                have hw1 : IntKind.i64.wrap ((j : Int) - 1) = (j : Int) - 1 := IntWalk.i64_in _ (by omega)
                have hj0 : (0 : Int) ≤ (j : Int) - 1 := by omega
                have hjn : ((j : Int) - 1).toNat = j - 1 := by omega
                have fr := fun i => hsb2.out.free i
                have HSB2 : Hid (∀ nd, SB (((wr.drewN nd).setCell ⟨gs, j, none⟩ (.string Y)).setCell ⟨gs, j - 1, none⟩ (.string X)) gs (swapT m j) ∧ Below g w (((wr.drewN nd).setCell ⟨gs, j, none⟩ (.string Y)).setCell ⟨gs, j - 1, none⟩ (.string X))) := fun nd => by
                  rw [HSW.out]
                  have hgg : g ≤ gs := by omega
                  have hbd : Below g w (wr.drewN nd) := ⟨hbw2.out.os, hbw2.out.tape, hbw2.out.output, hbw2.out.size, hbw2.out.block⟩
                  exact ⟨((hsb2.out.drewN nd).set (by omega) Y).set (by rw [List.length_set]; omega) X, (hbd.setCell hgg _).setCell hgg _⟩
                have HDR : Hid (∀ nd, SB (wr.drewN nd) gs m ∧ Below g w (wr.drewN nd)) := fun nd => ⟨hsb2.out.drewN nd, ⟨hbw2.out.os, hbw2.out.tape, hbw2.out.output, hbw2.out.size, hbw2.out.block⟩⟩
                cases hbl : Op.bytesLess X.toList Y.toList with
                | false =>
                  have HD : Hid (SP m (i + 1)) := hin.out.done (.inr (by
                    rw [HXY.out.1, HXY.out.2]
                    rw [Go.Proofs.bytesLess_eq, Lib.toList_data, Lib.toList_data] at hbl
                    exact of_decide_eq_false hbl))
                  clear HSB2 HSW HXY hin hsb2 hbw2
                  go_wp2_with fail
                  go_quiet (fail)
                  go_wp2_with fail
                  go_roundw
                  case rel => exact ⟨i + 1, m, by go_num, by omega, by omega, (HDR.out _).1, HD, hper2, (HDR.out _).2⟩
                  case measure => simp [intOf]; omega
                | true =>
                  have HST : Hid (InsP (swapT m j) i (j - 1)) := hin.out.step cj hj (by omega) (by
                    rw [HXY.out.1, HXY.out.2]
                    rw [Go.Proofs.bytesLess_eq, Lib.toList_data, Lib.toList_data] at hbl
                    exact of_decide_eq_true hbl)
                  have HPE : Hid ((swapT m j).Perm l0) := (swapT_perm m j cj (by omega)).trans hper2.out
                  clear HSW HXY hin hsb2 hbw2 HDR
                  go_wp2_with fail
                  go_quiet (fail)
                  go_wp2_with fail
                  go_big_region
                  go_wp2_with fail
                  go_roundw
                  case rel => exact ⟨j - 1, swapT m j, by rw [Int.ofNat_sub (by omega)]; rfl, by omega, (HSB2.out _).1, HST, HPE, (HSB2.out _).2⟩
                  case measure => simp [intOf]; omega
              · obtain rfl : j = 0 := by omega
                have HD : Hid (SP m (i + 1)) := hin.out.done (.inl rfl)
                have HDR : Hid (∀ nd, SB (wr.drewN nd) gs m ∧ Below g w (wr.drewN nd)) := fun nd => ⟨hsb2.out.drewN nd, ⟨hbw2.out.os, hbw2.out.tape, hbw2.out.output, hbw2.out.size, hbw2.out.block⟩⟩
                clear hin hsb2 hbw2
                go_wp2_with fail
                go_quiet (fail)
                go_wp2_with fail
                go_roundw
                case rel => exact ⟨i + 1, m, by go_num, by omega, by omega, (HDR.out _).1, HD, hper2, (HDR.out _).2⟩
                case measure => simp [intOf]; omega
          · have hfin : NamesPost K w (.returned (.slice (some ⟨gs, 0, none⟩) k cs)) wr := by
              have hSP : SP l l.length := by
                have e1 : l.length = k := hper.out.length_eq.trans HL0.out
                rw [e1]
                intro a b hab hb
                exact hsp.out a b hab (by omega)
              have hso := hSP.sorted hper.out
              refine ⟨_, rfl, ⟨some ⟨gs, 0, none⟩, cs, ?_, fun a ha => ?_⟩, hg ▸ hbw.out⟩
              · have : (sortS (K.map fun p => txt p.name)).length = k := by unfold sortS; rw [List.length_mergeSort, List.length_map]; exact HM.out
                rw [this]
              · have hl0' : l0.map txt = K.map fun p => txt p.name := by rw [← HLE.out, List.map_map]; rfl
                rw [hl0'] at hso
                have ha2 : a < l.length := by have := congrArg List.length hso; rw [List.length_map] at this; omega
                refine ⟨gs, 0, rfl, hsb.out.lt, ?_⟩
                rw [Nat.zero_add, hsb.out.cell ha2]
                have e3 : (sortS (K.map fun p => txt p.name))[a] = txt (l.getD a ByteArray.empty) := by
                  have : (sortS (K.map fun p => txt p.name))[a]? = (l.map txt)[a]? := by rw [hso]
                  rw [List.getElem?_eq_getElem ha, List.getElem?_map, List.getElem?_eq_getElem ha2] at this
                  rw [List.getD_eq_getElem?_getD, List.getElem?_eq_getElem ha2]
                  simpa using this
                rw [e3]
                rfl
            have HFIN := Lib.hid hfin
            clear hfin
            have hle : decide (i < k) = false := by simp; omega
            go_wp2_with fail
            go_returns
            exact HFIN.out
end Go.Proofs.YtemfecdpjegocaaDoor
