/- The walk of the document's Ids. -/
import Derived.Test.YtemfecdpjegocaaDocIds
namespace Go.Proofs.Ytemfecdpjegocaa
open Go.RowKit Go.Maps
set_option linter.unusedVariables false
set_option linter.unusedSimpArgs false

def DIdsPost (L : List Pt) (w : World) (en : Ending) (w' : World) : Prop := ∃ v, en = .returned v ∧ IntsAt w' v (sortI (idsL L)) ∧ Below w.heap.size w w'
theorem sortI_len_le (L : List Pt) : (sortI (idsL L)).length ≤ L.length := by
  unfold sortI
  rw [List.length_mergeSort]
  induction L using snoc_ind with
  | h0 => simp [idsL]
  | h1 L p ih =>
    rw [idsL_snoc]
    unfold addId
    split
    · simp; omega
    · simp; omega

set_option maxRecDepth 100000 in
set_option maxHeartbeats 2000000 in
theorem doc_ids {w : World} {v : Value} {L : List Pt} (h : PV w v L) (hl : L.length ≤ 100000) (hL : ∀ p ∈ L, 0 ≤ p.id ∧ p.id ≤ 2147483647) (m o : Int) :
    Calls Try.prog 43 #[.agg #[.int .i64 m, .int .i64 o, v]] w (DIdsPost L w) := by
  obtain ⟨ao, cap, rfl⟩ := h.ps.slice
  obtain ⟨g, hg⟩ : ∃ g, w.heap.size = g := ⟨_, rfl⟩
  have H0 := Lib.hid h
  have HL := Lib.hid hL
  have HE := Lib.hid (fun (k : Nat) (b : Int) hk hb => best_end (L := L) (m := k) (b := b) (fun p hp => (hL p hp).1) hk hb)
  have hSl := sortI_len_le L
  have HF : Hid (∀ v W, IntsAt W v (sortI (idsL L)) → Below g w W → DIdsPost L w (.returned v) W) := fun v W h1 h2 => ⟨v, rfl, h1, hg ▸ h2⟩
  have hpos : Hid (∀ x ∈ sortI (idsL L), 0 ≤ x ∧ x ≤ 2147483647) := fun x hx => by
    obtain ⟨p, hp, rfl⟩ := (mem_idsL L x).1 ((sortI_mem _ x).1 hx)
    exact hL p hp
  obtain ⟨N, hN⟩ : ∃ N, L.length = N := ⟨_, rfl⟩
  rw [hN] at hl H0 hSl ⊢
  generalize sortI (idsL L) = S at *
  clear h hL
  obtain ⟨B, hB⟩ : ∃ B, g + 1 = B := ⟨_, rfl⟩
  go_enter Try.func43, Try.ntmps43
  go_wp2_with fail
  have HW : Hid (∀ W2, w.alloc (.cells #[.int .i64 m, .int .i64 o, .slice ao N cap] 84) = W2 →
      Below g w W2 ∧ Blk W2 g #[.int .i64 m, .int .i64 o, .slice ao N cap] 84 ∧ PV W2 (.slice ao N cap) L ∧ W2.heap.size = B) := fun W2 hW => by
    subst hW
    exact ⟨(Below.refl _ _).alloc (by omega) _, hg ▸ Blk.new w _ _, H0.out.below ((Below.refl _ _).alloc (Nat.le_refl _) _), by simp; omega⟩
  generalize w.alloc (.cells #[.int .i64 m, .int .i64 o, .slice ao N cap] 84) = w1 at *
  have H1 := Lib.hid (HW.out _ rfl)
  clear HW
  go_loopw [3, 4, 5, 6] (fun ov bv iv xv wi => ∃ k : Nat, k ≤ S.length ∧ Hid (OwnZ wi B 3 ov (S.take k)) ∧ Hid (Below B w1 wi)) (fun ov _ _ _ _ => S.length - (match ov with | .slice _ n _ => n | _ => 0))
  case atStart => exact ⟨0, by omega, OwnZ.nil _ _ _, Below.refl _ _⟩
  case round =>
    obtain ⟨k, hk, hown, hbe⟩ := hrel
    have hBr : B ≤ wr.heap.size := by have := hbe.out.size; have := H1.out.2.2.2; omega
    have b2 : wr.cell? ⟨g, 2, none⟩ = some (.slice ao N cap) := (Below.blk hbe.out H1.out.2.1 (by omega)).cell 2
    obtain ⟨oa, ocap, hov, hoc⟩ := hown.out.ints
    have htl : (S.take k).length = k := by rw [List.length_take]; omega
    rw [htl] at hov
    subst hov
    go_wp2_with fail
    go_loopw [4, 5, 6] (fun bv iv xv wi => ∃ (i : Nat) (b : Int), iv = .int .i64 i ∧ i ≤ N ∧ bv = .int .i64 b ∧ Hid (Best (thrI S k) (L.take i) b) ∧ -1 ≤ b ∧ b ≤ 2147483647 ∧ wi = wr) (fun _ iv _ _ => N - (intOf iv).toNat)
    case atStart => exact ⟨0, -1, rfl, by omega, rfl, Best.nil _, by omega, by omega, rfl⟩
    case round =>
      obtain ⟨i, b, rfl, hi, rfl, hbest, hb0, hb1, rfl⟩ := hrel
      by_cases c : i < N
      · have c' : i < L.length := by omega
        have hpp := H1.out.2.2.1.ps
        rw [← hN] at hpp
        obtain ⟨gb, ob, rfl, hlb, x0, x1, x2, x3⟩ := hpp.at_ c'
        have hlb2 : gb < B := by have := H1.out.2.2.2; omega
        have y0 := (hbe.out.cell (p := ⟨gb, ob + i * 4, none⟩) hlb2).trans x0
        have hqid := HL.out L[i] (List.getElem_mem c')
        have htk : L.take (i + 1) = L.take i ++ [L[i]] := by rw [List.take_append_getElem c']
        clear hpp x0 x1 x2 x3
        have HT : Hid (∀ z, (thrI S k < L[i].id → (b < 0 ∨ L[i].id < b) → z = L[i].id) → ((¬ thrI S k < L[i].id ∨ (0 ≤ b ∧ b ≤ L[i].id)) → z = b) → Best (thrI S k) (L.take (i + 1)) z) := fun z h1 h2 => by
          rw [htk]
          by_cases ht : thrI S k < L[i].id ∧ (b < 0 ∨ L[i].id < b)
          · rw [h1 ht.1 ht.2]; exact hbest.out.take hqid.1 ht.1 ht.2
          · have h3 : ¬ thrI S k < L[i].id ∨ (0 ≤ b ∧ b ≤ L[i].id) := by omega
            rw [h2 h3]; exact hbest.out.pass h3
        clear htk
        generalize L[i] = q at *
        obtain ⟨qi, qn, qo, qT⟩ := q
        simp only at y0 hqid HT
        have hD : decide (b < 0) = true ∨ (decide (b < 0) = false ∧ decide (qi < b) = true) ∨ (decide (b < 0) = false ∧ decide (qi < b) = false) := by
          by_cases e1 : b < 0
          · exact .inl (by simp; exact e1)
          · by_cases e2 : qi < b
            · exact .inr (.inl ⟨by simp; omega, by simp; exact e2⟩)
            · exact .inr (.inr ⟨by simp; omega, by simp; omega⟩)
        have hq0 : 0 ≤ qi := hqid.1
        have hq1 : qi ≤ 2147483647 := hqid.2
        clear hqid
        rcases Nat.eq_zero_or_pos k with hk0 | hk0
        · subst hk0
          have HT2 : Hid (∀ z, ((b < 0 ∨ qi < b) → z = qi) → ((0 ≤ b ∧ b ≤ qi) → z = b) → Best (thrI S 0) (L.take (i + 1)) z) := fun z h1 h2 => HT.out z (fun _ => h1) (fun h => by
            rcases h with h | h
            · exact absurd (show (-1 : Int) < qi by omega) h
            · exact h2 h)
          clear HT
          rcases hD with e1 | ⟨e1, e2⟩ | ⟨e1, e2⟩
          all_goals
            go_wp2_with fail
            go_roundw
            case rel => exact ⟨i + 1, _, by go_num, by omega, rfl, HT2.out _ (by first | (simp at e1 e2; omega) | (simp at e1; omega)) (by first | (simp at e1 e2; omega) | (simp at e1; omega)), by omega, by omega, trivial⟩
            case measure => simp [intOf]; omega
        · obtain ⟨k', rfl⟩ : ∃ k', k = k' + 1 := ⟨k - 1, by omega⟩
          have hk1 : k' < (S.take (k' + 1)).length := by omega
          obtain ⟨gs, os, rfl, hgs, hcs⟩ := hoc k' hk1
          have hth : thrI S (k' + 1) = (S.take (k' + 1))[k'] := by
            unfold thrI
            rw [if_neg (by omega), List.getD_eq_getElem?_getD, List.getElem?_eq_getElem (by omega)]
            simp
          rw [hth] at HT
          generalize (S.take (k' + 1))[k'] = T at *
          have hz : ((k' + 1 : Nat) : Int) - 1 = (k' : Int) := by omega
          by_cases hTq : T < qi
          · have e0 : decide (T < qi) = true := by simp; exact hTq
            have HT2 : Hid (∀ z, ((b < 0 ∨ qi < b) → z = qi) → ((0 ≤ b ∧ b ≤ qi) → z = b) → Best (thrI S (k' + 1)) (L.take (i + 1)) z) := fun z h1 h2 => by
              rw [hth]
              exact HT.out z (fun _ => h1) (fun h => by
                rcases h with h | h
                · exact absurd hTq h
                · exact h2 h)
            clear HT hth hTq
            rcases hD with e1 | ⟨e1, e2⟩ | ⟨e1, e2⟩
            all_goals
              go_wp2_with fail
              go_roundw
              case rel => exact ⟨i + 1, _, by go_num, by omega, rfl, HT2.out _ (by first | (simp at e1 e2; omega) | (simp at e1; omega)) (by first | (simp at e1 e2; omega) | (simp at e1; omega)), by omega, by omega, trivial⟩
              case measure => simp [intOf]; omega
          · have e0 : decide (T < qi) = false := by simp; omega
            have HT2 : Hid (Best (thrI S (k' + 1)) (L.take (i + 1)) b) := by
              unfold Hid
              rw [hth]
              exact HT.out b (fun h => absurd h hTq) (fun _ => rfl)
            clear HT hth hTq hD
            go_wp2_with fail
            go_roundw
            case rel => exact ⟨i + 1, _, by go_num, by omega, rfl, HT2.out, by omega, by omega, trivial⟩
            case measure => simp [intOf]; omega
      · obtain rfl : i = N := by omega
        have ht : L.take i = L := by rw [← hN, List.take_length]
        rw [ht] at hbest
        rcases HE.out k b hk hbest.out with ⟨rfl, hks⟩ | ⟨hb2, hkS, hnx⟩
        · have hid : Hid (IntsAt wr (.slice oa k ocap) S) := by
            have := hown.out.ints
            rwa [hks, List.take_length, ← hks] at this
          have hbel : Hid (Below g w wr) := H1.out.1.trans (hbe.out.mono (by omega))
          clear hown hbest
          go_wp2_with fail
          go_returns
          exact HF.out _ _ hid.out hbel.out
        · have e1 : decide (b < 0) = false := by simp; omega
          have HNX := Lib.hid hnx
          have hlen1 : (S.take k).length + 1 ≤ 1000000 := by omega
          clear hnx hbest
          go_wp2_with (at_builtin; refine append_int int_types rfl (.tmp 46) (.tmp 48) rfl B _ (S.take k) b wr rfl hown.out rfl hlen1 hBr ?_; intro v2 w2 hown2 hb2)
          obtain ⟨oa2, oc2, hv2, _⟩ := hown2.ints
          have hl2 : (S.take k ++ [b]).length = k + 1 := by simp; omega
          rw [hl2] at hv2
          subst hv2
          go_roundw
          case rel => exact ⟨k + 1, by omega, HNX.out ▸ hown2, hbe.out.trans hb2⟩
          case measure => simp; omega
end Go.Proofs.Ytemfecdpjegocaa
