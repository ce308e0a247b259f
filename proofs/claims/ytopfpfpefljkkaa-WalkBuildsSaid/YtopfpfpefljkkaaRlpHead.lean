/- rlp.head. -/
import Derived.Test.YtopfpfpefljkkaaItemAt
import Derived.Test.YtopfpfpefljkkaaFixBig
import Derived.Test.YtopfpfpefljkkaaNextPlain
namespace Go.Proofs.Ytopfpfpefljkkaa
open Go.RowKit
set_option linter.unusedVariables false
set_option linter.unusedSimpArgs false

/-- What head tells. -/
def headV : Except Nat (Bool × Nat × Nat) → Value
  | .error e => .tuple #[.bool false, .int .i64 0, .int .i64 0, .int .i64 (e : Nat)]
  | .ok q => .tuple #[.bool q.1, .int .i64 (q.2.1 : Nat), .int .i64 (q.2.2 : Nat), .int .i64 0]
def hdx (l : List UInt8) (deep many : Bool) : Except Nat (Bool × Nat × Nat) := if l = [] then .error 2 else if deep then .error 6 else if many then .error 4 else hd l
theorem hdx_rdI {l : List UInt8} {k m : Nat} {e : Nat} (h : hdx l (decide (k = 0)) (decide (m = 0)) = .error e) : rdI k l m = .error e := by
  unfold hdx at h
  split at h
  · rename_i h0; subst h0; cases h; exact rdI_nil
  rename_i h0
  split at h
  · rename_i h1; simp at h1; subst h1; cases h; exact rdI_deep h0
  rename_i h1
  obtain ⟨k, rfl⟩ : ∃ k', k = k' + 1 := ⟨k - 1, by simp at h1; omega⟩
  split at h
  · rename_i h2; simp at h2; subst h2; cases h; exact rdI_many h0
  rename_i h2
  obtain ⟨m, rfl⟩ : ∃ m', m = m' + 1 := ⟨m - 1, by simp at h2; omega⟩
  exact rdI_head h0 h
theorem hdx_ok {l : List UInt8} {k m : Nat} {q : Bool × Nat × Nat} (h : hdx l (decide (k = 0)) (decide (m = 0)) = .ok q) : l ≠ [] ∧ 0 < k ∧ 0 < m ∧ hd l = .ok q := by
  unfold hdx at h
  split at h
  · cases h
  rename_i h0
  split at h
  · cases h
  rename_i h1
  split at h
  · cases h
  rename_i h2
  exact ⟨h0, by simp at h1; omega, by simp at h2; omega, h⟩

/-- The case split of hd. -/
theorem hd_big {s : ByteArray} (h0 : 0 < s.size) {by' t : Nat} {L : Bool} (hL : decide (192 ≤ s[0].toNat) = L) (hb : by' = if L then 192 else 128) (ht : s[0].toNat = by' + t) :
    (t ≤ 55 → hd s.data.toList = hd2 s.data.toList L 1 t) ∧
    (∀ k, t = 55 + k → 0 < k → (s.size < 1 + k → hd s.data.toList = .error 2) ∧ (1 + k ≤ s.size →
      (s.extract 1 (1 + k)).data.toList = (s.data.toList.drop 1).take k ∧
      (((s.data.toList.drop 1).head? = some 0 ∨ valB ((s.data.toList.drop 1).take k) < 56) → hd s.data.toList = .error 3) ∧
      (¬ ((s.data.toList.drop 1).head? = some 0 ∨ valB ((s.data.toList.drop 1).take k) < 56) → hd s.data.toList = hd2 s.data.toList L (1 + k) (valB ((s.data.toList.drop 1).take k))))) := by
  have hl := toList_cons' s h0
  have hlen : s.data.toList.length = s.size := by simp
  have hby : by' = if 192 ≤ s[0].toNat then 192 else 128 := by rw [hb, ← hL]; simp
  have h128 : ¬ s[0].toNat < 128 := by
    rw [hb] at ht; split at ht <;> omega
  generalize hr : s.data.toList.drop 1 = r at *
  have key : hd s.data.toList = if t ≤ 55 then hd2 s.data.toList L 1 t else if s.data.toList.length < 1 + (t - 55) then .error 2 else if (r.head? = some 0 ∨ valB (r.take (t - 55)) < 56) then .error 3 else hd2 s.data.toList L (1 + (t - 55)) (valB (r.take (t - 55))) := by
    conv => lhs; rw [hl]
    simp only [hd]
    rw [if_neg h128, ← hby, ht, hL.symm, ht, Nat.add_sub_cancel_left, ← hl]
  refine ⟨fun h => by rw [key, if_pos h], ?_⟩
  rintro k rfl hk
  rw [show 55 + k - 55 = k by omega, if_neg (by omega), hlen] at key
  refine ⟨fun h => by rw [key, if_pos h], fun h => ⟨?_, fun h2 => by rw [key, if_neg (by omega), if_pos h2], fun h2 => by rw [key, if_neg (by omega), if_neg h2]⟩⟩
  rw [← hr]
  simp only [ByteArray.data_extract, Array.toList_extract, List.extract]
  rw [show 1 + k - 1 = k by omega]

theorem getLst_cut {l : List UInt8} {k : Nat} (hk : 0 < k) (h8 : k ≤ 8) (hl : k ≤ l.length) :
    ((l.head? = some 0 ∨ valB (l.take k) < 56) ∧ (getLst (l.take k) = (0, 3) ∨ ∃ v, v ≤ 55 ∧ getLst (l.take k) = (v, 0))) ∨
      (¬ (l.head? = some 0 ∨ valB (l.take k) < 56) ∧ getLst (l.take k) = (valB (l.take k), 0) ∧ 56 ≤ valB (l.take k) ∧ valB (l.take k) < 18446744073709551616) := by
  cases l with
  | nil => simp at hl; omega
  | cons b r =>
    obtain ⟨j, rfl⟩ : ∃ j, k = j + 1 := ⟨k - 1, by omega⟩
    rw [List.take_succ_cons]
    have hjl : (r.take j).length = j := by simp at hl ⊢; omega
    have hv := valB_lt (b :: r.take j)
    rw [List.length_cons, hjl] at hv
    have hp := pow256_8 (j + 1) h8
    simp only [List.head?_cons, Option.some.injEq]
    by_cases hb : b = 0
    · left
      refine ⟨.inl hb, .inl ?_⟩
      rw [getLst, if_neg (by omega), if_pos (by rw [hb]; rfl)]
    · have hb' : ¬ b.toNat = 0 := fun h => hb (UInt8.toNat_inj.1 h)
      have e : getLst (b :: r.take j) = (valB (b :: r.take j), 0) := by rw [getLst, if_neg (by omega), if_neg hb']
      by_cases hv2 : valB (b :: r.take j) < 56
      · exact .inl ⟨.inr hv2, .inr ⟨_, by omega, e⟩⟩
      · exact .inr ⟨fun h => h.elim hb hv2, e, by omega, by omega⟩
theorem hd2_short {l : List UInt8} {L : Bool} {z n : Nat} (h : l.length - z < n) : hd2 l L z n = .error 2 := by unfold hd2; rw [if_pos h]

set_option maxRecDepth 100000 in
set_option maxHeartbeats 4000000 in
theorem rlp_head_big (s : ByteArray) (w : World) (hs : s.size ≤ 100000) (h0 : 0 < s.size) (hb : 128 ≤ s[0].toNat) :
    Calls Try.prog 36 #[.string s, .bool false, .bool false] w fun e w' => e = .returned (headV (hd s.data.toList)) ∧ w' = w := by
  have hie := isEmpty_no' s h0
  have hb2 : s[0].toNat ≤ 255 := by have := s[0].toNat_lt; omega
  have hlen : s.data.toList.length = s.size := by simp
  obtain ⟨L, hL⟩ : ∃ L, decide (192 ≤ s[0].toNat) = L := ⟨_, rfl⟩
  obtain ⟨R, hR⟩ : ∃ R, hd s.data.toList = R := ⟨_, rfl⟩
  have HB := Lib.hid (fun t by' => hd_big h0 (by' := by') (t := t) hL)
  have HG := Lib.hid (fun k => getLst_cut (l := s.data.toList.drop 1) (k := k))
  have HS := Lib.hid (fun z n (h : s.data.toList.length - z < n) => hd2_short (l := s.data.toList) (L := L) (z := z) (n := n) h)
  have HL := Lib.hid hlen
  rw [hR] at HB ⊢
  clear hR hlen
  have d0 : decide (s[0].toNat < 128) = false := by simp; omega
  obtain ⟨b, hb0⟩ : ∃ b, s[0].toNat = b := ⟨_, rfl⟩
  rw [hb0] at d0
  obtain ⟨t, by', hby, ht⟩ : ∃ t by', (by' = if L then 192 else 128) ∧ b = by' + t := by
    cases L with
    | true => exact ⟨b - 192, 192, rfl, by simp at hL; omega⟩
    | false => exact ⟨b - 128, 128, rfl, by omega⟩
  have HT := Lib.hid (HB.out t by' hby (hb0.trans ht))
  have HE := Lib.hid ht
  have HBY := Lib.hid hby
  have d1 : decide (192 ≤ b) = L := by rw [← hL, hb0]
  clear HB hL ht hby
  go_enter Try.func36, Try.ntmps36
  cases L with
  | true =>
    obtain rfl : by' = 192 := HBY.out
    have hb3 : 192 ≤ b := by have := HE.out; omega
    have hb4 : b ≤ 255 := by omega
    clear hb2
    go_upto_if 38 with (fail)
    go_cut [6, 7, 8] (fun a b c wx => ∃ Z N : Nat, a = .bool true ∧ b = .int .i64 (Z : Int) ∧ c = .int .i64 (N : Int) ∧ 1 ≤ Z ∧ Z ≤ s.size ∧ N ≤ 100000 ∧ Hid (R = hd2 s.data.toList true Z N) ∧ wx = w)
    case first =>
      by_cases c : t ≤ 55
      · have d2 : b ≤ 247 := by have := HE.out; omega
        have hq := Lib.hid (HT.out.1 c)
        go_wp2_with fail
        go_meet
        exact ⟨1, t, by first | rfl | (simp; omega), rfl, by congr 1; have := HE.out; omega, by omega, by omega, by omega, hq, rfl⟩
      · obtain ⟨k, hk⟩ : ∃ k, t = 55 + k := ⟨t - 55, by omega⟩
        have hk0 : 0 < k := by omega
        have hk8 : k ≤ 8 := by have := HE.out; omega
        have HK := Lib.hid (HT.out.2 k hk hk0)
        have d2 : 247 < b := by have := HE.out; omega
        have ek : (1 + ((b : Int) - 192 - 55)) = ((1 + k : Nat) : Int) := by have := HE.out; omega
        go_upto_region 16 with fail
        simp only [show (1 + (k : Int)) = ((1 + k : Nat) : Int) by omega]
        by_cases c2 : s.size < 1 + k
        · have hR := Lib.hid (HK.out.1 c2)
          have d3 : decide (s.size < 1 + k) = true := by simp; omega
          go_wp2_with fail
          go_returns
          exact ⟨by rw [hR.out]; rfl, rfl⟩
        · have d3 : decide (s.size < 1 + k) = false := by simp; omega
          have hk1 : 1 + k ≤ s.size := by omega
          have CG := Lib.hid (fix_getleast (s.extract 1 (1 + k)) w (by simp [ByteArray.size_extract]; unfold maxLen; omega))
          obtain ⟨hx1, hx2, hx3⟩ := HK.out.2 hk1
          rw [hx1] at CG
          have HX2 := Lib.hid hx2
          have HX3 := Lib.hid hx3
          have hg := HG.out k hk0 hk8 (by rw [List.length_drop, HL.out]; omega)
          clear hx1 hx2 hx3 HK HG HT c2 c hk
          generalize getLst ((s.data.toList.drop 1).take k) = G at *
          generalize (s.data.toList.drop 1).take k = tk at *
          rcases hg with ⟨hbad, hg⟩ | ⟨hgood, rfl, hv1, hv2⟩
          · have hR := Lib.hid (HX2.out hbad)
            clear HX2 HX3 hbad
            rcases hg with rfl | ⟨v, hv, rfl⟩
            · go_wp2_with fail
              refine CG.out.mono ?_
              rintro e w1 ⟨rfl, rfl⟩
              simp only [n2]
              go_wp2_with fail
              go_returns
              exact ⟨by rw [hR.out]; rfl, rfl⟩
            · have d4 : decide (v ≤ 55) = true := by simp; omega
              go_wp2_with fail
              refine CG.out.mono ?_
              rintro e w1 ⟨rfl, rfl⟩
              simp only [n2]
              go_wp2_with fail
              go_returns
              exact ⟨by rw [hR.out]; rfl, rfl⟩
          · have hR := Lib.hid (HX3.out hgood)
            clear HX2 HX3 hgood
            generalize valB tk = v at *
            have d4 : decide (v ≤ 55) = false := by simp; omega
            by_cases c5 : s.size < v
            · have d5 : decide (s.size < v) = true := by simp; omega
              have hE := Lib.hid (HS.out (1 + k) v (by rw [HL.out]; omega))
              go_wp2_with fail
              refine CG.out.mono ?_
              rintro e w1 ⟨rfl, rfl⟩
              simp only [n2]
              go_wp2_with fail
              go_returns
              exact ⟨by rw [hR.out, hE.out]; rfl, rfl⟩
            · have d5 : decide (s.size < v) = false := by simp; omega
              have hvs : v ≤ 100000 := by omega
              go_wp2_with fail
              refine CG.out.mono ?_
              rintro e w1 ⟨rfl, rfl⟩
              simp only [n2]
              go_wp2_with fail
              go_meet
              exact ⟨1 + k, v, by first | rfl | (simp; omega), rfl, rfl, by omega, hk1, hvs, hR, rfl⟩
    case rest =>
      obtain ⟨Z, N, rfl, rfl, rfl, hZ1, hZ, hN, hq, rfl⟩ := hcut
      by_cases c1 : s.size - Z < N
      · have hE := Lib.hid (HS.out Z N (by rw [HL.out]; omega))
        have d2 : decide ((s.size : Int) - (Z : Int) < (N : Int)) = true := by simp; omega
        clear c1
        go_wp2_with fail
        go_returns
        exact ⟨by rw [hq.out, hE.out]; rfl, rfl⟩
      · have d2 : decide ((s.size : Int) - (Z : Int) < (N : Int)) = false := by simp; omega
        have hc1 : N ≤ s.size - Z := by omega
        clear c1
        have hE : Hid (hd2 s.data.toList true Z N = .ok (true, Z, N)) := Lib.hid (by unfold hd2; rw [if_neg (by rw [HL.out]; omega), if_neg (by simp)])
        go_wp2_with fail
        go_returns
        exact ⟨by rw [hq.out, hE.out]; rfl, rfl⟩
  | false =>
    obtain rfl : by' = 128 := HBY.out
    have hb3 : 128 ≤ b := by have := HE.out; omega
    have hb5 : b < 192 := by simpa using d1
    have hb4 : b ≤ 255 := by omega
    clear hb2
    go_upto_if 38 with (fail)
    go_cut [6, 7, 8] (fun a b c wx => ∃ Z N : Nat, a = .bool false ∧ b = .int .i64 (Z : Int) ∧ c = .int .i64 (N : Int) ∧ 1 ≤ Z ∧ Z ≤ s.size ∧ N ≤ 100000 ∧ Hid (R = hd2 s.data.toList false Z N) ∧ wx = w)
    case first =>
      by_cases c : t ≤ 55
      · have d2 : b ≤ 183 := by have := HE.out; omega
        have hq := Lib.hid (HT.out.1 c)
        go_wp2_with fail
        go_meet
        exact ⟨1, t, by first | rfl | (simp; omega), rfl, by congr 1; have := HE.out; omega, by omega, by omega, by omega, hq, rfl⟩
      · obtain ⟨k, hk⟩ : ∃ k, t = 55 + k := ⟨t - 55, by omega⟩
        have hk0 : 0 < k := by omega
        have hk8 : k ≤ 8 := by have := HE.out; omega
        have HK := Lib.hid (HT.out.2 k hk hk0)
        have d2 : 183 < b := by have := HE.out; omega
        have ek : (1 + ((b : Int) - 128 - 55)) = ((1 + k : Nat) : Int) := by have := HE.out; omega
        go_upto_region 16 with fail
        simp only [show (1 + (k : Int)) = ((1 + k : Nat) : Int) by omega]
        by_cases c2 : s.size < 1 + k
        · have hR := Lib.hid (HK.out.1 c2)
          have d3 : decide (s.size < 1 + k) = true := by simp; omega
          go_wp2_with fail
          go_returns
          exact ⟨by rw [hR.out]; rfl, rfl⟩
        · have d3 : decide (s.size < 1 + k) = false := by simp; omega
          have hk1 : 1 + k ≤ s.size := by omega
          have CG := Lib.hid (fix_getleast (s.extract 1 (1 + k)) w (by simp [ByteArray.size_extract]; unfold maxLen; omega))
          obtain ⟨hx1, hx2, hx3⟩ := HK.out.2 hk1
          rw [hx1] at CG
          have HX2 := Lib.hid hx2
          have HX3 := Lib.hid hx3
          have hg := HG.out k hk0 hk8 (by rw [List.length_drop, HL.out]; omega)
          clear hx1 hx2 hx3 HK HG HT c2 c hk
          generalize getLst ((s.data.toList.drop 1).take k) = G at *
          generalize (s.data.toList.drop 1).take k = tk at *
          rcases hg with ⟨hbad, hg⟩ | ⟨hgood, rfl, hv1, hv2⟩
          · have hR := Lib.hid (HX2.out hbad)
            clear HX2 HX3 hbad
            rcases hg with rfl | ⟨v, hv, rfl⟩
            · go_wp2_with fail
              refine CG.out.mono ?_
              rintro e w1 ⟨rfl, rfl⟩
              simp only [n2]
              go_wp2_with fail
              go_returns
              exact ⟨by rw [hR.out]; rfl, rfl⟩
            · have d4 : decide (v ≤ 55) = true := by simp; omega
              go_wp2_with fail
              refine CG.out.mono ?_
              rintro e w1 ⟨rfl, rfl⟩
              simp only [n2]
              go_wp2_with fail
              go_returns
              exact ⟨by rw [hR.out]; rfl, rfl⟩
          · have hR := Lib.hid (HX3.out hgood)
            clear HX2 HX3 hgood
            generalize valB tk = v at *
            have d4 : decide (v ≤ 55) = false := by simp; omega
            by_cases c5 : s.size < v
            · have d5 : decide (s.size < v) = true := by simp; omega
              have hE := Lib.hid (HS.out (1 + k) v (by rw [HL.out]; omega))
              go_wp2_with fail
              refine CG.out.mono ?_
              rintro e w1 ⟨rfl, rfl⟩
              simp only [n2]
              go_wp2_with fail
              go_returns
              exact ⟨by rw [hR.out, hE.out]; rfl, rfl⟩
            · have d5 : decide (s.size < v) = false := by simp; omega
              have hvs : v ≤ 100000 := by omega
              go_wp2_with fail
              refine CG.out.mono ?_
              rintro e w1 ⟨rfl, rfl⟩
              simp only [n2]
              go_wp2_with fail
              go_meet
              exact ⟨1 + k, v, by first | rfl | (simp; omega), rfl, rfl, by omega, hk1, hvs, hR, rfl⟩
    case rest =>
      obtain ⟨Z, N, rfl, rfl, rfl, hZ1, hZ, hN, hq, rfl⟩ := hcut
      by_cases c1 : s.size - Z < N
      · have hE := Lib.hid (HS.out Z N (by rw [HL.out]; omega))
        have d2 : decide ((s.size : Int) - (Z : Int) < (N : Int)) = true := by simp; omega
        clear c1
        go_wp2_with fail
        go_returns
        exact ⟨by rw [hq.out, hE.out]; rfl, rfl⟩
      · have d2 : decide ((s.size : Int) - (Z : Int) < (N : Int)) = false := by simp; omega
        have hc1 : N ≤ s.size - Z := by omega
        clear c1
        by_cases c2 : N = 1
        · subst c2
          have hZs : Z < s.size := by omega
          have hgd : Hid (s.data.toList.getD Z 0 = s[Z]) := Lib.hid (by rw [List.getD_eq_getElem?_getD, List.getElem?_eq_getElem (by rw [HL.out]; exact hZs)]; rfl)
          by_cases c3 : s[Z].toNat < 128
          · have hE : Hid (hd2 s.data.toList false Z 1 = .error 3) := Lib.hid (by unfold hd2; rw [if_neg (by rw [HL.out]; omega), if_pos ⟨rfl, rfl, by rw [hgd.out]; exact c3⟩])
            have d3 : decide (s[Z].toNat < 128) = true := by simp; omega
            go_wp2_with fail
            go_returns
            exact ⟨by rw [hq.out, hE.out]; rfl, rfl⟩
          · have hE : Hid (hd2 s.data.toList false Z 1 = .ok (false, Z, 1)) := Lib.hid (by unfold hd2; rw [if_neg (by rw [HL.out]; omega), if_neg (by rw [hgd.out]; intro h; exact c3 h.2.2)])
            have d3 : decide (s[Z].toNat < 128) = false := by simp; omega
            go_wp2_with fail
            go_returns
            exact ⟨by rw [hq.out, hE.out]; rfl, rfl⟩
        · have hE : Hid (hd2 s.data.toList false Z N = .ok (false, Z, N)) := Lib.hid (by unfold hd2; rw [if_neg (by rw [HL.out]; omega), if_neg (fun h => c2 h.2.1)])
          have d3 : ((N : Int) == 1) = false := by rw [beq_eq_false_iff_ne]; omega
          clear c2
          go_wp2_with fail
          go_returns
          exact ⟨by rw [hq.out, hE.out]; rfl, rfl⟩

set_option maxRecDepth 100000 in
set_option maxHeartbeats 1000000 in
theorem rlp_head (s : ByteArray) (deep many : Bool) (w : World) (hs : s.size ≤ 100000) :
    Calls Try.prog 36 #[.string s, .bool deep, .bool many] w fun e w' => e = .returned (headV (hdx s.data.toList deep many)) ∧ w' = w := by
  by_cases h0 : s.size = 0
  · have e : s = ⟨#[]⟩ := bext (List.length_eq_zero_iff.1 (by simpa using h0))
    subst e
    have hR : Hid (hdx (⟨#[]⟩ : ByteArray).data.toList deep many = .error 2) := Lib.hid rfl
    go_enter Try.func36, Try.ntmps36
    go_wp2_with fail
    go_returns
    exact ⟨by rw [hR.out]; rfl, rfl⟩
  have hp : 0 < s.size := by omega
  have hne : s.data.toList ≠ [] := fun h => h0 (by have := congrArg List.length h; simpa using this)
  have hie := isEmpty_no' s hp
  cases deep with
  | true =>
    have hR : Hid (hdx s.data.toList true many = .error 6) := Lib.hid (by simp [hdx, hne])
    clear hne
    go_enter Try.func36, Try.ntmps36
    go_wp2_with fail
    go_returns
    exact ⟨by rw [hR.out]; rfl, rfl⟩
  | false =>
    cases many with
    | true =>
      have hR : Hid (hdx s.data.toList false true = .error 4) := Lib.hid (by simp [hdx, hne])
      clear hne
      go_enter Try.func36, Try.ntmps36
      go_wp2_with fail
      go_returns
      exact ⟨by rw [hR.out]; rfl, rfl⟩
    | false =>
      have hR : Hid (hdx s.data.toList false false = hd s.data.toList) := Lib.hid (by simp [hdx, hne])
      rw [hR.out]
      by_cases hb : s[0].toNat < 128
      · have hR2 : Hid (hd s.data.toList = .ok (false, 0, 1)) := Lib.hid (by rw [toList_cons' s hp]; simp only [hd]; rw [if_pos hb])
        have d0 : decide (s[0].toNat < 128) = true := by simpa using hb
        clear hne hR
        go_enter Try.func36, Try.ntmps36
        go_wp2_with fail
        go_returns
        exact ⟨by rw [hR2.out]; rfl, rfl⟩
      · exact rlp_head_big s w hs hp (by omega)
end Go.Proofs.Ytopfpfpefljkkaa
