/- The document's rlp: head, Put. -/
import Derived.Test.YtopfpfpefljkkaaItemSame
import Derived.Test.YtopfpfpefljkkaaFixBig
namespace Go.Proofs.Ytopfpfpefljkkaa
open Go.RowKit
set_option linter.unusedVariables false
set_option linter.unusedSimpArgs false

theorem bcat (l m : List UInt8) : ((⟨l.toArray⟩ : ByteArray) ++ ⟨m.toArray⟩) = ⟨(l ++ m).toArray⟩ := by
  apply ByteArray.ext
  simp
theorem bapp (a b : ByteArray) : (a ++ b).data.toList = a.data.toList ++ b.data.toList := by simp
set_option maxRecDepth 100000 in
set_option maxHeartbeats 1000000 in
theorem ref_rlp_head (b n : Nat) (w : World) (hb : b = 128 ∨ b = 192) (hn : n ≤ 1000000) :
    Calls Try.prog 44 #[.int .i64 b, .int .i64 n] w fun e w' => e = .returned (.string ⟨(hdr b n).toArray⟩) ∧ Below w.heap.size w w' := by
  have hb2 : b ≤ 192 := by omega
  by_cases c : n ≤ 55
  · have HR : Hid (hdr b n = [UInt8.ofNat (b + n)]) := Lib.hid (by unfold hdr; rw [if_pos c])
    have hst := fun W => string_lit btf W [UInt8.ofNat (b + n)] #[.int .u8 ((b : Int) + (n : Int))] 1 rfl (lit1 (by omega) (by omega)) (by decide)
    have hbn : b + n ≤ 255 := by omega
    generalize UInt8.ofNat (b + n) = B at *
    go_enter Try.func44, Try.ntmps44
    go_wp2_with fail
    go_returns
    exact ⟨by rw [HR.out]; rfl, (Below.refl _ _).alloc (Nat.le_refl _) _⟩
  · have c0 := Lib.hid (ref_least n w (by omega))
    have hl := lsN_le 3 n (Nat.lt_of_le_of_lt hn (by decide))
    have HR : Hid (hdr b n = UInt8.ofNat (b + 55 + (lsN n).length) :: (lsN n).reverse) := Lib.hid (by unfold hdr; rw [if_neg c])
    obtain ⟨S, hS⟩ : ∃ S : ByteArray, S = ⟨(lsN n).reverse.toArray⟩ := ⟨_, rfl⟩
    have hSs : S.size = (lsN n).length := by rw [hS, size_mk]; simp
    rw [← hS] at c0
    have HS := Lib.hid hS
    have HSS := Lib.hid hSs
    have hs3 : S.size ≤ 3 := by omega
    have hst := fun W => string_lit btf W [UInt8.ofNat (b + 55 + S.size)] #[.int .u8 ((b : Int) + 55 + (S.size : Int))] 1 rfl (lit1 (by omega) (by omega)) (by decide)
    obtain ⟨B, hB⟩ : ∃ B, UInt8.ofNat (b + 55 + S.size) = B := ⟨_, rfl⟩
    rw [hB] at hst
    rw [← HSS.out, hB] at HR
    have hsz1 : (⟨[B].toArray⟩ : ByteArray).size = 1 := rfl
    clear hB
    clear hS hSs
    go_enter Try.func44, Try.ntmps44
    go_wp2_with fail
    refine c0.out.mono ?_
    rintro e w2 ⟨rfl, hb2⟩
    have HB2 := Lib.hid (hb2.alloc hb2.size (.cells #[.int .u8 ((b : Int) + 55 + (S.size : Int))] 5))
    clear hb2
    go_wp2_with fail
    go_returns
    refine ⟨?_, HB2.out⟩
    rw [HR.out, HS.out]
    exact congrArg (fun z => Ending.returned (Value.string z)) (bcat _ _)

theorem encL_take {s : List (Rose IL)} {i : Nat} {x : Rose IL} (h : s[i]? = some x) : encL (s.take (i + 1)) = encL (s.take i) ++ enc x := by
  rw [List.take_add_one, h]
  simp [encL_append, encL]
theorem encL_take_le (s : List (Rose IL)) (i : Nat) : (encL (s.take i)).length ≤ (encL s).length := by
  conv => rhs; rw [← List.take_append_drop i s, encL_append, List.length_append]
  omega
theorem enc_node (a : IL) (s : List (Rose IL)) : enc (.node a s) = if a.list then hdr 192 (encL s).length ++ encL s else if single a.text then a.text else hdr 128 a.text.length ++ a.text := by simp only [enc]
theorem enc_mem_le {s : List (Rose IL)} {x : Rose IL} (h : x ∈ s) : (enc x).length ≤ (encL s).length := by
  obtain ⟨i, hi⟩ := List.mem_iff_getElem?.1 h
  have h1 := encL_take_le s (i + 1)
  rw [encL_take hi, List.length_append] at h1
  omega
theorem single_size {t : List UInt8} (h : t.length ≠ 1) : single t = false := by
  cases t with
  | nil => rfl
  | cons b r => cases r with
    | nil => simp at h
    | cons c r => rfl
theorem single_txt {a : IL} (h : (txt a).size = 1) : single a.text = decide ((txt a)[0].toNat < 128) := by
  have h1 : a.text.length = 1 := by rw [← txt_size]; exact h
  obtain ⟨t, li⟩ := a
  match t, h1 with
  | [b], _ => rfl

/-- The text of an item that may be is no longer than its bytes. -/
theorem text_le (y : Rose IL) (h : y.all iright = true) {n : Nat} (hn : (enc y).length ≤ n) : y.lab.text.length ≤ n := by
  cases y with
  | node a s =>
    simp only [Rose.all, iright, irightK, Bool.and_eq_true] at h
    rw [enc_node] at hn
    simp only [Rose.lab_node]
    cases hL : a.list with
    | true =>
      rw [hL] at h
      simp only [if_true, List.isEmpty_iff] at h
      rw [h.1]; simp
    | false =>
      rw [hL, if_neg (by simp)] at hn
      split at hn
      · exact hn
      · rw [List.length_append] at hn; omega

set_option maxRecDepth 100000 in
set_option maxHeartbeats 2000000 in
theorem ref_put (x : Rose IL) : ∀ (w : World) (v : Value), ISubs w v x.sub → (enc x).length ≤ 100000 → x.lab.text.length ≤ 100000 → x.all iright = true →
    Calls Try.prog 19 #[.agg #[.string (txt x.lab), .bool x.lab.list, v]] w fun e w' => e = .returned (.string ⟨(enc x).toArray⟩) ∧ Below w.heap.size w w' := by
  induction x using Rose.ind with
  | h a s ih =>
    intro w v hv hle hal hri
    simp only [Rose.sub_node, Rose.lab_node] at hv hal ⊢
    obtain ⟨oa, cap, rfl, hcap, hml⟩ := ISubsQ.slice hv
    obtain ⟨g, hg⟩ : ∃ g, w.heap.size = g := ⟨_, rfl⟩
    have HW := Lib.hid (box_item (T := txt a) (l := a.list) (t := IT) hv)
    have hlm : s.length ≤ 9223372036854775807 := by unfold maxLen at hml; omega
    obtain ⟨M, hM⟩ : ∃ M, s.length = M := ⟨_, rfl⟩
    have HM := Lib.hid hM
    have IH := Lib.hid ih
    have HRI := Lib.hid hri
    obtain ⟨E, hE⟩ : ∃ E : List UInt8, enc (.node a s) = E := ⟨_, rfl⟩
    have HE := Lib.hid hE
    rw [hE] at hle ⊢
    rw [hg] at HW ⊢
    rw [hM] at HW hlm ⊢
    rw [enc_node] at hE
    clear hv hcap hml ih hM hri
    go_enter Try.func19, Try.ntmps19
    go_upto_region 1 with fail
    generalize w.alloc (.cells #[.string (txt a), .bool a.list, .slice oa M cap] IT) = w1 at *
    obtain ⟨hb1, ht1, hsz, c0, c1, c2, _⟩ := HW.out _ rfl
    have H1 := Lib.hid (And.intro hb1 ht1)
    clear HW hb1 ht1
    have hts := txt_size a
    cases hL : a.list with
    | true =>
      rw [hL] at c1
      rw [hL, if_pos rfl] at hE
      have hEL : (encL s).length ≤ 100000 := by
        have := congrArg List.length hE
        rw [List.length_append] at this
        omega
      have HEL := Lib.hid hEL
      have HE2 := Lib.hid hE
      clear hE hEL c0
      go_wp2_with fail
      go_loopw [3, 4] (fun sv iv wi => ∃ (k : Nat) (S : ByteArray), iv = .int .i64 k ∧ k ≤ M ∧ sv = .string S ∧ Hid (S.data.toList = encL (s.take k)) ∧ S.size ≤ 100000 ∧ Hid (Below (g + 1) w1 wi)) (fun _ iv _ => M - (intOf iv).toNat)
      case atStart => exact ⟨0, _, rfl, by omega, rfl, Lib.hid (by simp [encL]), by decide, Lib.hid (Below.refl _ _)⟩
      case round =>
        obtain ⟨k, S, rfl, hk, rfl, HS, hSs, hbe⟩ := hrel
        have hcr : wr.cell? ⟨g, 2, none⟩ = some (.slice oa M cap) := (hbe.out.cell (p := ⟨g, 2, none⟩) (Nat.lt_succ_self g)).trans c2
        have HF : Hid (Below g w wr) := Lib.hid (H1.out.1.trans (hbe.out.mono (by omega)))
        by_cases c : k < M
        · obtain ⟨y, hy⟩ : ∃ y, s[k]? = some y := ⟨_, List.getElem?_eq_getElem (by rw [HM.out]; exact c)⟩
          obtain ⟨b, off, u, rfl, hlt, _, y0, y1, y2, hu, hwf⟩ := ISubsQ.at_ (Shape.Subs.below H1.out.2 (hsz ▸ hbe.out)) hy
          have hym := List.mem_of_getElem? hy
          have hyle : (enc y).length ≤ 100000 := Nat.le_trans (enc_mem_le hym) HEL.out
          have hyri : y.all iright = true := by
            cases hya : y.all iright with
            | true => rfl
            | false =>
              have h1 := HRI.out
              simp only [Rose.all, Bool.and_eq_true] at h1
              rw [Rose.allL_false hy hya] at h1
              exact absurd h1.2 (by simp)
          have hyt : y.lab.text.length ≤ 100000 := text_le y hyri hyle
          have CY := Lib.hid (IH.out y hym wr u hu hyle hyt hyri)
          obtain ⟨Y, hY⟩ : ∃ Y : ByteArray, ⟨(enc y).toArray⟩ = Y := ⟨_, rfl⟩
          rw [hY] at CY
          have hYs : Y.size ≤ 100000 := by rw [← hY, size_mk]; exact hyle
          have HSY : Hid ((S ++ Y).data.toList = encL (s.take (k + 1))) := Lib.hid (by rw [bapp, HS.out, encL_take hy, ← hY])
          have hSY : S.size + Y.size ≤ 100000 := by
            have h1 := congrArg List.length HSY.out
            have h2 := encL_take_le s (k + 1)
            have h3 := HEL.out
            simp at h1; omega
          have hbk : Hid (∀ w2, Below wr.heap.size wr w2 → Below (g + 1) w1 w2) := Lib.hid fun w2 hb2 => hbe.out.trans (hb2.mono (by have := hbe.out.size; omega))
          have hsap : (S ++ Y).size = S.size + Y.size := by simp
          clear hu hwf hyle hyt hyri hY
          go_wp2_with fail
          refine (CY.out).mono ?_
          rintro e w2 ⟨rfl, hb2⟩
          go_wp2_with fail
          go_roundw
          case rel => exact ⟨k + 1, _, by go_num, by omega, rfl, HSY, by omega, Lib.hid (hbk.out _ hb2)⟩
          case measure => simp [intOf]; omega
        · obtain rfl : k = M := by omega
          have htk : s.take k = s := by rw [← HM.out, List.take_length]
          rw [htk] at HS
          have hSl : S.size = (encL s).length := by rw [← HS.out]; simp
          have CH := Lib.hid (ref_rlp_head 192 (encL s).length wr (.inr rfl) (by omega))
          rw [← hSl] at CH HE2
          obtain ⟨Hd, hHd⟩ : ∃ Hd : ByteArray, ⟨(hdr 192 S.size).toArray⟩ = Hd := ⟨_, rfl⟩
          rw [hHd] at CH
          have hHs : Hd.size ≤ 9 := by rw [← hHd, size_mk]; exact hdr_le 192 S.size (by omega)
          have HFIN : Hid (Hd ++ S = ⟨E.toArray⟩) := Lib.hid (by
            apply bext
            rw [bapp, HS.out, ← hHd]
            exact HE2.out)
          have hwr : g ≤ wr.heap.size := by have := hbe.out.size; omega
          clear hSl hHd
          go_wp2_with fail
          refine (CH.out).mono ?_
          rintro e w2 ⟨rfl, hb2⟩
          have HB2 := Lib.hid (HF.out.trans (hb2.mono hwr))
          clear hb2
          go_wp2_with fail
          go_returns
          exact ⟨by rw [← HFIN.out]; rfl, HB2.out⟩
    | false =>
      rw [hL] at c1
      rw [hL, if_neg (by simp)] at hE
      have hnil : s = [] := by
        have h1 := HRI.out
        simp only [Rose.all, iright, irightK, hL, Bool.and_eq_true, Bool.false_eq_true, if_false, decide_eq_true_eq, List.length_eq_zero_iff] at h1
        exact h1.1
      have hTs : (txt a).size ≤ 100000 := by rw [hts]; exact hal
      have HTX : Hid ((txt a).data.toList = a.text) := Lib.hid (txt_list a)
      have CH : Hid (∀ x : Fut w1, Calls Try.prog 44 #[.int .i64 128, .int .i64 ((txt a).size : Nat)] x.at_ fun e w' => e = .returned (.string ⟨(hdr 128 a.text.length).toArray⟩) ∧ Below x.at_.heap.size x.at_ w') := Lib.hid fun x => by
        rw [hts]
        exact ref_rlp_head 128 a.text.length x.at_ (.inl rfl) (by omega)
      obtain ⟨Hd, hHd⟩ : ∃ Hd : ByteArray, ⟨(hdr 128 a.text.length).toArray⟩ = Hd := ⟨_, rfl⟩
      rw [hHd] at CH
      have hHs : Hd.size ≤ 9 := by rw [← hHd, size_mk]; exact hdr_le 128 a.text.length (by omega)
      have hlt : g < w1.heap.size := by omega
      have d0 : ∀ x : Fut w1, x.at_.cell? ⟨g, 0, none⟩ = some (.string (txt a)) := fun x => (x.is.cell (p := ⟨g, 0, none⟩) hlt).trans c0
      have HF : Hid (∀ x : Fut w1, Below g w x.at_) := Lib.hid fun x => H1.out.1.trans (x.is.mono (by omega))
      have HLONG : Hid (single a.text = false → Hd ++ txt a = ⟨E.toArray⟩) := Lib.hid fun h => by
        apply bext
        rw [bapp, txt_list, ← hHd, ← hE, h]
        rfl
      have HSHORT : Hid (single a.text = true → txt a = ⟨E.toArray⟩) := Lib.hid fun h => by
        apply bext
        rw [txt_list, ← hE, h]
        rfl
      by_cases h1 : (txt a).size = 1
      · have hsg := single_txt h1
        have hsz1 : 0 < (txt a).size := by omega
        have e0 : (((txt a).size : Int) == 1) = true := by rw [h1]; rfl
        by_cases hb : (txt a)[0].toNat < 128
        · have HE3 := HSHORT.out (by rw [hsg]; simpa using hb)
          have HE4 := Lib.hid HE3
          have e1 : decide ((txt a)[0].toNat < 128) = true := by simpa using hb
          clear hE hHd HE3 hsg hts hTs hal
          generalize txt a = T at *
          go_wp2_with fail
          go_returns
          exact ⟨by rw [← HE4.out]; rfl, H1.out.1⟩
        · have HE3 := HLONG.out (by rw [hsg]; simpa using hb)
          have HE4 := Lib.hid HE3
          have e1 : decide ((txt a)[0].toNat < 128) = false := by simpa using hb
          have CH1 : Hid (∀ x : Fut w1, Calls Try.prog 44 #[.int .i64 128, .int .i64 1] x.at_ fun e w' => e = .returned (.string Hd) ∧ Below x.at_.heap.size x.at_ w') := Lib.hid fun x => by
            have := CH.out x
            rw [h1] at this
            exact this
          clear hE hHd HE3 hsg hts hal CH
          generalize txt a = T at *
          go_upto_region 10 with fail
          refine wp_region_after (by kernel_rfl) (by kernel_rfl) ?_
          repeat (go_big_quiet_step (exact Calls.after (CH1.out _)))
          refine wpQuiet_nil ?_
          intro x
          go_wp2_with fail
          go_returns
          exact ⟨by rw [← HE4.out]; rfl, HF.out x⟩
      · have HE3 := HLONG.out (single_size (by rw [← txt_size]; exact h1))
        have HE4 := Lib.hid HE3
        have e0 : (((txt a).size : Int) == 1) = false := by rw [beq_eq_false_iff_ne]; omega
        clear hE hHd HE3 hts hal h1
        generalize txt a = T at *
        go_upto_region 10 with fail
        refine wp_region_after (by kernel_rfl) (by kernel_rfl) ?_
        repeat (go_big_quiet_step (exact Calls.after (CH.out _)))
        refine wpQuiet_nil ?_
        intro x
        go_wp2_with fail
        go_returns
        exact ⟨by rw [← HE4.out]; rfl, HF.out x⟩
end Go.Proofs.Ytopfpfpefljkkaa
