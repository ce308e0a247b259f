/- The document's dec, Put. -/
import Derived.Test.YtopfpfpefljkkaaDoorTypePut
namespace Go.Proofs.YtopfpfpefljkkaaDoor
open Go.RowKit Go.Shelf
set_option linter.unusedVariables false
set_option linter.unusedSimpArgs false

set_option maxRecDepth 100000 in
set_option maxHeartbeats 1000000 in
theorem doc_dec (n : Nat) : ∀ (w : World), n ≤ 1000000 →
    Calls Tryd.prog 30 #[.int .i64 (n : Int)] w fun e w' => e = .returned (.string ⟨(decN n).toArray⟩) ∧ Below w.heap.size w w' := by
  induction n using Nat.strongRecOn with
  | _ n ih =>
    intro w hn
    obtain ⟨g, hg⟩ : ∃ g, w.heap.size = g := ⟨_, rfl⟩
    rw [hg]
    have HG := Lib.hid hg
    clear hg
    by_cases c : n < 10
    · rw [decN_lt c]
      have HF : Hid (Below g w w) := Lib.hid (Below.refl _ _)
      have : n = 0 ∨ n = 1 ∨ n = 2 ∨ n = 3 ∨ n = 4 ∨ n = 5 ∨ n = 6 ∨ n = 7 ∨ n = 8 ∨ n = 9 := by omega
      clear ih hn c
      rcases this with rfl | rfl | rfl | rfl | rfl | rfl | rfl | rfl | rfl | rfl
      all_goals
        go_enter Tryd.func30, Tryd.ntmps30
        go_wp2_with fail
        go_returns
        exact ⟨rfl, HF.out⟩
    · rw [decN_ge (by omega)]
      have E1 : Hid (((n / 10 : Nat) : Int) = (n : Int) / 10) := Lib.hid (by omega)
      have E2 : Hid (((n % 10 : Nat) : Int) = (n : Int) % 10) := Lib.hid (by omega)
      have h1 := decN_len (n / 10) (by omega)
      have h2 : (decN (n % 10)) = [UInt8.ofNat (48 + n % 10)] := decN_lt (by omega)
      have HC := Lib.hid (catL (decN (n / 10)) [UInt8.ofNat (48 + n % 10)])
      have C1 := Lib.hid (ih (n / 10) (by omega))
      have C2 := Lib.hid (ih (n % 10) (by omega))
      rw [h2] at C2
      have s1 : (⟨(decN (n / 10)).toArray⟩ : ByteArray).size ≤ 9 := by have : (⟨(decN (n / 10)).toArray⟩ : ByteArray).size = (decN (n / 10)).length := List.size_toArray; omega
      have s2 : (⟨([UInt8.ofNat (48 + n % 10)] : List UInt8).toArray⟩ : ByteArray).size = 1 := rfl
      have d0 : decide ((n : Int) < 10) = false := by simp; omega
      have hq : Hid (n / 10 ≤ 1000000 ∧ n % 10 ≤ 1000000) := Lib.hid (by omega)
      generalize decN (n / 10) = P at *
      generalize [UInt8.ofNat (48 + n % 10)] = Q at *
      clear ih h1 h2 c
      have CC1 := Lib.hid (C1.out w hq.out.1)
      rw [HG.out, E1.out] at CC1
      rw [E2.out] at C2
      go_enter Tryd.func30, Tryd.ntmps30
      go_wp2_with fail
      refine (CC1.out).mono ?_
      rintro e w2 ⟨rfl, hb2⟩
      have CC2 := Lib.hid (C2.out w2 hq.out.2)
      have HB2 := Lib.hid hb2
      have hz : g ≤ w2.heap.size := by have := hb2.size; have := HG.out; omega
      clear hb2
      go_wp2_with fail
      refine (CC2.out).mono ?_
      rintro e w3 ⟨rfl, hb3⟩
      have HB3 := Lib.hid (HB2.out.trans (hb3.mono hz))
      clear hb3
      go_wp2_with fail
      go_returns
      exact ⟨by rw [← HC.out]; rfl, HB3.out⟩
theorem decN_size (n : Nat) (h : n ≤ 100000000) : (⟨(decN n).toArray⟩ : ByteArray).size ≤ 9 := by
  have h1 := decN_len n h
  have : (⟨(decN n).toArray⟩ : ByteArray).size = (decN n).length := List.size_toArray
  omega
set_option maxRecDepth 100000 in
set_option maxHeartbeats 4000000 in
theorem doc_put (x : Rose TL) : ∀ (w : World) (v : Value), TSubs w v x.sub → x.all right1 = true → (put x).length ≤ 5000 →
    Calls Tryd.prog 17 #[.agg #[.int .i64 x.lab.kind, .int .i64 x.lab.size, v, .int .i64 x.lab.tail]] w fun e w' => e = .returned (.string ⟨(put x).toArray⟩) ∧ Below w.heap.size w w' := by
  induction x using Rose.ind with
  | h a s ih =>
    intro w v hv hr hlen
    obtain ⟨kind, size, tail⟩ := a
    simp only [Rose.sub_node, Rose.lab_node] at hv ⊢
    obtain ⟨oa, cap, rfl, hcap, hml⟩ := TSubs.slice hv
    obtain ⟨g, hg⟩ : ∃ g, w.heap.size = g := ⟨_, rfl⟩
    have HW := Lib.hid (box_type (k := kind) (z := size) (l := tail) (t := 24) hv)
    rw [hg] at HW ⊢
    have hr' := hr
    simp only [Rose.all, Bool.and_eq_true, right1, rightK, decide_eq_true_eq] at hr'
    obtain ⟨hr0, hrL⟩ := hr'
    have HRL := Lib.hid hrL
    have HIH := Lib.hid ih
    clear hv hr hrL ih hcap hml
    rcases hr0 with ⟨rfl, h2, h3, rfl⟩ | ⟨rfl, h2, h2', h3, rfl⟩ | ⟨rfl, h2, h2', h3, rfl⟩ | ⟨rfl, h2, h2', h3, rfl⟩ | ⟨rfl, rfl, h3, h4, h5⟩
    · obtain ⟨sz, rfl⟩ : ∃ sz : Nat, size = sz := ⟨size.toNat, by omega⟩
      have hsz : sz ≤ 65536 := by omega
      obtain rfl : s = [] := List.length_eq_zero_iff.1 h3
      obtain ⟨n, hn⟩ : ∃ n, 8 * sz = n := ⟨_, rfl⟩
      have hput : put (.node ⟨1, (sz : Int), 0⟩ []) = 117 :: decN n := by
        simp only [put, if_true]
        all_goals (congr 2; try omega)
      rw [hput]
      have HI : Hid (((n : Nat) : Int) = 8 * (sz : Int)) := Lib.hid (by omega)
      have hdl := decN_len n (by omega)
      have hsb : (⟨(decN n).toArray⟩ : ByteArray).size ≤ 9 := by have : (⟨(decN n).toArray⟩ : ByteArray).size = (decN n).length := List.size_toArray; omega
      have HC : Hid ((⟨#[117]⟩ : ByteArray) ++ ⟨(decN n).toArray⟩ = ⟨((117 : UInt8) :: decN n).toArray⟩) := Lib.hid (catL [117] (decN n))
      have CD := Lib.hid (fun W => doc_dec n W (by omega))
      rw [HI.out] at CD
      clear h2 h3 hput hn HIH HRL
      generalize decN n = P at *
      go_enter Tryd.func17, Tryd.ntmps17
      go_upto_region 1 with fail
      generalize w.alloc (.cells #[.int .i64 1, .int .i64 (sz : Int), .slice oa 0 cap, .int .i64 0] 24) = w1 at *
      obtain ⟨hb1, ht1, hz1, c0, c1, c2, c3⟩ := HW.out _ rfl
      have CD1 := Lib.hid (CD.out w1)
      have H1 := Lib.hid hb1
      have hgz : g ≤ w1.heap.size := by omega
      clear HW hb1 ht1 CD
      go_wp2_with fail
      refine (CD1.out).mono ?_
      rintro e w2 ⟨rfl, hb2⟩
      have H2 := Lib.hid (H1.out.trans (hb2.mono hgz))
      clear hb2
      go_wp2_with fail
      go_returns
      exact ⟨by rw [← HC.out]; rfl, H2.out⟩
    · obtain ⟨sz, rfl⟩ : ∃ sz : Nat, size = sz := ⟨size.toNat, by omega⟩
      have hsz : sz ≤ 65536 := by omega
      obtain rfl : s = [] := List.length_eq_zero_iff.1 h3
      obtain ⟨n, hn⟩ : ∃ n, sz = n := ⟨_, rfl⟩
      have hput : put (.node ⟨2, (sz : Int), 0⟩ []) = 98 :: decN n := by
        simp only [put, if_true, if_neg (show (2 : Int) ≠ 1 by decide)]
        all_goals (congr 2; try omega)
      rw [hput]
      have HI : Hid (((n : Nat) : Int) = (sz : Int)) := Lib.hid (by omega)
      have hdl := decN_len n (by omega)
      have hsb : (⟨(decN n).toArray⟩ : ByteArray).size ≤ 9 := by have : (⟨(decN n).toArray⟩ : ByteArray).size = (decN n).length := List.size_toArray; omega
      have HC : Hid ((⟨#[98]⟩ : ByteArray) ++ ⟨(decN n).toArray⟩ = ⟨((98 : UInt8) :: decN n).toArray⟩) := Lib.hid (catL [98] (decN n))
      have CD := Lib.hid (fun W => doc_dec n W (by omega))
      rw [HI.out] at CD
      clear h2 h3 hput hn HIH HRL
      generalize decN n = P at *
      go_enter Tryd.func17, Tryd.ntmps17
      go_upto_region 1 with fail
      generalize w.alloc (.cells #[.int .i64 2, .int .i64 (sz : Int), .slice oa 0 cap, .int .i64 0] 24) = w1 at *
      obtain ⟨hb1, ht1, hz1, c0, c1, c2, c3⟩ := HW.out _ rfl
      have CD1 := Lib.hid (CD.out w1)
      have H1 := Lib.hid hb1
      have hgz : g ≤ w1.heap.size := by omega
      clear HW hb1 ht1 CD
      go_wp2_with fail
      refine (CD1.out).mono ?_
      rintro e w2 ⟨rfl, hb2⟩
      have H2 := Lib.hid (H1.out.trans (hb2.mono hgz))
      clear hb2
      go_wp2_with fail
      go_returns
      exact ⟨by rw [← HC.out]; rfl, H2.out⟩
    · obtain ⟨sz, rfl⟩ : ∃ sz : Nat, size = sz := ⟨size.toNat, by omega⟩
      have hsz : sz ≤ 65536 := by omega
      obtain rfl : s = [] := List.length_eq_zero_iff.1 h3
      obtain ⟨n, hn⟩ : ∃ n, sz = n := ⟨_, rfl⟩
      have hput : put (.node ⟨3, (sz : Int), 0⟩ []) = 115 :: decN n := by
        simp only [put, if_true, if_neg (show (3 : Int) ≠ 1 by decide), if_neg (show (3 : Int) ≠ 2 by decide)]
        all_goals (congr 2; try omega)
      rw [hput]
      have HI : Hid (((n : Nat) : Int) = (sz : Int)) := Lib.hid (by omega)
      have hdl := decN_len n (by omega)
      have hsb : (⟨(decN n).toArray⟩ : ByteArray).size ≤ 9 := by have : (⟨(decN n).toArray⟩ : ByteArray).size = (decN n).length := List.size_toArray; omega
      have HC : Hid ((⟨#[115]⟩ : ByteArray) ++ ⟨(decN n).toArray⟩ = ⟨((115 : UInt8) :: decN n).toArray⟩) := Lib.hid (catL [115] (decN n))
      have CD := Lib.hid (fun W => doc_dec n W (by omega))
      rw [HI.out] at CD
      clear h2 h3 hput hn HIH HRL
      generalize decN n = P at *
      go_enter Tryd.func17, Tryd.ntmps17
      go_upto_region 1 with fail
      generalize w.alloc (.cells #[.int .i64 3, .int .i64 (sz : Int), .slice oa 0 cap, .int .i64 0] 24) = w1 at *
      obtain ⟨hb1, ht1, hz1, c0, c1, c2, c3⟩ := HW.out _ rfl
      have CD1 := Lib.hid (CD.out w1)
      have H1 := Lib.hid hb1
      have hgz : g ≤ w1.heap.size := by omega
      clear HW hb1 ht1 CD
      go_wp2_with fail
      refine (CD1.out).mono ?_
      rintro e w2 ⟨rfl, hb2⟩
      have H2 := Lib.hid (H1.out.trans (hb2.mono hgz))
      clear hb2
      go_wp2_with fail
      go_returns
      exact ⟨by rw [← HC.out]; rfl, H2.out⟩
    · obtain ⟨sz, rfl⟩ : ∃ sz : Nat, size = sz := ⟨size.toNat, by omega⟩
      have hsz : sz ≤ 65536 := by omega
      obtain ⟨y, rfl⟩ : ∃ y, s = [y] := List.length_eq_one_iff.1 h3
      have hput : put (.node ⟨4, (sz : Int), 0⟩ [y]) = 91 :: (put y ++ 58 :: (decN sz ++ [93])) := by
        simp [put, putL]
      rw [hput] at hlen ⊢
      have hdl := decN_size sz (by omega)
      have hyr : y.all right1 = true := by
        have := HRL.out
        simp only [Rose.allL, Bool.and_eq_true] at this
        exact this.1
      have hpy : (put y).length ≤ 5000 := by simp at hlen; omega
      have hps : (⟨(put y).toArray⟩ : ByteArray).size ≤ 5000 := by have : (⟨(put y).toArray⟩ : ByteArray).size = (put y).length := List.size_toArray; omega
      have HC : Hid ((⟨#[91]⟩ : ByteArray) ++ ⟨(put y).toArray⟩ ++ ⟨#[58]⟩ ++ ⟨(decN sz).toArray⟩ ++ ⟨#[93]⟩ = ⟨((91 : UInt8) :: (put y ++ 58 :: (decN sz ++ [93]))).toArray⟩) := Lib.hid (by apply ByteArray.ext; simp)
      have CY := Lib.hid (fun W u h => HIH.out y (by simp) W u h hyr hpy)
      have CD := Lib.hid (fun W => doc_dec sz W (by omega))
      have hdl2 := decN_len sz (by omega)
      have HPY := Lib.hid hpy
      clear h2 h2' h3 hput hlen HIH HRL hyr
      generalize decN sz = P at *
      generalize put y = PY at *
      simp only [List.length_cons, List.length_nil, Nat.zero_add] at HW ⊢
      go_enter Tryd.func17, Tryd.ntmps17
      go_upto_region 1 with fail
      generalize w.alloc (.cells #[.int .i64 4, .int .i64 (sz : Int), .slice oa 1 cap, .int .i64 0] 24) = w1 at *
      obtain ⟨hb1, ht1, hz1, c0, c1, c2, c3⟩ := HW.out _ rfl
      obtain ⟨b, off, u, rfl, hlt, y0, y1, y2, y3, hu, hwf⟩ := TSubs.at_ ht1 (i := 0) (x := y) rfl
      simp only [Nat.zero_mul, Nat.add_zero] at y0 y1 y2 y3
      have H1 := Lib.hid hb1
      have hg1 : g < w1.heap.size := by omega
      have x0 : ∀ x : Fut w1, x.at_.cell? ⟨g, 1, none⟩ = some (.int .i64 (sz : Int)) := fun x => (x.is.cell (p := ⟨g, 1, none⟩) hg1).trans c1
      have x1 : ∀ x : Fut w1, x.at_.cell? ⟨g, 2, none⟩ = some (.slice (some ⟨b, off, none⟩) 1 cap) := fun x => (x.is.cell (p := ⟨g, 2, none⟩) hg1).trans c2
      have z0 : ∀ x : Fut w1, x.at_.cell? ⟨b, off, none⟩ = some (.int .i64 y.lab.kind) := fun x => (x.is.cell (p := ⟨b, off, none⟩) hlt).trans y0
      have z1 : ∀ x : Fut w1, x.at_.cell? ⟨b, off + 1, none⟩ = some (.int .i64 y.lab.size) := fun x => (x.is.cell (p := ⟨b, off + 1, none⟩) hlt).trans y1
      have z2 : ∀ x : Fut w1, x.at_.cell? ⟨b, off + 2, none⟩ = some u := fun x => (x.is.cell (p := ⟨b, off + 2, none⟩) hlt).trans y2
      have z3 : ∀ x : Fut w1, x.at_.cell? ⟨b, off + 3, none⟩ = some (.int .i64 y.lab.tail) := fun x => (x.is.cell (p := ⟨b, off + 3, none⟩) hlt).trans y3
      have D1 := Lib.hid (fun x : Fut w1 => CY.out x.at_ u (Shape.Subs.below hu x.is))
      have D2 := Lib.hid (fun x : Fut w1 => CD.out x.at_)
      have HF := Lib.hid (fun x : Fut w1 => hb1.trans (x.is.mono (by omega)))
      clear HW hb1 ht1 hu hwf CY CD y0 y1 y2 y3
      go_upto_region 9 with fail
      refine wp_region_after (by kernel_rfl) (by kernel_rfl) ?_
      repeat (go_big_quiet_step (fail))
      go_big_quiet_step (exact Calls.after (D1.out _))
      repeat (go_big_quiet_step (fail))
      go_big_quiet_step (exact Calls.after (D2.out _))
      repeat (go_big_quiet_step (fail))
      refine wpQuiet_nil ?_
      intro x
      go_wp2_with fail
      go_returns
      exact ⟨by rw [← HC.out]; rfl, HF.out x⟩
    · obtain ⟨t, rfl⟩ : ∃ t : Nat, tail = t := ⟨tail.toNat, by omega⟩
      have hput : put (.node ⟨5, 0, (t : Int)⟩ s) = 123 :: (putL true t s ++ [125]) := by simp [put]
      rw [hput] at hlen ⊢
      obtain ⟨M, hM⟩ : ∃ M, s.length = M := ⟨_, rfl⟩
      have HM := Lib.hid hM
      have hM16 : M ≤ 16 := by omega
      have htM : t ≤ M := by omega
      have hlen' : (putL true t s).length ≤ 4998 := by simp at hlen; omega
      rw [hM] at HW ⊢
      clear hput hlen h3 h4 h5 hM
      obtain ⟨F, hF⟩ : ∃ F : ByteArray, F = ⟨(123 :: (putL true t s ++ [125])).toArray⟩ := ⟨_, rfl⟩
      rw [← hF]
      have HFin := Lib.hid hF
      clear hF
      go_enter Tryd.func17, Tryd.ntmps17
      go_upto_region 1 with fail
      generalize w.alloc (.cells #[.int .i64 5, .int .i64 0, .slice oa M cap, .int .i64 (t : Int)] 24) = w1 at *
      obtain ⟨hb1, ht1, hsz, c0, c1, c2, c3⟩ := HW.out _ rfl
      have H1 := Lib.hid (And.intro hb1 ht1)
      clear HW hb1 ht1
      go_wp2_with fail
      clear c0 c1
      go_loopw [3, 4] (fun sv iv wi => ∃ (k : Nat) (S : ByteArray), iv = .int .i64 k ∧ k ≤ M ∧ sv = .string S ∧ S.size ≤ 10000 ∧ Hid (∃ done, S = ⟨(123 :: done).toArray⟩ ∧ putL true t s = done ++ putL (decide (k = 0)) t (s.drop k)) ∧ Hid (Below (g + 1) w1 wi)) (fun _ iv _ => M - (intOf iv).toNat)
      case atStart => exact ⟨0, ⟨#[123]⟩, rfl, by omega, rfl, by decide, Lib.hid ⟨[], rfl, by simp⟩, Lib.hid (Below.refl _ _)⟩
      case round =>
        obtain ⟨k, S, rfl, hk, rfl, hSz, HDN, hbe⟩ := hrel
        have hcr : wr.cell? ⟨g, 2, none⟩ = some (.slice oa M cap) := (hbe.out.cell (p := ⟨g, 2, none⟩) (Nat.lt_succ_self g)).trans c2
        have hcr3 : wr.cell? ⟨g, 3, none⟩ = some (.int .i64 (t : Int)) := (hbe.out.cell (p := ⟨g, 3, none⟩) (Nat.lt_succ_self g)).trans c3
        have HF : Hid (Below g w wr) := Lib.hid (H1.out.1.trans (hbe.out.mono (by omega)))
        have hgr : g + 1 ≤ wr.heap.size := by have := hbe.out.size; omega
        by_cases c : k < M
        case neg =>
          obtain rfl : k = M := by omega
          have HE : Hid (S ++ ⟨#[125]⟩ = F) := Lib.hid (by
            obtain ⟨done, h1, h2⟩ := HDN.out
            have h3 : s.drop k = [] := by rw [← HM.out, List.drop_length]
            rw [h3] at h2
            simp only [putL, List.append_nil] at h2
            rw [HFin.out, h2, h1]
            apply ByteArray.ext; simp)
          clear HDN
          go_wp2_with fail
          go_returns
          exact ⟨by rw [← HE.out]; rfl, HF.out⟩
        obtain ⟨y, hy⟩ : ∃ y, s[k]? = some y := ⟨_, List.getElem?_eq_getElem (by rw [HM.out]; exact c)⟩
        obtain ⟨b, off, u, rfl, hlt, y0, y1, y2, y3, hu, hwf⟩ := TSubs.at_ (Shape.Subs.below H1.out.2 (hsz ▸ hbe.out)) hy
        have HYR : Hid (y.all right1 = true) := Lib.hid (by
          cases hya : y.all right1 with
          | true => rfl
          | false => have := HRL.out; rw [Rose.allL_false hy hya] at this; cases this)
        have hstep := putL_step (decide (k = 0)) t s k y hy
        rw [HM.out] at hstep
        have HSTEP := Lib.hid hstep
        have HTX : Hid (∃ done, S = ⟨(123 :: done).toArray⟩ ∧ putL true t s = done ++ ((if decide (k = 0) = true then [] else [44]) ++ ((if M - k ≤ t then [63] else []) ++ (put y ++ putL false t (s.drop (k + 1)))))) := Lib.hid (by
          obtain ⟨done, h1, h2⟩ := HDN.out
          exact ⟨done, h1, by rw [h2, HSTEP.out]⟩)
        obtain ⟨done, hS, hfull⟩ := HTX.out
        have hpy : (put y).length ≤ 5000 := by
          have := congrArg List.length hfull
          simp only [List.length_append] at this
          omega
        have CY := Lib.hid (HIH.out y (List.mem_of_getElem? hy) wr u hu HYR.out hpy)
        obtain ⟨P, hP⟩ : ∃ P, put y = P := ⟨_, rfl⟩
        have HP := Lib.hid hP
        rw [hP] at CY hpy
        have hps : (⟨P.toArray⟩ : ByteArray).size ≤ 5000 := by have : (⟨P.toArray⟩ : ByteArray).size = P.length := List.size_toArray; omega
        have HFULL := Lib.hid hfull
        have HS := Lib.hid hS
        clear hu hwf hfull hstep HTX HSTEP HDN hS hP
        by_cases hk0 : k = 0
        · by_cases hmk : M - k ≤ t
          · have HK0 : Hid (k = 0) := Lib.hid hk0
            have HMK : Hid (M - k ≤ t) := Lib.hid hmk
            have dd0 : decide (0 < k) = false := decide_eq_false (by omega)
            have dd1 : decide ((M : Int) - t ≤ k) = true := by simp; omega
            have HCAT : Hid (S ++ (⟨#[63]⟩ : ByteArray) ++ (⟨P.toArray⟩ : ByteArray) = ⟨(123 :: (done ++ [63] ++ P)).toArray⟩) := Lib.hid (by rw [HS.out]; apply ByteArray.ext; simp)
            have hfin : Hid (putL true t s = (done ++ [63] ++ P) ++ putL false t (s.drop (k + 1))) := Lib.hid (by rw [HFULL.out, if_pos HMK.out, HP.out]; simp [HK0.out])
            have hfl := congrArg List.length hfin.out
            simp only [List.length_append, List.length_cons, List.length_nil] at hfl
            have HSZ : Hid ((S ++ (⟨#[63]⟩ : ByteArray) ++ (⟨P.toArray⟩ : ByteArray)).size ≤ 10000) := Lib.hid (by rw [HCAT.out]; have e : (⟨(123 :: (done ++ [63] ++ P)).toArray⟩ : ByteArray).size = (123 :: (done ++ [63] ++ P)).length := List.size_toArray; simp only [List.length_cons, List.length_append, List.length_nil] at e; omega)
            clear hk0 hmk hfl
            go_wp2_with fail
            refine (CY.out).mono ?_
            rintro e wz ⟨rfl, hbz⟩
            have HZ := Lib.hid (hbe.out.trans (hbz.mono hgr))
            clear hbz
            go_wp2_with fail
            go_roundw
            case rel =>
              exact ⟨k + 1, _, by go_num, by omega, rfl, HSZ.out, Lib.hid ⟨_, HCAT.out, by have h := hfin.out; simpa using h⟩, HZ⟩
            case measure => simp [intOf]; omega
          · have HK0 : Hid (k = 0) := Lib.hid hk0
            have HMK : Hid (¬ (M - k ≤ t)) := Lib.hid hmk
            have dd0 : decide (0 < k) = false := decide_eq_false (by omega)
            have dd1 : decide ((M : Int) - t ≤ k) = false := by simp; omega
            have HCAT : Hid (S ++ (⟨P.toArray⟩ : ByteArray) = ⟨(123 :: (done ++ [] ++ P)).toArray⟩) := Lib.hid (by rw [HS.out]; apply ByteArray.ext; simp)
            have hfin : Hid (putL true t s = (done ++ [] ++ P) ++ putL false t (s.drop (k + 1))) := Lib.hid (by rw [HFULL.out, if_neg HMK.out, HP.out]; simp [HK0.out])
            have hfl := congrArg List.length hfin.out
            simp only [List.length_append, List.length_cons, List.length_nil] at hfl
            have HSZ : Hid ((S ++ (⟨P.toArray⟩ : ByteArray)).size ≤ 10000) := Lib.hid (by rw [HCAT.out]; have e : (⟨(123 :: (done ++ [] ++ P)).toArray⟩ : ByteArray).size = (123 :: (done ++ [] ++ P)).length := List.size_toArray; simp only [List.length_cons, List.length_append, List.length_nil] at e; omega)
            clear hk0 hmk hfl
            go_wp2_with fail
            refine (CY.out).mono ?_
            rintro e wz ⟨rfl, hbz⟩
            have HZ := Lib.hid (hbe.out.trans (hbz.mono hgr))
            clear hbz
            go_wp2_with fail
            go_roundw
            case rel =>
              exact ⟨k + 1, _, by go_num, by omega, rfl, HSZ.out, Lib.hid ⟨_, HCAT.out, by have h := hfin.out; simpa using h⟩, HZ⟩
            case measure => simp [intOf]; omega
        · by_cases hmk : M - k ≤ t
          · have HK0 : Hid (k ≠ 0) := Lib.hid hk0
            have HMK : Hid (M - k ≤ t) := Lib.hid hmk
            have dd0 : decide (0 < k) = true := decide_eq_true (by omega)
            have dd1 : decide ((M : Int) - t ≤ k) = true := by simp; omega
            have HCAT : Hid (S ++ (⟨#[44]⟩ : ByteArray) ++ (⟨#[63]⟩ : ByteArray) ++ (⟨P.toArray⟩ : ByteArray) = ⟨(123 :: (done ++ [44, 63] ++ P)).toArray⟩) := Lib.hid (by rw [HS.out]; apply ByteArray.ext; simp)
            have hfin : Hid (putL true t s = (done ++ [44, 63] ++ P) ++ putL false t (s.drop (k + 1))) := Lib.hid (by rw [HFULL.out, if_pos HMK.out, HP.out]; simp [HK0.out])
            have hfl := congrArg List.length hfin.out
            simp only [List.length_append, List.length_cons, List.length_nil] at hfl
            have HSZ : Hid ((S ++ (⟨#[44]⟩ : ByteArray) ++ (⟨#[63]⟩ : ByteArray) ++ (⟨P.toArray⟩ : ByteArray)).size ≤ 10000) := Lib.hid (by rw [HCAT.out]; have e : (⟨(123 :: (done ++ [44, 63] ++ P)).toArray⟩ : ByteArray).size = (123 :: (done ++ [44, 63] ++ P)).length := List.size_toArray; simp only [List.length_cons, List.length_append, List.length_nil] at e; omega)
            clear hk0 hmk hfl
            go_wp2_with fail
            refine (CY.out).mono ?_
            rintro e wz ⟨rfl, hbz⟩
            have HZ := Lib.hid (hbe.out.trans (hbz.mono hgr))
            clear hbz
            go_wp2_with fail
            go_roundw
            case rel =>
              exact ⟨k + 1, _, by go_num, by omega, rfl, HSZ.out, Lib.hid ⟨_, HCAT.out, by have h := hfin.out; simpa using h⟩, HZ⟩
            case measure => simp [intOf]; omega
          · have HK0 : Hid (k ≠ 0) := Lib.hid hk0
            have HMK : Hid (¬ (M - k ≤ t)) := Lib.hid hmk
            have dd0 : decide (0 < k) = true := decide_eq_true (by omega)
            have dd1 : decide ((M : Int) - t ≤ k) = false := by simp; omega
            have HCAT : Hid (S ++ (⟨#[44]⟩ : ByteArray) ++ (⟨P.toArray⟩ : ByteArray) = ⟨(123 :: (done ++ [44] ++ P)).toArray⟩) := Lib.hid (by rw [HS.out]; apply ByteArray.ext; simp)
            have hfin : Hid (putL true t s = (done ++ [44] ++ P) ++ putL false t (s.drop (k + 1))) := Lib.hid (by rw [HFULL.out, if_neg HMK.out, HP.out]; simp [HK0.out])
            have hfl := congrArg List.length hfin.out
            simp only [List.length_append, List.length_cons, List.length_nil] at hfl
            have HSZ : Hid ((S ++ (⟨#[44]⟩ : ByteArray) ++ (⟨P.toArray⟩ : ByteArray)).size ≤ 10000) := Lib.hid (by rw [HCAT.out]; have e : (⟨(123 :: (done ++ [44] ++ P)).toArray⟩ : ByteArray).size = (123 :: (done ++ [44] ++ P)).length := List.size_toArray; simp only [List.length_cons, List.length_append, List.length_nil] at e; omega)
            clear hk0 hmk hfl
            go_wp2_with fail
            refine (CY.out).mono ?_
            rintro e wz ⟨rfl, hbz⟩
            have HZ := Lib.hid (hbe.out.trans (hbz.mono hgr))
            clear hbz
            go_wp2_with fail
            go_roundw
            case rel =>
              exact ⟨k + 1, _, by go_num, by omega, rfl, HSZ.out, Lib.hid ⟨_, HCAT.out, by have h := hfin.out; simpa using h⟩, HZ⟩
            case measure => simp [intOf]; omega
end Go.Proofs.YtopfpfpefljkkaaDoor
