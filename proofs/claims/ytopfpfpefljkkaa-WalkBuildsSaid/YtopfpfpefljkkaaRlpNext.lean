/- rlp.Next. -/
import Derived.Test.YtopfpfpefljkkaaRlpNst2
namespace Go.Proofs.Ytopfpfpefljkkaa
open Go.RowKit
set_option linter.unusedVariables false
set_option linter.unusedSimpArgs false

set_option maxRecDepth 100000 in
set_option maxHeartbeats 8000000 in
theorem rlp_next (s : ByteArray) (depth items : Int) (w : World) (hs : s.size ≤ 100000) (hd1 : (Lit.int .i64 depth).wf = true) (hi1 : (Lit.int .i64 items).wf = true) :
    Calls Try.prog 11 #[.string s, .int .i64 depth, .int .i64 items] w (NextPost (rdI (min depth 16).toNat s.data.toList (min items 1024).toNat) w) := by
  obtain ⟨D, hD⟩ : ∃ D, min depth 16 = D := ⟨_, rfl⟩
  obtain ⟨I, hI⟩ : ∃ I, min items 1024 = I := ⟨_, rfl⟩
  have hDK : ∀ n : Nat, decide (D ≤ (n : Int)) = decide (D.toNat ≤ n) := fun n => by rw [decide_eq_decide]; omega
  have hIM : ∀ n : Nat, decide (I ≤ (n : Int)) = decide (I.toNat ≤ n) := fun n => by rw [decide_eq_decide]; omega
  have hK16 : D.toNat ≤ 16 := by omega
  have hM1024 : I.toNat ≤ 1024 := by omega
  rw [hD, hI]
  have HDK := Lib.hid hDK
  have HIM := Lib.hid hIM
  obtain ⟨K, hK⟩ : ∃ K, D.toNat = K := ⟨_, rfl⟩
  obtain ⟨M, hM⟩ : ∃ M, I.toNat = M := ⟨_, rfl⟩
  rw [hK] at HDK hK16 ⊢
  rw [hM] at HIM hM1024 ⊢
  obtain ⟨l, hl⟩ : ∃ l, s.data.toList = l := ⟨_, rfl⟩
  have hll : l.length = s.size := by rw [← hl]; simp
  obtain ⟨g, hg⟩ : ∃ g, w.heap.size = g := ⟨_, rfl⟩
  obtain ⟨R, hR⟩ : ∃ R, rdI K l M = R := ⟨_, rfl⟩
  have HR := Lib.hid hR
  rw [hl, hR]
  obtain ⟨P0, hP0⟩ : ∃ P0, NextPost R w = P0 := ⟨_, rfl⟩
  have HP0 := Lib.hid hP0
  rw [hP0]
  obtain ⟨wa, hwa⟩ : ∃ wa, w.alloc (.cells #[.string ⟨#[]⟩, .bool false, .slice none 0 0] IT) = wa := ⟨_, rfl⟩
  obtain ⟨wb, hwb⟩ : ∃ wb, wa.alloc (.cells #[.slice none 0 0] OT) = wb := ⟨_, rfl⟩
  have HINI : Hid (∀ W, wb.alloc (.cells #[.string ⟨#[]⟩, .bool false, .slice none 0 0] IT) = W → NIni l g w wa W) := Lib.hid fun W h => n_ini hg hwa hwb h
  have HL := Lib.hid hl
  have HLL := Lib.hid hll
  have hsa : wa.heap.size = g + 1 := by rw [← hwa]; simp; omega
  have hsb : wb.heap.size = g + 2 := by rw [← hwb]; simp; omega
  clear hR hK hM hDK hIM hP0 hl hll
  go_enter Try.func11, Try.ntmps11
  go_upto_region 3 with fail
  generalize wb.alloc (.cells #[.string ⟨#[]⟩, .bool false, .slice none 0 0] IT) = w1 at *
  have HI1 := Lib.hid (HINI.out _ rfl)
  clear HINI hwa hwb hsa hsb
  go_upto_region 7 with fail
  go_loopw [12, 13, 14] (fun av cv fv wr => (av = .int .i64 0 ∧ cv = .int .i64 0 ∧ fv = .bool true ∧ wr = w1) ∨ (∃ (p c : Nat) (vr : Value) (st : List Fr), av = .int .i64 (p : Nat) ∧ cv = .int .i64 (c : Nat) ∧ fv = .bool false ∧ Hid (NSt l K M R (g + 1) (g + 1) (g + 2) wa wr p c vr st ∧ Opn p st)))
    (fun av _ fv _ => s.size - (intOf av).toNat + fstN fv)
  case atStart => exact .inl ⟨rfl, rfl, rfl, rfl⟩
  case round =>
    rcases hrel with ⟨rfl, rfl, rfl, rfl⟩ | ⟨p, c, vr, st, rfl, rfl, rfl, HN⟩
    · have p0 := HI1.out.o0
      obtain ⟨H, hH⟩ : ∃ H, hdx l (decide (K ≤ 0)) (decide (M ≤ 0)) = H := ⟨_, rfl⟩
      have CH : Hid (∀ x : Fut wr, Calls Try.prog 36 #[.string s, .bool (decide (D ≤ 0)), .bool (decide (I ≤ 0))] x.at_ fun e w' => e = .returned (headV H) ∧ Below x.at_.heap.size x.at_ w') := Lib.hid fun x => by
        have h0 := rlp_head s (decide (D ≤ ((0 : Nat) : Int))) (decide (I ≤ ((0 : Nat) : Int))) x.at_ hs
        rw [HDK.out, HIM.out, HL.out, hH] at h0
        have e1 := HDK.out 0
        have e2 := HIM.out 0
        simp only [Int.natCast_zero] at e1 e2
        rw [e1, e2]
        exact h0.mono fun e w' hh => ⟨hh.1, hh.2 ▸ Below.refl _ _⟩
      have HH := Lib.hid hH
      have HX : Hid (∀ x : Fut wr, StkAt x.at_ (g + 1) (g + 1) (g + 2) (.slice none 0 0) [] ∧ Blk x.at_ (g + 2) zero3 IT ∧ Below (g + 1) wa x.at_) := Lib.hid fun x => ⟨HI1.out.stk.fut x.is, Below.blk x.is HI1.out.whole HI1.out.stk.lt, HI1.out.bw.trans (x.is.mono (by have := HI1.out.stk.lt; omega))⟩
      have p0x : ∀ x : Fut wr, x.at_.cell? ⟨g + 1, 0, none⟩ = some (.slice none 0 0) := fun x => (HX.out x).1.ho.cell 0
      clear hH
      go_upto_region 12 with fail
      cases H with
      | error er =>
        have hR : Hid (R = .error er) := Lib.hid (by rw [← HR.out]; exact first_err HH.out)
        have he := hdx_errs HH.out
        have e0 : ((er : Int) != 0) = true := by simp; omega
        simp only [headV] at CH
        obtain ⟨e1v, e1⟩ : ∃ b, ((er : Int) == 2) = b := ⟨_, rfl⟩
        refine wp_region_after (by kernel_rfl) (by kernel_rfl) ?_
        repeat (go_big_quiet_step (exact Calls.after (CH.out _)))
        refine wpQuiet_nil ?_
        intro x
        obtain ⟨hx1, hx2, hx3⟩ := HX.out x
        have p1 := p0x x
        obtain ⟨⟨c0, c1, c2⟩, ⟨z0, z1, z2⟩, hres⟩ := n_res HI1.out.res hx3
        have HF := Lib.hid (n_put (a := .string ⟨#[]⟩) (b := .bool false) (c := .slice none 0 0) HI1.out.ba HI1.out.res.lt hx3 hres)
        clear hx1 hx2 hx3 hres he p0x
        cases e1v
        all_goals
          go_wp2_with fail
          rw [put3_eq]
          have d0 := HF.out.1.cell 0
          have d1 := HF.out.1.cell 1
          have d2 := HF.out.1.cell 2
          simp only [List.getElem?_toArray, List.getElem?_cons_zero, List.getElem?_cons_succ] at d0 d1 d2
          refine bodyPost_ret (v := .tuple #[.agg zero3, .int .i64 0, .int .i64 (er : Nat)]) (by simp [results, Try.results11, go_sem, d0, d1, d2, zero3]) rfl ?_
          rw [← HP0.out, hR.out]
          exact ⟨rfl, hg.symm ▸ HF.out.2⟩
      | ok q =>
        obtain ⟨li, z, n⟩ := q
        obtain ⟨_, _, _, _, hzn, hzn0⟩ := first_head HH.out
        simp only [HLL.out] at hzn hzn0
        cases li with
        | true =>
          simp only [headV] at CH
          refine wp_region_after (by kernel_rfl) (by kernel_rfl) ?_
          repeat (go_big_quiet_step (exact Calls.after (CH.out _)))
          refine wpQuiet_nil ?_
          intro x
          obtain ⟨hx1, hx2, hx3⟩ := HX.out x
          have p1 := p0x x
          have HX1 := Lib.hid hx1
          have HX2 := Lib.hid hx2
          have HX3 := Lib.hid hx3
          have hxs : g + 1 ≤ x.at_.heap.size := by have := hx1.lt; omega
          clear hx1 hx2 hx3 CH HX p0x p0
          go_upto_if 75 with fail
          go_cut [12] (fun av wx => ∃ (p2 : Nat) (vr2 : Value) (st2 : List Fr), av = .int .i64 (p2 : Nat) ∧ p2 ≤ s.size ∧ Hid (NSt l K M R (g + 1) (g + 1) (g + 2) wa wx p2 1 vr2 st2))
          case first =>
            go_wp2_with (at_builtin; refine wpList_append_g rt_row rf2_len rfl _ _ rfl (B := g + 1) (v := .slice none 0 0) (L := []) (y := ⟨.slice none 0 0, [], z + n⟩) rfl (OwnG.nil _ _ _) rfl (Blk.new x.at_ #[.slice none 0 0, .int .i64 ((z : Int) + (n : Int))] RT) (by simp [rf2]) (by simp [rf2, Value.oneCell']) (by simp) (by simp; omega) ?_; intro gg cap w2 hown2 hgrow hat hlt; obtain ⟨k0, k1⟩ := stk_open HX1.out ((Below.refl _ x.at_).alloc (Nat.le_refl _) _) hgrow; have HG := Lib.hid (And.intro hown2 (And.intro hgrow hat)); clear hown2 hgrow hat hlt)
            go_meet
            obtain ⟨q1, q2, q3⟩ := stk_push (f := ⟨.slice none 0 0, [], z + n⟩) HX1.out ((Below.refl _ x.at_).alloc (Nat.le_refl _) _) ⟨rfl, rfl⟩ HG.out.1 HG.out.2.1 HG.out.2.2
            have hfin := NSt.first_list HH.out HX3.out q1 (by unfold Blk; rw [q3 _ HX1.out.lt (by omega) (by simp [Value.ownBlock])]; exact HX2.out) q2
            rw [HR.out] at hfin
            exact ⟨z, _, _, rfl, by omega, Lib.hid hfin⟩
          case rest =>
            obtain ⟨p2, vr2, st2, rfl, hp2, HN2⟩ := hcut
            have HMS := Lib.hid hp2
            go_wp2_with fail
            go_loopw [20] (fun _ wi => ∃ (vr : Value) (st : List Fr), Hid (NSt l K M R (g + 1) (g + 1) (g + 2) wa wi p2 (1) vr st)) (fun _ wi => stkLen wi (g + 1))
            case atStart => exact ⟨vr2, st2, HN2⟩
            case round =>
              obtain ⟨vr3, st3, HN3⟩ := hrel
              clear HN2
              cases st3 with
              | nil =>
                have p0 := HN3.out.stk.ho.cell 0
                obtain ⟨oa, cr, hv3⟩ : ∃ oa cr, vr3 = .slice oa 0 cr := HN3.out.stk.row.slice
                rw [hv3] at p0
                simp only [List.getElem?_toArray, List.getElem?_cons_zero] at p0
                go_wp2_with fail
                go_roundw
                case rel => exact .inr ⟨p2, 1, vr3, [], rfl, rfl, rfl, Lib.hid ⟨HN3.out, trivial⟩⟩
                case measure => (have := HMS.out; simp [intOf, fstN]; omega)
              | cons x xs =>
                obtain ⟨N, hN⟩ : ∃ N, xs.length = N := ⟨_, rfl⟩
                obtain ⟨go, cr, hv3, r0, r1, o0, zo, hcr, hN16⟩ := nst_cells HN3.out hN
                subst hv3
                have hN16' : N + 1 ≤ 16 := by omega
                clear hN16
                by_cases he : x.e = p2
                · have e1 : ((x.e : Int) == (p2 : Int)) = true := by rw [beq_iff_eq]; omega
                  obtain ⟨ML, hML⟩ : ∃ ML, x.L.length = ML := ⟨_, rfl⟩
                  obtain ⟨ov, cv, hv, hML4, hML5⟩ := nst_top HN3.out hML
                  have hML3 : ML ≤ 1024 := by have := HN3.out.hc; omega
                  rw [hv] at r0
                  have HSL := Lib.hid (stk_len HN3.out.stk)
                  have HE := Lib.hid he
                  have HV := Lib.hid hv
                  have HNN := Lib.hid hN
                  have HML := Lib.hid hML
                  clear he hv hN hML hML5
                  cases xs with
                  | nil =>
                    obtain rfl : N = 0 := HNN.out.symm
                    have CA := Lib.hid (nst_pop_whole HN3.out HE.out HV.out HML.out)
                    go_upto_region 26 with fail
                    generalize wr.setCell ⟨g + 1, 0, none⟩ (.slice (some ⟨go, 0, none⟩) 0 cr) = w4 at *
                    clear HN3 r0 r1 o0 zo
                    go_wp2_with fail
                    refine CA.out.mono ?_
                    rintro e w5 ⟨rfl, hn5⟩
                    have HN5 := Lib.hid hn5
                    clear hn5 CA
                    go_wp2_with fail
                    go_roundw
                    case rel => exact ⟨_, _, HN5⟩
                    case measure => (rw [stk_len HN5.out.stk, HSL.out]; simp)
                  | cons x2 xs =>
                    obtain ⟨N2, rfl⟩ : ∃ N2, N = N2 + 1 := ⟨xs.length, HNN.out.symm⟩
                    have CA := Lib.hid (nst_pop_top HN3.out HE.out HV.out HML.out HNN.out (by omega) hM1024)
                    go_upto_region 26 with fail
                    generalize wr.setCell ⟨g + 1, 0, none⟩ (.slice (some ⟨go, 0, none⟩) (N2 + 1) cr) = w4 at *
                    clear HN3 r0 r1 o0 zo
                    go_wp2_with fail
                    refine CA.out.mono ?_
                    rintro e w5 ⟨rfl, v5, hn5⟩
                    have HN5 := Lib.hid hn5
                    clear hn5 CA
                    go_wp2_with fail
                    go_roundw
                    case rel => exact ⟨_, _, HN5⟩
                    case measure => (rw [stk_len HN5.out.stk, HSL.out]; simp)
                · have e1 : ((x.e : Int) == (p2 : Int)) = false := by rw [beq_eq_false_iff_ne]; omega
                  have HE : Hid (Opn p2 (x :: xs)) := Lib.hid (nst_opn HN3.out he)
                  clear he
                  go_wp2_with fail
                  go_roundw
                  case rel => exact .inr ⟨p2, 1, _, x :: xs, rfl, rfl, rfl, Lib.hid ⟨HN3.out, HE.out⟩⟩
                  case measure => (have := HMS.out; simp [intOf, fstN]; omega)
        | false =>
          simp only [headV] at CH
          refine wp_region_after (by kernel_rfl) (by kernel_rfl) ?_
          repeat (go_big_quiet_step (exact Calls.after (CH.out _)))
          refine wpQuiet_nil ?_
          intro x
          obtain ⟨hx1, hx2, hx3⟩ := HX.out x
          have p1 := p0x x
          have CA := Lib.hid (n_first_text HL.out HR.out HH.out hx1 hx2 hx3)
          clear hx1 hx2 hx3 CH HX p0x p0
          go_upto_if 75 with fail
          go_cut [12] (fun av wx => ∃ (p2 : Nat) (vr2 : Value) (st2 : List Fr), av = .int .i64 (p2 : Nat) ∧ p2 ≤ s.size ∧ Hid (NSt l K M R (g + 1) (g + 1) (g + 2) wa wx p2 1 vr2 st2))
          case first =>
            go_wp2_with fail
            refine CA.out.mono ?_
            rintro e w5 ⟨rfl, hn5⟩
            have HN5 := Lib.hid hn5
            clear hn5 CA
            go_wp2_with fail
            go_meet
            exact ⟨z + n, _, _, by go_num, by omega, HN5⟩
          case rest =>
            obtain ⟨p2, vr2, st2, rfl, hp2, HN2⟩ := hcut
            have HMS := Lib.hid hp2
            go_wp2_with fail
            go_loopw [20] (fun _ wi => ∃ (vr : Value) (st : List Fr), Hid (NSt l K M R (g + 1) (g + 1) (g + 2) wa wi p2 (1) vr st)) (fun _ wi => stkLen wi (g + 1))
            case atStart => exact ⟨vr2, st2, HN2⟩
            case round =>
              obtain ⟨vr3, st3, HN3⟩ := hrel
              clear HN2
              cases st3 with
              | nil =>
                have p0 := HN3.out.stk.ho.cell 0
                obtain ⟨oa, cr, hv3⟩ : ∃ oa cr, vr3 = .slice oa 0 cr := HN3.out.stk.row.slice
                rw [hv3] at p0
                simp only [List.getElem?_toArray, List.getElem?_cons_zero] at p0
                go_wp2_with fail
                go_roundw
                case rel => exact .inr ⟨p2, 1, vr3, [], rfl, rfl, rfl, Lib.hid ⟨HN3.out, trivial⟩⟩
                case measure => (have := HMS.out; simp [intOf, fstN]; omega)
              | cons x xs =>
                obtain ⟨N, hN⟩ : ∃ N, xs.length = N := ⟨_, rfl⟩
                obtain ⟨go, cr, hv3, r0, r1, o0, zo, hcr, hN16⟩ := nst_cells HN3.out hN
                subst hv3
                have hN16' : N + 1 ≤ 16 := by omega
                clear hN16
                by_cases he : x.e = p2
                · have e1 : ((x.e : Int) == (p2 : Int)) = true := by rw [beq_iff_eq]; omega
                  obtain ⟨ML, hML⟩ : ∃ ML, x.L.length = ML := ⟨_, rfl⟩
                  obtain ⟨ov, cv, hv, hML4, hML5⟩ := nst_top HN3.out hML
                  have hML3 : ML ≤ 1024 := by have := HN3.out.hc; omega
                  rw [hv] at r0
                  have HSL := Lib.hid (stk_len HN3.out.stk)
                  have HE := Lib.hid he
                  have HV := Lib.hid hv
                  have HNN := Lib.hid hN
                  have HML := Lib.hid hML
                  clear he hv hN hML hML5
                  cases xs with
                  | nil =>
                    obtain rfl : N = 0 := HNN.out.symm
                    have CA := Lib.hid (nst_pop_whole HN3.out HE.out HV.out HML.out)
                    go_upto_region 26 with fail
                    generalize wr.setCell ⟨g + 1, 0, none⟩ (.slice (some ⟨go, 0, none⟩) 0 cr) = w4 at *
                    clear HN3 r0 r1 o0 zo
                    go_wp2_with fail
                    refine CA.out.mono ?_
                    rintro e w5 ⟨rfl, hn5⟩
                    have HN5 := Lib.hid hn5
                    clear hn5 CA
                    go_wp2_with fail
                    go_roundw
                    case rel => exact ⟨_, _, HN5⟩
                    case measure => (rw [stk_len HN5.out.stk, HSL.out]; simp)
                  | cons x2 xs =>
                    obtain ⟨N2, rfl⟩ : ∃ N2, N = N2 + 1 := ⟨xs.length, HNN.out.symm⟩
                    have CA := Lib.hid (nst_pop_top HN3.out HE.out HV.out HML.out HNN.out (by omega) hM1024)
                    go_upto_region 26 with fail
                    generalize wr.setCell ⟨g + 1, 0, none⟩ (.slice (some ⟨go, 0, none⟩) (N2 + 1) cr) = w4 at *
                    clear HN3 r0 r1 o0 zo
                    go_wp2_with fail
                    refine CA.out.mono ?_
                    rintro e w5 ⟨rfl, v5, hn5⟩
                    have HN5 := Lib.hid hn5
                    clear hn5 CA
                    go_wp2_with fail
                    go_roundw
                    case rel => exact ⟨_, _, HN5⟩
                    case measure => (rw [stk_len HN5.out.stk, HSL.out]; simp)
                · have e1 : ((x.e : Int) == (p2 : Int)) = false := by rw [beq_eq_false_iff_ne]; omega
                  have HE : Hid (Opn p2 (x :: xs)) := Lib.hid (nst_opn HN3.out he)
                  clear he
                  go_wp2_with fail
                  go_roundw
                  case rel => exact .inr ⟨p2, 1, _, x :: xs, rfl, rfl, rfl, Lib.hid ⟨HN3.out, HE.out⟩⟩
                  case measure => (have := HMS.out; simp [intOf, fstN]; omega)
    · cases st with
      | nil =>
        have p0 := HN.out.1.stk.ho.cell 0
        obtain ⟨oa, cr, hv3⟩ : ∃ oa cr, vr = .slice oa 0 cr := HN.out.1.stk.row.slice
        rw [hv3] at p0
        simp only [List.getElem?_toArray, List.getElem?_cons_zero] at p0
        obtain ⟨y, v, Qx, hR, hb, hv, hQ⟩ := HN.out.1.res
        obtain ⟨ov, cv, rfl, _⟩ := ISubsQ.slice hv
        obtain ⟨⟨c0, c1, c2⟩, ⟨z0, z1, z2⟩, hres⟩ := n_res HI1.out.res HN.out.1.below
        have HF := Lib.hid (n_put (a := .string (txt y.lab)) (b := .bool y.lab.list) (c := .slice ov y.sub.length cv) HI1.out.ba HI1.out.res.lt HN.out.1.below hres)
        have HS : Hid (ISubsQ (put3 wr g 0 (.string (txt y.lab)) (.bool y.lab.list) (.slice ov y.sub.length cv)) (fun c => w.heap.size ≤ c) (.slice ov y.sub.length cv) y.sub) := Lib.hid (Shape.Subs.keep hv (by rw [put3_size]; exact Nat.le_refl _) (fun c _ hc => by
            have h1 := hQ c hc
            show w.heap.size ≤ c
            have : ¬ c < g + 1 := fun h => h1 (.inl h)
            omega) fun c _ hc => put3_heap c fun e => hQ c hc (.inl (by omega)))
        have y0 := hb.cell 0
        have y1 := hb.cell 1
        have y2 := hb.cell 2
        have HR2 := Lib.hid hR
        simp only [List.getElem?_toArray, List.getElem?_cons_zero, List.getElem?_cons_succ] at y0 y1 y2
        clear hb hv hQ hR hres
        go_wp2_with fail
        rw [put3_eq]
        have d0 := HF.out.1.cell 0
        have d1 := HF.out.1.cell 1
        have d2 := HF.out.1.cell 2
        simp only [List.getElem?_toArray, List.getElem?_cons_zero, List.getElem?_cons_succ] at d0 d1 d2
        refine bodyPost_ret (v := .tuple #[.agg #[.string (txt y.lab), .bool y.lab.list, .slice ov y.sub.length cv], .int .i64 (p : Nat), .int .i64 0]) (by simp [results, Try.results11, go_sem, d0, d1, d2]) rfl ?_
        rw [← HP0.out, HR2.out]
        exact ⟨_, rfl, HS.out, hg.symm ▸ HF.out.2⟩
      | cons x xs =>
        obtain ⟨N, hN⟩ : ∃ N, xs.length = N := ⟨_, rfl⟩
        obtain ⟨go, cr, hv3, r0, r1, o0, zo, hcr, hN16⟩ := nst_cells HN.out.1 hN
        subst hv3
        have hN16' : N + 1 ≤ 16 := by omega
        have hpe : p < x.e := HN.out.2
        have hes : x.e ≤ s.size := by have := Ends.le HN.out.1.ends.2; rw [HLL.out] at this; exact this
        have hcM : c ≤ 1024 := by have := HN.out.1.hc; omega
        obtain ⟨H, hH⟩ : ∃ H, hdx (seg l p x.e) (decide (K ≤ (x :: xs).length)) (decide (M ≤ c)) = H := ⟨_, rfl⟩
        have CH : Hid (∀ x1 : Fut wr, Calls Try.prog 36 #[.string (s.extract p x.e), .bool (decide (D ≤ (N : Int) + 1)), .bool (decide (I ≤ (c : Int)))] x1.at_ fun e w' => e = .returned (headV H) ∧ Below x1.at_.heap.size x1.at_ w') := Lib.hid fun x1 => by
          have h0 := rlp_head (s.extract p x.e) (decide (D ≤ ((N + 1 : Nat) : Int))) (decide (I ≤ (c : Int))) x1.at_ (by simp [ByteArray.size_extract]; omega)
          have e1 := HDK.out (N + 1)
          rw [e1, HIM.out, ext_seg HL.out, show N + 1 = (x :: xs).length by simp [hN], hH] at h0
          rw [show ((N : Int) + 1) = ((N + 1 : Nat) : Int) by omega, e1, HIM.out, show N + 1 = (x :: xs).length by simp [hN]]
          exact h0.mono fun e w' hh => ⟨hh.1, hh.2 ▸ Below.refl _ _⟩
        have HH := Lib.hid hH
        have HX : Hid (∀ x1 : Fut wr, NSt l K M R (g + 1) (g + 1) (g + 2) wa x1.at_ p c (.slice (some ⟨go, 0, none⟩) (N + 1) cr) (x :: xs)) := Lib.hid fun x1 => HN.out.1.fut x1.is
        have p0x : ∀ x1 : Fut wr, x1.at_.cell? ⟨g + 1, 0, none⟩ = some (.slice (some ⟨go, 0, none⟩) (N + 1) cr) := fun x1 => (HX.out x1).stk.ho.cell 0
        have HNN := Lib.hid hN
        have HP := Lib.hid hpe
        clear hH hN r0 zo hN16
        go_upto_region 12 with fail
        cases H with
        | error er =>
          have hR := Lib.hid (HN.out.1.err hpe HH.out)
          have he := hdx_errs HH.out
          simp only [headV] at CH
          by_cases e2 : er = 2
          · have e1 : ((er : Int) == 2) = true := by simp [e2]
            rw [if_pos e2] at hR
            clear e2
            refine wp_region_after (by kernel_rfl) (by kernel_rfl) ?_
            repeat (go_big_quiet_step (exact Calls.after (CH.out _)))
            refine wpQuiet_nil ?_
            intro x1
            obtain ⟨⟨c0, c1, c2⟩, ⟨z0, z1, z2⟩, hres⟩ := n_res HI1.out.res (HX.out x1).below
            have HF := Lib.hid (n_put (a := .string ⟨#[]⟩) (b := .bool false) (c := .slice none 0 0) HI1.out.ba HI1.out.res.lt (HX.out x1).below hres)
            clear hres he p0x
            go_wp2_with fail
            rw [put3_eq]
            have d0 := HF.out.1.cell 0
            have d1 := HF.out.1.cell 1
            have d2 := HF.out.1.cell 2
            simp only [List.getElem?_toArray, List.getElem?_cons_zero, List.getElem?_cons_succ] at d0 d1 d2
            refine bodyPost_ret (v := .tuple #[.agg zero3, .int .i64 0, .int .i64 3]) (by simp [results, Try.results11, go_sem, d0, d1, d2, zero3]) rfl ?_
            rw [← HP0.out, hR.out]
            exact ⟨rfl, hg.symm ▸ HF.out.2⟩
          · have e1 : ((er : Int) == 2) = false := by rw [beq_eq_false_iff_ne]; omega
            have e0 : ((er : Int) != 0) = true := by simp; omega
            rw [if_neg e2] at hR
            clear e2
            refine wp_region_after (by kernel_rfl) (by kernel_rfl) ?_
            repeat (go_big_quiet_step (exact Calls.after (CH.out _)))
            refine wpQuiet_nil ?_
            intro x1
            obtain ⟨⟨c0, c1, c2⟩, ⟨z0, z1, z2⟩, hres⟩ := n_res HI1.out.res (HX.out x1).below
            have HF := Lib.hid (n_put (a := .string ⟨#[]⟩) (b := .bool false) (c := .slice none 0 0) HI1.out.ba HI1.out.res.lt (HX.out x1).below hres)
            clear hres he p0x
            go_wp2_with fail
            rw [put3_eq]
            have d0 := HF.out.1.cell 0
            have d1 := HF.out.1.cell 1
            have d2 := HF.out.1.cell 2
            simp only [List.getElem?_toArray, List.getElem?_cons_zero, List.getElem?_cons_succ] at d0 d1 d2
            refine bodyPost_ret (v := .tuple #[.agg zero3, .int .i64 0, .int .i64 (er : Nat)]) (by simp [results, Try.results11, go_sem, d0, d1, d2, zero3]) rfl ?_
            rw [← HP0.out, hR.out]
            exact ⟨rfl, hg.symm ▸ HF.out.2⟩
        | ok q =>
          obtain ⟨li, z, n⟩ := q
          obtain ⟨_, _, hhd, hzn, hzn0, _⟩ := HN.out.1.head hpe HH.out
          have HHD := Lib.hid hhd
          clear hhd
          simp only at hzn hzn0
          cases li with
          | true =>
            have hz0 := hd_list_pos HHD.out
            simp only [headV] at CH
            refine wp_region_after (by kernel_rfl) (by kernel_rfl) ?_
            repeat (go_big_quiet_step (exact Calls.after (CH.out _)))
            refine wpQuiet_nil ?_
            intro x1
            have p1 := p0x x1
            have HX1 := Lib.hid (HX.out x1)
            have hxs : g + 2 ≤ x1.at_.heap.size := by have := HX1.out.stk.lt; omega
            clear CH HX p0x o0 r1
            go_upto_if 75 with fail
            go_cut [12] (fun av wx => ∃ (p2 : Nat) (vr2 : Value) (st2 : List Fr), av = .int .i64 (p2 : Nat) ∧ (p < p2 ∧ p2 ≤ s.size) ∧ Hid (NSt l K M R (g + 1) (g + 1) (g + 2) wa wx p2 (c + 1) vr2 st2))
            case first =>
              have HRL : Hid ((x :: xs).reverse.length = N + 1) := Lib.hid (by simp [HNN.out])
              go_wp2_with (at_builtin; go_loud (refine wpList_append_g rt_row rf2_len rfl _ _ rfl (B := g + 1) (v := .slice (some ⟨go, 0, none⟩) (N + 1) cr) (L := (x :: xs).reverse) (y := ⟨.slice none 0 0, [], p + z + n⟩) rfl (HX1.out.stk.row.below ((Below.refl _ x1.at_).alloc (Nat.le_refl _) _)) rfl (Blk.new x1.at_ #[.slice none 0 0, .int .i64 ((p : Int) + (z : Int) + (n : Int))] RT) (by simp [rf2]) (by simp [rf2, Value.oneCell']) (by rw [HRL.out]; omega) (by simp; omega) ?_); intro gg cap w2 hown2 hgrow hat hlt; obtain ⟨k0, k1⟩ := stk_open HX1.out.stk ((Below.refl _ x1.at_).alloc (Nat.le_refl _) _) hgrow; have HG := Lib.hid (n_list HX1.out HP.out HNN.out HH.out ((Below.refl _ x1.at_).alloc (Nat.le_refl _) _) rfl hown2 hgrow hat); rw [HRL.out]; clear hown2 hgrow hat hlt)
              go_meet
              exact ⟨p + z, _, _, by go_num, ⟨by omega, by omega⟩, HG⟩
            case rest =>
              obtain ⟨p2, vr2, st2, rfl, hp2, HN2⟩ := hcut
              have HMS := Lib.hid hp2
              have hp2s := hp2.2
              clear hp2
              go_wp2_with fail
              go_loopw [20] (fun _ wi => ∃ (vr : Value) (st : List Fr), Hid (NSt l K M R (g + 1) (g + 1) (g + 2) wa wi p2 (c + 1) vr st)) (fun _ wi => stkLen wi (g + 1))
              case atStart => exact ⟨vr2, st2, HN2⟩
              case round =>
                obtain ⟨vr3, st3, HN3⟩ := hrel
                clear HN2
                cases st3 with
                | nil =>
                  have p0 := HN3.out.stk.ho.cell 0
                  obtain ⟨oa, cr, hv3⟩ : ∃ oa cr, vr3 = .slice oa 0 cr := HN3.out.stk.row.slice
                  rw [hv3] at p0
                  simp only [List.getElem?_toArray, List.getElem?_cons_zero] at p0
                  go_wp2_with fail
                  go_roundw
                  case rel => exact .inr ⟨p2, c + 1, vr3, [], rfl, by go_num, rfl, Lib.hid ⟨HN3.out, trivial⟩⟩
                  case measure => (have := HMS.out; simp [intOf, fstN]; omega)
                | cons x xs =>
                  obtain ⟨N, hN⟩ : ∃ N, xs.length = N := ⟨_, rfl⟩
                  obtain ⟨go, cr, hv3, r0, r1, o0, zo, hcr, hN16⟩ := nst_cells HN3.out hN
                  subst hv3
                  have hN16' : N + 1 ≤ 16 := by omega
                  clear hN16
                  by_cases he : x.e = p2
                  · have e1 : ((x.e : Int) == (p2 : Int)) = true := by rw [beq_iff_eq]; omega
                    obtain ⟨ML, hML⟩ : ∃ ML, x.L.length = ML := ⟨_, rfl⟩
                    obtain ⟨ov, cv, hv, hML4, hML5⟩ := nst_top HN3.out hML
                    have hML3 : ML ≤ 1024 := by have := HN3.out.hc; omega
                    rw [hv] at r0
                    have HSL := Lib.hid (stk_len HN3.out.stk)
                    have HE := Lib.hid he
                    have HV := Lib.hid hv
                    have HNN := Lib.hid hN
                    have HML := Lib.hid hML
                    clear he hv hN hML hML5
                    cases xs with
                    | nil =>
                      obtain rfl : N = 0 := HNN.out.symm
                      have CA := Lib.hid (nst_pop_whole HN3.out HE.out HV.out HML.out)
                      go_upto_region 26 with fail
                      generalize wr.setCell ⟨g + 1, 0, none⟩ (.slice (some ⟨go, 0, none⟩) 0 cr) = w4 at *
                      clear HN3 r0 r1 o0 zo
                      go_wp2_with fail
                      refine CA.out.mono ?_
                      rintro e w5 ⟨rfl, hn5⟩
                      have HN5 := Lib.hid hn5
                      clear hn5 CA
                      go_wp2_with fail
                      go_roundw
                      case rel => exact ⟨_, _, HN5⟩
                      case measure => (rw [stk_len HN5.out.stk, HSL.out]; simp)
                    | cons x2 xs =>
                      obtain ⟨N2, rfl⟩ : ∃ N2, N = N2 + 1 := ⟨xs.length, HNN.out.symm⟩
                      have CA := Lib.hid (nst_pop_top HN3.out HE.out HV.out HML.out HNN.out (by omega) hM1024)
                      go_upto_region 26 with fail
                      generalize wr.setCell ⟨g + 1, 0, none⟩ (.slice (some ⟨go, 0, none⟩) (N2 + 1) cr) = w4 at *
                      clear HN3 r0 r1 o0 zo
                      go_wp2_with fail
                      refine CA.out.mono ?_
                      rintro e w5 ⟨rfl, v5, hn5⟩
                      have HN5 := Lib.hid hn5
                      clear hn5 CA
                      go_wp2_with fail
                      go_roundw
                      case rel => exact ⟨_, _, HN5⟩
                      case measure => (rw [stk_len HN5.out.stk, HSL.out]; simp)
                  · have e1 : ((x.e : Int) == (p2 : Int)) = false := by rw [beq_eq_false_iff_ne]; omega
                    have HE : Hid (Opn p2 (x :: xs)) := Lib.hid (nst_opn HN3.out he)
                    clear he
                    go_wp2_with fail
                    go_roundw
                    case rel => exact .inr ⟨p2, c + 1, _, x :: xs, rfl, by go_num, rfl, Lib.hid ⟨HN3.out, HE.out⟩⟩
                    case measure => (have := HMS.out; simp [intOf, fstN]; omega)
          | false =>
            simp only [headV] at CH
            refine wp_region_after (by kernel_rfl) (by kernel_rfl) ?_
            repeat (go_big_quiet_step (exact Calls.after (CH.out _)))
            refine wpQuiet_nil ?_
            intro x1
            have p1 := p0x x1
            have CA := Lib.hid (n_text HL.out hs (HX.out x1) hpe (by omega) (by omega) HH.out)
            clear CH HX p0x o0 r1
            go_upto_if 75 with fail
            go_cut [12] (fun av wx => ∃ (p2 : Nat) (vr2 : Value) (st2 : List Fr), av = .int .i64 (p2 : Nat) ∧ (p < p2 ∧ p2 ≤ s.size) ∧ Hid (NSt l K M R (g + 1) (g + 1) (g + 2) wa wx p2 (c + 1) vr2 st2))
            case first =>
              go_wp2_with fail
              refine CA.out.mono ?_
              rintro e w5 ⟨rfl, x', hx', hn5⟩
              have HN5 := Lib.hid hn5
              clear hn5 CA
              go_wp2_with fail
              go_meet
              exact ⟨p + z + n, _, _, by go_num, ⟨by omega, by omega⟩, HN5⟩
            case rest =>
              obtain ⟨p2, vr2, st2, rfl, hp2, HN2⟩ := hcut
              have HMS := Lib.hid hp2
              have hp2s := hp2.2
              clear hp2
              go_wp2_with fail
              go_loopw [20] (fun _ wi => ∃ (vr : Value) (st : List Fr), Hid (NSt l K M R (g + 1) (g + 1) (g + 2) wa wi p2 (c + 1) vr st)) (fun _ wi => stkLen wi (g + 1))
              case atStart => exact ⟨vr2, st2, HN2⟩
              case round =>
                obtain ⟨vr3, st3, HN3⟩ := hrel
                clear HN2
                cases st3 with
                | nil =>
                  have p0 := HN3.out.stk.ho.cell 0
                  obtain ⟨oa, cr, hv3⟩ : ∃ oa cr, vr3 = .slice oa 0 cr := HN3.out.stk.row.slice
                  rw [hv3] at p0
                  simp only [List.getElem?_toArray, List.getElem?_cons_zero] at p0
                  go_wp2_with fail
                  go_roundw
                  case rel => exact .inr ⟨p2, c + 1, vr3, [], rfl, by go_num, rfl, Lib.hid ⟨HN3.out, trivial⟩⟩
                  case measure => (have := HMS.out; simp [intOf, fstN]; omega)
                | cons x xs =>
                  obtain ⟨N, hN⟩ : ∃ N, xs.length = N := ⟨_, rfl⟩
                  obtain ⟨go, cr, hv3, r0, r1, o0, zo, hcr, hN16⟩ := nst_cells HN3.out hN
                  subst hv3
                  have hN16' : N + 1 ≤ 16 := by omega
                  clear hN16
                  by_cases he : x.e = p2
                  · have e1 : ((x.e : Int) == (p2 : Int)) = true := by rw [beq_iff_eq]; omega
                    obtain ⟨ML, hML⟩ : ∃ ML, x.L.length = ML := ⟨_, rfl⟩
                    obtain ⟨ov, cv, hv, hML4, hML5⟩ := nst_top HN3.out hML
                    have hML3 : ML ≤ 1024 := by have := HN3.out.hc; omega
                    rw [hv] at r0
                    have HSL := Lib.hid (stk_len HN3.out.stk)
                    have HE := Lib.hid he
                    have HV := Lib.hid hv
                    have HNN := Lib.hid hN
                    have HML := Lib.hid hML
                    clear he hv hN hML hML5
                    cases xs with
                    | nil =>
                      obtain rfl : N = 0 := HNN.out.symm
                      have CA := Lib.hid (nst_pop_whole HN3.out HE.out HV.out HML.out)
                      go_upto_region 26 with fail
                      generalize wr.setCell ⟨g + 1, 0, none⟩ (.slice (some ⟨go, 0, none⟩) 0 cr) = w4 at *
                      clear HN3 r0 r1 o0 zo
                      go_wp2_with fail
                      refine CA.out.mono ?_
                      rintro e w5 ⟨rfl, hn5⟩
                      have HN5 := Lib.hid hn5
                      clear hn5 CA
                      go_wp2_with fail
                      go_roundw
                      case rel => exact ⟨_, _, HN5⟩
                      case measure => (rw [stk_len HN5.out.stk, HSL.out]; simp)
                    | cons x2 xs =>
                      obtain ⟨N2, rfl⟩ : ∃ N2, N = N2 + 1 := ⟨xs.length, HNN.out.symm⟩
                      have CA := Lib.hid (nst_pop_top HN3.out HE.out HV.out HML.out HNN.out (by omega) hM1024)
                      go_upto_region 26 with fail
                      generalize wr.setCell ⟨g + 1, 0, none⟩ (.slice (some ⟨go, 0, none⟩) (N2 + 1) cr) = w4 at *
                      clear HN3 r0 r1 o0 zo
                      go_wp2_with fail
                      refine CA.out.mono ?_
                      rintro e w5 ⟨rfl, v5, hn5⟩
                      have HN5 := Lib.hid hn5
                      clear hn5 CA
                      go_wp2_with fail
                      go_roundw
                      case rel => exact ⟨_, _, HN5⟩
                      case measure => (rw [stk_len HN5.out.stk, HSL.out]; simp)
                  · have e1 : ((x.e : Int) == (p2 : Int)) = false := by rw [beq_eq_false_iff_ne]; omega
                    have HE : Hid (Opn p2 (x :: xs)) := Lib.hid (nst_opn HN3.out he)
                    clear he
                    go_wp2_with fail
                    go_roundw
                    case rel => exact .inr ⟨p2, c + 1, _, x :: xs, rfl, by go_num, rfl, Lib.hid ⟨HN3.out, HE.out⟩⟩
                    case measure => (have := HMS.out; simp [intOf, fstN]; omega)
end Go.Proofs.Ytopfpfpefljkkaa
