/- The document's functions of items: May, Same. -/
import Derived.Test.YtopfpfpefljkkaaItemDoc
namespace Go.Proofs.Ytopfpfpefljkkaa
open Go.RowKit
set_option linter.unusedVariables false
set_option linter.unusedSimpArgs false


theorem mayI_eq (x : Rose IL) : mayI x = (x.all iright && decide (x.deep ≤ 16) && decide (x.count ≤ 1024)) := rfl
set_option maxRecDepth 100000 in
set_option maxHeartbeats 2000000 in
theorem idoc_may (x : Rose IL) (w : World) (v : Value) (hv : ISubs w v x.sub) (hc : x.count ≤ 100000) :
    Calls Try.prog 18 #[.agg #[.string (txt x.lab), .bool x.lab.list, v]] w fun e w' => e = .returned (.bool (mayI x)) ∧ Below w.heap.size w w' := by
  have HW := Lib.hid (box_item (T := txt x.lab) (l := x.lab.list) (t := IT) hv)
  obtain ⟨oa, cap, rfl, hcap, hml⟩ := ISubsQ.slice hv
  obtain ⟨g, hg⟩ : ∃ g, w.heap.size = g := ⟨_, rfl⟩
  have C1 := Lib.hid (fun (W : World) (h : ISubs W (.slice oa x.sub.length cap) x.sub) => idoc_right x W _ h)
  have C2 := Lib.hid (fun (W : World) (h : ISubs W (.slice oa x.sub.length cap) x.sub) => idoc_deep x W _ h hc)
  have C3 := Lib.hid (fun (W : World) (h : ISubs W (.slice oa x.sub.length cap) x.sub) => idoc_count x W _ h hc)
  have HM := Lib.hid (mayI_eq x)
  have hd := (IRose.deepL_le [x]).2 x (by simp)
  rw [hg] at HW ⊢
  clear hv hcap hml
  generalize mayI x = R at *
  generalize x.count = cn at *
  generalize x.deep = dn at *
  generalize x.all iright = rn at *
  generalize x.sub.length = M at *
  have c64 := ileOr (cn : Int) 1024
  have d8 := ileOr (dn : Int) 16
  go_enter Try.func18, Try.ntmps18
  go_upto_region 1 with fail
  generalize w.alloc (.cells #[.string (txt x.lab), .bool x.lab.list, .slice oa M cap] IT) = w1 at *
  obtain ⟨hb1, ht1, hsz, c0, c1, c2, _⟩ := HW.out _ rfl
  have HT := Lib.hid ht1
  have HB := Lib.hid hb1
  have HS := Lib.hid hsz
  clear HW ht1 hb1 hsz
  have HF : ∀ w2, Below w1.heap.size w1 w2 → Hid (Below g w w2 ∧ ISubs w2 (.slice oa M cap) x.sub) := fun w2 h => ⟨HB.out.trans (h.mono (by have := HS.out; omega)), Shape.Subs.below HT.out h⟩
  have HF := Lib.hid HF
  have hlt : g < w1.heap.size := by have := HS.out; omega
  cases rn with
  | false =>
    go_wp2_with fail
    refine (C1.out _ HT.out).mono ?_
    rintro e w2 ⟨rfl, hb2⟩
    have f2 := HF.out _ hb2
    clear hb2
    go_wp2_with fail
    go_returns
    exact ⟨by rw [HM.out]; rfl, f2.out.1⟩
  | true =>
    go_wp2_with fail
    refine (C1.out _ HT.out).mono ?_
    rintro e w2 ⟨rfl, hb2⟩
    have f2 := HF.out _ hb2
    have hb2' := Lib.hid hb2
    have c0' := (hb2.cell (p := ⟨g, 0, none⟩) hlt).trans c0
    have c1' := (hb2.cell (p := ⟨g, 1, none⟩) hlt).trans c1
    have c2' := (hb2.cell (p := ⟨g, 2, none⟩) hlt).trans c2
    have hlt2 : g < w2.heap.size := by have := hb2.size; omega
    clear hb2
    rcases d8 with ⟨d8, D8⟩ | ⟨d8, D8⟩
    · go_wp2_with fail
      refine (C2.out _ f2.out.2).mono ?_
      rintro e w3 ⟨rfl, hb3⟩
      have hb3' := Lib.hid (hb2'.out.trans (hb3.mono hb2'.out.size))
      have f3 := HF.out _ hb3'.out
      have c0'' := (hb3.cell (p := ⟨g, 0, none⟩) hlt2).trans c0'
      have c1'' := (hb3.cell (p := ⟨g, 1, none⟩) hlt2).trans c1'
      have c2'' := (hb3.cell (p := ⟨g, 2, none⟩) hlt2).trans c2'
      clear hb3
      rcases c64 with ⟨c64, C64⟩ | ⟨c64, C64⟩
      all_goals
        go_wp2_with fail
        refine (C3.out _ f3.out.2).mono ?_
        rintro e w4 ⟨rfl, hb4⟩
        have hb4' := Lib.hid (f3.out.1.trans (hb4.mono (by have := f3.out.1.size; omega)))
        clear hb4
        go_wp2_with fail
        go_returns
        refine ⟨?_, hb4'.out⟩
        have q1 := C64.out
        have q2 := D8.out
        rw [HM.out]
        first | (rw [decide_eq_true (by omega : cn ≤ 1024), decide_eq_true (by omega : dn ≤ 16)]; rfl) | (rw [decide_eq_false (by omega : ¬ cn ≤ 1024), decide_eq_true (by omega : dn ≤ 16)]; rfl)
    · go_wp2_with fail
      refine (C2.out _ f2.out.2).mono ?_
      rintro e w3 ⟨rfl, hb3⟩
      have hb3' := Lib.hid (hb2'.out.trans (hb3.mono hb2'.out.size))
      have f3 := HF.out _ hb3'.out
      clear hb3
      go_wp2_with fail
      go_returns
      refine ⟨?_, f3.out.1⟩
      have q2 := D8.out
      rw [HM.out, decide_eq_false (by omega : ¬ dn ≤ 16)]; rfl

theorem isame_node (a b : IL) (s t : List (Rose IL)) : (Rose.node a s).same ieq (.node b t) = (ieq a b && Rose.sameL ieq s t) := rfl
set_option maxRecDepth 100000 in
set_option maxHeartbeats 4000000 in
theorem idoc_same (x : Rose IL) : ∀ (y : Rose IL) (w : World) (v v2 : Value), ISubs w v x.sub → ISubs w v2 y.sub →
    Calls Try.prog 13 #[.agg #[.string (txt x.lab), .bool x.lab.list, v], .agg #[.string (txt y.lab), .bool y.lab.list, v2]] w
      fun e w' => e = .returned (.bool (x.same ieq y)) ∧ Below w.heap.size w w' := by
  induction x using Rose.ind with
  | h a s ih =>
    intro y w v v2 hv hv2
    obtain ⟨a2, s2⟩ := y
    simp only [Rose.sub_node, Rose.lab_node] at hv hv2 ⊢
    obtain ⟨oa, cap, rfl, hcap, hml⟩ := ISubsQ.slice hv
    obtain ⟨oa2, cap2, rfl, hcap2, hml2⟩ := ISubsQ.slice hv2
    obtain ⟨g, hg⟩ : ∃ g, w.heap.size = g := ⟨_, rfl⟩
    have HW := Lib.hid (box_items (T := txt a) (l := a.list) (T2 := txt a2) (l2 := a2.list) (t := IT) hv hv2)
    have hlm : s.length ≤ 9223372036854775807 := by unfold maxLen at hml; omega
    have HR : Hid ((Rose.node a s).same ieq (.node a2 s2) = (decide (a.list = a2.list) && decide (txt a = txt a2) && Rose.sameL ieq s s2)) := Lib.hid (by
      have e1 : decide (txt a = txt a2) = decide (a.text = a2.text) := decide_eq_decide.2 ⟨txt_inj, fun h => by unfold txt; rw [h]⟩
      rw [isame_node, e1]
      unfold ieq
      by_cases h1 : a.list = a2.list <;> by_cases h2 : a.text = a2.text <;> simp [h1, h2])
    generalize (Rose.node a s).same ieq (.node a2 s2) = R at *
    obtain ⟨M, hM⟩ : ∃ M, s.length = M := ⟨_, rfl⟩
    have HM := Lib.hid hM
    obtain ⟨M2, hM2⟩ : ∃ M2, s2.length = M2 := ⟨_, rfl⟩
    have HM2 := Lib.hid hM2
    have IH := Lib.hid ih
    rw [hg] at HW ⊢
    rw [hM] at HW hlm ⊢
    rw [hM2] at HW ⊢
    clear hv hv2 hcap hml hcap2 hml2 ih hM hM2
    have m0 := ineOr (M : Int) (M2 : Int)
    go_enter Try.func13, Try.ntmps13
    go_upto_region 1 with fail
    generalize (w.alloc (.cells #[.string (txt a), .bool a.list, .slice oa M cap] IT)).alloc (.cells #[.string (txt a2), .bool a2.list, .slice oa2 M2 cap2] IT) = w1 at *
    obtain ⟨hb1, ht1, ht2, hsz, ⟨c0, c1, c2⟩, e0, e1, e2⟩ := HW.out _ rfl
    have H1 := Lib.hid (And.intro hb1 (And.intro ht1 ht2))
    clear HW hb1 ht1 ht2
    generalize txt a = T at *
    generalize txt a2 = T2 at *
    generalize a.list = L at *
    generalize a2.list = L2 at *
    by_cases hL : L = L2
    case neg =>
      have HE : Hid (R = false) := Lib.hid (by rw [HR.out]; simp [hL])
      clear HR
      rcases L with _ | _ <;> rcases L2 with _ | _ <;> first | exact absurd rfl hL | skip
      all_goals
        clear hL
        go_wp2_with fail
        go_returns
        exact ⟨by rw [HE.out]; rfl, H1.out.1⟩
    subst hL
    by_cases hT : T = T2
    case neg =>
      have HE : Hid (R = false) := Lib.hid (by rw [HR.out]; simp [hT])
      have q0 := str_ne hT
      clear HR hT
      rcases L with _ | _
      all_goals
        go_wp2_with fail
        go_returns
        exact ⟨by rw [HE.out]; rfl, H1.out.1⟩
    have q0 := str_eq hT
    rcases m0 with ⟨m0, M0⟩ | ⟨m0, M0⟩
    case inr =>
      have HE : Hid (R = false) := Lib.hid (by
        have q := M0.out
        rw [HR.out, Rose.sameL_length (by rw [HM.out, HM2.out]; omega), Bool.and_false])
      clear HR hT
      rcases L with _ | _
      all_goals
        go_wp2_with fail
        go_returns
        exact ⟨by rw [HE.out]; rfl, H1.out.1⟩
    obtain rfl : M = M2 := by have := M0.out; omega
    have HR2 : Hid (R = Rose.sameL ieq s s2) := Lib.hid (by rw [HR.out]; simp [hT])
    clear HR hT
    rcases L with _ | _
    all_goals
      go_wp2_with fail
      clear m0 c0 c1 e0 e1 q0
      go_loopw [5] (fun iv wi => ∃ k : Nat, iv = .int .i64 k ∧ k ≤ M ∧ Hid (Rose.sameL ieq (s.take k) (s2.take k) = true) ∧ Hid (Below (g + 2) w1 wi)) (fun iv _ => M - (intOf iv).toNat)
      case atStart => exact ⟨0, rfl, by omega, by simp [Hid, Rose.sameL], Lib.hid (Below.refl _ _)⟩
      case round =>
        obtain ⟨k, rfl, hk, HS, hbe⟩ := hrel
        have hcr : wr.cell? ⟨g, 2, none⟩ = some (.slice oa M cap) := (hbe.out.cell (p := ⟨g, 2, none⟩) (show g < g + 2 by omega)).trans c2
        have HF : Hid (Below g w wr) := Lib.hid (H1.out.1.trans (hbe.out.mono (by omega)))
        by_cases c : k < M
        · obtain ⟨y, hy⟩ : ∃ y, s[k]? = some y := ⟨_, List.getElem?_eq_getElem (by rw [HM.out]; exact c)⟩
          obtain ⟨y', hy'⟩ : ∃ y, s2[k]? = some y := ⟨_, List.getElem?_eq_getElem (by rw [HM2.out]; exact c)⟩
          obtain ⟨b, off, u, rfl, hlt, _, y0, y1, y2, hu, hwf⟩ := ISubsQ.at_ (Shape.Subs.below H1.out.2.1 (hsz ▸ hbe.out)) hy
          obtain ⟨b', off', u', rfl, hlt', _, y0', y1', y2', hu', hwf'⟩ := ISubsQ.at_ (Shape.Subs.below H1.out.2.2 (hsz ▸ hbe.out)) hy'
          have hgw : g + 2 ≤ wr.heap.size := by have := hbe.out.size; omega
          have cg : ∀ x : Fut wr, x.at_.cell? ⟨g, 2, none⟩ = some (.slice (some ⟨b, off, none⟩) M cap) := fun x => (x.is.cell (p := ⟨g, 2, none⟩) (show g < wr.heap.size by omega)).trans hcr
          have cg' : ∀ x : Fut wr, x.at_.cell? ⟨g + 1, 2, none⟩ = some (.slice (some ⟨b', off', none⟩) M cap2) := fun x => (x.is.cell (p := ⟨g + 1, 2, none⟩) (show g + 1 < wr.heap.size by omega)).trans ((hbe.out.cell (p := ⟨g + 1, 2, none⟩) (show g + 1 < g + 2 by omega)).trans e2)
          have x0 : ∀ x : Fut wr, x.at_.cell? ⟨b, off + k * 3, none⟩ = some (.string (txt y.lab)) := fun x => (x.is.cell (p := ⟨b, off + k * 3, none⟩) hlt).trans y0
          have x1 : ∀ x : Fut wr, x.at_.cell? ⟨b, off + k * 3 + 1, none⟩ = some (.bool y.lab.list) := fun x => (x.is.cell (p := ⟨b, off + k * 3 + 1, none⟩) hlt).trans y1
          have x2 : ∀ x : Fut wr, x.at_.cell? ⟨b, off + k * 3 + 2, none⟩ = some u := fun x => (x.is.cell (p := ⟨b, off + k * 3 + 2, none⟩) hlt).trans y2
          have x0' : ∀ x : Fut wr, x.at_.cell? ⟨b', off' + k * 3, none⟩ = some (.string (txt y'.lab)) := fun x => (x.is.cell (p := ⟨b', off' + k * 3, none⟩) hlt').trans y0'
          have x1' : ∀ x : Fut wr, x.at_.cell? ⟨b', off' + k * 3 + 1, none⟩ = some (.bool y'.lab.list) := fun x => (x.is.cell (p := ⟨b', off' + k * 3 + 1, none⟩) hlt').trans y1'
          have x2' : ∀ x : Fut wr, x.at_.cell? ⟨b', off' + k * 3 + 2, none⟩ = some u' := fun x => (x.is.cell (p := ⟨b', off' + k * 3 + 2, none⟩) hlt').trans y2'
          have CY := Lib.hid (fun x : Fut wr => IH.out y (List.mem_of_getElem? hy) y' x.at_ u u' (Shape.Subs.below hu x.is) (Shape.Subs.below hu' x.is))
          have HST : Hid (Rose.sameL ieq (s.take (k + 1)) (s2.take (k + 1)) = y.same ieq y') := by
            unfold Hid; rw [Rose.sameL_take hy hy', HS.out]; rfl
          have HSF : Hid (y.same ieq y' = false → R = false) := Lib.hid fun h => by rw [HR2.out]; exact Rose.sameL_false hy hy' h
          have hbk : Hid (∀ x : Fut wr, Below (g + 2) w1 x.at_) := Lib.hid fun x => hbe.out.trans (x.is.mono hgw)
          have hbf : Hid (∀ x : Fut wr, Below g w x.at_) := Lib.hid fun x => HF.out.trans (x.is.mono (by omega))
          clear hu hwf hu' hwf' y0 y1 y2 y0' y1' y2'
          generalize y.same ieq y' = sm at *
          go_upto_region 6 with fail
          refine wp_region_after (by kernel_rfl) (by kernel_rfl) ?_
          repeat (go_big_quiet_step (exact Calls.after (CY.out _)))
          refine wpQuiet_nil ?_
          intro x
          cases sm with
          | true =>
            go_wp2_with fail
            exact ⟨⟨k + 1, by go_num, by omega, HST, Lib.hid (hbk.out x)⟩, by simp [intOf]; omega⟩
          | false =>
            have HE := Lib.hid (HSF.out rfl)
            go_wp2_with fail
            go_returns
            exact ⟨by rw [HE.out]; rfl, hbf.out x⟩
        · obtain rfl : k = M := by omega
          have HE : Hid (R = true) := by
            unfold Hid
            have h1 : s.take k = s := by rw [← HM.out, List.take_length]
            have h2 : s2.take k = s2 := by rw [← HM2.out, List.take_length]
            have h3 := HS.out
            rw [h1, h2] at h3
            rw [HR2.out, h3]
          go_wp2_with fail
          go_returns
          exact ⟨by rw [HE.out]; rfl, HF.out⟩
theorem ieq_refl (a : IL) : ieq a a = true := by simp [ieq]
mutual
theorem isame_refl (x : Rose IL) : x.same ieq x = true := by
  cases x with
  | node a s => simp only [Rose.same, ieq_refl, isameL_refl s, Bool.and_self]
theorem isameL_refl (s : List (Rose IL)) : Rose.sameL ieq s s = true := by
  cases s with
  | nil => rfl
  | cons x xs => simp only [Rose.sameL, isame_refl x, isameL_refl xs, Bool.and_self]
end
end Go.Proofs.Ytopfpfpefljkkaa
