/- The law RlpReads. -/
import Derived.Test.YtopfpfpefljkkaaRlpPuts
namespace Go.Proofs.Ytopfpfpefljkkaa
open Go.RowKit
set_option linter.unusedVariables false
set_option linter.unusedSimpArgs false

/-- What is known of an item's block. -/
def GotC (B : Nat) (w1 : World) (T : ByteArray) (l : Bool) (u : Value) (s : List (Rose IL)) (c : Nat) (W : World) : Prop := Below B w1 W ∧ ISubs W u s ∧ W.cell? ⟨c, 0, none⟩ = some (.string T) ∧ W.cell? ⟨c, 1, none⟩ = some (.bool l) ∧ W.cell? ⟨c, 2, none⟩ = some u ∧ c < W.heap.size
theorem gotc_a {B : Nat} {w1 W : World} {T : ByteArray} {l : Bool} {u : Value} {s : List (Rose IL)} (h : Below B w1 W) (hB : B ≤ w1.heap.size) (hu : ISubs W u s) :
    GotC B w1 T l u s W.heap.size (W.alloc (.cells #[.string T, .bool l, u] IT)) := by
  obtain ⟨a1, a2, a3, a4, a5, a6, _⟩ := box_item (T := T) (l := l) (t := IT) hu _ rfl
  exact ⟨h.trans (a1.mono (Nat.le_trans hB h.size)), a2, a4, a5, a6, by rw [a3]; exact Nat.lt_succ_self _⟩
theorem GotC.below {B : Nat} {w1 W W' : World} {T : ByteArray} {l : Bool} {u : Value} {s : List (Rose IL)} {c : Nat} (h : GotC B w1 T l u s c W) (hB : B ≤ w1.heap.size) (hb : Below W.heap.size W W') : GotC B w1 T l u s c W' := by
  obtain ⟨a1, a2, a3, a4, a5, a6⟩ := h
  exact ⟨a1.trans (hb.mono (Nat.le_trans hB a1.size)), Shape.Subs.below a2 hb, (hb.cell (p := ⟨c, 0, none⟩) a6).trans a3, (hb.cell (p := ⟨c, 1, none⟩) a6).trans a4, (hb.cell (p := ⟨c, 2, none⟩) a6).trans a5, Nat.lt_of_lt_of_le a6 hb.size⟩
theorem gen_gotc {W : World} {c : Nat} {B : Nat} {w1 : World} {T : ByteArray} {l : Bool} {u : Value} {s : List (Rose IL)}  (h : GotC B w1 T l u s c W) : ∃ W', W = W' ∧ GotC B w1 T l u s c W' := ⟨W, rfl, h⟩
theorem gen_atc {c : Nat} {W : World} {B : Nat} {w1 : World} {T : ByteArray} {l : Bool} {u : Value} {s : List (Rose IL)}  (h : GotC B w1 T l u s c W) : ∃ c', c = c' ∧ GotC B w1 T l u s c' W := ⟨c, rfl, h⟩

set_option maxRecDepth 100000 in
set_option maxHeartbeats 8000000 in
theorem rlp_reads (s : ByteArray) (depth items : Int) (w : World) (hsm : s.size ≤ maxLen) (hd1 : (Lit.int .i64 depth).wf = true) (hi1 : (Lit.int .i64 items).wf = true) :
    Calls Try.prog 3 #[.string s, .int .i64 depth, .int .i64 items] w fun e w' => e = .returned (.bool true) ∧ Below w.heap.size w w' := by
  have CA := Lib.hid rlp_alive
  have HR0 := Lib.hid (Below.refl w.heap.size w)
  obtain ⟨K, hK⟩ : ∃ K, (min depth 16).toNat = K := ⟨_, rfl⟩
  obtain ⟨M, hM⟩ : ∃ M, (min items 1024).toNat = M := ⟨_, rfl⟩
  have HX := Lib.hid (And.intro hd1 hi1)
  have HKM := Lib.hid (And.intro hK hM)
  clear hd1 hi1 hK hM
  by_cases hbig : 3000 < s.size
  · go_enter Try.func3, Try.ntmps3
    go_wp2_with fail
    refine (CA.out _).mono ?_
    rintro e w2 ⟨rfl, hb2⟩
    have H2 := Lib.hid hb2
    clear hb2
    go_wp2_with fail
    go_returns
    exact ⟨rfl, H2.out⟩
  · have hle : s.size ≤ 3000 := by omega
    clear hbig
    have HL := Lib.hid hle
    obtain ⟨R, hR⟩ : ∃ R, rdI K s.data.toList M = R := ⟨_, rfl⟩
    have CN : Hid (∀ W, Calls Try.prog 11 #[.string s, .int .i64 depth, .int .i64 items] W (NextPost R W)) := Lib.hid fun W => by
      have := rlp_next s depth items W (by omega) HX.out.1 HX.out.2
      rw [HKM.out.1, HKM.out.2, hR] at this
      exact this
    have CX : Hid (∀ W, Calls Try.prog 12 #[.string s, .int .i64 depth, .int .i64 items] W (GotPost R M W)) := Lib.hid fun W => by
      have := ref_next depth items K M HKM.out.1 HKM.out.2 s W (by omega)
      rw [hR] at this
      exact this
    have CG : Hid (∀ W, Calls Try.prog 14 #[.string s, .int .i64 depth, .int .i64 items] W (GetsPost (getR s.data.toList R) W)) := Lib.hid fun W => by
      have := rlp_get depth items K M HKM.out.1 HKM.out.2 s W (by omega) HX.out.1 HX.out.2
      rw [hR] at this
      exact this
    have CY : Hid (∀ W, Calls Try.prog 15 #[.string s, .int .i64 depth, .int .i64 items] W (GetsPost (getR s.data.toList R) W)) := Lib.hid fun W => by
      have := ref_get depth items K M HKM.out.1 HKM.out.2 s W (by omega)
      rw [hR] at this
      exact this
    have HR := Lib.hid hR
    clear hR
    cases R with
    | error er =>
      have her := rdI_errs K s.data.toList M er HR.out
      go_enter Try.func3, Try.ntmps3
      go_wp2_with fail
      refine (CA.out _).mono ?_
      rintro e w2 ⟨rfl, hb2⟩
      have H2 := Lib.hid hb2
      clear hb2
      go_wp2_with fail
      refine (CN.out _).mono ?_
      rintro e w3 ⟨rfl, hb3⟩
      have H3 := Lib.hid (H2.out.trans (hb3.mono H2.out.size))
      clear hb3
      unfold zero3
      go_wp2_with fail
      obtain ⟨w4, ew4, HG⟩ := gen_gotc (gotc_a (B := w.heap.size) (w1 := w) (s := []) (T := ⟨#[]⟩) (l := false) (u := .slice none 0 0) H3.out (Nat.le_refl _) (subs_nil _ _))
      rw [ew4]
      clear ew4
      have HGo := HG
      clear HG
      obtain ⟨c4, ec4, HG⟩ := gen_atc HGo
      clear HGo
      rw [ec4]
      clear ec4
      have H4 := Lib.hid HG
      clear HG
      refine (CX.out _).mono ?_
      rintro e w5 ⟨rfl, hb5⟩
      have H5 := Lib.hid (H4.out.below (Nat.le_refl _) hb5)
      obtain ⟨_, _, c0, c1, c2, _⟩ := H5.out
      clear hb5
      go_wp2_with fail
      have CS := Lib.hid (fun W => idoc_same (.node ⟨[], false⟩ []) (.node ⟨[], false⟩ []) W _ _ (subs_nil _ _) (subs_nil _ _))
      simp only [isame_refl] at CS
      have H6 := Lib.hid (H5.out.below (Nat.le_refl _) ((Below.refl _ _).alloc (Nat.le_refl _) (.cells #[.string ⟨#[]⟩, .bool false, .slice none 0 0, .int .i64 0, .int .i64 0, .int .i64 (er : Nat)] 30)))
      refine (CS.out _).mono ?_
      rintro e w7 ⟨rfl, hb7⟩
      have H7 := Lib.hid (H6.out.below (Nat.le_refl _) hb7)
      obtain ⟨_, _, c0, c1, c2, _⟩ := H7.out
      clear hb7
      go_wp2_with fail
      clear c0 c1 c2
      refine (CG.out _).mono ?_
      rintro e w8 ⟨rfl, hb8⟩
      have H8 := Lib.hid (H7.out.below (Nat.le_refl _) hb8)
      clear hb8
      unfold zero3
      go_wp2_with fail
      obtain ⟨w9, ew9, HG⟩ := gen_gotc (gotc_a (B := w.heap.size) (w1 := w) (s := []) (T := ⟨#[]⟩) (l := false) (u := .slice none 0 0) H8.out.1 (Nat.le_refl _) (subs_nil _ _))
      rw [ew9]
      clear ew9
      have HGo := HG
      clear HG
      obtain ⟨c9, ec9, HG⟩ := gen_atc HGo
      clear HGo
      rw [ec9]
      clear ec9
      have H9 := Lib.hid HG
      clear HG
      refine (CY.out _).mono ?_
      rintro e w10 ⟨rfl, hb10⟩
      have H10 := Lib.hid (H9.out.below (Nat.le_refl _) hb10)
      obtain ⟨_, _, c0, c1, c2, _⟩ := H10.out
      clear hb10
      unfold zero3
      go_wp2_with fail
      refine (CS.out _).mono ?_
      rintro e w11 ⟨rfl, hb11⟩
      have H11 := Lib.hid ((H10.out.below (Nat.le_refl _) ((Below.refl _ _).alloc (Nat.le_refl _) (.cells #[.string ⟨#[]⟩, .bool false, .slice none 0 0] IT))).below (Nat.le_refl _) hb11).1
      clear hb11
      go_wp2_with fail
      go_returns
      exact ⟨rfl, H11.out⟩
    | ok y =>
      obtain ⟨x, sz, m2⟩ := y
      obtain ⟨N, hN⟩ : ∃ N, x.sub.length = N := ⟨_, rfl⟩
      have HN := Lib.hid hN
      obtain ⟨q1, q2, q3, q4, q5, q6⟩ := rdI_spec K _ M _ HR.out
      dsimp only at q1 q2 q3 q4 q5 q6
      have HQ := Lib.hid (And.intro q5 q6)
      have hq2 : sz ≤ 3000 := by rw [show s.data.toList.length = s.size from rfl] at q2; omega
      clear hN q1 q3 q4 q5 q6
      have hlen : s.data.toList.length = s.size := rfl
      rw [hlen] at q2
      go_enter Try.func3, Try.ntmps3
      go_wp2_with fail
      refine (CA.out _).mono ?_
      rintro e w2 ⟨rfl, hb2⟩
      have H2 := Lib.hid hb2
      clear hb2
      go_wp2_with fail
      refine (CN.out _).mono ?_
      rintro e w3 ⟨u, rfl, hu3, hb3⟩
      obtain ⟨ou, cu, rfl, _, _⟩ := hu3.slice
      have hu3 := ISubsQ.any hu3
      dsimp only at hu3 ⊢
      rw [HN.out] at hu3 ⊢
      have HU3 := Lib.hid hu3
      have H3 := Lib.hid (H2.out.trans (hb3.mono H2.out.size))
      clear hb3 hu3
      go_wp2_with fail
      obtain ⟨w4, ew4, HG⟩ := gen_gotc (gotc_a (B := w.heap.size) (w1 := w) (s := x.sub) (T := txt x.lab) (l := x.lab.list) H3.out (Nat.le_refl _) HU3.out)
      rw [ew4]
      clear ew4
      have HGo := HG
      clear HG
      obtain ⟨c4, ec4, HG⟩ := gen_atc HGo
      clear HGo
      rw [ec4]
      clear ec4
      have H4 := Lib.hid HG
      clear HG
      refine (CX.out _).mono ?_
      rintro e w5 ⟨u2, rfl, hu5, hb5⟩
      obtain ⟨ou2, cu2, rfl, _, _⟩ := hu5.slice
      have hu5 := ISubsQ.any hu5
      dsimp only at hu5 ⊢
      rw [HN.out] at hu5 ⊢
      have HU5 := Lib.hid hu5
      have H5 := Lib.hid (H4.out.below (Nat.le_refl _) hb5)
      obtain ⟨_, _, c0, c1, c2, _⟩ := H5.out
      clear hb5 hu5
      obtain ⟨mm, hmm⟩ : ∃ mm : Int, ((M - m2 : Nat) : Int) = mm := ⟨_, rfl⟩
      rw [hmm]
      clear hmm
      go_wp2_with fail
      have CSX := Lib.hid (fun W u u' h1 h2 => idoc_same x x W u u' h1 h2)
      simp only [isame_refl] at CSX
      have H6 := Lib.hid (H5.out.below (Nat.le_refl _) ((Below.refl _ _).alloc (Nat.le_refl _) (.cells #[.string (txt x.lab), .bool x.lab.list, .slice ou2 N cu2, .int .i64 (sz : Nat), .int .i64 mm, .int .i64 0] 30)))
      have HU6 := Lib.hid (Shape.Subs.below HU5.out ((Below.refl w5.heap.size w5).alloc (Nat.le_refl _) (.cells #[.string (txt x.lab), .bool x.lab.list, .slice ou2 N cu2, .int .i64 (sz : Nat), .int .i64 mm, .int .i64 0] 30)))
      refine (CSX.out _ _ _ H6.out.2.1 HU6.out).mono ?_
      rintro e w7 ⟨rfl, hb7⟩
      have H7 := Lib.hid (H6.out.below (Nat.le_refl _) hb7)
      obtain ⟨_, _, c0, c1, c2, _⟩ := H7.out
      clear hb7
      go_wp2_with fail
      clear c0 c1 c2
      have hgr : getR s.data.toList (.ok (x, sz, m2)) = if sz < s.size then .error 3 else .ok x := rfl
      rw [hgr] at CG CY
      clear hgr
      by_cases hlt : sz < s.size
      · rw [if_pos hlt] at CG CY
        have CS := Lib.hid (fun W => idoc_same (.node ⟨[], false⟩ []) (.node ⟨[], false⟩ []) W _ _ (subs_nil _ _) (subs_nil _ _))
        simp only [isame_refl] at CS
        clear hlt q2
        refine (CG.out _).mono ?_
        rintro e w8 ⟨rfl, hb8⟩
        have H8 := Lib.hid (H7.out.below (Nat.le_refl _) hb8)
        clear hb8
        unfold zero3
        go_wp2_with fail
        obtain ⟨w9, ew9, HG⟩ := gen_gotc (gotc_a (B := w.heap.size) (w1 := w) (s := []) (T := ⟨#[]⟩) (l := false) (u := .slice none 0 0) H8.out.1 (Nat.le_refl _) (subs_nil _ _))
        rw [ew9]
        clear ew9
        have HGo := HG
        clear HG
        obtain ⟨c9, ec9, HG⟩ := gen_atc HGo
        clear HGo
        rw [ec9]
        clear ec9
        have H9 := Lib.hid HG
        clear HG
        refine (CY.out _).mono ?_
        rintro e w10 ⟨rfl, hb10⟩
        have H10 := Lib.hid (H9.out.below (Nat.le_refl _) hb10)
        obtain ⟨_, _, c0, c1, c2, _⟩ := H10.out
        clear hb10
        unfold zero3
        go_wp2_with fail
        refine (CS.out _).mono ?_
        rintro e w11 ⟨rfl, hb11⟩
        have H11 := Lib.hid ((H10.out.below (Nat.le_refl _) ((Below.refl _ _).alloc (Nat.le_refl _) (.cells #[.string ⟨#[]⟩, .bool false, .slice none 0 0] IT))).below (Nat.le_refl _) hb11).1
        clear hb11
        go_wp2_with fail
        go_returns
        exact ⟨rfl, H11.out⟩
      · rw [if_neg hlt] at CG CY
        have hsz : sz = s.size := by omega
        have henc : enc x = s.data.toList := by
          rw [← HQ.out.2, hsz]
          exact List.take_of_length_le (Nat.le_of_eq rfl)
        have hmy : mayI x = true := by
          have h1 := HQ.out.1
          have h2 := rdI_spec K _ M _ HR.out
          dsimp only at h2
          obtain ⟨_, _, g3, g4, g5, _⟩ := h2
          have g6 := HKM.out
          unfold mayI
          simp only [Bool.and_eq_true, decide_eq_true_eq]
          exact ⟨⟨g5, by omega⟩, by omega⟩
        have hpv : putV x = .tuple #[.string s, .int .i64 0] := by
          unfold putV
          rw [if_pos hmy, henc]
        have hmx : (3000 : Nat) ≤ maxLen := by decide +kernel
        have hxl : x.lab.text.length ≤ maxLen := by
          cases x with
          | node xa xs => exact Nat.le_trans (got_textlen (n := 3000) HL.out HR.out) hmx
        have CP := Lib.hid (fun W u (hu : ISubs W u x.sub) => rlp_put x W u hu hxl (fun _ => by rw [henc, show s.data.toList.length = s.size from rfl]; omega))
        rw [hpv] at CP
        clear hlt q2 hsz henc hmy hpv hmx hxl
        refine (CG.out _).mono ?_
        rintro e w8 ⟨u3, rfl, hu8, hb8⟩
        obtain ⟨ou3, cu3, rfl, _, _⟩ := hu8.slice
        have hu8 := ISubsQ.any hu8
        rw [HN.out] at hu8 ⊢
        have HU8 := Lib.hid hu8
        have H8 := Lib.hid (H7.out.below (Nat.le_refl _) hb8)
        clear hb8 hu8
        go_wp2_with fail
        obtain ⟨w9, ew9, HG⟩ := gen_gotc (gotc_a (B := w.heap.size) (w1 := w) (s := x.sub) (T := txt x.lab) (l := x.lab.list) H8.out.1 (Nat.le_refl _) HU8.out)
        rw [ew9]
        clear ew9
        have HGo := HG
        clear HG
        obtain ⟨c9, ec9, HG⟩ := gen_atc HGo
        clear HGo
        rw [ec9]
        clear ec9
        have H9 := Lib.hid HG
        clear HG
        refine (CY.out _).mono ?_
        rintro e w10 ⟨u4, rfl, hu10, hb10⟩
        obtain ⟨ou4, cu4, rfl, _, _⟩ := hu10.slice
        have hu10 := ISubsQ.any hu10
        rw [HN.out] at hu10 ⊢
        have HU10 := Lib.hid hu10
        have H10 := Lib.hid (H9.out.below (Nat.le_refl _) hb10)
        obtain ⟨_, _, c0, c1, c2, _⟩ := H10.out
        clear hb10 hu10
        go_wp2_with fail
        have H11 := Lib.hid (H10.out.below (Nat.le_refl _) ((Below.refl _ _).alloc (Nat.le_refl _) (.cells #[.string (txt x.lab), .bool x.lab.list, .slice ou4 N cu4] IT)))
        have HU11 := Lib.hid (Shape.Subs.below HU10.out ((Below.refl w10.heap.size w10).alloc (Nat.le_refl _) (.cells #[.string (txt x.lab), .bool x.lab.list, .slice ou4 N cu4] IT)))
        refine (CSX.out _ _ _ H11.out.2.1 HU11.out).mono ?_
        rintro e w12 ⟨rfl, hb12⟩
        have H12 := Lib.hid (H11.out.below (Nat.le_refl _) hb12)
        obtain ⟨_, _, c0, c1, c2, _⟩ := H12.out
        clear hb12
        go_wp2_with fail
        refine (CP.out _ _ H12.out.2.1).mono ?_
        rintro e w13 ⟨rfl, hb13⟩
        have H13 := Lib.hid (H12.out.below (Nat.le_refl _) hb13).1
        clear hb13
        go_wp2_with fail
        go_returns
        exact ⟨rfl, H13.out⟩
end Go.Proofs.Ytopfpfpefljkkaa
