/- The law WalkBytes. -/
import Derived.Test.YtopfpfpefljkkaaWalkA
namespace Go.Proofs.Ytopfpfpefljkkaa
open Go.RowKit
set_option linter.unusedVariables false
set_option linter.unusedSimpArgs false

/-- A slice of these tokens comes back. -/
def TkPost (T : List Tk) (w : World) (e : Ending) (w' : World) : Prop := ∃ o c, e = .returned (.slice o T.length c) ∧ RdG tkf 2 w' (.slice o T.length c) T ∧ Below w.heap.size w w'
theorem plain_c (T : List Tk) (w : World) (v : Value) (h : RdG tkf 2 w v T) (hT : T.length ≤ 100000) : Calls Try.prog 28 #[v] w (TkPost T w) :=
  (law_plain T w v h hT).mono fun e w' ⟨u, h1, h2, h3⟩ => by
    obtain ⟨o, c, rfl⟩ := h2.slice
    exact ⟨o, c, h1, h2.rd tkf_len, h3⟩
theorem of_c (x : Rose IL) (w : World) (v : Value) (h : ISubs w v x.sub) (hc : x.count ≤ 100000) : Calls Try.prog 29 #[.agg #[.string (txt x.lab), .bool x.lab.list, v]] w (TkPost (toks x) w) :=
  (doc_of x w v h hc).mono fun e w' ⟨g, c, h1, h2, h3⟩ => ⟨_, c, h1, h2.rd tkf_len, h3⟩

/-- What is known at the last region. -/
structure WbI (B : Nat) (w1 : World) (g : Nat) (T : ByteArray) (l : Bool) (u : Value) (s : List (Rose IL)) (v : Value) (L : List Tk) (W : World) : Prop where
  got : GotC B w1 T l u s g W
  rd : RdG tkf 2 W v L
theorem WbI.below {B : Nat} {w1 : World} {g : Nat} {T : ByteArray} {l : Bool} {u : Value} {s : List (Rose IL)} {v : Value} {L : List Tk} {W W' : World} (h : WbI B w1 g T l u s v L W) (hB : B ≤ w1.heap.size) (hb : Below W.heap.size W W') : WbI B w1 g T l u s v L W' :=
  ⟨h.got.below hB hb, h.rd.below hb⟩
theorem Below.drewS {w : World} : Below w.heap.size w w.drew := (Below.refl _ w).drew

set_option maxRecDepth 100000 in
set_option maxHeartbeats 8000000 in
theorem walk_bytes (s : ByteArray) (depth items : Int) (w : World) (hsm : s.size ≤ maxLen) (hd1 : (Lit.int .i64 depth).wf = true) (hi1 : (Lit.int .i64 items).wf = true) :
    Calls Try.prog 7 #[.string s, .int .i64 depth, .int .i64 items] w fun e w' => e = .returned (.bool true) ∧ Below w.heap.size w w' := by
  have CA := Lib.hid walk_alive
  by_cases hbig : 3000 < s.size
  · clear hd1 hi1
    go_enter Try.func7, Try.ntmps7
    go_wp2_with fail
    refine (CA.out _).mono ?_
    rintro e w2 ⟨rfl, hb2⟩
    have H2 := Lib.hid hb2
    clear hb2
    go_wp2_with fail
    go_returns
    exact ⟨rfl, H2.out⟩
  · have hle : s.size ≤ 3000 := by omega
    clear hbig
    obtain ⟨K, hK⟩ : ∃ K, (min depth 16).toNat = K := ⟨_, rfl⟩
    obtain ⟨M, hM⟩ : ∃ M, (min items 1024).toNat = M := ⟨_, rfl⟩
    have CT := Lib.hid (fun W => walk_tokens depth items K M hK hM s W (by omega) hd1 hi1)
    have CY := Lib.hid (fun W => ref_get depth items K M hK hM s W (by omega))
    obtain ⟨R, hR⟩ : ∃ R, getR s.data.toList (rdI K s.data.toList M) = R := ⟨_, rfl⟩
    have HE : Hid (∀ er, R = .error er → (((er : Nat) : Int) != 0) = true) := Lib.hid fun er e => getR_errs (hR.trans e)
    have HX : Hid (∀ x, R = .ok x → x.count ≤ 1024) := Lib.hid fun x e => by
      rw [e] at hR
      unfold getR at hR
      cases hrd : rdI K s.data.toList M with
      | error er => rw [hrd] at hR; simp at hR
      | ok y =>
        rw [hrd] at hR
        simp only at hR
        split at hR
        · cases hR
        · injection hR with hR
          subst hR
          obtain ⟨y1, sz, m2⟩ := y
          have h1 := rdI_spec _ _ _ _ hrd
          dsimp only at h1 ⊢
          omega
    rw [hR] at CT CY
    clear hR hK hM hd1 hi1
    cases R with
    | error er =>
      have her := HE.out er rfl
      go_enter Try.func7, Try.ntmps7
      go_wp2_with fail
      refine (CA.out _).mono ?_
      rintro e w2 ⟨rfl, hb2⟩
      have H2 := Lib.hid hb2
      clear hb2
      go_wp2_with fail
      refine (CT.out _).mono ?_
      rintro e w3 ⟨rfl, hb3⟩
      have H3 := Lib.hid (H2.out.trans (hb3.mono H2.out.size))
      clear hb3
      go_wp2_with fail
      refine (CY.out _).mono ?_
      rintro e w4 ⟨rfl, hb4⟩
      have H4 := Lib.hid (H3.out.trans (hb4.mono H3.out.size))
      have H5 := Lib.hid (H4.out.alloc H4.out.size (.cells #[.string ⟨#[]⟩, .bool false, .slice none 0 0] IT))
      clear hb4
      unfold zero3
      go_wp2_with fail
      go_returns
      exact ⟨rfl, H5.out⟩
    | ok x =>
      have hc := HX.out x rfl
      have hTl : (toks x).length ≤ 100000 := by have := (toks_le x).1; omega
      obtain ⟨N, hN⟩ : ∃ N, (toks x).length = N := ⟨_, rfl⟩
      obtain ⟨M2, hM2⟩ : ∃ M2, x.sub.length = M2 := ⟨_, rfl⟩
      have HN := Lib.hid hN
      have HM2 := Lib.hid hM2
      have CP := Lib.hid (fun W v (h : RdG tkf 2 W v (toks x)) => plain_c (toks x) W v h hTl)
      have CO := Lib.hid (fun W v (h : ISubs W v x.sub) => of_c x W v h (by omega))
      have CS := Lib.hid (fun W v u (h : RdG tkf 2 W v (toks x)) (h2 : RdG tkf 2 W u (toks x)) => law_same (toks x) W v u h h2 hTl)
      unfold TkPost at CP CO
      rw [hN] at CP CO
      clear hN hM2 hc hTl
      have CT2 : Hid (∀ W, Calls Try.prog 30 #[.string s, .int .i64 depth, .int .i64 items] W fun e W' => ∃ o c, e = .returned (.tuple #[.slice o N c, .int .i64 0]) ∧ RdG tkf 2 W' (.slice o N c) (toks x) ∧ Below W.heap.size W W') := Lib.hid fun W => (CT.out W).mono fun e W' ⟨o, c, h1, h2, h3⟩ => by
        rw [HN.out] at h1 h2
        exact ⟨o, c, h1, h2.rd tkf_len, h3⟩
      have CY2 : Hid (∀ W, Calls Try.prog 15 #[.string s, .int .i64 depth, .int .i64 items] W fun e W' => ∃ o c, e = .returned (.tuple #[.agg #[.string (txt x.lab), .bool x.lab.list, .slice o M2 c], .int .i64 0]) ∧ ISubs W' (.slice o M2 c) x.sub ∧ Below W.heap.size W W') := Lib.hid fun W => (CY.out W).mono fun e W' ⟨v, h1, h2, h3⟩ => by
        obtain ⟨o, c, rfl, _, _⟩ := h2.slice
        rw [HM2.out] at h1 h2
        exact ⟨o, c, h1, h2.any, h3⟩
      clear CT CY
      go_enter Try.func7, Try.ntmps7
      go_wp2_with fail
      refine (CA.out _).mono ?_
      rintro e w2 ⟨rfl, hb2⟩
      have H2 := Lib.hid hb2
      clear hb2
      go_wp2_with fail
      refine (CT2.out _).mono ?_
      rintro e w3 ⟨o3, c3, rfl, hr3, hb3⟩
      have H3 := Lib.hid (H2.out.trans (hb3.mono H2.out.size))
      have HR3 := Lib.hid hr3
      clear hb3 hr3
      go_wp2_with fail
      refine (CY2.out _).mono ?_
      rintro e w4 ⟨o4, c4, rfl, hs4, hb4⟩
      have H4 := Lib.hid (H3.out.trans (hb4.mono H3.out.size))
      have HG4 : Hid (WbI w.heap.size w w4.heap.size (txt x.lab) x.lab.list (.slice o4 M2 c4) x.sub (.slice o3 N c3) (toks x) (w4.alloc (.cells #[.string (txt x.lab), .bool x.lab.list, .slice o4 M2 c4] IT))) := Lib.hid
        ⟨gotc_a H4.out (Nat.le_refl _) hs4, HR3.out.below (hb4.trans ((Below.refl w4.heap.size w4).alloc (Nat.le_refl _) _ |>.mono hb4.size))⟩
      clear hb4 hs4
      go_upto_region 11 with fail
      generalize w4.alloc _ = w5 at *
      generalize w4.heap.size = g5 at *
      have hI0 := HG4.out.below (Nat.le_refl _) Below.drewS
      have HS : Hid (∀ W, WbI w.heap.size w g5 (txt x.lab) x.lab.list (.slice o4 M2 c4) x.sub (.slice o3 N c3) (toks x) W → WbI w.heap.size w g5 (txt x.lab) x.lab.list (.slice o4 M2 c4) x.sub (.slice o3 N c3) (toks x) W ∧ W.cell? ⟨g5, 0, none⟩ = some (.string (txt x.lab)) ∧ W.cell? ⟨g5, 1, none⟩ = some (.bool x.lab.list) ∧ W.cell? ⟨g5, 2, none⟩ = some (.slice o4 M2 c4)) := Lib.hid fun W h => ⟨h, h.got.2.2.1, h.got.2.2.2.1, h.got.2.2.2.2.1⟩
      have hS0 := HS.out _ hI0
      go_region_held3 (fun W => WbI w.heap.size w g5 (txt x.lab) x.lab.list (.slice o4 M2 c4) x.sub (.slice o3 N c3) (toks x) W ∧ W.cell? ⟨g5, 0, none⟩ = some (.string (txt x.lab)) ∧ W.cell? ⟨g5, 1, none⟩ = some (.bool x.lab.list) ∧ W.cell? ⟨g5, 2, none⟩ = some (.slice o4 M2 c4))
        (first | assumption | exact hS0 | exact HS.out _ (by assumption))
        (first
          | (go_at_call 28; refine (CP.out _ _ hI0.rd).mono ?_; rintro e wd ⟨op, cp, rfl, hpd, hbd⟩; have hId := hI0.below (Nat.le_refl _) hbd)
          | (go_at_call 28; refine (CP.out _ _ hIk.rd).mono ?_; rintro e wd ⟨op, cp, rfl, hpd, hbd⟩; have hId := hIk.below (Nat.le_refl _) hbd; have hokd := hok.below hbd)
          | (go_at_call 29; refine (CO.out _ _ hI0.got.2.1).mono ?_; rintro e wk ⟨oo, co, rfl, hok, hbk⟩; have hIk := hI0.below (Nat.le_refl _) hbk)
          | (go_at_call 29; refine (CO.out _ _ hId.got.2.1).mono ?_; rintro e wk ⟨oo, co, rfl, hok, hbk⟩; have hIk := hId.below (Nat.le_refl _) hbk; have hpdk := hpd.below hbk)
          | (go_at_call 27; refine (CS.out _ _ _ hpdk hok).mono ?_; rintro e ws ⟨rfl, hbs⟩; have hIs := hIk.below (Nat.le_refl _) hbs)
          | (go_at_call 27; refine (CS.out _ _ _ hpd hokd).mono ?_; rintro e ws ⟨rfl, hbs⟩; have hIs := hId.below (Nat.le_refl _) hbs))
      all_goals
        have HF := Lib.hid hIs.got.1
        go_wp2_with fail
        go_returns
        exact ⟨rfl, HF.out⟩
end Go.Proofs.Ytopfpfpefljkkaa
