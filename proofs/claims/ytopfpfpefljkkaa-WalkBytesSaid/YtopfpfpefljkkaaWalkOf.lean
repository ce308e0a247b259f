/- walk.Of, walk.Tokens. -/
import Derived.Test.YtopfpfpefljkkaaWalkCollect
import Derived.Test.YtopfpfpefljkkaaRlpReads
namespace Go.Proofs.Ytopfpfpefljkkaa
open Go.RowKit
set_option linter.unusedVariables false
set_option linter.unusedSimpArgs false

set_option maxRecDepth 100000 in
theorem walk_each (x : Rose IL) (w : World) (v : Value) (hv : ISubs w v x.sub) :
    Calls Try.prog 46 #[.agg #[.string (txt x.lab), .bool x.lab.list, v]] w
      fun e w' => ∃ b, e = .returned (.func (.func 58) #[] #[.pointer (some ⟨b, 0, none⟩)]) ∧ Blk w' b #[.string (txt x.lab), .bool x.lab.list, v] IT ∧ ISubs w' v x.sub ∧ Below w.heap.size w w' := by
  have HW := Lib.hid (box_item (T := txt x.lab) (l := x.lab.list) (t := IT) hv)
  obtain ⟨oa, cap, rfl, hcap, hml⟩ := ISubsQ.slice hv
  obtain ⟨g, hg⟩ : ∃ g, w.heap.size = g := ⟨_, rfl⟩
  rw [hg] at HW ⊢
  clear hv
  go_enter Try.func46, Try.ntmps46
  go_wp2_with fail
  go_returns
  obtain ⟨h1, h2, h3, _, _, _, h4⟩ := HW.out _ rfl
  exact ⟨_, rfl, h4, h2, h1⟩

/-- What Of tells. -/
def OfPost (x : Rose IL) (w : World) (e : Ending) (w' : World) : Prop :=
  if mayI x then ∃ o c, e = .returned (.tuple #[.slice o (toks x).length c, .int .i64 0]) ∧ OwnG tkf 2 w' w.heap.size TT (.slice o (toks x).length c) (toks x) ∧ Below w.heap.size w w'
  else e = .returned (.tuple #[.slice none 0 0, .int .i64 1]) ∧ Below w.heap.size w w'

theorem OwnG.lower {β : Type} {f : β → List Value} {k : Nat} {w : World} {B B' : Nat} {t : TypeId} {v : Value} {L : List β} (h : OwnG f k w B t v L) (hB : B' ≤ B) : OwnG f k w B' t v L :=
  ⟨h.1, by rcases h.2 with h | ⟨g, cap, cur, h1, h2, h3⟩; exact .inl h; exact .inr ⟨g, cap, cur, h1, Nat.le_trans hB h2, h3⟩⟩

set_option maxRecDepth 100000 in
theorem walk_of (x : Rose IL) (w : World) (v : Value) (hv : ISubs w v x.sub) (hxl : x.lab.text.length ≤ maxLen) :
    Calls Try.prog 23 #[.agg #[.string (txt x.lab), .bool x.lab.list, v]] w (OfPost x w) := by
  have HW := Lib.hid (box_item (T := txt x.lab) (l := x.lab.list) (t := IT) hv)
  obtain ⟨oa, cap, rfl, hcap, hml⟩ := ISubsQ.slice hv
  obtain ⟨g, hg⟩ : ∃ g, w.heap.size = g := ⟨_, rfl⟩
  have HXL := Lib.hid hxl
  obtain ⟨POST, hP⟩ : ∃ P0, OfPost x w = P0 := ⟨_, rfl⟩
  have HP := Lib.hid hP
  rw [hP]
  rw [hg] at HW
  clear hv hxl hP
  go_enter Try.func23, Try.ntmps23
  go_upto_region 1 with fail
  generalize w.alloc _ = w1 at *
  obtain ⟨hb1, ht1, hsz, c0, c1, c2, hB1⟩ := HW.out _ rfl
  have HB1 := Lib.hid hb1
  have HT1 := Lib.hid ht1
  have HK1 := Lib.hid hB1
  have hsz1 := Lib.hid hsz
  have CM := Lib.hid (item_may x w1 _ ht1)
  clear HW hb1 ht1 hsz hB1
  obtain ⟨my, hmy⟩ : ∃ my, mayI x = my := ⟨_, rfl⟩
  rw [hmy] at CM
  go_wp2_with fail
  refine CM.out.mono ?_
  rintro e w2 ⟨rfl, hb2⟩
  have hm := hmy
  clear hmy
  have H2 := Lib.hid (HB1.out.trans (hb2.mono (by rw [hsz1.out]; omega)))
  have HT2 := Lib.hid (Shape.Subs.below HT1.out hb2)
  have hk2 := Below.blk hb2 HK1.out HK1.out.lt
  have d0 := hk2.cell 0
  have d1 := hk2.cell 1
  have d2 := hk2.cell 2
  clear hb2 hk2 CM c0 c1 c2
  cases my with
  | false =>
    have HMY := Lib.hid hm
    clear hm
    go_wp2_with fail
    rw [← HP.out]
    unfold OfPost
    rw [if_neg (by rw [HMY.out]; decide), hg]
    exact ⟨rfl, H2.out⟩
  | true =>
    have hc : x.count ≤ 1024 := by rw [mayI_eq] at hm; simp only [Bool.and_eq_true, decide_eq_true_eq] at hm; omega
    have hlen : (toks x).length ≤ 100000 := by have := (toks_le x).1; omega
    have CE := Lib.hid (walk_each x w2 _ HT2.out)
    have HMY := Lib.hid hm
    clear hc hm
    go_wp2_with fail
    refine CE.out.mono ?_
    rintro e w3 ⟨b, rfl, hb, hs3, hb3⟩
    have H3 := Lib.hid (H2.out.trans (hb3.mono (hg ▸ H2.out.size)))
    have CC := Lib.hid (collect_each x b _ w3 hlen hb hs3 HXL.out)
    clear hb hs3 hb3
    go_wp2_with fail
    refine CC.out.mono ?_
    rintro e w4 ⟨u, rfl, ho, hb4⟩
    obtain ⟨ou, cu, rfl⟩ := ho.slice
    have HO := Lib.hid (ho.lower (hg ▸ H3.out.size))
    have H4 := Lib.hid (H3.out.trans (hb4.mono (hg ▸ H3.out.size)))
    clear ho hb4
    go_wp2_with fail
    rw [← HP.out]
    unfold OfPost
    rw [if_pos HMY.out, hg]
    exact ⟨_, _, rfl, HO.out, H4.out⟩

/-- What Tokens tells. -/
def TokPost (R : Except Nat (Rose IL)) (w : World) (e : Ending) (w' : World) : Prop := match R with
  | .error er => e = .returned (.tuple #[.slice none 0 0, .int .i64 (er : Nat)]) ∧ Below w.heap.size w w'
  | .ok x => ∃ o c, e = .returned (.tuple #[.slice o (toks x).length c, .int .i64 0]) ∧ OwnG tkf 2 w' w.heap.size TT (.slice o (toks x).length c) (toks x) ∧ Below w.heap.size w w'

theorem getR_errs {K M : Nat} {s : ByteArray} {er : Nat} (h : getR s.data.toList (rdI K s.data.toList M) = .error er) : (((er : Nat) : Int) != 0) = true := by
  unfold getR at h
  cases hrd : rdI K s.data.toList M with
  | error e =>
    rw [hrd] at h
    simp at h
    subst h
    have := rdI_errs _ _ _ _ hrd
    simp
    omega
  | ok y =>
    rw [hrd] at h
    simp only at h
    split at h
    · injection h with h
      subst h
      rfl
    · cases h
set_option maxRecDepth 100000 in
theorem walk_tokens (depth items : Int) (K M : Nat) (hK : (min depth 16).toNat = K) (hM : (min items 1024).toNat = M) (s : ByteArray) (w : World) (hs : s.size ≤ 100000) (hd1 : (Lit.int .i64 depth).wf = true) (hi1 : (Lit.int .i64 items).wf = true) :
    Calls Try.prog 30 #[.string s, .int .i64 depth, .int .i64 items] w (TokPost (getR s.data.toList (rdI K s.data.toList M)) w) := by
  have CG := Lib.hid (rlp_get depth items K M hK hM s w hs hd1 hi1)
  obtain ⟨R, hR⟩ : ∃ R, getR s.data.toList (rdI K s.data.toList M) = R := ⟨_, rfl⟩
  have HX : Hid (∀ x, R = .ok x → x.count ≤ 1024 ∧ x.lab.text.length ≤ 100000) := Lib.hid fun x e => by
    rw [e] at hR
    unfold getR at hR
    cases hrd : rdI K s.data.toList M with
    | error er => rw [hrd] at hR; simp at hR
    | ok y =>
      rw [hrd] at hR
      simp only at hR
      split at hR
      · cases hR
      · injection hR with hR
        subst hR
        obtain ⟨y1, sz, m2⟩ := y
        have h1 := rdI_spec _ _ _ _ hrd
        dsimp only at h1 ⊢
        obtain ⟨_, _, h3, _⟩ := h1
        refine ⟨by omega, ?_⟩
        cases y1 with
        | node xa xs => exact got_textlen (n := 100000) hs hrd
  have HE : Hid (∀ er, R = .error er → (((er : Nat) : Int) != 0) = true) := Lib.hid fun er e => getR_errs (hR.trans e)
  rw [hR] at CG ⊢
  obtain ⟨POST, hP⟩ : ∃ P0, TokPost R w = P0 := ⟨_, rfl⟩
  have HP := Lib.hid hP
  rw [hP]
  clear hR hK hM hd1 hi1 hP
  have HR0 := Lib.hid (Below.refl w.heap.size w)
  go_enter Try.func30, Try.ntmps30
  go_wp2_with fail
  refine CG.out.mono ?_
  cases R with
  | error er =>
    rintro e w2 ⟨rfl, hb2⟩
    have her := HE.out er rfl
    have H2 := Lib.hid (hb2.alloc hb2.size (.cells #[.string ⟨#[]⟩, .bool false, .slice none 0 0] IT))
    clear hb2
    unfold zero3
    go_wp2_with fail
    rw [← HP.out]
    exact ⟨rfl, H2.out⟩
  | ok x =>
    rintro e w2 ⟨u, rfl, hu, hb2⟩
    obtain ⟨hc, hxl⟩ := HX.out x rfl
    have hml : (100000 : Nat) ≤ maxLen := by decide +kernel
    have hlen : (toks x).length ≤ 100000 := by have := (toks_le x).1; omega
    obtain ⟨ou, cu, rfl, _, _⟩ := hu.slice
    have hbx := box_item (T := txt x.lab) (l := x.lab.list) (t := IT) hu.any
    have HW := Lib.hid hbx
    have H2 := Lib.hid hb2
    have HXL := Lib.hid (Nat.le_trans hxl hml)
    clear hu hbx hb2 hxl hml hc
    go_upto_region 4 with fail
    generalize w2.alloc _ = w3 at *
    obtain ⟨hb3, ht3, hsz, c0, c1, c2, hB3⟩ := HW.out _ rfl
    have H3 := Lib.hid (H2.out.trans (hb3.mono H2.out.size))
    have CE := Lib.hid (walk_each x w3 _ ht3)
    clear hb3 ht3 hsz hB3 HW
    go_wp2_with fail
    refine CE.out.mono ?_
    rintro e w4 ⟨b, rfl, hb, hs4, hb4⟩
    have H4 := Lib.hid (H3.out.trans (hb4.mono H3.out.size))
    have CC := Lib.hid (collect_each x b _ w4 hlen hb hs4 HXL.out)
    clear hb hs4 hb4
    go_wp2_with fail
    refine CC.out.mono ?_
    rintro e w5 ⟨u, rfl, ho, hb5⟩
    obtain ⟨ou, cu, rfl⟩ := ho.slice
    have HO := Lib.hid (ho.lower H4.out.size)
    have H5 := Lib.hid (H4.out.trans (hb5.mono H4.out.size))
    clear ho hb5
    go_wp2_with fail
    rw [← HP.out]
    exact ⟨_, _, rfl, HO.out, H5.out⟩
end Go.Proofs.Ytopfpfpefljkkaa
