/- ref30.Get. -/
import Derived.Test.YtemfecdpjegocaaPartGetW
namespace Go.Proofs.Ytemfecdpjegocaa
open Go.RowKit
set_option linter.unusedVariables false
set_option linter.unusedSimpArgs false

/-- So many numbers are read. -/
def St (s : ByteArray) : Nat → ByteArray → Nat → Nat → Nat → Prop
  | 0, R, _, _, _ => R = s
  | 1, R, a, _, _ => ∃ k1, lebNext s.data.toList 0 0 = (a, k1, 0) ∧ R.data.toList = s.data.toList.drop k1
  | 2, R, a, b, _ => ∃ k1 k2, lebNext s.data.toList 0 0 = (a, k1, 0) ∧ lebNext (s.data.toList.drop k1) 0 0 = (b, k2, 0) ∧ R.data.toList = (s.data.toList.drop k1).drop k2
  | _, R, a, b, c => get3 s.data.toList = (a, b, c, R.data.toList, 0)
theorem rest_of (R : ByteArray) (k : Nat) : (R.extract k R.size).data.toList = R.data.toList.drop k := by
  rw [Lib.extract_data, List.take_of_length_le]
  rw [List.length_drop]
  have : R.data.toList.length = R.size := Array.length_toList
  omega
theorem St.bad {s R : ByteArray} {k a b c n kk e : Nat} (hk : k < 3) (h : St s k R a b c) (h1 : lebNext R.data.toList 0 0 = (n, kk, e)) (he : e ≠ 0) : getP s.data.toList = (zeroPt, e) := by
  have key : get3 s.data.toList = (0, 0, 0, [], e) := by
    match k, hk, h with
    | 0, _, h =>
      have h' : R = s := h
      subst h'
      unfold get3; simp [h1, he]
    | 1, _, ⟨k1, q1, q2⟩ =>
      rw [q2] at h1
      unfold get3; simp [q1, h1, he]
    | 2, _, ⟨k1, k2, q1, q2, q3⟩ =>
      rw [q3, List.drop_drop] at h1
      unfold get3; simp [q1, q2, h1, he]
  unfold getP
  rw [key]
  simp [he]
theorem St.next0 {s R : ByteArray} {a b c n kk : Nat} (h : St s 0 R a b c) (h1 : lebNext R.data.toList 0 0 = (n, kk, 0)) : St s 1 (R.extract kk R.size) n b c := by
  have h' : R = s := h
  subst h'
  exact ⟨kk, h1, rest_of R kk⟩
theorem St.next1 {s R : ByteArray} {a b c n kk : Nat} (h : St s 1 R a b c) (h1 : lebNext R.data.toList 0 0 = (n, kk, 0)) : St s 2 (R.extract kk R.size) a n c := by
  obtain ⟨k1, q1, q2⟩ := h
  rw [q2] at h1
  exact ⟨k1, kk, q1, h1, by rw [rest_of, q2]⟩
theorem St.next2 {s R : ByteArray} {a b c n kk : Nat} (h : St s 2 R a b c) (h1 : lebNext R.data.toList 0 0 = (n, kk, 0)) : St s 3 (R.extract kk R.size) a b n := by
  obtain ⟨k1, k2, q1, q2, q3⟩ := h
  rw [q3] at h1
  show get3 s.data.toList = _
  rw [rest_of, q3]
  rw [List.drop_drop] at h1
  unfold get3; simp [q1, q2, h1]

set_option maxRecDepth 100000 in
set_option maxHeartbeats 4000000 in
theorem ref30_get (s : ByteArray) (w : World) (hs : s.size ≤ 100000) : Calls Try.prog 35 #[.string s] w (GetPost s w) := by
  obtain ⟨g, hg⟩ : ∃ g, w.heap.size = g := ⟨_, rfl⟩
  have H2 : Hid (Below g w ((w.alloc (.cells #[.int .i64 0, .int .i64 0, .int .i64 0, .string ⟨#[]⟩] 31)).alloc (.cells #[.int .u64 0, .int .u64 0, .int .u64 0] 117)) ∧ Blk ((w.alloc (.cells #[.int .i64 0, .int .i64 0, .int .i64 0, .string ⟨#[]⟩] 31)).alloc (.cells #[.int .u64 0, .int .u64 0, .int .u64 0] 117)) g #[.int .i64 0, .int .i64 0, .int .i64 0, .string ⟨#[]⟩] 31 ∧
      Blk ((w.alloc (.cells #[.int .i64 0, .int .i64 0, .int .i64 0, .string ⟨#[]⟩] 31)).alloc (.cells #[.int .u64 0, .int .u64 0, .int .u64 0] 117)) (g + 1) #[.int .u64 0, .int .u64 0, .int .u64 0] 117) := by
    have := Blk.new (w.alloc (.cells #[.int .i64 0, .int .i64 0, .int .i64 0, .string ⟨#[]⟩] 31)) #[.int .u64 0, .int .u64 0, .int .u64 0] 117
    rw [World.size_alloc, hg] at this
    exact ⟨((Below.refl _ _).alloc (by omega) _).alloc (by simp; omega) _, (hg ▸ Blk.new w _ _).alloc _, this⟩
  have hgw := Lib.hid hg
  have HS := Lib.hid hs
  go_enter Try.func35, Try.ntmps35
  go_wp2_with fail
  go_loopw [0, 5] (fun sv iv wi => ∃ (k : Nat) (R : ByteArray) (a b c : Nat), iv = .int .i64 k ∧ k ≤ 3 ∧ sv = .string R ∧ R.size ≤ 100000 ∧ Hid (St s k R a b c) ∧ (a < 18446744073709551616 ∧ b < 18446744073709551616 ∧ c < 18446744073709551616) ∧ Hid (Below g w wi) ∧ Hid (Blk wi g #[.int .i64 0, .int .i64 0, .int .i64 0, .string ⟨#[]⟩] 31) ∧ Hid (Blk wi (g + 1) #[.int .u64 a, .int .u64 b, .int .u64 c] 117)) (fun _ iv _ => 3 - (intOf iv).toNat)
  case atStart => exact ⟨0, s, 0, 0, 0, rfl, by omega, rfl, hs, rfl, by decide, H2.out.1, H2.out.2.1, H2.out.2.2⟩
  case round =>
    clear H2 hg
    obtain ⟨k, R, a, b, c, rfl, hk, rfl, hRs, hst, ⟨ha, hb, hc⟩, hbel, hbg, hbn⟩ := hrel
    have e0 : wr.cell? ⟨g, 0, none⟩ = some (.int .i64 0) := hbg.out.cell 0
    have e1 : wr.cell? ⟨g, 1, none⟩ = some (.int .i64 0) := hbg.out.cell 1
    have e2 : wr.cell? ⟨g, 2, none⟩ = some (.int .i64 0) := hbg.out.cell 2
    have e3 : wr.cell? ⟨g, 3, none⟩ = some (.string ⟨#[]⟩) := hbg.out.cell 3
    have ff := hbg.out.free
    have n0 : wr.cell? ⟨g + 1, 0, none⟩ = some (.int .u64 a) := hbn.out.cell 0
    have n1 : wr.cell? ⟨g + 1, 1, none⟩ = some (.int .u64 b) := hbn.out.cell 1
    have n2 : wr.cell? ⟨g + 1, 2, none⟩ = some (.int .u64 c) := hbn.out.cell 2
    have fn := hbn.out.free
    have cn := leb_ref_next R wr (by unfold maxLen; omega)
    generalize ht : lebNext R.data.toList 0 0 = t at cn
    obtain ⟨nv, kk, er⟩ := t
    have CN : Hid (Calls Try.prog 59 #[.string R] wr fun e w' => e = .returned (.tuple #[.int .u64 nv, .int .i64 kk, .int .i64 er]) ∧ wr = w') := cn
    clear cn
    have hk4 : k = 0 ∨ k = 1 ∨ k = 2 ∨ k = 3 := by omega
    rcases hk4 with rfl | rfl | rfl | rfl
    · by_cases her : er = 0
      · subst her
        have hok := lebNext_ok ht
        have hnx := Lib.hid (hst.out.next0 ht)
        have hkr : kk ≤ R.size := by have := hok.1; have h2 : R.data.toList.length = R.size := Array.length_toList; omega
        have hsz2 : (R.extract kk R.size).size ≤ 100000 := by rw [ByteArray.size_extract]; omega
        have hnb := hok.2.1
        have hBn : Hid (Blk (wr.setCell ⟨g + 1, 0, none⟩ (.int .u64 nv)) (g + 1) #[.int .u64 nv, .int .u64 b, .int .u64 c] 117) := by
          have := hbn.out.set 0 (.int .u64 nv)
          unfold Hid; simpa using this
        have hBg : Hid (Blk (wr.setCell ⟨g + 1, 0, none⟩ (.int .u64 nv)) g #[.int .i64 0, .int .i64 0, .int .i64 0, .string ⟨#[]⟩] 31) := hbg.out.setOther (show g ≠ g + 1 by omega) _
        have hBb : Hid (Below g w (wr.setCell ⟨g + 1, 0, none⟩ (.int .u64 nv))) := hbel.out.setCell (by simp) _
        clear ht hok
        go_wp2_with fail
        refine CN.out.mono ?_
        rintro e w2 ⟨rfl, rfl⟩
        go_wp2_with fail
        go_roundw
        case rel => exact ⟨1, R.extract kk R.size, nv, b, c, by go_num, by omega, rfl, hsz2, hnx, ⟨by omega, by omega, by omega⟩, hBb, hBg, hBn⟩
        case measure => simp [intOf]
      · have hgp := hst.out.bad (by omega) ht her
        have HGP : Hid (∀ W, Below w.heap.size w W → GetPost s w (.returned (.tuple #[.agg #[.int .i64 0, .int .i64 0, .int .i64 0, .string ⟨#[]⟩], .int .i64 er])) W) := fun W hW => by
          refine ⟨?_, hW⟩
          rw [hgp]; rfl
        have hne : (((er : Nat) : Int) != 0) = true := by rw [bne_iff_ne]; omega
        clear hgp ht her
        go_wp2_with fail
        refine CN.out.mono ?_
        rintro e w2 ⟨rfl, rfl⟩
        go_wp2_with fail
        obtain ⟨hbF, hbelF⟩ := set4 hbg.out hbel.out (.int .i64 0) (.int .i64 0) (.int .i64 0) (.string ⟨#[]⟩)
        have d0 := hbF.cell 0
        have d1 := hbF.cell 1
        have d2 := hbF.cell 2
        have d3 := hbF.cell 3
        simp at d0 d1 d2 d3
        generalize ((((wr.setCell ⟨g, 0, none⟩ (.int .i64 0)).setCell ⟨g, 1, none⟩ (.int .i64 0)).setCell ⟨g, 2, none⟩ (.int .i64 0)).setCell ⟨g, 3, none⟩ (.string ⟨#[]⟩)) = WF at *
        refine bodyPost_ret (v := .tuple #[.agg #[(.int .i64 0), (.int .i64 0), (.int .i64 0), (.string ⟨#[]⟩)], .int .i64 (er : Int)]) (by simp [results, Try.results35, go_sem, d0, d1, d2, d3]) rfl ?_
        exact HGP.out _ (hgw.out ▸ hbelF)
    · by_cases her : er = 0
      · subst her
        have hok := lebNext_ok ht
        have hnx := Lib.hid (hst.out.next1 ht)
        have hkr : kk ≤ R.size := by have := hok.1; have h2 : R.data.toList.length = R.size := Array.length_toList; omega
        have hsz2 : (R.extract kk R.size).size ≤ 100000 := by rw [ByteArray.size_extract]; omega
        have hnb := hok.2.1
        have hBn : Hid (Blk (wr.setCell ⟨g + 1, 1, none⟩ (.int .u64 nv)) (g + 1) #[.int .u64 a, .int .u64 nv, .int .u64 c] 117) := by
          have := hbn.out.set 1 (.int .u64 nv)
          unfold Hid; simpa using this
        have hBg : Hid (Blk (wr.setCell ⟨g + 1, 1, none⟩ (.int .u64 nv)) g #[.int .i64 0, .int .i64 0, .int .i64 0, .string ⟨#[]⟩] 31) := hbg.out.setOther (show g ≠ g + 1 by omega) _
        have hBb : Hid (Below g w (wr.setCell ⟨g + 1, 1, none⟩ (.int .u64 nv))) := hbel.out.setCell (by simp) _
        clear ht hok
        go_wp2_with fail
        refine CN.out.mono ?_
        rintro e w2 ⟨rfl, rfl⟩
        go_wp2_with fail
        go_roundw
        case rel => exact ⟨2, R.extract kk R.size, a, nv, c, by go_num, by omega, rfl, hsz2, hnx, ⟨by omega, by omega, by omega⟩, hBb, hBg, hBn⟩
        case measure => simp [intOf]
      · have hgp := hst.out.bad (by omega) ht her
        have HGP : Hid (∀ W, Below w.heap.size w W → GetPost s w (.returned (.tuple #[.agg #[.int .i64 0, .int .i64 0, .int .i64 0, .string ⟨#[]⟩], .int .i64 er])) W) := fun W hW => by
          refine ⟨?_, hW⟩
          rw [hgp]; rfl
        have hne : (((er : Nat) : Int) != 0) = true := by rw [bne_iff_ne]; omega
        clear hgp ht her
        go_wp2_with fail
        refine CN.out.mono ?_
        rintro e w2 ⟨rfl, rfl⟩
        go_wp2_with fail
        obtain ⟨hbF, hbelF⟩ := set4 hbg.out hbel.out (.int .i64 0) (.int .i64 0) (.int .i64 0) (.string ⟨#[]⟩)
        have d0 := hbF.cell 0
        have d1 := hbF.cell 1
        have d2 := hbF.cell 2
        have d3 := hbF.cell 3
        simp at d0 d1 d2 d3
        generalize ((((wr.setCell ⟨g, 0, none⟩ (.int .i64 0)).setCell ⟨g, 1, none⟩ (.int .i64 0)).setCell ⟨g, 2, none⟩ (.int .i64 0)).setCell ⟨g, 3, none⟩ (.string ⟨#[]⟩)) = WF at *
        refine bodyPost_ret (v := .tuple #[.agg #[(.int .i64 0), (.int .i64 0), (.int .i64 0), (.string ⟨#[]⟩)], .int .i64 (er : Int)]) (by simp [results, Try.results35, go_sem, d0, d1, d2, d3]) rfl ?_
        exact HGP.out _ (hgw.out ▸ hbelF)
    · by_cases her : er = 0
      · subst her
        have hok := lebNext_ok ht
        have hnx := Lib.hid (hst.out.next2 ht)
        have hkr : kk ≤ R.size := by have := hok.1; have h2 : R.data.toList.length = R.size := Array.length_toList; omega
        have hsz2 : (R.extract kk R.size).size ≤ 100000 := by rw [ByteArray.size_extract]; omega
        have hnb := hok.2.1
        have hBn : Hid (Blk (wr.setCell ⟨g + 1, 2, none⟩ (.int .u64 nv)) (g + 1) #[.int .u64 a, .int .u64 b, .int .u64 nv] 117) := by
          have := hbn.out.set 2 (.int .u64 nv)
          unfold Hid; simpa using this
        have hBg : Hid (Blk (wr.setCell ⟨g + 1, 2, none⟩ (.int .u64 nv)) g #[.int .i64 0, .int .i64 0, .int .i64 0, .string ⟨#[]⟩] 31) := hbg.out.setOther (show g ≠ g + 1 by omega) _
        have hBb : Hid (Below g w (wr.setCell ⟨g + 1, 2, none⟩ (.int .u64 nv))) := hbel.out.setCell (by simp) _
        clear ht hok
        go_wp2_with fail
        refine CN.out.mono ?_
        rintro e w2 ⟨rfl, rfl⟩
        go_wp2_with fail
        go_roundw
        case rel => exact ⟨3, R.extract kk R.size, a, b, nv, by go_num, by omega, rfl, hsz2, hnx, ⟨by omega, by omega, by omega⟩, hBb, hBg, hBn⟩
        case measure => simp [intOf]
      · have hgp := hst.out.bad (by omega) ht her
        have HGP : Hid (∀ W, Below w.heap.size w W → GetPost s w (.returned (.tuple #[.agg #[.int .i64 0, .int .i64 0, .int .i64 0, .string ⟨#[]⟩], .int .i64 er])) W) := fun W hW => by
          refine ⟨?_, hW⟩
          rw [hgp]; rfl
        have hne : (((er : Nat) : Int) != 0) = true := by rw [bne_iff_ne]; omega
        clear hgp ht her
        go_wp2_with fail
        refine CN.out.mono ?_
        rintro e w2 ⟨rfl, rfl⟩
        go_wp2_with fail
        obtain ⟨hbF, hbelF⟩ := set4 hbg.out hbel.out (.int .i64 0) (.int .i64 0) (.int .i64 0) (.string ⟨#[]⟩)
        have d0 := hbF.cell 0
        have d1 := hbF.cell 1
        have d2 := hbF.cell 2
        have d3 := hbF.cell 3
        simp at d0 d1 d2 d3
        generalize ((((wr.setCell ⟨g, 0, none⟩ (.int .i64 0)).setCell ⟨g, 1, none⟩ (.int .i64 0)).setCell ⟨g, 2, none⟩ (.int .i64 0)).setCell ⟨g, 3, none⟩ (.string ⟨#[]⟩)) = WF at *
        refine bodyPost_ret (v := .tuple #[.agg #[(.int .i64 0), (.int .i64 0), (.int .i64 0), (.string ⟨#[]⟩)], .int .i64 (er : Int)]) (by simp [results, Try.results35, go_sem, d0, d1, d2, d3]) rfl ?_
        exact HGP.out _ (hgw.out ▸ hbelF)
    · have hgt : Hid (get3 s.data.toList = (a, b, c, R.data.toList, 0)) := hst.out
      clear CN ht
      have hRl : R.data.toList.toArray = R.data := by simp
      have hgp : getP s.data.toList = if mayP ⟨a, b, c, R⟩ then (⟨a, b, c, R⟩, 0) else (zeroPt, 3) := by
        unfold getP
        rw [hgt.out]
        simp only [ne_eq, not_true_eq_false, if_false, hRl]
      have HBAD : Hid (¬ mayP ⟨a, b, c, R⟩ → ∀ W, Below w.heap.size w W → GetPost s w (.returned (.tuple #[.agg #[.int .i64 0, .int .i64 0, .int .i64 0, .string ⟨#[]⟩], .int .i64 3])) W) := fun hn W hW => by
        refine ⟨?_, hW⟩
        rw [hgp, if_neg hn]; rfl
      have HGOOD : Hid (mayP ⟨a, b, c, R⟩ → ∀ W, Below w.heap.size w W → GetPost s w (.returned (.tuple #[.agg #[.int .i64 a, .int .i64 b, .int .i64 c, .string R], .int .i64 0])) W) := fun hy W hW => by
        refine ⟨?_, hW⟩
        rw [hgp, if_pos hy]; rfl
      clear hgp
      by_cases hbig : 2147483647 < a ∨ 1024 < b ∨ 1024 < c
      · have hnm : Hid (¬ mayP ⟨a, b, c, R⟩) := by
          rintro ⟨⟨_, h1⟩, ⟨_, h2⟩, ⟨_, h3⟩, _, _⟩
          simp only at h1 h2 h3
          omega
        have hd : (decide (2147483647 < (a : Int)) = true) ∨ (decide (2147483647 < (a : Int)) = false ∧ decide (1024 < (b : Int)) = true) ∨ (decide (2147483647 < (a : Int)) = false ∧ decide (1024 < (b : Int)) = false ∧ decide (1024 < (c : Int)) = true) := by
          by_cases q1 : 2147483647 < a
          · exact .inl (by simp; omega)
          · by_cases q2 : 1024 < b
            · exact .inr (.inl ⟨by simp; omega, by simp; omega⟩)
            · exact .inr (.inr ⟨by simp; omega, by simp; omega, by simp; omega⟩)
        clear hbig
        rcases hd with q1 | ⟨q1, q2⟩ | ⟨q1, q2, q3⟩
        all_goals
          go_wp2_with fail
          obtain ⟨hbF, hbelF⟩ := set4 hbg.out hbel.out (.int .i64 0) (.int .i64 0) (.int .i64 0) (.string ⟨#[]⟩)
          have d0 := hbF.cell 0
          have d1 := hbF.cell 1
          have d2 := hbF.cell 2
          have d3 := hbF.cell 3
          simp at d0 d1 d2 d3
          generalize ((((wr.setCell ⟨g, 0, none⟩ (.int .i64 0)).setCell ⟨g, 1, none⟩ (.int .i64 0)).setCell ⟨g, 2, none⟩ (.int .i64 0)).setCell ⟨g, 3, none⟩ (.string ⟨#[]⟩)) = WF at *
          refine bodyPost_ret (v := .tuple #[.agg #[(.int .i64 0), (.int .i64 0), (.int .i64 0), (.string ⟨#[]⟩)], .int .i64 3]) (by simp [results, Try.results35, go_sem, d0, d1, d2, d3]) rfl ?_
          exact (HBAD.out hnm.out) _ (hgw.out ▸ hbelF)
      · have q1 : decide (2147483647 < (a : Int)) = false := by simp; omega
        have q2 : decide (1024 < (b : Int)) = false := by simp; omega
        have q3 : decide (1024 < (c : Int)) = false := by simp; omega
        have ha2 : a ≤ 2147483647 := by omega
        have hb2 : b ≤ 2147483647 := by omega
        have hc2 : c ≤ 2147483647 := by omega
        have hRsz := Lib.hid hRs
        clear hbig hRs
        obtain ⟨k9, hk9⟩ : ∃ k9, wr.heap.size = k9 := ⟨_, rfl⟩
        have hgk : g < k9 := by rw [← hk9]; exact hbg.out.lt
        have H9 : Hid (Below g w (wr.alloc (.cells #[.int .i64 a, .int .i64 b, .int .i64 c, .string R] 31)) ∧ Blk (wr.alloc (.cells #[.int .i64 a, .int .i64 b, .int .i64 c, .string R] 31)) g #[.int .i64 0, .int .i64 0, .int .i64 0, .string ⟨#[]⟩] 31 ∧ Blk (wr.alloc (.cells #[.int .i64 a, .int .i64 b, .int .i64 c, .string R] 31)) k9 #[.int .i64 a, .int .i64 b, .int .i64 c, .string R] 31) :=
          ⟨hbel.out.alloc (by omega) _, hbg.out.alloc _, hk9 ▸ Blk.new wr _ _⟩
        have hwf : Hid (Pt.wf ⟨a, b, c, R⟩) := by
          refine ⟨?_, ?_, ?_, ?_⟩
          · simp [Lit.wf, IntKind.min, IntKind.max, IntKind.signed, IntKind.bits]; omega
          · simp [Lit.wf, IntKind.min, IntKind.max, IntKind.signed, IntKind.bits]; omega
          · simp [Lit.wf, IntKind.min, IntKind.max, IntKind.signed, IntKind.bits]; omega
          · have := hRsz.out; unfold maxLen; simp only; omega
        have CM := Lib.hid (fun w => ref_may ⟨a, b, c, R⟩ w hwf.out)
        go_wp2_with fail
        refine (CM.out _).mono ?_
        rintro e w10 ⟨rfl, hb10⟩
        have H10 : Hid (Below g w w10 ∧ Blk w10 g #[.int .i64 0, .int .i64 0, .int .i64 0, .string ⟨#[]⟩] 31 ∧ Blk w10 k9 #[.int .i64 a, .int .i64 b, .int .i64 c, .string R] 31) :=
          ⟨H9.out.1.trans (hb10.mono (Nat.le_of_lt H9.out.2.1.lt)), Below.blk hb10 H9.out.2.1 H9.out.2.1.lt, Below.blk hb10 H9.out.2.2 H9.out.2.2.lt⟩
        clear hb10 H9 e0 e1 e2 e3 ff n0 n1 n2 fn hbg hbn hbel
        have e0 : w10.cell? ⟨g, 0, none⟩ = some (.int .i64 0) := H10.out.2.1.cell 0
        have e1 : w10.cell? ⟨g, 1, none⟩ = some (.int .i64 0) := H10.out.2.1.cell 1
        have e2 : w10.cell? ⟨g, 2, none⟩ = some (.int .i64 0) := H10.out.2.1.cell 2
        have e3 : w10.cell? ⟨g, 3, none⟩ = some (.string ⟨#[]⟩) := H10.out.2.1.cell 3
        have ff := H10.out.2.1.free
        have k0 : w10.cell? ⟨k9, 0, none⟩ = some (.int .i64 a) := H10.out.2.2.cell 0
        have k1 : w10.cell? ⟨k9, 1, none⟩ = some (.int .i64 b) := H10.out.2.2.cell 1
        have k2 : w10.cell? ⟨k9, 2, none⟩ = some (.int .i64 c) := H10.out.2.2.cell 2
        have k3 : w10.cell? ⟨k9, 3, none⟩ = some (.string R) := H10.out.2.2.cell 3
        by_cases hy : mayP ⟨a, b, c, R⟩
        · rw [decide_eq_true hy]
          have HY := Lib.hid hy
          clear hy
          go_wp2_with fail
          obtain ⟨hbF, hbelF⟩ := set4 H10.out.2.1 H10.out.1 (.int .i64 (a : Int)) (.int .i64 (b : Int)) (.int .i64 (c : Int)) (.string R)
          have d0 := hbF.cell 0
          have d1 := hbF.cell 1
          have d2 := hbF.cell 2
          have d3 := hbF.cell 3
          simp at d0 d1 d2 d3
          generalize ((((w10.setCell ⟨g, 0, none⟩ (.int .i64 (a : Int))).setCell ⟨g, 1, none⟩ (.int .i64 (b : Int))).setCell ⟨g, 2, none⟩ (.int .i64 (c : Int))).setCell ⟨g, 3, none⟩ (.string R)) = WF at *
          refine bodyPost_ret (v := .tuple #[.agg #[(.int .i64 (a : Int)), (.int .i64 (b : Int)), (.int .i64 (c : Int)), (.string R)], .int .i64 0]) (by simp [results, Try.results35, go_sem, d0, d1, d2, d3]) rfl ?_
          exact (HGOOD.out HY.out) _ (hgw.out ▸ hbelF)
        · rw [decide_eq_false hy]
          have HY := Lib.hid hy
          clear hy
          go_wp2_with fail
          obtain ⟨hbF, hbelF⟩ := set4 H10.out.2.1 H10.out.1 (.int .i64 0) (.int .i64 0) (.int .i64 0) (.string ⟨#[]⟩)
          have d0 := hbF.cell 0
          have d1 := hbF.cell 1
          have d2 := hbF.cell 2
          have d3 := hbF.cell 3
          simp at d0 d1 d2 d3
          generalize ((((w10.setCell ⟨g, 0, none⟩ (.int .i64 0)).setCell ⟨g, 1, none⟩ (.int .i64 0)).setCell ⟨g, 2, none⟩ (.int .i64 0)).setCell ⟨g, 3, none⟩ (.string ⟨#[]⟩)) = WF at *
          refine bodyPost_ret (v := .tuple #[.agg #[(.int .i64 0), (.int .i64 0), (.int .i64 0), (.string ⟨#[]⟩)], .int .i64 3]) (by simp [results, Try.results35, go_sem, d0, d1, d2, d3]) rfl ?_
          exact (HBAD.out HY.out) _ (hgw.out ▸ hbelF)
end Go.Proofs.Ytemfecdpjegocaa
