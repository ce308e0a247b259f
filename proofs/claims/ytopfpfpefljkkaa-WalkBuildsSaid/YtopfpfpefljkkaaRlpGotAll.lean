/- The document's read, Next, Get. -/
import Derived.Test.YtopfpfpefljkkaaRlpGotF
import Derived.Test.YtopfpfpefljkkaaRlpGotT
namespace Go.Proofs.Ytopfpfpefljkkaa
open Go.RowKit
set_option linter.unusedVariables false
set_option linter.unusedSimpArgs false

set_option maxRecDepth 100000 in
set_option maxHeartbeats 8000000 in
theorem ref_read (depth items : Int) (K M : Nat) (hK : (min depth 16).toNat = K) (hM : (min items 1024).toNat = M) : ∀ (k : Nat) (s : ByteArray) (d a : Nat) (w : World), s.size ≤ 100000 → 1 ≤ d → d ≤ 17 → a ≤ 1024 → K + 1 - d = k →
    Calls Try.prog 37 #[.string s, .int .i64 d, .int .i64 a, .int .i64 depth, .int .i64 items] w (GotPost (rdI k s.data.toList (M - a)) (M - a) w) := by
  intro k
  induction k with
  | zero => exact fun s d a w hs hd1 hd17 ha hk => ref_read_deep depth items K M hK hM s d a w hs hd1 hd17 ha hk
  | succ k ih =>
    intro s d a w hs hd1 hd17 ha hk
    obtain ⟨R, hR⟩ : ∃ R, rdI (k + 1) s.data.toList (M - a) = R := ⟨_, rfl⟩
    obtain ⟨POST, hP⟩ : ∃ P0, GotPost R (M - a) w = P0 := ⟨_, rfl⟩
    have HR := Lib.hid hR
    have HP := Lib.hid hP
    rw [hR, hP]
    obtain ⟨g, hg⟩ : ∃ g, w.heap.size = g := ⟨_, rfl⟩
    obtain ⟨wa, hwa⟩ : ∃ wa, w.alloc (.cells #[.string ⟨#[]⟩, .bool false, .slice none 0 0, .int .i64 0, .int .i64 0, .int .i64 0] GT) = wa := ⟨_, rfl⟩
    obtain ⟨hba, hbea, hsa⟩ := got_ini hg hwa
    have HBA := Lib.hid hba
    have HBE := Lib.hid hbea
    have HPUT := Lib.hid (got_put hba hbea)
    obtain ⟨c0, c1, c2, c3, c4, c5⟩ := blk6 (show Blk wa g #[_, _, _, _, _, _] GT from hba)
    obtain ⟨z0, z1, z2, z3, z4, z5⟩ := free6 hba
    clear hR hP hba hbea
    by_cases h0 : s.size = 0
    · have e : s = ⟨#[]⟩ := bext (List.length_eq_zero_iff.1 (by simpa using h0))
      subst e
      have hRE : Hid (R = .error 2) := Lib.hid (by rw [← HR.out]; exact rdI_nil)
      clear HR ih
      go_enter Try.func37, Try.ntmps37
      go_wp2_with fail
      rw [put6_eq]
      obtain ⟨hblk6, hbel6⟩ := HPUT.out (.string ⟨#[]⟩) (.bool false) (.slice none 0 0) (.int .i64 0) (.int .i64 0) (.int .i64 2)
      obtain ⟨d0, d1, d2, d3, d4, d5⟩ := blk6 hblk6
      have HB6 := Lib.hid hbel6
      clear hblk6 hbel6
      refine bodyPost_ret (v := .agg #[.string ⟨#[]⟩, .bool false, .slice none 0 0, .int .i64 0, .int .i64 0, .int .i64 2]) (by simp [results, Try.results37, go_sem, d0, d1, d2, d3, d4, d5]) rfl ?_
      rw [← HP.out, hRE.out]
      exact got_err (hg.symm ▸ HB6.out)
    have hp : 0 < s.size := by omega
    have hne : s.data.toList ≠ [] := fun h => h0 (by have := congrArg List.length h; simpa using this)
    have hie := isEmpty_no' s (by omega)
    have hdd : (d : Int) ≤ depth := by omega
    have hd16 : d ≤ 16 := by omega
    by_cases hm : M - a = 0
    · have hRE : Hid (R = .error 4) := Lib.hid (by rw [← HR.out, hm]; exact rdI_many hne)
      by_cases h1 : items < (a : Int) + 1
      · clear hne h0 HR hK hM hk hm ih
        go_enter Try.func37, Try.ntmps37
        go_wp2_with fail
        rw [put6_eq]
        obtain ⟨hblk6, hbel6⟩ := HPUT.out (.string ⟨#[]⟩) (.bool false) (.slice none 0 0) (.int .i64 0) (.int .i64 0) (.int .i64 4)
        obtain ⟨d0, d1, d2, d3, d4, d5⟩ := blk6 hblk6
        have HB6 := Lib.hid hbel6
        clear hblk6 hbel6
        refine bodyPost_ret (v := .agg #[.string ⟨#[]⟩, .bool false, .slice none 0 0, .int .i64 0, .int .i64 0, .int .i64 4]) (by simp [results, Try.results37, go_sem, d0, d1, d2, d3, d4, d5]) rfl ?_
        rw [← HP.out, hRE.out]
        exact got_err (hg.symm ▸ HB6.out)
      · have h2 : 1024 < a + 1 := by omega
        have h3 : (a : Int) + 1 ≤ items := by omega
        clear hne h0 HR hK hM hk hm ih h1
        go_enter Try.func37, Try.ntmps37
        go_wp2_with fail
        rw [put6_eq]
        obtain ⟨hblk6, hbel6⟩ := HPUT.out (.string ⟨#[]⟩) (.bool false) (.slice none 0 0) (.int .i64 0) (.int .i64 0) (.int .i64 4)
        obtain ⟨d0, d1, d2, d3, d4, d5⟩ := blk6 hblk6
        have HB6 := Lib.hid hbel6
        clear hblk6 hbel6
        refine bodyPost_ret (v := .agg #[.string ⟨#[]⟩, .bool false, .slice none 0 0, .int .i64 0, .int .i64 0, .int .i64 4]) (by simp [results, Try.results37, go_sem, d0, d1, d2, d3, d4, d5]) rfl ?_
        rw [← HP.out, hRE.out]
        exact got_err (hg.symm ▸ HB6.out)
    obtain ⟨m, hm1⟩ : ∃ m, M - a = m + 1 := ⟨M - a - 1, by omega⟩
    have hit : (a : Int) + 1 ≤ items := by omega
    have hi1024 : a + 1 ≤ 1024 := by omega
    rw [hm1] at HR HP
    have HRH : Hid (∀ er, hd s.data.toList = .error er → R = .error er) := Lib.hid fun er h => by rw [← HR.out]; exact rdI_head hne h
    have HRT : Hid (∀ z n, hd s.data.toList = .ok (false, z, n) → R = .ok (.node ⟨(s.data.toList.drop z).take n, false⟩ [], z + n, m)) := Lib.hid fun z n h => by rw [← HR.out]; exact rdI_text hne h
    have HRL : Hid (∀ z n, hd s.data.toList = .ok (true, z, n) → R = match rdS k ((s.data.toList.drop z).take n) m [] with
        | .error e => .error e
        | .ok y => .ok (.node ⟨[], true⟩ y.1, z + n, y.2)) := Lib.hid fun z n h => by rw [← HR.out]; exact rdI_list hne h (hd_inv h).1
    have HMA := Lib.hid hm1
    have HK := Lib.hid hk
    have HM1 : Hid (M ≤ 1024) := Lib.hid (by omega)
    have IH := Lib.hid ih
    clear hm hK hM hk hne ih h0
    have hb2 : s[0].toNat ≤ 255 := by have := s[0].toNat_lt; omega
    have hlen : s.data.toList.length = s.size := by simp
    by_cases hb : s[0].toNat < 128
    · have hhd : hd s.data.toList = .ok (false, 0, 1) := by rw [toList_cons' s hp]; simp only [hd]; rw [if_pos hb]
      have hRE := Lib.hid (HRT.out _ _ hhd)
      have hT : Hid (s.extract 0 1 = txt ⟨(s.data.toList.drop 0).take 1, false⟩) := Lib.hid (by rw [take1 s hp]; rfl)
      clear hhd HR HRH HRT HRL
      go_enter Try.func37, Try.ntmps37
      go_wp2_with fail
      rw [put6_eq]
      obtain ⟨hblk6, hbel6⟩ := HPUT.out (.string (s.extract 0 1)) (.bool false) (.slice none 0 0) (.int .i64 1) (.int .i64 1) (.int .i64 0)
      obtain ⟨d0, d1, d2, d3, d4, d5⟩ := blk6 hblk6
      have HB6 := Lib.hid hbel6
      clear hblk6 hbel6
      refine bodyPost_ret (v := .agg #[.string (s.extract 0 1), .bool false, .slice none 0 0, .int .i64 1, .int .i64 1, .int .i64 0]) (by simp [results, Try.results37, go_sem, d0, d1, d2, d3, d4, d5]) rfl ?_
      rw [← HP.out, hRE.out]
      exact got_text hT.out (by omega) (hg.symm ▸ HB6.out)
    cases hL : decide (192 ≤ s[0].toNat) with
    | true => exact HP.out ▸ got_true depth items s d a m k w R hs hp (by omega) hL hdd hd16 hd1 hit hi1024 HRH.out HRL.out K M HM1.out HK.out HMA.out IH.out
    | false => exact HP.out ▸ got_false depth items s d a m w R hs hp (by omega) hL hdd hd16 hd1 hit hi1024 HRH.out HRT.out

end Go.Proofs.Ytopfpfpefljkkaa
