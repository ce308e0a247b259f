/- The walks of alive and CursorWhole. -/
import Derived.Test.YtknokfofjhlkeaaCursorMore
import Derived.Test.YtknokfofjhlkeaaRow
import Derived.Lib.Strings
namespace Go.Proofs.Ytknokfofjhlkeaa
open Go.RowKit
set_option linter.unusedVariables false

theorem u8w {x : Int} (h : (Lit.int .u8 x).wf = true) : 0 ≤ x ∧ x ≤ 255 := by
  simpa [Lit.wf, IntKind.min, IntKind.max, IntKind.signed, IntKind.bits] using h
theorem i64w {x : Int} (h : (Lit.int .i64 x).wf = true) : -9223372036854775808 ≤ x ∧ x ≤ 9223372036854775807 := by
  simpa [Lit.wf, IntKind.min, IntKind.max, IntKind.signed, IntKind.bits] using h

theorem ext_cat (s : ByteArray) (p m : Nat) : s.extract 0 p ++ s.extract p (p + m) = s.extract 0 (p + m) := by
  rw [ByteArray.extract_append_extract]; simp
theorem cursor_left' (b : Nat) (r : RS) (w : World) (hr : r.Ok) (hb : IsR w b r) :
    Calls Try.prog 27 #[.pointer (some ⟨b, 0, none⟩)] w (RPost b w r (.int .i64 ((r.t.size : Int) - r.p))) :=
  (cursor_left b r w hr hb).mono fun e w' ⟨he, k, hw⟩ => ⟨he, hw ▸ (Upd.refl b w).drewN k, hw ▸ hb⟩
theorem take_in {s : ByteArray} {p m : Nat} (h : p + m ≤ s.size) : RS.take ⟨s, p, 0⟩ m = (⟨s, p + m, 0⟩, s.extract p (p + m)) := by
  unfold RS.take; rw [if_pos rfl, if_neg (by omega), if_neg (by simp only []; omega)]; rfl

set_option maxRecDepth 100000 in
set_option maxHeartbeats 400000 in
theorem cursor_alive (w : World) : Calls Try.prog 25 #[] w fun e w' => e = .returned (.bool true) ∧ Below w.heap.size w w' := by
  have d1 := cursor_byte w.heap.size (RS.of ⟨#[97, 98, 99]⟩)
  have d2 := cursor_take w.heap.size ⟨⟨#[97, 98, 99]⟩, 1, 0⟩ 2
  have d3 := cursor_byte w.heap.size ⟨⟨#[97, 98, 99]⟩, 3, 0⟩
  rw [show RS.byte (RS.of ⟨#[97, 98, 99]⟩) = (⟨⟨#[97, 98, 99]⟩, 1, 0⟩, 97) from rfl] at d1
  rw [show RS.take ⟨⟨#[97, 98, 99]⟩, 1, 0⟩ 2 = (⟨⟨#[97, 98, 99]⟩, 3, 0⟩, ⟨#[98, 99]⟩) from rfl] at d2
  rw [show RS.byte ⟨⟨#[97, 98, 99]⟩, 3, 0⟩ = (⟨⟨#[97, 98, 99]⟩, 3, 2⟩, 0) from rfl] at d3
  have o1 : (RS.of ⟨#[97, 98, 99]⟩).Ok := ⟨by decide, by decide⟩
  have o2 : (RS.mk ⟨#[97, 98, 99]⟩ 1 0).Ok := ⟨by decide, by decide⟩
  have o3 : (RS.mk ⟨#[97, 98, 99]⟩ 3 0).Ok := ⟨by decide, by decide⟩
  have D1 := Lib.hid d1
  have D2 := Lib.hid d2
  have D3 := Lib.hid d3
  clear d1 d2 d3
  go_enter Try.func25, Try.ntmps25
  go_wp2_with fail
  refine (cursor_read _ _).mono ?_
  rintro e w1 ⟨rfl, hb, hsz, hR⟩
  go_wp2_with fail
  refine (D1.out _ o1 hR).mono ?_
  rintro e w2 ⟨rfl, u1, h2⟩
  go_wp2_with fail
  refine (D2.out _ o2 h2).mono ?_
  rintro e w3 ⟨rfl, u2, h3⟩
  go_wp2_with fail
  refine (D3.out _ o3 h3).mono ?_
  rintro e w4 ⟨rfl, u3, h4⟩
  go_wp2_with fail
  refine (cursor_fault w.heap.size _ _ h4).mono ?_
  rintro e w' ⟨rfl, rfl⟩
  simp only []
  go_wp2_with fail
  go_returns
  exact ⟨rfl, ((u1.trans u2).trans u3).below hb (Nat.le_refl _) (by omega)⟩

set_option maxRecDepth 100000 in
set_option maxHeartbeats 1000000 in
theorem cursor_whole (s : ByteArray) (ao : Option Addr) (len cap : Nat) (zs : List Int) (w : World) (hs : s.size ≤ maxLen) (hrow : IsRow .u8 w ao len cap zs) :
    Calls Try.prog 7 #[.string s, .slice ao len cap] w fun e w' => e = .returned (.bool true) ∧ Below w.heap.size w w' := by
  have hlen0 := hrow.len_le.1
  unfold maxLen at hlen0 hs
  by_cases hl : 1000 < s.size
  · go_enter Try.func7, Try.ntmps7
    go_wp2_with fail
    refine (cursor_alive _).mono ?_
    rintro e w1 ⟨rfl, hb⟩
    go_wp2_with fail
    go_returns
    exact ⟨rfl, hb⟩
  have hl' : decide ((1000 : Int) < s.size) = false := by simp; omega
  by_cases hlen : 100 < len
  · go_enter Try.func7, Try.ntmps7
    go_wp2_with fail
    refine (cursor_alive _).mono ?_
    rintro e w1 ⟨rfl, hb⟩
    go_wp2_with fail
    go_returns
    exact ⟨rfl, hb⟩
  have hlen' : decide ((100 : Int) < len) = false := by simp; omega
  go_enter Try.func7, Try.ntmps7
  go_wp2_with fail
  refine (cursor_alive _).mono ?_
  rintro e w1 ⟨rfl, hb⟩
  go_wp2_with fail
  refine (cursor_read _ _).mono ?_
  rintro e w2 ⟨rfl, hb2, hsz, hR⟩
  have hsz1 := hb.size
  have hB2 : Below w.heap.size w w2 := hb.trans (hb2.mono hb.size)
  go_wp2_with fail
  generalize w1.heap.size = br at *
  clear hb2 hb
  go_loopw [6, 7] (fun av iv wr => ∃ (k p : Nat) (a : ByteArray), iv = .int .i64 k ∧ k ≤ len ∧ av = .string a ∧ p ≤ s.size ∧ Hid (a = s.extract 0 p) ∧ IsR wr br ⟨s, p, 0⟩ ∧ Below w.heap.size w wr) (fun _ iv _ => len - (intOf iv).toNat)
  case atStart => exact ⟨0, 0, _, rfl, by omega, rfl, by omega, by unfold Hid; apply ByteArray.ext; simp, hR, hB2⟩
  case round =>
    obtain ⟨k, p, a, rfl, hk, rfl, hp, ha, hI, hB⟩ := hrel
    have hwr := hB.size
    have hok : (RS.mk s p 0).Ok := ⟨hp, by simp only []; omega⟩
    have hasz : a.size ≤ 1000 := by rw [ha.out, ByteArray.size_extract]; omega
    by_cases hlt : k < len
    · obtain ⟨b, off, hao, hbl, hc, hz⟩ := hrow.at_ hlt
      subst hao
      generalize zs.getD k 0 = z at hc hz
      obtain ⟨hz0, hz1⟩ := u8w hz
      have hc' : wr.cell? ⟨b, off + k, none⟩ = some (.int .u8 z) := (hB.cell (p := ⟨b, off + k, none⟩) hbl).trans hc
      clear hz hc
      obtain ⟨m, hm⟩ : ∃ m : Nat, (m : Int) = if (s.size : Int) - p < z then (s.size : Int) - p else z := ⟨(if (s.size : Int) - p < z then (s.size : Int) - p else z).toNat, by split <;> omega⟩
      have hpm : p + m ≤ s.size := by split at hm <;> omega
      obtain ⟨c, hcc⟩ : ∃ c, a ++ s.extract p (p + m) = c := ⟨_, rfl⟩
      have hcE : Hid (c = s.extract 0 (p + m)) := by unfold Hid; rw [← hcc, ha.out, ext_cat]
      have hcs : c.size = p + m := by rw [hcE.out, ByteArray.size_extract]; omega
      have hxs : (s.extract p (p + m)).size ≤ 1000 := by rw [ByteArray.size_extract]; omega
      have ct := fun w h => cursor_take br ⟨s, p, 0⟩ m w hok h
      rw [take_in hpm] at ct
      have CT := Lib.hid ct
      clear ct
      by_cases hgt : (s.size : Int) - p < z
      · rw [if_pos hgt] at hm
        have HM := Lib.hid hm
        clear hm
        go_wp2_with fail
        refine (cursor_left' br ⟨s, p, 0⟩ _ hok hI).mono ?_
        rintro e w3 ⟨rfl, u3, hI3⟩
        simp only []
        go_wp2_with fail
        refine (cursor_left' br ⟨s, p, 0⟩ _ hok hI3).mono ?_
        rintro e w5 ⟨rfl, u5, hI5⟩
        simp only []
        rw [← HM.out]
        go_wp2_with fail
        refine (CT.out _ hI5).mono ?_
        rintro e w4 ⟨rfl, hu, hI4⟩
        simp only []
        go_wp2_with fail
        refine (cursor_at br _ _ hI4).mono ?_
        rintro e w' ⟨rfl, rfl⟩
        simp only []
        go_wp2_with fail
        go_roundw
        case rel => exact ⟨k + 1, p + m, c, by go_num, by omega, rfl, hpm, hcE, hI4, ((u3.trans u5).trans hu).below hB (by omega) hwr⟩
        case measure => simp [intOf]; omega
      · have hgt' : decide ((s.size : Int) - p < z) = false := by simp; omega
        rw [if_neg hgt] at hm
        subst hm
        clear hgt
        go_wp2_with fail
        refine (cursor_left' br ⟨s, p, 0⟩ _ hok hI).mono ?_
        rintro e w5 ⟨rfl, u5, hI5⟩
        simp only []
        go_wp2_with fail
        refine (CT.out _ hI5).mono ?_
        rintro e w4 ⟨rfl, hu, hI4⟩
        simp only []
        go_wp2_with fail
        refine (cursor_at br _ _ hI4).mono ?_
        rintro e w' ⟨rfl, rfl⟩
        simp only []
        go_wp2_with fail
        go_roundw
        case rel => exact ⟨k + 1, p + m, c, by go_num, by omega, rfl, hpm, hcE, hI4, (u5.trans hu).below hB (by omega) hwr⟩
        case measure => simp [intOf]; omega
    · have ct := fun w h => cursor_all br ⟨s, p, 0⟩ w hok h
      obtain ⟨m, hm⟩ : ∃ m, p + m = s.size := ⟨s.size - p, by omega⟩
      have hmi : ((s.size : Int) - p) = (m : Int) := by omega
      simp only [hmi] at ct
      rw [take_in (by omega)] at ct
      have hcat : a ++ s.extract p (p + m) = s := by
        rw [ha.out, ext_cat, hm, ByteArray.extract_zero_size]
      have hxs : (s.extract p (p + m)).size ≤ 1000 := by rw [ByteArray.size_extract]; omega
      have CT := Lib.hid ct
      have cl := fun w h => cursor_left' br ⟨s, p + m, 0⟩ w ⟨by simp only []; omega, by simp only []; omega⟩ h
      have hz0 : ((s.size : Int) - ((p + m : Nat) : Int)) = 0 := by omega
      simp only [hz0] at cl
      have CL := Lib.hid cl
      clear ct cl hm hmi hz0
      go_wp2_with fail
      refine (CT.out _ hI).mono ?_
      rintro e w3 ⟨rfl, u3, hI3⟩
      simp only []
      go_wp2_with fail
      refine (CL.out _ hI3).mono ?_
      rintro e w4 ⟨rfl, u4, hI4⟩
      go_wp2_with fail
      refine (cursor_fault br _ _ hI4).mono ?_
      rintro e w' ⟨rfl, rfl⟩
      simp only []
      go_wp2_with fail
      go_returns
      exact ⟨rfl, (u3.trans u4).below hB (by omega) hwr⟩
end Go.Proofs.Ytknokfofjhlkeaa
