/- alive of hatchwaylaw05. -/
import Derived.Test.YtekcehicjggmiaaShaSum
import Derived.WalkLawsBesides
namespace Go.Proofs.Ytekcehicjggmiaa
open Go.RowKit Go.Shelf
set_option linter.unusedVariables false
set_option linter.unusedSimpArgs false

theorem sal1 (w : World) : ∃ l : List UInt8, l.length = 61 ∧ l[60]? = some 24 ∧ Calls Try.prog 19 #[.int .i64 3] w fun e w' => e = .returned (.tuple #[.string ⟨l.toArray⟩, .int .i64 0]) ∧ Below w.heap.size w w' :=
  ⟨padN 3, by decide +kernel, by decide +kernel, sha_pad 3 w (by decide)⟩
theorem sal2 (w : World) : ∃ l : List UInt8, l.length = 32 ∧ l.take 4 = [186, 120, 22, 191] ∧ Calls Try.prog 16 #[.string ⟨#[97, 98, 99]⟩] w fun e w' => e = .returned (.string ⟨l.toArray⟩) ∧ Below w.heap.size w w' :=
  ⟨sumN [97, 98, 99], by decide +kernel, by decide +kernel, sha_sum ⟨#[97, 98, 99]⟩ w (by decide)⟩

set_option maxRecDepth 100000 in
theorem sha_alive (w : World) : Calls Try.prog 15 #[] w fun e w' => e = .returned (.bool true) ∧ Below w.heap.size w w' := by
  obtain ⟨p, hp1, hp2, c1⟩ := sal1 w
  have C1 := Lib.hid c1
  clear c1
  go_enter Try.func15, Try.ntmps15
  go_wp2_with fail
  refine C1.out.mono ?_
  rintro e w1 ⟨rfl, hb1⟩
  obtain ⟨d, hd1, hd2, c2⟩ := sal2 w1
  have C2 := Lib.hid c2
  clear c2
  go_wp2_with fail
  refine C2.out.mono ?_
  rintro e w2 ⟨rfl, hb2⟩
  have s1 := size_mk p
  have s2 := size_mk d
  rw [hp1] at s1
  have HP1 := Lib.hid hp1
  rw [hd1] at s2
  have HP := Lib.hid hp2
  have HD := Lib.hid hd2
  clear hp2 hd2 hp1 hd1
  obtain ⟨PB, hPB⟩ : ∃ x : ByteArray, x = ⟨p.toArray⟩ := ⟨_, rfl⟩
  obtain ⟨DB, hDB⟩ : ∃ x : ByteArray, x = ⟨d.toArray⟩ := ⟨_, rfl⟩
  have q2 : (DB.extract 0 4) = ⟨#[186, 120, 22, 191]⟩ := by
    rw [hDB]; apply ByteArray.ext; apply Array.ext'
    rw [Lib.extract_data]
    exact HD.out
  rw [← hPB] at s1 ⊢
  have h60 : 60 < PB.size := by omega
  have q1 : PB[60] = 24 := by
    subst hPB
    exact (List.getElem_eq_iff (by have := HP1.out; simp; omega)).2 HP.out
  rw [← hDB] at s2 ⊢
  have HPB := Lib.hid hPB
  have HDB := Lib.hid hDB
  clear hPB hDB
  go_wp2_with fail
  go_returns
  exact ⟨rfl, hb1.trans (hb2.mono hb1.size)⟩
end Go.Proofs.Ytekcehicjggmiaa
