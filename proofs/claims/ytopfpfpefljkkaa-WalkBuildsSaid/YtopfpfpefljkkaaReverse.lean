/- slices.Reverse of bytes that the call itself made. -/
import Derived.Test.YtopfpfpefljkkaaFix
import Derived.RegionTactic
import Derived.ChangeAlike
namespace Go.Proofs.Ytopfpfpefljkkaa
open Go.RowKit
set_option linter.unusedVariables false

/-- i places turned from either end. -/
def RevAt (l l' : List UInt8) (i : Nat) : Prop := l'.length = l.length ∧ ∀ m, m < l.length → l'[m]? = if m < i ∨ l.length - i ≤ m then l[l.length - 1 - m]? else l[m]?
theorem RevAt.start (l : List UInt8) : RevAt l l 0 := ⟨rfl, fun m h => by rw [if_neg (by omega)]⟩
theorem RevAt.done {l l' : List UInt8} {i : Nat} (h : RevAt l l' i) (hi : l.length ≤ i + i + 1) : l' = l.reverse := by
  apply List.ext_getElem?
  intro m
  by_cases hm : m < l.length
  · rw [h.2 m hm, List.getElem?_reverse hm]
    split
    · rfl
    · rw [show l.length - 1 - m = m by omega]
  · rw [List.getElem?_eq_none (by rw [h.1]; omega), List.getElem?_eq_none (by simp; omega)]
theorem RevAt.step {l l' : List UInt8} {i j : Nat} (h : RevAt l l' i) (hj : j + i + 1 = l.length) (hij : i < j) (a b : UInt8) (ha : l'[i]? = some a) (hb : l'[j]? = some b) : RevAt l ((l'.set i b).set j a) (i + 1) := by
  refine ⟨by simp [h.1], fun m hm => ?_⟩
  have h1 := h.2 i (by omega)
  have h2 := h.2 j (by omega)
  rw [if_neg (by omega)] at h1 h2
  by_cases c : m = j
  · subst c
    rw [List.getElem?_set_self (by simp [h.1]; omega), if_pos (by omega), ← ha, h1]; congr 1; omega
  · rw [List.getElem?_set_ne (by omega)]
    by_cases d : m = i
    · subst d
      rw [List.getElem?_set_self (by rw [h.1]; omega), if_pos (by omega), ← hb, h2]; congr 1; omega
    · rw [List.getElem?_set_ne (by omega), h.2 m hm]
      by_cases e : m < i ∨ l.length - i ≤ m
      · rw [if_pos e, if_pos (by omega)]
      · rw [if_neg e, if_neg (by omega)]
theorem bcells_set (l : List UInt8) (i : Nat) (b : UInt8) : (bcells l).set i (.int .u8 (b.toNat : Int)) = bcells (l.set i b) := by simp [bcells]
theorem bcells_get (l : List UInt8) (i : Nat) (b : UInt8) (h : l[i]? = some b) : (bcells l)[i]? = some (.int .u8 (b.toNat : Int)) := by simp [bcells, h]

theorem grown_trans {u v w : World} {r : Option Nat} (h : u.grownBy v r) (k : v.grownBy w r) : u.grownBy w r :=
  ⟨k.os.trans h.os, k.tape.trans h.tape, k.output.trans h.output, Nat.le_trans h.size k.size, fun i hi hne => (k.block i (Nat.lt_of_lt_of_le hi h.size) hne).trans (h.block i hi hne)⟩
theorem grown_drew {u v : World} {r : Option Nat} (h : u.grownBy v r) : u.grownBy v.drew r := ⟨h.os, h.tape, h.output, h.size, h.block⟩

set_option maxRecDepth 100000 in
set_option maxHeartbeats 400000 in
theorem slices_reverse (B g : Nat) (l : List UInt8) (k : Nat) (w : World) (hk : k ≤ 140737488355328) (hl : l.length = k) (ho : OwnB w B 5 (.slice (some ⟨g, 0, none⟩) k k) l) :
    Calls Try.prog 63 #[.slice (some ⟨g, 0, none⟩) k k] w fun e w' => e = .returned (.tuple #[]) ∧ OwnB w' B 5 (.slice (some ⟨g, 0, none⟩) k k) l.reverse ∧ w.grownBy w' (some g) := by
  have H0 := RevAt.start l
  have HL := Lib.hid hl
  clear hl
  go_enter Try.func63, Try.ntmps63
  go_wp2_with fail
  go_loopw [2, 3] (fun iv jv wr => ∃ (i : Nat) (J : Int) (l' : List UInt8), iv = .int .i64 i ∧ jv = .int .i64 J ∧ J = (k : Int) - 1 - i ∧ i ≤ k ∧ RevAt l l' i ∧ OwnB wr B 5 (.slice (some ⟨g, 0, none⟩) k k) l' ∧ w.grownBy wr (some g)) (fun iv _ _ => k - (intOf iv).toNat)
  case atStart => exact ⟨0, _, l, rfl, rfl, by omega, by omega, H0, ho, World.grownBy.refl _ _⟩
  case round =>
    obtain ⟨i, J, l', rfl, rfl, hJ, hi, hr, hown, hg⟩ := hrel
    by_cases c : (i : Int) < J
    · obtain ⟨j, rfl⟩ : ∃ j : Nat, J = j := ⟨J.toNat, by omega⟩
      have hij : i < j := by omega
      have hjk : j < k := by omega
      have hl' : l'.length = k := hr.1.trans HL.out
      obtain ⟨a, ha⟩ : ∃ a, l'[i]? = some a := ⟨_, List.getElem?_eq_getElem (by omega)⟩
      obtain ⟨b, hb⟩ : ∃ b, l'[j]? = some b := ⟨_, List.getElem?_eq_getElem (by omega)⟩
      have hnx := Lib.hid (hr.step (by have := HL.out; omega) hij a b ha hb)
      unfold OwnB at hown
      rw [hl'] at hown
      have hci : wr.cell? ⟨g, i, none⟩ = some (.int .u8 (a.toNat : Int)) := by rw [hown.cellAt i (by omega), bcells_get _ _ _ ha]
      have hcj : wr.cell? ⟨g, j, none⟩ = some (.int .u8 (b.toNat : Int)) := by rw [hown.cellAt j (by omega), bcells_get _ _ _ hb]
      have hfi := hown.frozenAt i
      have hfj := hown.frozenAt j
      have hl'' := Lib.hid hl'
      have hJ' := Lib.hid hJ
      clear hJ hr hl' ha hb
      go_wp2_with fail
      go_region
      have s1 := hown.stored i (.int .u8 (b.toNat : Int))
      have s2 := s1.1.stored j (.int .u8 (a.toNat : Int))
      rw [bcells_set, bcells_set] at s2
      have s3 : OwnB ((wr.setCell ⟨g, i, none⟩ (.int .u8 (b.toNat : Int))).setCell ⟨g, j, none⟩ (.int .u8 (a.toNat : Int))).drew B 5 (.slice (some ⟨g, 0, none⟩) k k) ((l'.set i b).set j a) := by
        have := World.ownsRow.drew s2.1
        unfold OwnB
        rw [List.length_set, List.length_set, hl''.out]
        exact this
      have g3 : w.grownBy ((wr.setCell ⟨g, i, none⟩ (.int .u8 (b.toNat : Int))).setCell ⟨g, j, none⟩ (.int .u8 (a.toNat : Int))).drew (some g) := grown_drew (grown_trans (grown_trans hg s1.2) s2.2)
      have S3 := Lib.hid s3
      have G3 := Lib.hid g3
      clear s1 s2 s3 g3 hci hcj hfi hfj hown hg
      generalize ((wr.setCell ⟨g, i, none⟩ (.int .u8 (b.toNat : Int))).setCell ⟨g, j, none⟩ (.int .u8 (a.toNat : Int))).drew = W at *
      go_wp2_with fail
      go_roundw
      case rel => exact ⟨i + 1, (j : Int) - 1, _, by go_num, rfl, by have := hJ'.out; omega, by omega, hnx.out, S3.out, G3.out⟩
      case measure => simp [intOf]; omega
    · have hl' : l'.length = k := hr.1.trans HL.out
      have hd := hr.done (by have := HL.out; omega)
      subst hd
      go_wp2_with fail
      go_end0
      exact ⟨rfl, hown, hg⟩
end Go.Proofs.Ytopfpfpefljkkaa
