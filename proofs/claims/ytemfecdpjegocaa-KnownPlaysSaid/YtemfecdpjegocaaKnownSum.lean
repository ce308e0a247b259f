/- known: the sum at a place of the row; the row as texts. -/
import Derived.Test.YtemfecdpjegocaaPull
import Derived.Test.YtemfecdpjegocaaKnownAsk
namespace Go.Proofs.Ytemfecdpjegocaa
open Go.RowKit
set_option linter.unusedVariables false
set_option linter.unusedSimpArgs false

theorem Chain.get {w : World} {p : Option Nat} {R : List (Nat × List UInt8)} (h : Chain w p R) {k : Nat} (hk : k < R.length) : Blk w R[k].1 (nodeC (lastOr p (R.take k)) R[k].2 (hd? (R.drop (k + 1)))) 104 := by
  have e : R = R.take k ++ R[k] :: R.drop (k + 1) := by rw [← List.drop_eq_getElem_cons hk, List.take_append_drop]
  rw [e] at h
  exact (chain_app.1 h).2.1
/-- What Sum answers. -/
def SumAns (R : List (Nat × List UInt8)) (i : Int) (T : ByteArray) (b : Bool) : Prop :=
  (∃ k : Nat, ∃ h : k < R.length, i = k ∧ T = ⟨R[k].2.toArray⟩ ∧ b = true) ∨ ((i < 0 ∨ (R.length : Int) ≤ i) ∧ T = ⟨#[]⟩ ∧ b = false)

def SumPost (R : List (Nat × List UInt8)) (i : Int) (w : World) (en : Ending) (w' : World) : Prop := ∃ T b, en = .returned (.tuple #[.string T, .bool b]) ∧ SumAns R i T b ∧ w' = w

set_option maxRecDepth 100000 in
set_option maxHeartbeats 1000000 in
theorem known_sum {bs bm n room : Nat} {w : World} {R : List (Nat × List UInt8)} (h : SetAt bs bm n room w R) (hl : R.length ≤ 100000) (i : Int) :
    Calls Try.prog 25 #[.pointer (some ⟨bs, 0, none⟩), .int .i64 i] w (SumPost R i w) := by
  have c1 : w.cell? ⟨bs, 1, none⟩ = some (.map (some bm)) := h.row.bd.cell 1
  have c2 : w.cell? ⟨bs, 2, none⟩ = some (pv (hd? R)) := h.row.bd.cell 2
  have hln : ∀ ty, (Builtin.len_ #[98] ty #[.map (some bm)]).run Try.prog w = .ok (.int .i64 (R.length : Nat)) w := fun ty => h.mp.len lnk_types ty
  have H := Lib.hid h
  clear h
  by_cases hn : i < 0
  · have d1 : decide (i < 0) = true := by simp; exact hn
    clear c2
    go_enter Try.func25, Try.ntmps25
    go_wp2_with fail
    go_returns
    exact ⟨_, _, rfl, .inr ⟨.inl hn, rfl, rfl⟩, rfl⟩
  · obtain ⟨m, rfl⟩ : ∃ m : Nat, i = m := ⟨i.toNat, by omega⟩
    have d1 : decide ((m : Int) < 0) = false := by simp
    by_cases hb : m < R.length
    · have d2 : decide ((R.length : Int) ≤ (m : Int)) = false := by simp; omega
      have hbl := Lib.hid hb
      go_enter Try.func25, Try.ntmps25
      go_wp2_with fail
      go_loopw [6, 27] (fun pv' iv wi => ∃ k : Nat, iv = .int .i64 k ∧ k ≤ m ∧ pv' = pv (hd? (R.drop k)) ∧ wi = w) (fun _ iv _ => m - (intOf iv).toNat)
      case atStart => exact ⟨0, rfl, by omega, rfl, rfl⟩
      case round =>
        obtain ⟨k, rfl, hk, rfl, rfl⟩ := hrel
        have hkl : k < R.length := by omega
        have hbk := H.out.row.ch.get hkl
        have ehd : hd? (R.drop k) = some R[k].1 := by rw [List.drop_eq_getElem_cons hkl]; rfl
        have l2 : wr.cell? ⟨R[k].1, 2, none⟩ = some (pv (hd? (R.drop (k + 1)))) := hbk.cell 2
        have l0 : wr.cell? ⟨R[k].1, 0, none⟩ = some (.string ⟨R[k].2.toArray⟩) := hbk.cell 0
        rw [ehd]
        simp only [pv, Option.map_some] at *
        have hk2 : Hid (pv (hd? (R.drop (k + 1))) = pv (hd? (R.drop (k + 1)))) := rfl
        clear hbk ehd
        by_cases c : k < m
        · generalize R[k].1 = b at *
          clear l0
          go_wp2_with fail
          go_roundw
          case rel => exact ⟨k + 1, by go_num, by omega, by first | rfl | trivial, by first | rfl | trivial⟩
          case measure => simp [intOf]; omega
        · obtain rfl : k = m := by omega
          have hfin : Hid (SumAns R (k : Int) ⟨R[k].2.toArray⟩ true) := .inl ⟨k, hkl, rfl, rfl, rfl⟩
          generalize R[k].1 = b at *
          generalize (⟨R[k].2.toArray⟩ : ByteArray) = T at *
          go_wp2_with fail
          go_returns
          exact ⟨_, _, rfl, hfin.out, rfl⟩
    · have d2 : decide ((R.length : Int) ≤ (m : Int)) = true := by simp; omega
      have hb' : (R.length : Int) ≤ m := by omega
      have hfin : Hid (SumAns R (m : Int) ⟨#[]⟩ false) := .inr ⟨.inr hb', rfl, rfl⟩
      have hb2 : R.length ≤ m := by omega
      clear hb hb'
      go_enter Try.func25, Try.ntmps25
      go_wp2_with fail
      go_returns
      exact ⟨_, _, rfl, hfin.out, rfl⟩

/-- The sums of a row. -/
def sumsR (R : List (Nat × List UInt8)) : List ByteArray := R.map fun x => ⟨x.2.toArray⟩
theorem sumsR_len (R : List (Nat × List UInt8)) : (sumsR R).length = R.length := by simp [sumsR]

set_option maxRecDepth 100000 in
set_option maxHeartbeats 1000000 in
theorem law_row {bs bm n room : Nat} {w : World} {R : List (Nat × List UInt8)} (h : SetAt bs bm n room w R) (hl : R.length ≤ 100000) :
    Calls Try.prog 29 #[.pointer (some ⟨bs, 0, none⟩)] w fun en w' => ∃ v, en = .returned v ∧ RS w' v (sumsR R) ∧ Below w.heap.size w w' := by
  have H := Lib.hid h
  clear h
  obtain ⟨B, hB⟩ : ∃ B, w.heap.size = B := ⟨_, rfl⟩
  rw [hB]
  go_enter Try.func29, Try.ntmps29
  go_wp2_with fail
  go_loopw [3, 4] (fun av iv wi => ∃ (k : Nat) (acc : List ByteArray), iv = .int .i64 k ∧ k ≤ R.length ∧ Hid (acc = (sumsR R).take k) ∧ Hid (OwnS wi B 9 av acc) ∧ Hid (Below B w wi)) (fun _ iv _ => R.length - (intOf iv).toNat)
  case atStart => exact ⟨0, [], rfl, by omega, rfl, OwnS.nil _ _ _, Below.refl _ _⟩
  case round =>
    obtain ⟨k, acc, rfl, hk, hacc, hown, hb⟩ := hrel
    have hset : Hid (SetAt bs bm n room wr R) := H.out.below (hB ▸ hb.out)
    have hBr : B ≤ wr.heap.size := by have := hb.out.size; omega
    obtain ⟨ao, cap, hv⟩ := hown.out.rs.slice
    subst hv
    have hal : acc.length + 1 ≤ 1000000 := by rw [hacc.out, List.length_take, sumsR_len]; omega
    by_cases c : k < R.length
    · go_wp2_with fail
      refine (known_len hset.out).mono ?_
      rintro e w1 ⟨rfl, rfl⟩
      go_wp2_with fail
      refine (known_sum hset.out hl (k : Int)).mono ?_
      rintro e w2 ⟨T, b, rfl, ha, rfl⟩
      obtain ⟨rfl, hT⟩ : b = true ∧ T = ⟨R[k].2.toArray⟩ := by
        rcases ha with ⟨k', hk', he, h1, h2⟩ | ⟨h1, _⟩
        · obtain rfl : k = k' := by omega
          exact ⟨h2, h1⟩
        · omega
      have hto : Hid (acc ++ [T] = (sumsR R).take (k + 1)) := by
        unfold Hid
        rw [List.take_succ_eq_append_getElem (by rw [sumsR_len]; exact c), hacc.out]
        simp [sumsR, hT]
      clear ha hT
      go_wp2_with (at_builtin; refine append_strs strs_types rfl (.tmp 21) (.tmp 23) rfl B _ acc [T] 1 rfl w2 _ rfl rfl hown.out rfl hal hBr ?_; intro v' w' hown' hb' hsz')
      go_roundw
      case rel => exact ⟨k + 1, acc ++ [T], by go_num, by omega, hto, hown', hb.out.trans hb'⟩
      case measure => simp [intOf]; omega
    · obtain rfl : k = R.length := by omega
      have hfull : Hid (acc = sumsR R) := by unfold Hid; rw [hacc.out, List.take_of_length_le (by rw [sumsR_len]; omega)]
      go_wp2_with fail
      refine (known_len hset.out).mono ?_
      rintro e w1 ⟨rfl, rfl⟩
      go_wp2_with fail
      go_returns
      exact ⟨_, rfl, hfull.out ▸ hown.out.rs, hb.out⟩
end Go.Proofs.Ytemfecdpjegocaa
