/- leb.Read and the document's Read. -/
import Derived.Test.YtemfecdpjegocaaLebNext
import Derived.Test.YtemfecdpjegocaaLebRefNext
import Derived.Test.YtemfecdpjegocaaLebLaws
import Derived.Test.YtemfecdpjegocaaCursorMore
import Derived.Test.YtemfecdpjegocaaRef01
import Derived.Lib.Strings
namespace Go.Proofs.Ytemfecdpjegocaa
open Go.RowKit
set_option linter.unusedVariables false

theorem lebNext_ten : ∀ (l : List UInt8) (i n : Nat), i ≤ 9 → lebNext (l.take (10 - i)) i n = lebNext l i n
  | [], i, n, h => by simp
  | b :: r, i, n, h => by
    rw [show 10 - i = (9 - i) + 1 by omega, List.take_succ_cons, lebNext, lebNext]
    split
    · rfl
    · split
      · rfl
      · rename_i h1 h2
        have : i ≤ 8 := by omega
        have ih := lebNext_ten r (i + 1) (n + b.toNat % 128 * 128 ^ i) (by omega)
        rw [show 10 - (i + 1) = 9 - i by omega] at ih
        exact ih

/-- The error of a number that was read, against a most. -/
def lebErr (t : Nat × Nat × Nat) (most : Nat) : Nat := if t.2.2 = 0 ∧ most < t.1 then 5 else t.2.2
def RS.leb (r : RS) (most : Nat) : RS × Nat :=
  if r.f = 0 then
    (fun t : Nat × Nat × Nat => if lebErr t most = 0 then ((⟨r.t, r.p + t.2.1, 0⟩ : RS), t.1) else (⟨r.t, r.p, lebErr t most⟩, 0)) (lebNext (r.t.data.toList.drop r.p) 0 0)
  else (r, 0)

theorem leb_size_le {t : ByteArray} {p n k : Nat} (h : lebNext (t.data.toList.drop p) 0 0 = (n, k, 0)) (hp : p ≤ t.size) : p + k ≤ t.size := by
  have h1 := (lebNext_ok h).1
  rw [List.length_drop] at h1
  have : t.data.toList.length = t.size := by simp
  omega
theorem RS.Ok.leb {r : RS} (h : r.Ok) (most : Nat) : (r.leb most).1.Ok := by
  obtain ⟨h1, h2⟩ := h
  unfold RS.leb
  split
  · generalize ht : lebNext (r.t.data.toList.drop r.p) 0 0 = t
    obtain ⟨n, k, e⟩ := t
    simp only []
    split
    · rename_i hf he
      have he0 : e = 0 := by unfold lebErr at he; simp only at he; split at he <;> omega
      subst he0
      exact ⟨leb_size_le ht h1, h2⟩
    · exact ⟨h1, h2⟩
  · exact ⟨h1, h2⟩
theorem leb_t (r : RS) (most : Nat) : (r.leb most).1.t = r.t := by
  unfold RS.leb
  split
  · generalize lebNext (r.t.data.toList.drop r.p) 0 0 = t
    simp only []
    split <;> rfl
  · rfl

set_option maxRecDepth 100000 in
set_option maxHeartbeats 1000000 in
theorem leb_read (b : Nat) (r : RS) (most : Nat) (w : World) (hr : r.Ok) (hb : IsR w b r) (hm : most < 18446744073709551616) :
    Calls Try.prog 55 #[.pointer (some ⟨b, 0, none⟩), .int .u64 most] w (RPost b w (r.leb most).1 (.int .u64 (r.leb most).2)) := by
  obtain ⟨t, p, f⟩ := r
  obtain ⟨h1, h2⟩ := hr
  simp only at h1 h2
  have cf := Lib.hid (cursor_fault b ⟨t, p, f⟩ w hb)
  by_cases hf : f = 0
  · subst hf
    have ca := Lib.hid (cursor_ahead b ⟨t, p, 0⟩ 10 w ⟨h1, h2⟩ hb)
    have ea : RS.ahead ⟨t, p, 0⟩ 10 = t.extract p (p + min 10 (t.size - p)) := by unfold RS.ahead; rw [if_pos rfl, if_pos (by decide)]; rfl
    have cn := fun w => leb_next (t.extract p (p + min 10 (t.size - p))) w (by unfold maxLen; rw [ByteArray.size_extract]; omega)
    have en : lebNext (t.extract p (p + min 10 (t.size - p))).data.toList 0 0 = lebNext (t.data.toList.drop p) 0 0 := by
      rw [Lib.extract_data, ← lebNext_ten (t.data.toList.drop p) 0 0 (by omega)]
      congr 1
      rw [show p + min 10 (t.size - p) - p = min 10 (t.size - p) by omega]
      by_cases h10 : 10 ≤ t.size - p
      · rw [Nat.min_eq_left h10]
      · have hl : (t.data.toList.drop p).length ≤ t.size - p := by rw [List.length_drop]; simp
        rw [Nat.min_eq_right (by omega), List.take_of_length_le hl, List.take_of_length_le (by omega)]
    rw [en] at cn
    rw [ea] at ca
    generalize t.extract p (p + min 10 (t.size - p)) = x at *
    have el : ∀ T, lebNext (t.data.toList.drop p) 0 0 = T → RS.leb ⟨t, p, 0⟩ most = if lebErr T most = 0 then ((⟨t, p + T.2.1, 0⟩ : RS), T.1) else (⟨t, p, lebErr T most⟩, 0) := by
      intro T hT; unfold RS.leb; rw [if_pos rfl, hT]
    have hsz := fun n k (h : lebNext (t.data.toList.drop p) 0 0 = (n, k, 0)) => leb_size_le h h1
    generalize lebNext (t.data.toList.drop p) 0 0 = T at *
    have el := el T rfl
    obtain ⟨n, k, e⟩ := T
    clear ea en
    have CN := Lib.hid cn
    clear cn
    by_cases he : e = 0
    · subst he
      have hle := hsz n k rfl
      clear hsz
      by_cases hgt : most < n
      · have e5 : lebErr (n, k, 0) most = 5 := if_pos ⟨rfl, hgt⟩
        rw [e5, if_neg (by decide)] at el
        rw [el]
        have cx := fun w h => cursor_fail b ⟨t, p, 0⟩ 5 w h
        rw [show RS.fail ⟨t, p, 0⟩ 5 = ⟨t, p, 5⟩ from rfl] at cx
        have CX := Lib.hid cx
        clear cx el e5
        go_enter Try.func55, Try.ntmps55
        go_wp2_with fail
        refine cf.out.mono ?_
        rintro e w' ⟨rfl, rfl⟩
        simp only []
        go_wp2_with fail
        refine ca.out.mono ?_
        rintro e w2 ⟨rfl, u2, hb2⟩
        go_wp2_with fail
        refine (CN.out _).mono ?_
        rintro e w' ⟨rfl, rfl⟩
        unfold lebVal
        go_wp2_with fail
        refine (CX.out _ hb2).mono ?_
        rintro e w3 ⟨rfl, u3, hb3⟩
        go_wp2_with fail
        go_returns
        exact ⟨rfl, u2.trans u3, hb3⟩
      · have e5 : lebErr (n, k, 0) most = 0 := if_neg (fun h => hgt h.2)
        rw [e5, if_pos rfl] at el
        rw [el]
        have hgt' : decide (most < n) = false := by simp; omega
        have cx := fun w h => cursor_take b ⟨t, p, 0⟩ k w ⟨h1, h2⟩ h
        rw [show RS.take ⟨t, p, 0⟩ k = (⟨t, p + k, 0⟩, t.extract p (p + k)) from by unfold RS.take; rw [if_pos rfl, if_neg (by omega), if_neg (by simp only []; omega)]; rfl] at cx
        have CX := Lib.hid cx
        clear cx el e5 hgt
        go_enter Try.func55, Try.ntmps55
        go_wp2_with fail
        refine cf.out.mono ?_
        rintro e w' ⟨rfl, rfl⟩
        simp only []
        go_wp2_with fail
        refine ca.out.mono ?_
        rintro e w2 ⟨rfl, u2, hb2⟩
        go_wp2_with fail
        refine (CN.out _).mono ?_
        rintro e w' ⟨rfl, rfl⟩
        unfold lebVal
        go_wp2_with fail
        refine (CX.out _ hb2).mono ?_
        rintro e w3 ⟨rfl, u3, hb3⟩
        go_wp2_with fail
        go_returns
        exact ⟨rfl, u2.trans u3, hb3⟩
    · have e5 : lebErr (n, k, e) most = e := if_neg (fun h => he h.1)
      rw [e5, if_neg he] at el
      rw [el]
      have he1 : ((e : Int) == 0) = false := by rw [beq_eq_false_iff_ne]; omega
      have he2 : ((e : Int) != 0) = true := by rw [bne_iff_ne]; omega
      have cx := fun w h => cursor_fail b ⟨t, p, 0⟩ e w h
      rw [show RS.fail ⟨t, p, 0⟩ e = ⟨t, p, e⟩ from rfl] at cx
      have CX := Lib.hid cx
      clear cx el e5 he
      go_enter Try.func55, Try.ntmps55
      go_wp2_with fail
      refine cf.out.mono ?_
      rintro e w' ⟨rfl, rfl⟩
      simp only []
      go_wp2_with fail
      refine ca.out.mono ?_
      rintro e w2 ⟨rfl, u2, hb2⟩
      go_wp2_with fail
      refine (CN.out _).mono ?_
      rintro e w' ⟨rfl, rfl⟩
      unfold lebVal
      go_wp2_with fail
      refine (CX.out _ hb2).mono ?_
      rintro e w3 ⟨rfl, u3, hb3⟩
      go_wp2_with fail
      go_returns
      exact ⟨rfl, u2.trans u3, hb3⟩
  · have e : RS.leb ⟨t, p, f⟩ most = (⟨t, p, f⟩, 0) := by unfold RS.leb; rw [if_neg hf]
    rw [e]
    have hf' : ((f : Int) != 0) = true := by rw [bne_iff_ne]; exact hf
    clear e hf
    go_enter Try.func55, Try.ntmps55
    go_wp2_with fail
    refine cf.out.mono ?_
    rintro e w' ⟨rfl, rfl⟩
    simp only []
    go_wp2_with fail
    go_returns
    exact ⟨rfl, Upd.refl b w, hb⟩

set_option maxRecDepth 100000 in
theorem leb_read_nil (x : Int) (w : World) :
    Calls Try.prog 55 #[.pointer none, .int .u64 x] w fun e w' => e = .returned (.int .u64 0) ∧ w = w' := by
  go_enter Try.func55, Try.ntmps55
  go_wp2_with fail
  refine (cursor_fault_nil _).mono ?_
  rintro e w' ⟨rfl, rfl⟩
  go_wp2_with fail
  go_returns
  exact ⟨rfl, rfl⟩
end Go.Proofs.Ytemfecdpjegocaa
