/- parts.Get. -/
import Derived.Test.YtemfecdpjegocaaPartGetPlain
import Derived.Test.YtemfecdpjegocaaMax
namespace Go.Proofs.Ytemfecdpjegocaa
open Go.RowKit
set_option linter.unusedVariables false
set_option linter.unusedSimpArgs false

abbrev M64 : Nat := 18446744073709551615
theorem lebErr_all (l : List UInt8) : lebErr (lebNext l 0 0) M64 = (lebNext l 0 0).2.2 := by
  unfold lebErr
  cases h : lebNext l 0 0 with
  | mk n r =>
    obtain ⟨k, e⟩ := r
    simp only
    split
    · rename_i hh
      obtain ⟨he, hn⟩ := hh
      subst he
      have := (lebNext_ok h).2.1
      have hM : M64 = 18446744073709551615 := rfl
      omega
    · rfl
theorem leb_ok_step {r : RS} (hf : r.f = 0) {n k : Nat} (h : lebNext (r.t.data.toList.drop r.p) 0 0 = (n, k, 0)) : r.leb M64 = (⟨r.t, r.p + k, 0⟩, n) := by
  have := lebErr_all (r.t.data.toList.drop r.p)
  rw [h] at this
  unfold RS.leb
  rw [if_pos hf, h]
  simp only [this, if_true]
theorem leb_bad_step {r : RS} (hf : r.f = 0) {n k e : Nat} (h : lebNext (r.t.data.toList.drop r.p) 0 0 = (n, k, e)) (he : e ≠ 0) : r.leb M64 = (⟨r.t, r.p, e⟩, 0) := by
  have := lebErr_all (r.t.data.toList.drop r.p)
  rw [h] at this
  unfold RS.leb
  rw [if_pos hf, h]
  simp only [this]
  rw [if_neg he]
theorem leb_held {r : RS} (hf : r.f ≠ 0) : r.leb M64 = (r, 0) := by unfold RS.leb; rw [if_neg hf]
/-- Three numbers by the reader. -/
theorem leb3 (s : ByteArray) (hs : s.size ≤ 9223372036854775807) : ∃ (r1 : RS) (v1 : Nat) (r2 : RS) (v2 : Nat) (r3 : RS) (v3 : Nat), (RS.of s).leb M64 = (r1, v1) ∧ r1.leb M64 = (r2, v2) ∧ r2.leb M64 = (r3, v3) ∧ r1.Ok ∧ r2.Ok ∧ r3.Ok ∧
    v1 < 18446744073709551616 ∧ v2 < 18446744073709551616 ∧ v3 < 18446744073709551616 ∧ r3.f = (((get3 s.data.toList).2.2.2.2 : Nat) : Int) ∧
    ((get3 s.data.toList).2.2.2.2 = 0 → get3 s.data.toList = (v1, v2, v3, s.data.toList.drop r3.p, 0) ∧ r3.t = s) := by
  have hok0 : (RS.of s).Ok := RS.Ok.of hs
  have ok1 := hok0.leb M64
  have ok2 := ok1.leb M64
  have ok3 := ok2.leb M64
  generalize h1 : lebNext s.data.toList 0 0 = t1
  obtain ⟨n1, k1, e1⟩ := t1
  have h1' : lebNext ((RS.of s).t.data.toList.drop (RS.of s).p) 0 0 = (n1, k1, e1) := by simpa [RS.of] using h1
  by_cases z1 : e1 = 0
  · subst z1
    have q1 := leb_ok_step (r := RS.of s) rfl h1'
    rw [q1] at ok1 ok2 ok3
    have b1 := (lebNext_ok h1).2.1
    have q1 : (RS.of s).leb M64 = (⟨s, k1, 0⟩, n1) := by rw [q1]; simp [RS.of]
    have ok1 : (⟨s, k1, 0⟩ : RS).Ok := by simpa [RS.of] using ok1
    have ok2 : ((⟨s, k1, 0⟩ : RS).leb M64).1.Ok := ok1.leb M64
    generalize h2 : lebNext (s.data.toList.drop k1) 0 0 = t2
    obtain ⟨n2, k2, e2⟩ := t2
    by_cases z2 : e2 = 0
    · subst z2
      have q2 : (⟨s, k1, 0⟩ : RS).leb M64 = (⟨s, k1 + k2, 0⟩, n2) := leb_ok_step (r := ⟨s, k1, 0⟩) rfl h2
      rw [q2] at ok2
      have ok2 : (⟨s, k1 + k2, 0⟩ : RS).Ok := ok2
      have ok3 := ok2.leb M64
      have b2 := (lebNext_ok h2).2.1
      generalize h3 : lebNext (s.data.toList.drop (k1 + k2)) 0 0 = t3
      obtain ⟨n3, k3, e3⟩ := t3
      by_cases z3 : e3 = 0
      · subst z3
        have q3 : (⟨s, k1 + k2, 0⟩ : RS).leb M64 = (⟨s, k1 + k2 + k3, 0⟩, n3) := leb_ok_step (r := ⟨s, k1 + k2, 0⟩) rfl h3
        rw [q3] at ok3
        have b3 := (lebNext_ok h3).2.1
        have hg : get3 s.data.toList = (n1, n2, n3, s.data.toList.drop (k1 + k2 + k3), 0) := by unfold get3; simp [h1, h2, h3]
        rw [hg]
        exact ⟨_, _, _, _, _, _, q1, q2, q3, ok1, ok2, ok3, b1, b2, b3, rfl, fun _ => ⟨rfl, rfl⟩⟩
      · have q3 : (⟨s, k1 + k2, 0⟩ : RS).leb M64 = (⟨s, k1 + k2, (e3 : Int)⟩, 0) := leb_bad_step (r := ⟨s, k1 + k2, 0⟩) rfl h3 z3
        rw [q3] at ok3
        have hg : get3 s.data.toList = (0, 0, 0, [], e3) := by unfold get3; simp [h1, h2, h3, z3]
        rw [hg]
        exact ⟨_, _, _, _, _, _, q1, q2, q3, ok1, ok2, ok3, b1, b2, by omega, rfl, fun h => absurd h z3⟩
    · have q2 : (⟨s, k1, 0⟩ : RS).leb M64 = (⟨s, k1, (e2 : Int)⟩, 0) := leb_bad_step (r := ⟨s, k1, 0⟩) rfl h2 z2
      rw [q2] at ok2
      have q3 : (⟨s, k1, (e2 : Int)⟩ : RS).leb M64 = (⟨s, k1, (e2 : Int)⟩, 0) := leb_held (by simp only; omega)
      have hg : get3 s.data.toList = (0, 0, 0, [], e2) := by unfold get3; simp [h1, h2, z2]
      rw [hg]
      exact ⟨_, _, _, _, _, _, q1, q2, q3, ok1, ok2, ok2, b1, by omega, by omega, rfl, fun h => absurd h z2⟩
  · have q1 : (RS.of s).leb M64 = (⟨s, 0, (e1 : Int)⟩, 0) := leb_bad_step (r := RS.of s) rfl h1' z1
    rw [q1] at ok1
    have q2 : (⟨s, 0, (e1 : Int)⟩ : RS).leb M64 = (⟨s, 0, (e1 : Int)⟩, 0) := leb_held (by simp only; omega)
    have hg : get3 s.data.toList = (0, 0, 0, [], e1) := by unfold get3; simp [h1, z1]
    rw [hg]
    exact ⟨_, _, _, _, _, _, q1, q2, q2, ok1, ok1, ok1, by omega, by omega, by omega, rfl, fun h => absurd h z1⟩

set_option maxRecDepth 100000 in
theorem part_get_next (c b : Nat) (r : RS) (w : World) (hr : r.Ok) (hb : IsR w b r) (hc : w.cell? ⟨c, 0, none⟩ = some (.pointer (some ⟨b, 0, none⟩))) :
    Calls Try.prog 54 #[.pointer (some ⟨c, 0, none⟩)] w (RPost b w (r.leb M64).1 (.int .u64 ((r.leb M64).2 : Nat))) := by
  have C := Lib.hid (leb_read b r M64 w hr hb (by decide))
  generalize r.leb M64 = q at *
  go_enter Try.func54, Try.ntmps54
  go_wp2_with fail
  refine C.out.mono ?_
  rintro e w2 ⟨rfl, hu, hb2⟩
  have H := Lib.hid (And.intro hu hb2)
  clear hu hb2
  go_wp2_with fail
  go_returns
  exact ⟨rfl, H.out.1, H.out.2⟩
end Go.Proofs.Ytemfecdpjegocaa
