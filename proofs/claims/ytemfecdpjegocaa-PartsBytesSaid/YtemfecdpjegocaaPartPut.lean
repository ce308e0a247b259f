/- parts.Put and the document's: the bytes of a part. -/
import Derived.Test.YtemfecdpjegocaaPartMay
import Derived.Test.YtemfecdpjegocaaLebPut
import Derived.Test.YtemfecdpjegocaaLebRefPut
import Derived.Test.YtemfecdpjegocaaLebLaws
import Derived.Test.YtemfecdpjegocaaOwn
import Derived.BigQuiet
namespace Go.Proofs.Ytemfecdpjegocaa
open Go.RowKit
set_option linter.unusedVariables false
set_option linter.unusedSimpArgs false

/-- A part's bytes. -/
def putP (p : Pt) : ByteArray := ((⟨(lebPut p.id.toNat).toArray⟩ ++ ⟨(lebPut p.n.toNat).toArray⟩) ++ ⟨(lebPut p.of_.toNat).toArray⟩) ++ p.text
theorem putP_data (p : Pt) : (putP p).data.toList = lebPut p.id.toNat ++ (lebPut p.n.toNat ++ (lebPut p.of_.toNat ++ p.text.data.toList)) := by
  unfold putP; simp [List.append_assoc]

set_option maxRecDepth 100000 in
set_option maxHeartbeats 1000000 in
theorem parts_put (p : Pt) (w : World) (hwf : p.wf) (hm : mayP p) :
    Calls Try.prog 30 #[.agg p.cs] w fun en w' => en = .returned (.tuple #[.string (putP p), .int .i64 0]) ∧ Below w.heap.size w w' := by
  have CM := Lib.hid (fun w => parts_may p w hwf)
  have hmt : decide (mayP p) = true := decide_eq_true hm
  obtain ⟨i, n, o, T⟩ := p
  obtain ⟨⟨hi0, hi1⟩, ⟨ho0, ho1⟩, ⟨hn0, hn1⟩, hT, _⟩ := hm
  simp only at hi0 hi1 ho0 ho1 hn0 hn1 hT
  obtain ⟨a, rfl⟩ : ∃ a : Nat, i = a := ⟨i.toNat, by omega⟩
  obtain ⟨b, rfl⟩ : ∃ b : Nat, n = b := ⟨n.toNat, by omega⟩
  obtain ⟨c, rfl⟩ : ∃ c : Nat, o = c := ⟨o.toNat, by omega⟩
  have hP : putP ⟨a, b, c, T⟩ = ((⟨(lebPut a).toArray⟩ ++ ⟨(lebPut b).toArray⟩) ++ ⟨(lebPut c).toArray⟩) ++ T := rfl
  have za : (⟨(lebPut a).toArray⟩ : ByteArray).size ≤ 10 := by rw [size_mk]; have := lebPut_le 10 a (Nat.lt_of_le_of_lt (by omega : a ≤ 2147483647) (by decide)); omega
  have zb : (⟨(lebPut b).toArray⟩ : ByteArray).size ≤ 10 := by rw [size_mk]; have := lebPut_le 10 b (Nat.lt_of_le_of_lt (by omega : b ≤ 2147483647) (by decide)); omega
  have zc : (⟨(lebPut c).toArray⟩ : ByteArray).size ≤ 10 := by rw [size_mk]; have := lebPut_le 10 c (Nat.lt_of_le_of_lt (by omega : c ≤ 2147483647) (by decide)); omega
  have ca := Lib.hid (fun w => leb_put a w (by omega))
  have cb := Lib.hid (fun w => leb_put b w (by omega))
  have cc := Lib.hid (fun w => leb_put c w (by omega))
  simp only [Pt.cs] at CM ⊢
  generalize putP ⟨a, b, c, T⟩ = R at *
  generalize (⟨(lebPut a).toArray⟩ : ByteArray) = X at *
  generalize (⟨(lebPut b).toArray⟩ : ByteArray) = Y at *
  generalize (⟨(lebPut c).toArray⟩ : ByteArray) = Z at *
  have HP := Lib.hid hP
  have HA : Hid (Below w.heap.size w (w.alloc (.cells #[.int .i64 a, .int .i64 b, .int .i64 c, .string T] 33))) := (Below.refl _ _).alloc (Nat.le_refl _) _
  have HK := Lib.hid (Blk.new w #[.int .i64 a, .int .i64 b, .int .i64 c, .string T] 33)
  have HH := Lib.hid hT
  have hT2 : T.size ≤ 100000 := by omega
  clear hP hwf hT
  obtain ⟨g, hg⟩ : ∃ g, w.heap.size = g := ⟨_, rfl⟩
  rw [hg] at HA HK ⊢
  go_enter Try.func30, Try.ntmps30
  go_wp2_with fail
  refine (CM.out _).mono ?_
  rintro e w2 ⟨rfl, hb2⟩
  rw [hmt]
  have hg1 : g < (w.alloc (.cells #[.int .i64 a, .int .i64 b, .int .i64 c, .string T] 33)).heap.size := HK.out.lt
  have hB2 := Lib.hid (HA.out.trans (hb2.mono (by omega)))
  have hK2 := Lib.hid (Below.blk hb2 HK.out HK.out.lt)
  clear hb2 HA HK
  have hlt : g < w2.heap.size := hK2.out.lt
  have x0 := fun x : Fut w2 => (x.is.cell (p := ⟨g, 0, none⟩) hlt).trans (show w2.cell? ⟨g, 0, none⟩ = some (.int .i64 a) from hK2.out.cell 0)
  have x1 := fun x : Fut w2 => (x.is.cell (p := ⟨g, 1, none⟩) hlt).trans (show w2.cell? ⟨g, 1, none⟩ = some (.int .i64 b) from hK2.out.cell 1)
  have x2 := fun x : Fut w2 => (x.is.cell (p := ⟨g, 2, none⟩) hlt).trans (show w2.cell? ⟨g, 2, none⟩ = some (.int .i64 c) from hK2.out.cell 2)
  have x3 := fun x : Fut w2 => (x.is.cell (p := ⟨g, 3, none⟩) hlt).trans (show w2.cell? ⟨g, 3, none⟩ = some (.string T) from hK2.out.cell 3)
  go_upto_region 3 with fail
  refine wp_region_after (by kernel_rfl) (by kernel_rfl) ?_
  go_big_quiet_step (fail)
  go_big_quiet_step (fail)
  go_big_quiet_step (fail)
  go_big_quiet_step (exact Calls.after (ca.out _))
  go_big_quiet_step (fail)
  go_big_quiet_step (fail)
  go_big_quiet_step (fail)
  go_big_quiet_step (exact Calls.after (cb.out _))
  go_big_quiet_step (fail)
  go_big_quiet_step (fail)
  go_big_quiet_step (fail)
  go_big_quiet_step (fail)
  go_big_quiet_step (exact Calls.after (cc.out _))
  repeat (go_big_quiet_step (fail))
  refine wpQuiet_nil ?_
  intro x
  go_wp2_with fail
  go_returns
  exact ⟨by rw [HP.out]; rfl, hB2.out.trans (x.is.mono (by omega))⟩

set_option maxRecDepth 100000 in
theorem parts_put_bad (p : Pt) (w : World) (hwf : p.wf) (hm : ¬ mayP p) :
    Calls Try.prog 30 #[.agg p.cs] w fun en w' => en = .returned (.tuple #[.string ⟨#[]⟩, .int .i64 1]) ∧ Below w.heap.size w w' := by
  have CM := Lib.hid (fun w => parts_may p w hwf)
  have hmf : decide (mayP p) = false := decide_eq_false hm
  obtain ⟨i, n, o, T⟩ := p
  simp only [Pt.cs] at CM ⊢
  have HA : Hid (Below w.heap.size w (w.alloc (.cells #[.int .i64 i, .int .i64 n, .int .i64 o, .string T] 33))) := (Below.refl _ _).alloc (Nat.le_refl _) _
  clear hm hwf
  go_enter Try.func30, Try.ntmps30
  go_wp2_with fail
  refine (CM.out _).mono ?_
  rintro e w2 ⟨rfl, hb2⟩
  rw [hmf]
  have hB2 := Lib.hid (HA.out.trans (hb2.mono HA.out.size))
  clear hb2 HA
  go_wp2_with fail
  go_returns
  exact ⟨rfl, hB2.out⟩

set_option maxRecDepth 100000 in
set_option maxHeartbeats 1000000 in
theorem ref30_put (p : Pt) (w : World) (hm : mayP p) :
    Calls Try.prog 34 #[.agg p.cs] w fun en w' => en = .returned (.string (putP p)) ∧ Below w.heap.size w w' := by
  obtain ⟨i, n, o, T⟩ := p
  obtain ⟨⟨hi0, hi1⟩, ⟨ho0, ho1⟩, ⟨hn0, hn1⟩, hT, _⟩ := hm
  simp only at hi0 hi1 ho0 ho1 hn0 hn1 hT
  obtain ⟨a, rfl⟩ : ∃ a : Nat, i = a := ⟨i.toNat, by omega⟩
  obtain ⟨b, rfl⟩ : ∃ b : Nat, n = b := ⟨n.toNat, by omega⟩
  obtain ⟨c, rfl⟩ : ∃ c : Nat, o = c := ⟨o.toNat, by omega⟩
  have hP : putP ⟨a, b, c, T⟩ = ((⟨(lebPut a).toArray⟩ ++ ⟨(lebPut b).toArray⟩) ++ ⟨(lebPut c).toArray⟩) ++ T := rfl
  have za : (⟨(lebPut a).toArray⟩ : ByteArray).size ≤ 10 := by rw [size_mk]; have := lebPut_le 10 a (Nat.lt_of_le_of_lt (by omega : a ≤ 2147483647) (by decide)); omega
  have zb : (⟨(lebPut b).toArray⟩ : ByteArray).size ≤ 10 := by rw [size_mk]; have := lebPut_le 10 b (Nat.lt_of_le_of_lt (by omega : b ≤ 2147483647) (by decide)); omega
  have zc : (⟨(lebPut c).toArray⟩ : ByteArray).size ≤ 10 := by rw [size_mk]; have := lebPut_le 10 c (Nat.lt_of_le_of_lt (by omega : c ≤ 2147483647) (by decide)); omega
  have ca := Lib.hid (fun w => leb_ref_put a w (by omega))
  have cb := Lib.hid (fun w => leb_ref_put b w (by omega))
  have cc := Lib.hid (fun w => leb_ref_put c w (by omega))
  simp only [Pt.cs]
  generalize putP ⟨a, b, c, T⟩ = R at *
  generalize (⟨(lebPut a).toArray⟩ : ByteArray) = X at *
  generalize (⟨(lebPut b).toArray⟩ : ByteArray) = Y at *
  generalize (⟨(lebPut c).toArray⟩ : ByteArray) = Z at *
  have HP := Lib.hid hP
  have HA : Hid (Below w.heap.size w (w.alloc (.cells #[.int .i64 a, .int .i64 b, .int .i64 c, .string T] 31))) := (Below.refl _ _).alloc (Nat.le_refl _) _
  have HK := Lib.hid (Blk.new w #[.int .i64 a, .int .i64 b, .int .i64 c, .string T] 31)
  have hT2 : T.size ≤ 100000 := by omega
  clear hP hT
  obtain ⟨g, hg⟩ : ∃ g, w.heap.size = g := ⟨_, rfl⟩
  rw [hg] at HA HK ⊢
  go_enter Try.func34, Try.ntmps34
  go_upto_region 1 with fail
  generalize w.alloc (.cells #[.int .i64 a, .int .i64 b, .int .i64 c, .string T] 31) = w2 at *
  have hlt : g < w2.heap.size := HK.out.lt
  have x0 := fun x : Fut w2 => (x.is.cell (p := ⟨g, 0, none⟩) hlt).trans (show w2.cell? ⟨g, 0, none⟩ = some (.int .i64 a) from HK.out.cell 0)
  have x1 := fun x : Fut w2 => (x.is.cell (p := ⟨g, 1, none⟩) hlt).trans (show w2.cell? ⟨g, 1, none⟩ = some (.int .i64 b) from HK.out.cell 1)
  have x2 := fun x : Fut w2 => (x.is.cell (p := ⟨g, 2, none⟩) hlt).trans (show w2.cell? ⟨g, 2, none⟩ = some (.int .i64 c) from HK.out.cell 2)
  have x3 := fun x : Fut w2 => (x.is.cell (p := ⟨g, 3, none⟩) hlt).trans (show w2.cell? ⟨g, 3, none⟩ = some (.string T) from HK.out.cell 3)
  refine wp_region_after (by kernel_rfl) (by kernel_rfl) ?_
  go_big_quiet_step (fail)
  go_big_quiet_step (fail)
  go_big_quiet_step (fail)
  go_big_quiet_step (exact Calls.after (ca.out _))
  go_big_quiet_step (fail)
  go_big_quiet_step (fail)
  go_big_quiet_step (fail)
  go_big_quiet_step (exact Calls.after (cb.out _))
  go_big_quiet_step (fail)
  go_big_quiet_step (fail)
  go_big_quiet_step (fail)
  go_big_quiet_step (fail)
  go_big_quiet_step (exact Calls.after (cc.out _))
  repeat (go_big_quiet_step (fail))
  refine wpQuiet_nil ?_
  intro x
  go_wp2_with fail
  go_returns
  exact ⟨by rw [HP.out]; rfl, HA.out.trans (x.is.mono (by omega))⟩
end Go.Proofs.Ytemfecdpjegocaa
