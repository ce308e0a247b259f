/- rlp: Put whole, Size, the laws' example. -/
import Derived.Test.YtopfpfpefljkkaaRlpPut
import Derived.Test.YtopfpfpefljkkaaRlpGets
import Derived.Test.YtopfpfpefljkkaaItemGreat
namespace Go.Proofs.Ytopfpfpefljkkaa
open Go.RowKit
set_option linter.unusedVariables false
set_option linter.unusedSimpArgs false

set_option maxRecDepth 100000 in
set_option maxHeartbeats 2000000 in
theorem rlp_put_no (x : Rose IL) (w : World) (v : Value) (hv : ISubs w v x.sub) (hm : mayI x = false) :
    Calls Try.prog 16 #[.agg #[.string (txt x.lab), .bool x.lab.list, v]] w fun e w' => e = .returned (.tuple #[.string ⟨#[]⟩, .int .i64 1]) ∧ Below w.heap.size w w' := by
  have HW := Lib.hid (box_item (T := txt x.lab) (l := x.lab.list) (t := IT) hv)
  obtain ⟨oa, cap, rfl, hcap, hml⟩ := ISubsQ.slice hv
  obtain ⟨g, hg⟩ : ∃ g, w.heap.size = g := ⟨_, rfl⟩
  have CM := Lib.hid (fun (W : World) (h : ISubs W (.slice oa x.sub.length cap) x.sub) => item_may x W _ h)
  rw [hm] at CM
  rw [hg] at HW ⊢
  clear hv hcap hml hm
  generalize x.sub.length = M at *
  go_enter Try.func16, Try.ntmps16
  go_upto_region 1 with fail
  generalize w.alloc (.cells #[.string (txt x.lab), .bool x.lab.list, .slice oa M cap] IT) = w1 at *
  obtain ⟨hb1, ht1, hsz, c0, c1, c2, _⟩ := HW.out _ rfl
  have HT := Lib.hid ht1
  have HB := Lib.hid hb1
  have hsz1 : w1.heap.size = g + 1 := hsz
  clear HW ht1 hb1 hsz
  go_wp2_with fail
  refine (CM.out _ HT.out).mono ?_
  rintro e w2 ⟨rfl, hb2⟩
  have HB2 := Lib.hid (HB.out.trans (hb2.mono (show g ≤ w1.heap.size by omega)))
  clear hb2
  go_wp2_with fail
  go_returns
  exact ⟨rfl, HB2.out⟩
/-- What Put tells. -/
def putV (x : Rose IL) : Value := if mayI x then .tuple #[.string ⟨(enc x).toArray⟩, .int .i64 0] else .tuple #[.string ⟨#[]⟩, .int .i64 1]
theorem rlp_put (x : Rose IL) (w : World) (v : Value) (hv : ISubs w v x.sub) (hx : x.lab.text.length ≤ maxLen) (hE : mayI x = true → (enc x).length ≤ 100000) :
    Calls Try.prog 16 #[.agg #[.string (txt x.lab), .bool x.lab.list, v]] w fun e w' => e = .returned (putV x) ∧ Below w.heap.size w w' := by
  unfold putV
  cases hm : mayI x with
  | true => rw [if_pos rfl]; exact rlp_put_ok x w v hv hx hm (hE hm)
  | false => rw [if_neg (by simp)]; exact rlp_put_no x w v hv hm
def sizeI (x : Rose IL) : Nat := if mayI x then (enc x).length else 0
set_option maxRecDepth 100000 in
set_option maxHeartbeats 1000000 in
theorem rlp_size (x : Rose IL) (w : World) (v : Value) (hv : ISubs w v x.sub) (hx : x.lab.text.length ≤ maxLen) (hE : mayI x = true → (enc x).length ≤ 100000) :
    Calls Try.prog 34 #[.agg #[.string (txt x.lab), .bool x.lab.list, v]] w fun e w' => e = .returned (.int .i64 (sizeI x : Nat)) ∧ Below w.heap.size w w' := by
  have HW := Lib.hid (box_item (T := txt x.lab) (l := x.lab.list) (t := IT) hv)
  obtain ⟨oa, cap, rfl, hcap, hml⟩ := ISubsQ.slice hv
  obtain ⟨g, hg⟩ : ∃ g, w.heap.size = g := ⟨_, rfl⟩
  have CP := Lib.hid (fun (W : World) (h : ISubs W (.slice oa x.sub.length cap) x.sub) => rlp_put x W _ h hx hE)
  obtain ⟨S, er, hpv, hss⟩ : ∃ (S : ByteArray) (er : Int), putV x = .tuple #[.string S, .int .i64 er] ∧ S.size = sizeI x := by
    unfold putV sizeI
    cases mayI x with
    | true => exact ⟨_, _, rfl, by rw [size_mk]; rfl⟩
    | false => exact ⟨_, _, rfl, rfl⟩
  rw [hpv] at CP
  have HSS := Lib.hid hss
  rw [hg] at HW ⊢
  clear hv hcap hml hx hE hpv hss
  generalize x.sub.length = M at *
  go_enter Try.func34, Try.ntmps34
  go_upto_region 1 with fail
  generalize w.alloc (.cells #[.string (txt x.lab), .bool x.lab.list, .slice oa M cap] IT) = w1 at *
  obtain ⟨hb1, ht1, hsz, c0, c1, c2, _⟩ := HW.out _ rfl
  have HT := Lib.hid ht1
  have HB := Lib.hid hb1
  have hsz1 : w1.heap.size = g + 1 := hsz
  clear HW ht1 hb1 hsz
  go_wp2_with fail
  refine (CP.out _ HT.out).mono ?_
  rintro e w2 ⟨rfl, hb2⟩
  have HB2 := Lib.hid (HB.out.trans (hb2.mono (show g ≤ w1.heap.size by omega)))
  clear hb2
  go_wp2_with fail
  go_returns
  exact ⟨by rw [← HSS.out]; rfl, HB2.out⟩

/-- The document's example. -/
def dogI : Rose IL := .node ⟨[100, 111, 103], false⟩ []
def nilI : Rose IL := .node ⟨[], true⟩ []
theorem subs_nil (w : World) (Q : Nat → Prop) : ISubsQ w Q (.slice none 0 0) [] := ⟨none, 0, rfl, Nat.le_refl _, Nat.zero_le _, fun h => absurd h (by simp)⟩
theorem dog_enc : enc dogI = [131, 100, 111, 103] := by decide +kernel
theorem nil_enc : enc nilI = [192] := by decide +kernel
theorem dog_may : mayI dogI = true := by decide +kernel
theorem nil_may : mayI nilI = true := by decide +kernel
theorem dog_put : putV dogI = .tuple #[.string ⟨#[131, 100, 111, 103]⟩, .int .i64 0] := by unfold putV; rw [if_pos dog_may, dog_enc]
theorem nil_put : putV nilI = .tuple #[.string ⟨#[192]⟩, .int .i64 0] := by unfold putV; rw [if_pos nil_may, nil_enc]
theorem bad_rd : rdI 9 [129, 5] 9 = .error 3 := by rfl
theorem put_dog (w : World) : Calls Try.prog 16 #[.agg #[.string ⟨#[100, 111, 103]⟩, .bool false, .slice none 0 0]] w fun e w' => e = .returned (.tuple #[.string ⟨#[131, 100, 111, 103]⟩, .int .i64 0]) ∧ Below w.heap.size w w' := by
  have := rlp_put dogI w (.slice none 0 0) (subs_nil _ _) (by decide) (fun _ => by rw [dog_enc]; decide)
  rw [dog_put] at this
  exact this
theorem put_nil (w : World) : Calls Try.prog 16 #[.agg #[.string ⟨#[]⟩, .bool true, .slice none 0 0]] w fun e w' => e = .returned (.tuple #[.string ⟨#[192]⟩, .int .i64 0]) ∧ Below w.heap.size w w' := by
  have := rlp_put nilI w (.slice none 0 0) (subs_nil _ _) (by decide) (fun _ => by rw [nil_enc]; decide)
  rw [nil_put] at this
  exact this
theorem get_bad (w : World) : Calls Try.prog 14 #[.string ⟨#[129, 5]⟩, .int .i64 9, .int .i64 9] w fun e w' => e = .returned (.tuple #[.agg #[.string ⟨#[]⟩, .bool false, .slice none 0 0], .int .i64 3]) ∧ Below w.heap.size w w' := by
  have := rlp_get 9 9 9 9 (by decide) (by decide) ⟨#[129, 5]⟩ w (by decide) (by decide) (by decide)
  rw [show (⟨#[129, 5]⟩ : ByteArray).data.toList = [129, 5] from rfl, bad_rd] at this
  exact this
set_option maxRecDepth 100000 in
set_option maxHeartbeats 1000000 in
theorem rlp_alive (w : World) : Calls Try.prog 10 #[] w fun e w' => e = .returned (.bool true) ∧ Below w.heap.size w w' := by
  have C1 := Lib.hid put_dog
  have C2 := Lib.hid put_nil
  have C3 := Lib.hid get_bad
  obtain ⟨g, hg⟩ : ∃ g, w.heap.size = g := ⟨_, rfl⟩
  have HG := Lib.hid hg
  rw [hg]
  clear hg
  go_enter Try.func10, Try.ntmps10
  go_wp2_with fail
  refine (C1.out _).mono ?_
  rintro e w1 ⟨rfl, hb1⟩
  have H1 : Hid (Below g w w1) := Lib.hid (by rw [← HG.out]; exact hb1)
  clear hb1
  go_wp2_with fail
  refine (C2.out _).mono ?_
  rintro e w2 ⟨rfl, hb2⟩
  have H2 : Hid (Below g w w2) := Lib.hid (H1.out.trans (hb2.mono (by have := H1.out.size; have := HG.out; omega)))
  clear hb2
  go_wp2_with fail
  refine (C3.out _).mono ?_
  rintro e w3 ⟨rfl, hb3⟩
  have H3 : Hid (Below g w w3) := Lib.hid (H2.out.trans (hb3.mono (by have := H2.out.size; have := HG.out; omega)))
  have H4 : Hid (∀ o, Below g w (w3.alloc o)) := Lib.hid fun o => H3.out.alloc (by have := H3.out.size; have := HG.out; omega) o
  clear hb3
  go_wp2_with fail
  go_returns
  exact ⟨rfl, H4.out _⟩
end Go.Proofs.Ytopfpfpefljkkaa
