/- The walk of PlainRow. -/
import Derived.Test.YtekcehicjggmiaaPlainLaws
import Derived.Test.YtekcehicjggmiaaRow
import Derived.Test.YtekcehicjggmiaaStrs
namespace Go.Proofs.Ytekcehicjggmiaa
open Go.RowKit
set_option linter.unusedVariables false

def rowS (zs : List Int) (ss : List ByteArray) : Nat → ByteArray
  | 0 => ⟨#[]⟩
  | k + 1 => rowS zs ss k ++ pPut (zs.getD k 0).toNat (ss.getD k ByteArray.empty)
def rowFrom (zs : List Int) (ss : List ByteArray) : Nat → Nat → ByteArray
  | _, 0 => ⟨#[]⟩
  | k, n + 1 => pPut (zs.getD k 0).toNat (ss.getD k ByteArray.empty) ++ rowFrom zs ss (k + 1) n
theorem rowS_from (zs : List Int) (ss : List ByteArray) : ∀ (n k : Nat), rowS zs ss k ++ rowFrom zs ss k n = rowS zs ss (k + n)
  | 0, k => by rw [rowFrom]; exact pbext (by simp)
  | n + 1, k => by rw [rowFrom, ← ByteArray.append_assoc, show k + (n + 1) = (k + 1) + n by omega, ← rowS_from zs ss n (k + 1)]; rfl
theorem rowS_all (zs : List Int) (ss : List ByteArray) (n : Nat) : rowS zs ss n = rowFrom zs ss 0 n := by
  have := rowS_from zs ss n 0
  rw [Nat.zero_add] at this
  rw [← this]; exact pbext (by simp [rowS])
theorem pPut_le (id : Nat) (b : ByteArray) (hid : id < 18446744073709551616) (hb : b.size ≤ 200) : (pPut id b).size ≤ 220 := by
  rw [pPut_size]
  have h1 := lebPut_le 10 id (Nat.lt_of_lt_of_le hid (by decide))
  have h2 := lebPut_le 10 ((lebPut id).length + b.size) (Nat.lt_of_lt_of_le (show (lebPut id).length + b.size < 18446744073709551616 by omega) (by decide))
  omega
theorem rowS_le (zs : List Int) (ss : List ByteArray) : ∀ (k : Nat), (∀ j, j < k → (zs.getD j 0).toNat < 18446744073709551616 ∧ (ss.getD j ByteArray.empty).size ≤ 200) → (rowS zs ss k).size ≤ 220 * k
  | 0, _ => by show (0 : Nat) ≤ _; omega
  | k + 1, h => by
    rw [rowS, ByteArray.size_append]
    have h1 := rowS_le zs ss k fun j hj => h j (by omega)
    have h2 := pPut_le _ _ (h k (by omega)).1 (h k (by omega)).2
    omega
theorem rowFrom_le (zs : List Int) (ss : List ByteArray) : ∀ (n k : Nat), (∀ j, j < k + n → (zs.getD j 0).toNat < 18446744073709551616 ∧ (ss.getD j ByteArray.empty).size ≤ 200) → (rowFrom zs ss k n).size ≤ 220 * n
  | 0, k, _ => by show (0 : Nat) ≤ _; omega
  | n + 1, k, h => by
    rw [rowFrom, ByteArray.size_append]
    have h1 := rowFrom_le zs ss n (k + 1) fun j hj => h j (by omega)
    have h2 := pPut_le _ _ (h k (by omega)).1 (h k (by omega)).2
    omega

theorem below_drewN {B : Nat} {u v : World} (h : Below B u v) (n : Nat) : Below B u (v.drewN n) := ⟨h.os, h.tape, h.output, h.size, h.block⟩

set_option maxRecDepth 100000 in
set_option maxHeartbeats 1000000 in
theorem plain_row (ao : Option Addr) (len cap : Nat) (zs : List Int) (bo : Option Addr) (blen bcap : Nat) (ss : List ByteArray) (w : World) (hrow : IsRow .u64 w ao len cap zs) (hstr : IsStrs w bo blen ss) :
    Calls Try.prog 14 #[.slice ao len cap, .slice bo blen bcap] w fun e w' => e = .returned (.bool true) ∧ Below w.heap.size w w' := by
  have hlen0 := hrow.len_le.1
  have hlen1 := hstr.1
  unfold maxLen at hlen0 hlen1
  by_cases hl : 30 < len
  · go_enter Try.func14, Try.ntmps14
    go_wp2_with fail
    refine (plain_alive _).mono ?_
    rintro e w1 ⟨rfl, hb⟩
    go_wp2_with fail
    go_returns
    exact ⟨rfl, hb⟩
  have hl' : decide ((30 : Int) < len) = false := by simp; omega
  have hl30 : len ≤ 30 := by omega
  by_cases hlen : blen < len
  · clear hl
    go_enter Try.func14, Try.ntmps14
    go_wp2_with fail
    refine (plain_alive _).mono ?_
    rintro e w1 ⟨rfl, hb⟩
    go_wp2_with fail
    go_returns
    exact ⟨rfl, hb⟩
  have hlen' : decide (blen < len) = false := by simp; omega
  have hlenb : len ≤ blen := by omega
  clear hl hlen
  go_enter Try.func14, Try.ntmps14
  go_wp2_with fail
  refine (plain_alive _).mono ?_
  rintro e w1 ⟨rfl, hb⟩
  go_wp2_with fail
  go_loopw [5, 6] (fun av iv wr => ∃ (k : Nat) (a : ByteArray), iv = .int .i64 k ∧ k ≤ len ∧ av = .string a ∧ Hid (a = rowS zs ss k) ∧ Hid (∀ j, j < k → (zs.getD j 0).toNat < 18446744073709551616 ∧ (ss.getD j ByteArray.empty).size ≤ 200) ∧ Below w.heap.size w wr) (fun _ iv _ => len - (intOf iv).toNat)
  case atStart => exact ⟨0, _, rfl, by omega, rfl, rfl, fun j hj => by omega, hb⟩
  case round =>
    obtain ⟨k, a, rfl, hk, rfl, ha, hall, hB⟩ := hrel
    have hwr := hB.size
    have hasz : a.size ≤ 6600 := by have := rowS_le zs ss k hall.out; rw [ha.out]; omega
    by_cases hlt : k < len
    · obtain ⟨b, off, hao, hbl, hc, hz⟩ := hrow.at_ hlt
      obtain ⟨b2, off2, hbo, hbl2, hc2, hz2⟩ := hstr.2.2 k (by omega)
      have hnx : Hid (∀ n : Nat, n < 18446744073709551616 → zs.getD k 0 = (n : Int) → (ss.getD k ByteArray.empty).size ≤ 200 → (a ++ pPut n (ss.getD k ByteArray.empty) = rowS zs ss (k + 1)) ∧ ∀ j, j < k + 1 → (zs.getD j 0).toNat < 18446744073709551616 ∧ (ss.getD j ByteArray.empty).size ≤ 200) := by
        intro n hn hzn hs
        refine ⟨by rw [rowS, ha.out, hzn]; rfl, fun j hj => ?_⟩
        by_cases e : j = k
        · subst e; rw [hzn]; exact ⟨by simpa using hn, hs⟩
        · exact hall.out j (by omega)
      subst hao
      subst hbo
      generalize zs.getD k 0 = z at *
      generalize ss.getD k ByteArray.empty = body at *
      obtain ⟨id, rfl, hid⟩ := pu64 hz
      have hc' : wr.cell? ⟨b, off + k, none⟩ = some (.int .u64 id) := (hB.cell (p := ⟨b, off + k, none⟩) hbl).trans hc
      have hc2' : wr.cell? ⟨b2, off2 + k, none⟩ = some (.string body) := (hB.cell (p := ⟨b2, off2 + k, none⟩) hbl2).trans hc2
      have hk2 : k < blen := by omega
      unfold maxLen at hz2
      clear hz hc hc2
      by_cases h200 : 200 < body.size
      · go_wp2_with fail
        go_returns
        exact ⟨rfl, hB⟩
      · have h200' : decide ((200 : Int) < body.size) = false := by simp; omega
        obtain ⟨hn1, hn2⟩ := hnx.out id hid rfl (by omega)
        have hnx1 := Lib.hid hn1
        have hnx2 := Lib.hid hn2
        clear hn1 hn2
        have hps : (pPut id body).size ≤ 220 := pPut_le _ _ hid (by omega)
        have hl10 := lebPut_le 10 id (Nat.lt_of_lt_of_le hid (by decide))
        have cp := Lib.hid (fun w => ref15_put id body true w hid (by omega) (by simp; omega))
        generalize pPut id body = P at *
        have hx1 : ∀ x : Fut wr, x.at_.cell? ⟨b, off + k, none⟩ = some (.int .u64 id) := fun x => (x.is.cell (p := ⟨b, off + k, none⟩) (Nat.lt_of_lt_of_le hbl hwr)).trans hc'
        have hx2 : ∀ x : Fut wr, x.at_.cell? ⟨b2, off2 + k, none⟩ = some (.string body) := fun x => (x.is.cell (p := ⟨b2, off2 + k, none⟩) (Nat.lt_of_lt_of_le hbl2 hwr)).trans hc2'
        clear h200 hnx hl10
        go_wp2_with fail
        refine wp_region_after (by kernel_rfl) (by kernel_rfl) ?_
        repeat (go_big_quiet_step ((go_at_call 42; exact Calls.after (cp.out _))))
        refine wpQuiet_nil ?_
        intro x
        go_wp2_with fail
        go_roundw
        case rel => exact ⟨k + 1, _, by go_num, by omega, rfl, hnx1, hnx2, hB.trans (x.is.mono hwr)⟩
        case measure => simp [intOf]; omega
    · obtain rfl : k = len := by omega
      have hall0 := hall
      have hfr : Hid (a = rowFrom zs ss 0 k) := by unfold Hid; rw [ha.out, rowS_all]
      clear ha hall hasz
      go_wp2_with fail
      go_loopw [5, 9] (fun av iv wr => ∃ (j : Nat) (r : ByteArray), iv = .int .i64 j ∧ j ≤ k ∧ av = .string r ∧ Hid (r = rowFrom zs ss j (k - j)) ∧ Below w.heap.size w wr) (fun _ iv _ => k - (intOf iv).toNat)
      case atStart => exact ⟨0, _, rfl, by omega, rfl, hfr, hB⟩
      case round =>
        obtain ⟨j, r, rfl, hj, rfl, hr, hBt⟩ := hrel
        have hwq := hBt.size
        by_cases hlt2 : j < k
        · obtain ⟨b, off, hao, hbl, hc, hz⟩ := hrow.at_ hlt2
          obtain ⟨b2, off2, hbo, hbl2, hc2, hz2⟩ := hstr.2.2 j (by omega)
          have hjb := (hall0.out j hlt2).2
          have hml := rowFrom_le zs ss (k - (j + 1)) (j + 1) fun i hi => hall0.out i (by omega)
          have hr' : r = pPut (zs.getD j 0).toNat (ss.getD j ByteArray.empty) ++ rowFrom zs ss (j + 1) (k - (j + 1)) := by
            rw [hr.out, show k - j = (k - (j + 1)) + 1 by omega]; rfl
          subst hao
          subst hbo
          generalize zs.getD j 0 = z at *
          generalize ss.getD j ByteArray.empty = body at *
          obtain ⟨id, rfl, hid⟩ := pu64 hz
          rw [Int.toNat_natCast] at hr'
          have hc' : wr.cell? ⟨b, off + j, none⟩ = some (.int .u64 id) := (hBt.cell (p := ⟨b, off + j, none⟩) hbl).trans hc
          have hc2' : wr.cell? ⟨b2, off2 + j, none⟩ = some (.string body) := (hBt.cell (p := ⟨b2, off2 + j, none⟩) hbl2).trans hc2
          have hps := pPut_le id body hid hjb
          have hl10 := lebPut_le 10 id (Nat.lt_of_lt_of_le hid (by decide))
          have cn := fun w => plain_next 300 r w (by decide) (by unfold maxLen; rw [hr', ByteArray.size_append]; omega)
          have en : pNext 300 r = ⟨id, body, (pPut id body).size, 0⟩ := by rw [hr']; exact pNext_put 300 id body _ hid (by omega) (by omega)
          rw [en] at cn
          have hrx : Hid (r.extract (pPut id body).size r.size = rowFrom zs ss (j + 1) (k - (j + 1))) := by
            unfold Hid
            apply pbext
            have h1 : r.data.toList = (pPut id body).data.toList ++ (rowFrom zs ss (j + 1) (k - (j + 1))).data.toList := by rw [hr']; simp
            rw [Lib.extract_data, h1, Lib.size_eq (pPut id body), List.drop_left, List.take_of_length_le (by rw [Lib.size_eq r, h1]; simp)]
          have hrs : (pPut id body).size ≤ r.size := by rw [hr', ByteArray.size_append]; omega
          have hrs2 : r.size ≤ 7000 := by rw [hr', ByteArray.size_append]; omega
          generalize (pPut id body).size = n at *
          have CN : Hid (∀ w, Calls Try.prog 43 #[.int .i64 300, .string r] w fun e w' => e = .returned (.tuple #[.agg #[.int .u64 id, .string ⟨#[]⟩, .string body], .int .i64 n, .int .i64 0]) ∧ Below w.heap.size w w') := cn
          have hj2 : j < blen := by omega
          unfold maxLen at hz2
          clear hz hc hc2 cn en hr' hml hl10 hr
          go_wp2_with fail
          refine (CN.out _).mono ?_
          rintro e w2 ⟨rfl, hb2⟩
          have hd1 : w2.cell? ⟨b, off + j, none⟩ = some (.int .u64 id) := (hb2.cell (p := ⟨b, off + j, none⟩) (Nat.lt_of_lt_of_le hbl hwq)).trans hc'
          have hd2 : w2.cell? ⟨b2, off2 + j, none⟩ = some (.string body) := (hb2.cell (p := ⟨b2, off2 + j, none⟩) (Nat.lt_of_lt_of_le hbl2 hwq)).trans hc2'
          have hbz := hb2.size
          have hlt3 : b < w2.heap.size := by omega
          have hlt4 : b2 < w2.heap.size := by omega
          have B2 := Lib.hid (hBt.trans (hb2.mono hwq))
          clear hc' hc2'
          go_wp2_with fail
          go_quiet (fail)
          go_wp2_with fail
          go_roundw
          case rel => exact ⟨j + 1, _, by go_num, by omega, rfl, hrx, below_drewN (B2.out.alloc B2.out.size _) _⟩
          case measure => simp [intOf]; omega
        · obtain rfl : j = k := by omega
          have hr0 : r = ⟨#[]⟩ := by rw [hr.out, Nat.sub_self]; rfl
          subst hr0
          go_wp2_with fail
          go_returns
          exact ⟨rfl, hBt⟩
end Go.Proofs.Ytekcehicjggmiaa
