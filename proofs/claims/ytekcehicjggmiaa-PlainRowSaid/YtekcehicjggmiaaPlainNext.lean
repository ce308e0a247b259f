/- The walks of plain.Put, plain.Next and of the document's. -/
import Derived.Test.YtekcehicjggmiaaPlain
namespace Go.Proofs.Ytekcehicjggmiaa
open Go.RowKit
set_option linter.unusedVariables false

def frameV (id : Nat) (b : ByteArray) : Value := .agg #[.int .u64 id, .string ⟨#[]⟩, .string b]
def PF.v (f : PF) : Value := .tuple #[frameV f.id f.body, .int .i64 f.n, .int .i64 f.e]

set_option maxRecDepth 100000 in
set_option maxHeartbeats 400000 in
theorem plain_put (id : Nat) (b : ByteArray) (w : World) (hid : id < 18446744073709551616) (hb : (lebPut id).length + b.size ≤ 65536) :
    Calls Try.prog 41 #[.int .u64 id, .string b] w fun e w' => e = .returned (.tuple #[.string (pPut id b), .int .i64 0]) ∧ Below w.heap.size w w' := by
  have hl := lebPut_le 10 id (Nat.lt_of_lt_of_le hid (by decide))
  have c1 := Lib.hid (fun w => leb_size id w hid)
  have c2 := Lib.hid (fun w => leb_put ((lebPut id).length + b.size) w (by omega))
  have c3 := Lib.hid (fun w => leb_put id w hid)
  have hz : (⟨(lebPut ((lebPut id).length + b.size)).toArray⟩ : ByteArray).size ≤ 10 := by
    rw [size_mk]; have := lebPut_le 10 ((lebPut id).length + b.size) (Nat.lt_of_le_of_lt hb (by decide)); omega
  have hz2 : (⟨(lebPut id).toArray⟩ : ByteArray).size ≤ 10 := by rw [size_mk]; omega
  have hp : pPut id b = ⟨(lebPut ((lebPut id).length + b.size)).toArray⟩ ++ ⟨(lebPut id).toArray⟩ ++ b := rfl
  generalize pPut id b = R at *
  generalize (⟨(lebPut ((lebPut id).length + b.size)).toArray⟩ : ByteArray) = X at *
  generalize (⟨(lebPut id).toArray⟩ : ByteArray) = Y at *
  generalize (lebPut id).length = m at *
  have HP := Lib.hid hp
  clear hp
  go_enter Try.func41, Try.ntmps41
  go_wp2_with fail
  refine (c1.out _).mono ?_
  rintro e w' ⟨rfl, rfl⟩
  go_wp2_with fail
  refine (c2.out _).mono ?_
  rintro e w1 ⟨rfl, hb1⟩
  go_wp2_with fail
  refine (c3.out _).mono ?_
  rintro e w2 ⟨rfl, hb2⟩
  go_wp2_with fail
  go_returns
  exact ⟨by rw [HP.out]; rfl, hb1.trans (hb2.mono hb1.size)⟩
set_option maxRecDepth 100000 in
theorem plain_put_over (id : Nat) (b : ByteArray) (w : World) (hid : id < 18446744073709551616) (hb : 65536 < (lebPut id).length + b.size) (hs : b.size ≤ 9223372036854770000) :
    Calls Try.prog 41 #[.int .u64 id, .string b] w fun e w' => e = .returned (.tuple #[.string ⟨#[]⟩, .int .i64 5]) ∧ w = w' := by
  have hl := lebPut_le 10 id (Nat.lt_of_lt_of_le hid (by decide))
  have c1 := Lib.hid (fun w => leb_size id w hid)
  generalize (lebPut id).length = m at *
  go_enter Try.func41, Try.ntmps41
  go_wp2_with fail
  refine (c1.out _).mono ?_
  rintro e w' ⟨rfl, rfl⟩
  go_wp2_with fail
  go_returns
  exact ⟨rfl, rfl⟩

set_option maxRecDepth 100000 in
set_option maxHeartbeats 400000 in
theorem ref15_put (id : Nat) (b : ByteArray) (ok : Bool) (w : World) (hid : id < 18446744073709551616) (hs : b.size ≤ 9223372036854770000) (hok : decide ((lebPut id).length + b.size ≤ 65536) = ok) :
    Calls Try.prog 42 #[.int .u64 id, .string b] w fun e w' => e = .returned (.tuple #[.string (pPut id b), .bool ok]) ∧ Below w.heap.size w w' := by
  have hl := lebPut_le 10 id (Nat.lt_of_lt_of_le hid (by decide))
  have c2 := fun w => leb_ref_put ((lebPut id).length + b.size) w (by omega)
  have c3 := Lib.hid (fun w => leb_ref_put id w hid)
  have hz : (⟨(lebPut ((lebPut id).length + b.size)).toArray⟩ : ByteArray).size ≤ 10 := by
    rw [size_mk]; have := lebPut_le 10 ((lebPut id).length + b.size) (Nat.lt_of_lt_of_le (show (lebPut id).length + b.size < 18446744073709551616 by omega) (by decide)); omega
  have hz2 : (⟨(lebPut id).toArray⟩ : ByteArray).size = (lebPut id).length := size_mk _
  have hp : pPut id b = ⟨(lebPut ((lebPut id).length + b.size)).toArray⟩ ++ (⟨(lebPut id).toArray⟩ ++ b) := by unfold pPut; rw [ByteArray.append_assoc]
  rw [Int.natCast_add, ← hz2] at c2
  rw [← hz2] at hl hok hz hp
  have hok' : Hid (decide ((((⟨(lebPut id).toArray⟩ : ByteArray).size : Int) + (b.size : Int)) ≤ 65536) = ok) := by
    unfold Hid; rw [← hok, decide_eq_decide]; omega
  clear hok
  generalize pPut id b = R at *
  generalize (⟨(lebPut ((⟨(lebPut id).toArray⟩ : ByteArray).size + b.size)).toArray⟩ : ByteArray) = X at *
  generalize (⟨(lebPut id).toArray⟩ : ByteArray) = Y at *
  have HP := Lib.hid hp
  have C2 := Lib.hid c2
  have hl10 : Y.size ≤ 10 := by omega
  clear hp hz2 c2 hl
  go_enter Try.func42, Try.ntmps42
  go_wp2_with fail
  refine (c3.out _).mono ?_
  rintro e w2 ⟨rfl, hb2⟩
  go_wp2_with fail
  refine (C2.out _).mono ?_
  rintro e w3 ⟨rfl, hb3⟩
  have hk := hok'.out
  go_wp2_with fail
  go_returns
  exact ⟨by rw [HP.out]; rfl, hb2.trans (hb3.mono hb2.size)⟩

theorem cursor_read_ex (t : ByteArray) (w : World) : Calls Try.prog 60 #[.string t] w fun e w' => ∃ b, e = .returned (.pointer (some ⟨b, 0, none⟩)) ∧ w.heap.size ≤ b ∧ Below w.heap.size w w' ∧ IsR w' b (RS.of t) :=
  (cursor_read t w).mono fun _ _ ⟨he, hb, _, hr⟩ => ⟨_, he, Nat.le_refl _, hb, hr⟩
def frameZ : Array Value := #[.int .u64 0, .string ⟨#[]⟩, .string ⟨#[]⟩]

set_option maxRecDepth 100000 in
set_option maxHeartbeats 400000 in
theorem plain_next_short (m : Int) (s : ByteArray) (er : Nat) (w : World) (hm : -9223372036854775808 ≤ m ∧ m ≤ 9223372036854775807) (hs : s.size ≤ maxLen) (hp : pSize m s.data.toList = (0, 0, er)) (he : er ≠ 0) :
    Calls Try.prog 43 #[.int .i64 m, .string s] w fun e w' => e = .returned (PF.bad er).v ∧ Below w.heap.size w w' := by
  have c1 := fun w => plain_size m s w hm hs
  rw [hp] at c1
  have C1 := Lib.hid c1
  have he2 : ((er : Int) != 0) = true := by rw [bne_iff_ne]; omega
  clear c1 hp hm he
  go_enter Try.func43, Try.ntmps43
  go_wp2_with fail
  refine (C1.out _).mono ?_
  rintro e w' ⟨rfl, rfl⟩
  go_wp2_with fail
  refine bodyPost_ret (v := (PF.bad er).v) (by simp [results, Try.results43, go_sem, PF.v, PF.bad, frameV]) rfl ⟨rfl, ?_⟩
  exact (Below.refl _ _).alloc (Nat.le_refl _) _

set_option maxRecDepth 100000 in
set_option maxHeartbeats 400000 in
theorem plain_next_over (m : Int) (s : ByteArray) (n k : Nat) (w : World) (hm : -9223372036854775808 ≤ m ∧ m ≤ 9223372036854775807) (hs : s.size ≤ maxLen) (hp : pSize m s.data.toList = (n, k, 0)) (hov : s.size < k + n) :
    Calls Try.prog 43 #[.int .i64 m, .string s] w fun e w' => e = .returned (PF.bad 2).v ∧ Below w.heap.size w w' := by
  have c1 := fun w => plain_size m s w hm hs
  rw [hp] at c1
  have C1 := Lib.hid c1
  obtain ⟨h1, h2, h3, h4⟩ := pSize_ok hp
  rw [← Lib.size_eq] at h3
  have hs' := hs
  unfold maxLen at hs'
  have ct := Lib.hid (fun b w (h : IsR w b (RS.of s)) => cursor_take b (RS.of s) k w (RS.Ok.of hs') h)
  have e1 : RS.take (RS.of s) k = (⟨s, k, 0⟩, s.extract 0 k) := by
    show RS.take ⟨s, 0, 0⟩ k = _
    unfold RS.take; rw [if_pos rfl, if_neg (by omega), if_neg (by simp only []; omega)]; simp
  rw [e1] at ct
  have ct2 := Lib.hid (fun b w (h : IsR w b ⟨s, k, 0⟩) => cursor_take b ⟨s, k, 0⟩ n w ⟨h3, hs'⟩ h)
  have e2 : RS.take ⟨s, k, 0⟩ n = (⟨s, k, 2⟩, nostr) := by
    unfold RS.take; rw [if_pos rfl, if_neg (by omega), if_pos (by simp only []; omega)]
  rw [e2] at ct2
  have hmf : ∀ (fn : Fn) (first cap : Array Value) (w : World), (Instr.makeFunc fn first cap).run Try.prog w = .ok (.func fn first cap) w := fun _ _ _ _ => rfl

  clear c1 hp hm e1 e2 h1
  go_enter Try.func43, Try.ntmps43
  go_wp2_with fail
  refine (C1.out _).mono ?_
  rintro e w' ⟨rfl, rfl⟩
  go_wp2_with fail
  refine (cursor_read_ex _ _).mono ?_
  rintro e w1 ⟨b, rfl, hle, hb1, hr1⟩
  go_wp2_with fail
  refine (ct.out _ _ hr1).mono ?_
  rintro e w2 ⟨rfl, u2, hr2⟩
  go_wp2_with fail
  refine (ct2.out _ _ hr2).mono ?_
  rintro e w3 ⟨rfl, u3, hr3⟩
  have cf := Lib.hid (cursor_fault _ _ _ hr3)
  go_wp2_with fail
  refine cf.out.mono ?_
  rintro e w' ⟨rfl, rfl⟩
  have hlt : w.heap.size < b := by simp at hle; omega
  have hB1 := Below.blk hb1 (Blk.new w frameZ 58) (by simp)
  have hB2 := u2.blk hB1 (by omega)
  have hB3 := u3.blk hB2 (by omega)
  have H1 := ((Below.refl w.heap.size w).alloc (Nat.le_refl _) (.cells frameZ 58)).trans (hb1.mono (by simp))
  have H2 := u2.below H1 (by omega) H1.size
  have H3 := Lib.hid (u3.below H2 (by omega) H2.size)
  have d0 := hB3.cell 0
  have d1 := hB3.cell 1
  have d2 := hB3.cell 2
  have f0 := hB3.free 0
  have f1 := hB3.free 1
  have f2 := hB3.free 2
  simp [frameZ] at d0 d1 d2
  clear H1 H2 hB1 hB2 hle

  go_wp2_with fail
  refine bodyPost_ret (v := (PF.bad 2).v) (by simp [results, Try.results43, go_sem, PF.v, PF.bad, frameV, d0, d1, d2]) rfl ⟨rfl, ?_⟩
  exact ((H3.out.setCell (p := ⟨w.heap.size, 0, none⟩) (Nat.le_refl _) _).setCell (p := ⟨w.heap.size, 1, none⟩) (Nat.le_refl _) _).setCell (p := ⟨w.heap.size, 2, none⟩) (Nat.le_refl _) _

set_option maxRecDepth 100000 in
set_option maxHeartbeats 400000 in
theorem plain_next_form (m : Int) (s : ByteArray) (n k : Nat) (w : World) (hm : -9223372036854775808 ≤ m ∧ m ≤ 9223372036854775807) (hs : s.size ≤ maxLen) (hp : pSize m s.data.toList = (n, k, 0)) (hov : k + n ≤ s.size) (hq : (lebNext (s.extract k (k + n)).data.toList 0 0).2.2 ≠ 0) :
    Calls Try.prog 43 #[.int .i64 m, .string s] w fun e w' => e = .returned (PF.bad 3).v ∧ Below w.heap.size w w' := by
  have c1 := fun w => plain_size m s w hm hs
  rw [hp] at c1
  have C1 := Lib.hid c1
  obtain ⟨h1, h2, h3, h4⟩ := pSize_ok hp
  rw [← Lib.size_eq] at h3
  have hs' := hs
  unfold maxLen at hs'
  have ct := Lib.hid (fun b w (h : IsR w b (RS.of s)) => cursor_take b (RS.of s) k w (RS.Ok.of hs') h)
  have e1 : RS.take (RS.of s) k = (⟨s, k, 0⟩, s.extract 0 k) := by
    show RS.take ⟨s, 0, 0⟩ k = _
    unfold RS.take; rw [if_pos rfl, if_neg (by omega), if_neg (by simp only []; omega)]; simp
  rw [e1] at ct
  have ct2 := Lib.hid (fun b w (h : IsR w b ⟨s, k, 0⟩) => cursor_take b ⟨s, k, 0⟩ n w ⟨h3, hs'⟩ h)
  have e2 : RS.take ⟨s, k, 0⟩ n = (⟨s, k + n, 0⟩, s.extract k (k + n)) := by
    unfold RS.take; rw [if_pos rfl, if_neg (by omega), if_neg (by simp only []; omega)]; rfl
  rw [e2] at ct2
  have hmf : ∀ (fn : Fn) (first cap : Array Value) (w : World), (Instr.makeFunc fn first cap).run Try.prog w = .ok (.func fn first cap) w := fun _ _ _ _ => rfl
  have cn := fun w => leb_next (s.extract k (k + n)) w (by unfold maxLen; rw [ByteArray.size_extract]; omega)
  generalize lebNext (s.extract k (k + n)).data.toList 0 0 = t at *
  obtain ⟨ti, tz, te⟩ := t
  have CN : Hid (∀ w, Calls Try.prog 63 #[.string (s.extract k (k + n))] w fun e' w' => e' = .returned (.tuple #[.int .u64 ti, .int .i64 tz, .int .i64 te]) ∧ w = w') := cn
  have hq' : ((te : Int) != 0) = true := by rw [bne_iff_ne]; simp only at hq; omega
  clear cn hq
  clear c1 hp hm e1 e2 h1
  go_enter Try.func43, Try.ntmps43
  go_wp2_with fail
  refine (C1.out _).mono ?_
  rintro e w' ⟨rfl, rfl⟩
  go_wp2_with fail
  refine (cursor_read_ex _ _).mono ?_
  rintro e w1 ⟨b, rfl, hle, hb1, hr1⟩
  go_wp2_with fail
  refine (ct.out _ _ hr1).mono ?_
  rintro e w2 ⟨rfl, u2, hr2⟩
  go_wp2_with fail
  refine (ct2.out _ _ hr2).mono ?_
  rintro e w3 ⟨rfl, u3, hr3⟩
  have cf := Lib.hid (cursor_fault _ _ _ hr3)
  go_wp2_with fail
  refine cf.out.mono ?_
  rintro e w' ⟨rfl, rfl⟩
  have hlt : w.heap.size < b := by simp at hle; omega
  have hB1 := Below.blk hb1 (Blk.new w frameZ 58) (by simp)
  have hB2 := u2.blk hB1 (by omega)
  have hB3 := u3.blk hB2 (by omega)
  have H1 := ((Below.refl w.heap.size w).alloc (Nat.le_refl _) (.cells frameZ 58)).trans (hb1.mono (by simp))
  have H2 := u2.below H1 (by omega) H1.size
  have H3 := Lib.hid (u3.below H2 (by omega) H2.size)
  have d0 := hB3.cell 0
  have d1 := hB3.cell 1
  have d2 := hB3.cell 2
  have f0 := hB3.free 0
  have f1 := hB3.free 1
  have f2 := hB3.free 2
  simp [frameZ] at d0 d1 d2
  clear H1 H2 hB1 hB2 hle
  go_wp2_with fail
  refine (CN.out _).mono ?_
  rintro e w' ⟨rfl, rfl⟩
  go_wp2_with fail
  refine bodyPost_ret (v := (PF.bad 3).v) (by simp [results, Try.results43, go_sem, PF.v, PF.bad, frameV, d0, d1, d2]) rfl ⟨rfl, ?_⟩
  exact ((H3.out.setCell (p := ⟨w.heap.size, 0, none⟩) (Nat.le_refl _) _).setCell (p := ⟨w.heap.size, 1, none⟩) (Nat.le_refl _) _).setCell (p := ⟨w.heap.size, 2, none⟩) (Nat.le_refl _) _

set_option maxRecDepth 100000 in
set_option maxHeartbeats 400000 in
theorem plain_next_ok (m : Int) (s : ByteArray) (n k id z : Nat) (w : World) (hm : -9223372036854775808 ≤ m ∧ m ≤ 9223372036854775807) (hs : s.size ≤ maxLen) (hp : pSize m s.data.toList = (n, k, 0)) (hov : k + n ≤ s.size) (hq : lebNext (s.extract k (k + n)).data.toList 0 0 = (id, z, 0)) :
    Calls Try.prog 43 #[.int .i64 m, .string s] w fun e w' => e = .returned (PF.mk id ((s.extract k (k + n)).extract z n) (k + n) 0).v ∧ Below w.heap.size w w' := by
  have c1 := fun w => plain_size m s w hm hs
  rw [hp] at c1
  have C1 := Lib.hid c1
  obtain ⟨h1, h2, h3, h4⟩ := pSize_ok hp
  rw [← Lib.size_eq] at h3
  have hs' := hs
  unfold maxLen at hs'
  have ct := Lib.hid (fun b w (h : IsR w b (RS.of s)) => cursor_take b (RS.of s) k w (RS.Ok.of hs') h)
  have e1 : RS.take (RS.of s) k = (⟨s, k, 0⟩, s.extract 0 k) := by
    show RS.take ⟨s, 0, 0⟩ k = _
    unfold RS.take; rw [if_pos rfl, if_neg (by omega), if_neg (by simp only []; omega)]; simp
  rw [e1] at ct
  have ct2 := Lib.hid (fun b w (h : IsR w b ⟨s, k, 0⟩) => cursor_take b ⟨s, k, 0⟩ n w ⟨h3, hs'⟩ h)
  have e2 : RS.take ⟨s, k, 0⟩ n = (⟨s, k + n, 0⟩, s.extract k (k + n)) := by
    unfold RS.take; rw [if_pos rfl, if_neg (by omega), if_neg (by simp only []; omega)]; rfl
  rw [e2] at ct2
  have hmf : ∀ (fn : Fn) (first cap : Array Value) (w : World), (Instr.makeFunc fn first cap).run Try.prog w = .ok (.func fn first cap) w := fun _ _ _ _ => rfl
  have hxs : (s.extract k (k + n)).size = n := by rw [ByteArray.size_extract]; omega
  have hz := (lebNext_ok hq).1
  rw [← Lib.size_eq, hxs] at hz
  have cn := fun w => leb_next (s.extract k (k + n)) w (by unfold maxLen; rw [ByteArray.size_extract]; omega)
  rw [hq] at cn
  have CN : Hid (∀ w, Calls Try.prog 63 #[.string (s.extract k (k + n))] w fun e' w' => e' = .returned (.tuple #[.int .u64 id, .int .i64 z, .int .i64 0]) ∧ w = w') := cn
  clear cn hq
  obtain ⟨X, hX⟩ : ∃ X, X = s.extract k (k + n) := ⟨_, rfl⟩
  rw [← hX] at hxs CN e2 ct2 ⊢
  clear hX
  clear c1 hp hm e1 e2 h1
  go_enter Try.func43, Try.ntmps43
  go_wp2_with fail
  refine (C1.out _).mono ?_
  rintro e w' ⟨rfl, rfl⟩
  go_wp2_with fail
  refine (cursor_read_ex _ _).mono ?_
  rintro e w1 ⟨b, rfl, hle, hb1, hr1⟩
  go_wp2_with fail
  refine (ct.out _ _ hr1).mono ?_
  rintro e w2 ⟨rfl, u2, hr2⟩
  go_wp2_with fail
  refine (ct2.out _ _ hr2).mono ?_
  rintro e w3 ⟨rfl, u3, hr3⟩
  have cf := Lib.hid (cursor_fault _ _ _ hr3)
  go_wp2_with fail
  refine cf.out.mono ?_
  rintro e w' ⟨rfl, rfl⟩
  have hlt : w.heap.size < b := by simp at hle; omega
  have hB1 := Below.blk hb1 (Blk.new w frameZ 58) (by simp)
  have hB2 := u2.blk hB1 (by omega)
  have hB3 := u3.blk hB2 (by omega)
  have H1 := ((Below.refl w.heap.size w).alloc (Nat.le_refl _) (.cells frameZ 58)).trans (hb1.mono (by simp))
  have H2 := u2.below H1 (by omega) H1.size
  have H3 := Lib.hid (u3.below H2 (by omega) H2.size)
  have d0 := hB3.cell 0
  have d1 := hB3.cell 1
  have d2 := hB3.cell 2
  have f0 := hB3.free 0
  have f1 := hB3.free 1
  have f2 := hB3.free 2
  simp [frameZ] at d0 d1 d2
  clear H1 H2 hB1 hB2 hle
  go_wp2_with fail
  refine (CN.out _).mono ?_
  rintro e w' ⟨rfl, rfl⟩
  go_wp2_with fail
  refine bodyPost_ret (v := (PF.mk id (X.extract z n) (k + n) 0).v) (by simp [results, Try.results43, go_sem, PF.v, frameV, d0, d1, d2]) rfl ⟨rfl, ?_⟩
  exact ((H3.out.setCell (p := ⟨w.heap.size, 0, none⟩) (Nat.le_refl _) _).setCell (p := ⟨w.heap.size, 1, none⟩) (Nat.le_refl _) _).setCell (p := ⟨w.heap.size, 2, none⟩) (Nat.le_refl _) _

end Go.Proofs.Ytekcehicjggmiaa
