/- The walk of PlainReads. -/
import Derived.Test.YtekcehicjggmiaaPlainLaws
namespace Go.Proofs.Ytekcehicjggmiaa
open Go.RowKit
set_option linter.unusedVariables false

def frameC (id : Nat) (b : ByteArray) : Array Value := #[.int .u64 id, .string ⟨#[]⟩, .string b]

set_option maxRecDepth 100000 in
set_option maxHeartbeats 1000000 in
theorem plain_reads (m : Int) (s : ByteArray) (c : Int) (w : World) (hm0 : (Lit.int .i64 m).wf = true) (hs : s.size ≤ maxLen) (hc : (Lit.int .u16 c).wf = true) :
    Calls Try.prog 13 #[.int .i64 m, .string s, .int .u16 c] w fun e w' => e = .returned (.bool true) ∧ Below w.heap.size w w' := by
  have hm := pi64 hm0
  obtain ⟨hc0, hc1⟩ := pu16 hc
  clear hc hm0
  by_cases hl : 1000 < s.size
  · unfold maxLen at hs
    go_enter Try.func13, Try.ntmps13
    go_wp2_with fail
    refine (plain_alive _).mono ?_
    rintro e w1 ⟨rfl, hb1⟩
    go_wp2_with fail
    go_returns
    exact ⟨rfl, hb1⟩
  · obtain ⟨k, hk, hk0, hk1⟩ : ∃ k : Nat, (if (s.size : Int) < c then (s.size : Int) else c) = (k : Int) ∧ min c (s.size : Int) = (k : Int) ∧ k ≤ s.size :=
      ⟨min s.size c.toNat, by split <;> omega, by omega, by omega⟩
    have hl1 : s.size ≤ 1000 := by omega
    have c1 := fun w => plain_size m s w hm hs
    have c2 := fun w => ref_size m s w hm hs
    have c3 := fun w => plain_next m s w hm hs
    have c4 := fun w => ref15_next m s w hm hs
    have c5 := fun w => plain_next m (s.extract 0 k) w hm (by rw [ByteArray.size_extract]; omega)
    have htake := pNext_take m s k hk1
    have hback := fun id n b => pPut_next (most := m) (s := s) (id := id) (n := n) (b := b)
    generalize pSize m s.data.toList = sz at *
    generalize pNext m (s.extract 0 k) = f' at *
    generalize pNext m s = f at *
    obtain ⟨a1, a2, a3⟩ := sz
    obtain ⟨id, body, n, er⟩ := f
    obtain ⟨id', body', n', er'⟩ := f'
    have C1 : Hid (∀ w, Calls Try.prog 44 #[.int .i64 m, .string s] w fun e w' => e = .returned (.tuple #[.int .i64 a1, .int .i64 a2, .int .i64 a3]) ∧ w = w') := c1
    have C2 : Hid (∀ w, Calls Try.prog 45 #[.int .i64 m, .string s] w fun e w' => e = .returned (.tuple #[.int .i64 a1, .int .i64 a2, .int .i64 a3]) ∧ w = w') := c2
    have C3 : Hid (∀ w, Calls Try.prog 43 #[.int .i64 m, .string s] w fun e w' => e = .returned (.tuple #[.agg #[.int .u64 id, .string ⟨#[]⟩, .string body], .int .i64 n, .int .i64 er]) ∧ Below w.heap.size w w') := c3
    have C4 : Hid (∀ w, Calls Try.prog 46 #[.int .i64 m, .string s] w fun e w' => e = .returned (.tuple #[.agg #[.int .u64 id, .string ⟨#[]⟩, .string body], .int .i64 n, .int .i64 er]) ∧ Below w.heap.size w w') := c4
    have C5 : Hid (∀ w, Calls Try.prog 43 #[.int .i64 m, .string (s.extract 0 k)] w fun e w' => e = .returned (.tuple #[.agg #[.int .u64 id', .string ⟨#[]⟩, .string body'], .int .i64 n', .int .i64 er']) ∧ Below w.heap.size w w') := c5
    have hcut : er' = 2 ∨ (er' ≠ 2 ∧ id' = id ∧ body' = body ∧ n' = n ∧ er' = er) := by
      rcases htake with h | h
      · exact .inl (by simpa [PF.bad] using congrArg PF.e h)
      · by_cases h2 : er' = 2
        · exact .inl h2
        · simp only [PF.mk.injEq] at h
          exact .inr ⟨h2, h⟩
    clear c1 c2 c3 c4 c5 htake hl hm
    unfold maxLen at hs
    by_cases her : er = 0
    · subst her
      obtain ⟨h1, h2, h3, h4⟩ := hback id n body rfl
      have cp := fun w => plain_put id body w h2 (by omega)
      rw [h4] at cp
      have cp := Lib.hid cp
      clear hback h2 h3 h4
      rcases hcut with rfl | ⟨g2, rfl, rfl, rfl, rfl⟩
      · go_enter Try.func13, Try.ntmps13
        go_wp2_with fail
        refine (plain_alive _).mono ?_
        rintro e w1 ⟨rfl, hb1⟩
        go_wp2_with fail
        refine (C1.out _).mono ?_
        rintro e w' ⟨rfl, rfl⟩
        go_wp2_with fail
        refine (C2.out _).mono ?_
        rintro e w' ⟨rfl, rfl⟩
        go_wp2_with fail
        refine (C3.out _).mono ?_
        rintro e w3 ⟨rfl, hb3⟩
        go_wp2_with fail
        refine (C4.out _).mono ?_
        rintro e w4 ⟨rfl, hb4⟩
        have hF := Below.blk hb4 (Blk.new w3 (frameC id body) 58) (by simp)
        have hlt4 : w3.heap.size < w4.heap.size := by have := hb4.size; simp at this; omega
        have d0 := hF.cell 0
        have d1 := hF.cell 1
        have d2 := hF.cell 2
        simp [frameC] at d0 d1 d2
        go_wp2_with fail
        refine (C5.out _).mono ?_
        rintro e w5 ⟨rfl, hb5⟩
        have hF5 := Below.blk hb5 (hF.alloc (.cells (frameC id body) 58)) (by simp; omega)
        have hlt5 : w3.heap.size < w5.heap.size := by have := hb5.size; simp at this; omega
        have e0 := hF5.cell 0
        have e1 := hF5.cell 1
        have e2 := hF5.cell 2
        simp [frameC] at e0 e1 e2
        clear d0 d1 d2
        have b3 := Lib.hid (hb1.trans (hb3.mono hb1.size))
        have b4 := Lib.hid ((b3.out.alloc b3.out.size _).trans (hb4.mono (by have := b3.out.size; simp; omega)))
        have b5 := Lib.hid ((b4.out.alloc b4.out.size _).trans (hb5.mono (by have := b4.out.size; simp; omega)))
        go_wp2_with fail
        refine (cp.out _).mono ?_
        rintro e w6 ⟨rfl, hb6⟩
        have b6 := (b5.out.alloc b5.out.size _).trans (hb6.mono (by have := b5.out.size; simp; omega))
        go_wp2_with fail
        go_returns
        exact ⟨rfl, b6⟩
      · have g2' : ((0 : Int) != 2) = true := rfl
        clear g2
        go_enter Try.func13, Try.ntmps13
        go_wp2_with fail
        refine (plain_alive _).mono ?_
        rintro e w1 ⟨rfl, hb1⟩
        go_wp2_with fail
        refine (C1.out _).mono ?_
        rintro e w' ⟨rfl, rfl⟩
        go_wp2_with fail
        refine (C2.out _).mono ?_
        rintro e w' ⟨rfl, rfl⟩
        go_wp2_with fail
        refine (C3.out _).mono ?_
        rintro e w3 ⟨rfl, hb3⟩
        go_wp2_with fail
        refine (C4.out _).mono ?_
        rintro e w4 ⟨rfl, hb4⟩
        have hF := Below.blk hb4 (Blk.new w3 (frameC id' body') 58) (by simp)
        have hlt4 : w3.heap.size < w4.heap.size := by have := hb4.size; simp at this; omega
        have d0 := hF.cell 0
        have d1 := hF.cell 1
        have d2 := hF.cell 2
        simp [frameC] at d0 d1 d2
        go_wp2_with fail
        refine (C5.out _).mono ?_
        rintro e w5 ⟨rfl, hb5⟩
        have hF5 := Below.blk hb5 (hF.alloc (.cells (frameC id' body') 58)) (by simp; omega)
        have hlt5 : w3.heap.size < w5.heap.size := by have := hb5.size; simp at this; omega
        have e0 := hF5.cell 0
        have e1 := hF5.cell 1
        have e2 := hF5.cell 2
        simp [frameC] at e0 e1 e2
        clear d0 d1 d2
        have b3 := Lib.hid (hb1.trans (hb3.mono hb1.size))
        have b4 := Lib.hid ((b3.out.alloc b3.out.size _).trans (hb4.mono (by have := b3.out.size; simp; omega)))
        have b5 := Lib.hid ((b4.out.alloc b4.out.size _).trans (hb5.mono (by have := b4.out.size; simp; omega)))
        go_wp2_with fail
        refine (cp.out _).mono ?_
        rintro e w6 ⟨rfl, hb6⟩
        have b6 := (b5.out.alloc b5.out.size _).trans (hb6.mono (by have := b5.out.size; simp; omega))
        go_wp2_with fail
        go_returns
        exact ⟨rfl, b6⟩
    · have her1 : ((er : Int) != 0) = true := by rw [bne_iff_ne]; omega
      clear her hback
      rcases hcut with rfl | ⟨g2, rfl, rfl, rfl, rfl⟩
      · go_enter Try.func13, Try.ntmps13
        go_wp2_with fail
        refine (plain_alive _).mono ?_
        rintro e w1 ⟨rfl, hb1⟩
        go_wp2_with fail
        refine (C1.out _).mono ?_
        rintro e w' ⟨rfl, rfl⟩
        go_wp2_with fail
        refine (C2.out _).mono ?_
        rintro e w' ⟨rfl, rfl⟩
        go_wp2_with fail
        refine (C3.out _).mono ?_
        rintro e w3 ⟨rfl, hb3⟩
        go_wp2_with fail
        refine (C4.out _).mono ?_
        rintro e w4 ⟨rfl, hb4⟩
        have hF := Below.blk hb4 (Blk.new w3 (frameC id body) 58) (by simp)
        have hlt4 : w3.heap.size < w4.heap.size := by have := hb4.size; simp at this; omega
        have d0 := hF.cell 0
        have d1 := hF.cell 1
        have d2 := hF.cell 2
        simp [frameC] at d0 d1 d2
        go_wp2_with fail
        refine (C5.out _).mono ?_
        rintro e w5 ⟨rfl, hb5⟩
        have hF5 := Below.blk hb5 (hF.alloc (.cells (frameC id body) 58)) (by simp; omega)
        have hlt5 : w3.heap.size < w5.heap.size := by have := hb5.size; simp at this; omega
        have e0 := hF5.cell 0
        have e1 := hF5.cell 1
        have e2 := hF5.cell 2
        simp [frameC] at e0 e1 e2
        clear d0 d1 d2
        have b3 := Lib.hid (hb1.trans (hb3.mono hb1.size))
        have b4 := Lib.hid ((b3.out.alloc b3.out.size _).trans (hb4.mono (by have := b3.out.size; simp; omega)))
        have b5 := Lib.hid ((b4.out.alloc b4.out.size _).trans (hb5.mono (by have := b4.out.size; simp; omega)))
        go_wp2_with fail
        go_returns
        exact ⟨rfl, b5.out.alloc b5.out.size _⟩
      · have g2' : ((er' : Int) != 2) = true := by rw [bne_iff_ne]; omega
        clear g2
        go_enter Try.func13, Try.ntmps13
        go_wp2_with fail
        refine (plain_alive _).mono ?_
        rintro e w1 ⟨rfl, hb1⟩
        go_wp2_with fail
        refine (C1.out _).mono ?_
        rintro e w' ⟨rfl, rfl⟩
        go_wp2_with fail
        refine (C2.out _).mono ?_
        rintro e w' ⟨rfl, rfl⟩
        go_wp2_with fail
        refine (C3.out _).mono ?_
        rintro e w3 ⟨rfl, hb3⟩
        go_wp2_with fail
        refine (C4.out _).mono ?_
        rintro e w4 ⟨rfl, hb4⟩
        have hF := Below.blk hb4 (Blk.new w3 (frameC id' body') 58) (by simp)
        have hlt4 : w3.heap.size < w4.heap.size := by have := hb4.size; simp at this; omega
        have d0 := hF.cell 0
        have d1 := hF.cell 1
        have d2 := hF.cell 2
        simp [frameC] at d0 d1 d2
        go_wp2_with fail
        refine (C5.out _).mono ?_
        rintro e w5 ⟨rfl, hb5⟩
        have hF5 := Below.blk hb5 (hF.alloc (.cells (frameC id' body') 58)) (by simp; omega)
        have hlt5 : w3.heap.size < w5.heap.size := by have := hb5.size; simp at this; omega
        have e0 := hF5.cell 0
        have e1 := hF5.cell 1
        have e2 := hF5.cell 2
        simp [frameC] at e0 e1 e2
        clear d0 d1 d2
        have b3 := Lib.hid (hb1.trans (hb3.mono hb1.size))
        have b4 := Lib.hid ((b3.out.alloc b3.out.size _).trans (hb4.mono (by have := b3.out.size; simp; omega)))
        have b5 := Lib.hid ((b4.out.alloc b4.out.size _).trans (hb5.mono (by have := b4.out.size; simp; omega)))
        go_wp2_with fail
        go_returns
        exact ⟨rfl, b5.out.alloc b5.out.size _⟩
end Go.Proofs.Ytekcehicjggmiaa
