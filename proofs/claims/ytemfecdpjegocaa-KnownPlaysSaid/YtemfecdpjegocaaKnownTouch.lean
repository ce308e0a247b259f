/- known.Touch; what a nil set answers; New of a bad room. -/
import Derived.Test.YtemfecdpjegocaaPull
import Derived.Test.YtemfecdpjegocaaKnownSum
namespace Go.Proofs.Ytemfecdpjegocaa
open Go.RowKit
set_option linter.unusedVariables false
set_option linter.unusedSimpArgs false

theorem find_moved {R1 R2 : List (Nat × List UInt8)} {y : Nat × List UInt8} (h : ((R1 ++ y :: R2).map Prod.snd).Nodup) (x : List UInt8) :
    (R1 ++ y :: R2).find? (fun z => z.2 == x) = (R1 ++ R2 ++ [y]).find? (fun z => z.2 == x) := by
  rw [List.map_append, List.map_cons, List.nodup_append] at h
  obtain ⟨h1, h2, h3⟩ := h
  rw [List.nodup_cons] at h2
  rw [List.find?_append, List.find?_append, List.find?_append, List.find?_cons]
  by_cases hx : y.2 = x
  · subst hx
    have n1 : R1.find? (fun z => z.2 == y.2) = none := by
      rw [List.find?_eq_none]; intro z hz he
      exact h3 z.2 (List.mem_map_of_mem hz) y.2 (by simp) (by simpa using he)
    have n2 : R2.find? (fun z => z.2 == y.2) = none := by
      rw [List.find?_eq_none]; intro z hz he
      exact h2.1 (by rw [← (by simpa using he : z.2 = y.2)]; exact List.mem_map_of_mem hz)
    rw [n1, n2]; simp
  · have e : (y.2 == x) = false := by rw [beq_eq_false_iff_ne]; exact hx
    simp only [e, List.find?_cons, List.find?_nil, Option.or_none]
theorem nodup_moved {α : Type} {R1 R2 : List α} {y : α} (h : (R1 ++ y :: R2).Nodup) : (R1 ++ R2 ++ [y]).Nodup := by
  rw [List.nodup_append] at h
  obtain ⟨h1, h2, h3⟩ := h
  rw [List.nodup_cons] at h2
  rw [List.nodup_append, List.nodup_append]
  refine ⟨⟨h1, h2.2, fun a ha b hb => h3 a ha b (List.mem_cons_of_mem _ hb)⟩, by simp, fun a ha b hb e => ?_⟩
  obtain rfl : b = y := by simpa using hb
  subst e
  rcases List.mem_append.1 ha with ha | ha
  · exact h3 a ha a (by simp) rfl
  · exact h2.1 ha

/-- What Touch leaves where the sum is there. -/
def Touched (bs bm n room : Nat) (R : List (Nat × List UInt8)) (s : List UInt8) (w w' : World) : Prop :=
  ∃ R1 b R2, R = R1 ++ (b, s) :: R2 ∧ SetAt bs bm n room w' (R1 ++ R2 ++ [(b, s)]) ∧ KeepsO (OwnR bs bm R) w w'

def TouchKPost (bs bm n room : Nat) (R : List (Nat × List UInt8)) (T : ByteArray) (w : World) (en : Ending) (w' : World) : Prop :=
  en = .returned (.bool (hasR R T.data.toList)) ∧
      ((hasR R T.data.toList = false ∧ Below w.heap.size w w') ∨ (hasR R T.data.toList = true ∧ Touched bs bm n room R T.data.toList w w'))

set_option maxRecDepth 100000 in
set_option maxHeartbeats 1000000 in
theorem known_touch {bs bm n room : Nat} {w : World} {R : List (Nat × List UInt8)} (h : SetAt bs bm n room w R) (body T : ByteArray) (hT0 : T.size ≤ 1000)
    (hs : ∀ w, Calls Try.prog 46 #[.string body] w fun e w' => e = .returned (.string T) ∧ Below w.heap.size w w') :
    Calls Try.prog 26 #[.pointer (some ⟨bs, 0, none⟩), .string body] w (TouchKPost bs bm n room R T w) := by
  have hT : T.size ≤ maxLen := by unfold maxLen; omega
  have CS := Lib.hid hs
  have H := Lib.hid h
  have hbl := h.row.bd.lt
  have c1 := fun (x : Fut w) => (show x.at_.cell? ⟨bs, 1, none⟩ = some (.map (some bm)) from (x.is.cell (p := ⟨bs, 1, none⟩) hbl).trans (h.row.bd.cell 1))
  have hlk : ∀ x : Fut w, (Instr.lookup 98 (.map (some bm)) (.string T) false).run Try.prog x.at_ = .ok (pv (((R.find? (fun x => x.2 == T.data.toList)).map Prod.fst))) x.at_ := fun x => (h.below x.is).mp.look lnk_types T hT
  have hv2 := find_has R T.data.toList
  cases hf : R.find? (fun x => x.2 == T.data.toList) with
  | none =>
    rw [hf] at hlk hv2
    have HH : Hid (hasR R T.data.toList = false) := hv2.symm
    simp only [pv, Option.map_none] at hlk
    clear h hs hf hv2 H hT0
    go_enter Try.func26, Try.ntmps26
    go_upto_region 3 with fail
    refine wp_region_after (by kernel_rfl) (by kernel_rfl) ?_
    repeat (go_big_quiet_step (exact Calls.after (CS.out _)))
    refine wpQuiet_nil ?_
    intro x
    go_wp2_with fail
    go_returns
    exact ⟨congrArg (fun b => Ending.returned (.bool b)) HH.out.symm, .inl ⟨HH.out, x.is⟩⟩
  | some y =>
    rw [hf] at hlk hv2
    have HH : Hid (hasR R T.data.toList = true) := hv2.symm
    obtain ⟨hy, R1, R2, hR, hn1⟩ := List.find?_eq_some_iff_append.1 hf
    obtain ⟨b, s⟩ := y
    have hsT : s = T.data.toList := by simpa using hy
    subst hsT
    simp only [pv, Option.map_some] at hlk
    subst hR
    have HTS := Lib.hid hT0
    clear h hs hf hv2 hy hn1 hT0
    go_enter Try.func26, Try.ntmps26
    go_upto_region 3 with fail
    refine wp_region_after (by kernel_rfl) (by kernel_rfl) ?_
    repeat (go_big_quiet_step (exact Calls.after (CS.out _)))
    refine wpQuiet_nil ?_
    intro x
    have hset : Hid (SetAt bs bm n room x.at_ (R1 ++ (b, T.data.toList) :: R2)) := H.out.below x.is
    go_wp2_with fail
    refine (pull_any hset.out.row).mono ?_
    rintro e w6 ⟨rfl, hr6, hb6, hk6⟩
    have hne := hset.out.row.ne (b, T.data.toList) (by simp)
    have hnd := nd_parts hset.out.row.nd
    have hnb : b ∉ (R1 ++ R2).map Prod.fst := by
      intro hm
      obtain ⟨z, hz, hze⟩ := List.mem_map.1 hm
      rcases List.mem_append.1 hz with hz | hz
      · exact hnd.2.1 z hz hze
      · exact hnd.2.2.1 z hz hze
    have hnm : ∀ i, RowR bs (R1 ++ (b, T.data.toList) :: R2) i → i ≠ bm := by
      rintro i (ho | ho) rfl
      · exact hset.out.hb ho.symm
      · obtain ⟨x, hx, he⟩ := List.mem_map.1 ho
        exact (hset.out.row.ne x hx).2 he
    have hm6 := hset.out.mp.block (hk6.block bm hset.out.mp.lt fun ho => hnm bm ho rfl)
    have hp := known_push hr6 b T.data.toList _ _ hb6 hne hnb
    have H6 := Lib.hid (And.intro hm6 (And.intro hk6 hnm))
    have HP := Lib.hid hp
    clear hr6 hb6 hk6 hnm hm6 hp hnb hnd hne
    go_wp2_with fail
    refine HP.out.mono ?_
    rintro e w7 ⟨rfl, hr7, hk7⟩
    have hsame : ∀ i, RowR bs (R1 ++ R2 ++ [(b, T.data.toList)]) i → RowR bs (R1 ++ (b, T.data.toList) :: R2) i := by
      rintro i (ho | ho)
      · exact .inl ho
      · refine .inr ?_
        simp only [List.map_append, List.map_cons, List.map_nil, List.mem_append, List.mem_cons, List.not_mem_nil, or_false] at ho ⊢
        rcases ho with (ho | ho) | ho
        · exact .inl ho
        · exact .inr (.inr ho)
        · exact .inr (.inl ho)
    have hm7 := H6.out.1.block (hk7.block bm H6.out.1.lt fun ho => H6.out.2.2 bm (hsame bm ho) rfl)
    have hset7 : Hid (SetAt bs bm n room w7 (R1 ++ R2 ++ [(b, T.data.toList)])) := by
      refine ⟨hr7, ?_, ?_, hset.out.hb, fun z hz => hset.out.szs z ?_⟩
      · have e1 : (R1 ++ R2 ++ [(b, T.data.toList)]).length = (R1 ++ (b, T.data.toList) :: R2).length := by simp only [List.length_append, List.length_cons, List.length_nil]; omega
        rw [e1]
        have e2 : (fun s => ((R1 ++ R2 ++ [(b, T.data.toList)]).find? (fun z => z.2 == s)).map Prod.fst) = (fun s => ((R1 ++ (b, T.data.toList) :: R2).find? (fun z => z.2 == s)).map Prod.fst) := by
          funext s; rw [find_moved hset.out.nd]
        rw [e2]
        exact hm7
      · have := hset.out.nd
        rw [List.map_append, List.map_cons] at this
        rw [List.map_append, List.map_append]
        exact nodup_moved this
      · simp only [List.mem_append, List.mem_cons, List.not_mem_nil, or_false] at hz ⊢
        rcases hz with (hz | hz) | hz
        · exact .inl hz
        · exact .inr (.inr hz)
        · exact .inr (.inl hz)
    have hk8 : Hid (KeepsO (OwnR bs bm (R1 ++ (b, T.data.toList) :: R2)) w w7) :=
      (((KeepsO.refl _ w).ofBelow x.is).trans (H6.out.2.1.mono fun i _ ho => RowR.own ho)).trans (hk7.mono fun i _ ho => RowR.own (hsame i ho))
    clear hm7 hr7 hk7 hsame
    go_wp2_with fail
    go_returns
    exact ⟨congrArg (fun b => Ending.returned (.bool b)) HH.out.symm, .inr ⟨HH.out, R1, b, R2, rfl, hset7.out, hk8.out⟩⟩

set_option maxRecDepth 100000 in
theorem known_new_bad (room : Int) (w : World) (h : room < 1 ∨ 1024 < room) : Calls Try.prog 15 #[.int .i64 room] w fun en w' => en = .returned (.tuple #[.pointer none, .int .i64 1]) ∧ w' = w := by
  have hb : decide (room < 1) = true ∨ (decide (room < 1) = false ∧ decide (1024 < room) = true) := by
    by_cases c : room < 1
    · exact .inl (by simp; exact c)
    · exact .inr ⟨by simp; omega, by simp; omega⟩
  clear h
  rcases hb with h0 | ⟨h0, h1⟩
  all_goals
    go_enter Try.func15, Try.ntmps15
    go_wp2_with fail
    go_returns
    exact ⟨rfl, rfl⟩
set_option maxRecDepth 100000 in
theorem nil_sum (i : Int) (w : World) : Calls Try.prog 25 #[.pointer none, .int .i64 i] w fun en w' => en = .returned (.tuple #[.string ⟨#[]⟩, .bool false]) ∧ w' = w := by
  go_enter Try.func25, Try.ntmps25
  go_wp2_with fail
  go_returns
  exact ⟨rfl, rfl⟩
set_option maxRecDepth 100000 in
theorem nil_add (s : ByteArray) (w : World) : Calls Try.prog 16 #[.pointer none, .string s] w fun en w' => en = .returned (.bool false) ∧ w' = w := by
  go_enter Try.func16, Try.ntmps16
  go_wp2_with fail
  go_returns
  exact ⟨rfl, rfl⟩
set_option maxRecDepth 100000 in
theorem nil_touch (s : ByteArray) (w : World) : Calls Try.prog 26 #[.pointer none, .string s] w fun en w' => en = .returned (.bool false) ∧ w' = w := by
  go_enter Try.func26, Try.ntmps26
  go_wp2_with fail
  go_returns
  exact ⟨rfl, rfl⟩
set_option maxRecDepth 100000 in
theorem nil_has (s : ByteArray) (w : World) : Calls Try.prog 17 #[.pointer none, .string s] w fun en w' => en = .returned (.bool false) ∧ Below w.heap.size w w' := by
  go_enter Try.func17, Try.ntmps17
  go_upto_region 1 with fail
  refine wp_region_after (by kernel_rfl) (by kernel_rfl) ?_
  repeat (go_big_quiet_step (fail))
  refine wpQuiet_nil ?_
  intro x
  go_wp2_with fail
  go_returns
  exact ⟨rfl, x.is⟩
set_option maxRecDepth 100000 in
theorem nil_len (w : World) : Calls Try.prog 18 #[.pointer none] w fun en w' => en = .returned (.int .i64 0) ∧ w' = w := by
  go_enter Try.func18, Try.ntmps18
  go_wp2_with fail
  go_returns
  exact ⟨rfl, rfl⟩
set_option maxRecDepth 100000 in
theorem nil_ask (a : Option Addr) (n c : Nat) (w : World) : Calls Try.prog 23 #[.pointer none, .slice a n c] w fun en w' => en = .returned (.slice none 0 0) ∧ w' = w := by
  go_enter Try.func23, Try.ntmps23
  go_wp2_with fail
  go_returns
  exact ⟨rfl, rfl⟩
end Go.Proofs.Ytemfecdpjegocaa
