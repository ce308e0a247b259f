/- known.Add, Has, Len. -/
import Derived.Test.YtemfecdpjegocaaKnown
import Derived.Test.YtemfecdpjegocaaTwice
namespace Go.Proofs.Ytemfecdpjegocaa
open Go.RowKit
set_option linter.unusedVariables false
set_option linter.unusedSimpArgs false

/-- A row to which a sum is added. -/
def addR (R : List (Nat × List UInt8)) (room bl : Nat) (s : List UInt8) : List (Nat × List UInt8) :=
  if hasR R s then R else if room < R.length + 1 then (R ++ [(bl, s)]).tail else R ++ [(bl, s)]

theorem SetAt.find {bs bm n room : Nat} {w : World} {R : List (Nat × List UInt8)} (h : SetAt bs bm n room w R) (T : ByteArray) (hT : T.size ≤ maxLen) :
    ∃ v, (Instr.lookup 98 (.map (some bm)) (.string T) false).run Try.prog w = .ok (pv v) w ∧ v.isSome = hasR R T.data.toList :=
  ⟨_, h.mp.look lnk_types T hT, find_has R T.data.toList⟩

set_option maxRecDepth 100000 in
theorem known_has {bs bm n room : Nat} {w : World} {R : List (Nat × List UInt8)} (h : SetAt bs bm n room w R) (body T : ByteArray) (hT : T.size ≤ maxLen)
    (hs : ∀ w, Calls Try.prog 46 #[.string body] w fun e w' => e = .returned (.string T) ∧ Below w.heap.size w w') :
    Calls Try.prog 17 #[.pointer (some ⟨bs, 0, none⟩), .string body] w fun en w' => en = .returned (.bool (hasR R T.data.toList)) ∧ Below w.heap.size w w' := by
  have CS := Lib.hid hs
  have hbl := h.row.bd.lt
  have c1 := fun (x : Fut w) => (show x.at_.cell? ⟨bs, 1, none⟩ = some (.map (some bm)) from (x.is.cell (p := ⟨bs, 1, none⟩) hbl).trans (h.row.bd.cell 1))
  have hlk : ∀ x : Fut w, (Instr.lookup 98 (.map (some bm)) (.string T) false).run Try.prog x.at_ = .ok (pv (((R.find? (fun x => x.2 == T.data.toList)).map Prod.fst))) x.at_ := fun x => (h.below x.is).mp.look lnk_types T hT
  have hv2 := find_has R T.data.toList
  generalize ((R.find? (fun x => x.2 == T.data.toList)).map Prod.fst) = o at *
  generalize hasR R T.data.toList = hb at *
  clear h hs
  cases o with
  | none =>
    obtain rfl : false = hb := hv2
    simp only [pv, Option.map_none] at hlk
    go_enter Try.func17, Try.ntmps17
    go_upto_region 1 with fail
    refine wp_region_after (by kernel_rfl) (by kernel_rfl) ?_
    repeat (go_big_quiet_step (exact Calls.after (CS.out _)))
    refine wpQuiet_nil ?_
    intro x
    go_wp2_with fail
    go_returns
    exact ⟨rfl, x.is⟩
  | some b =>
    obtain rfl : true = hb := hv2
    simp only [pv, Option.map_some] at hlk
    go_enter Try.func17, Try.ntmps17
    go_upto_region 1 with fail
    refine wp_region_after (by kernel_rfl) (by kernel_rfl) ?_
    repeat (go_big_quiet_step (exact Calls.after (CS.out _)))
    refine wpQuiet_nil ?_
    intro x
    go_wp2_with fail
    go_returns
    exact ⟨rfl, x.is⟩

set_option maxRecDepth 100000 in
theorem known_len {bs bm n room : Nat} {w : World} {R : List (Nat × List UInt8)} (h : SetAt bs bm n room w R) :
    Calls Try.prog 18 #[.pointer (some ⟨bs, 0, none⟩)] w fun en w' => en = .returned (.int .i64 (R.length : Nat)) ∧ w' = w := by
  have c1 : w.cell? ⟨bs, 1, none⟩ = some (.map (some bm)) := h.row.bd.cell 1
  have hl := fun ty => h.mp.len lnk_types ty
  clear h
  go_enter Try.func18, Try.ntmps18
  go_wp2_with fail
  go_returns
  exact ⟨rfl, rfl⟩

set_option maxRecDepth 100000 in
theorem known_add_old {bs bm n room : Nat} {w : World} {R : List (Nat × List UInt8)} (h : SetAt bs bm n room w R) (body T : ByteArray) (hT : T.size ≤ maxLen)
    (hs : ∀ w, Calls Try.prog 46 #[.string body] w fun e w' => e = .returned (.string T) ∧ Below w.heap.size w w') (hh : hasR R T.data.toList = true) :
    Calls Try.prog 16 #[.pointer (some ⟨bs, 0, none⟩), .string body] w fun en w' => en = .returned (.bool false) ∧ Below w.heap.size w w' := by
  have CS := Lib.hid hs
  have H := Lib.hid h
  have HH := Lib.hid hh
  clear hs h hh
  go_enter Try.func16, Try.ntmps16
  go_wp2_with fail
  refine (CS.out _).mono ?_
  rintro e w1 ⟨rfl, hb1⟩
  have h1 := H.out.below hb1
  have c1 : w1.cell? ⟨bs, 1, none⟩ = some (.map (some bm)) := h1.row.bd.cell 1
  obtain ⟨v, hv, hs1⟩ := h1.find T hT
  rw [HH.out] at hs1
  obtain ⟨b, rfl⟩ := Option.isSome_iff_exists.1 hs1
  simp only [pv, Option.map_some] at hv
  have HB := Lib.hid hb1
  clear h1 hs1 hb1
  go_wp2_with fail
  go_returns
  exact ⟨rfl, HB.out⟩

theorem RowR.own {bs bm : Nat} {R : List (Nat × List UInt8)} {i : Nat} (h : RowR bs R i) : OwnR bs bm R i := by
  rcases h with h | h
  · exact .inl h
  · exact .inr (.inr h)
theorem nd_snoc {R : List (Nat × List UInt8)} {bl : Nat} {s : List UInt8} (h : (R.map Prod.snd).Nodup) (hh : hasR R s = false) : ((R ++ [(bl, s)]).map Prod.snd).Nodup := by
  rw [List.map_append, List.nodup_append]
  refine ⟨h, by simp, fun x hx y hy e => ?_⟩
  simp only [List.map_cons, List.map_nil, List.mem_singleton] at hy
  subst hy; subst e
  obtain ⟨z, hz, rfl⟩ := List.mem_map.1 hx
  unfold hasR at hh
  rw [List.any_eq_false] at hh
  exact hh z hz (by simp)

set_option maxRecDepth 100000 in
set_option maxHeartbeats 2000000 in
theorem known_add_new {bs bm n room : Nat} {w : World} {R : List (Nat × List UInt8)} (h : SetAt bs bm n room w R) (body T : ByteArray) (hT0 : T.size ≤ 1000) (hroom : 1 ≤ room) (hn : n < maxLen) (hnb : n ≤ 100000)
    (hs : ∀ w, Calls Try.prog 46 #[.string body] w fun e w' => e = .returned (.string T) ∧ Below w.heap.size w w') (hh : hasR R T.data.toList = false) :
    Calls Try.prog 16 #[.pointer (some ⟨bs, 0, none⟩), .string body] w fun en w' => ∃ bl, en = .returned (.bool true) ∧ w.heap.size ≤ bl ∧ SetAt bs bm (n + 1) room w' (addR R room bl T.data.toList) ∧ KeepsO (OwnR bs bm R) w w' := by
  have CS := Lib.hid hs
  have H := Lib.hid h
  have HH := Lib.hid hh
  have hlen := h.mp.sz_le
  have hT : T.size ≤ maxLen := by unfold maxLen; omega
  clear hs h hh
  go_enter Try.func16, Try.ntmps16
  go_wp2_with fail
  refine (CS.out _).mono ?_
  rintro e w1 ⟨rfl, hb1⟩
  have h1 := H.out.below hb1
  have c1 : w1.cell? ⟨bs, 1, none⟩ = some (.map (some bm)) := h1.row.bd.cell 1
  obtain ⟨v, hv, hs1⟩ := h1.find T hT
  rw [HH.out] at hs1
  obtain rfl : v = none := by cases v with | none => rfl | some _ => cases hs1
  simp only [pv, Option.map_none] at hv
  obtain ⟨g, hg⟩ : ∃ g, w1.heap.size = g := ⟨_, rfl⟩
  have hgw : w.heap.size ≤ g := by have := hb1.size; omega
  have h2 := h1.below ((Below.refl _ _).alloc (Nat.le_refl _) (.cells #[.string T, .pointer none, .pointer none] 104))
  have hown := fun i hi => H.out.lt i hi
  have hl2 : Blk (w1.alloc (.cells #[.string T, .pointer none, .pointer none] 104)) g #[.string T, .pointer none, .pointer none] 104 := hg ▸ Blk.new w1 _ _
  have hk2 : KeepsO (OwnR bs bm (R ++ [(g, T.data.toList)])) w (w1.alloc (.cells #[.string T, .pointer none, .pointer none] 104)) := ((KeepsO.refl _ w).ofBelow hb1).alloc _
  have hgbs : g ≠ bs := fun e => by have := hown bs (.inl rfl); omega
  have hgbm : g ≠ bm := fun e => by have := hown bm (.inr (.inl rfl)); omega
  have hgR : g ∉ R.map Prod.fst := fun hm => by have := hown g (.inr (.inr hm)); omega
  have H2 := Lib.hid (And.intro h2 (And.intro hl2 hk2))
  have HG := Lib.hid (And.intro hgw (And.intro hgbs (And.intro hgbm hgR)))
  clear h1 hs1 hb1 h2 hl2 hk2 hown hgR
  go_wp2_with fail
  generalize w1.alloc _ = w2 at *
  clear hg c1 hv
  refine (known_push H2.out.1.row g T.data.toList _ _ H2.out.2.1 ⟨HG.out.2.1, HG.out.2.2.1⟩ HG.out.2.2.2).mono ?_
  rintro e w3 ⟨rfl, hr3, hk3⟩
  have hm3 : PMap Try.prog 9 w3 bm n R.length (fun s => (R.find? (fun x => x.2 == s)).map Prod.fst) := by
    refine H2.out.1.mp.block (hk3.block bm H2.out.1.mp.lt fun ho => ?_)
    rcases ho with ho | ho
    · exact H2.out.1.hb ho.symm
    · rw [List.map_append] at ho
      rcases List.mem_append.1 ho with ho | ho
      · obtain ⟨x, hx, he⟩ := List.mem_map.1 ho
        exact (H2.out.1.row.ne x hx).2 he
      · simp at ho; exact HG.out.2.2.1 ho.symm
  have hkk3 := H2.out.2.2.trans (hk3.mono fun i _ ho => RowR.own ho)
  have hsz3 : w.heap.size ≤ w3.heap.size := hkk3.size
  have c3 : w3.cell? ⟨bs, 1, none⟩ = some (.map (some bm)) := hr3.bd.cell 1
  have H3 := Lib.hid (And.intro hr3 (And.intro hm3 hkk3))
  have hbb := Lib.hid H2.out.1.hb
  clear hr3 hk3 hm3 hkk3 H2
  go_wp2_with (first | (at_mapUpdate; refine wpList_pmap_store rfl (.tmp 28) (.tmp 29) (.tmp 30) rfl lnk_types H3.out.2.1 rfl T rfl hT g rfl hn ?_; intro w4 hm4 hu4))
  rw [find_has, HH.out, ← find_snoc HH.out] at hm4
  simp only [Bool.false_eq_true, if_false] at hm4
  have hr4 : RowAt bs bm room w4 (R ++ [(g, T.data.toList)]) := H3.out.1.kept (fun i hi _ hne => hu4.block i hi (by simpa using hne)) hbb.out
  have hk4 := H3.out.2.2.upd hu4 (.inr (.inl rfl))
  have hs4 : SetAt bs bm (n + 1) room w4 (R ++ [(g, T.data.toList)]) := ⟨hr4, by rw [List.length_append]; exact hm4, nd_snoc H.out.nd HH.out, hbb.out, fun x hx => by
    rcases List.mem_append.1 hx with hx | hx
    · exact H.out.szs x hx
    · simp at hx; subst hx; exact hT0⟩
  have c4 : w4.cell? ⟨bs, 1, none⟩ = some (.map (some bm)) := hr4.bd.cell 1
  have c0 : w4.cell? ⟨bs, 0, none⟩ = some (.int .i64 room) := hr4.bd.cell 0
  have hln : ∀ k ty, (Builtin.len_ #[98] ty #[.map (some bm)]).run Try.prog (w4.drewN k) = .ok (.int .i64 ((R.length : Nat) + 1)) (w4.drewN k) := fun k ty => by
    have := (hs4.drewN k).mp.len lnk_types ty
    rw [List.length_append] at this
    exact this
  have H4 := Lib.hid (And.intro hs4 hk4)
  clear hm4 hu4 hr4 hk4 hs4 H3 c3
  by_cases c : room < R.length + 1
  · have hd : decide ((room : Int) < (R.length : Int) + 1) = true := by simp; omega
    go_wp2_with fail
    go_quiet (fail)
    have hs5 := H4.out.1.drewN nq
    have hk5 := H4.out.2.drewN nq
    generalize w4.drewN nq = w5 at *
    clear H4
    obtain ⟨⟨b1, s1⟩, R2, rfl⟩ : ∃ x R2, R = x :: R2 := by
      cases R with
      | nil => simp at c; omega
      | cons x R2 => exact ⟨x, R2, rfl⟩
    obtain ⟨⟨b2, s2⟩, R3, he⟩ : ∃ x R3, R2 ++ [(g, T.data.toList)] = x :: R3 := by
      cases R2 with
      | nil => exact ⟨_, _, rfl⟩
      | cons x R2 => exact ⟨_, _, rfl⟩
    have hres : addR ((b1, s1) :: R2) room g T.data.toList = (b2, s2) :: R3 := by
      unfold addR; rw [HH.out, if_pos c, ← he]; rfl
    rw [List.cons_append, he] at hs5 hk5
    have hlR : ((b2, s2) :: R3).length = R2.length + 1 := by rw [← he, List.length_append]; rfl
    have c2 : w5.cell? ⟨bs, 2, none⟩ = some (.pointer (some ⟨b1, 0, none⟩)) := hs5.row.bd.cell 2
    have HR := Lib.hid (And.intro hres (And.intro hlR he))
    have H5 := Lib.hid (And.intro hs5 hk5)
    clear hres hlR hs5 hk5 c0 c4 hln
    go_wp2_with fail
    refine (known_pull H5.out.1.row).mono ?_
    rintro e w6 ⟨rfl, hr6, hb6, hk6⟩
    have hnm : ∀ i, RowR bs ((b1, s1) :: (b2, s2) :: R3) i → i ≠ bm := by
      rintro i (ho | ho) rfl
      · exact H5.out.1.hb ho.symm
      · obtain ⟨x, hx, he⟩ := List.mem_map.1 ho
        exact (H5.out.1.row.ne x hx).2 he
    have hm6 := H5.out.1.mp.block (hk6.block bm H5.out.1.mp.lt fun ho => hnm bm ho rfl)
    have hkk6 := H5.out.2.trans (hk6.mono fun i _ ho => RowR.own ho)
    have d1 : w6.cell? ⟨bs, 1, none⟩ = some (.map (some bm)) := hr6.bd.cell 1
    have d0 : w6.cell? ⟨b1, 0, none⟩ = some (.string ⟨s1.toArray⟩) := hb6.cell 0
    have hz1 : (⟨s1.toArray⟩ : ByteArray).size ≤ maxLen := by
      rw [size_mk]; have := H5.out.1.szs (b1, s1) (by simp); unfold maxLen; simp only at this; omega
    obtain ⟨S1, hS1⟩ : ∃ S1 : ByteArray, S1 = ⟨s1.toArray⟩ := ⟨_, rfl⟩
    rw [← hS1] at d0 hz1
    have H6 := Lib.hid (And.intro hr6 (And.intro hm6 hkk6))
    have HS1 := Lib.hid hS1
    clear hr6 hb6 hk6 hm6 hkk6 hnm hS1
    go_upto_region 12 with fail
    refine wp_region_drew_tail 8 (by kernel_rfl) (by kernel_rfl) ?_
    simp only [List.take_succ_cons, List.take_zero, List.drop_succ_cons, List.drop_zero]
    repeat (go_big_quiet_step (fail))
    refine wpQuiet_nil ?_
    intro k8
    refine wpList_pmap_drop rfl (.tmp 51) (.tmp 55) rfl lnk_types (H6.out.2.1.block (w' := w6.drewN k8) rfl) rfl S1 rfl hz1 ?_
    intro w7 hm7 hu7
    have hS1d : S1.data.toList = s1 := by rw [HS1.out]
    have hnd5 := H5.out.1.nd
    simp only [List.map_cons, List.nodup_cons] at hnd5
    have hh1 : (((((b1, s1) :: (b2, s2) :: R3).find? (fun x => x.2 == s1)).map Prod.fst)).isSome = true := by
      rw [find_has]; unfold hasR; simp
    rw [hS1d, hh1, ← find_tail (b := b1) (s := s1) (R := (b2, s2) :: R3) (by simpa using hnd5.1)] at hm7
    simp only [if_true] at hm7
    have hs7 : SetAt bs bm (n + 1) room w7 ((b2, s2) :: R3) :=
      ⟨(H6.out.1.kept (w' := w6.drewN k8) (fun i _ _ _ => rfl) hbb.out).kept (fun i hi _ hne => hu7.block i hi (by simpa using hne)) hbb.out, hm7, by simpa using hnd5.2, hbb.out, fun x hx => H5.out.1.szs x (List.mem_cons_of_mem _ hx)⟩
    have hk7 := (H6.out.2.2.drewN k8).upd hu7 (.inr (.inl rfl))
    have H7 := Lib.hid (And.intro hs7 hk7)
    clear hm7 hu7 hs7 hk7 hh1 hnd5
    go_wp2_with fail
    go_returns
    refine ⟨g, rfl, HG.out.1, by rw [HR.out.1]; exact H7.out.1, H7.out.2.mono fun i hi ho => ?_⟩
    rw [← he] at ho
    rcases ho with ho | ho | ho
    · exact .inl ho
    · exact .inr (.inl ho)
    · rw [List.map_cons, List.map_append] at ho
      rcases List.mem_cons.1 ho with ho | ho
      · exact .inr (.inr (by rw [ho]; simp))
      · rcases List.mem_append.1 ho with ho | ho
        · exact .inr (.inr (by rw [List.map_cons]; exact List.mem_cons_of_mem _ ho))
        · simp at ho; have := HG.out.1; omega
  · have hd : decide ((room : Int) < (R.length : Int) + 1) = false := by simp; omega
    have hres : addR R room g T.data.toList = R ++ [(g, T.data.toList)] := by unfold addR; rw [HH.out, if_neg c]; rfl
    have HR := Lib.hid hres
    clear hres
    go_wp2_with fail
    go_quiet (fail)
    go_wp2_with fail
    go_returns
    refine ⟨g, rfl, HG.out.1, by rw [HR.out]; exact H4.out.1.drewN _, (H4.out.2.drewN _).mono fun i hi ho => ?_⟩
    rcases ho with ho | ho | ho
    · exact .inl ho
    · exact .inr (.inl ho)
    · rw [List.map_append] at ho
      rcases List.mem_append.1 ho with ho | ho
      · exact .inr (.inr ho)
      · simp at ho; have := HG.out.1; omega
end Go.Proofs.Ytemfecdpjegocaa
