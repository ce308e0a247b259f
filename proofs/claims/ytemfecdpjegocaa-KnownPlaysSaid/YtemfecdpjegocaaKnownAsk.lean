/- Ask of the set. -/
import Derived.Test.YtemfecdpjegocaaKnownSet
import Derived.Test.YtemfecdpjegocaaRefAsk
import Derived.Test.YtemfecdpjegocaaBMap
namespace Go.Proofs.Ytemfecdpjegocaa
open Go.RowKit
set_option linter.unusedVariables false
set_option linter.unusedSimpArgs false

theorem ask_types : BTypes Try.prog 108 9 4 := ⟨Try.underlying108, Try.underlying9, Try.underlying4, fun _ => by kernel_rfl⟩

/-- What the map of the asked has. -/
def memB (acc : List ByteArray) (s : List UInt8) : Bool := acc.any fun t => t.data.toList == s
theorem memB_iff (acc : List ByteArray) (t : ByteArray) : memB acc t.data.toList = decide (t ∈ acc) := by
  unfold memB
  rw [Bool.eq_iff_iff, List.any_eq_true, decide_eq_true_iff]
  constructor
  · rintro ⟨u, hu, h⟩
    have : u = t := by apply ByteArray.ext; apply Array.ext'; exact beq_iff_eq.1 h
    exact this ▸ hu
  · intro h; exact ⟨t, h, by simp⟩
theorem memB_snoc (acc : List ByteArray) (t : ByteArray) : putT (memB acc) t.data.toList = memB (acc ++ [t]) := by
  funext x
  unfold putT memB
  rw [List.any_append]
  by_cases h : x = t.data.toList
  · subst h; simp
  · have h2 : (t.data.toList == x) = false := by rw [beq_eq_false_iff_ne]; exact fun e => h e.symm
    simp only [h, if_false, List.any_cons, h2, List.any_nil, Bool.or_false]

theorem OwnS.upd {w w' : World} {B : Nat} {e : TypeId} {v : Value} {l : List ByteArray} (h : OwnS w (B + 1) e v l) (hu : Upd B w w') : OwnS w' (B + 1) e v l := by
  obtain ⟨h1, h2⟩ := h
  refine ⟨h1, ?_⟩
  rcases h2 with h2 | ⟨g, cap, cur, hv, hg, hh, r⟩
  · exact .inl h2
  · refine .inr ⟨g, cap, cur, hv, hg, ?_, r⟩
    rw [hu.block g (Array.getElem?_eq_some_iff.1 hh).1 (fun e => by cases e; omega)]; exact hh

theorem BMap.up {P : Program} {k e : TypeId} {w : World} {b n : Nat} {m : List UInt8 → Bool} (h : BMap P k e w b n m) : BMap P k e w b (n + 1) m :=
  let ⟨D, hD, r⟩ := h; ⟨D, hD.mono (Nat.le_succ _), r⟩

set_option maxRecDepth 100000 in
set_option maxHeartbeats 2000000 in
theorem known_ask {bs bm n room : Nat} {w : World} {R : List (Nat × List UInt8)} (h : SetAt bs bm n room w R) {v : Value} {l : List ByteArray} (h2 : RS w v l) (hl : l.length ≤ 100000) (hsz : ∀ t ∈ l, t.size ≤ 1000) :
    Calls Try.prog 23 #[.pointer (some ⟨bs, 0, none⟩), v] w fun en w' => ∃ v, en = .returned v ∧ RS w' v (askK (fun t => hasR R t.data.toList) l l.length) ∧ Below w.heap.size w w' := by
  obtain ⟨ao2, cap2, rfl⟩ := h2.slice
  have H := Lib.hid h
  have H2 := Lib.hid h2
  have HZ := Lib.hid hsz
  have hbs := h.row.bd.lt
  clear h h2 hsz
  obtain ⟨B, hB⟩ : ∃ B, w.heap.size = B := ⟨_, rfl⟩
  have hmade : Hid (BMap Try.prog 9 4 (w.alloc (.map #[] 0)) B 0 (memB [])) := hB ▸ BMap.made w
  have hmb : Hid (Below B w (w.alloc (.map #[] 0))) := (Below.refl _ _).alloc (by omega) _
  have hmm := @run_makeMap Try.prog
  rw [hB]
  go_enter Try.func23, Try.ntmps23
  go_wp2_with fail
  go_loopw [5, 14] (fun av iv wi => ∃ (k : Nat) (acc : List ByteArray), iv = .int .i64 k ∧ k ≤ l.length ∧ Hid (acc = askK (fun t => hasR R t.data.toList) l k) ∧ Hid (OwnS wi (B + 1) 9 av acc) ∧ Hid (BMap Try.prog 9 4 wi B k (memB acc)) ∧ Hid (Below B w wi)) (fun _ iv _ => l.length - (intOf iv).toNat)
  case atStart => exact ⟨0, [], rfl, by omega, rfl, OwnS.nil _ _ _, hmade.out, hmb.out⟩
  case round =>
    obtain ⟨k, acc, rfl, hk, hacc, hown, hmap, hb⟩ := hrel
    have hal := askK_len (fun t => hasR R t.data.toList) l k hk
    rw [← hacc.out] at hal
    have hBr : B + 1 ≤ wr.heap.size := by have := hmap.out.lt; omega
    by_cases c : k < l.length
    · obtain ⟨b2, off2, rfl, hbl2, hc2⟩ := H2.out.at_ c
      have hb2 : b2 < B := by omega
      have hcr2 : wr.cell? ⟨b2, off2 + k, none⟩ = some (.string l[k]) := (hb.out.cell (p := ⟨b2, off2 + k, none⟩) hb2).trans hc2
      have hset : Hid (SetAt bs bm n room wr R) := H.out.below (hB ▸ hb.out)
      have c1 : wr.cell? ⟨bs, 1, none⟩ = some (.map (some bm)) := hset.out.row.bd.cell 1
      have hsu : Hid (askK (fun t => hasR R t.data.toList) l (k + 1) = askStep (fun t => hasR R t.data.toList) acc l[k]) := by
        unfold Hid; rw [hacc.out]; exact askK_succ _ _ _ c
      have hyz : l[k].size ≤ 1000 := HZ.out _ (List.getElem_mem c)
      have hym : l[k].size ≤ maxLen := by unfold maxLen; omega
      obtain ⟨fv, hlk, hfv⟩ := hset.out.find l[k] hym
      have hmk := hmap.out.look ask_types l[k] hym
      rw [memB_iff] at hmk
      clear hc2 hbl2
      generalize l[k] = y at *
      cases hh : hasR R y.data.toList with
      | true =>
        rw [hh] at hfv
        obtain ⟨fb, rfl⟩ : ∃ fb, fv = some fb := Option.isSome_iff_exists.1 hfv
        simp only [pv, Option.map_some] at hlk
        have hst : Hid (askK (fun t => hasR R t.data.toList) l (k + 1) = acc) := by unfold Hid; rw [hsu.out]; unfold askStep; simp [hh]
        clear hfv hh hmk
        go_wp2_with fail
        go_roundw
        case rel => exact ⟨k + 1, acc, by go_num, by omega, hst.out.symm, hown.out, hmap.out.up, hb.out⟩
        case measure => simp [intOf]; omega
      | false =>
        rw [hh] at hfv
        obtain rfl : fv = none := by cases fv with | none => rfl | some _ => cases hfv
        simp only [pv, Option.map_none] at hlk
        by_cases hin : y ∈ acc
        · have hst : Hid (askK (fun t => hasR R t.data.toList) l (k + 1) = acc) := by unfold Hid; rw [hsu.out]; unfold askStep; simp [hin]
          rw [decide_eq_true hin] at hmk
          clear hfv hh hin
          go_wp2_with fail
          go_roundw
          case rel => exact ⟨k + 1, acc, by go_num, by omega, hst.out.symm, hown.out, hmap.out.up, hb.out⟩
          case measure => simp [intOf]; omega
        · have hst : Hid (askK (fun t => hasR R t.data.toList) l (k + 1) = acc ++ [y]) := by unfold Hid; rw [hsu.out]; unfold askStep; simp [hin, hh]
          rw [decide_eq_false hin] at hmk
          have hal2 : acc.length + 1 ≤ 1000000 := by omega
          have hkm : k < maxLen := by unfold maxLen; omega
          clear hfv hh hin
          obtain ⟨ao3, cap3, hv3⟩ := hown.out.rs.slice
          subst hv3
          go_wp2_with (first
            | (at_mapUpdate; refine wpList_bmap_store rfl _ _ _ rfl ask_types hmap.out rfl y rfl hym rfl hkm ?_; intro w1 hm1 hu1
               have hown1 : Hid (OwnS w1 (B + 1) 9 (.slice ao3 acc.length cap3) acc) := hown.out.upd hu1
               have hb1 : Hid (Below B w w1) := hb.out.grown hu1 (by have := hb.out.size; omega) (fun j hj => by cases hj; exact Nat.le_refl _)
               have hB1 : B + 1 ≤ w1.heap.size := by have := hu1.size; omega
               have hm2 : Hid (BMap Try.prog 9 4 w1 B (k + 1) (memB (acc ++ [y]))) := by unfold Hid; rw [← memB_snoc]; exact hm1)
            | (at_builtin; refine append_strs strs_types rfl (.tmp 33) (.tmp 35) rfl (B + 1) _ acc [y] 1 rfl w1 _ rfl rfl hown1.out rfl hal2 hB1 ?_; intro v' w' hown' hb' hsz'))
          go_roundw
          case rel => exact ⟨k + 1, acc ++ [y], by go_num, by omega, hst.out.symm, hown', hm2.out.block (hb'.block B (by omega)), hb1.out.trans (hb'.mono (by omega))⟩
          case measure => simp [intOf]; omega
    · obtain rfl : k = l.length := by omega
      go_wp2_with fail
      go_returns
      exact ⟨_, rfl, hacc.out ▸ hown.out.rs, hb.out⟩
end Go.Proofs.Ytemfecdpjegocaa
