/- The document's row of sums for KnownPlays: Place with the place, Touch, Add for any room. -/
import Derived.Test.YtemfecdpjegocaaRefAdd
import Derived.Laws.Slices
namespace Go.Proofs.Ytemfecdpjegocaa
open Go.RowKit
set_option linter.unusedVariables false
set_option linter.unusedSimpArgs false

/-- The slice v reads as the texts l; it is nil, or has a place and room enough. -/
def RV (w : World) (v : Value) (l : List ByteArray) : Prop :=
  (l = [] ∧ v = .slice none 0 0) ∨ ∃ b off cap, v = .slice (some ⟨b, off, none⟩) l.length cap ∧ l.length ≤ cap ∧ b < w.heap.size ∧ ∀ (i : Nat) (h : i < l.length), w.cell? ⟨b, off + i, none⟩ = some (.string l[i])
theorem RV.rs {w : World} {v : Value} {l : List ByteArray} (h : RV w v l) : RS w v l := by
  rcases h with ⟨rfl, rfl⟩ | ⟨b, off, cap, rfl, _, hb, hc⟩
  · exact .inl ⟨rfl, _, _, rfl⟩
  · exact .inr ⟨b, off, cap, rfl, hb, hc⟩
theorem RV.form {w : World} {v : Value} {l : List ByteArray} (h : RV w v l) : v = .slice none 0 0 ∨ ∃ ad n c, v = .slice (some ad) n c := by
  rcases h with ⟨rfl, rfl⟩ | ⟨b, off, cap, rfl, _, hb, hc⟩
  · exact .inl rfl
  · exact .inr ⟨_, _, _, rfl⟩
theorem RV.blockLt {w : World} {v : Value} {l : List ByteArray} (h : RV w v l) : ∀ b, v.ownBlock = some b → b < w.heap.size := by
  rcases h with ⟨_, rfl⟩ | ⟨b, off, cap, rfl, _, hlt, hc⟩
  · intro b h; cases h
  · intro b h; cases h; exact hlt
theorem RV.below {w w' : World} {v : Value} {l : List ByteArray} (h : RV w v l) (hb : Below w.heap.size w w') : RV w' v l := by
  rcases h with h | ⟨b, off, cap, hv, hcap, hlt, hc⟩
  · exact .inl h
  · exact .inr ⟨b, off, cap, hv, hcap, Nat.lt_of_lt_of_le hlt hb.size, fun i hi => (hb.cell (p := ⟨b, off + i, none⟩) hlt).trans (hc i hi)⟩
theorem OwnS.rv {w : World} {B : Nat} {e : TypeId} {v : Value} {l : List ByteArray} (h : OwnS w B e v l) : RV w v l := by
  have hr := h.rs
  rcases h.2 with ⟨rfl, h0⟩ | ⟨g, cap, cur, rfl, hb, hg, hcap, hm, hsz, htake⟩
  · exact .inl ⟨List.length_eq_zero_iff.1 h0, rfl⟩
  · refine .inr ⟨g, 0, cap, rfl, hcap, (Array.getElem?_eq_some_iff.1 hg).1, fun i hi => ?_⟩
    obtain ⟨b, off, he, _, hc⟩ := hr.at_ hi
    cases he
    exact hc
theorem add0 (b off k : Nat) : (⟨b, off, none⟩ : Addr).add k = ⟨b, off + k, none⟩ := by unfold Addr.add; split <;> simp_all
/-- The beginning of a row. -/
theorem RS.upto {w : World} {b off cap : Nat} {l : List ByteArray} (h : RS w (.slice (some ⟨b, off, none⟩) l.length cap) l) {k : Nat} (hk : k ≤ l.length) (c : Nat) : RS w (.slice (some ⟨b, off, none⟩) k c) (l.take k) := by
  rcases Nat.eq_zero_or_pos l.length with h0 | h0
  · obtain rfl : l = [] := List.length_eq_zero_iff.1 h0
    obtain rfl : k = 0 := by simpa using hk
    exact .inl ⟨rfl, _, _, rfl⟩
  · obtain ⟨_, _, he, hb, _⟩ := h.at_ h0
    cases he
    refine .inr ⟨b, off, c, by rw [List.length_take, Nat.min_eq_left hk], hb, fun i hi => ?_⟩
    have hi' : i < l.length := by rw [List.length_take] at hi; omega
    obtain ⟨_, _, he, _, hc⟩ := h.at_ hi'
    cases he
    rw [hc, List.getElem_take]
/-- The rest of a row. -/
theorem RS.from_ {w : World} {b off cap : Nat} {l : List ByteArray} (h : RS w (.slice (some ⟨b, off, none⟩) l.length cap) l) {k : Nat} (hk : k < l.length) (c : Nat) : RS w (.slice (some ⟨b, off + k, none⟩) (l.length - k) c) (l.drop k) := by
  obtain ⟨_, _, he, hb, _⟩ := h.at_ hk
  cases he
  refine .inr ⟨b, off + k, c, by rw [List.length_drop], hb, fun i hi => ?_⟩
  have hi' : k + i < l.length := by rw [List.length_drop] at hi; omega
  obtain ⟨_, _, he, _, hc⟩ := h.at_ hi'
  cases he
  rw [Nat.add_assoc, hc, List.getElem_drop]

def PlacePost (l : List ByteArray) (s : ByteArray) (w : World) (en : Ending) (w' : World) : Prop :=
  ∃ r : Int, en = .returned (.int .i64 r) ∧ ((∃ k : Nat, ∃ h : k < l.length, r = k ∧ l[k] = s) ∨ (r = -1 ∧ s ∉ l)) ∧ w' = w
set_option maxRecDepth 100000 in
theorem ref_place2 {w : World} {v : Value} {l : List ByteArray} (h : RS w v l) (hl : l.length ≤ 1000000) (s : ByteArray) :
    Calls Try.prog 28 #[v, .string s] w (PlacePost l s w) := by
  obtain ⟨ao, cap, rfl⟩ := h.slice
  have H := Lib.hid h
  clear h
  go_enter Try.func28, Try.ntmps28
  go_wp2_with fail
  go_loop [5] (fun iv => ∃ k : Nat, iv = .int .i64 k ∧ k ≤ l.length ∧ Hid (s ∉ l.take k)) (fun iv => l.length - (intOf iv).toNat)
  case atStart => exact ⟨0, rfl, by omega, by unfold Hid; simp⟩
  case round =>
    obtain ⟨k, rfl, hk, hs⟩ := hrel
    by_cases c : k < l.length
    · obtain ⟨b, off, rfl, hb, hc⟩ := H.out.at_ c
      have hbe := bytes_beq l[k] s
      by_cases e : l[k] = s
      · rw [decide_eq_true e] at hbe
        have HM : Hid (∃ k' : Nat, ∃ h : k' < l.length, (k : Int) = k' ∧ l[k'] = s) := ⟨k, c, rfl, e⟩
        generalize l[k] = y at hc hbe
        go_wp2_with fail
        go_returns
        exact ⟨_, rfl, .inl HM.out, rfl⟩
      · rw [decide_eq_false e] at hbe
        have hs2 : Hid (s ∉ l.take (k + 1)) := by
          unfold Hid
          rw [List.take_succ_eq_append_getElem c, List.mem_append]
          rintro (h1 | h1)
          · exact hs.out h1
          · simp at h1; exact e h1.symm
        generalize l[k] = y at hc hbe
        go_wp2_with fail
        exact ⟨⟨k + 1, by go_num, by omega, hs2⟩, by simp [intOf]; omega⟩
    · obtain rfl : k = l.length := by omega
      have hs1 : Hid (s ∉ l) := by have := hs.out; rw [List.take_length] at this; exact this
      go_wp2_with fail
      go_returns
      exact ⟨_, rfl, .inr ⟨rfl, hs1.out⟩, rfl⟩

/-- What Touch leaves. -/
def TouchPost (w : World) (v : Value) (l : List ByteArray) (s : ByteArray) (en : Ending) (w' : World) : Prop :=
  ∃ v' b, en = .returned (.tuple #[v', .bool b]) ∧ Below w.heap.size w w' ∧
    ((s ∉ l ∧ b = false ∧ v' = v) ∨ ∃ k : Nat, ∃ h : k < l.length, l[k] = s ∧ b = true ∧ RV w' v' (l.take k ++ l.drop (k + 1) ++ [s]) ∧ ∀ c, v'.ownBlock = some c → w.heap.size ≤ c)

set_option maxRecDepth 100000 in
set_option maxHeartbeats 1000000 in
theorem ref_touch {w : World} {v : Value} {l : List ByteArray} (h : RV w v l) (hl : l.length ≤ 1100) (s : ByteArray) :
    Calls Try.prog 27 #[v, .string s] w (TouchPost w v l s) := by
  have hp := Lib.hid (ref_place2 h.rs (by omega) s)
  by_cases hin : s ∈ l
  case neg =>
    obtain ⟨ao, cap, rfl⟩ := h.rs.slice
    have hni := Lib.hid hin
    clear hin h
    go_enter Try.func27, Try.ntmps27
    go_wp2_with fail
    refine hp.out.mono ?_
    rintro en w2 ⟨r, rfl, hr1, rfl⟩
    rcases hr1 with ⟨k, hk, _, h1⟩ | ⟨rfl, _⟩
    · exact absurd (h1 ▸ List.getElem_mem hk) hni.out
    go_wp2_with fail
    go_returns
    exact ⟨_, _, rfl, Below.refl _ _, .inl ⟨hni.out, rfl, rfl⟩⟩
  case pos =>
    rcases h with ⟨rfl, _⟩ | ⟨b, off, cap, rfl, hcap, hb, hc⟩
    · cases hin
    have hrs : Hid (RS w (.slice (some ⟨b, off, none⟩) l.length cap) l) := .inr ⟨b, off, cap, rfl, hb, hc⟩
    have hin' := Lib.hid hin
    clear hin hc
    obtain ⟨B, hB⟩ : ∃ B, w.heap.size = B := ⟨_, rfl⟩
    go_enter Try.func27, Try.ntmps27
    go_wp2_with fail
    refine hp.out.mono ?_
    rintro en w2 ⟨r, rfl, hr1, rfl⟩
    rcases hr1 with ⟨k, hk, rfl, hks⟩ | ⟨_, hr1⟩
    case inr => exact absurd hin'.out hr1
    have hks' := Lib.hid hks
    clear hks
    have hn : decide ((k : Int) < 0) = false := by simp
    have hown0 : Hid (OwnS (w2.alloc (.cells #[] 9)) B 9 (.slice (some ⟨B, 0, none⟩) 0 0) []) := by unfold Hid; rw [← hB]; exact OwnS.empty (Nat.le_refl _)
    have hb0 : Hid (Below B w2 (w2.alloc (.cells #[] 9))) := (Below.refl _ _).alloc (by omega) _
    have hB0 : B ≤ (w2.alloc (.cells #[] 9)).heap.size := by simp; omega
    have hz1 : Hid (RS (w2.alloc (.cells #[] 9)) (.slice (some ⟨b, off, none⟩) k cap) (l.take k)) := (hrs.out.upto (Nat.le_of_lt hk) cap).below ((Below.refl _ _).alloc (Nat.le_refl _) _)
    have hle : k ≤ cap := by omega
    have hlt : (l.take k).length ≤ 1100 := by rw [List.length_take]; omega
    have hz2 : Hid (∀ w', Below B w2 w' → RS w' (.slice (if cap = k + 1 then some ⟨b, off, none⟩ else some ⟨b, off + (k + 1), none⟩) (l.length - (k + 1)) (cap - (k + 1))) (l.drop (k + 1))) := fun w' hbw => by
      refine RS.below ?_ (hB ▸ hbw)
      by_cases hkl : k + 1 < l.length
      · rw [if_neg (by omega)]; exact hrs.out.from_ hkl _
      · have e1 : l.length - (k + 1) = 0 := by omega
        rw [e1, List.drop_eq_nil_of_le (by omega)]
        exact .inl ⟨rfl, _, _, rfl⟩
    have hz3 : Hid (∃ ad n c, (.slice (if cap = k + 1 then some ⟨b, off, none⟩ else some ⟨b, off + (k + 1), none⟩) (l.length - (k + 1)) (cap - (k + 1)) : Value) = .slice (some ad) n c) := by
      unfold Hid; split <;> exact ⟨_, _, _, rfl⟩
    have hld : (l.take k).length + (l.drop (k + 1)).length + 1 ≤ 1000000 := by rw [List.length_take, List.length_drop]; omega
    have hl1 : ([] : List ByteArray).length + (l.take k).length ≤ 1000000 := by simp; omega
    have HF : Hid (∀ w' v', RV w' v' (l.take k ++ l.drop (k + 1) ++ [s]) → Below B w2 w' → (∀ c, v'.ownBlock = some c → B ≤ c) → TouchPost w2 (.slice (some ⟨b, off, none⟩) l.length cap) l s (.returned (.tuple #[v', .bool true])) w') :=
      fun w' v' h1 h2 h3 => ⟨_, _, rfl, hB ▸ h2, .inr ⟨k, hk, hks'.out, rfl, h1, hB ▸ h3⟩⟩
    clear hks'
    generalize l.take k = l1 at *
    generalize l.drop (k + 1) = l2 at *
    go_wp2_with (first
      | (at_builtin; refine append_rs strs_types rfl (.tmp 14) (.tmp 17) rfl B _ _ [] l1 _ rfl hown0.out rfl hz1.out (.inr ⟨_, _, _, rfl⟩) hl1 hB0 ?_; intro v1 w1 hown1 hb1 hsz1
         have hown1' : Hid (OwnS w1 B 9 v1 l1) := hown1
         have hB1 : B ≤ w1.heap.size := by omega
         have hb1' : Hid (Below B w2 w1) := hb0.out.trans hb1)
      | (at_builtin; refine append_rs strs_types rfl (.tmp 19) (.tmp 23) rfl B _ _ l1 l2 _ rfl hown1'.out rfl (hz2.out _ hb1'.out) (.inr hz3.out) (by omega) hB1 ?_; intro v2 w3 hown2 hb2 hsz2
         have hown2' : Hid (OwnS w3 B 9 v2 (l1 ++ l2)) := hown2
         have hB2 : B ≤ w3.heap.size := by omega
         have hb2' : Hid (Below B w2 w3) := hb1'.out.trans hb2
         have hll : (l1 ++ l2).length + 1 ≤ 1000000 := by simp; omega)
      | (at_builtin; refine append_strs strs_types rfl (.tmp 25) (.tmp 27) rfl B _ (l1 ++ l2) [s] 1 rfl w3 _ rfl rfl hown2'.out rfl hll hB2 ?_; intro v3 w4 hown3 hb3 hsz3
         have hown3' : Hid (RV w4 v3 (l1 ++ l2 ++ [s]) ∧ ∀ c, v3.ownBlock = some c → B ≤ c) := ⟨hown3.rv, hown3.block⟩
         have hb3' : Hid (Below B w2 w4) := hb2'.out.trans hb3
         clear hown3 hown2 hown1 hb3))
    all_goals
      go_returns
      try (have hce : cap = k + 1 := by assumption
           subst hce)
      exact HF.out _ _ hown3'.out.1 hb3'.out hown3'.out.2
end Go.Proofs.Ytemfecdpjegocaa
