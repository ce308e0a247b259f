/- Add to the document's row, for any room. -/
import Derived.Test.YtemfecdpjegocaaRowVal
namespace Go.Proofs.Ytemfecdpjegocaa
open Go.RowKit
set_option linter.unusedVariables false
set_option linter.unusedSimpArgs false

/-- The row with a new sum. -/
def addT (l : List ByteArray) (room : Nat) (s : ByteArray) : List ByteArray := if room < l.length + 1 then (l ++ [s]).tail else l ++ [s]
/-- What Add leaves. -/
def AddPost (w : World) (v : Value) (l : List ByteArray) (room : Nat) (s : ByteArray) (en : Ending) (w' : World) : Prop :=
  ∃ v' b, en = .returned (.tuple #[v', .bool b]) ∧ Below w.heap.size w w' ∧
    ((s ∈ l ∧ b = false ∧ v' = v) ∨ (s ∉ l ∧ b = true ∧ RV w' v' (addT l room s) ∧ ∀ c, v'.ownBlock = some c → w.heap.size ≤ c))

/-- What the call made, without its first. -/
theorem own_tail {w : World} {B : Nat} {e : TypeId} {g cap : Nat} {l : List ByteArray} {s : ByteArray} (h : OwnS w B e (.slice (some ⟨g, 0, none⟩) (l.length + 1) cap) (l ++ [s])) : RV w (.slice (some ⟨g, 1, none⟩) l.length (cap - 1)) ((l ++ [s]).drop 1) := by
  have hr := h.rv
  rcases hr with ⟨h0, _⟩ | ⟨b, off, c, he, hcap, hb, hc⟩
  · simp at h0
  · simp only [Value.slice.injEq, Option.some.injEq, Addr.mk.injEq] at he
    obtain ⟨⟨rfl, rfl, _⟩, _, rfl⟩ := he
    have hlen : (l ++ [s]).length = l.length + 1 := by simp
    refine .inr ⟨g, 1, cap - 1, by rw [List.length_drop, hlen, Nat.add_sub_cancel], by rw [List.length_drop, hlen]; omega, hb, fun i hi => ?_⟩
    have hi' : 1 + i < (l ++ [s]).length := by rw [List.length_drop] at hi; omega
    have := hc (1 + i) hi'
    rw [Nat.zero_add] at this
    rw [this, List.getElem_drop]

set_option maxRecDepth 100000 in
set_option maxHeartbeats 1000000 in
theorem ref_add_room {w : World} {v : Value} {l : List ByteArray} (h : RV w v l) (hl : l.length ≤ 1100) (room : Nat) (hroom : 1 ≤ room ∧ room ≤ 1024) (s : ByteArray) :
    Calls Try.prog 20 #[v, .int .i64 room, .string s] w (AddPost w v l room s) := by
  have hp := Lib.hid (ref_place2 h.rs (by omega) s)
  obtain ⟨ao, cap, rfl⟩ := h.rs.slice
  have H1 := Lib.hid h
  clear h
  obtain ⟨B, hB⟩ : ∃ B, w.heap.size = B := ⟨_, rfl⟩
  by_cases hin : s ∈ l
  case pos =>
    have hin' := Lib.hid hin
    clear hin
    go_enter Try.func20, Try.ntmps20
    go_wp2_with fail
    refine hp.out.mono ?_
    rintro en w2 ⟨r, rfl, hr1, rfl⟩
    rcases hr1 with ⟨k, hk, rfl, h1⟩ | ⟨_, h1⟩
    case inr => exact absurd hin'.out h1
    have hd : decide ((0 : Int) ≤ (k : Int)) = true := by simp
    clear h1
    go_wp2_with fail
    go_returns
    exact ⟨_, _, rfl, Below.refl _ _, .inl ⟨hin'.out, rfl, rfl⟩⟩
  case neg =>
    have HF : Hid (∀ w' v', RV w' v' (addT l room s) → Below B w w' → (∀ c, v'.ownBlock = some c → B ≤ c) → AddPost w (.slice ao l.length cap) l room s (.returned (.tuple #[v', .bool true])) w') :=
      fun w' v' h1 h2 h3 => ⟨_, _, rfl, hB ▸ h2, .inr ⟨hin, rfl, h1, hB ▸ h3⟩⟩
    have hni' := Lib.hid hin
    clear hin
    have hz1 : Hid (RS (w.alloc (.cells #[] 9)) (.slice ao l.length cap) l) := H1.out.rs.below ((Below.refl _ _).alloc (Nat.le_refl _) _)
    have hown0 : Hid (OwnS (w.alloc (.cells #[] 9)) B 9 (.slice (some ⟨B, 0, none⟩) 0 0) []) := by unfold Hid; rw [← hB]; exact OwnS.empty (Nat.le_refl _)
    have hb0 : Hid (Below B w (w.alloc (.cells #[] 9))) := (Below.refl _ _).alloc (by omega) _
    have hB0 : B ≤ (w.alloc (.cells #[] 9)).heap.size := by simp; omega
    have hfm := Lib.hid H1.out.form
    by_cases hrm : room < l.length + 1
    · have d1 : decide ((room : Int) < (l.length : Int) + 1) = true := by simp; omega
      have hl1 : 1 ≤ l.length := by omega
      have eT : Hid (addT l room s = (l ++ [s]).drop 1) := by unfold Hid addT; rw [if_pos hrm, List.drop_one]
      clear hrm
      go_enter Try.func20, Try.ntmps20
      go_wp2_with fail
      refine hp.out.mono ?_
      rintro en w2 ⟨r, rfl, hr1, rfl⟩
      rcases hr1 with ⟨k, hk, _, h1⟩ | ⟨rfl, _⟩
      · exact absurd (h1 ▸ List.getElem_mem hk) hni'.out
      go_wp2_with (first
        | (at_builtin; refine append_rs strs_types rfl (.tmp 14) (.tmp 15) rfl B _ _ [] l _ rfl hown0.out rfl hz1.out hfm.out (by simp; omega) hB0 ?_; intro v1 w1 hown1 hb1 hsz1
           have hown1' : Hid (OwnS w1 B 9 v1 l) := hown1
           have hB1 : B ≤ w1.heap.size := by omega)
        | (at_builtin; refine append_strs strs_types rfl (.tmp 16) (.tmp 18) rfl B _ l [s] 1 rfl w1 _ rfl rfl hown1'.out rfl (by omega) hB1 ?_; intro v' w' hown' hb' hsz'
           obtain ⟨g9, cap9, hv9, hc9, hg9⟩ : ∃ g cap9, v' = .slice (some ⟨g, 0, none⟩) (l.length + 1) cap9 ∧ l.length + 1 ≤ cap9 ∧ B ≤ g := by
             rcases hown'.2 with ⟨_, h0⟩ | ⟨g, cap, cur, h, hBg, _, hcap, _⟩
             · simp at h0
             · exact ⟨g, cap, by rw [h, List.length_append]; rfl, by simpa using hcap, hBg⟩
           have hne : ¬ cap9 = 1 := by omega
           have hle9 : 1 ≤ l.length + 1 := by omega
           have hbe : Hid (Below B w2 w') := (hb0.out.trans hb1).trans hb'
           have hfin : Hid (∀ v9, v9 = Value.slice (some ⟨g9, 1, none⟩) l.length (cap9 - 1) → RV w' v9 (addT l room s) ∧ ∀ c, v9.ownBlock = some c → B ≤ c) := by
             rintro _ rfl
             rw [eT.out]
             refine ⟨own_tail (hv9 ▸ hown'), fun c h => ?_⟩
             cases h; exact hg9
           clear hown' hown1 hown1' hown0
           subst hv9))
      go_returns
      exact HF.out _ _ (hfin.out _ (by simp)).1 hbe.out (hfin.out _ (by simp)).2
    · have d1 : decide ((room : Int) < (l.length : Int) + 1) = false := by simp; omega
      have eT : Hid (addT l room s = l ++ [s]) := by unfold Hid addT; rw [if_neg hrm]
      clear hrm
      go_enter Try.func20, Try.ntmps20
      go_wp2_with fail
      refine hp.out.mono ?_
      rintro en w2 ⟨r, rfl, hr1, rfl⟩
      rcases hr1 with ⟨k, hk, _, h1⟩ | ⟨rfl, _⟩
      · exact absurd (h1 ▸ List.getElem_mem hk) hni'.out
      go_wp2_with (first
        | (at_builtin; refine append_rs strs_types rfl (.tmp 14) (.tmp 15) rfl B _ _ [] l _ rfl hown0.out rfl hz1.out hfm.out (by simp; omega) hB0 ?_; intro v1 w1 hown1 hb1 hsz1
           have hown1' : Hid (OwnS w1 B 9 v1 l) := hown1
           have hB1 : B ≤ w1.heap.size := by omega)
        | (at_builtin; refine append_strs strs_types rfl (.tmp 16) (.tmp 18) rfl B _ l [s] 1 rfl w1 _ rfl rfl hown1'.out rfl (by omega) hB1 ?_; intro v' w' hown' hb' hsz'
           obtain ⟨g9, cap9, hv9, hc9, hg9⟩ : ∃ g cap9, v' = .slice (some ⟨g, 0, none⟩) (l.length + 1) cap9 ∧ l.length + 1 ≤ cap9 ∧ B ≤ g := by
             rcases hown'.2 with ⟨_, h0⟩ | ⟨g, cap, cur, h, hBg, _, hcap, _⟩
             · simp at h0
             · exact ⟨g, cap, by rw [h, List.length_append]; rfl, by simpa using hcap, hBg⟩
           have hbe : Hid (Below B w2 w') := (hb0.out.trans hb1).trans hb'
           have hfin : Hid (RV w' v' (addT l room s) ∧ ∀ c, v'.ownBlock = some c → B ≤ c) := by
             unfold Hid
             rw [eT.out]
             exact ⟨hown'.rv, hown'.block⟩
           clear hown' hown1 hown1' hown0
           subst hv9))
      go_returns
      exact HF.out _ _ hfin.out.1 hbe.out hfin.out.2
end Go.Proofs.Ytemfecdpjegocaa
