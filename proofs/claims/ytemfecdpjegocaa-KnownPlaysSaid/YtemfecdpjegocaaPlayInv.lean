/- What holds while acts are done with a set and with the document's row. -/
import Derived.Test.YtemfecdpjegocaaKnownTouch
import Derived.Test.YtemfecdpjegocaaRowAdd
import Derived.Test.YtemfecdpjegocaaAskInv
import Derived.Test.YtemfecdpjegocaaRefSame
namespace Go.Proofs.Ytemfecdpjegocaa
open Go.RowKit
set_option linter.unusedVariables false
set_option linter.unusedSimpArgs false

theorem hasR_sums (R : List (Nat × List UInt8)) (T : ByteArray) : hasR R T.data.toList = decide (T ∈ sumsR R) := by
  unfold hasR sumsR
  rw [Bool.eq_iff_iff, List.any_eq_true, decide_eq_true_iff, List.mem_map]
  constructor
  · rintro ⟨x, hx, h⟩
    refine ⟨x, hx, ?_⟩
    apply ByteArray.ext; apply Array.ext'; simpa using h
  · rintro ⟨x, hx, rfl⟩
    exact ⟨x, hx, by simp⟩
theorem sums_app (A B : List (Nat × List UInt8)) : sumsR (A ++ B) = sumsR A ++ sumsR B := by simp [sumsR]
theorem sums_one (b : Nat) (T : ByteArray) : sumsR [(b, T.data.toList)] = [T] := by simp [sumsR]
theorem sums_add {R : List (Nat × List UInt8)} {room bl : Nat} {T : ByteArray} (h : hasR R T.data.toList = false) : sumsR (addR R room bl T.data.toList) = addT (sumsR R) room T := by
  unfold addR addT
  rw [h, sumsR_len]
  simp only [Bool.false_eq_true, if_false]
  split
  · have e : sumsR (R ++ [(bl, T.data.toList)]).tail = (sumsR (R ++ [(bl, T.data.toList)])).tail := by unfold sumsR; rw [List.map_tail]
    rw [e, sums_app, sums_one]
  · rw [sums_app, sums_one]
theorem sums_nodup {R : List (Nat × List UInt8)} (h : (R.map Prod.snd).Nodup) : (sumsR R).Nodup := by
  have e : R.map Prod.snd = (sumsR R).map fun t => t.data.toList := by unfold sumsR; rw [List.map_map]; apply List.map_congr_left; intro x _; simp
  rw [e] at h
  exact List.Pairwise.of_map (fun t : ByteArray => t.data.toList) (fun a b hab e => hab (congrArg (fun t : ByteArray => t.data.toList) e)) h

/-- What Touch does to a row. -/
def TouchL (L : List ByteArray) (T : ByteArray) (L' : List ByteArray) (b : Bool) : Prop :=
  (T ∉ L ∧ b = false ∧ L' = L) ∨ ∃ k : Nat, ∃ h : k < L.length, L[k] = T ∧ b = true ∧ L' = L.take k ++ L.drop (k + 1) ++ [T]
theorem TouchL.same {L L1 L2 : List ByteArray} {T : ByteArray} {b1 b2 : Bool} (hn : L.Nodup) (h1 : TouchL L T L1 b1) (h2 : TouchL L T L2 b2) : L1 = L2 ∧ b1 = b2 := by
  rcases h1 with ⟨n1, rfl, rfl⟩ | ⟨k1, hk1, e1, rfl, rfl⟩ <;> rcases h2 with ⟨n2, rfl, rfl⟩ | ⟨k2, hk2, e2, rfl, rfl⟩
  · exact ⟨rfl, rfl⟩
  · exact absurd (e2 ▸ List.getElem_mem hk2) n1
  · exact absurd (e1 ▸ List.getElem_mem hk1) n2
  · have hp := List.pairwise_iff_getElem.1 hn
    have : k1 = k2 := by
      rcases Nat.lt_trichotomy k1 k2 with h | h | h
      · exact absurd (e1.trans e2.symm) (hp k1 k2 hk1 hk2 h)
      · exact h
      · exact absurd (e2.trans e1.symm) (hp k2 k1 hk2 hk1 h)
    subst this
    exact ⟨rfl, rfl⟩
/-- What Add does to a row. -/
def AddL (L : List ByteArray) (room : Nat) (T : ByteArray) (L' : List ByteArray) (b : Bool) : Prop :=
  (T ∈ L ∧ b = false ∧ L' = L) ∨ (T ∉ L ∧ b = true ∧ L' = addT L room T)
theorem AddL.same {L L1 L2 : List ByteArray} {room : Nat} {T : ByteArray} {b1 b2 : Bool} (h1 : AddL L room T L1 b1) (h2 : AddL L room T L2 b2) : L1 = L2 ∧ b1 = b2 := by
  rcases h1 with ⟨n1, rfl, rfl⟩ | ⟨n1, rfl, rfl⟩ <;> rcases h2 with ⟨n2, rfl, rfl⟩ | ⟨n2, rfl, rfl⟩
  · exact ⟨rfl, rfl⟩
  · exact absurd n1 n2
  · exact absurd n2 n1
  · exact ⟨rfl, rfl⟩

structure PlayInv (B g n room : Nat) (KA : Array Value) (w0 w : World) (R : List (Nat × List UInt8)) (rv : Value) (L : List ByteArray) : Prop where
  set : SetAt (B + 1) B n room w R
  own : ∀ i, OwnR (B + 1) B R i → B ≤ i
  key : Blk w g KA 47
  keyO : ¬ OwnR (B + 1) B R g
  val : RV w rv L
  rvO : ∀ b, rv.ownBlock = some b → ¬ OwnR (B + 1) B R b
  bel : Below B w0 w
section
variable {B g n room : Nat} {KA : Array Value} {w0 w : World} {R : List (Nat × List UInt8)} {rv : Value} {L : List ByteArray}
theorem PlayInv.lt (h : PlayInv B g n room KA w0 w R rv L) : B < w.heap.size := Nat.lt_trans (Nat.lt_succ_self _) h.set.row.bd.lt
theorem PlayInv.len (h : PlayInv B g n room KA w0 w R rv L) : R.length ≤ n := h.set.mp.sz_le
theorem PlayInv.after {w' : World} (h : PlayInv B g n room KA w0 w R rv L) (hb : Below w.heap.size w w') : PlayInv B g n room KA w0 w' R rv L :=
  ⟨h.set.below hb, h.own, Below.blk hb h.key h.key.lt, h.keyO, h.val.below hb, h.rvO, h.bel.trans (hb.mono (Nat.le_of_lt h.lt))⟩
theorem PlayInv.up (h : PlayInv B g n room KA w0 w R rv L) : PlayInv B g (n + 1) room KA w0 w R rv L := by
  obtain ⟨D, hD, r⟩ := h.set.mp
  exact ⟨⟨h.set.row, ⟨D, hD.mono (Nat.le_succ _), r⟩, h.set.nd, h.set.hb, h.set.szs⟩, h.own, h.key, h.keyO, h.val, h.rvO, h.bel⟩
theorem RV.kept {O : Nat → Prop} {w w' : World} {v : Value} {l : List ByteArray} (h : RV w v l) (hk : KeepsO O w w') (hO : ∀ b, v.ownBlock = some b → ¬ O b) : RV w' v l := by
  rcases h with h | ⟨b, off, cap, rfl, hcap, hlt, hc⟩
  · exact .inl h
  · refine .inr ⟨b, off, cap, rfl, hcap, Nat.lt_of_lt_of_le hlt hk.size, fun i hi => ?_⟩
    have := hc i hi
    unfold World.cell? at this ⊢
    rw [hk.block b hlt (hO b rfl)]; exact this
/-- The row is another, made since. -/
theorem PlayInv.row {w' : World} {v' : Value} {L' : List ByteArray} (h : PlayInv B g n room KA w0 w R rv L) (hb : Below w.heap.size w w') (hr : RV w' v' L') (hO : ∀ c, v'.ownBlock = some c → w.heap.size ≤ c) : PlayInv B g n room KA w0 w' R v' L' := by
  have h2 := h.after hb
  exact ⟨h2.set, h2.own, h2.key, h2.keyO, hr, fun c hc ho => by have := hO c hc; have := h.set.lt c ho; omega, h2.bel⟩

theorem play_add (h : PlayInv B g n room KA w0 w R rv L) (hn : n ≤ 100) (hroom : 1 ≤ room) (body T : ByteArray) (hs : SumOf body T) :
    Calls Try.prog 16 #[.pointer (some ⟨B + 1, 0, none⟩), .string body] w fun en w' => ∃ b R', en = .returned (.bool b) ∧ PlayInv B g (n + 1) room KA w0 w' R' rv L ∧ AddL (sumsR R) room T (sumsR R') b := by
  obtain ⟨hsz, hc⟩ := hs
  have hT : T.size ≤ maxLen := by unfold maxLen; omega
  have hlk := hasR_sums R T
  cases hh : hasR R T.data.toList with
  | true =>
    rw [hh] at hlk
    refine (known_add_old h.set body T hT hc hh).mono ?_
    rintro en w' ⟨rfl, hb⟩
    exact ⟨_, R, rfl, (h.after hb).up, .inl ⟨of_decide_eq_true hlk.symm, rfl, rfl⟩⟩
  | false =>
    rw [hh] at hlk
    refine (known_add_new h.set body T hsz hroom (by unfold maxLen; omega) (by omega) hc hh).mono ?_
    rintro en w' ⟨bl, rfl, hbl, hset, hkeep⟩
    have hlt := h.lt
    have ho : ∀ i, OwnR (B + 1) B (addR R room bl T.data.toList) i → i < w.heap.size → OwnR (B + 1) B R i := fun i hi hil => by
      rcases addR_own hi with hi | rfl
      · exact hi
      · omega
    refine ⟨_, addR R room bl T.data.toList, rfl, ⟨hset, fun i hi => ?_, hkeep.blk h.key h.keyO, fun hg => h.keyO (ho g hg h.key.lt), h.val.kept hkeep h.rvO, fun b hb hg => h.rvO b hb (ho b hg (h.val.blockLt b hb)), hkeep.below h.bel h.own (Nat.le_of_lt hlt)⟩, .inr ⟨of_decide_eq_false hlk.symm, rfl, sums_add hh⟩⟩
    rcases addR_own hi with hi | rfl
    · exact h.own i hi
    · omega

theorem play_touch (h : PlayInv B g n room KA w0 w R rv L) (body T : ByteArray) (hs : SumOf body T) :
    Calls Try.prog 26 #[.pointer (some ⟨B + 1, 0, none⟩), .string body] w fun en w' => ∃ b R', en = .returned (.bool b) ∧ PlayInv B g (n + 1) room KA w0 w' R' rv L ∧ TouchL (sumsR R) T (sumsR R') b := by
  obtain ⟨hsz, hc⟩ := hs
  have hlk := hasR_sums R T
  refine (known_touch h.set body T hsz hc).mono ?_
  rintro en w' ⟨rfl, ⟨hh, hb⟩ | ⟨hh, R1, b, R2, rfl, hset, hkeep⟩⟩
  · rw [hh] at hlk
    exact ⟨_, R, rfl, (h.after hb).up, .inl ⟨of_decide_eq_false hlk.symm, hh, rfl⟩⟩
  · have ho : ∀ i, OwnR (B + 1) B (R1 ++ R2 ++ [(b, T.data.toList)]) i → OwnR (B + 1) B (R1 ++ (b, T.data.toList) :: R2) i := by
      rintro i (ho | ho | ho)
      · exact .inl ho
      · exact .inr (.inl ho)
      · refine .inr (.inr ?_)
        simp only [List.map_append, List.map_cons, List.map_nil, List.mem_append, List.mem_cons, List.not_mem_nil, or_false] at ho ⊢
        rcases ho with (ho | ho) | ho
        · exact .inl ho
        · exact .inr (.inr ho)
        · exact .inr (.inl ho)
    have hi : PlayInv B g n room KA w0 w' (R1 ++ R2 ++ [(b, T.data.toList)]) rv L :=
      ⟨hset, fun i hi => h.own i (ho i hi), hkeep.blk h.key h.keyO, fun hg => h.keyO (ho g hg), h.val.kept hkeep h.rvO, fun c hc hg => h.rvO c hc (ho c hg), hkeep.below h.bel h.own (Nat.le_of_lt h.lt)⟩
    refine ⟨_, _, rfl, hi.up, .inr ⟨R1.length, by rw [sumsR_len]; simp, ?_, hh, ?_⟩⟩
    · simp [sumsR]
    · have e : sumsR (R1 ++ (b, T.data.toList) :: R2) = sumsR R1 ++ T :: sumsR R2 := by simp [sumsR]
      rw [e, sums_app, sums_app, sums_one]
      have e2 : R1.length = (sumsR R1).length := (sumsR_len R1).symm
      rw [e2, List.take_left, List.drop_append]
      simp

theorem play_has (h : PlayInv B g n room KA w0 w R rv L) (body T : ByteArray) (hs : SumOf body T) :
    Calls Try.prog 17 #[.pointer (some ⟨B + 1, 0, none⟩), .string body] w fun en w' => en = .returned (.bool (decide (T ∈ sumsR R))) ∧ PlayInv B g (n + 1) room KA w0 w' R rv L :=
  (known_has h.set body T (by have := hs.1; unfold maxLen; omega) hs.2).mono fun en w' ⟨h1, h2⟩ => ⟨by rw [h1, hasR_sums], (h.after h2).up⟩

theorem play_ref_touch (h : PlayInv B g n room KA w0 w R rv L) (hl : L.length ≤ 1100) (T : ByteArray) :
    Calls Try.prog 27 #[rv, .string T] w fun en w' => ∃ v' b L', en = .returned (.tuple #[v', .bool b]) ∧ PlayInv B g n room KA w0 w' R v' L' ∧ TouchL L T L' b := by
  refine (ref_touch h.val hl T).mono ?_
  rintro en w' ⟨v', b, rfl, hb, ⟨hn, rfl, rfl⟩ | ⟨k, hk, he, rfl, hr, hO⟩⟩
  · exact ⟨_, _, L, rfl, h.after hb, .inl ⟨hn, rfl, rfl⟩⟩
  · exact ⟨_, _, _, rfl, h.row hb hr hO, .inr ⟨k, hk, he, rfl, rfl⟩⟩
theorem play_ref_add (h : PlayInv B g n room KA w0 w R rv L) (hl : L.length ≤ 1100) (hroom : 1 ≤ room ∧ room ≤ 1024) (T : ByteArray) :
    Calls Try.prog 20 #[rv, .int .i64 room, .string T] w fun en w' => ∃ v' b L', en = .returned (.tuple #[v', .bool b]) ∧ PlayInv B g n room KA w0 w' R v' L' ∧ AddL L room T L' b := by
  refine (ref_add_room h.val hl room hroom T).mono ?_
  rintro en w' ⟨v', b, rfl, hb, ⟨hn, rfl, rfl⟩ | ⟨hn, rfl, hr, hO⟩⟩
  · exact ⟨_, _, L, rfl, h.after hb, .inl ⟨hn, rfl, rfl⟩⟩
  · exact ⟨_, _, _, rfl, h.row hb hr hO, .inr ⟨hn, rfl, rfl⟩⟩
end
end Go.Proofs.Ytemfecdpjegocaa
