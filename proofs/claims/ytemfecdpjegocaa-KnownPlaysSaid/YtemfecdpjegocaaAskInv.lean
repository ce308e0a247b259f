/- What holds while bodies are added to the set and to the document's row. -/
import Derived.Test.YtemfecdpjegocaaKnownAsk
import Derived.Test.YtemfecdpjegocaaRefAdd
import Derived.Test.YtemfecdpjegocaaRefSum
import Derived.Test.YtemfecdpjegocaaStrs
namespace Go.Proofs.Ytemfecdpjegocaa
open Go.RowKit
set_option linter.unusedVariables false
set_option linter.unusedSimpArgs false

def addL (row : List ByteArray) (T : ByteArray) : List ByteArray := if T ∈ row then row else row ++ [T]
structure AskInv (B g n : Nat) (KA : Array Value) (w0 w : World) (R : List (Nat × List UInt8)) (rv : Value) (row L : List ByteArray) : Prop where
  set : SetAt (B + 1) B n 1024 w R
  own : ∀ i, OwnR (B + 1) B R i → B ≤ i
  key : Blk w g KA 47
  keyO : ¬ OwnR (B + 1) B R g
  rs : RS w rv row
  rsO : ∀ b, rv.ownBlock = some b → b < w.heap.size ∧ ¬ OwnR (B + 1) B R b
  rv0 : rv = .slice none 0 0 ∨ ∃ ad n c, rv = .slice (some ad) n c
  link : ∀ t : ByteArray, hasR R t.data.toList = decide (t ∈ L)
  len : row.length ≤ n
  bel : Below B w0 w
theorem AskInv.lt {B g n : Nat} {KA : Array Value} {w0 w : World} {R : List (Nat × List UInt8)} {rv : Value} {row L : List ByteArray} (h : AskInv B g n KA w0 w R rv row L) : B < w.heap.size := Nat.lt_trans (Nat.lt_succ_self _) h.set.row.bd.lt
theorem AskInv.after {B g n : Nat} {KA : Array Value} {w0 w w' : World} {R : List (Nat × List UInt8)} {rv : Value} {row L : List ByteArray} (h : AskInv B g n KA w0 w R rv row L) (hb : Below w.heap.size w w') : AskInv B g n KA w0 w' R rv row L :=
  ⟨h.set.below hb, h.own, Below.blk hb h.key h.key.lt, h.keyO, h.rs.below hb, fun b hb' => ⟨Nat.lt_of_lt_of_le (h.rsO b hb').1 hb.size, (h.rsO b hb').2⟩, h.rv0, h.link, h.len, h.bel.trans (hb.mono (Nat.le_of_lt h.lt))⟩
theorem AskInv.up {B g n : Nat} {KA : Array Value} {w0 w : World} {R : List (Nat × List UInt8)} {rv : Value} {row L : List ByteArray} (h : AskInv B g n KA w0 w R rv row L) : AskInv B g (n + 1) KA w0 w R rv row L := by
  obtain ⟨D, hD, r⟩ := h.set.mp
  exact ⟨⟨h.set.row, ⟨D, hD.mono (Nat.le_succ _), r⟩, h.set.nd, h.set.hb, h.set.szs⟩, h.own, h.key, h.keyO, h.rs, h.rsO, h.rv0, h.link, Nat.le_succ_of_le h.len, h.bel⟩
theorem RS.kept {O : Nat → Prop} {w w' : World} {v : Value} {l : List ByteArray} (h : RS w v l) (hk : KeepsO O w w') (hO : ∀ b, v.ownBlock = some b → ¬ O b) : RS w' v l := by
  rcases h with h | ⟨b, off, cap, rfl, hlt, hc⟩
  · exact .inl h
  · refine .inr ⟨b, off, cap, rfl, Nat.lt_of_lt_of_le hlt hk.size, fun i hi => ?_⟩
    have := hc i hi
    unfold World.cell? at this ⊢
    rw [hk.block b hlt (hO b rfl)]; exact this
theorem RS.blockLt {w : World} {v : Value} {l : List ByteArray} (h : RS w v l) (hl : 0 < l.length) : ∀ b, v.ownBlock = some b → b < w.heap.size := by
  rcases h with ⟨rfl, _⟩ | ⟨b, off, cap, rfl, hlt, hc⟩
  · simp at hl
  · intro b h; cases h; exact hlt
theorem has_snoc (R : List (Nat × List UInt8)) (bl : Nat) (s x : List UInt8) : hasR (R ++ [(bl, s)]) x = (hasR R x || s == x) := by
  unfold hasR; rw [List.any_append]; simp
theorem ask_set {B g n : Nat} {KA : Array Value} {w0 w : World} {R : List (Nat × List UInt8)} {rv : Value} {row : List ByteArray} (h : AskInv B g n KA w0 w R rv row row) (hn : n ≤ 100) (body T : ByteArray) (hs : SumOf body T) :
    Calls Try.prog 16 #[.pointer (some ⟨B + 1, 0, none⟩), .string body] w fun en w' => ∃ b R', en = .returned (.bool b) ∧ AskInv B g (n + 1) KA w0 w' R' rv row (addL row T) := by
  obtain ⟨hsz, hc⟩ := hs
  have hT : T.size ≤ maxLen := by unfold maxLen; omega
  have hlk := h.link T
  cases hh : hasR R T.data.toList with
  | true =>
    rw [hh] at hlk
    have hin : T ∈ row := of_decide_eq_true hlk.symm
    refine (known_add_old h.set body T hT hc hh).mono ?_
    rintro en w' ⟨rfl, hb⟩
    refine ⟨_, R, rfl, ?_⟩
    unfold addL
    rw [if_pos hin]
    exact (h.after hb).up
  | false =>
    rw [hh] at hlk
    have hni : T ∉ row := of_decide_eq_false hlk.symm
    refine (known_add_new h.set body T hsz (by omega) (by unfold maxLen; omega) (by omega) hc hh).mono ?_
    rintro en w' ⟨bl, rfl, hbl, hset, hkeep⟩
    have hlen : R.length ≤ n := h.set.mp.sz_le
    have e : addR R 1024 bl T.data.toList = R ++ [(bl, T.data.toList)] := by
      unfold addR; rw [hh, if_neg (by decide), if_neg (by omega)]
    have hlt := h.lt
    have ho : ∀ i, OwnR (B + 1) B (addR R 1024 bl T.data.toList) i → i < w.heap.size → OwnR (B + 1) B R i := fun i hi hil => by
      rcases addR_own hi with hi | rfl
      · exact hi
      · omega
    refine ⟨_, addR R 1024 bl T.data.toList, rfl, hset, fun i hi => ?_, hkeep.blk h.key h.keyO, fun hg => h.keyO (ho g hg h.key.lt), h.rs.kept hkeep (fun b hb => (h.rsO b hb).2), fun b hb => ⟨Nat.lt_of_lt_of_le (h.rsO b hb).1 hkeep.size, fun hg => (h.rsO b hb).2 (ho b hg (h.rsO b hb).1)⟩, h.rv0, fun t => ?_, Nat.le_succ_of_le h.len, hkeep.below h.bel h.own (Nat.le_of_lt hlt)⟩
    · rcases addR_own hi with hi | rfl
      · exact h.own i hi
      · omega
    · rw [e, has_snoc, h.link t]
      unfold addL
      rw [if_neg hni, Bool.eq_iff_iff]
      simp only [Bool.or_eq_true, decide_eq_true_eq, List.mem_append, List.mem_singleton, beq_iff_eq]
      constructor
      · rintro (h1 | h1)
        · exact .inl h1
        · exact .inr (by apply ByteArray.ext; apply Array.ext'; exact h1.symm)
      · rintro (h1 | h1)
        · exact .inl h1
        · exact .inr (by rw [h1])
theorem ask_row {B g n : Nat} {KA : Array Value} {w0 w w' : World} {R : List (Nat × List UInt8)} {rv v' : Value} {row : List ByteArray} {T : ByteArray} (h : AskInv B g (n + 1) KA w0 w R rv row (addL row T)) (hl : row.length ≤ n)
    (ha : RowAdded w rv row T w' v') (hb : Below w.heap.size w w') : AskInv B g (n + 1) KA w0 w' R v' (addL row T) (addL row T) := by
  have h2 := h.after hb
  rcases ha with ⟨hin, rfl⟩ | ⟨hni, hrs, hbk, h0⟩
  · have e : addL row T = row := if_pos hin
    rw [e] at h2 ⊢
    exact h2
  · have e : addL row T = row ++ [T] := if_neg hni
    rw [e] at h2 ⊢
    refine ⟨h2.set, h2.own, h2.key, h2.keyO, hrs, fun b hb' => ⟨hrs.blockLt (by simp) b hb', fun hg => ?_⟩, h0, h2.link, by simp; omega, h2.bel⟩
    have h3 := h.set.lt b hg
    have h4 := hbk b hb'
    omega
theorem strs_rs {w : World} {a : Option Addr} {len cap : Nat} {ss : List ByteArray} (h : IsStrs w a len ss) : RS w (.slice a len cap) ss := by
  obtain ⟨h1, h2, h3⟩ := h
  subst h2
  rcases Nat.eq_zero_or_pos ss.length with h0 | h0
  · have := List.length_eq_zero_iff.1 h0
    subst this
    exact .inl ⟨rfl, a, cap, rfl⟩
  · obtain ⟨b, off, rfl, hb, _⟩ := h3 0 h0
    refine .inr ⟨b, off, cap, rfl, hb, fun i hi => ?_⟩
    obtain ⟨b2, off2, he, _, hc, _⟩ := h3 i hi
    cases he
    rw [hc, List.getD_eq_getElem?_getD, List.getElem?_eq_getElem hi]; rfl
end Go.Proofs.Ytemfecdpjegocaa
