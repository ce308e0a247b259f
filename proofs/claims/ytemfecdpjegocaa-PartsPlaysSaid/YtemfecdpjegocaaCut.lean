/- parts.Cut. -/
import Derived.Test.YtemfecdpjegocaaChunk
import Derived.Test.YtemfecdpjegocaaPartOwn
import Derived.Test.YtemfecdpjegocaaMax
import Derived.Laws.IdiomStrings
import Derived.OwnWalk
namespace Go.Proofs.Ytemfecdpjegocaa
open Go.RowKit Go.Shelf
attribute [local go_sem] Oper.semAt_some
set_option linter.unusedVariables false
set_option linter.unusedSimpArgs false

/-- The k-th piece of a text. -/
def pieceT (s : ByteArray) (size k : Nat) : ByteArray := ⟨((s.data.toList.drop (k * size)).take size).toArray⟩
/-- The parts of a text. -/
def cutL (id : Int) (s : ByteArray) (size : Nat) : List Pt :=
  if s.size = 0 then [⟨id, 0, 1, ByteArray.empty⟩] else (List.range (chunksN s.size size)).map fun (k : Nat) => (⟨id, (k : Int), ((chunksN s.size size : Nat) : Int), pieceT s size k⟩ : Pt)
def badCut (id size : Int) : Prop := id < 0 ∨ 2147483647 < id ∨ size < 1 ∨ 65536 < size

set_option maxRecDepth 100000 in
theorem cut_bad (id : Int) (s : ByteArray) (size : Int) (w : World) (h : badCut id size) :
    Calls Try.prog 11 #[.int .i64 id, .string s, .int .i64 size] w fun en w' => en = .returned (.tuple #[.slice none 0 0, .int .i64 1]) ∧ Below w.heap.size w w' := by
  have hb : (decide (id < 0) = true) ∨ (decide (id < 0) = false ∧ decide (2147483647 < id) = true) ∨ (decide (id < 0) = false ∧ decide (2147483647 < id) = false ∧ decide (size < 1) = true) ∨
      (decide (id < 0) = false ∧ decide (2147483647 < id) = false ∧ decide (size < 1) = false ∧ decide (65536 < size) = true) := by
    unfold badCut at h
    by_cases c1 : id < 0
    · exact .inl (by simp; exact c1)
    · by_cases c2 : 2147483647 < id
      · exact .inr (.inl ⟨by simp; omega, by simp; omega⟩)
      · by_cases c3 : size < 1
        · exact .inr (.inr (.inl ⟨by simp; omega, by simp; omega, by simp; omega⟩))
        · exact .inr (.inr (.inr ⟨by simp; omega, by simp; omega, by simp; omega, by simp; omega⟩))
  have hB : Hid (Below w.heap.size w (w.alloc (.cells #[.int .i64 id] 3))) := (Below.refl _ _).alloc (Nat.le_refl _) _
  clear h
  rcases hb with h0 | ⟨h0, h1⟩ | ⟨h0, h1, h2⟩ | ⟨h0, h1, h2, h3⟩
  all_goals
    go_enter Try.func11, Try.ntmps11
    go_wp2_with fail
    go_returns
    exact ⟨rfl, hB.out⟩

/-- What Cut answers where the limits are right. -/
def CutPost (id : Int) (s : ByteArray) (size : Nat) (w : World) (en : Ending) (w' : World) : Prop :=
  Below w.heap.size w w' ∧ ((1024 < (cutL id s size).length ∧ en = .returned (.tuple #[.slice none 0 0, .int .i64 4])) ∨
    ((cutL id s size).length ≤ 1024 ∧ ∃ v, en = .returned (.tuple #[v, .int .i64 0]) ∧ OwnP w' w.heap.size 33 v (cutL id s size)))
theorem cutL_len (id : Int) (s : ByteArray) (size : Nat) : (cutL id s size).length = if s.size = 0 then 1 else chunksN s.size size := by
  unfold cutL; split <;> simp

theorem pieceT_len (s : ByteArray) (size k : Nat) : (pieceT s size k).data.toList.length = pieceN s.size size k := by
  unfold pieceT pieceN
  rw [List.length_take, List.length_drop]
  have : s.data.toList.length = s.size := Array.length_toList
  rw [this]
/-- The first k parts of a text that has N. -/
def cutK (id : Int) (N : Nat) (s : ByteArray) (size k : Nat) : List Pt := (List.range k).map fun (j : Nat) => (⟨id, (j : Int), ((N : Nat) : Int), pieceT s size j⟩ : Pt)
theorem cutK_succ (id : Int) (N : Nat) (s : ByteArray) (size k : Nat) : cutK id N s size (k + 1) = cutK id N s size k ++ [⟨id, (k : Int), ((N : Nat) : Int), pieceT s size k⟩] := by
  unfold cutK; rw [List.range_succ, List.map_append]; rfl
theorem cutK_len (id : Int) (N : Nat) (s : ByteArray) (size k : Nat) : (cutK id N s size k).length = k := by simp [cutK]
/-- What holds between two pieces. -/
def CutJ (B bl gs N : Nat) (id : Int) (s : ByteArray) (size : Nat) (w : World) (k : Nat) (W : World) : Prop :=
  Blk W bl #[.slice (some ⟨B + 2, 0, none⟩) k N] 23 ∧ OwnP W B 33 (.slice (some ⟨B + 2, 0, none⟩) k N) (cutK id N s size k) ∧ Blk W B #[.int .i64 id] 3 ∧ Blk W (B + 1) #[.int .i64 (N : Int)] 3 ∧
    (gs < W.heap.size ∧ ∀ j (h : j < s.data.toList.length), W.cell? ⟨gs, j, none⟩ = some (.int .u8 ((s.data.toList[j]).toNat : Int))) ∧ Below B w W
theorem Blk.row {W W' : World} {b : Nat} {cs : Array Value} {t : TypeId} {row : Option Nat} (h : Blk W b cs t) (hg : W.grownBy W' row) (hne : some b ≠ row) : Blk W' b cs t := by
  unfold Blk; rw [hg.block b h.lt hne]; exact h
theorem CutJ.grown {B bl gs N size k : Nat} {id : Int} {s : ByteArray} {w W W' : World} {row : Option Nat} (h : CutJ B bl gs N id s size w k W) (hg : W.grownBy W' row) (hr : ∀ r, row = some r → bl < r ∧ gs < r ∧ B + 2 < r) : CutJ B bl gs N id s size w k W' := by
  obtain ⟨h1, h2, h3, h4, h5, h6⟩ := h
  refine ⟨h1.row hg (fun e => ?_), h2.kept fun b hb => ?_, h3.row hg (fun e => ?_), h4.row hg (fun e => ?_), ⟨Nat.lt_of_lt_of_le h5.1 hg.size, fun j hj => ?_⟩, h6.grown hg ?_ fun j hj => ?_⟩
  · have := hr bl e.symm; omega
  · cases hb
    refine hg.block _ (h2.block _ rfl).2 fun e => ?_
    have := hr (B + 2) e.symm; omega
  · have := hr B e.symm; omega
  · have := hr _ e.symm; omega
  · have := h5.2 j hj
    rw [← this]
    exact World.cell?_of_block (hg.block gs h5.1 fun e => by have := hr gs e.symm; omega)
  · have := h3.lt; omega
  · have := hr j hj; omega

theorem keeps_grown {B E : Nat} {W Y Z : World} {row : Option Nat} (h : KeepsFrom B W Y ∧ KpC E W Y) (hg : Y.grownBy Z row) (hr : ∀ j, row = some j → j < B ∧ j < E) : KeepsFrom B W Z ∧ KpC E W Z := by
  refine ⟨h.1.trans (KeepsFrom.of_grownBy hg (fun j e => (hr j e).1)), h.2.trans ⟨hg.size, fun k cs t m hk hc => ?_⟩⟩
  rw [hg.block k (Array.getElem?_eq_some_iff.1 hc).1 (fun e => by have := (hr k e.symm).2; omega)]; exact hc
/-- A piece as a text. -/
theorem piece_string {B bl gs N size k : Nat} {id : Int} {s : ByteArray} {w W : World} (h : CutJ B bl gs N id s size w k W) :
    (convert 39 9 (.slice (some ⟨gs, k * size, none⟩) (pieceN s.size size k) (pieceN s.size size k))).run Try.prog W = .ok (.string (pieceT s size k)) W := by
  have hl := pieceT_len s size k
  have := run_convert_bytes_back (P := Try.prog) W 39 9 5 ⟨gs, k * size, none⟩ (pieceN s.size size k) (pieceT s size k).data.toList Try.underlying39 Try.underlying5 Try.underlying9 (fun j hj => by
    have e1 : (⟨gs, k * size, none⟩ : Addr).add j = ⟨gs, k * size + j, none⟩ := by unfold Addr.add; split <;> simp_all
    have hj' := hj
    simp only [pieceT, List.length_take, List.length_drop] at hj'
    rw [e1, h.2.2.2.2.1.2 (k * size + j) (by omega)]
    simp [pieceT])
  rw [hl] at this
  exact this
/-- One part more. -/
theorem CutJ.next {B bl gs N size k : Nat} {id : Int} {s : ByteArray} {w W w3 : World} (h : CutJ B bl gs N id s size w k W) (hbl : B + 2 < bl) (hgs : bl < gs)
    (hown : OwnP w3 B 33 (.slice (some ⟨B + 2, 0, none⟩) (k + 1) N) (cutK id N s size (k + 1))) (hg : (W.alloc (.cells (Pt.cs ⟨id, (k : Int), (N : Int), pieceT s size k⟩) 33)).grownBy w3 (some (B + 2))) :
    CutJ B bl gs N id s size w (k + 1) (w3.setCell ⟨bl, 0, none⟩ (.slice (some ⟨B + 2, 0, none⟩) (k + 1) N)) := by
  obtain ⟨h1, h2, h3, h4, h5, h6⟩ := h
  have n1 : some bl ≠ some (B + 2) := by simp; omega
  refine ⟨?_, hown.kept fun b hb => ?_, ?_, ?_, ⟨?_, fun j hj => ?_⟩, ?_⟩
  · have := ((h1.alloc (.cells (Pt.cs ⟨id, (k : Int), (N : Int), pieceT s size k⟩) 33)).row hg n1).set 0 (.slice (some ⟨B + 2, 0, none⟩) (k + 1) N)
    simpa using this
  · cases hb
    exact Below.heap_setCell _ _ _ _ (by simp; omega)
  · exact ((h3.alloc _).row hg (by simp)).setOther (show B ≠ bl by omega) _
  · exact ((h4.alloc _).row hg (by simp)).setOther (show B + 1 ≠ bl by omega) _
  · have := hg.size; simp [World.setCell] at this ⊢; omega
  · rw [← h5.2 j hj]
    have e1 : (w3.setCell ⟨bl, 0, none⟩ (.slice (some ⟨B + 2, 0, none⟩) (k + 1) N)).heap[gs]? = W.heap[gs]? := by
      rw [Below.heap_setCell _ _ _ _ (by simp; omega), hg.block gs (by rw [World.size_alloc]; omega) (by simp; omega)]
      exact Below.heap_alloc _ _ _ h5.1
    exact World.cell?_of_block e1
  · have := h3.lt
    exact ((h6.alloc (by omega) _).grown hg (by rw [World.size_alloc]; omega) (fun j hj => by cases hj; omega)).setCell (by simp; omega) _

set_option maxRecDepth 100000 in
set_option maxHeartbeats 1000000 in
theorem cut_right (id : Int) (s : ByteArray) (size : Nat) (w : World) (h : ¬ badCut id size) (hs : s.size ≤ 100000) :
    Calls Try.prog 11 #[.int .i64 id, .string s, .int .i64 size] w (CutPost id s size w) := by
  unfold badCut at h
  have h0 : decide (id < 0) = false := by simp; omega
  have h1 : decide (2147483647 < id) = false := by simp; omega
  have h2 : decide ((size : Int) < 1) = false := by simp; omega
  have h3 : decide (65536 < (size : Int)) = false := by simp; omega
  have hsz : Hid (1 ≤ size ∧ size ≤ 65536) := ⟨by omega, by omega⟩
  have hs1 : 1 ≤ size := hsz.out.1
  clear h
  obtain ⟨B, hB⟩ : ∃ B, w.heap.size = B := ⟨_, rfl⟩
  have hblk0 : Hid (Blk (w.alloc (.cells #[.int .i64 id] 3)) B #[.int .i64 id] 3) := hB ▸ Blk.new w #[.int .i64 id] 3
  have hb0 : Hid (Below B w (w.alloc (.cells #[.int .i64 id] 3))) := (Below.refl _ _).alloc (by omega) _
  have hs2 : size ≤ 100000 := by have := hsz.out.2; omega
  by_cases he : s = ByteArray.empty
  case pos =>
    subst he
    have hq : ((size : Int) - 1).tdiv (size : Int) = 0 := by
      rw [Int.tdiv_eq_ediv_of_nonneg (by omega)]
      exact Int.ediv_eq_zero_of_lt (by omega) (by omega)
    have hfin : Hid (∀ w1, Below B w w1 → CutPost id ByteArray.empty size w (.returned (.tuple #[.slice (some ⟨w1.heap.size, 0, none⟩) 1 1, .int .i64 0])) (w1.alloc (.cells #[.int .i64 id, .int .i64 0, .int .i64 1, .string ⟨#[]⟩] 33))) := by
      intro w1 hb
      have e : cutL id ByteArray.empty size = [⟨id, 0, 1, ByteArray.empty⟩] := rfl
      have hsz1 := hb.size
      refine ⟨hB ▸ hb.alloc (by omega) _, .inr ⟨by rw [e]; simp, _, rfl, ?_⟩⟩
      rw [e]
      have := World.ownsRow_lit (base := w.heap.size) (e := 33) (size := 4) w1 #[.int .i64 id, .int .i64 0, .int .i64 1, .string ⟨#[]⟩] 1 (by omega) (by decide) rfl
      exact this
    have hb1 : Hid (Below B w ((w.alloc (.cells #[.int .i64 id] 3)).alloc (.cells #[.int .i64 1] 3))) := hb0.out.alloc (by simp; omega) _
    have hsz1 : Hid (((w.alloc (.cells #[.int .i64 id] 3)).alloc (.cells #[.int .i64 1] 3)).heap.size = B + 1 + 1) := by unfold Hid; simp [hB]
    go_enter Try.func11, Try.ntmps11
    go_wp2_with fail
    go_returns
    have := hfin.out _ hb1.out
    rw [hsz1.out] at this
    exact this
  case neg =>
    have hpos : 1 ≤ s.size := by
      rcases Nat.eq_zero_or_pos s.size with h | h
      · exact absurd (by apply ByteArray.ext; exact Array.eq_empty_of_size_eq_zero h) he
      · exact h
    obtain ⟨N, hN⟩ : ∃ N, chunksN s.size size = N := ⟨_, rfl⟩
    have hN1 : 1 ≤ N := by
      have := (chunksN_lt (len := s.size) (k := 0) hs1).2 (by omega)
      omega
    have hNs : N ≤ s.size := by
      rcases Nat.lt_or_ge s.size N with h | h
      · have := (chunksN_lt (len := s.size) (k := s.size) hs1).1 (by omega)
        have h2 : s.size * 1 ≤ s.size * size := Nat.mul_le_mul_left _ hs1
        omega
      · exact h
    have hq : (((s.size : Int) + (size : Int)) - 1).tdiv (size : Int) = (N : Int) := by
      rw [Int.tdiv_eq_ediv_of_nonneg (by omega), ← hN]
      unfold chunksN
      rw [show ((s.size : Int) + (size : Int)) - 1 = ((s.size + size - 1 : Nat) : Int) by omega, Int.natCast_ediv]
    have hbe : (s.toList == ([] : List UInt8)) = false := by rw [nonempty_beq]; simp; omega
    have eL : Hid (cutL id s size = cutK id N s size N) := by unfold Hid cutL; rw [if_neg (by omega), hN]; rfl
    have HN := Lib.hid hN
    have hbN : Hid (Below B w ((w.alloc (.cells #[.int .i64 id] 3)).alloc (.cells #[.int .i64 (N : Int)] 3))) := hb0.out.alloc (by simp; omega) _
    clear he hN
    by_cases hbig : 1024 < N
    · have d5 : decide (1024 < (N : Int)) = true := by simp; omega
      go_enter Try.func11, Try.ntmps11
      go_wp2_with (refine wpList_max_int rfl (.const (.int .i64 1)) (.tmp 31) rfl 1 N N rfl rfl (by omega) ?_)
      go_returns
      exact ⟨hB ▸ hbN.out, .inl ⟨by rw [eL.out, cutK_len]; exact hbig, rfl⟩⟩
    · have d5 : decide (1024 < (N : Int)) = false := by simp; omega
      obtain ⟨i0, hi, hz0, hz1, hz2⟩ := info_parts part_types.hi
      have hsN : ((w.alloc (.cells #[.int .i64 id] 3)).alloc (.cells #[.int .i64 (N : Int)] 3)).heap.size = B + 2 := by simp [hB]
      have hBN := Blk.new (w.alloc (.cells #[.int .i64 id] 3)) #[.int .i64 (N : Int)] 3
      rw [show (w.alloc (.cells #[.int .i64 id] 3)).heap.size = B + 1 by simp [hB]] at hBN
      have HBN : Hid (Blk ((w.alloc (.cells #[.int .i64 id] 3)).alloc (.cells #[.int .i64 (N : Int)] 3)) (B + 1) #[.int .i64 (N : Int)] 3 ∧ Blk ((w.alloc (.cells #[.int .i64 id] 3)).alloc (.cells #[.int .i64 (N : Int)] 3)) B #[.int .i64 id] 3) := ⟨hBN, hblk0.out.alloc _⟩
      clear hBN hblk0
      have hcv := fun W => run_bytes_of_string (P := Try.prog) W 9 39 5 s Try.underlying9 Try.underlying39 Try.underlying5
      refine (callsIn_wide (n := 8)).1 ?_
      refine callsIn_of_wp_marks Try.func11 rfl trivial ?_ rfl
      simp only [Try.ntmps11, List.size_toArray, List.length_cons, List.length_nil, Nat.reduceAdd, Nat.reduceSub, Array.replicate_succ, Array.replicate_zero, List.push_toArray, List.append_toArray, List.nil_append, List.cons_append]
      refine wpIn_wide.2 ?_
      go_wp2_with (first
        | (refine wpList_max_int rfl (.const (.int .i64 1)) (.tmp 31) rfl 1 N N rfl rfl (by omega) ?_)
        | (at_make; refine wpList_make_own _ rfl (.const (.int .i64 0)) (.tmp 41) 23 rfl B 33 i0 _ 4 part_types.ht hi hz0 hz1 _ _ _ N rfl rfl rfl (by rw [hz2]; omega) (by unfold maxLen; omega) (by omega) ?_; intro w1 hown1 hg1))
      obtain ⟨bl, hbl⟩ : ∃ bl, w1.heap.size = bl := ⟨_, rfl⟩
      have hsN2 := hg1.size
      rw [hsN] at hown1 hsN2
      have hown2 : OwnP w1 B 33 (.slice (some ⟨B + 2, 0, none⟩) 0 N) [] := hown1
      have hlt2 := (hown2.block (B + 2) rfl).2
      have hgc := fun W => grownCap_ge W s.size 0 5
      have hJ2 : Hid (∀ C, s.size ≤ C → CutJ B bl (bl + 1) N id s size w 0 (((w1.alloc (.cells #[.slice (some ⟨B + 2, 0, none⟩) 0 N] 23)).alloc (.cells (bytesRow s C) 5 ((bytesRow s C).size, (bytesRow s C).size + 1)))).drew) := by
        intro C hC
        have a1 : Blk (w1.alloc (.cells #[.slice (some ⟨B + 2, 0, none⟩) 0 N] 23)) bl #[.slice (some ⟨B + 2, 0, none⟩) 0 N] 23 := hbl ▸ Blk.new w1 _ _
        have hsz' : (w1.alloc (.cells #[.slice (some ⟨B + 2, 0, none⟩) 0 N] 23)).heap.size = bl + 1 := by simp [hbl]
        have hbelow : Below B w w1 := hbN.out.grown hg1 (by rw [hsN]; omega) (fun j hj => by cases hj)
        refine ⟨a1.alloc _, ?_, ((HBN.out.2.row hg1 (by simp)).alloc _).alloc _, ((HBN.out.1.row hg1 (by simp)).alloc _).alloc _, ⟨?_, fun j hj => ?_⟩, ?_⟩
        · exact World.ownsRow.alloc (World.ownsRow.alloc hown2 _) _
        · show bl + 1 < (World.alloc _ _).heap.size
          rw [World.size_alloc, hsz']; omega
        · show World.cell? (World.alloc _ _) _ = _
          rw [← hsz', World.cell?_alloc_mark]
          have hj' : j < s.data.size := by simpa using hj
          have hj2 : j < s.size := hj'
          simp [bytesRow, Array.getElem?_append, hj', hj2, Array.getElem?_eq_getElem]
        · have h1 := (hbelow.alloc (by omega) (.cells #[.slice (some ⟨B + 2, 0, none⟩) 0 N] 23)).alloc (by rw [hsz']; omega) (.cells (bytesRow s C) 5 ((bytesRow s C).size, (bytesRow s C).size + 1))
          exact ⟨h1.os, h1.tape, h1.output, h1.size, h1.block⟩
      rw [hbl]
      have hJ3 := Lib.hid (hJ2.out _ (hgc (w1.alloc (.cells #[.slice (some ⟨B + 2, 0, none⟩) 0 N] 23))))
      have hgc2 := hgc (w1.alloc (.cells #[.slice (some ⟨B + 2, 0, none⟩) 0 N] 23))
      generalize grownCap (w1.alloc (.cells #[.slice (some ⟨B + 2, 0, none⟩) 0 N] 23)) s.size 0 5 = C at *
      have hszW : (((w1.alloc (.cells #[.slice (some ⟨B + 2, 0, none⟩) 0 N] 23)).alloc (.cells (bytesRow s C) 5 ((bytesRow s C).size, (bytesRow s C).size + 1)))).drew.heap.size = bl + 2 := by
        show (World.alloc _ _).heap.size = _
        rw [World.size_alloc, World.size_alloc, hbl]
      generalize (((w1.alloc (.cells #[.slice (some ⟨B + 2, 0, none⟩) 0 N] 23)).alloc (.cells (bytesRow s C) 5 ((bytesRow s C).size, (bytesRow s C).size + 1)))).drew = W2 at *
      clear hJ2 hcv hown1 hown2 HBN hg1 hgc hbN
      refine (slices_chunk (bl + 1) s.size C size W2 hs1).mono ?_
      rintro en W3 ⟨rfl, hb3, hc1, hc2⟩
      have hJ4 := Lib.hid (hJ3.out.grown (row := none) ⟨hb3.os, hb3.tape, hb3.output, hb3.size, fun i hi _ => hb3.block i hi⟩ (fun r h => by cases h))
      have hseq := seq_chunk 7 W2.heap.size (W2.heap.size + 1) (bl + 2) (bl + 1) s.size C size W3 hsz.out hs hgc2 ⟨by omega, by omega⟩ hc1 hc2
      have hs3 := hb3.size
      rw [HN.out] at hseq
      rw [hszW] at hseq hs3 ⊢
      have hblB : B + 2 < bl := by omega
      have HJ4 := Lib.hid hJ4
      have HCV := Lib.hid (And.intro HN.out hsz)
      clear hJ3 hc1 hc2
      clear hJ4
      go_wp2_with fail
      refine wpIn_wide.1 (wpIn_range_cells (n := 8) (E := bl + 2) (N := N) (encs := encC (bl + 1) s.size size) (w0 := W3) rfl (by decide) (gf := 63) (lb := #[.pointer (some ⟨bl + 2, 0, none⟩), .pointer (some ⟨bl + 2 + 1, 0, none⟩)]) rfl trivial ?eg hseq (Below.refl _ _) (fun k => rfl) (fun k W => CutJ B bl (bl + 1) N id s size w k W) ?hI HJ4.out ?hround ?hdone)
      case eg => intro args w'; rfl
      case hI => exact fun k W W' row hk hg hr => hk.grown hg (fun r e => by have := hr r e; omega)
      case hround =>
        intro l k W hk hI
        simp only [encC, List.zip_toArray, List.zip_cons_cons, List.zip_nil_right, List.foldl_toArray, List.foldl_cons, List.foldl_nil, List.setIfInBounds_toArray, List.set_cons_zero, List.set_cons_succ]
        gi_wp2
        refine ⟨trivial, fun W2 hI2 => ?_⟩
        have l9 : W2.cell? ⟨bl, 0, none⟩ = some (.slice (some ⟨B + 2, 0, none⟩) k N) := hI2.1.cell 0
        have l3 : W2.cell? ⟨B, 0, none⟩ = some (.int .i64 id) := hI2.2.2.1.cell 0
        have l8 : W2.cell? ⟨B + 1, 0, none⟩ = some (.int .i64 (N : Int)) := hI2.2.2.2.1.cell 0
        have hcv2 := piece_string hI2
        have HI2 := Lib.hid hI2
        have hlk := Lib.hid (cutK_len id N s size k)
        have hNX : Hid (∀ w3, OwnP w3 B 33 (.slice (some ⟨B + 2, 0, none⟩) (k + 1) N) (cutK id N s size k ++ [⟨id, (k : Int), (N : Int), pieceT s size k⟩]) → (W2.alloc (.cells (Pt.cs ⟨id, (k : Int), (N : Int), pieceT s size k⟩) 33)).grownBy w3 (some (B + 2)) →
            CutJ B bl (bl + 1) N id s size w (k + 1) (w3.setCell ⟨bl, 0, none⟩ (.slice (some ⟨B + 2, 0, none⟩) (k + 1) N))) := fun w3 h1 h2 => hI2.next hblB (by omega) (cutK_succ id N s size k ▸ h1) h2
        have hB1 : Hid (Blk W2 bl #[.slice (some ⟨B + 2, 0, none⟩) k N] 23) := hI2.1
        have hO1 : Hid (OwnP W2 B 33 (.slice (some ⟨B + 2, 0, none⟩) k N) (cutK id N s size k)) := hI2.2.1
        have hne : some bl ≠ some (B + 2) := by simp; omega
        have hsW2 : Hid (bl + 2 ≤ W3.heap.size) := hs3
        clear hI hI2 hseq
        generalize cutK id N s size k = LK at *
        generalize pieceT s size k = T at *
        generalize pieceN s.size size k = m at *
        generalize k * size = ofs at *
        gi_wp2_with (gi_at_builtin; refine appendIn_part part_types rfl (.tmp 48) (.tmp 56) rfl B (B + 2) k N LK ⟨id, k, N, T⟩ W2 _ rfl rfl hlk.out.symm hO1.out rfl (by omega) ?_; intro w3 hown3 hg3; have hNX3 := Lib.hid (hNX.out w3 hown3 hg3); have hgg3 := Lib.hid hg3; have hB3 : Blk w3 bl #[.slice (some ⟨B + 2, 0, none⟩) k N] 23 := (hB1.out.alloc _).row hg3 hne; have lb3 : w3.cell? ⟨bl, 0, none⟩ = some (.slice (some ⟨B + 2, 0, none⟩) k N) := hB3.cell 0; have fb3 := hB3.free 0; clear hown3 hg3 hB3)
        have hk0 : KeepsFrom W3.heap.size W2 W2 ∧ KpC (bl + 2) W2 W2 := ⟨KeepsFrom.refl _ _, KpC.refl _ _⟩
        have hk1 := keeps_grown (keeps_grown (keeps_grown hk0 (World.grownBy_alloc W2 _ none) (fun j e => by cases e)) hgg3.out (fun j e => by cases e; have := hsW2.out; exact ⟨by omega, by omega⟩)) (Z := w3.setCell ⟨bl, 0, none⟩ (.slice (some ⟨B + 2, 0, none⟩) (k + 1) N)) (row := some bl) ⟨rfl, rfl, rfl, by simp [World.setCell], fun k _ hne => Below.heap_setCell _ _ _ _ (fun e => hne (by rw [e]))⟩ (fun j e => by cases e; have := hsW2.out; exact ⟨by omega, by omega⟩)
        exact ⟨rfl, hk1.1, hk1.2, hNX3.out⟩
      case hdone =>
        intro D W hD hI hW
        have l9 : W.cell? ⟨bl, 0, none⟩ = some (.slice (some ⟨B + 2, 0, none⟩) N N) := hI.1.cell 0
        have hfin : Hid (CutPost id s size w (.returned (.tuple #[.slice (some ⟨B + 2, 0, none⟩) N N, .int .i64 0])) (W.putObj D (.deferred none))) := by
          have hD2 : B + 2 < D := by omega
          refine ⟨?_, .inr ⟨by rw [eL.out, cutK_len]; omega, _, rfl, ?_⟩⟩
          · rw [hB]
            exact hI.2.2.2.2.2.grown (grownBy_putObj' W D _) (by have := hI.1.lt; omega) (fun k hk => by cases hk; omega)
          · rw [hB, eL.out]
            refine hI.2.1.kept fun b hb => ?_
            cases hb
            exact World.putObj_heap_other (by simp; omega)
        have hW' := Lib.hid hW
        clear hI hseq hW
        go_wp2_with fail
        refine ⟨by simp, .inl ⟨_, _, rfl, run_takeDeferred hW'.out, ?_⟩⟩
        refine ⟨.tuple #[.slice (some ⟨B + 2, 0, none⟩) N N, .int .i64 0], ?_, hfin.out⟩
        simp [results, Try.results11, go_sem]
end Go.Proofs.Ytemfecdpjegocaa
