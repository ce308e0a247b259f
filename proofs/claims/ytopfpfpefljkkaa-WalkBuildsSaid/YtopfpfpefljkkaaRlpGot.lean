/- The document's rlp: read. -/
import Derived.Test.YtopfpfpefljkkaaRlpNst2
import Derived.Test.YtopfpfpefljkkaaRlpDoc
namespace Go.Proofs.Ytopfpfpefljkkaa
open Go.RowKit
set_option linter.unusedVariables false
set_option linter.unusedSimpArgs false

abbrev GT : TypeId := 30
def gzero : Array Value := #[.string ⟨#[]⟩, .bool false, .slice none 0 0, .int .i64 0, .int .i64 0, .int .i64 0]
/-- What read tells; of m items. -/
def GotPost (R : RdR) (m : Nat) (w : World) (e : Ending) (w' : World) : Prop := match R with
  | .error er => e = .returned (.agg #[.string ⟨#[]⟩, .bool false, .slice none 0 0, .int .i64 0, .int .i64 0, .int .i64 (er : Nat)]) ∧ Below w.heap.size w w'
  | .ok y => ∃ v, e = .returned (.agg #[.string (txt y.1.lab), .bool y.1.lab.list, v, .int .i64 (y.2.1 : Nat), .int .i64 ((m - y.2.2 : Nat) : Int), .int .i64 0]) ∧ ISubsQ w' (fun c => w.heap.size ≤ c) v y.1.sub ∧ Below w.heap.size w w'

/-- Six cells of a block are written. -/
def put6 (w : World) (g : Nat) (a b c d e f : Value) : World := (((((w.setCell ⟨g, 0, none⟩ a).setCell ⟨g, 1, none⟩ b).setCell ⟨g, 2, none⟩ c).setCell ⟨g, 3, none⟩ d).setCell ⟨g, 4, none⟩ e).setCell ⟨g, 5, none⟩ f
theorem put6_eq (w : World) (g : Nat) (a b c d e f : Value) : (((((w.setCell ⟨g, 0, none⟩ a).setCell ⟨g, 1, none⟩ b).setCell ⟨g, 2, none⟩ c).setCell ⟨g, 3, none⟩ d).setCell ⟨g, 4, none⟩ e).setCell ⟨g, 5, none⟩ f = put6 w g a b c d e f := rfl
theorem put6_upd (w : World) (g : Nat) (a b c d e f : Value) : Upd g w (put6 w g a b c d e f) := ((((((Upd.refl g w).set 0 a).set 1 b).set 2 c).set 3 d).set 4 e).set 5 f
theorem put6_blk {w : World} {g : Nat} {a0 a1 a2 a3 a4 a5 a b c d e f : Value} {t : TypeId} (h : Blk w g #[a0, a1, a2, a3, a4, a5] t) : Blk (put6 w g a b c d e f) g #[a, b, c, d, e, f] t :=
  (((((h.set 0 a).set 1 b).set 2 c).set 3 d).set 4 e).set 5 f
theorem put6_heap {w : World} {g : Nat} {a b c d e f : Value} (k : Nat) (h : k ≠ g) : (put6 w g a b c d e f).heap[k]? = w.heap[k]? := by
  unfold put6
  rw [Below.heap_setCell _ _ _ _ h, Below.heap_setCell _ _ _ _ h, Below.heap_setCell _ _ _ _ h, Below.heap_setCell _ _ _ _ h, Below.heap_setCell _ _ _ _ h, Below.heap_setCell _ _ _ _ h]
theorem put6_size {w : World} {g : Nat} {a b c d e f : Value} : (put6 w g a b c d e f).heap.size = w.heap.size := by simp [put6, World.setCell]
theorem blk6 {w : World} {g : Nat} {a b c d e f : Value} {t : TypeId} (h : Blk w g #[a, b, c, d, e, f] t) :
    w.cell? ⟨g, 0, none⟩ = some a ∧ w.cell? ⟨g, 1, none⟩ = some b ∧ w.cell? ⟨g, 2, none⟩ = some c ∧ w.cell? ⟨g, 3, none⟩ = some d ∧ w.cell? ⟨g, 4, none⟩ = some e ∧ w.cell? ⟨g, 5, none⟩ = some f :=
  ⟨h.cell 0, h.cell 1, h.cell 2, h.cell 3, h.cell 4, h.cell 5⟩
theorem free6 {w : World} {g : Nat} {cs : Array Value} {t : TypeId} (h : Blk w g cs t) :
    w.frozen? ⟨g, 0, none⟩ = false ∧ w.frozen? ⟨g, 1, none⟩ = false ∧ w.frozen? ⟨g, 2, none⟩ = false ∧ w.frozen? ⟨g, 3, none⟩ = false ∧ w.frozen? ⟨g, 4, none⟩ = false ∧ w.frozen? ⟨g, 5, none⟩ = false :=
  ⟨h.free 0, h.free 1, h.free 2, h.free 3, h.free 4, h.free 5⟩
/-- What read makes at first. -/
theorem got_ini {w wa : World} {g : Nat} (hg : w.heap.size = g) (h : w.alloc (.cells #[.string ⟨#[]⟩, .bool false, .slice none 0 0, .int .i64 0, .int .i64 0, .int .i64 0] GT) = wa) :
    Blk wa g gzero GT ∧ Below g w wa ∧ wa.heap.size = g + 1 := by
  subst h
  exact ⟨hg ▸ Blk.new w _ _, hg ▸ (Below.refl _ w).alloc (Nat.le_refl _) _, by simp; omega⟩
theorem got_put {w wa : World} {g : Nat} (h : Blk wa g gzero GT) (hb : Below g w wa) (a b c d e f : Value) : Blk (put6 wa g a b c d e f) g #[a, b, c, d, e, f] GT ∧ Below g w (put6 wa g a b c d e f) :=
  ⟨put6_blk (show Blk wa g #[_, _, _, _, _, _] GT from h), Upd.below (put6_upd wa g a b c d e f) hb (Nat.le_refl _) (Nat.le_of_lt h.lt)⟩
theorem got_err {er m : Nat} {w w' : World} {x : Int} (hb : Below w.heap.size w w') (hx : x = (er : Nat) := by rfl) : GotPost (.error er) m w (.returned (.agg #[.string ⟨#[]⟩, .bool false, .slice none 0 0, .int .i64 0, .int .i64 0, .int .i64 x])) w' := by
  subst hx
  exact ⟨rfl, hb⟩
theorem got_text {a : IL} {n m : Nat} {w w' : World} {x : Int} {T : ByteArray} (hT : T = txt a) (hx : x = (n : Nat)) (hb : Below w.heap.size w w') : GotPost (.ok (.node a [], n, m)) (m + 1) w (.returned (.agg #[.string T, .bool a.list, .slice none 0 0, .int .i64 x, .int .i64 1, .int .i64 0])) w' := by
  subst hx hT
  refine ⟨.slice none 0 0, ?_, ⟨none, 0, rfl, Nat.le_refl _, Nat.zero_le _, fun h => absurd h (by simp)⟩, hb⟩
  show _ = Ending.returned (.agg #[.string (txt a), .bool a.list, .slice none 0 0, .int .i64 (n : Nat), .int .i64 ((m + 1 - m : Nat) : Int), .int .i64 0])
  rw [show m + 1 - m = 1 by omega]
  rfl
theorem head1 (s : ByteArray) (h : 1 < s.size) : (s.data.toList.drop 1).head? = some s[1] := by
  rw [List.head?_drop]
  rw [List.getElem?_eq_getElem (by simpa using h)]
  rfl
theorem valB_lt8 {l : List UInt8} {k : Nat} (h : k ≤ 8) : valB (l.take k) < 18446744073709551616 := by
  have h1 := valB_lt (l.take k)
  have h2 : (l.take k).length ≤ 8 := by rw [List.length_take]; omega
  exact Nat.lt_of_lt_of_le h1 (pow256_8 _ h2)
theorem take1 (s : ByteArray) (h : 0 < s.size) : s.extract 0 1 = ⟨(s.data.toList.take 1).toArray⟩ := bext (by
  simp only [ByteArray.data_extract, Array.toList_extract, List.extract]
  simp)
set_option maxRecDepth 100000 in
set_option maxHeartbeats 2000000 in
theorem ref_read_deep (depth items : Int) (K M : Nat) (hK : (min depth 16).toNat = K) (hM : (min items 1024).toNat = M) (s : ByteArray) (d a : Nat) (w : World) (hs : s.size ≤ 100000) (hd1 : 1 ≤ d) (hd17 : d ≤ 17) (ha : a ≤ 1024) (hk : K + 1 - d = 0) :
    Calls Try.prog 37 #[.string s, .int .i64 d, .int .i64 a, .int .i64 depth, .int .i64 items] w (GotPost (rdI 0 s.data.toList (M - a)) (M - a) w) := by
  obtain ⟨R, hR⟩ : ∃ R, rdI 0 s.data.toList (M - a) = R := ⟨_, rfl⟩
  obtain ⟨POST, hP⟩ : ∃ P0, GotPost R (M - a) w = P0 := ⟨_, rfl⟩
  have HR := Lib.hid hR
  have HP := Lib.hid hP
  rw [hR, hP]
  obtain ⟨g, hg⟩ : ∃ g, w.heap.size = g := ⟨_, rfl⟩
  obtain ⟨wa, hwa⟩ : ∃ wa, w.alloc (.cells #[.string ⟨#[]⟩, .bool false, .slice none 0 0, .int .i64 0, .int .i64 0, .int .i64 0] GT) = wa := ⟨_, rfl⟩
  obtain ⟨hba, hbea, hsa⟩ := got_ini hg hwa
  have HBA := Lib.hid hba
  have HBE := Lib.hid hbea
  have HPUT := Lib.hid (got_put hba hbea)
  obtain ⟨c0, c1, c2, c3, c4, c5⟩ := blk6 (show Blk wa g #[_, _, _, _, _, _] GT from hba)
  obtain ⟨z0, z1, z2, z3, z4, z5⟩ := free6 hba
  clear hR hP hba hbea
  by_cases h0 : s.size = 0
  · have e : s = ⟨#[]⟩ := bext (List.length_eq_zero_iff.1 (by simpa using h0))
    subst e
    have hRE : Hid (R = .error 2) := Lib.hid (by rw [← HR.out]; exact rdI_nil)
    clear HR
    go_enter Try.func37, Try.ntmps37
    go_wp2_with fail
    rw [put6_eq]
    obtain ⟨hblk6, hbel6⟩ := HPUT.out (.string ⟨#[]⟩) (.bool false) (.slice none 0 0) (.int .i64 0) (.int .i64 0) (.int .i64 2)
    obtain ⟨d0, d1, d2, d3, d4, d5⟩ := blk6 hblk6
    have HB6 := Lib.hid hbel6
    clear hblk6 hbel6
    refine bodyPost_ret (v := .agg #[.string ⟨#[]⟩, .bool false, .slice none 0 0, .int .i64 0, .int .i64 0, .int .i64 2]) (by simp [results, Try.results37, go_sem, d0, d1, d2, d3, d4, d5]) rfl ?_
    rw [← HP.out, hRE.out]
    exact got_err (hg.symm ▸ HB6.out)
  have hne : s.data.toList ≠ [] := fun h => h0 (by have := congrArg List.length h; simpa using this)
  have hRE : Hid (R = .error 6) := Lib.hid (by rw [← HR.out]; exact rdI_deep hne)
  have hie := isEmpty_no' s (by omega)
  have hdd : depth < (d : Int) ∨ (16 : Int) < (d : Int) := by omega
  by_cases h1 : depth < (d : Int)
  · clear hdd hne h0 HR hK hM hk
    go_enter Try.func37, Try.ntmps37
    go_wp2_with fail
    rw [put6_eq]
    obtain ⟨hblk6, hbel6⟩ := HPUT.out (.string ⟨#[]⟩) (.bool false) (.slice none 0 0) (.int .i64 0) (.int .i64 0) (.int .i64 6)
    obtain ⟨d0, d1, d2, d3, d4, d5⟩ := blk6 hblk6
    have HB6 := Lib.hid hbel6
    clear hblk6 hbel6
    refine bodyPost_ret (v := .agg #[.string ⟨#[]⟩, .bool false, .slice none 0 0, .int .i64 0, .int .i64 0, .int .i64 6]) (by simp [results, Try.results37, go_sem, d0, d1, d2, d3, d4, d5]) rfl ?_
    rw [← HP.out, hRE.out]
    exact got_err (hg.symm ▸ HB6.out)
  · have h2 : (16 : Int) < (d : Int) := by omega
    have h3 : (d : Int) ≤ depth := by omega
    clear hdd hne h0 HR h1 hK hM hk
    go_enter Try.func37, Try.ntmps37
    go_wp2_with fail
    rw [put6_eq]
    obtain ⟨hblk6, hbel6⟩ := HPUT.out (.string ⟨#[]⟩) (.bool false) (.slice none 0 0) (.int .i64 0) (.int .i64 0) (.int .i64 6)
    obtain ⟨d0, d1, d2, d3, d4, d5⟩ := blk6 hblk6
    have HB6 := Lib.hid hbel6
    clear hblk6 hbel6
    refine bodyPost_ret (v := .agg #[.string ⟨#[]⟩, .bool false, .slice none 0 0, .int .i64 0, .int .i64 0, .int .i64 6]) (by simp [results, Try.results37, go_sem, d0, d1, d2, d3, d4, d5]) rfl ?_
    rw [← HP.out, hRE.out]
    exact got_err (hg.symm ▸ HB6.out)

end Go.Proofs.Ytopfpfpefljkkaa
