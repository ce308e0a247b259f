/- The walk of the document's product. -/
import Derived.Test.YtemfecdpjegocaaShaProd
import Derived.Test.YtemfecdpjegocaaShaPad
namespace Go.Proofs.Ytemfecdpjegocaa
open Go.RowKit Go.Shelf
set_option linter.unusedVariables false
set_option linter.unusedSimpArgs false

/-- Digits as cells. -/
def dC (l : List Nat) : Array Value := (l.map fun d : Nat => Value.int .u64 (d : Int)).toArray
theorem dC_size (l : List Nat) : (dC l).size = l.length := by simp [dC]
theorem dC_get (l : List Nat) (i : Nat) (h : i < l.length) : (dC l)[i]? = some (.int .u64 ((l.getD i 0 : Nat) : Int)) := by
  unfold dC
  simp [List.getElem?_eq_getElem h]
theorem dC_set (l : List Nat) (i x : Nat) : (dC l).setIfInBounds i (.int .u64 (x : Int)) = dC (l.set i x) := by
  unfold dC
  simp [List.map_set]
theorem info_u64 : ∃ i, Try.prog.info? 106 = some i ∧ i.zero = some (.int .u64 0) ∧ i.size = 1 ∧ i.bytes = 8 := by
  have h : (Try.prog.info? 106).map (fun i => (i.zero, i.size, i.bytes)) = some (some (.int .u64 0), 1, 8) := by kernel_rfl
  obtain ⟨i, hi, hz⟩ := Option.map_eq_some_iff.1 h
  simp only [Prod.mk.injEq] at hz
  exact ⟨i, hi, hz.1, hz.2.1, hz.2.2⟩
theorem make_digits (n : Nat) (L : Int) (hL : L = n) (hn : n ≤ 1000) (w : World) : (Instr.makeSlice 132 (.int .i64 L) (.int .i64 L)).run Try.prog w =
    .ok (.slice (some ⟨w.heap.size, 0, none⟩) n n) (w.alloc (.cells (dC (List.replicate n 0)) 106)) := by
  subst hL
  obtain ⟨i, hi, hz, hs, hb⟩ := info_u64
  have hr := run_make (P := Try.prog) w 132 106 i (.int .u64 0) Try.underlying132 hi hz .i64 .i64 (n : Int) (n : Int) (by omega) (by omega) (by rw [hb]; omega) (by omega)
  have e : madeCells #[.int .u64 0] n = dC (List.replicate n 0) := by
    apply Array.ext'
    rw [toList_madeCells_one]; simp [dC]
  simpa [hs, Value.cells, e] using hr

/-- What the row holds: n digits of value v. -/
structure Digs (W : World) (bo n v : Nat) (o : List Nat) : Prop where
  blk : Blk W bo (dC o) 106
  len : o.length = n
  dig : ∀ d ∈ o, d < 65536
  val : valD o = v
theorem Digs.drewN {W : World} {bo n v : Nat} {o : List Nat} (h : Digs W bo n v o) (k : Nat) : Digs (W.drewN k) bo n v o := ⟨h.blk, h.len, h.dig, h.val⟩

theorem Below.drewN' {B : Nat} {u v : World} (h : Below B u v) (n : Nat) : Below B u (v.drewN n) := ⟨h.os, h.tape, h.output, h.size, h.block⟩
theorem Digs.put {W : World} {bo n v : Nat} {o : List Nat} (h : Digs W bo n v o) (i x : Nat) (y : Int) (hy : y = ((x % 65536 : Nat) : Int)) : Digs (W.setCell ⟨bo, i, none⟩ (.int .u64 y)) bo n (valD (o.set i (x % 65536))) (o.set i (x % 65536)) := by
  subst hy
  exact ⟨by have := h.blk.set i (.int .u64 ((x % 65536 : Nat) : Int)); rwa [dC_set] at this, by rw [List.length_set, h.len], set_digits h.dig i x, rfl⟩
theorem Digs.same {W : World} {bo n v : Nat} {o : List Nat} (h : Digs W bo n v o) {u : Nat} (e : valD o = u) : Digs W bo n u o := ⟨h.blk, h.len, h.dig, e⟩

set_option maxRecDepth 100000 in
set_option maxHeartbeats 1000000 in
theorem ref_product (a b : List Nat) (ba bb : Nat) (w : World) (hA : Blk w ba (dC a) 106) (hB : Blk w bb (dC b) 106) (ha : ∀ d ∈ a, d < 65536) (hb : ∀ d ∈ b, d < 65536) (hla : a.length ≤ 8) (hlb : b.length ≤ 8) :
    Calls Try.prog 65 #[.slice (some ⟨ba, 0, none⟩) a.length a.length, .slice (some ⟨bb, 0, none⟩) b.length b.length] w fun e w' =>
      ∃ bo o, e = .returned (.slice (some ⟨bo, 0, none⟩) (a.length + b.length) (a.length + b.length)) ∧ w.heap.size ≤ bo ∧ Digs w' bo (a.length + b.length) (valD a * valD b) o ∧ Below w.heap.size w w' := by
  have hm := make_digits (a.length + b.length) ((a.length : Int) + (b.length : Int)) (by omega) (by omega) w
  have H0 : Digs (w.alloc (.cells (dC (List.replicate (a.length + b.length) 0)) 106)) w.heap.size (a.length + b.length) 0 (List.replicate (a.length + b.length) 0) :=
    ⟨Blk.new w _ _, by simp, by intro d hd; rw [List.eq_of_mem_replicate hd]; decide, by
      generalize a.length + b.length = n
      induction n with
      | zero => rfl
      | succ n ih => rw [List.replicate_succ, valD_cons, ih]⟩
  have hba := hA.lt
  have hbb := hB.lt
  have HA := Lib.hid (Blk.alloc hA (.cells (dC (List.replicate (a.length + b.length) 0)) 106))
  have HBb := Lib.hid (Blk.alloc hB (.cells (dC (List.replicate (a.length + b.length) 0)) 106))
  have HBL := Lib.hid ((Below.refl w.heap.size w).alloc (Nat.le_refl _) (.cells (dC (List.replicate (a.length + b.length) 0)) 106))
  have HD := Lib.hid H0
  clear H0
  go_enter Try.func65, Try.ntmps65
  go_wp2_with fail
  obtain ⟨n, hn⟩ : ∃ n, a.length + b.length = n := ⟨_, rfl⟩
  obtain ⟨B, hB0⟩ : ∃ B, w.heap.size = B := ⟨_, rfl⟩
  have HN := Lib.hid hn
  have hn16 : n ≤ 16 := by omega
  have HB0 := Lib.hid hB0
  have HX := And.intro HD.out (And.intro HA.out (And.intro HBb.out HBL.out))
  rw [hn, hB0] at HX
  rw [hB0] at hba hbb
  have HX := Lib.hid HX
  rw [hn, hB0]
  clear HD HA HBb HBL hm hA hB hn hB0
  go_loopw [6] (fun i wr => ∃ (j : Nat) (o : List Nat), i = .int .i64 j ∧ j ≤ a.length ∧ Hid (Digs wr B n (valD (a.take j) * valD b) o) ∧ Hid (Blk wr ba (dC a) 106 ∧ Blk wr bb (dC b) 106 ∧ Below B w wr)) (fun i _ => a.length - (intOf i).toNat)
  case atStart => exact ⟨0, _, rfl, Nat.zero_le _, by have := HX.out.1; simpa [Hid, valD] using this, HX.out.2⟩
  case round =>
    obtain ⟨j, o, rfl, hj, hD, hW⟩ := hrel
    by_cases c : j < a.length
    · have HY := Lib.hid ha
      have HZ := Lib.hid hb
      clear ha hb
      obtain ⟨x, hx⟩ : ∃ x, x = a.getD j 0 := ⟨_, rfl⟩
      have hx0 : x < 65536 := hx ▸ getD_lt HY.out j
      have HXE := Lib.hid hx
      clear hx
      go_wp2_with fail
      go_loopw [7] (fun i wr => ∃ (k : Nat) (o : List Nat), i = .int .i64 k ∧ k ≤ b.length ∧ Hid (Digs wr B n (dueD a b j k) o) ∧ Hid (Blk wr ba (dC a) 106 ∧ Blk wr bb (dC b) 106 ∧ Below B w wr)) (fun i _ => b.length - (intOf i).toNat)
      case atStart => exact ⟨0, o, rfl, Nat.zero_le _, by rw [due_start]; exact hD, hW⟩
      case round =>
        clear hD hW o
        obtain ⟨k, o, rfl, hk, hD, hW⟩ := hrel
        by_cases ck : k < b.length
        · have hjk : j + k < n := by have := HN.out; omega
          obtain ⟨y, hy⟩ : ∃ y, y = b.getD k 0 := ⟨_, rfl⟩
          obtain ⟨z, hz⟩ : ∃ z, z = o.getD (j + k) 0 := ⟨_, rfl⟩
          have hy0 : y < 65536 := hy ▸ getD_lt HZ.out k
          have hz0 : z < 65536 := hz ▸ getD_lt hD.out.dig (j + k)
          have g0 : wr.cell? ⟨B, j + k, none⟩ = some (.int .u64 (z : Int)) := by rw [hD.out.blk.cell, dC_get _ _ (by rw [hD.out.len]; exact hjk), hz]
          have f0 : wr.frozen? ⟨B, j + k, none⟩ = false := hD.out.blk.free _
          have g1 : wr.cell? ⟨ba, j, none⟩ = some (.int .u64 (x : Int)) := by rw [hW.out.1.cell, dC_get _ _ c, HXE.out]
          have g2 : wr.cell? ⟨bb, k, none⟩ = some (.int .u64 (y : Int)) := by rw [hW.out.2.1.cell, dC_get _ _ ck, hy]
          have HYE := Lib.hid hy
          have HZE := Lib.hid hz
          clear hy hz
          have hp0 := digit_mul hx0 hy0 hz0
          obtain ⟨p, hp⟩ : ∃ p, p = x * y := ⟨_, rfl⟩
          rw [← hp] at hp0
          have hmul : IntKind.u64.wrap ((x : Int) * (y : Int)) = (p : Int) := by
            rw [IntKind.wrap_u64, hp]
            have e : ((x : Int) * (y : Int)) = ((x * y : Nat) : Int) := by simp
            rw [e, ← hp]; omega
          have HPE : Hid (p = a.getD j 0 * b.getD k 0) := by rw [← HXE.out, ← HYE.out]; exact hp
          clear hp
          go_wp2_with fail
          go_quiet (fail)
          go_wp2_with fail
          have hT := due_lt HY.out HZ.out j (k + 1) c
          rw [HN.out] at hT
          have HT := Lib.hid hT
          clear hT g0 f0 g1 g2
          go_loopw [8, 9] (fun xv mv wr => ∃ (m xx : Nat) (o : List Nat), xv = .int .u64 xx ∧ mv = .int .i64 m ∧ m ≤ n ∧ xx < 4294967296 ∧ Hid (Digs wr B n (valD o) o) ∧ Hid (CarryEq o m xx (dueD a b j (k + 1))) ∧ Hid (Blk wr ba (dC a) 106 ∧ Blk wr bb (dC b) 106 ∧ Below B w wr)) (fun _ mv _ => n - (intOf mv).toNat)
          case atStart =>
            have hDo := hD.out.drewN nq
            refine ⟨j + k + 1, z + p, o.set (j + k) ((z + p) % 65536), by go_num, by go_num, by omega, hp0, hDo.put (j + k) (z + p) _ (by omega), ?_, Blk.setOther (hW.out.1.drewN nq) (by simp; omega) _, Blk.setOther (hW.out.2.1.drewN nq) (by simp; omega) _, ?_⟩
            · exact CarryEq.start (by rw [hD.out.len]; exact hjk) HZE.out ck hD.out.val HPE.out
            · exact (Below.drewN' hW.out.2.2 nq).setCell (Nat.le_refl _) _
          case round =>
            clear hD hW HZE HPE o
            obtain ⟨m, xx, o, rfl, rfl, hm, hxx, hD, hE, hW⟩ := hrel
            by_cases cx : 65536 ≤ xx
            · have hmn : m < n := by
                exact hE.out.in_ HT.out hD.out.len cx
              obtain ⟨d, hd⟩ : ∃ d, d = o.getD m 0 := ⟨_, rfl⟩
              have hd0 : d < 65536 := hd ▸ getD_lt hD.out.dig m
              have g0 : wr.cell? ⟨B, m, none⟩ = some (.int .u64 (d : Int)) := by rw [hD.out.blk.cell, dC_get _ _ (by rw [hD.out.len]; exact hmn), hd]
              have f0 : wr.frozen? ⟨B, m, none⟩ = false := hD.out.blk.free _
              have HDE := Lib.hid hd
              clear hd
              have ht : decide ((65536 : Int) ≤ (xx : Int)) = true := by simp; omega
              clear cx
              go_wp2_with fail
              refine ⟨⟨m + 1, xx / 65536 + d, o.set m ((xx / 65536 + d) % 65536), by go_num, by go_num, by omega, by omega, hD.out.put m (xx / 65536 + d) _ (by omega), ?_, Blk.setOther hW.out.1 (by simp; omega) _, Blk.setOther hW.out.2.1 (by simp; omega) _, hW.out.2.2.setCell (Nat.le_refl _) _⟩, by simp [intOf]; omega⟩
              exact hE.out.step (by rw [hD.out.len]; exact hmn) HDE.out
            · have hE1 := hE.out.done (by omega)
              have HD1 := Lib.hid (hD.out.same hE1)
              have ht : decide ((65536 : Int) ≤ (xx : Int)) = false := by simp; omega
              clear hE hE1 hD cx
              go_wp2_with fail
              exact ⟨⟨k + 1, o, by go_num, by omega, HD1, hW⟩, by simp [intOf]; omega⟩
        · obtain rfl : k = b.length := by omega
          have hde := due_end a b j c
          go_wp2_with fail
          exact ⟨⟨j + 1, o, by go_num, by omega, hde ▸ hD, hW⟩, by simp [intOf]; omega⟩
    · obtain rfl : j = a.length := by omega
      go_wp2_with fail
      go_returns
      have hd := hD.out
      rw [List.take_length] at hd
      have hn := HN.out
      subst hn
      exact ⟨B, o, rfl, by rw [HB0.out]; exact Nat.le_refl _, hd, HB0.out ▸ hW.out.2.2⟩
end Go.Proofs.Ytemfecdpjegocaa
