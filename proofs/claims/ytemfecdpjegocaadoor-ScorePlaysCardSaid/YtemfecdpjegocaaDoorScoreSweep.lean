/- maps.DeleteFunc over the board's peers with Sweep's closure; Sweep. -/
import Derived.Test.YtemfecdpjegocaaDoorScoreOne
import Derived.Test.YtemfecdpjegocaaDoorScoreMap
import Derived.Lib.SlMapFilter
import Derived.Maps.Ext
import Derived.Laws.IdiomRangeMap
import Derived.Deep.LoopGhost
import Derived.Deep.QuietTactic
import Derived.BigQuiet
namespace Go.Proofs.YtemfecdpjegocaaDoor
open Go.RowKit Go.Maps
set_option linter.unusedVariables false
set_option linter.unusedSimpArgs false

def onK (p : List UInt8 → Bool) (acc : List UInt8 → Option Acc) : List UInt8 → Option Acc := fun k => if p k then acc k else none
theorem findE_filter (l : List (List UInt8 × Nat)) (p : List UInt8 → Bool) (k : List UInt8) : findE (l.filter fun q => p q.1) k = if p k then findE l k else none := by
  unfold findE
  rw [List.find?_filter]
  by_cases hp : p k = true
  · rw [if_pos hp]
    congr 2
    funext q
    by_cases hq : q.1 = k
    · subst hq; simp [hp]
    · simp [hq]
  · rw [if_neg hp]
    rw [List.find?_eq_none.2]
    · rfl
    · intro q _ h
      simp at h
      exact hp (h.2 ▸ h.1)
theorem BoardAt.part {B bb bm n sz L H N : Nat} {w0 w W : World} {acc : List UInt8 → Option Acc} (h : BoardAt B bb bm n sz L H N w0 w acc) {l : List (List UInt8 × Nat)} (hm : (fun k => (acc k).map Acc.blk) = findE l) (p : List UInt8 → Bool)
    (hg : w.grownBy W (some bm)) (hown : W.ownsMap Tryd.prog 9 ptrR bm n (.map ((l.filter fun q => p q.1).map ent))) : BoardAt B bb bm n (l.filter fun q => p q.1).length L H N w0 W (onK p acc) := by
  have hlt := h.bd.lt
  have hB := h.hb
  refine ⟨?_, ?_, ?_, ?_, h.below.grown hg (by omega) (fun j hj => by cases hj; exact hB.2.1), h.hb, h.lim, ?_⟩
  · unfold Blk; rw [hg.block bb hlt (fun e => hB.2.2 (by injection e))]; exact h.bd
  · have h1 := PMap.of_list hown
    have h2 : (fun k => (onK p acc k).map Acc.blk) = findE (l.filter fun q => p q.1) := by
      funext k
      rw [findE_filter, ← hm]
      unfold onK
      split <;> rfl
    rw [h2]; exact h1
  · intro k a ha
    unfold onK at ha
    split at ha
    · obtain ⟨⟨k1, k2, k3, k4⟩, k5⟩ := h.ac k a ha
      exact ⟨⟨by unfold Blk; rw [hg.block a.blk k1.lt (fun e => k4 (by injection e))]; exact k1, k2, k3, k4⟩, k5⟩
    · cases ha
  · intro k k' a a' ha ha' e
    unfold onK at ha ha'
    split at ha
    · split at ha'
      · exact h.inj k k' a a' ha ha' e
      · cases ha'
    · cases ha
  · intro b cs t hb ht
    have h1 := h.kp b cs t hb ht
    unfold Blk
    rw [hg.block b h1.lt fun e => ?_]
    · exact h1
    · cases e
      obtain ⟨_, ⟨es, clock, hh, _⟩, _⟩ := h.mp
      unfold Blk at h1
      rw [hh] at h1
      cases h1

set_option maxRecDepth 100000 in
theorem sweep_fn {B bb bm n sz L H N : Nat} {w0 w : World} {acc : List UInt8 → Option Acc} (h : BoardAt B bb bm n sz L H N w0 w acc) {c1 c2 : Nat} (now : Int) (h1 : w.cell? ⟨c1, 0, none⟩ = some (.pointer (some ⟨bb, 0, none⟩))) (h2 : w.cell? ⟨c2, 0, none⟩ = some (.int .i64 now))
    (s : ByteArray) (hs : s.size ≤ maxLen) {k : List UInt8} {a : Acc} (ha : acc k = some a) :
    Calls Tryd.prog 26 #[.string s, .pointer (some ⟨a.blk, 0, none⟩), .pointer (some ⟨c1, 0, none⟩), .pointer (some ⟨c2, 0, none⟩)] w fun e w' =>
      e = .returned (.bool (decide (pAt H a.pts a.at_ (clampN now) = 0) && decide (untilN acc s.data.toList ≤ clampN now))) ∧ ∃ j, w' = w.drewN j := by
  obtain ⟨⟨hk, hB, hne1, hne2⟩, hp, ht, htl⟩ := h.ac _ a ha
  have CC := Lib.hid (fun W => (score_clamp now W).mono fun e w' (hh : e = _ ∧ W = w') => And.intro hh.1 hh.2.symm)
  have CA := Lib.hid (fun j => score_at bb a.blk H a.pts a.at_ (clampN now) (w.drewN j) h.lim.2.1 (by omega) ht (clampN_le now) (hk.cell 0) (hk.cell 1) (h.bd.cell 1))
  have CB := Lib.hid (fun j => score_banned (h.drewN j) s hs now)
  generalize untilN acc s.data.toList = U at *
  generalize pAt H a.pts a.at_ (clampN now) = p at *
  generalize a.blk = q at *
  clear h ha hk
  by_cases hz : p = 0
  · have hzb : ((p : Int) == 0) = true := by simp; exact hz
    have hd : (decide (p = 0) && decide (U ≤ clampN now)) = !decide (clampN now < U) := by
      rw [hz]
      by_cases c : clampN now < U
      · simp [c]
      · simp [c]; omega
    rw [hd]
    generalize decide (clampN now < U) = D at *
    generalize clampN now = t at *
    clear hz hd
    go_enter Tryd.func26, Tryd.ntmps26
    go_wp2_with fail
    refine wp_region_quiet_lit (by kernel_rfl) (by kernel_rfl) ?_
    go_big_quiet_step (fail)
    go_big_quiet_step (fail)
    go_big_quiet_step (fail)
    go_big_quiet_step (exact Calls.quiet_of_same (CC.out _))
    go_big_quiet_step (exact Calls.quiet_of (CA.out _))
    repeat (go_big_quiet_step (fail))
    go_big_quiet_step (exact Calls.quiet_of ((CB.out _).mono fun e w' ⟨e1, e2⟩ => ⟨e1, 0, e2⟩))
    repeat (go_big_quiet_step (fail))
    refine wpQuiet_nil ?_
    rintro _ ⟨nq, rfl⟩
    go_wp2_with fail
    go_returns
    exact ⟨rfl, _, rfl⟩
  · have hzb : ((p : Int) == 0) = false := by simp; exact hz
    have hd : (decide (p = 0) && decide (U ≤ clampN now)) = false := by simp [hz]
    rw [hd]
    generalize clampN now = t at *
    clear hz hd
    go_enter Tryd.func26, Tryd.ntmps26
    go_wp2_with fail
    refine wp_region_quiet_lit (by kernel_rfl) (by kernel_rfl) ?_
    go_big_quiet_step (fail)
    go_big_quiet_step (fail)
    go_big_quiet_step (fail)
    go_big_quiet_step (exact Calls.quiet_of_same (CC.out _))
    go_big_quiet_step (exact Calls.quiet_of (CA.out _))
    repeat (go_big_quiet_step (fail))
    refine wpQuiet_nil ?_
    rintro _ ⟨nq, rfl⟩
    go_wp2_with fail
    go_returns
    exact ⟨rfl, _, rfl⟩

/-- Does a peer stay? -/
def keepB (H : Nat) (acc : List UInt8 → Option Acc) (t : Nat) (k : List UInt8) : Bool := match acc k with | none => false | some a => !(decide (pAt H a.pts a.at_ t = 0) && decide (a.til ≤ t))
def pdK (H : Nat) (acc : List UInt8 → Option Acc) (t : Nat) (kl : Lit) (_ : DataW (Option Nat)) : Bool := match kl with | .string k => !keepB H acc t k | _ => false
theorem fk_ents (pd : Lit → DataW (Option Nat) → Bool) (p : List UInt8 → Bool) (l : List (List UInt8 × Nat)) (left : Lit → Bool) (h : ∀ q ∈ l, (!pd (.string q.1) (.held (some q.2)) || left (.string q.1)) = p q.1) :
    Maps.Fk pd (l.map ent) left = .map ((l.filter fun q => p q.1).map ent) := by
  unfold Maps.Fk
  rw [List.filter_map]
  congr 2
  exact List.filter_congr fun q hq => h q hq

theorem findE_mem {l : List (List UInt8 × Nat)} (hn : (l.map Prod.fst).Nodup) {q : List UInt8 × Nat} (hq : q ∈ l) : findE l q.1 = some q.2 := by
  unfold findE
  induction l with
  | nil => cases hq
  | cons p l ih =>
    rw [List.map_cons, List.nodup_cons] at hn
    rcases List.mem_cons.1 hq with rfl | hq'
    · simp
    · have hne : p.1 ≠ q.1 := fun e => hn.1 (e ▸ List.mem_map_of_mem hq')
      rw [List.find?_cons_of_neg (by simpa using hne)]
      exact ih hn.2 hq'
theorem atKey_in {l : List (List UInt8 × Nat)} {pd : Lit → DataW (Option Nat) → Bool} {left : Lit → Bool} {kl : Lit} {yd : DataW (Option Nat)} (hat : ∀ zd, (Maps.Fk pd (l.map ent) left).atKey kl zd = yd) : ∃ q ∈ l, kl = .string q.1 ∧ yd = .held (some q.2) := by
  unfold Maps.Fk DataW.atKey at hat
  dsimp only at hat
  cases hf : ((l.map ent).filter fun p => !pd p.1 p.2 || left p.1).find? (fun p => p.1.sameKey kl) with
  | none =>
    rw [hf] at hat
    have e1 := hat .nil
    have e2 := hat (.held none)
    simp only at e1 e2
    rw [← e1] at e2; cases e2
  | some p =>
    rw [hf] at hat
    have e1 := hat .nil
    simp only at e1
    have hp := List.mem_of_find?_eq_some hf
    have hs := List.find?_some hf
    obtain ⟨q, hq, rfl⟩ := List.mem_map.1 (List.mem_filter.1 hp).1
    exact ⟨q, hq, (WideAt.sameKey_eq hs).symm, e1.symm⟩
theorem key_str {P : Program} {k : TypeId} (hk : P.underlying k = some .string) {v : Value} {s : List UInt8} (h : keyOf P k v = some (.string s)) : ∃ t : ByteArray, v = .string t ∧ t.data.toList = s ∧ t.size ≤ maxLen := by
  rw [keyOf_string hk] at h
  unfold mapKey at h
  rw [hk] at h
  cases v <;> simp at h
  exact ⟨_, rfl, h.2, h.1⟩
theorem keyed_str : Keyed Tryd.prog 9 := string_keyed Tryd.underlying9
set_option maxHeartbeats 4000000 in
set_option maxRecDepth 100000 in
theorem delete_func {B bb bm n sz L H N : Nat} {w0 w : World} {acc : List UInt8 → Option Acc} (h : BoardAt B bb bm n sz L H N w0 w acc) {c1 c2 : Nat} (now : Int) (h1 : w.cell? ⟨c1, 0, none⟩ = some (.pointer (some ⟨bb, 0, none⟩))) (h2 : w.cell? ⟨c2, 0, none⟩ = some (.int .i64 now)) :
    Calls Tryd.prog 25 #[.map (some bm), .func (.func 26) #[] #[.pointer (some ⟨c1, 0, none⟩), .pointer (some ⟨c2, 0, none⟩)]] w fun e w' =>
      e = .returned (.tuple #[]) ∧ (∃ sz', BoardAt B bb bm n sz' L H N w0 w' (onK (keepB H acc (clampN now)) acc)) ∧ w.grownBy w' (some bm) := by
  obtain ⟨l, hown, hnd, hlen, hm⟩ := h.mp.list Tryd.underlying9
  have hap : (l.map ent).Pairwise (fun p q => p.1 ≠ q.1) := by
    rw [List.pairwise_map]
    unfold List.Nodup at hnd
    rw [List.pairwise_map] at hnd
    exact hnd.imp fun hne e => hne (by simpa [ent] using e)
  have hkeys : ∀ p ∈ l.map ent, WideAt.IsKeyLit p.1 := fun p hp => by
    obtain ⟨q, _, rfl⟩ := List.mem_map.1 hp
    exact keyL q.1
  have hml := h.mp.lt
  have hc1 : c1 < w.heap.size ∧ c1 ≠ bm := by
    refine ⟨World.block_lt_of_cell? w _ h1, fun e => ?_⟩
    obtain ⟨_, ⟨es, clock, hh, _⟩, _⟩ := h.mp
    subst e
    simp [World.cell?, hh] at h1
  have hc2 : c2 < w.heap.size ∧ c2 ≠ bm := by
    refine ⟨World.block_lt_of_cell? w _ h2, fun e => ?_⟩
    obtain ⟨_, ⟨es, clock, hh, _⟩, _⟩ := h.mp
    subst e
    simp [World.cell?, hh] at h2
  obtain ⟨pd, hpd⟩ : ∃ pd, pdK H acc (clampN now) = pd := ⟨_, rfl⟩
  have HPD := Lib.hid hpd
  have HH := Lib.hid h
  have HM := Lib.hid hm
  have HAP := Lib.hid hap
  have HKE := Lib.hid hkeys
  have HC := Lib.hid (And.intro h1 h2)
  -- what holds at any time
  have HB : Hid (∀ W left, w.grownBy W (some bm) → W.ownsMap Tryd.prog 9 ptrR bm n (Maps.Fk pd (l.map ent) left) → ∃ sz', BoardAt B bb bm n sz' L H N w0 W (onK (fun k => keepB H acc (clampN now) k || left (.string k)) acc)) := fun W left hg ho => by
    rw [fk_ents pd (fun k => keepB H acc (clampN now) k || left (.string k)) l left (fun q _ => by rw [← HPD.out]; simp [pdK])] at ho
    exact ⟨_, HH.out.part HM.out _ hg ho⟩
  clear h hm hap hkeys h1 h2 hpd
  go_enter Tryd.func25, Tryd.ntmps25
  go_wp2_with (first
    | (at_range; refine wpList_range_own _ rfl _ 56 rfl 9 60 keyed_str Tryd.underlying56 ptrR bm n _ rfl hown ?_; intro w0' hrg0 hg0 hs0)
    | go_in)
  go_frame
  go_loopw [8] (fun _ wr => ∃ (left : Lit → Bool) (cnt : Nat), wr.ranges Tryd.prog 9 ptrR bm w.heap.size n (Maps.Fk pd (l.map ent) left) left cnt ∧ w.grownBy wr (some bm))
    (fun _ wr => wr.rangeLeft bm w.heap.size)
  case atStart => exact ⟨_, _, by rw [Maps.Fk_start HKE.out]; exact hrg0, hg0.but _⟩
  case round =>
    obtain ⟨left, cnt, hrg, hgw⟩ := hrel
    go_wp2_with (first
      | (at_next; refine wpList_next_ranges _ rfl _ rfl 9 keyed_str ptrR id id (fun key _ _ => ⟨key, rfl⟩) (fun v _ _ => ⟨v, rfl⟩) bm w.heap.size n _ _ _ rfl hrg ?_ ?_)
      | go_in)
    · intro _ hl0
      go_wp2
      go_end0
      obtain ⟨sz', hb⟩ := HB.out wr left hgw hrg.owns
      refine ⟨rfl, ⟨sz', ?_⟩, hgw⟩
      have e : (fun k => keepB H acc (clampN now) k || left (.string k)) = keepB H acc (clampN now) := funext fun k => by rw [hl0]; simp
      rw [e] at hb; exact hb
    · intro x c kl yd yp w1 cnt1 hkey hlx hv hat hrg1 hlt hg1 hs1 hen
      have hgw1 := hgw.andThen hg1 (fun j hj => by cases hj; exact Or.inl (Nat.le_refl _))
      obtain ⟨q, hql, rfl, rfl⟩ := atKey_in hat
      obtain ⟨t, rfl, hts, htz⟩ := key_str Tryd.underlying9 hkey
      obtain ⟨o, rfl, ho⟩ := ptrR_inv hv
      obtain rfl : some q.2 = o := by simpa using congrArg Prod.fst ho
      obtain ⟨a, haq, hab⟩ : ∃ a, acc q.1 = some a ∧ a.blk = q.2 := by
        have e1 := congrFun HM.out q.1
        rw [findE_mem hnd hql] at e1
        simpa [Option.map_eq_some_iff] using e1
      change (Instr.entry (.pointer (some ⟨w.heap.size, 0, none⟩))).run Tryd.prog w1 = .ok (.tuple #[.string t, .pointer (some ⟨q.2, 0, none⟩)]) w1 at hen
      have hbl := hrg1.owns.lt
      have hrl := hrg1.lt
      obtain ⟨sz2, hb2⟩ := HB.out w1 left hgw1 hrg1.owns
      have ha1 : onK (fun k => keepB H acc (clampN now) k || left (.string k)) acc q.1 = some a := by
        simp [onK, hlx, haq]
      have hun : untilN (onK (fun k => keepB H acc (clampN now) k || left (.string k)) acc) t.data.toList = a.til := by
        unfold untilN; rw [hts, ha1]
      have hcl := sweep_fn hb2 now (c1 := c1) (c2 := c2) ((hgw1.cell HC.out.1 (fun e => hc1.2 (by injection e)))) ((hgw1.cell HC.out.2 (fun e => hc2.2 (by injection e)))) t htz ha1
      rw [hun, hab] at hcl
      have hkq : (decide (pAt H a.pts a.at_ (clampN now) = 0) && decide (a.til ≤ clampN now)) = !keepB H acc (clampN now) q.1 := by unfold keepB; rw [haq]; simp
      rw [hkq] at hcl
      have hpq : pd (.string q.1) (.held (some q.2)) = !keepB H acc (clampN now) q.1 := by rw [← HPD.out]; rfl
      cases hkp : keepB H acc (clampN now) q.1 with
      | true =>
        rw [hkp] at hcl hpq
        have HCL := Lib.hid hcl
        have HPQ := Lib.hid hpq
        have HHV := Lib.hid (And.intro hkey (And.intro hv (And.intro hat hlx)))
        have HRG := Lib.hid hrg1
        have HLT := Lib.hid hlt
        clear hcl hpq hkq hun ha1 hb2 haq hab hkp hat hv ho hkey hts
        go_wp2_with fail
        refine HCL.out.mono ?_
        rintro e w2 ⟨rfl, j, rfl⟩
        have hg2 : w1.grownBy (w1.drewN j) none := ⟨rfl, rfl, rfl, Nat.le_refl _, fun _ _ _ => rfl⟩
        have HRG2 := Lib.hid (HRG.out.kept hg2 (by simp) (by simp))
        clear hen HCL
        go_wp2_with fail
        go_roundw
        case rel => exact ⟨_, cnt1, by rw [← Maps.Fk_stays HAP.out (keyL q.1) HHV.out.2.2.2 HPQ.out HHV.out.2.2.1]; exact HRG2.out, hgw1.andThen hg2 (fun j hj => by cases hj)⟩
        case measure => rw [HRG2.out.left_eq, hrg.left_eq]; exact HLT.out
      | false =>
        rw [hkp] at hcl hpq
        have HCL := Lib.hid hcl
        have HPQ := Lib.hid hpq
        have HHV := Lib.hid (And.intro hkey (And.intro hv (And.intro hat hlx)))
        have HRG := Lib.hid hrg1
        have HLT := Lib.hid hlt
        clear hcl hpq hkq hun ha1 hb2 haq hab hkp hat hv ho hts
        go_wp2_with fail
        refine HCL.out.mono ?_
        rintro e w2 ⟨rfl, j, rfl⟩
        have hg2 : w1.grownBy (w1.drewN j) none := ⟨rfl, rfl, rfl, Nat.le_refl _, fun _ _ _ => rfl⟩
        have hrg2 := HRG.out.kept hg2 (by simp) (by simp)
        clear hen HCL
        go_wp2_with (first
          | (at_delete; refine wpList_delete_ranges _ rfl _ _ 56 9 rfl 60 keyed_str Tryd.underlying56 ptrR bm w.heap.size n _ _ _ rfl hrg2 _ _ rfl hkey ?_; intro w3 cnt3 hrg3 hle hturn; go_frame))
        rw [strike_twice] at hrg3
        go_roundw
        case rel => exact ⟨_, cnt3, by rw [← Maps.Fk_struck HAP.out (keyL q.1) HHV.out.2.2.2 HPQ.out HHV.out.2.2.1]; exact hrg3, (hgw1.andThen hg2 (fun j hj => by cases hj)).andThen hturn.grown (fun j hj => by cases hj; exact Or.inr rfl)⟩
        case measure => rw [hrg3.left_eq, hrg.left_eq]; have := HLT.out; omega
end Go.Proofs.YtemfecdpjegocaaDoor
