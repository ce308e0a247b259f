/- Plain law of a part's bytes: what Get answers. -/
import Derived.Test.YtemfecdpjegocaaPartPut
import Derived.Test.YtemfecdpjegocaaLebRead
namespace Go.Proofs.Ytemfecdpjegocaa
open Go.RowKit
set_option linter.unusedVariables false

def zeroPt : Pt := ⟨0, 0, 0, ByteArray.empty⟩
/-- Three numbers, and what stands behind; or the error. -/
def get3 (s : List UInt8) : Nat × Nat × Nat × List UInt8 × Nat :=
  let t1 := lebNext s 0 0
  if t1.2.2 ≠ 0 then (0, 0, 0, [], t1.2.2) else
    let t2 := lebNext (s.drop t1.2.1) 0 0
    if t2.2.2 ≠ 0 then (0, 0, 0, [], t2.2.2) else
      let t3 := lebNext ((s.drop t1.2.1).drop t2.2.1) 0 0
      if t3.2.2 ≠ 0 then (0, 0, 0, [], t3.2.2) else (t1.1, t2.1, t3.1, ((s.drop t1.2.1).drop t2.2.1).drop t3.2.1, 0)
/-- What Get answers: the part, the error. -/
def getP (s : List UInt8) : Pt × Nat :=
  let g := get3 s
  if g.2.2.2.2 ≠ 0 then (zeroPt, g.2.2.2.2)
  else if mayP ⟨g.1, g.2.1, g.2.2.1, ⟨g.2.2.2.1.toArray⟩⟩ then (⟨g.1, g.2.1, g.2.2.1, ⟨g.2.2.2.1.toArray⟩⟩, 0) else (zeroPt, 3)
theorem get3_put (a b c : Nat) (t : List UInt8) (ha : a < 18446744073709551616) (hb : b < 18446744073709551616) (hc : c < 18446744073709551616) :
    get3 (lebPut a ++ (lebPut b ++ (lebPut c ++ t))) = (a, b, c, t, 0) := by
  unfold get3
  simp only [lebNext_put a _ ha, List.drop_left, lebNext_put b _ hb, lebNext_put c _ hc]
  simp
theorem getP_put (p : Pt) (hm : mayP p) : getP (putP p).data.toList = (p, 0) := by
  obtain ⟨⟨hi0, hi1⟩, ⟨ho0, ho1⟩, ⟨hn0, hn1⟩, _, _⟩ := id hm
  rw [putP_data]
  unfold getP
  rw [get3_put _ _ _ _ (by omega) (by omega) (by omega)]
  have e : (⟨((p.id.toNat : Nat) : Int), ((p.n.toNat : Nat) : Int), ((p.of_.toNat : Nat) : Int), ⟨p.text.data.toList.toArray⟩⟩ : Pt) = p := by
    obtain ⟨i, n, o, T⟩ := p
    simp only at hi0 hn0 ho0
    have ho2 : 0 ≤ o := by omega
    simp only [Int.toNat_of_nonneg hi0, Int.toNat_of_nonneg hn0, Int.toNat_of_nonneg ho2]
  simp only [ne_eq, not_true_eq_false, if_false, e]
  rw [if_pos hm]
theorem getP_back {s : ByteArray} {p : Pt} (h : getP s.data.toList = (p, 0)) : mayP p ∧ putP p = s := by
  unfold getP at h
  cases hg : get3 s.data.toList with
  | mk a r =>
    obtain ⟨b, c, t, e⟩ := r
    rw [hg] at h
    simp only at h
    split at h
    · rename_i he
      simp only [Prod.mk.injEq] at h
      exact absurd h.2 he
    · rename_i he
      split at h
      · rename_i hm
        simp only [Prod.mk.injEq, and_true] at h
        subst h
        refine ⟨hm, ?_⟩
        apply ByteArray.ext; apply Array.ext'
        rw [putP_data]
        simp only [Int.toNat_natCast]
        unfold get3 at hg
        simp only at hg
        generalize h1 : lebNext s.data.toList 0 0 = t1 at hg
        obtain ⟨n1, k1, e1⟩ := t1
        simp only at hg
        split at hg
        · rename_i h; simp only [Prod.mk.injEq] at hg; omega
        · rename_i z1
          have z1 : e1 = 0 := by omega
          subst z1
          generalize h2 : lebNext (s.data.toList.drop k1) 0 0 = t2 at hg
          obtain ⟨n2, k2, e2⟩ := t2
          simp only at hg
          split at hg
          · rename_i h; simp only [Prod.mk.injEq] at hg; omega
          · rename_i z2
            have z2 : e2 = 0 := by omega
            subst z2
            generalize h3 : lebNext ((s.data.toList.drop k1).drop k2) 0 0 = t3 at hg
            obtain ⟨n3, k3, e3⟩ := t3
            simp only at hg
            split at hg
            · rename_i h; simp only [Prod.mk.injEq] at hg; omega
            · rename_i z3
              have z3 : e3 = 0 := by omega
              subst z3
              simp only [Prod.mk.injEq] at hg
              obtain ⟨rfl, rfl, rfl, rfl, _⟩ := hg
              rw [(lebNext_ok h1).2.2.1, (lebNext_ok h2).2.2.1, (lebNext_ok h3).2.2.1, List.take_append_drop, List.take_append_drop, List.take_append_drop]
      · simp only [Prod.mk.injEq] at h; omega
end Go.Proofs.Ytemfecdpjegocaa
