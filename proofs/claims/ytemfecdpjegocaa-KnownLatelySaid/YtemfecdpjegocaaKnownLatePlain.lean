/- Plain: the sums of the bodies of KnownLately are unlike. -/
import Derived.Test.YtemfecdpjegocaaKnownLateA
import Derived.Test.YtemfecdpjegocaaKnownLateB
import Derived.Test.YtemfecdpjegocaaKnownLateC
import Derived.Test.YtemfecdpjegocaaKnownLateD
import Derived.Test.YtemfecdpjegocaaKnownLateE
import Derived.Test.YtemfecdpjegocaaKnownLateF
import Derived.Test.YtemfecdpjegocaaKnownLateG
import Derived.Test.YtemfecdpjegocaaKnownLateH
namespace Go.Proofs.Ytemfecdpjegocaa

def lateF : List Nat := [3125268601, 280908316, 226659506, 3755196227, 864451110, 901249727, 4070923971, 1077310150, 2130426794, 407899184, 3592130009, 2823416956, 2147897222, 1241578500, 680306180, 2753924459, 2997087119, 1075931128, 2600876729, 3502970154, 431513387, 1516961534, 449657214, 226831229, 1957952742, 578521429, 3143567963, 661105972, 2125191461, 2295900204, 4030541211, 3561779639, 1277538799, 3874845422, 2711969164, 1912763248, 3775065173, 2627737169, 8762271, 1539767694, 1086143928, 3075704468, 1443693359, 2674703105, 2071098077, 391677488, 1349511834, 3779040052, 4288417062, 971867397, 1556240735, 2768025029, 993282322, 2638900256, 2501893059, 2031713917, 2389436509, 11623731, 2160571572, 2891599910, 2728704015, 206354368, 2292492117, 2513094661, 56472927, 1746738036, 3183791115, 133754706, 1497096963, 1151435643, 4276741222, 407148270, 2739045871, 3724488693, 1217388455, 41054203, 3194748216, 3480860107, 312184290, 235797896]
theorem late_f (i : Nat) (h : i < 80) : four (lateT i) = lateF.getD i 0 := by
  by_cases h0 : i < 10
  · rw [late_0 i (by omega) h0]
    have : ∀ j, j < 10 → ([3125268601, 280908316, 226659506, 3755196227, 864451110, 901249727, 4070923971, 1077310150, 2130426794, 407899184] : List Nat).getD j 0 = lateF.getD (0 + j) 0 := by decide +kernel
    rw [this (i - 0) (by omega), show 0 + (i - 0) = i by omega]
  by_cases h10 : i < 20
  · rw [late_10 i (by omega) h10]
    have : ∀ j, j < 10 → ([3592130009, 2823416956, 2147897222, 1241578500, 680306180, 2753924459, 2997087119, 1075931128, 2600876729, 3502970154] : List Nat).getD j 0 = lateF.getD (10 + j) 0 := by decide +kernel
    rw [this (i - 10) (by omega), show 10 + (i - 10) = i by omega]
  by_cases h20 : i < 30
  · rw [late_20 i (by omega) h20]
    have : ∀ j, j < 10 → ([431513387, 1516961534, 449657214, 226831229, 1957952742, 578521429, 3143567963, 661105972, 2125191461, 2295900204] : List Nat).getD j 0 = lateF.getD (20 + j) 0 := by decide +kernel
    rw [this (i - 20) (by omega), show 20 + (i - 20) = i by omega]
  by_cases h30 : i < 40
  · rw [late_30 i (by omega) h30]
    have : ∀ j, j < 10 → ([4030541211, 3561779639, 1277538799, 3874845422, 2711969164, 1912763248, 3775065173, 2627737169, 8762271, 1539767694] : List Nat).getD j 0 = lateF.getD (30 + j) 0 := by decide +kernel
    rw [this (i - 30) (by omega), show 30 + (i - 30) = i by omega]
  by_cases h40 : i < 50
  · rw [late_40 i (by omega) h40]
    have : ∀ j, j < 10 → ([1086143928, 3075704468, 1443693359, 2674703105, 2071098077, 391677488, 1349511834, 3779040052, 4288417062, 971867397] : List Nat).getD j 0 = lateF.getD (40 + j) 0 := by decide +kernel
    rw [this (i - 40) (by omega), show 40 + (i - 40) = i by omega]
  by_cases h50 : i < 60
  · rw [late_50 i (by omega) h50]
    have : ∀ j, j < 10 → ([1556240735, 2768025029, 993282322, 2638900256, 2501893059, 2031713917, 2389436509, 11623731, 2160571572, 2891599910] : List Nat).getD j 0 = lateF.getD (50 + j) 0 := by decide +kernel
    rw [this (i - 50) (by omega), show 50 + (i - 50) = i by omega]
  by_cases h60 : i < 70
  · rw [late_60 i (by omega) h60]
    have : ∀ j, j < 10 → ([2728704015, 206354368, 2292492117, 2513094661, 56472927, 1746738036, 3183791115, 133754706, 1497096963, 1151435643] : List Nat).getD j 0 = lateF.getD (60 + j) 0 := by decide +kernel
    rw [this (i - 60) (by omega), show 60 + (i - 60) = i by omega]
  by_cases h70 : i < 80
  · rw [late_70 i (by omega) h70]
    have : ∀ j, j < 10 → ([4276741222, 407148270, 2739045871, 3724488693, 1217388455, 41054203, 3194748216, 3480860107, 312184290, 235797896] : List Nat).getD j 0 = lateF.getD (70 + j) 0 := by decide +kernel
    rw [this (i - 70) (by omega), show 70 + (i - 70) = i by omega]
  omega
theorem lateF_inj : ∀ i, i < 80 → ∀ j, j < 80 → lateF.getD i 0 = lateF.getD j 0 → i = j := by decide +kernel
theorem late_inj {i j : Nat} (hi : i < 80) (hj : j < 80) (h : lateT i = lateT j) : i = j :=
  lateF_inj i hi j hj (by rw [← late_f i hi, ← late_f j hj, h])
end Go.Proofs.Ytemfecdpjegocaa
