/- Plain facts about SHA-256: no program in sight. -/
import Derived.WalkKit
import Derived.Laws.BitsAllLaws
namespace Go.Proofs.Ytemfecdpjegocaa
set_option linter.unusedVariables false

def rotr (x : UInt32) (n : Nat) : UInt32 := UInt32.ofNat (x.toNat / 2 ^ n ||| x.toNat * 2 ^ (32 - n) % 4294967296)
def shr (x : UInt32) (n : Nat) : UInt32 := UInt32.ofNat (x.toNat / 2 ^ n)
def smallM (x : UInt32) (a b c : Nat) : UInt32 := rotr x a ^^^ rotr x b ^^^ shr x c
def bigM (x : UInt32) (a b c : Nat) : UInt32 := rotr x a ^^^ rotr x b ^^^ rotr x c
def wordN (l : List UInt8) (i : Nat) : UInt32 :=
  UInt32.ofNat ((l.getD (4 * i) 0).toNat * 16777216 + (l.getD (4 * i + 1) 0).toNat * 65536 + (l.getD (4 * i + 2) 0).toNat * 256 + (l.getD (4 * i + 3) 0).toNat)

theorem u32n (n : Nat) (h : n < 4294967296) : (UInt32.ofNat n).toNat = n := by
  show n % 2 ^ 32 = n
  exact Nat.mod_eq_of_lt h
theorem L_add (x y : UInt32) : ((x.toNat : Int) + (y.toNat : Int)) % 4294967296 = ((x + y).toNat : Int) := by
  rw [UInt32.toNat_add]; omega
theorem L_addw (x y : UInt32) : IntKind.u32.wrap ((x.toNat : Int) + (y.toNat : Int)) = ((x + y).toNat : Int) := by
  rw [IntKind.wrap_u32, L_add]
theorem L_xor (x y : UInt32) : bits BinOp.xor IntKind.u32 (x.toNat : Int) (y.toNat : Int) = ((x ^^^ y).toNat : Int) := by
  rw [u32_xor_nat _ _ x.toNat_lt y.toNat_lt, UInt32.toNat_xor]
theorem L_and (x y : UInt32) : bits BinOp.and IntKind.u32 (x.toNat : Int) (y.toNat : Int) = ((x &&& y).toNat : Int) := by
  rw [u32_and_nat _ _ x.toNat_lt y.toNat_lt, UInt32.toNat_and]
theorem L_or (x y : UInt32) : bits BinOp.or IntKind.u32 (x.toNat : Int) (y.toNat : Int) = ((x ||| y).toNat : Int) := by
  rw [u32_or_nat _ _ x.toNat_lt y.toNat_lt, UInt32.toNat_or]
theorem L_shr (x : UInt32) (n : Nat) : (x.toNat : Int) / 2 ^ n = ((shr x n).toNat : Int) := by
  unfold shr
  have h := x.toNat_lt
  have hp := Nat.pow_pos (n := n) (show 0 < 2 by decide)
  rw [u32n _ (Nat.lt_of_le_of_lt (Nat.div_le_self _ _) h), Int.natCast_ediv]; simp
theorem rotr_lt (x : UInt32) (n : Nat) : x.toNat / 2 ^ n ||| x.toNat * 2 ^ (32 - n) % 4294967296 < 4294967296 := by
  have h := x.toNat_lt
  exact Nat.or_lt_two_pow (n := 32) (Nat.lt_of_le_of_lt (Nat.div_le_self _ _) h) (Nat.mod_lt _ (by decide))
/-- RotateLeft32(x, k) with k = 32 - n. -/
theorem L_rot (x : UInt32) (n : Nat) : bits BinOp.or IntKind.u32 ((x.toNat : Int) * 2 ^ (32 - n) % 4294967296) ((x.toNat : Int) / 2 ^ n) = ((rotr x n).toNat : Int) := by
  have h := x.toNat_lt
  have e1 : (x.toNat : Int) * 2 ^ (32 - n) % 4294967296 = ((x.toNat * 2 ^ (32 - n) % 4294967296 : Nat) : Int) := by
    rw [Int.natCast_emod, Int.natCast_mul, Int.natCast_pow]; rfl
  have e2 : (x.toNat : Int) / 2 ^ n = ((x.toNat / 2 ^ n : Nat) : Int) := by rw [Int.natCast_ediv, Int.natCast_pow]; rfl
  rw [e1, e2, u32_or_nat _ _ (Nat.mod_lt _ (by decide)) (Nat.lt_of_le_of_lt (Nat.div_le_self _ _) h)]
  unfold rotr
  rw [u32n _ (rotr_lt x n), Nat.or_comm]
/-- The same, the other way about. -/
theorem L_rot' (x : UInt32) (n : Nat) : bits BinOp.or IntKind.u32 ((x.toNat : Int) / 2 ^ n) ((x.toNat : Int) * 2 ^ (32 - n) % 4294967296) = ((rotr x n).toNat : Int) := by
  have h := x.toNat_lt
  have e1 : (x.toNat : Int) * 2 ^ (32 - n) % 4294967296 = ((x.toNat * 2 ^ (32 - n) % 4294967296 : Nat) : Int) := by
    rw [Int.natCast_emod, Int.natCast_mul, Int.natCast_pow]; rfl
  have e2 : (x.toNat : Int) / 2 ^ n = ((x.toNat / 2 ^ n : Nat) : Int) := by rw [Int.natCast_ediv, Int.natCast_pow]; rfl
  rw [e1, e2, u32_or_nat _ _ (Nat.lt_of_le_of_lt (Nat.div_le_self _ _) h) (Nat.mod_lt _ (by decide))]
  unfold rotr
  rw [u32n _ (rotr_lt x n)]

/-- The words that a block spreads to. -/
def nextW (l : List UInt8) (w : List UInt32) (i : Nat) : UInt32 :=
  if i < 16 then wordN l i else w.getD (i - 16) 0 + (smallM (w.getD (i - 15) 0) 7 18 3 + w.getD (i - 7) 0 + smallM (w.getD (i - 2) 0) 17 19 10)
def spreadN (l : List UInt8) : Nat → List UInt32
  | 0 => []
  | n + 1 => spreadN l n ++ [nextW l (spreadN l n) n]
structure S8 where
  a : UInt32
  b : UInt32
  c : UInt32
  d : UInt32
  e : UInt32
  f : UInt32
  g : UInt32
  h : UInt32
deriving DecidableEq
def stepP (s : S8) (k w : UInt32) : UInt32 := s.h + bigM s.e 6 11 25 + k + w + ((s.e &&& s.f) ^^^ (~~~ s.e &&& s.g))
def stepQ (s : S8) : UInt32 := bigM s.a 2 13 22 + ((s.a &&& s.b) ^^^ (s.a &&& s.c) ^^^ (s.b &&& s.c))
def stepS (s : S8) (k w : UInt32) : S8 := ⟨stepP s k w + stepQ s, s.a, s.b, s.c, s.d + stepP s k w, s.e, s.f, s.g⟩
def addS (s t : S8) : S8 := ⟨s.a + t.a, s.b + t.b, s.c + t.c, s.d + t.d, s.e + t.e, s.f + t.f, s.g + t.g, s.h + t.h⟩

/-- The same by the letter of the document. -/
theorem choice_eq (e f g : UInt32) : (e &&& f) ^^^ (~~~ e &&& g) = (e &&& f) ||| ((e ^^^ 4294967295) &&& g) := by
  apply UInt32.toBitVec_inj.1
  simp only [UInt32.toBitVec_xor, UInt32.toBitVec_and, UInt32.toBitVec_or, UInt32.toBitVec_not]
  apply BitVec.eq_of_getLsbD_eq
  intro i hi
  have h1 : (4294967295 : UInt32).toBitVec = BitVec.allOnes 32 := by decide
  rw [h1]
  simp only [BitVec.getLsbD_xor, BitVec.getLsbD_and, BitVec.getLsbD_or, BitVec.getLsbD_not, BitVec.getLsbD_allOnes, hi, decide_true, Bool.true_and]
  cases e.toBitVec.getLsbD i <;> cases f.toBitVec.getLsbD i <;> cases g.toBitVec.getLsbD i <;> rfl
theorem vote_eq (a b c : UInt32) : (a &&& b) ^^^ (a &&& c) ^^^ (b &&& c) = (a &&& b) ||| (a &&& c) ||| (b &&& c) := by
  apply UInt32.toBitVec_inj.1
  simp only [UInt32.toBitVec_xor, UInt32.toBitVec_and, UInt32.toBitVec_or]
  apply BitVec.eq_of_getLsbD_eq
  intro i hi
  simp only [BitVec.getLsbD_xor, BitVec.getLsbD_and, BitVec.getLsbD_or]
  cases a.toBitVec.getLsbD i <;> cases b.toBitVec.getLsbD i <;> cases c.toBitVec.getLsbD i <;> rfl
/-- The roots' bytes. -/
def rootsN : List UInt8 := [66, 138, 47, 152, 113, 55, 68, 145, 181, 192, 251, 207, 233, 181, 219, 165, 57, 86, 194, 91, 89, 241, 17, 241, 146, 63, 130, 164, 171, 28, 94, 213, 216, 7, 170, 152, 18, 131, 91, 1, 36, 49, 133, 190, 85, 12, 125, 195, 114, 190, 93, 116, 128, 222, 177, 254, 155, 220, 6, 167, 193, 155, 241, 116, 228, 155, 105, 193, 239, 190, 71, 134, 15, 193, 157, 198, 36, 12, 161, 204, 45, 233, 44, 111, 74, 116, 132, 170, 92, 176, 169, 220, 118, 249, 136, 218, 152, 62, 81, 82, 168, 49, 198, 109, 176, 3, 39, 200, 191, 89, 127, 199, 198, 224, 11, 243, 213, 167, 145, 71, 6, 202, 99, 81, 20, 41, 41, 103, 39, 183, 10, 133, 46, 27, 33, 56, 77, 44, 109, 252, 83, 56, 13, 19, 101, 10, 115, 84, 118, 106, 10, 187, 129, 194, 201, 46, 146, 114, 44, 133, 162, 191, 232, 161, 168, 26, 102, 75, 194, 75, 139, 112, 199, 108, 81, 163, 209, 146, 232, 25, 214, 153, 6, 36, 244, 14, 53, 133, 16, 106, 160, 112, 25, 164, 193, 22, 30, 55, 108, 8, 39, 72, 119, 76, 52, 176, 188, 181, 57, 28, 12, 179, 78, 216, 170, 74, 91, 156, 202, 79, 104, 46, 111, 243, 116, 143, 130, 238, 120, 165, 99, 111, 132, 200, 120, 20, 140, 199, 2, 8, 144, 190, 255, 250, 164, 80, 108, 235, 190, 249, 163, 247, 198, 113, 120, 242]
def kN (i : Nat) : UInt32 := wordN rootsN i
def firstS : S8 := ⟨1779033703, 3144134277, 1013904242, 2773480762, 1359893119, 2600822924, 528734635, 1541459225⟩
/-- n rounds of a block. -/
def roundsN (l : List UInt8) (s : S8) : Nat → S8
  | 0 => s
  | n + 1 => stepS (roundsN l s n) (kN n) ((spreadN l 64).getD n 0)
def mixN (s : S8) (l : List UInt8) : S8 := addS s (roundsN l s 64)
/-- The padding behind n bytes. -/
def padN (n : Nat) : List UInt8 := 128 :: (List.replicate ((64 - (n + 9) % 64) % 64) 0 ++ (List.range 8).map fun i => UInt8.ofNat (n * 8 / 256 ^ (7 - i) % 256))
/-- What a state becomes by k blocks. -/
def chainG (mix : S8 → List UInt8 → S8) (l : List UInt8) : Nat → S8 → S8
  | 0, s => s
  | k + 1, s => chainG mix (l.drop 64) k (mix s (l.take 64))
theorem chainG_step (mix : S8 → List UInt8 → S8) (l : List UInt8) (k : Nat) (s : S8) : chainG mix l (k + 1) s = chainG mix (l.drop 64) k (mix s (l.take 64)) := rfl
def chainN (l : List UInt8) (k : Nat) (s : S8) : S8 := chainG mixN l k s
def outN (x : UInt32) : List UInt8 := [UInt8.ofNat (x.toNat / 16777216 % 256), UInt8.ofNat (x.toNat / 65536 % 256), UInt8.ofNat (x.toNat / 256 % 256), UInt8.ofNat (x.toNat % 256)]
def S8.out (s : S8) : List UInt8 := outN s.a ++ outN s.b ++ outN s.c ++ outN s.d ++ outN s.e ++ outN s.f ++ outN s.g ++ outN s.h
def sumN (l : List UInt8) : List UInt8 := (chainN (l ++ padN l.length) ((l ++ padN l.length).length / 64) firstS).out

theorem abc : (sumN [97, 98, 99]).take 4 = [0xba, 0x78, 0x16, 0xbf] := by decide +kernel

/-- The first 32 bits of the fraction of a root, bit by bit. -/
def fracGo (p deg : Nat) : Nat → Nat → Nat → Nat
  | 0, _, x => x
  | n + 1, bit, x => fracGo p deg n (bit / 2) (if (x + bit) ^ deg / 2 ^ (32 * deg) < p then x + bit else x)
def fracN (p deg : Nat) : Nat := fracGo p deg 36 34359738368 0 % 4294967296
def isP (p : Nat) : Bool := (List.range (p - 2)).all fun d => decide (0 < p % (d + 2))
def primesN : List Nat := [2, 3, 5, 7, 11, 13, 17, 19, 23, 29, 31, 37, 41, 43, 47, 53, 59, 61, 67, 71, 73, 79, 83, 89, 97, 101, 103, 107, 109, 113, 127, 131, 137, 139, 149, 151, 157, 163, 167, 173, 179, 181, 191, 193, 197, 199, 211, 223, 227, 229, 233, 239, 241, 251, 257, 263, 269, 271, 277, 281, 283, 293, 307, 311]
theorem primes_ok : ((List.range 310).map (· + 2)).filter isP = primesN := by decide +kernel
theorem cube_ok : primesN.map (fun p => fracN p 3) = (List.range 64).map fun i => (kN i).toNat := by decide +kernel
theorem square_ok : (primesN.take 8).map (fun p => fracN p 2) = [firstS.a, firstS.b, firstS.c, firstS.d, firstS.e, firstS.f, firstS.g, firstS.h].map UInt32.toNat := by decide +kernel
end Go.Proofs.Ytemfecdpjegocaa
