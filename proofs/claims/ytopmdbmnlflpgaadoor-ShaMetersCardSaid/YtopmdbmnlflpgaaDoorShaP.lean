/- Layer 2 (sha): what a digest is, in plain words. No program. -/
import Derived.Test.YtopmdbmnlflpgaaDoorRot
import Derived.Test.YtopmdbmnlflpgaaDoorVal
namespace Go.Proofs.YtopmdbmnlflpgaaDoor
open Go.RowKit
/-- a word turned right -/
@[irreducible] def rotr (x : UInt32) (n : Nat) : UInt32 := rotl x (32 - n)
theorem rotr_def (x : UInt32) (n : Nat) : rotr x n = rotl x (32 - n) := by unfold rotr; rfl
/-- four bytes, the highest one first -/
@[irreducible] def beAt (l : List UInt8) (o : Nat) : UInt32 := UInt32.ofNat ((at8 l o).toNat * 16777216 + (at8 l (o + 1)).toNat * 65536 + (at8 l (o + 2)).toNat * 256 + (at8 l (o + 3)).toNat)
@[irreducible] def sg0 (x : UInt32) : UInt32 := rotr x 7 ^^^ rotr x 18 ^^^ (x >>> 3)
@[irreducible] def sg1 (x : UInt32) : UInt32 := rotr x 17 ^^^ rotr x 19 ^^^ (x >>> 10)
@[irreducible] def nextW (w : List UInt32) (i : Nat) : UInt32 := at32 w (i - 16) + sg0 (at32 w (i - 15)) + at32 w (i - 7) + sg1 (at32 w (i - 2))
/-- the words of a block, the first k of them -/
def schedK (bl : List UInt8) : Nat → List UInt32
  | 0 => List.replicate 64 0
  | k + 1 => (schedK bl k).set k (if k < 16 then beAt bl (4 * k) else nextW (schedK bl k) k)
theorem schedK_length (bl : List UInt8) (k : Nat) : (schedK bl k).length = 64 := by
  induction k with
  | zero => simp [schedK]
  | succ k ih => simp [schedK, ih]
@[irreducible] def roundsL : List UInt32 := [0x428a2f98, 0x71374491, 0xb5c0fbcf, 0xe9b5dba5, 0x3956c25b, 0x59f111f1, 0x923f82a4, 0xab1c5ed5,
  0xd807aa98, 0x12835b01, 0x243185be, 0x550c7dc3, 0x72be5d74, 0x80deb1fe, 0x9bdc06a7, 0xc19bf174,
  0xe49b69c1, 0xefbe4786, 0x0fc19dc6, 0x240ca1cc, 0x2de92c6f, 0x4a7484aa, 0x5cb0a9dc, 0x76f988da,
  0x983e5152, 0xa831c66d, 0xb00327c8, 0xbf597fc7, 0xc6e00bf3, 0xd5a79147, 0x06ca6351, 0x14292967,
  0x27b70a85, 0x2e1b2138, 0x4d2c6dfc, 0x53380d13, 0x650a7354, 0x766a0abb, 0x81c2c92e, 0x92722c85,
  0xa2bfe8a1, 0xa81a664b, 0xc24b8b70, 0xc76c51a3, 0xd192e819, 0xd6990624, 0xf40e3585, 0x106aa070,
  0x19a4c116, 0x1e376c08, 0x2748774c, 0x34b0bcb5, 0x391c0cb3, 0x4ed8aa4a, 0x5b9cca4f, 0x682e6ff3,
  0x748f82ee, 0x78a5636f, 0x84c87814, 0x8cc70208, 0x90befffa, 0xa4506ceb, 0xbef9a3f7, 0xc67178f2]
theorem roundsL_length : roundsL.length = 64 := by unfold roundsL; rfl
@[irreducible] def startS : List UInt32 := [0x6a09e667, 0xbb67ae85, 0x3c6ef372, 0xa54ff53a, 0x510e527f, 0x9b05688c, 0x1f83d9ab, 0x5be0cd19]
theorem startS_length : startS.length = 8 := by unfold startS; rfl
@[irreducible] def t1Of (e f g h k w : UInt32) : UInt32 := h + (rotr e 6 ^^^ rotr e 11 ^^^ rotr e 25) + ((e &&& f) ^^^ (~~~e &&& g)) + k + w
@[irreducible] def t2Of (a b c : UInt32) : UInt32 := (rotr a 2 ^^^ rotr a 13 ^^^ rotr a 22) + ((a &&& b) ^^^ (a &&& c) ^^^ (b &&& c))
/-- a round -/
@[irreducible] def shaStep (s : List UInt32) (k w : UInt32) : List UInt32 :=
  [t1Of (at32 s 4) (at32 s 5) (at32 s 6) (at32 s 7) k w + t2Of (at32 s 0) (at32 s 1) (at32 s 2), at32 s 0, at32 s 1, at32 s 2,
    at32 s 3 + t1Of (at32 s 4) (at32 s 5) (at32 s 6) (at32 s 7) k w, at32 s 4, at32 s 5, at32 s 6]
theorem shaStep_length (s : List UInt32) (k w : UInt32) : (shaStep s k w).length = 8 := by unfold shaStep; rfl
def stepsK (st : List UInt32) (bl : List UInt8) : Nat → List UInt32
  | 0 => st
  | k + 1 => shaStep (stepsK st bl k) (at32 roundsL k) (at32 (schedK bl 64) k)
theorem stepsK_length (st : List UInt32) (bl : List UInt8) (h : st.length = 8) : ∀ k, (stepsK st bl k).length = 8
  | 0 => h
  | _ + 1 => shaStep_length _ _ _
def addK (st s : List UInt32) : Nat → List UInt32
  | 0 => s
  | k + 1 => (addK st s k).set k (at32 (addK st s k) k + at32 st k)
theorem addK_length (st s : List UInt32) (k : Nat) : (addK st s k).length = s.length := by
  induction k with
  | zero => rfl
  | succ k ih => simp [addK, ih]
/-- the compression -/
def shaBlock (st : List UInt32) (bl : List UInt8) : List UInt32 := addK st (stepsK st bl 64) 8
theorem shaBlock_length (st : List UInt32) (bl : List UInt8) (h : st.length = 8) : (shaBlock st bl).length = 8 := by
  unfold shaBlock; rw [addK_length, stepsK_length _ _ h]
/-- what stands behind n bytes -/
def padZ (n : Nat) : Nat := (119 - n % 64) % 64
def padB (n : Nat) : List UInt8 := 128 :: (List.replicate (padZ n) 0 ++ (lowB (UInt64.ofNat (8 * n)) 8).reverse)
theorem padB_length (n : Nat) : (padB n).length = 9 + padZ n := by simp [padB, lowB_length]; omega
theorem padB_whole (n : Nat) : (n + (padB n).length) % 64 = 0 := by rw [padB_length]; unfold padZ; omega
/-- blocks, folded: k of them -/
def foldB (b : List UInt8) : Nat → List UInt32
  | 0 => startS
  | k + 1 => shaBlock (foldB b k) ((b.drop (64 * k)).take 64)
theorem foldB_length (b : List UInt8) : ∀ k, (foldB b k).length = 8
  | 0 => startS_length
  | k + 1 => shaBlock_length _ _ (foldB_length b k)
/-- words as bytes, the highest one first -/
@[irreducible] def beB (x : UInt32) : List UInt8 := (lowB (UInt64.ofNat x.toNat) 4).reverse
theorem beB_length (x : UInt32) : (beB x).length = 4 := by unfold beB; simp [lowB_length]
def beL (s : List UInt32) : List UInt8 := (s.map beB).flatten
theorem beL_length (s : List UInt32) : (beL s).length = 4 * s.length := by
  unfold beL
  induction s with
  | nil => rfl
  | cons x s ih => simp only [List.map_cons, List.flatten_cons, List.length_append, beB_length, ih, List.length_cons]; omega
/-- the digest of bytes -/
@[irreducible] def shaB (b : List UInt8) : List UInt8 := beL (foldB (b ++ padB b.length) ((b ++ padB b.length).length / 64))
theorem shaB_def (b : List UInt8) : shaB b = beL (foldB (b ++ padB b.length) ((b ++ padB b.length).length / 64)) := by unfold shaB; rfl
theorem shaB_length (b : List UInt8) : (shaB b).length = 32 := by rw [shaB_def, beL_length, foldB_length]
theorem sha_aw0 : (shaB []).take 4 = [0xe3, 0xb0, 0xc4, 0x42] ∧ (shaB []).drop 28 = [0x78, 0x52, 0xb8, 0x55] := by decide +kernel
theorem sha_aw1 : (shaB [97, 98, 99]).take 4 = [0xba, 0x78, 0x16, 0xbf] ∧ (shaB [97, 98, 99]).drop 28 = [0xf2, 0x00, 0x15, 0xad] := by decide +kernel
end Go.Proofs.YtopmdbmnlflpgaaDoor
