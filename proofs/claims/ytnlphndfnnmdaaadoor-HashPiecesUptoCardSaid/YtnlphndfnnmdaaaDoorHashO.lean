/-
  What the document's answer of layer 5 reckons of a text.
-/
import Derived.Test.YtnlphndfnnmdaaaDoorHashN
import Derived.Test.YtnlphndfnnmdaaaDoorHashI
set_option linter.unusedSimpArgs false
set_option linter.unusedVariables false
namespace Go.Cv.Hash
open Go.RowKit
/-- A byte of a text's length in bits. -/
def lenB (n i : Nat) : UInt8 := if i = 0 then ((u64 (n : Int) % 32).toUInt8 * 8) else if i ≤ 8 then (u64 (n : Int) >>> UInt64.ofNat (8 * i - 3)).toUInt8 else 0
def lensG (n m k : Nat) : List UInt8 := (List.range k).map fun j => lenB n (m - 1 - j)
theorem lensG_succ (n m k : Nat) : lensG n m (k + 1) = lensG n m k ++ [lenB n (m - 1 - k)] := by simp [lensG, List.range_succ]
theorem lensG_len (n m k : Nat) : (lensG n m k).length = k := by simp [lensG]
def fullG (S Z : Nat) (l : List UInt8) : List UInt8 := (l ++ [128] ++ List.replicate Z 0) ++ lensG l.length (2 * S) (2 * S)
theorem fullG_len (S Z : Nat) (l : List UInt8) : (fullG S Z l).length = l.length + 1 + Z + 2 * S := by simp [fullG, lensG_len]; omega
def wordAt (full : List UInt8) (p : Nat) : Nat → UInt64
  | 0 => 0
  | j + 1 => 256 * wordAt full p j + (full.getD (p + j) 0).toUInt64
def wordsAt (full : List UInt8) (S at' k : Nat) : List UInt64 := (List.range k).map fun i => wordAt full (at' + S * i) S
theorem wordsAt_succ (full : List UInt8) (S at' k : Nat) : wordsAt full S at' (k + 1) = wordsAt full S at' k ++ [wordAt full (at' + S * k) S] := by simp [wordsAt, List.range_succ]
theorem wordsAt_len (full : List UInt8) (S at' k : Nat) : (wordsAt full S at' k).length = k := by simp [wordsAt]
def sumBG (D : Kd) (S : Nat) (full : List UInt8) : Nat → Nat → St64 → St64
  | 0, _, s => s
  | f + 1, at', s => sumBG D S full f (at' + 16 * S) (blockG D (wordsAt full S at' 16) s)
def outAtG (t : St64) (S k : Nat) : UInt8 := ((t.l.getD (k / S) 0) >>> UInt64.ofNat (8 * (S - 1 - k % S))).toUInt8
def outsG (t : St64) (S k : Nat) : List UInt8 := (List.range k).map (outAtG t S)
theorem outsG_succ (t : St64) (S k : Nat) : outsG t S (k + 1) = outsG t S k ++ [outAtG t S k] := by simp [outsG, List.range_succ]
theorem outsG_len (t : St64) (S k : Nat) : (outsG t S k).length = k := by simp [outsG]
/-- A text's digest, by the document. -/
def digG (D : Kd) (S Z F : Nat) (beg : St64) (l : List UInt8) : List UInt8 := outsG (sumBG D S (fullG S Z l) F 0 beg) S (8 * S)
end Go.Cv.Hash
