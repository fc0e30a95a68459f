/-
  The three functions of math/bits on words, in the form of words and a carry that is true or false.
-/
import Derived.Test.YtndohjgfjbopnaaLib
import Derived.Test.YtndohjgfjbopnaaRows
import Derived.WalkSpells
import Derived.WalkLawsBesides
import Derived.Laws.Bits64b
import Derived.Shelf.Spec.BitsCarry
import Derived.Lib.Mul64
set_option linter.unusedSimpArgs false
set_option linter.unusedVariables false
namespace Go.Cv

/-- A carry as a word. -/
def bc (c : Bool) : UInt64 := if c then 1 else 0
def bn (c : Bool) : Nat := if c then 1 else 0
theorem bc_toNat (c : Bool) : (bc c).toNat = bn c := by cases c <;> rfl
theorem bn_le (c : Bool) : bn c ≤ 1 := by cases c <;> decide
theorem n64_bc (c : Bool) : n64 (bc c) = (bn c : Int) := by rw [n64_def, bc_toNat]
def adcS (x y : UInt64) (c : Bool) : UInt64 := x + y + bc c
def adcC (x y : UInt64) (c : Bool) : Bool := decide (18446744073709551616 ≤ x.toNat + y.toNat + bn c)
theorem adc_law (x y : UInt64) (c : Bool) : (adcS x y c).toNat + 18446744073709551616 * bn (adcC x y c) = x.toNat + y.toNat + bn c := by
  have hx := x.toNat_lt; have hy := y.toNat_lt; have hc := bn_le c
  have hs : (adcS x y c).toNat = (x.toNat + y.toNat + bn c) % 18446744073709551616 := by
    unfold adcS
    rw [UInt64.toNat_add, UInt64.toNat_add, bc_toNat]
    simp
  rw [hs]
  unfold adcC
  by_cases h : 18446744073709551616 ≤ x.toNat + y.toNat + bn c
  · rw [decide_eq_true h]; simp only [bn, if_true]; rw [show (if c = true then 1 else 0) = bn c from rfl]; omega
  · rw [decide_eq_false h]; simp only [bn]; rw [show (if c = true then 1 else 0) = bn c from rfl]; simp only [Bool.false_eq_true, if_false]; omega
def sbbS (x y : UInt64) (c : Bool) : UInt64 := x - y - bc c
def sbbC (x y : UInt64) (c : Bool) : Bool := decide (x.toNat < y.toNat + bn c)
theorem sbb_toNat (x y : UInt64) (c : Bool) : (sbbS x y c).toNat = (x.toNat + 18446744073709551616 - y.toNat - bn c) % 18446744073709551616 := by
  have hx := x.toNat_lt; have hy := y.toNat_lt; have hc := bn_le c
  unfold sbbS
  rw [UInt64.toNat_sub, UInt64.toNat_sub, bc_toNat]
  simp
  omega
theorem sbb_law (x y : UInt64) (c : Bool) : (sbbS x y c).toNat + y.toNat + bn c = x.toNat + 18446744073709551616 * bn (sbbC x y c) := by
  have hx := x.toNat_lt; have hy := y.toNat_lt; have hc := bn_le c
  rw [sbb_toNat]
  unfold sbbC
  by_cases h : x.toNat < y.toNat + bn c
  · rw [decide_eq_true h]; rw [show bn true = 1 from rfl]; omega
  · rw [decide_eq_false h]; rw [show bn false = 0 from rfl]; omega
/-- The product's upper word. -/
def mulH (x y : UInt64) : UInt64 := UInt64.ofNat (x.toNat * y.toNat / 18446744073709551616)
theorem mulH_toNat (x y : UInt64) : (mulH x y).toNat = x.toNat * y.toNat / 18446744073709551616 := by
  have hx := x.toNat_lt; have hy := y.toNat_lt
  unfold mulH
  rw [UInt64.toNat_ofNat']
  apply Nat.mod_eq_of_lt
  rw [Nat.div_lt_iff_lt_mul (by decide)]
  exact Nat.mul_lt_mul'' hx hy
theorem mul_law (x y : UInt64) : (x * y).toNat + 18446744073709551616 * (mulH x y).toNat = x.toNat * y.toNat := by
  rw [mulH_toNat, UInt64.toNat_mul]
  have := Nat.mod_add_div (x.toNat * y.toNat) 18446744073709551616
  simpa using this
@[go_sem] theorem gtr_bc (c : Bool) : decide ((0 : Int) < n64 (bc c)) = c := by
  rw [n64_bc]; cases c <;> rfl
end Go.Cv

namespace Go.Proofs.Ytndohjgfjbopnaa
open Go.RowKit Go.Cv Go.Shelf

theorem add64 (x y : UInt64) (c : Bool) (w : World) : (callFunc 79 #[.int .u64 (n64 x), .int .u64 (n64 y), .int .u64 (n64 (bc c))]).run Try.prog w =
    .ok (.value (.tuple #[.int .u64 (n64 (adcS x y c)), .int .u64 (n64 (bc (adcC x y c)))])) w := by
  have hx := n64_bd x; have hy := n64_bd y
  have hc := bn_le c
  have hl := adc_law x y c
  have hS := (adcS x y c).toNat_lt
  have hC := bn_le (adcC x y c)
  rw [run_callFunc_extern Try.func79 (by kernel_rfl) (by kernel_rfl) (by kernel_rfl) (e := add64Entry) (by kernel_rfl), n64_bc,
    run_add64 _ _ _ hx.1 hy.1 (by omega) (by omega)]
  simp only [Result.andThen]
  have e1 : (n64 x + n64 y + (bn c : Int)) % 18446744073709551616 = n64 (adcS x y c) := by simp only [n64_def]; omega
  have e2 : (n64 x + n64 y + (bn c : Int)) / 18446744073709551616 = n64 (bc (adcC x y c)) := by rw [n64_bc]; simp only [n64_def]; omega
  rw [e1, e2]
theorem add64_c0 (x y : UInt64) (w : World) : (callFunc 79 #[.int .u64 (n64 x), .int .u64 (n64 y), .int .u64 0]).run Try.prog w =
    .ok (.value (.tuple #[.int .u64 (n64 (adcS x y false)), .int .u64 (n64 (bc (adcC x y false)))])) w := add64 x y false w
theorem add64_y0 (x : UInt64) (c : Bool) (w : World) : (callFunc 79 #[.int .u64 (n64 x), .int .u64 0, .int .u64 (n64 (bc c))]).run Try.prog w =
    .ok (.value (.tuple #[.int .u64 (n64 (adcS x 0 c)), .int .u64 (n64 (bc (adcC x 0 c)))])) w := add64 x 0 c w

theorem sub64 (x y : UInt64) (c : Bool) (w : World) : (callFunc 92 #[.int .u64 (n64 x), .int .u64 (n64 y), .int .u64 (n64 (bc c))]).run Try.prog w =
    .ok (.value (.tuple #[.int .u64 (n64 (sbbS x y c)), .int .u64 (n64 (bc (sbbC x y c)))])) w := by
  have hx := x.toNat_lt; have hy := y.toNat_lt
  have hc := bn_le c
  have hl := sbb_toNat x y c
  rw [run_callFunc_extern Try.func92 (by kernel_rfl) (by kernel_rfl) (by kernel_rfl) (e := sub64Entry) (by kernel_rfl), n64_bc,
    n64_def, n64_def, run_sub64 _ _ _ hc]
  simp only [Result.andThen]
  rw [← hl, n64_bc]
  have e2 : (if x.toNat < y.toNat + bn c then 1 else 0) = bn (sbbC x y c) := by
    unfold sbbC bn
    split <;> simp_all
  rw [e2]
  rfl
theorem sub64_c0 (x y : UInt64) (w : World) : (callFunc 92 #[.int .u64 (n64 x), .int .u64 (n64 y), .int .u64 0]).run Try.prog w =
    .ok (.value (.tuple #[.int .u64 (n64 (sbbS x y false)), .int .u64 (n64 (bc (sbbC x y false)))])) w := sub64 x y false w

theorem maskN (a : Nat) (ha : a < 18446744073709551616) : bits .and .u64 (a : Int) 4294967295 = ((a % 4294967296 : Nat) : Int) := by
  have h := bits_and_u64_nat a 4294967295 ha (by omega)
  have e : a &&& 4294967295 = a % 4294967296 := Nat.and_two_pow_sub_one_eq_mod a 32
  rw [e] at h
  exact h
theorem divN (a : Nat) : (a : Int) / 4294967296 = ((a / 4294967296 : Nat) : Int) := by omega
theorem mulN (a b : Nat) : (a : Int) * (b : Int) = ((a * b : Nat) : Int) := (Int.natCast_mul a b).symm
theorem addN (a b : Nat) : (a : Int) + (b : Int) = ((a + b : Nat) : Int) := (Int.natCast_add a b).symm
theorem wrapN (a : Nat) (ha : a < 18446744073709551616) : IntKind.u64.wrap (a : Int) = (a : Int) := by rw [IntKind.wrap_u64]; omega
theorem wrapM (a : Nat) : IntKind.u64.wrap (a : Int) = ((a % 18446744073709551616 : Nat) : Int) := by rw [IntKind.wrap_u64]; omega

attribute [-go_sem] Go.Cv.wrap_u64_any Go.Cv.u64_and Go.Cv.u64_or Go.Cv.u64_xor Go.Cv.u64_andNot Go.Cv.shl_u64 Go.Cv.shr_u64 Go.Cv.u64_tdiv Go.Cv.u64_tmod Go.Cv.cast_n64 in
set_option maxHeartbeats 1000000 in
theorem mul64_nat (x y : Nat) (hx : x < 18446744073709551616) (hy : y < 18446744073709551616) (w : World) :
    Calls Try.prog 78 #[.int .u64 x, .int .u64 y] w fun e w' => e = .returned (.tuple #[.int .u64 ((x * y / 18446744073709551616 : Nat) : Int), .int .u64 ((x * y % 18446744073709551616 : Nat) : Int)]) ∧ w' = w := by
  obtain ⟨bd, bt, bw, hhi⟩ := Lib.mul64_hi x y hx hy
  have ba := Lib.half_mul_le (a := x / 4294967296) (b := y / 4294967296) (by omega) (by omega)
  have bb := Lib.half_mul_le (a := x / 4294967296) (b := y % 4294967296) (by omega) (by omega)
  have bcc := Lib.half_mul_le (a := x % 4294967296) (b := y / 4294967296) (by omega) (by omega)
  have ba' : x / 4294967296 * (y / 4294967296) < 18446744073709551616 := by omega
  have bb' : x / 4294967296 * (y % 4294967296) < 18446744073709551616 := by omega
  have bc' : x % 4294967296 * (y / 4294967296) < 18446744073709551616 := by omega
  have bh1 : x / 4294967296 * (y / 4294967296) + (x / 4294967296 * (y % 4294967296) + x % 4294967296 * (y % 4294967296) / 4294967296) / 4294967296 < 18446744073709551616 := by omega
  have bh : x / 4294967296 * (y / 4294967296) + (x / 4294967296 * (y % 4294967296) + x % 4294967296 * (y % 4294967296) / 4294967296) / 4294967296 + ((x / 4294967296 * (y % 4294967296) + x % 4294967296 * (y % 4294967296) / 4294967296) % 4294967296 + x % 4294967296 * (y / 4294967296)) / 4294967296 < 18446744073709551616 := by omega
  go_enter Try.func78, Try.ntmps78
  go_wp2
  simp only [maskN x hx, maskN y hy, divN, mulN, addN, wrapN _ bd, wrapN _ bb', wrapN _ bt, maskN _ bt, wrapN _ bc', wrapN _ bw, wrapN _ ba', wrapN _ bh1, wrapN _ bh, wrapM (x * y)]
  rw [hhi]
  go_ret2
  exact ⟨rfl, rfl⟩
theorem mul64 (x y : UInt64) (w : World) :
    Calls Try.prog 78 #[.int .u64 (n64 x), .int .u64 (n64 y)] w fun e w' => e = .returned (.tuple #[.int .u64 (n64 (mulH x y)), .int .u64 (n64 (x * y))]) ∧ w' = w := by
  refine (mul64_nat x.toNat y.toNat x.toNat_lt y.toNat_lt w).mono ?_
  rintro e w' ⟨rfl, rfl⟩
  refine ⟨?_, rfl⟩
  rw [n64_def, n64_def, mulH_toNat, UInt64.toNat_mul]
end Go.Proofs.Ytndohjgfjbopnaa
