import Derived.WalkKit
import Derived.WalkSpells
import Derived.WalkLawsBesides
import Derived.Maps.AppendAt
import Derived.Deep.AppendLies
import Derived.Deep.Draws
import Derived.Lib.Hide
import Derived.RegionTactic
import Derived.OwnWalk
import Derived.Laws.NewBlocks
import Derived.RowKitTokens
import Derived.Laws.Tables
import Derived.Laws.Rows
section
/-
  UIntN normal forms for walks: every unsigned result is nK of a UIntN term.
-/
set_option linter.unusedSimpArgs false
set_option linter.unusedVariables false
namespace Go.Cv


def n8 (x : UInt8) : Int := (x.toNat : Int)
def u8 (x : Int) : UInt8 := UInt8.ofBitVec (BitVec.ofInt 8 x)
theorem n8_def (x : UInt8) : n8 x = (x.toNat : Int) := rfl
theorem n8_bd (x : UInt8) : 0 ≤ n8 x ∧ n8 x < 256 := by have := x.toNat_lt; unfold n8; omega
theorem n8_toNat (x : UInt8) : (n8 x).toNat = x.toNat := rfl
theorem n8_inj {x y : UInt8} (h : n8 x = n8 y) : x = y := UInt8.toNat_inj.1 (by unfold n8 at h; omega)
@[go_sem] theorem cast_n8 (x : UInt8) : ((x.toNat : Nat) : Int) = n8 x := rfl
theorem n8_u8 (x : Int) : n8 (u8 x) = x % 256 := by
  show ((BitVec.ofInt 8 x).toNat : Int) = _
  rw [BitVec.toNat_ofInt]
  have h : (0 : Int) ≤ x % 256 := Int.emod_nonneg _ (by decide)
  simp [Int.toNat_of_nonneg h]
@[go_sem] theorem wrap_u8_any (e : Int) : IntKind.u8.wrap e = n8 (u8 e) := by
  rw [n8_u8]
  simp [IntKind.wrap, IntKind.bits, IntKind.signed]
@[go_sem] theorem u8_self (x : UInt8) : u8 (n8 x) = x := by
  show UInt8.ofBitVec (BitVec.ofInt 8 (x.toNat : Int)) = x
  rw [BitVec.ofInt_natCast]
  simp
theorem u8_of (x : Int) (y : UInt8) (h : x % 256 = n8 y % 256) : u8 x = y := by
  apply n8_inj; rw [n8_u8, h]; have := n8_bd y; omega
theorem u8_bv (x : Int) : (u8 x).toBitVec = BitVec.ofInt 8 x := rfl
@[go_sem] theorem u8_add (x y : Int) : u8 (x + y) = u8 x + u8 y := by
  apply UInt8.toBitVec_inj.1; rw [UInt8.toBitVec_add, u8_bv, u8_bv, u8_bv, BitVec.ofInt_add]
@[go_sem] theorem u8_mul (x y : Int) : u8 (x * y) = u8 x * u8 y := by
  apply UInt8.toBitVec_inj.1; rw [UInt8.toBitVec_mul, u8_bv, u8_bv, u8_bv, BitVec.ofInt_mul]
@[go_sem] theorem u8_neg (x : Int) : u8 (-x) = -u8 x := by
  apply UInt8.toBitVec_inj.1; rw [UInt8.toBitVec_neg, u8_bv, u8_bv, BitVec.ofInt_neg]
@[go_sem] theorem u8_sub (x y : Int) : u8 (x - y) = u8 x - u8 y := by
  rw [Int.sub_eq_add_neg, u8_add, u8_neg]
  apply UInt8.toBitVec_inj.1
  rw [UInt8.toBitVec_add, UInt8.toBitVec_sub, UInt8.toBitVec_neg, BitVec.sub_eq_add_neg]
@[go_sem] theorem u8_lit (k : Nat) : u8 (no_index (OfNat.ofNat k : Int)) = (OfNat.ofNat k : UInt8) := by
  apply UInt8.toBitVec_inj.1
  rw [u8_bv]
  exact BitVec.ofInt_natCast 8 k
@[go_sem] theorem u8_and (x y : Int) : bits .and .u8 x y = n8 (u8 x &&& u8 y) := by
  show IntKind.u8.wrap (((BitVec.ofInt 8 x &&& BitVec.ofInt 8 y).toNat : Nat) : Int) = _
  rw [wrap_u8_any]; exact congrArg n8 (u8_self (u8 x &&& u8 y))
@[go_sem] theorem u8_or (x y : Int) : bits .or .u8 x y = n8 (u8 x ||| u8 y) := by
  show IntKind.u8.wrap (((BitVec.ofInt 8 x ||| BitVec.ofInt 8 y).toNat : Nat) : Int) = _
  rw [wrap_u8_any]; exact congrArg n8 (u8_self (u8 x ||| u8 y))
@[go_sem] theorem u8_xor (x y : Int) : bits .xor .u8 x y = n8 (u8 x ^^^ u8 y) := by
  show IntKind.u8.wrap (((BitVec.ofInt 8 x ^^^ BitVec.ofInt 8 y).toNat : Nat) : Int) = _
  rw [wrap_u8_any]; exact congrArg n8 (u8_self (u8 x ^^^ u8 y))
@[go_sem] theorem u8_andNot (x y : Int) : bits .andNot .u8 x y = n8 (u8 x &&& ~~~(u8 y)) := by
  show IntKind.u8.wrap (((BitVec.ofInt 8 x &&& ~~~BitVec.ofInt 8 y).toNat : Nat) : Int) = _
  rw [wrap_u8_any]; exact congrArg n8 (u8_self (u8 x &&& ~~~(u8 y)))
theorem u8_of_nat (x : Nat) : u8 (x : Int) = UInt8.ofNat x := by
  apply UInt8.toNat_inj.1
  have h1 := n8_u8 (x : Int)
  have h2 : (UInt8.ofNat x).toNat = x % 256 := BitVec.toNat_ofNat ..
  unfold n8 at h1
  omega
theorem lit_toNat_u8 (k : Nat) (h : k < 256) : (OfNat.ofNat k : UInt8).toNat = k := by
  show (BitVec.ofNat 8 k).toNat = k
  rw [BitVec.toNat_ofNat]; exact Nat.mod_eq_of_lt h
theorem toNat_shl_u8 (a : UInt8) (k : Nat) (h : k < 8) : (a <<< (OfNat.ofNat k : UInt8)).toNat = a.toNat * 2 ^ k % 256 := by
  rw [UInt8.toNat_shiftLeft, lit_toNat_u8 k (by omega), Nat.mod_eq_of_lt h, Nat.shiftLeft_eq]
theorem toNat_shr_u8 (a : UInt8) (k : Nat) (h : k < 8) : (a >>> (OfNat.ofNat k : UInt8)).toNat = a.toNat / 2 ^ k := by
  rw [UInt8.toNat_shiftRight, lit_toNat_u8 k (by omega), Nat.mod_eq_of_lt h, Nat.shiftRight_eq_div_pow]
@[go_sem high] theorem shl_u8 (x : Int) (yk : IntKind) (k : Nat) (h : k < 8) : Op.shift .shl .u8 x yk (no_index (OfNat.ofNat k : Int)) = pure (.int .u8 (n8 (u8 x <<< (OfNat.ofNat k : UInt8)))) := by
  have e : ((OfNat.ofNat k : Int)).toNat = k := rfl
  rw [shift_shl_any _ _ _ _ (show (0 : Int) ≤ OfNat.ofNat k from Int.natCast_nonneg k), wrap_u8_any, e, Nat.min_eq_left (by show k ≤ 8; omega)]
  have e2 : (u8 x <<< (OfNat.ofNat k : UInt8)) = u8 (x * 2 ^ k) := by
    apply UInt8.toNat_inj.1
    rw [toNat_shl_u8 _ _ h]
    have h1 := n8_u8 x
    have h2 := n8_u8 (x * 2 ^ k)
    unfold n8 at h1 h2
    have h3 : (((u8 x).toNat * 2 ^ k % 256 : Nat) : Int) = ((u8 (x * 2 ^ k)).toNat : Int) := by
      rw [h2, Int.natCast_emod, Int.natCast_mul, h1]
      simp [Int.mul_emod]
    exact_mod_cast h3
  rw [e2]
@[go_sem high] theorem shr_u8 (a : UInt8) (yk : IntKind) (k : Nat) (h : k < 8) : Op.shift .shr .u8 (n8 a) yk (no_index (OfNat.ofNat k : Int)) = pure (.int .u8 (n8 (a >>> (OfNat.ofNat k : UInt8)))) := by
  have e : ((OfNat.ofNat k : Int)).toNat = k := rfl
  rw [shift_shr_any _ _ _ _ (show (0 : Int) ≤ OfNat.ofNat k from Int.natCast_nonneg k), e, Nat.min_eq_left (by show k ≤ 8; omega)]
  unfold n8
  rw [toNat_shr_u8 _ _ h]
  simp
@[go_sem high] theorem unary_xor_u8 (x : Int) : Op.unary .xor (.int .u8 x) = pure (.int .u8 (n8 (~~~(u8 x)))) := by
  show Op.intBits .xor .u8 255 x = _
  show (pure (.int .u8 (IntKind.u8.wrap ((BitVec.ofInt 8 255 ^^^ BitVec.ofInt 8 x).toNat : Nat))) : Sem Value) = _
  rw [wrap_u8_any]
  have h : BitVec.ofInt 8 255 = BitVec.allOnes 8 := by decide
  rw [h, BitVec.allOnes_xor]
  exact congrArg (fun t : UInt8 => (pure (.int .u8 (n8 t)) : Sem Value)) (u8_self (~~~(u8 x)))
@[go_sem] theorem u8_tdiv (a : UInt8) (k : Nat) (h : k < 256) : u8 (Int.tdiv (n8 a) (no_index (OfNat.ofNat k : Int))) = a / (OfNat.ofNat k : UInt8) := by
  apply u8_of
  unfold n8
  rw [UInt8.toNat_div, lit_toNat_u8 k h]
  rfl
@[go_sem] theorem u8_tmod (a : UInt8) (k : Nat) (h : k < 256) : Int.tmod (n8 a) (no_index (OfNat.ofNat k : Int)) = n8 (a % (OfNat.ofNat k : UInt8)) := by
  unfold n8
  rw [UInt8.toNat_mod, lit_toNat_u8 k h]
  rfl
@[go_sem] theorem beq_u8 (a b : UInt8) : (n8 a == n8 b) = (a == b) := by
  rw [Bool.eq_iff_iff]; simp only [beq_iff_eq]
  exact ⟨fun h => n8_inj h, fun h => by rw [h]⟩
@[go_sem] theorem bne_u8 (a b : UInt8) : (n8 a != n8 b) = (a != b) := by
  show (!(n8 a == n8 b)) = !(a == b)
  rw [beq_u8]
@[go_sem] theorem beq_u8_lit (a : UInt8) (k : Nat) (h : k < 256) : (n8 a == (no_index (OfNat.ofNat k : Int))) = (a == (OfNat.ofNat k : UInt8)) := by
  rw [← beq_u8]
  congr 1
  unfold n8
  rw [lit_toNat_u8 k h]; rfl
@[go_sem] theorem bne_u8_lit (a : UInt8) (k : Nat) (h : k < 256) : (n8 a != (no_index (OfNat.ofNat k : Int))) = (a != (OfNat.ofNat k : UInt8)) := by
  show (!(n8 a == (OfNat.ofNat k : Int))) = !(a == (OfNat.ofNat k : UInt8))
  rw [beq_u8_lit a k h]


def n16 (x : UInt16) : Int := (x.toNat : Int)
def u16 (x : Int) : UInt16 := UInt16.ofBitVec (BitVec.ofInt 16 x)
theorem n16_def (x : UInt16) : n16 x = (x.toNat : Int) := rfl
theorem n16_bd (x : UInt16) : 0 ≤ n16 x ∧ n16 x < 65536 := by have := x.toNat_lt; unfold n16; omega
theorem n16_toNat (x : UInt16) : (n16 x).toNat = x.toNat := rfl
theorem n16_inj {x y : UInt16} (h : n16 x = n16 y) : x = y := UInt16.toNat_inj.1 (by unfold n16 at h; omega)
@[go_sem] theorem cast_n16 (x : UInt16) : ((x.toNat : Nat) : Int) = n16 x := rfl
theorem n16_u16 (x : Int) : n16 (u16 x) = x % 65536 := by
  show ((BitVec.ofInt 16 x).toNat : Int) = _
  rw [BitVec.toNat_ofInt]
  have h : (0 : Int) ≤ x % 65536 := Int.emod_nonneg _ (by decide)
  simp [Int.toNat_of_nonneg h]
@[go_sem] theorem wrap_u16_any (e : Int) : IntKind.u16.wrap e = n16 (u16 e) := by
  rw [n16_u16]
  simp [IntKind.wrap, IntKind.bits, IntKind.signed]
@[go_sem] theorem u16_self (x : UInt16) : u16 (n16 x) = x := by
  show UInt16.ofBitVec (BitVec.ofInt 16 (x.toNat : Int)) = x
  rw [BitVec.ofInt_natCast]
  simp
theorem u16_of (x : Int) (y : UInt16) (h : x % 65536 = n16 y % 65536) : u16 x = y := by
  apply n16_inj; rw [n16_u16, h]; have := n16_bd y; omega
theorem u16_bv (x : Int) : (u16 x).toBitVec = BitVec.ofInt 16 x := rfl
@[go_sem] theorem u16_add (x y : Int) : u16 (x + y) = u16 x + u16 y := by
  apply UInt16.toBitVec_inj.1; rw [UInt16.toBitVec_add, u16_bv, u16_bv, u16_bv, BitVec.ofInt_add]
@[go_sem] theorem u16_mul (x y : Int) : u16 (x * y) = u16 x * u16 y := by
  apply UInt16.toBitVec_inj.1; rw [UInt16.toBitVec_mul, u16_bv, u16_bv, u16_bv, BitVec.ofInt_mul]
@[go_sem] theorem u16_neg (x : Int) : u16 (-x) = -u16 x := by
  apply UInt16.toBitVec_inj.1; rw [UInt16.toBitVec_neg, u16_bv, u16_bv, BitVec.ofInt_neg]
@[go_sem] theorem u16_sub (x y : Int) : u16 (x - y) = u16 x - u16 y := by
  rw [Int.sub_eq_add_neg, u16_add, u16_neg]
  apply UInt16.toBitVec_inj.1
  rw [UInt16.toBitVec_add, UInt16.toBitVec_sub, UInt16.toBitVec_neg, BitVec.sub_eq_add_neg]
@[go_sem] theorem u16_lit (k : Nat) : u16 (no_index (OfNat.ofNat k : Int)) = (OfNat.ofNat k : UInt16) := by
  apply UInt16.toBitVec_inj.1
  rw [u16_bv]
  exact BitVec.ofInt_natCast 16 k
@[go_sem] theorem u16_and (x y : Int) : bits .and .u16 x y = n16 (u16 x &&& u16 y) := by
  show IntKind.u16.wrap (((BitVec.ofInt 16 x &&& BitVec.ofInt 16 y).toNat : Nat) : Int) = _
  rw [wrap_u16_any]; exact congrArg n16 (u16_self (u16 x &&& u16 y))
@[go_sem] theorem u16_or (x y : Int) : bits .or .u16 x y = n16 (u16 x ||| u16 y) := by
  show IntKind.u16.wrap (((BitVec.ofInt 16 x ||| BitVec.ofInt 16 y).toNat : Nat) : Int) = _
  rw [wrap_u16_any]; exact congrArg n16 (u16_self (u16 x ||| u16 y))
@[go_sem] theorem u16_xor (x y : Int) : bits .xor .u16 x y = n16 (u16 x ^^^ u16 y) := by
  show IntKind.u16.wrap (((BitVec.ofInt 16 x ^^^ BitVec.ofInt 16 y).toNat : Nat) : Int) = _
  rw [wrap_u16_any]; exact congrArg n16 (u16_self (u16 x ^^^ u16 y))
@[go_sem] theorem u16_andNot (x y : Int) : bits .andNot .u16 x y = n16 (u16 x &&& ~~~(u16 y)) := by
  show IntKind.u16.wrap (((BitVec.ofInt 16 x &&& ~~~BitVec.ofInt 16 y).toNat : Nat) : Int) = _
  rw [wrap_u16_any]; exact congrArg n16 (u16_self (u16 x &&& ~~~(u16 y)))
theorem u16_of_nat (x : Nat) : u16 (x : Int) = UInt16.ofNat x := by
  apply UInt16.toNat_inj.1
  have h1 := n16_u16 (x : Int)
  have h2 : (UInt16.ofNat x).toNat = x % 65536 := BitVec.toNat_ofNat ..
  unfold n16 at h1
  omega
theorem lit_toNat_u16 (k : Nat) (h : k < 65536) : (OfNat.ofNat k : UInt16).toNat = k := by
  show (BitVec.ofNat 16 k).toNat = k
  rw [BitVec.toNat_ofNat]; exact Nat.mod_eq_of_lt h
theorem toNat_shl_u16 (a : UInt16) (k : Nat) (h : k < 16) : (a <<< (OfNat.ofNat k : UInt16)).toNat = a.toNat * 2 ^ k % 65536 := by
  rw [UInt16.toNat_shiftLeft, lit_toNat_u16 k (by omega), Nat.mod_eq_of_lt h, Nat.shiftLeft_eq]
theorem toNat_shr_u16 (a : UInt16) (k : Nat) (h : k < 16) : (a >>> (OfNat.ofNat k : UInt16)).toNat = a.toNat / 2 ^ k := by
  rw [UInt16.toNat_shiftRight, lit_toNat_u16 k (by omega), Nat.mod_eq_of_lt h, Nat.shiftRight_eq_div_pow]
@[go_sem high] theorem shl_u16 (x : Int) (yk : IntKind) (k : Nat) (h : k < 16) : Op.shift .shl .u16 x yk (no_index (OfNat.ofNat k : Int)) = pure (.int .u16 (n16 (u16 x <<< (OfNat.ofNat k : UInt16)))) := by
  have e : ((OfNat.ofNat k : Int)).toNat = k := rfl
  rw [shift_shl_any _ _ _ _ (show (0 : Int) ≤ OfNat.ofNat k from Int.natCast_nonneg k), wrap_u16_any, e, Nat.min_eq_left (by show k ≤ 16; omega)]
  have e2 : (u16 x <<< (OfNat.ofNat k : UInt16)) = u16 (x * 2 ^ k) := by
    apply UInt16.toNat_inj.1
    rw [toNat_shl_u16 _ _ h]
    have h1 := n16_u16 x
    have h2 := n16_u16 (x * 2 ^ k)
    unfold n16 at h1 h2
    have h3 : (((u16 x).toNat * 2 ^ k % 65536 : Nat) : Int) = ((u16 (x * 2 ^ k)).toNat : Int) := by
      rw [h2, Int.natCast_emod, Int.natCast_mul, h1]
      simp [Int.mul_emod]
    exact_mod_cast h3
  rw [e2]
@[go_sem high] theorem shr_u16 (a : UInt16) (yk : IntKind) (k : Nat) (h : k < 16) : Op.shift .shr .u16 (n16 a) yk (no_index (OfNat.ofNat k : Int)) = pure (.int .u16 (n16 (a >>> (OfNat.ofNat k : UInt16)))) := by
  have e : ((OfNat.ofNat k : Int)).toNat = k := rfl
  rw [shift_shr_any _ _ _ _ (show (0 : Int) ≤ OfNat.ofNat k from Int.natCast_nonneg k), e, Nat.min_eq_left (by show k ≤ 16; omega)]
  unfold n16
  rw [toNat_shr_u16 _ _ h]
  simp
@[go_sem high] theorem unary_xor_u16 (x : Int) : Op.unary .xor (.int .u16 x) = pure (.int .u16 (n16 (~~~(u16 x)))) := by
  show Op.intBits .xor .u16 65535 x = _
  show (pure (.int .u16 (IntKind.u16.wrap ((BitVec.ofInt 16 65535 ^^^ BitVec.ofInt 16 x).toNat : Nat))) : Sem Value) = _
  rw [wrap_u16_any]
  have h : BitVec.ofInt 16 65535 = BitVec.allOnes 16 := by decide
  rw [h, BitVec.allOnes_xor]
  exact congrArg (fun t : UInt16 => (pure (.int .u16 (n16 t)) : Sem Value)) (u16_self (~~~(u16 x)))
@[go_sem] theorem u16_tdiv (a : UInt16) (k : Nat) (h : k < 65536) : u16 (Int.tdiv (n16 a) (no_index (OfNat.ofNat k : Int))) = a / (OfNat.ofNat k : UInt16) := by
  apply u16_of
  unfold n16
  rw [UInt16.toNat_div, lit_toNat_u16 k h]
  rfl
@[go_sem] theorem u16_tmod (a : UInt16) (k : Nat) (h : k < 65536) : Int.tmod (n16 a) (no_index (OfNat.ofNat k : Int)) = n16 (a % (OfNat.ofNat k : UInt16)) := by
  unfold n16
  rw [UInt16.toNat_mod, lit_toNat_u16 k h]
  rfl
@[go_sem] theorem beq_u16 (a b : UInt16) : (n16 a == n16 b) = (a == b) := by
  rw [Bool.eq_iff_iff]; simp only [beq_iff_eq]
  exact ⟨fun h => n16_inj h, fun h => by rw [h]⟩
@[go_sem] theorem bne_u16 (a b : UInt16) : (n16 a != n16 b) = (a != b) := by
  show (!(n16 a == n16 b)) = !(a == b)
  rw [beq_u16]
@[go_sem] theorem beq_u16_lit (a : UInt16) (k : Nat) (h : k < 65536) : (n16 a == (no_index (OfNat.ofNat k : Int))) = (a == (OfNat.ofNat k : UInt16)) := by
  rw [← beq_u16]
  congr 1
  unfold n16
  rw [lit_toNat_u16 k h]; rfl
@[go_sem] theorem bne_u16_lit (a : UInt16) (k : Nat) (h : k < 65536) : (n16 a != (no_index (OfNat.ofNat k : Int))) = (a != (OfNat.ofNat k : UInt16)) := by
  show (!(n16 a == (OfNat.ofNat k : Int))) = !(a == (OfNat.ofNat k : UInt16))
  rw [beq_u16_lit a k h]


def n32 (x : UInt32) : Int := (x.toNat : Int)
def u32 (x : Int) : UInt32 := UInt32.ofBitVec (BitVec.ofInt 32 x)
theorem n32_def (x : UInt32) : n32 x = (x.toNat : Int) := rfl
theorem n32_bd (x : UInt32) : 0 ≤ n32 x ∧ n32 x < 4294967296 := by have := x.toNat_lt; unfold n32; omega
theorem n32_toNat (x : UInt32) : (n32 x).toNat = x.toNat := rfl
theorem n32_inj {x y : UInt32} (h : n32 x = n32 y) : x = y := UInt32.toNat_inj.1 (by unfold n32 at h; omega)
@[go_sem] theorem cast_n32 (x : UInt32) : ((x.toNat : Nat) : Int) = n32 x := rfl
theorem n32_u32 (x : Int) : n32 (u32 x) = x % 4294967296 := by
  show ((BitVec.ofInt 32 x).toNat : Int) = _
  rw [BitVec.toNat_ofInt]
  have h : (0 : Int) ≤ x % 4294967296 := Int.emod_nonneg _ (by decide)
  simp [Int.toNat_of_nonneg h]
@[go_sem] theorem wrap_u32_any (e : Int) : IntKind.u32.wrap e = n32 (u32 e) := by
  rw [n32_u32]
  simp [IntKind.wrap, IntKind.bits, IntKind.signed]
@[go_sem] theorem u32_self (x : UInt32) : u32 (n32 x) = x := by
  show UInt32.ofBitVec (BitVec.ofInt 32 (x.toNat : Int)) = x
  rw [BitVec.ofInt_natCast]
  simp
theorem u32_of (x : Int) (y : UInt32) (h : x % 4294967296 = n32 y % 4294967296) : u32 x = y := by
  apply n32_inj; rw [n32_u32, h]; have := n32_bd y; omega
theorem u32_bv (x : Int) : (u32 x).toBitVec = BitVec.ofInt 32 x := rfl
@[go_sem] theorem u32_add (x y : Int) : u32 (x + y) = u32 x + u32 y := by
  apply UInt32.toBitVec_inj.1; rw [UInt32.toBitVec_add, u32_bv, u32_bv, u32_bv, BitVec.ofInt_add]
@[go_sem] theorem u32_mul (x y : Int) : u32 (x * y) = u32 x * u32 y := by
  apply UInt32.toBitVec_inj.1; rw [UInt32.toBitVec_mul, u32_bv, u32_bv, u32_bv, BitVec.ofInt_mul]
@[go_sem] theorem u32_neg (x : Int) : u32 (-x) = -u32 x := by
  apply UInt32.toBitVec_inj.1; rw [UInt32.toBitVec_neg, u32_bv, u32_bv, BitVec.ofInt_neg]
@[go_sem] theorem u32_sub (x y : Int) : u32 (x - y) = u32 x - u32 y := by
  rw [Int.sub_eq_add_neg, u32_add, u32_neg]
  apply UInt32.toBitVec_inj.1
  rw [UInt32.toBitVec_add, UInt32.toBitVec_sub, UInt32.toBitVec_neg, BitVec.sub_eq_add_neg]
@[go_sem] theorem u32_lit (k : Nat) : u32 (no_index (OfNat.ofNat k : Int)) = (OfNat.ofNat k : UInt32) := by
  apply UInt32.toBitVec_inj.1
  rw [u32_bv]
  exact BitVec.ofInt_natCast 32 k
@[go_sem] theorem u32_and (x y : Int) : bits .and .u32 x y = n32 (u32 x &&& u32 y) := by
  show IntKind.u32.wrap (((BitVec.ofInt 32 x &&& BitVec.ofInt 32 y).toNat : Nat) : Int) = _
  rw [wrap_u32_any]; exact congrArg n32 (u32_self (u32 x &&& u32 y))
@[go_sem] theorem u32_or (x y : Int) : bits .or .u32 x y = n32 (u32 x ||| u32 y) := by
  show IntKind.u32.wrap (((BitVec.ofInt 32 x ||| BitVec.ofInt 32 y).toNat : Nat) : Int) = _
  rw [wrap_u32_any]; exact congrArg n32 (u32_self (u32 x ||| u32 y))
@[go_sem] theorem u32_xor (x y : Int) : bits .xor .u32 x y = n32 (u32 x ^^^ u32 y) := by
  show IntKind.u32.wrap (((BitVec.ofInt 32 x ^^^ BitVec.ofInt 32 y).toNat : Nat) : Int) = _
  rw [wrap_u32_any]; exact congrArg n32 (u32_self (u32 x ^^^ u32 y))
@[go_sem] theorem u32_andNot (x y : Int) : bits .andNot .u32 x y = n32 (u32 x &&& ~~~(u32 y)) := by
  show IntKind.u32.wrap (((BitVec.ofInt 32 x &&& ~~~BitVec.ofInt 32 y).toNat : Nat) : Int) = _
  rw [wrap_u32_any]; exact congrArg n32 (u32_self (u32 x &&& ~~~(u32 y)))
theorem u32_of_nat (x : Nat) : u32 (x : Int) = UInt32.ofNat x := by
  apply UInt32.toNat_inj.1
  have h1 := n32_u32 (x : Int)
  have h2 : (UInt32.ofNat x).toNat = x % 4294967296 := BitVec.toNat_ofNat ..
  unfold n32 at h1
  omega
theorem lit_toNat_u32 (k : Nat) (h : k < 4294967296) : (OfNat.ofNat k : UInt32).toNat = k := by
  show (BitVec.ofNat 32 k).toNat = k
  rw [BitVec.toNat_ofNat]; exact Nat.mod_eq_of_lt h
theorem toNat_shl_u32 (a : UInt32) (k : Nat) (h : k < 32) : (a <<< (OfNat.ofNat k : UInt32)).toNat = a.toNat * 2 ^ k % 4294967296 := by
  rw [UInt32.toNat_shiftLeft, lit_toNat_u32 k (by omega), Nat.mod_eq_of_lt h, Nat.shiftLeft_eq]
theorem toNat_shr_u32 (a : UInt32) (k : Nat) (h : k < 32) : (a >>> (OfNat.ofNat k : UInt32)).toNat = a.toNat / 2 ^ k := by
  rw [UInt32.toNat_shiftRight, lit_toNat_u32 k (by omega), Nat.mod_eq_of_lt h, Nat.shiftRight_eq_div_pow]
@[go_sem high] theorem shl_u32 (x : Int) (yk : IntKind) (k : Nat) (h : k < 32) : Op.shift .shl .u32 x yk (no_index (OfNat.ofNat k : Int)) = pure (.int .u32 (n32 (u32 x <<< (OfNat.ofNat k : UInt32)))) := by
  have e : ((OfNat.ofNat k : Int)).toNat = k := rfl
  rw [shift_shl_any _ _ _ _ (show (0 : Int) ≤ OfNat.ofNat k from Int.natCast_nonneg k), wrap_u32_any, e, Nat.min_eq_left (by show k ≤ 32; omega)]
  have e2 : (u32 x <<< (OfNat.ofNat k : UInt32)) = u32 (x * 2 ^ k) := by
    apply UInt32.toNat_inj.1
    rw [toNat_shl_u32 _ _ h]
    have h1 := n32_u32 x
    have h2 := n32_u32 (x * 2 ^ k)
    unfold n32 at h1 h2
    have h3 : (((u32 x).toNat * 2 ^ k % 4294967296 : Nat) : Int) = ((u32 (x * 2 ^ k)).toNat : Int) := by
      rw [h2, Int.natCast_emod, Int.natCast_mul, h1]
      simp [Int.mul_emod]
    exact_mod_cast h3
  rw [e2]
@[go_sem high] theorem shr_u32 (a : UInt32) (yk : IntKind) (k : Nat) (h : k < 32) : Op.shift .shr .u32 (n32 a) yk (no_index (OfNat.ofNat k : Int)) = pure (.int .u32 (n32 (a >>> (OfNat.ofNat k : UInt32)))) := by
  have e : ((OfNat.ofNat k : Int)).toNat = k := rfl
  rw [shift_shr_any _ _ _ _ (show (0 : Int) ≤ OfNat.ofNat k from Int.natCast_nonneg k), e, Nat.min_eq_left (by show k ≤ 32; omega)]
  unfold n32
  rw [toNat_shr_u32 _ _ h]
  simp
@[go_sem high] theorem unary_xor_u32 (x : Int) : Op.unary .xor (.int .u32 x) = pure (.int .u32 (n32 (~~~(u32 x)))) := by
  show Op.intBits .xor .u32 4294967295 x = _
  show (pure (.int .u32 (IntKind.u32.wrap ((BitVec.ofInt 32 4294967295 ^^^ BitVec.ofInt 32 x).toNat : Nat))) : Sem Value) = _
  rw [wrap_u32_any]
  have h : BitVec.ofInt 32 4294967295 = BitVec.allOnes 32 := by decide
  rw [h, BitVec.allOnes_xor]
  exact congrArg (fun t : UInt32 => (pure (.int .u32 (n32 t)) : Sem Value)) (u32_self (~~~(u32 x)))
@[go_sem] theorem u32_tdiv (a : UInt32) (k : Nat) (h : k < 4294967296) : u32 (Int.tdiv (n32 a) (no_index (OfNat.ofNat k : Int))) = a / (OfNat.ofNat k : UInt32) := by
  apply u32_of
  unfold n32
  rw [UInt32.toNat_div, lit_toNat_u32 k h]
  rfl
@[go_sem] theorem u32_tmod (a : UInt32) (k : Nat) (h : k < 4294967296) : Int.tmod (n32 a) (no_index (OfNat.ofNat k : Int)) = n32 (a % (OfNat.ofNat k : UInt32)) := by
  unfold n32
  rw [UInt32.toNat_mod, lit_toNat_u32 k h]
  rfl
@[go_sem] theorem beq_u32 (a b : UInt32) : (n32 a == n32 b) = (a == b) := by
  rw [Bool.eq_iff_iff]; simp only [beq_iff_eq]
  exact ⟨fun h => n32_inj h, fun h => by rw [h]⟩
@[go_sem] theorem bne_u32 (a b : UInt32) : (n32 a != n32 b) = (a != b) := by
  show (!(n32 a == n32 b)) = !(a == b)
  rw [beq_u32]
@[go_sem] theorem beq_u32_lit (a : UInt32) (k : Nat) (h : k < 4294967296) : (n32 a == (no_index (OfNat.ofNat k : Int))) = (a == (OfNat.ofNat k : UInt32)) := by
  rw [← beq_u32]
  congr 1
  unfold n32
  rw [lit_toNat_u32 k h]; rfl
@[go_sem] theorem bne_u32_lit (a : UInt32) (k : Nat) (h : k < 4294967296) : (n32 a != (no_index (OfNat.ofNat k : Int))) = (a != (OfNat.ofNat k : UInt32)) := by
  show (!(n32 a == (OfNat.ofNat k : Int))) = !(a == (OfNat.ofNat k : UInt32))
  rw [beq_u32_lit a k h]


def n64 (x : UInt64) : Int := (x.toNat : Int)
def u64 (x : Int) : UInt64 := UInt64.ofBitVec (BitVec.ofInt 64 x)
theorem n64_def (x : UInt64) : n64 x = (x.toNat : Int) := rfl
theorem n64_bd (x : UInt64) : 0 ≤ n64 x ∧ n64 x < 18446744073709551616 := by have := x.toNat_lt; unfold n64; omega
theorem n64_toNat (x : UInt64) : (n64 x).toNat = x.toNat := rfl
theorem n64_inj {x y : UInt64} (h : n64 x = n64 y) : x = y := UInt64.toNat_inj.1 (by unfold n64 at h; omega)
@[go_sem] theorem cast_n64 (x : UInt64) : ((x.toNat : Nat) : Int) = n64 x := rfl
theorem n64_u64 (x : Int) : n64 (u64 x) = x % 18446744073709551616 := by
  show ((BitVec.ofInt 64 x).toNat : Int) = _
  rw [BitVec.toNat_ofInt]
  have h : (0 : Int) ≤ x % 18446744073709551616 := Int.emod_nonneg _ (by decide)
  simp [Int.toNat_of_nonneg h]
@[go_sem] theorem wrap_u64_any (e : Int) : IntKind.u64.wrap e = n64 (u64 e) := by
  rw [n64_u64]
  simp [IntKind.wrap, IntKind.bits, IntKind.signed]
@[go_sem] theorem u64_self (x : UInt64) : u64 (n64 x) = x := by
  show UInt64.ofBitVec (BitVec.ofInt 64 (x.toNat : Int)) = x
  rw [BitVec.ofInt_natCast]
  simp
theorem u64_of (x : Int) (y : UInt64) (h : x % 18446744073709551616 = n64 y % 18446744073709551616) : u64 x = y := by
  apply n64_inj; rw [n64_u64, h]; have := n64_bd y; omega
theorem u64_bv (x : Int) : (u64 x).toBitVec = BitVec.ofInt 64 x := rfl
@[go_sem] theorem u64_add (x y : Int) : u64 (x + y) = u64 x + u64 y := by
  apply UInt64.toBitVec_inj.1; rw [UInt64.toBitVec_add, u64_bv, u64_bv, u64_bv, BitVec.ofInt_add]
@[go_sem] theorem u64_mul (x y : Int) : u64 (x * y) = u64 x * u64 y := by
  apply UInt64.toBitVec_inj.1; rw [UInt64.toBitVec_mul, u64_bv, u64_bv, u64_bv, BitVec.ofInt_mul]
@[go_sem] theorem u64_neg (x : Int) : u64 (-x) = -u64 x := by
  apply UInt64.toBitVec_inj.1; rw [UInt64.toBitVec_neg, u64_bv, u64_bv, BitVec.ofInt_neg]
@[go_sem] theorem u64_sub (x y : Int) : u64 (x - y) = u64 x - u64 y := by
  rw [Int.sub_eq_add_neg, u64_add, u64_neg]
  apply UInt64.toBitVec_inj.1
  rw [UInt64.toBitVec_add, UInt64.toBitVec_sub, UInt64.toBitVec_neg, BitVec.sub_eq_add_neg]
@[go_sem] theorem u64_lit (k : Nat) : u64 (no_index (OfNat.ofNat k : Int)) = (OfNat.ofNat k : UInt64) := by
  apply UInt64.toBitVec_inj.1
  rw [u64_bv]
  exact BitVec.ofInt_natCast 64 k
@[go_sem] theorem u64_and (x y : Int) : bits .and .u64 x y = n64 (u64 x &&& u64 y) := by
  show IntKind.u64.wrap (((BitVec.ofInt 64 x &&& BitVec.ofInt 64 y).toNat : Nat) : Int) = _
  rw [wrap_u64_any]; exact congrArg n64 (u64_self (u64 x &&& u64 y))
@[go_sem] theorem u64_or (x y : Int) : bits .or .u64 x y = n64 (u64 x ||| u64 y) := by
  show IntKind.u64.wrap (((BitVec.ofInt 64 x ||| BitVec.ofInt 64 y).toNat : Nat) : Int) = _
  rw [wrap_u64_any]; exact congrArg n64 (u64_self (u64 x ||| u64 y))
@[go_sem] theorem u64_xor (x y : Int) : bits .xor .u64 x y = n64 (u64 x ^^^ u64 y) := by
  show IntKind.u64.wrap (((BitVec.ofInt 64 x ^^^ BitVec.ofInt 64 y).toNat : Nat) : Int) = _
  rw [wrap_u64_any]; exact congrArg n64 (u64_self (u64 x ^^^ u64 y))
@[go_sem] theorem u64_andNot (x y : Int) : bits .andNot .u64 x y = n64 (u64 x &&& ~~~(u64 y)) := by
  show IntKind.u64.wrap (((BitVec.ofInt 64 x &&& ~~~BitVec.ofInt 64 y).toNat : Nat) : Int) = _
  rw [wrap_u64_any]; exact congrArg n64 (u64_self (u64 x &&& ~~~(u64 y)))
theorem u64_of_nat (x : Nat) : u64 (x : Int) = UInt64.ofNat x := by
  apply UInt64.toNat_inj.1
  have h1 := n64_u64 (x : Int)
  have h2 : (UInt64.ofNat x).toNat = x % 18446744073709551616 := BitVec.toNat_ofNat ..
  unfold n64 at h1
  omega
theorem lit_toNat_u64 (k : Nat) (h : k < 18446744073709551616) : (OfNat.ofNat k : UInt64).toNat = k := by
  show (BitVec.ofNat 64 k).toNat = k
  rw [BitVec.toNat_ofNat]; exact Nat.mod_eq_of_lt h
theorem toNat_shl_u64 (a : UInt64) (k : Nat) (h : k < 64) : (a <<< (OfNat.ofNat k : UInt64)).toNat = a.toNat * 2 ^ k % 18446744073709551616 := by
  rw [UInt64.toNat_shiftLeft, lit_toNat_u64 k (by omega), Nat.mod_eq_of_lt h, Nat.shiftLeft_eq]
theorem toNat_shr_u64 (a : UInt64) (k : Nat) (h : k < 64) : (a >>> (OfNat.ofNat k : UInt64)).toNat = a.toNat / 2 ^ k := by
  rw [UInt64.toNat_shiftRight, lit_toNat_u64 k (by omega), Nat.mod_eq_of_lt h, Nat.shiftRight_eq_div_pow]
@[go_sem high] theorem shl_u64 (x : Int) (yk : IntKind) (k : Nat) (h : k < 64) : Op.shift .shl .u64 x yk (no_index (OfNat.ofNat k : Int)) = pure (.int .u64 (n64 (u64 x <<< (OfNat.ofNat k : UInt64)))) := by
  have e : ((OfNat.ofNat k : Int)).toNat = k := rfl
  rw [shift_shl_any _ _ _ _ (show (0 : Int) ≤ OfNat.ofNat k from Int.natCast_nonneg k), wrap_u64_any, e, Nat.min_eq_left (by show k ≤ 64; omega)]
  have e2 : (u64 x <<< (OfNat.ofNat k : UInt64)) = u64 (x * 2 ^ k) := by
    apply UInt64.toNat_inj.1
    rw [toNat_shl_u64 _ _ h]
    have h1 := n64_u64 x
    have h2 := n64_u64 (x * 2 ^ k)
    unfold n64 at h1 h2
    have h3 : (((u64 x).toNat * 2 ^ k % 18446744073709551616 : Nat) : Int) = ((u64 (x * 2 ^ k)).toNat : Int) := by
      rw [h2, Int.natCast_emod, Int.natCast_mul, h1]
      simp [Int.mul_emod]
    exact_mod_cast h3
  rw [e2]
@[go_sem high] theorem shr_u64 (a : UInt64) (yk : IntKind) (k : Nat) (h : k < 64) : Op.shift .shr .u64 (n64 a) yk (no_index (OfNat.ofNat k : Int)) = pure (.int .u64 (n64 (a >>> (OfNat.ofNat k : UInt64)))) := by
  have e : ((OfNat.ofNat k : Int)).toNat = k := rfl
  rw [shift_shr_any _ _ _ _ (show (0 : Int) ≤ OfNat.ofNat k from Int.natCast_nonneg k), e, Nat.min_eq_left (by show k ≤ 64; omega)]
  unfold n64
  rw [toNat_shr_u64 _ _ h]
  simp
@[go_sem high] theorem unary_xor_u64 (x : Int) : Op.unary .xor (.int .u64 x) = pure (.int .u64 (n64 (~~~(u64 x)))) := by
  show Op.intBits .xor .u64 18446744073709551615 x = _
  show (pure (.int .u64 (IntKind.u64.wrap ((BitVec.ofInt 64 18446744073709551615 ^^^ BitVec.ofInt 64 x).toNat : Nat))) : Sem Value) = _
  rw [wrap_u64_any]
  have h : BitVec.ofInt 64 18446744073709551615 = BitVec.allOnes 64 := by decide
  rw [h, BitVec.allOnes_xor]
  exact congrArg (fun t : UInt64 => (pure (.int .u64 (n64 t)) : Sem Value)) (u64_self (~~~(u64 x)))
@[go_sem] theorem u64_tdiv (a : UInt64) (k : Nat) (h : k < 18446744073709551616) : u64 (Int.tdiv (n64 a) (no_index (OfNat.ofNat k : Int))) = a / (OfNat.ofNat k : UInt64) := by
  apply u64_of
  unfold n64
  rw [UInt64.toNat_div, lit_toNat_u64 k h]
  rfl
@[go_sem] theorem u64_tmod (a : UInt64) (k : Nat) (h : k < 18446744073709551616) : Int.tmod (n64 a) (no_index (OfNat.ofNat k : Int)) = n64 (a % (OfNat.ofNat k : UInt64)) := by
  unfold n64
  rw [UInt64.toNat_mod, lit_toNat_u64 k h]
  rfl
@[go_sem] theorem beq_u64 (a b : UInt64) : (n64 a == n64 b) = (a == b) := by
  rw [Bool.eq_iff_iff]; simp only [beq_iff_eq]
  exact ⟨fun h => n64_inj h, fun h => by rw [h]⟩
@[go_sem] theorem bne_u64 (a b : UInt64) : (n64 a != n64 b) = (a != b) := by
  show (!(n64 a == n64 b)) = !(a == b)
  rw [beq_u64]
@[go_sem] theorem beq_u64_lit (a : UInt64) (k : Nat) (h : k < 18446744073709551616) : (n64 a == (no_index (OfNat.ofNat k : Int))) = (a == (OfNat.ofNat k : UInt64)) := by
  rw [← beq_u64]
  congr 1
  unfold n64
  rw [lit_toNat_u64 k h]; rfl
@[go_sem] theorem bne_u64_lit (a : UInt64) (k : Nat) (h : k < 18446744073709551616) : (n64 a != (no_index (OfNat.ofNat k : Int))) = (a != (OfNat.ofNat k : UInt64)) := by
  show (!(n64 a == (OfNat.ofNat k : Int))) = !(a == (OfNat.ofNat k : UInt64))
  rw [beq_u64_lit a k h]

@[go_sem] theorem u16_of_u8 (x : UInt8) : u16 (n8 x) = x.toUInt16 := by
  apply u16_of
  unfold n8 n16
  rw [UInt8.toNat_toUInt16]
@[go_sem] theorem u32_of_u8 (x : UInt8) : u32 (n8 x) = x.toUInt32 := by
  apply u32_of
  unfold n8 n32
  rw [UInt8.toNat_toUInt32]
@[go_sem] theorem u64_of_u8 (x : UInt8) : u64 (n8 x) = x.toUInt64 := by
  apply u64_of
  unfold n8 n64
  rw [UInt8.toNat_toUInt64]
@[go_sem] theorem i16_of_u8 (x : UInt8) : IntKind.i16.wrap (n8 x) = n8 x := by
  have := n8_bd x
  exact IntWalk.i16_in _ (by omega)
@[go_sem] theorem i32_of_u8 (x : UInt8) : IntKind.i32.wrap (n8 x) = n8 x := by
  have := n8_bd x
  exact IntWalk.i32_in _ (by omega)
@[go_sem] theorem i64_of_u8 (x : UInt8) : IntKind.i64.wrap (n8 x) = n8 x := by
  have := n8_bd x
  exact IntWalk.i64_in _ (by omega)
@[go_sem] theorem u8_of_u16 (x : UInt16) : u8 (n16 x) = x.toUInt8 := by
  apply u8_of
  unfold n16 n8
  rw [UInt16.toNat_toUInt8]
  try omega
@[go_sem] theorem u32_of_u16 (x : UInt16) : u32 (n16 x) = x.toUInt32 := by
  apply u32_of
  unfold n16 n32
  rw [UInt16.toNat_toUInt32]
@[go_sem] theorem u64_of_u16 (x : UInt16) : u64 (n16 x) = x.toUInt64 := by
  apply u64_of
  unfold n16 n64
  rw [UInt16.toNat_toUInt64]
@[go_sem] theorem i32_of_u16 (x : UInt16) : IntKind.i32.wrap (n16 x) = n16 x := by
  have := n16_bd x
  exact IntWalk.i32_in _ (by omega)
@[go_sem] theorem i64_of_u16 (x : UInt16) : IntKind.i64.wrap (n16 x) = n16 x := by
  have := n16_bd x
  exact IntWalk.i64_in _ (by omega)
@[go_sem] theorem u8_of_u32 (x : UInt32) : u8 (n32 x) = x.toUInt8 := by
  apply u8_of
  unfold n32 n8
  rw [UInt32.toNat_toUInt8]
  try omega
@[go_sem] theorem u16_of_u32 (x : UInt32) : u16 (n32 x) = x.toUInt16 := by
  apply u16_of
  unfold n32 n16
  rw [UInt32.toNat_toUInt16]
  try omega
@[go_sem] theorem u64_of_u32 (x : UInt32) : u64 (n32 x) = x.toUInt64 := by
  apply u64_of
  unfold n32 n64
  rw [UInt32.toNat_toUInt64]
@[go_sem] theorem i64_of_u32 (x : UInt32) : IntKind.i64.wrap (n32 x) = n32 x := by
  have := n32_bd x
  exact IntWalk.i64_in _ (by omega)
@[go_sem] theorem u8_of_u64 (x : UInt64) : u8 (n64 x) = x.toUInt8 := by
  apply u8_of
  unfold n64 n8
  rw [UInt64.toNat_toUInt8]
  try omega
@[go_sem] theorem u16_of_u64 (x : UInt64) : u16 (n64 x) = x.toUInt16 := by
  apply u16_of
  unfold n64 n16
  rw [UInt64.toNat_toUInt16]
  try omega
@[go_sem] theorem u32_of_u64 (x : UInt64) : u32 (n64 x) = x.toUInt32 := by
  apply u32_of
  unfold n64 n32
  rw [UInt64.toNat_toUInt32]
  try omega
end Go.Cv
end
section
/-
  Words and laws on slices that read as lists, used by all walks of this family.
-/
set_option linter.unusedSimpArgs false
set_option linter.unusedVariables false
namespace Go.Cv
open Go.RowKit

theorem add_block (a : Addr) (n : Nat) : (a.add n).block = a.block := by unfold Addr.add; split <;> rfl
theorem add_add (a : Addr) (i j : Nat) : (a.add i).add j = a.add (i + j) := by
  unfold Addr.add
  by_cases hi : i = 0 <;> by_cases hj : j = 0 <;> simp [hi, hj, Nat.add_assoc]

/-- A byte in a cell. -/
@[reducible] def bv (b : UInt8) : Value := .int .u8 (n8 b)

/-- The address A leads to cells that hold xs. -/
def Rd (w : World) (A : Option Addr) (xs : List Value) : Prop :=
  ∀ k v, xs[k]? = some v → ∃ ad, A = some ad ∧ w.cell? (ad.add k) = some v

/-- The world has only grown. -/
@[reducible] def Ext (w w' : World) : Prop := Below w.heap.size w w'
theorem Ext.refl (w : World) : Ext w w := Below.refl _ _
theorem Ext.trans {a b c : World} (h : Ext a b) (k : Ext b c) : Ext a c := Below.trans h (Below.mono k h.size)
theorem Ext.drewN {a b : World} (h : Ext a b) (n : Nat) : Ext a (b.drewN n) := ⟨h.os, h.tape, h.output, h.size, h.block⟩

theorem Ext.cell {w w' : World} (h : Ext w w') {p : Addr} {v : Value} (hc : w.cell? p = some v) : w'.cell? p = some v :=
  (Below.cell h (World.block_lt_of_cell? w p hc)).trans hc

section
variable {w w' : World} {A : Option Addr} {xs ys : List Value}
theorem Rd.nil_ : Rd w A [] := fun _ _ h => by simp at h
theorem Rd.ext (h : Rd w A xs) (he : Ext w w') : Rd w' A xs := fun k v hv => by
  obtain ⟨ad, e, hc⟩ := h k v hv
  exact ⟨ad, e, he.cell hc⟩
theorem Rd.drew (h : Rd w A xs) : Rd w.drew A xs := h
theorem Rd.drewN (h : Rd w A xs) (k : Nat) : Rd (w.drewN k) A xs := h
theorem Rd.alloc (h : Rd w A xs) (o : Obj) : Rd (w.alloc o) A xs := h.ext ((Below.refl _ _).alloc (Nat.le_refl _) o)
theorem Rd.some_ (h : Rd w A xs) (hx : 0 < xs.length) : ∃ ad, A = some ad ∧ ad.block < w.heap.size := by
  obtain ⟨ad, e, hc⟩ := h 0 xs[0] (by simp)
  exact ⟨ad, e, by have := World.block_lt_of_cell? w _ hc; rwa [add_block] at this⟩
theorem Rd.at_ (h : Rd w A xs) {k : Nat} (hk : k < xs.length) : ∃ ad, A = some ad ∧ w.cell? (ad.add k) = some xs[k] := h k _ (List.getElem?_eq_getElem hk)
theorem Rd.take (h : Rd w A xs) (n : Nat) : Rd w A (xs.take n) := fun k v hv => h k v (by
  rw [List.getElem?_take] at hv
  split at hv
  · exact hv
  · cases hv)
theorem Rd.drop (h : Rd w A xs) (n : Nat) : Rd w (A.map (·.add n)) (xs.drop n) := fun k v hv => by
  rw [List.getElem?_drop] at hv
  obtain ⟨ad, rfl, hc⟩ := h _ _ hv
  exact ⟨ad.add n, rfl, by rw [add_add]; exact hc⟩
/-- A slice's beginning moved to place l, the capacity being m. -/
theorem Rd.cut (h : Rd w A xs) {l m : Nat} (hl : xs.length ≤ m) : Rd w (if m = l then A else A.map (·.add l)) (xs.drop l) := by
  split
  · rename_i e
    have : xs.drop l = [] := List.drop_eq_nil_of_le (by omega)
    rw [this]; exact Rd.nil_
  · exact h.drop l
/-- The address of a slice's part from place l on, under a capacity m, the elements taking s cells each. -/
def cutA (A : Option Addr) (l m s : Nat) : Option Addr := if m = l then A else A.map (·.add (l * s))
theorem Rd.cutA_ (h : Rd w A xs) {l m : Nat} (hl : xs.length ≤ m) : Rd w (cutA A l m 1) (xs.drop l) := by
  unfold cutA
  split
  · rename_i e
    have : xs.drop l = [] := List.drop_eq_nil_of_le (by omega)
    rw [this]; exact Rd.nil_
  · rw [Nat.mul_one]; exact h.drop l
theorem Rd.of_own {base : Nat} {e : TypeId} {n c : Nat} (h : w.ownsRow base e 1 (.slice A n c) n xs) : Rd w A xs := fun k v hv => by
  have hl := h.1
  have hk : k < xs.length := by
    rcases Nat.lt_or_ge k xs.length with h0 | h0
    · exact h0
    · rw [List.getElem?_eq_none h0] at hv; cases hv
  obtain ⟨g, cap, hv2, _, hlt⟩ := h.form (by omega)
  have hA : A = some ⟨g, 0, none⟩ := by injection hv2
  subst hA
  exact ⟨_, rfl, h.cells (g := g) rfl k v hv⟩
theorem Rd.of_cells {ad : Addr} (h : ∀ j u, xs[j]? = some u → w.cell? (ad.add j) = some u) : Rd w (some ad) xs := fun k v hv => ⟨ad, rfl, h k v hv⟩
end

@[go_sem ↓ high] theorem sliced_cutA (a : Option Addr) (l h m s : Nat) : sliced a l h m s = .slice (cutA a l m s) (h - l) (m - l) := rfl
@[go_sem] theorem cutA_zero (a : Option Addr) (m s : Nat) : cutA a 0 m s = a := by
  unfold cutA
  split
  · rfl
  · rw [Nat.zero_mul]
    cases a <;> rfl
attribute [go_sem] Nat.add_sub_cancel_left
theorem one_map_bv (l : List UInt8) : ∀ u ∈ l.map bv, u.oneCell' = true := by
  intro u hu
  obtain ⟨b, _, rfl⟩ := List.mem_map.1 hu
  rfl

/-- An address that is new differs from one whose cell was there. -/
theorem ext_alloc (w : World) (o : Obj) : Ext w (w.alloc o) := (Below.refl _ _).alloc (Nat.le_refl _) o
theorem ext_drew (w : World) : Ext w w.drew := (Below.refl _ _).drew

/-- 'append(own row, what is read)'. -/
theorem run_append_rd {P : Program} (w : World) (base : Nat) (t ty e : TypeId) (i : TypeInfo) (z : Value) (bytes : Nat) (ht : P.underlying t = some (.slice e)) (hi : P.info? e = some i) (hz : i.zero = some z)
    (hsize : i.size = 1) (hby : i.bytes = bytes) (hzs : z.cells.size = 1)
    (v : Value) (n : Nat) (xs : List Value) (hown : w.ownsRow base e 1 v n xs)
    (A : Option Addr) (m c : Nat) (news : List Value) (hm : news.length = m) (hr : Rd w A news) (h1 : ∀ u ∈ news, u.oneCell' = true)
    (h63 : n + m ≤ maxLen) (hbytes : (n + m) * bytes ≤ 140737488355328) (hbase : base ≤ w.heap.size) :
    ∃ v' w', (Builtin.append_ #[t, t] ty #[v, .slice A m c]).run P w = .ok v' w' ∧ w'.ownsRow base e 1 v' (n + m) (xs ++ news) ∧ w.grownBy w' v.ownBlock ∧
      (v'.ownBlock = v.ownBlock ∨ v'.ownBlock = some w.heap.size) := by
  subst hm
  rcases A with _ | ad
  · have hn : news = [] := by
      rcases news with _ | ⟨x, r⟩
      · rfl
      · obtain ⟨ad, h, _⟩ := hr 0 x rfl
        cases h
    subst hn
    refine ⟨v, w, ?_, by simpa using hown, World.grownBy.refl w _, .inl rfl⟩
    rcases hown.2 with ⟨rfl, rfl⟩ | ⟨g, cap, cur, rfl, _, _, hnc, _⟩
    · simp [Builtin.append_, run_underlying ht, sizeOf, typeInfo, hi, Builtin.lenOf, Builtin.firstCells]
    · simp [Builtin.append_, run_underlying ht, sizeOf, typeInfo, hi, Builtin.lenOf, Builtin.firstCells, hnc, storeCells]
  · have hcells : ∀ j u, news[j]? = some u → w.cell? (ad.add j) = some u := fun j u hu => by
      obtain ⟨ad', h, hc⟩ := hr j u hu
      injection h with h
      subst h
      exact hc
    obtain ⟨v', w', hrun, h2, h3, _, h5⟩ := run_append_own_at (P := P) w base t ty e i z 1 bytes ht hi hz hsize hby hzs (by omega) v n xs hown ad news.length c news (by simp) hcells h1 h63 hbytes hbase
    exact ⟨v', w', hrun, h2, h3, h5⟩

theorem wp_append_rd {P : Program} (w : World) {o : Oper} {a : Act} {K : Act → World → Prop} {Q : Exit → Act → World → Prop} (s x : Operand) (t : TypeId)
    (ho : o.op = .call { callee := .builtin .append, args := #[s, x], argTypes := #[t, t] })
    (base : Nat) (e : TypeId) (i : TypeInfo) (z : Value) (bytes : Nat) (ht : P.underlying t = some (.slice e)) (hi : P.info? e = some i) (hz : i.zero = some z)
    (hsize : i.size = 1) (hby : i.bytes = bytes) (hzs : z.cells.size = 1)
    (v : Value) (n : Nat) (xs : List Value) (hs : a.eval s = v) (hown : w.ownsRow base e 1 v n xs)
    (A : Option Addr) (m c : Nat) (news : List Value) (hx : a.eval x = .slice A m c) (hm : news.length = m) (hr : Rd w A news) (h1 : ∀ u ∈ news, u.oneCell' = true)
    (h63 : n + m ≤ maxLen) (hbytes : (n + m) * bytes ≤ 140737488355328) (hbase : base ≤ w.heap.size)
    (h : ∀ v' w', w'.ownsRow base e 1 v' (n + m) (xs ++ news) → w.grownBy w' v.ownBlock → (v'.ownBlock = v.ownBlock ∨ v'.ownBlock = some w.heap.size) → K (a.put o.dst v') w') : o.wp P a w K Q := by
  obtain ⟨v', w', hrun, h2, h3, h4⟩ := run_append_rd (P := P) w base t o.type e i z bytes ht hi hz hsize hby hzs v n xs hown A m c news hm hr h1 h63 hbytes hbase
  unfold Oper.wp execOp
  simp only [ho, resolve, invoke, builtin, Sem.run_bind, Sem.run_pure, Result.andThen_ok, List.map_toArray, List.map_cons, List.map_nil, hs, hx, hrun]
  exact h v' w' h2 h3 h4

theorem run_firstCells_rd {P : Program} (w : World) (size n c : Nat) (hs : size = 1) (A : Option Addr) (xs : List Value) (hn : xs.length = n) (h : Rd w A xs) :
    (Builtin.firstCells size n (.slice A n c)).run P w = .ok xs.toArray w := by
  subst hs
  rcases A with _ | ad
  · have hx : xs = [] := by
      rcases xs with _ | ⟨x, r⟩
      · rfl
      · obtain ⟨ad, h', _⟩ := h 0 x rfl
        cases h'
    subst hx
    simp [Builtin.firstCells]
  · exact run_firstCells_some (P := P) w 1 n ad n c xs (by omega) fun j u hu => by
      obtain ⟨ad', h', hc⟩ := h j u hu
      injection h' with h'
      subst h'
      exact hc

/-- 'append(what is read and has no room, what is read)': a new row. -/
theorem run_append_new {P : Program} (w : World) (t ty e : TypeId) (i : TypeInfo) (z : Value) (bytes : Nat) (ht : P.underlying t = some (.slice e)) (hi : P.info? e = some i) (hz : i.zero = some z)
    (hsize : i.size = 1) (hby : i.bytes = bytes) (hzs : z.cells.size = 1)
    (A : Option Addr) (n c : Nat) (xs : List Value) (hn : xs.length = n) (hx : Rd w A xs)
    (B : Option Addr) (m d : Nat) (news : List Value) (hm : news.length = m) (hr : Rd w B news) (hroom : c < n + m)
    (h63 : n + m ≤ maxLen) (hbytes : (n + m) * bytes ≤ 140737488355328) :
    ∃ v' w', (Builtin.append_ #[t, t] ty #[.slice A n c, .slice B m d]).run P w = .ok v' w' ∧ w'.ownsRow w.heap.size e 1 v' (n + m) (xs ++ news) ∧ Ext w w' ∧
      v'.ownBlock = some w.heap.size := by
  have hn' : ¬ (n + m ≤ c) := by omega
  have h63a : n + m ≤ 9223372036854775807 := by simp only [maxLen] at h63; omega
  have h63' : ¬ (9223372036854775807 < ((n : Int) + (m : Int))) := by omega
  have h48' : ¬ (281474976710656 < Builtin.nextslicecap (n + m) c * i.bytes) := by
    have := growslice_fits (need := n + m) (old := c) (bytes := i.bytes) hroom (by rw [hby]; exact hbytes)
    omega
  have hfo := run_firstCells_rd (P := P) w.drew i.size n c hsize A xs hn hx.drew
  have hf := run_firstCells_rd (P := P) w.drew i.size m d hsize B news hm hr.drew
  have hlen : (xs ++ news).length = (n + m) * 1 := by simp [hn, hm]
  refine ⟨.slice (some ⟨w.heap.size, 0, none⟩) (n + m) (grownCap w (n + m) c e), w.drew.alloc (.cells ((xs ++ news).toArray ++ Builtin.zeroCells z.cells (grownCap w (n + m) c e - (n + m))) e), ?_, ?_, ?_, rfl⟩
  · simp [Builtin.append_, run_underlying ht, sizeOf, typeInfo, zeroValue, hi, hz, Builtin.lenOf, hn', h63', h48', Question.forced, hf, hfo, newRow, grownCap]
    rw [← List.append_toArray, Array.append_assoc]
  · have hge := grownCap_ge w (n + m) c e
    have hcm : grownCap w (n + m) c e ≤ maxLen := grownCap_le_maxLen w (n + m) c e h63
    refine ⟨hlen, .inr ⟨w.heap.size, _, _, rfl, Nat.le_refl _, heap_alloc_new w.drew _, hge, hcm, ?_, ?_⟩⟩
    · simp only [Array.size_append, List.size_toArray, size_zeroCells, hzs, hn, hm]
      omega
    · simp only [Array.toList_append]
      rw [← hlen]
      exact List.take_left
  · exact (ext_drew w).alloc (by simp) _

theorem wp_append_new {P : Program} (w : World) {o : Oper} {a : Act} {K : Act → World → Prop} {Q : Exit → Act → World → Prop} (s x : Operand) (t : TypeId)
    (ho : o.op = .call { callee := .builtin .append, args := #[s, x], argTypes := #[t, t] })
    (e : TypeId) (i : TypeInfo) (z : Value) (bytes : Nat) (ht : P.underlying t = some (.slice e)) (hi : P.info? e = some i) (hz : i.zero = some z)
    (hsize : i.size = 1) (hby : i.bytes = bytes) (hzs : z.cells.size = 1)
    (A : Option Addr) (n c : Nat) (xs : List Value) (hs : a.eval s = .slice A n c) (hn : xs.length = n) (hxs : Rd w A xs)
    (B : Option Addr) (m d : Nat) (news : List Value) (hx : a.eval x = .slice B m d) (hm : news.length = m) (hr : Rd w B news) (hroom : c < n + m)
    (h63 : n + m ≤ maxLen) (hbytes : (n + m) * bytes ≤ 140737488355328)
    (h : ∀ v' w', w'.ownsRow w.heap.size e 1 v' (n + m) (xs ++ news) → Ext w w' → v'.ownBlock = some w.heap.size → K (a.put o.dst v') w') : o.wp P a w K Q := by
  obtain ⟨v', w', hrun, h2, h3, h4⟩ := run_append_new (P := P) w t o.type e i z bytes ht hi hz hsize hby hzs A n c xs hn hxs B m d news hm hr hroom h63 hbytes
  unfold Oper.wp execOp
  simp only [ho, resolve, invoke, builtin, Sem.run_bind, Sem.run_pure, Result.andThen_ok, List.map_toArray, List.map_cons, List.map_nil, hs, hx, hrun]
  exact h v' w' h2 h3 h4

theorem own_base {w : World} {base base' : Nat} {e : TypeId} {s n : Nat} {v : Value} {xs : List Value} (h : w.ownsRow base e s v n xs) (hb : base' ≤ base) : w.ownsRow base' e s v n xs := by
  refine ⟨h.1, ?_⟩
  rcases h.2 with h2 | ⟨g, cap, cur, hv, hg, r⟩
  · exact .inl h2
  · exact .inr ⟨g, cap, cur, hv, by omega, r⟩
theorem own_len {w : World} {base : Nat} {e : TypeId} {s n m : Nat} {v : Value} {xs : List Value} (h : w.ownsRow base e s v n xs) (hn : n = m) : w.ownsRow base e s v m xs := hn ▸ h
theorem own_ext {w w' : World} {base : Nat} {e : TypeId} {s n : Nat} {v : Value} {xs : List Value} (h : w.ownsRow base e s v n xs) (hx : Ext w w') : w'.ownsRow base e s v n xs := by
  refine ⟨h.1, ?_⟩
  rcases h.2 with h2 | ⟨g, cap, cur, hv, hg, hgg, r⟩
  · exact .inl h2
  · exact .inr ⟨g, cap, cur, hv, hg, (hx.block g (Array.getElem?_eq_some_iff.1 hgg).1).trans hgg, r⟩
theorem own_fresh {w : World} {base : Nat} {e : TypeId} {s n c : Nat} {A : Option Addr} {xs : List Value} (h : w.ownsRow base e s (.slice A n c) n xs) : ∀ ad, A = some ad → base ≤ ad.block :=
  fun ad ha => (h.lt ad.block (by rw [ha]; rfl)).1
theorem rd_new_one (w : World) (v : Value) (t : TypeId) : Rd (w.alloc (.cells #[v] t)) (some ⟨w.heap.size, 0, none⟩) [v] := Rd.of_cells (cell_one_new w v t)
theorem one_slice (A : Option Addr) (n c : Nat) : ∀ u ∈ [Value.slice A n c], u.oneCell' = true := by
  intro u hu
  rw [List.mem_singleton.1 hu]; rfl
theorem ext_grown {w w' w'' : World} {base : Nat} {e : TypeId} {s n : Nat} {v : Value} {xs : List Value} (h : Ext w w') (ho : w'.ownsRow base e s v n xs) (hb : w.heap.size ≤ base) (hg : w'.grownBy w'' v.ownBlock) : Ext w w'' :=
  Below.grown h hg h.size fun k hk => Nat.le_trans hb (ho.lt k hk).1

theorem own_form {w : World} {base : Nat} {e : TypeId} {v : Value} {n : Nat} {xs : List Value} (h : w.ownsRow base e 1 v n xs) :
    ∃ A c, v = .slice A n c ∧ n ≤ c ∧ c ≤ maxLen ∧ Rd w A xs ∧ xs.length = n := by
  have hl := h.1
  rcases h.2 with ⟨rfl, rfl⟩ | ⟨g, cap, cur, rfl, _, _, hnc, hcm, _⟩
  · have : xs = [] := List.eq_nil_of_length_eq_zero (by omega)
    subst this
    exact ⟨none, 0, rfl, Nat.le_refl _, Nat.zero_le _, Rd.nil_, rfl⟩
  · exact ⟨_, cap, rfl, hnc, hcm, Rd.of_own h, by omega⟩

/-- The slice type t has one-cell elements of type e, of so many bytes. -/
def RowT (P : Program) (t e : TypeId) (bytes : Nat) : Prop :=
  P.underlying t = some (.slice e) ∧ ∃ z i, P.info? e = some i ∧ i.zero = some z ∧ i.size = 1 ∧ i.bytes = bytes ∧ z.cells.size = 1
theorem RowT.of {P : Program} {t e : TypeId} {z : Value} {bytes : Nat} (ht : P.underlying t = some (.slice e)) (h : (P.info? e).map (fun i => (i.zero, i.size, i.bytes)) = some (some z, 1, bytes)) (hz : z.cells.size = 1) : RowT P t e bytes := by
  obtain ⟨i, h1, h2, h3, h4⟩ := info_parts h
  exact ⟨ht, z, i, h1, h2, h3, h4, hz⟩

section
variable {P : Program} {w : World} {ops : Array Oper} {rest : List Oper} {o : Oper} {a : Act} {K : Act → World → Prop} {Q : Exit → Act → World → Prop}
/-- 'append(a row of the call's own, what is read)'. -/
theorem wp_app (s x : Operand) (t e : TypeId) (bytes : Nat)
    (ho : o.op = .call { callee := .builtin .append, args := #[s, x], argTypes := #[t, t] }) (hT : RowT P t e bytes)
    (base : Nat) (v : Value) (n : Nat) (xs : List Value) (hs : a.eval s = v) (hown : w.ownsRow base e 1 v n xs)
    (A : Option Addr) (m c : Nat) (news : List Value) (hx : a.eval x = .slice A m c) (hm : news.length = m) (hr : Rd w A news) (h1 : ∀ u ∈ news, u.oneCell' = true)
    (h63 : n + m ≤ maxLen) (hbytes : (n + m) * bytes ≤ 140737488355328) (hbase : base ≤ w.heap.size)
    (h : ∀ A' c' w', w'.ownsRow base e 1 (.slice A' (n + m) c') (n + m) (xs ++ news) → n + m ≤ c' → c' ≤ maxLen → Rd w' A' (xs ++ news) → (∀ W, Ext W w → W.heap.size ≤ base → Ext W w') → w.grownBy w' v.ownBlock → K (a.put o.dst (.slice A' (n + m) c')) w') : o.wp P a w K Q := by
  obtain ⟨ht, z, i, hi, hz, hsize, hby, hzs⟩ := hT
  refine wp_append_rd w s x t ho base e i z bytes ht hi hz hsize hby hzs v n xs hs hown A m c news hx hm hr h1 h63 hbytes hbase fun v' w' h2 h3 h4 => ?_
  obtain ⟨A', c', rfl, hc, hcm, hr', _⟩ := own_form h2
  exact h A' c' w' h2 hc hcm hr' (fun W hW hWb => ext_grown hW hown hWb h3) h3
theorem wpList_app (hgd : o.guard = none) (s x : Operand) (t e : TypeId) (bytes : Nat)
    (ho : o.op = .call { callee := .builtin .append, args := #[s, x], argTypes := #[t, t] }) (hT : RowT P t e bytes)
    (base : Nat) (v : Value) (n : Nat) (xs : List Value) (hs : a.eval s = v) (hown : w.ownsRow base e 1 v n xs)
    (A : Option Addr) (m c : Nat) (news : List Value) (hx : a.eval x = .slice A m c) (hm : news.length = m) (hr : Rd w A news) (h1 : ∀ u ∈ news, u.oneCell' = true)
    (h63 : n + m ≤ maxLen) (hbytes : (n + m) * bytes ≤ 140737488355328) (hbase : base ≤ w.heap.size)
    (h : ∀ A' c' w', w'.ownsRow base e 1 (.slice A' (n + m) c') (n + m) (xs ++ news) → n + m ≤ c' → c' ≤ maxLen → Rd w' A' (xs ++ news) → (∀ W, Ext W w → W.heap.size ≤ base → Ext W w') → w.grownBy w' v.ownBlock → wpList P ops Q rest (a.put o.dst (.slice A' (n + m) c')) w') : wpList P ops Q (o :: rest) a w :=
  wpList_plain hgd fun _ hK => wp_app s x t e bytes ho hT base v n xs hs hown A m c news hx hm hr h1 h63 hbytes hbase fun A' c' w' h2 h3 h4 h5 h6 h7 => hK _ _ (h A' c' w' h2 h3 h4 h5 h6 h7)
theorem step_app {E : Prop} (hgd : o.guard = none) (s x : Operand) (t e : TypeId) (bytes : Nat)
    (ho : o.op = .call { callee := .builtin .append, args := #[s, x], argTypes := #[t, t] }) (hT : RowT P t e bytes)
    (base : Nat) (v : Value) (n : Nat) (xs : List Value) (hs : a.eval s = v) (hown : w.ownsRow base e 1 v n xs)
    (A : Option Addr) (m c : Nat) (news : List Value) (hx : a.eval x = .slice A m c) (hm : news.length = m) (hr : Rd w A news) (h1 : ∀ u ∈ news, u.oneCell' = true)
    (h63 : n + m ≤ maxLen) (hbytes : (n + m) * bytes ≤ 140737488355328) (hbase : base ≤ w.heap.size)
    (h : ∀ A' c' w', w'.ownsRow base e 1 (.slice A' (n + m) c') (n + m) (xs ++ news) → n + m ≤ c' → c' ≤ maxLen → Rd w' A' (xs ++ news) → (∀ W, Ext W w → W.heap.size ≤ base → Ext W w') → w.grownBy w' v.ownBlock → K (a.put o.dst (.slice A' (n + m) c')) w') :
    if Region.wanted o (yielded ops a.tmps) = true then Oper.wp P o a w K Q else E := by
  have hw : Region.wanted o (yielded ops a.tmps) = true := by simp [Region.wanted, hgd]
  rw [if_pos hw]
  exact wp_app s x t e bytes ho hT base v n xs hs hown A m c news hx hm hr h1 h63 hbytes hbase h

/-- 'append(what is read and has no room, what is read)'. -/
theorem wp_appnew (s x : Operand) (t e : TypeId) (bytes : Nat)
    (ho : o.op = .call { callee := .builtin .append, args := #[s, x], argTypes := #[t, t] }) (hT : RowT P t e bytes)
    (A : Option Addr) (n c : Nat) (xs : List Value) (hs : a.eval s = .slice A n c) (hn : xs.length = n) (hxs : Rd w A xs)
    (B : Option Addr) (m d : Nat) (news : List Value) (hx : a.eval x = .slice B m d) (hm : news.length = m) (hr : Rd w B news) (hroom : c < n + m)
    (h63 : n + m ≤ maxLen) (hbytes : (n + m) * bytes ≤ 140737488355328)
    (h : ∀ A' c' w', w'.ownsRow w.heap.size e 1 (.slice A' (n + m) c') (n + m) (xs ++ news) → n + m ≤ c' → c' ≤ maxLen → Rd w' A' (xs ++ news) → Ext w w' → K (a.put o.dst (.slice A' (n + m) c')) w') : o.wp P a w K Q := by
  obtain ⟨ht, z, i, hi, hz, hsize, hby, hzs⟩ := hT
  refine wp_append_new w s x t ho e i z bytes ht hi hz hsize hby hzs A n c xs hs hn hxs B m d news hx hm hr hroom h63 hbytes fun v' w' h2 h3 h4 => ?_
  obtain ⟨A', c', rfl, hc, hcm, hr', _⟩ := own_form h2
  exact h A' c' w' h2 hc hcm hr' h3
theorem wpList_appnew (hgd : o.guard = none) (s x : Operand) (t e : TypeId) (bytes : Nat)
    (ho : o.op = .call { callee := .builtin .append, args := #[s, x], argTypes := #[t, t] }) (hT : RowT P t e bytes)
    (A : Option Addr) (n c : Nat) (xs : List Value) (hs : a.eval s = .slice A n c) (hn : xs.length = n) (hxs : Rd w A xs)
    (B : Option Addr) (m d : Nat) (news : List Value) (hx : a.eval x = .slice B m d) (hm : news.length = m) (hr : Rd w B news) (hroom : c < n + m)
    (h63 : n + m ≤ maxLen) (hbytes : (n + m) * bytes ≤ 140737488355328)
    (h : ∀ A' c' w', w'.ownsRow w.heap.size e 1 (.slice A' (n + m) c') (n + m) (xs ++ news) → n + m ≤ c' → c' ≤ maxLen → Rd w' A' (xs ++ news) → Ext w w' → wpList P ops Q rest (a.put o.dst (.slice A' (n + m) c')) w') : wpList P ops Q (o :: rest) a w :=
  wpList_plain hgd fun _ hK => wp_appnew s x t e bytes ho hT A n c xs hs hn hxs B m d news hx hm hr hroom h63 hbytes fun A' c' w' h2 h3 h4 h5 h6 => hK _ _ (h A' c' w' h2 h3 h4 h5 h6)
theorem step_appnew {E : Prop} (hgd : o.guard = none) (s x : Operand) (t e : TypeId) (bytes : Nat)
    (ho : o.op = .call { callee := .builtin .append, args := #[s, x], argTypes := #[t, t] }) (hT : RowT P t e bytes)
    (A : Option Addr) (n c : Nat) (xs : List Value) (hs : a.eval s = .slice A n c) (hn : xs.length = n) (hxs : Rd w A xs)
    (B : Option Addr) (m d : Nat) (news : List Value) (hx : a.eval x = .slice B m d) (hm : news.length = m) (hr : Rd w B news) (hroom : c < n + m)
    (h63 : n + m ≤ maxLen) (hbytes : (n + m) * bytes ≤ 140737488355328)
    (h : ∀ A' c' w', w'.ownsRow w.heap.size e 1 (.slice A' (n + m) c') (n + m) (xs ++ news) → n + m ≤ c' → c' ≤ maxLen → Rd w' A' (xs ++ news) → Ext w w' → K (a.put o.dst (.slice A' (n + m) c')) w') :
    if Region.wanted o (yielded ops a.tmps) = true then Oper.wp P o a w K Q else E := by
  have hw : Region.wanted o (yielded ops a.tmps) = true := by simp [Region.wanted, hgd]
  rw [if_pos hw]
  exact wp_appnew s x t e bytes ho hT A n c xs hs hn hxs B m d news hx hm hr hroom h63 hbytes h
/-- 'append(nil, what is read)'. -/
theorem wpList_app0 (hgd : o.guard = none) (s x : Operand) (t e : TypeId) (bytes : Nat)
    (ho : o.op = .call { callee := .builtin .append, args := #[s, x], argTypes := #[t, t] }) (hT : RowT P t e bytes) (hs : a.eval s = .slice none 0 0)
    (A : Option Addr) (m c : Nat) (news : List Value) (hx : a.eval x = .slice A m c) (hm : news.length = m) (hr : Rd w A news) (h1 : ∀ u ∈ news, u.oneCell' = true)
    (h63 : m ≤ maxLen) (hbytes : m * bytes ≤ 140737488355328)
    (h : ∀ A' c' w', w'.ownsRow w.heap.size e 1 (.slice A' m c') m news → m ≤ c' → c' ≤ maxLen → Rd w' A' news → Ext w w' → wpList P ops Q rest (a.put o.dst (.slice A' m c')) w') : wpList P ops Q (o :: rest) a w :=
  wpList_app hgd s x t e bytes ho hT w.heap.size _ 0 [] hs (World.ownsRow_nil w _ e 1) A m c news hx hm hr h1 (by omega) (by simpa using hbytes) (Nat.le_refl _) fun A' c' w' h2 h3 h4 h5 h6 _ => by
    simp only [Nat.zero_add, List.nil_append] at h2 h3 h5 ⊢
    exact h A' c' w' h2 h3 h4 h5 (h6 w (Ext.refl w) (Nat.le_refl _))
/-- The same of bytes. -/
theorem wpList_appb0 (hgd : o.guard = none) (s x : Operand) (t e : TypeId)
    (ho : o.op = .call { callee := .builtin .append, args := #[s, x], argTypes := #[t, t] }) (hT : RowT P t e 1) (hs : a.eval s = .slice none 0 0)
    (A : Option Addr) (m c : Nat) (news : List UInt8) (hx : a.eval x = .slice A m c) (hm : news.length = m) (hr : Rd w A (news.map bv))
    (hbytes : m ≤ 140737488355328)
    (h : ∀ A' c' w', w'.ownsRow w.heap.size e 1 (.slice A' m c') m (news.map bv) → m ≤ c' → c' ≤ maxLen → Rd w' A' (news.map bv) → Ext w w' → wpList P ops Q rest (a.put o.dst (.slice A' m c')) w') : wpList P ops Q (o :: rest) a w :=
  wpList_app0 hgd s x t e 1 ho hT hs A m c _ hx (by simpa using hm) hr (one_map_bv _) (by unfold maxLen; omega) (by omega) h
theorem wpList_appb (hgd : o.guard = none) (s x : Operand) (t e : TypeId)
    (ho : o.op = .call { callee := .builtin .append, args := #[s, x], argTypes := #[t, t] }) (hT : RowT P t e 1)
    (base : Nat) (v : Value) (n : Nat) (xs : List UInt8) (hs : a.eval s = v) (hown : w.ownsRow base e 1 v n (xs.map bv))
    (A : Option Addr) (m c : Nat) (news : List UInt8) (hx : a.eval x = .slice A m c) (hm : news.length = m) (hr : Rd w A (news.map bv))
    (hbytes : n + m ≤ 140737488355328) (hbase : base ≤ w.heap.size)
    (h : ∀ A' c' w', w'.ownsRow base e 1 (.slice A' (n + m) c') (n + m) ((xs ++ news).map bv) → n + m ≤ c' → c' ≤ maxLen → Rd w' A' ((xs ++ news).map bv) → (∀ W, Ext W w → W.heap.size ≤ base → Ext W w') → wpList P ops Q rest (a.put o.dst (.slice A' (n + m) c')) w') : wpList P ops Q (o :: rest) a w :=
  wpList_app hgd s x t e 1 ho hT base v n _ hs hown A m c _ hx (by simpa using hm) hr (one_map_bv _) (by unfold maxLen; omega) (by omega) hbase fun A' c' w' h2 h3 h4 h5 h6 _ => by
    rw [← List.map_append] at h2 h5
    exact h A' c' w' h2 h3 h4 h5 h6
theorem wpList_appbg (hgd : o.guard = none) (s x : Operand) (t e : TypeId)
    (ho : o.op = .call { callee := .builtin .append, args := #[s, x], argTypes := #[t, t] }) (hT : RowT P t e 1)
    (base : Nat) (v : Value) (n : Nat) (xs : List UInt8) (hs : a.eval s = v) (hown : w.ownsRow base e 1 v n (xs.map bv))
    (A : Option Addr) (m c : Nat) (news : List UInt8) (hx : a.eval x = .slice A m c) (hm : news.length = m) (hr : Rd w A (news.map bv))
    (hbytes : n + m ≤ 140737488355328) (hbase : base ≤ w.heap.size)
    (h : ∀ A' c' w', w'.ownsRow base e 1 (.slice A' (n + m) c') (n + m) ((xs ++ news).map bv) → n + m ≤ c' → c' ≤ maxLen → Rd w' A' ((xs ++ news).map bv) → (∀ W, Ext W w → W.heap.size ≤ base → Ext W w') → w.grownBy w' v.ownBlock → wpList P ops Q rest (a.put o.dst (.slice A' (n + m) c')) w') : wpList P ops Q (o :: rest) a w :=
  wpList_app hgd s x t e 1 ho hT base v n _ hs hown A m c _ hx (by simpa using hm) hr (one_map_bv _) (by unfold maxLen; omega) (by omega) hbase fun A' c' w' h2 h3 h4 h5 h6 h7 => by
    rw [← List.map_append] at h2 h5
    exact h A' c' w' h2 h3 h4 h5 h6 h7
end

theorem run_convert_rd {P : Program} (w : World) (src dst e : TypeId) (hs : P.underlying src = some (.slice e)) (he : P.underlying e = some (.int .u8)) (hd : P.underlying dst = some .string)
    (A : Option Addr) (n c : Nat) (l : List UInt8) (hn : l.length = n) (hr : Rd w A (l.map bv)) :
    (convert src dst (.slice A n c)).run P w = .ok (.string ⟨l.toArray⟩) w := by
  rcases A with _ | ad
  · have hx : l = [] := by
      rcases l with _ | ⟨x, r⟩
      · rfl
      · obtain ⟨ad, h', _⟩ := hr 0 (bv x) rfl
        cases h'
    subst hx
    rw [run_convert_bytes_nil w src e hs he n c dst hd]
    rfl
  · have hl : (loadCells ad n).run P w = .ok ((l.map n8).map (Value.int .u8)).toArray w := by
      have := run_loadCells_list (P := P) w ad (l.map bv) fun j u hu => by
        obtain ⟨ad', h', hc⟩ := hr j u hu
        injection h' with h'
        subst h'
        exact hc
      rw [List.length_map, hn] at this
      rw [this]
      simp [bv]
    rw [run_convert_bytes_string w src dst e _ n c hs he hd, run_bytesToString w _ n c _ hl, foldl_push_bytes]
    simp [ByteArray.empty, ByteArray.emptyWithCapacity, Function.comp_def, n8_toNat]
    rfl

theorem wpList_convert_rd {P : Program} (w : World) {ops : Array Oper} {rest : List Oper} {o : Oper} {a : Act} {Q : Exit → Act → World → Prop} (hgd : Region.wanted o (yielded ops a.tmps) = true) (x : Operand) (src dst e : TypeId)
    (ho : o.op = .convert src dst x) (hs : P.underlying src = some (.slice e)) (he : P.underlying e = some (.int .u8)) (hd : P.underlying dst = some .string)
    (A : Option Addr) (n c : Nat) (l : List UInt8) (hx : a.eval x = .slice A n c) (hn : l.length = n) (hr : Rd w A (l.map bv))
    (h : wpList P ops Q rest (a.put o.dst (.string ⟨l.toArray⟩)) w) : wpList P ops Q (o :: rest) a w :=
  wpList_step fun K hK => by
    rw [if_pos hgd]
    unfold Oper.wp execOp
    simp only [ho, hx, Sem.run_bind, run_convert_rd w src dst e hs he hd A n c l hn hr, Result.andThen_ok]
    exact hK _ _ h

/-- Block b is a row of cells of type T. -/
def Ty (w : World) (b : Nat) (T : TypeId) : Prop := ∃ cs fr, w.heap[b]? = some (.cells cs T fr)
theorem Ty.ext {w w' : World} {b : Nat} {T : TypeId} (h : Ty w b T) (hx : Ext w w') : Ty w' b T := by
  obtain ⟨cs, fr, hh⟩ := h
  exact ⟨cs, fr, (hx.block b (Array.getElem?_eq_some_iff.1 hh).1).trans hh⟩
theorem Ty.lt {w : World} {b : Nat} {T : TypeId} (h : Ty w b T) : b < w.heap.size := by
  obtain ⟨cs, fr, hh⟩ := h
  exact (Array.getElem?_eq_some_iff.1 hh).1
theorem Ty.grown {w w' : World} {b : Nat} {T : TypeId} {row : Option Nat} (h : Ty w b T) (hg : w.grownBy w' row) (hne : some b ≠ row) : Ty w' b T := by
  have hl := h.lt
  obtain ⟨cs, fr, hh⟩ := h
  exact ⟨cs, fr, (hg.block b hl hne).trans hh⟩
theorem own_ty {w : World} {base : Nat} {e : TypeId} {s n c : Nat} {A : Option Addr} {xs : List Value} (h : w.ownsRow base e s (.slice A n c) n xs) : ∀ ad, A = some ad → Ty w ad.block e := by
  intro ad ha
  subst ha
  rcases h.2 with ⟨hv, _⟩ | ⟨g, cap, cur, hv, _, hh, _⟩
  · cases hv
  · injection hv with hv
    injection hv with hv
    subst hv
    exact ⟨cur, _, hh⟩
theorem own_ty_ne {w : World} {base : Nat} {e T : TypeId} {s n b : Nat} {v : Value} {xs : List Value} (h : w.ownsRow base e s v n xs) (hT : Ty w b T) (hne : e ≠ T) : some b ≠ v.ownBlock := by
  intro he
  obtain ⟨cs, fr, hh⟩ := hT
  rcases h.2 with ⟨rfl, _⟩ | ⟨g, cap, cur, rfl, _, hg, _⟩
  · cases he
  · have : b = g := by simpa [Value.ownBlock] using he
    subst this
    rw [hh] at hg
    injection hg with hg
    injection hg with _ h2
    exact hne h2.symm
theorem own_kept_ty {w w' : World} {base base2 : Nat} {e e2 : TypeId} {s s2 n n2 : Nat} {v v2 : Value} {xs xs2 : List Value} (h : w.ownsRow base e s v n xs) (h2 : w.ownsRow base2 e2 s2 v2 n2 xs2) (hne : e2 ≠ e) (hg : w.grownBy w' v2.ownBlock) : w'.ownsRow base e s v n xs := by
  refine h.kept hg ?_
  rcases h.2 with ⟨rfl, _⟩ | ⟨g, cap, cur, rfl, _, hh, _⟩
  · exact .inl rfl
  · exact .inr (own_ty_ne h2 ⟨cur, _, hh⟩ hne)
theorem one_int (k : IntKind) (i : Int) : ∀ u ∈ [Value.int k i], u.oneCell' = true := by
  intro u hu
  rw [List.mem_singleton.1 hu]; rfl
theorem mem_le_sum {x : Nat} : ∀ {l : List Nat}, x ∈ l → x ≤ l.sum
  | [], h => by simp at h
  | y :: l, h => by
    rw [List.sum_cons]
    rcases List.mem_cons.1 h with rfl | h
    · omega
    · have := mem_le_sum h; omega
/-- Places: of fresh rows of type T from block B on; of old memory. -/
def Fresh (B : Nat) (T : TypeId) (w : World) (ad : Addr) : Prop := B ≤ ad.block ∧ Ty w ad.block T
def Old (B : Nat) (_ : World) (ad : Addr) : Prop := ad.block < B
theorem Fresh.ext {B : Nat} {T : TypeId} {w w' : World} (hx : Ext w w') : ∀ ad, Fresh B T w ad → Fresh B T w' ad := fun _ h => ⟨h.1, h.2.ext hx⟩
theorem Old.ext {B : Nat} {w w' : World} : ∀ ad, Old B w ad → Old B w' ad := fun _ h => h
theorem Rd.grown {w w' : World} {A : Option Addr} {xs : List Value} {row : Option Nat} (h : Rd w A xs) (hg : w.grownBy w' row) (hne : ∀ ad, A = some ad → some ad.block ≠ row) : Rd w' A xs := fun k v hv => by
  obtain ⟨ad, e, hc⟩ := h k v hv
  refine ⟨ad, e, ?_⟩
  have hl := World.block_lt_of_cell? w _ hc
  rw [add_block] at hl
  exact (World.cell?_of_block (by rw [add_block]; exact hg.block ad.block hl (hne ad e))).trans hc

/-- A value that is a slice of bytes, at a place of S. -/
def IsB (S : World → Addr → Prop) (w : World) (v : Value) (l : List UInt8) : Prop :=
  ∃ A n c, v = .slice A n c ∧ l.length = n ∧ n ≤ c ∧ c ≤ maxLen ∧ Rd w A (l.map bv) ∧ ∀ ad, A = some ad → S w ad
def AllB (S : World → Addr → Prop) (w : World) : List Value → List (List UInt8) → Prop
  | [], [] => True
  | v :: vs, r :: rs => IsB S w v r ∧ AllB S w vs rs
  | _, _ => False
section
variable {S S' : World → Addr → Prop} {w w' : World}
theorem IsB.imp_ {v : Value} {l : List UInt8} (hr : ∀ A xs, Rd w A xs → (∀ ad, A = some ad → S w ad) → Rd w' A xs) (hS : ∀ ad, S w ad → S' w' ad) (h : IsB S w v l) : IsB S' w' v l := by
  obtain ⟨A, n, c, h1, h2, h3, h4, h5, h6⟩ := h
  exact ⟨A, n, c, h1, h2, h3, h4, hr A _ h5 h6, fun ad e => hS ad (h6 ad e)⟩
theorem AllB.imp_ (hr : ∀ A xs, Rd w A xs → (∀ ad, A = some ad → S w ad) → Rd w' A xs) (hS : ∀ ad, S w ad → S' w' ad) : ∀ {vs : List Value} {rs : List (List UInt8)}, AllB S w vs rs → AllB S' w' vs rs
  | [], [], _ => trivial
  | v :: vs, r :: rs, h => ⟨h.1.imp_ hr hS, AllB.imp_ hr hS h.2⟩
  | [], r :: rs, h => h.elim
  | v :: vs, [], h => h.elim
theorem AllB.ext {vs : List Value} {rs : List (List UInt8)} (h : AllB S w vs rs) (hx : Ext w w') (hS : ∀ ad, S w ad → S w' ad) : AllB S w' vs rs :=
  h.imp_ (fun _ _ h _ => h.ext hx) hS
theorem AllB.extF {B : Nat} {T : TypeId} {vs : List Value} {rs : List (List UInt8)} (h : AllB (Fresh B T) w vs rs) (hx : Ext w w') : AllB (Fresh B T) w' vs rs := h.ext hx (Fresh.ext hx)
theorem AllB.extO {B : Nat} {vs : List Value} {rs : List (List UInt8)} (h : AllB (Old B) w vs rs) (hx : Ext w w') : AllB (Old B) w' vs rs := h.ext hx Old.ext
theorem AllB.len : ∀ {vs : List Value} {rs : List (List UInt8)}, AllB S w vs rs → vs.length = rs.length
  | [], [], _ => rfl
  | v :: vs, r :: rs, h => by simp [AllB.len h.2]
  | [], r :: rs, h => h.elim
  | v :: vs, [], h => h.elim
theorem AllB.snoc {v : Value} {r : List UInt8} (hv : IsB S w v r) : ∀ {vs : List Value} {rs : List (List UInt8)}, AllB S w vs rs → AllB S w (vs ++ [v]) (rs ++ [r])
  | [], [], _ => ⟨hv, trivial⟩
  | x :: vs, y :: rs, h => ⟨h.1, AllB.snoc hv h.2⟩
  | [], r :: rs, h => h.elim
  | v :: vs, [], h => h.elim
theorem AllB.get : ∀ {vs : List Value} {rs : List (List UInt8)}, AllB S w vs rs → ∀ k (h1 : k < vs.length) (h2 : k < rs.length), IsB S w vs[k] rs[k]
  | [], [], _, k, h1, _ => by simp at h1
  | v :: vs, r :: rs, h, 0, _, _ => h.1
  | v :: vs, r :: rs, h, k + 1, h1, h2 => AllB.get h.2 k (by simpa using h1) (by simpa using h2)
  | [], r :: rs, h, _, _, _ => h.elim
  | v :: vs, [], h, _, _, _ => h.elim
theorem AllB.take : ∀ {vs : List Value} {rs : List (List UInt8)} (k : Nat), AllB S w vs rs → AllB S w (vs.take k) (rs.take k)
  | [], [], k, _ => by simp [AllB]
  | v :: vs, r :: rs, 0, _ => by simp [AllB]
  | v :: vs, r :: rs, k + 1, h => ⟨h.1, AllB.take k h.2⟩
  | [], r :: rs, _, h => h.elim
  | v :: vs, [], _, h => h.elim
theorem AllB.one : ∀ {vs : List Value} {rs : List (List UInt8)}, AllB S w vs rs → ∀ u ∈ vs, u.oneCell' = true
  | [], _, _, u, hu => by simp at hu
  | v :: vs, r :: rs, h, u, hu => by
    rcases List.mem_cons.1 hu with rfl | hu
    · obtain ⟨A, n, c, rfl, _⟩ := h.1; rfl
    · exact AllB.one h.2 u hu
  | v :: vs, [], h, _, _ => h.elim
end

theorem run_equalIn_iface_int {P : Program} (w : World) (d : Nat) {ti tn : TypeId} {ms : Array (String × TypeId)} {i : TypeInfo} {k : IntKind} (a b : Int)
    (hi : P.underlying ti = some (.interface ms)) (hn : P.underlying tn = some (.int k)) (hinfo : P.info? tn = some i) (hcomp : i.comparable = true) :
    (Op.equalIn (d + 2) ti (.iface tn (.int k a)) (.iface tn (.int k b))).run P w = .ok (a == b) w := by
  simp [Op.equalIn, run_underlying hi, run_underlying hn, typeInfo, hinfo, hcomp]
theorem run_eql_iface_int {P : Program} (w : World) {ti tn : TypeId} {ms : Array (String × TypeId)} {i : TypeInfo} {k : IntKind} (a b : Int)
    (hi : P.underlying ti = some (.interface ms)) (hn : P.underlying tn = some (.int k)) (hinfo : P.info? tn = some i) (hcomp : i.comparable = true) :
    (binOp .eql ti (.iface tn (.int k a)) (.iface tn (.int k b))).run P w = .ok (.bool (a == b)) w := by
  simp only [binOp]
  simp [Op.equal, Op.maxDepth, run_equalIn_iface_int w 9998 a b hi hn hinfo hcomp]
theorem run_eql_iface_int' {P : Program} (w : World) {ti tn : TypeId} {ms : Array (String × TypeId)} {k : IntKind} (a b : Int)
    (hi : P.underlying ti = some (.interface ms)) (hn : P.underlying tn = some (.int k)) (hinfo : (P.info? tn).map (·.comparable) = some true) :
    (binOp .eql ti (.iface tn (.int k a)) (.iface tn (.int k b))).run P w = .ok (.bool (a == b)) w := by
  rcases hf : P.info? tn with _ | i
  · rw [hf] at hinfo; cases hinfo
  · rw [hf] at hinfo
    exact run_eql_iface_int w a b hi hn hf (by simpa using hinfo)
end Go.Cv
end
section
/-
  A world with some blocks more and some orders drawn: what lay there lies there.
-/
set_option linter.unusedSimpArgs false
set_option linter.unusedVariables false
namespace Go.Cv
open Go.RowKit

/-- Orders drawn, and blocks laid. -/
def grw (w : World) (x : Nat × Array Obj) : World := { w with heap := w.heap ++ x.2, drawn := x.1 }
theorem grw_ext (w : World) (x : Nat × Array Obj) : Ext w (grw w x) := by
  refine ⟨rfl, rfl, rfl, ?_, ?_⟩
  · show w.heap.size ≤ (w.heap ++ x.2).size
    rw [Array.size_append]; omega
  · intro b hb
    show (w.heap ++ x.2)[b]? = w.heap[b]?
    rw [Array.getElem?_append, if_pos hb]
theorem grw_of_ext {w w' : World} (h : Ext w w') : ∃ x, w' = grw w x := by
  refine ⟨(w'.drawn, w'.heap.extract w.heap.size w'.heap.size), ?_⟩
  have h1 := h.os
  have h2 := h.tape
  have h3 := h.output
  have h4 := h.size
  have h5 := h.block
  cases w' with
  | mk heap tape drawn os output =>
    cases w with
    | mk heap0 tape0 drawn0 os0 output0 =>
      simp only at h1 h2 h3 h4 h5
      subst h1 h2 h3
      unfold grw
      simp only [World.mk.injEq, true_and, and_true]
      apply Array.ext_getElem?
      intro i
      rw [Array.getElem?_append]
      split
      · rename_i hi
        exact h5 i hi
      · rename_i hi
        rw [Array.getElem?_extract]
        split
        · congr 1; omega
        · rename_i hj
          rw [Array.getElem?_eq_none (by omega)]
@[go_sem] theorem grw_grw (w : World) (x y : Nat × Array Obj) : grw (grw w x) y = grw w (y.1, x.2 ++ y.2) := by
  unfold grw
  simp only [World.mk.injEq, true_and, and_true]
  exact Array.append_assoc ..
theorem grw_size (w : World) (x : Nat × Array Obj) : w.heap.size ≤ (grw w x).heap.size := (grw_ext w x).size
theorem grw_lt {w : World} {n : Nat} (x : Nat × Array Obj) (h : n < w.heap.size) : n < (grw w x).heap.size := Nat.lt_of_lt_of_le h (grw_size w x)
@[go_sem] theorem grw_lt_true {w : World} {n : Nat} (x : Nat × Array Obj) (h : n < w.heap.size) : (n < (grw w x).heap.size) = True := eq_true (grw_lt x h)
@[go_sem] theorem grw_cell (x : Nat × Array Obj) (w : World) (n i : Nat) (hn : n < w.heap.size) : (grw w x).cell? ⟨n, i, none⟩ = w.cell? ⟨n, i, none⟩ := by
  unfold World.cell?
  have h := (grw_ext w x).block n hn
  simp only [h]
@[go_sem] theorem grw_frozen (x : Nat × Array Obj) (w : World) (n i : Nat) (hn : n < w.heap.size) : (grw w x).frozen? ⟨n, i, none⟩ = w.frozen? ⟨n, i, none⟩ := by
  unfold World.frozen?
  have h := (grw_ext w x).block n hn
  simp only [h]
@[go_sem] theorem grw_setCell (x : Nat × Array Obj) (w : World) (n i : Nat) (v : Value) (hn : n < w.heap.size) : (grw w x).setCell ⟨n, i, none⟩ v = grw (w.setCell ⟨n, i, none⟩ v) x := by
  unfold World.setCell grw
  simp only [World.mk.injEq, true_and, and_true]
  apply Array.ext_getElem?
  intro k
  simp only [Array.getElem?_modify, Array.getElem?_append, Array.size_modify]
  by_cases hk : k = n
  · subst hk
    simp [hn]
  · have : ¬ n = k := fun h => hk h.symm
    simp [this]
theorem grw_self (w : World) : w = grw w (w.drawn, #[]) := by unfold grw; simp
theorem setRow_grw (x : Nat × Array Obj) (w : World) (n : Nat) (c : Array Value) (hn : n < w.heap.size) : (grw w x).setRow n c = grw (w.setRow n c) x := by
  unfold World.setRow grw
  simp only [World.mk.injEq, true_and, and_true]
  apply Array.ext_getElem?
  intro k
  simp only [Array.getElem?_modify, Array.getElem?_append, Array.size_modify]
  by_cases hk : k = n
  · subst hk
    simp [hn]
  · have : ¬ n = k := fun h => hk h.symm
    simp [this]
@[go_sem] theorem grw_drew (w : World) (x : Nat × Array Obj) : (grw w x).drew = grw w (x.1 + 1, x.2) := rfl
theorem Ext.size_ {w w' : World} (h : Ext w w') : w.heap.size ≤ w'.heap.size := Below.size h
theorem grw_cell_ge {w w2 : World} {x : Nat × Array Obj} {n i : Nat} {v : Value} (hs : w2.heap.size = w.heap.size) (hn : w.heap.size ≤ n) (h : (grw w x).cell? ⟨n, i, none⟩ = some v) (z : Nat) (o : Array Obj) :
    (grw w2 (z, x.2 ++ o)).cell? ⟨n, i, none⟩ = some v := by
  have hb : (w2.heap ++ (x.2 ++ o))[n]? = (w.heap ++ x.2)[n]? := by
    have hlt : n < (w.heap ++ x.2).size := World.block_lt_of_cell? (grw w x) _ h
    rw [Array.size_append] at hlt
    rw [Array.getElem?_append, if_neg (by omega), Array.getElem?_append, if_pos (by omega), Array.getElem?_append, if_neg (by omega), hs]
  unfold World.cell? grw at *
  simp only at *
  rw [hb]
  exact h
attribute [go_sem] Array.append_assoc
@[go_sem] theorem drew_size_ (w : World) : w.drew.heap.size = w.heap.size := rfl
theorem drew_grw (w : World) (x : Nat × Array Obj) : ∃ y, (grw w x).drew = grw w y := grw_of_ext (by have := (grw_ext w x).drewN 1; exact this)
theorem drewN_grw (w : World) : ∀ n, ∃ y, w.drewN n = grw w y := fun n => grw_of_ext ((Ext.refl w).drewN n)
end Go.Cv
end
section
/-
  Worlds in which some rows of one's own turned; rows of cells.
-/
set_option linter.unusedSimpArgs false
set_option linter.unusedVariables false
namespace Go.Cv
open Go.RowKit
/-- Of the blocks that were, none but those listed turned. -/
structure Keep (bs : List Nat) (w w' : World) : Prop where
  os : w'.os = w.os
  tape : w'.tape = w.tape
  output : w'.output = w.output
  size : w.heap.size ≤ w'.heap.size
  keep : ∀ k, k < w.heap.size → k ∉ bs → w'.heap[k]? = w.heap[k]?
theorem Keep.of_ext {bs : List Nat} {w w' : World} (h : Ext w w') : Keep bs w w' := ⟨h.os, h.tape, h.output, h.size, fun k hk _ => h.block k hk⟩
theorem Keep.refl (bs : List Nat) (w : World) : Keep bs w w := ⟨rfl, rfl, rfl, Nat.le_refl _, fun _ _ _ => rfl⟩
theorem Keep.trans {bs cs : List Nat} {a b c : World} (h : Keep bs a b) (k : Keep cs b c) (hc : ∀ x ∈ cs, x ∈ bs ∨ a.heap.size ≤ x) : Keep bs a c :=
  ⟨k.os.trans h.os, k.tape.trans h.tape, k.output.trans h.output, Nat.le_trans h.size k.size, fun x hx hn => by
    have hs := h.size
    rw [k.keep x (by omega) (fun hm => by
      rcases hc x hm with h1 | h1
      · exact hn h1
      · omega), h.keep x hx hn]⟩
theorem Keep.same {bs : List Nat} {a b c : World} (h : Keep bs a b) (k : Keep bs b c) : Keep bs a c := h.trans k fun _ hx => .inl hx
theorem Keep.ext {bs : List Nat} {a b c : World} (h : Keep bs a b) (k : Ext b c) : Keep bs a c := h.trans (Keep.of_ext (bs := []) k) fun _ hx => by cases hx
theorem Keep.mono {bs cs : List Nat} {a b : World} (h : Keep bs a b) (hs : ∀ x ∈ bs, x ∈ cs) : Keep cs a b := ⟨h.os, h.tape, h.output, h.size, fun k hk hn => h.keep k hk fun hm => hn (hs k hm)⟩
theorem Keep.row {bs : List Nat} {w w' : World} {b : Nat} {r : Obj} (h : Keep bs w w') (hr : w.heap[b]? = some r) (hb : b ∉ bs) : w'.heap[b]? = some r :=
  (h.keep b (Array.getElem?_eq_some_iff.1 hr).1 hb).trans hr
theorem Keep.below {bs : List Nat} {w w' : World} {B : Nat} (h : Keep bs w w') (hB : ∀ x ∈ bs, B ≤ x) (hs : B ≤ w.heap.size) : Below B w w' :=
  ⟨h.os, h.tape, h.output, h.size, fun k hk => h.keep k (by omega) fun hm => by have := hB k hm; omega⟩
theorem Keep.cell {bs : List Nat} {w w' : World} {p : Addr} {v : Value} (h : Keep bs w w') (hc : w.cell? p = some v) (hb : p.block ∉ bs) : w'.cell? p = some v := by
  have hlt := World.block_lt_of_cell? w p hc
  rw [← hc]
  unfold World.cell?
  rw [h.keep _ hlt hb]
theorem Keep.rd {bs : List Nat} {w w' : World} {ad : Addr} {xs : List Value} (h : Keep bs w w') (hr : Rd w (some ad) xs) (hb : ad.block ∉ bs) : Rd w' (some ad) xs := fun k v hv => by
  obtain ⟨ad', e, hc⟩ := hr k v hv
  injection e with e
  subst e
  exact ⟨ad, rfl, h.cell hc (by rw [add_block]; exact hb)⟩
theorem Keep.setCell (w : World) (p : Addr) (v : Value) : Keep [p.block] w (w.setCell p v) :=
  ⟨rfl, rfl, rfl, by simp [World.setCell], fun k _ hk => Below.heap_setCell _ _ _ _ (fun e => hk (by simp [e]))⟩
/-- A row of cells. -/
def Row (w : World) (b : Nat) (T : TypeId) (cs : List Value) : Prop := w.heap[b]? = some (.cells cs.toArray T (0, 0))
theorem Row.cell {w : World} {b : Nat} {T : TypeId} {cs : List Value} (h : Row w b T cs) {i : Nat} (hi : i < cs.length) : w.cell? ⟨b, i, none⟩ = some cs[i] := by
  unfold Row at h
  rw [Lib.cell_of_heap h]
  simp [hi]
theorem Row.fro {w : World} {b : Nat} {T : TypeId} {cs : List Value} (h : Row w b T cs) (i : Nat) : w.frozen? ⟨b, i, none⟩ = false := Lib.frozen_of_heap h i
theorem Row.keep {bs : List Nat} {w w' : World} {b : Nat} {T : TypeId} {cs : List Value} (h : Row w b T cs) (k : Keep bs w w') (hb : b ∉ bs) : Row w' b T cs := k.row h hb
theorem Row.ext {w w' : World} {b : Nat} {T : TypeId} {cs : List Value} (h : Row w b T cs) (k : Ext w w') : Row w' b T cs := h.keep (Keep.of_ext (bs := []) k) (by simp)
theorem Row.lt {w : World} {b : Nat} {T : TypeId} {cs : List Value} (h : Row w b T cs) : b < w.heap.size := (Array.getElem?_eq_some_iff.1 h).1
theorem Row.set {w : World} {b : Nat} {T : TypeId} {cs : List Value} (h : Row w b T cs) (i : Nat) (v : Value) : Row (w.setCell ⟨b, i, none⟩ v) b T (cs.set i v) := by
  unfold Row at *
  simp [World.setCell, Array.getElem?_modify, h]
theorem Row.alloc (w : World) (cs : List Value) (T : TypeId) : Row (w.alloc (.cells cs.toArray T)) w.heap.size T cs := by
  show (w.heap.push _)[w.heap.size]? = _
  simp
end Go.Cv
end
