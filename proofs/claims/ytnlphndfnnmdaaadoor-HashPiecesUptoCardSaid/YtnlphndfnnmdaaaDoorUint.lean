/-
  UIntN normal forms for walks: every unsigned result is nK of a UIntN term.
-/
import Derived.WalkKit
import Derived.WalkSpells
import Derived.WalkLawsBesides
set_option linter.unusedSimpArgs false
set_option linter.unusedVariables false
namespace Go.Cv


def n8 (x : UInt8) : Int := (x.toNat : Int)
def u8 (x : Int) : UInt8 := UInt8.ofBitVec (BitVec.ofInt 8 x)
theorem n8_def (x : UInt8) : n8 x = (x.toNat : Int) := rfl
theorem n8_bd (x : UInt8) : 0 ≤ n8 x ∧ n8 x < 256 := by have := x.toNat_lt; unfold n8; omega
theorem n8_toNat (x : UInt8) : (n8 x).toNat = x.toNat := rfl
theorem n8_inj {x y : UInt8} (h : n8 x = n8 y) : x = y := UInt8.toNat_inj.1 (by unfold n8 at h; omega)
@[go_sem] theorem cast_n8 (x : UInt8) : ((x.toNat : Nat) : Int) = n8 x := rfl
theorem n8_u8 (x : Int) : n8 (u8 x) = x % 256 := by
  show ((BitVec.ofInt 8 x).toNat : Int) = _
  rw [BitVec.toNat_ofInt]
  have h : (0 : Int) ≤ x % 256 := Int.emod_nonneg _ (by decide)
  simp [Int.toNat_of_nonneg h]
@[go_sem] theorem wrap_u8_any (e : Int) : IntKind.u8.wrap e = n8 (u8 e) := by
  rw [n8_u8]
  simp [IntKind.wrap, IntKind.bits, IntKind.signed]
@[go_sem] theorem u8_self (x : UInt8) : u8 (n8 x) = x := by
  show UInt8.ofBitVec (BitVec.ofInt 8 (x.toNat : Int)) = x
  rw [BitVec.ofInt_natCast]
  simp
theorem u8_of (x : Int) (y : UInt8) (h : x % 256 = n8 y % 256) : u8 x = y := by
  apply n8_inj; rw [n8_u8, h]; have := n8_bd y; omega
theorem u8_bv (x : Int) : (u8 x).toBitVec = BitVec.ofInt 8 x := rfl
@[go_sem] theorem u8_add (x y : Int) : u8 (x + y) = u8 x + u8 y := by
  apply UInt8.toBitVec_inj.1; rw [UInt8.toBitVec_add, u8_bv, u8_bv, u8_bv, BitVec.ofInt_add]
@[go_sem] theorem u8_mul (x y : Int) : u8 (x * y) = u8 x * u8 y := by
  apply UInt8.toBitVec_inj.1; rw [UInt8.toBitVec_mul, u8_bv, u8_bv, u8_bv, BitVec.ofInt_mul]
@[go_sem] theorem u8_neg (x : Int) : u8 (-x) = -u8 x := by
  apply UInt8.toBitVec_inj.1; rw [UInt8.toBitVec_neg, u8_bv, u8_bv, BitVec.ofInt_neg]
@[go_sem] theorem u8_sub (x y : Int) : u8 (x - y) = u8 x - u8 y := by
  rw [Int.sub_eq_add_neg, u8_add, u8_neg]
  apply UInt8.toBitVec_inj.1
  rw [UInt8.toBitVec_add, UInt8.toBitVec_sub, UInt8.toBitVec_neg, BitVec.sub_eq_add_neg]
@[go_sem] theorem u8_lit (k : Nat) : u8 (no_index (OfNat.ofNat k : Int)) = (OfNat.ofNat k : UInt8) := by
  apply UInt8.toBitVec_inj.1
  rw [u8_bv]
  exact BitVec.ofInt_natCast 8 k
@[go_sem] theorem u8_and (x y : Int) : bits .and .u8 x y = n8 (u8 x &&& u8 y) := by
  show IntKind.u8.wrap (((BitVec.ofInt 8 x &&& BitVec.ofInt 8 y).toNat : Nat) : Int) = _
  rw [wrap_u8_any]; exact congrArg n8 (u8_self (u8 x &&& u8 y))
@[go_sem] theorem u8_or (x y : Int) : bits .or .u8 x y = n8 (u8 x ||| u8 y) := by
  show IntKind.u8.wrap (((BitVec.ofInt 8 x ||| BitVec.ofInt 8 y).toNat : Nat) : Int) = _
  rw [wrap_u8_any]; exact congrArg n8 (u8_self (u8 x ||| u8 y))
@[go_sem] theorem u8_xor (x y : Int) : bits .xor .u8 x y = n8 (u8 x ^^^ u8 y) := by
  show IntKind.u8.wrap (((BitVec.ofInt 8 x ^^^ BitVec.ofInt 8 y).toNat : Nat) : Int) = _
  rw [wrap_u8_any]; exact congrArg n8 (u8_self (u8 x ^^^ u8 y))
@[go_sem] theorem u8_andNot (x y : Int) : bits .andNot .u8 x y = n8 (u8 x &&& ~~~(u8 y)) := by
  show IntKind.u8.wrap (((BitVec.ofInt 8 x &&& ~~~BitVec.ofInt 8 y).toNat : Nat) : Int) = _
  rw [wrap_u8_any]; exact congrArg n8 (u8_self (u8 x &&& ~~~(u8 y)))
theorem u8_of_nat (x : Nat) : u8 (x : Int) = UInt8.ofNat x := by
  apply UInt8.toNat_inj.1
  have h1 := n8_u8 (x : Int)
  have h2 : (UInt8.ofNat x).toNat = x % 256 := BitVec.toNat_ofNat ..
  unfold n8 at h1
  omega
theorem lit_toNat_u8 (k : Nat) (h : k < 256) : (OfNat.ofNat k : UInt8).toNat = k := by
  show (BitVec.ofNat 8 k).toNat = k
  rw [BitVec.toNat_ofNat]; exact Nat.mod_eq_of_lt h
theorem toNat_shl_u8 (a : UInt8) (k : Nat) (h : k < 8) : (a <<< (OfNat.ofNat k : UInt8)).toNat = a.toNat * 2 ^ k % 256 := by
  rw [UInt8.toNat_shiftLeft, lit_toNat_u8 k (by omega), Nat.mod_eq_of_lt h, Nat.shiftLeft_eq]
theorem toNat_shr_u8 (a : UInt8) (k : Nat) (h : k < 8) : (a >>> (OfNat.ofNat k : UInt8)).toNat = a.toNat / 2 ^ k := by
  rw [UInt8.toNat_shiftRight, lit_toNat_u8 k (by omega), Nat.mod_eq_of_lt h, Nat.shiftRight_eq_div_pow]
@[go_sem high] theorem shl_u8 (x : Int) (yk : IntKind) (k : Nat) (h : k < 8) : Op.shift .shl .u8 x yk (no_index (OfNat.ofNat k : Int)) = pure (.int .u8 (n8 (u8 x <<< (OfNat.ofNat k : UInt8)))) := by
  have e : ((OfNat.ofNat k : Int)).toNat = k := rfl
  rw [shift_shl_any _ _ _ _ (show (0 : Int) ≤ OfNat.ofNat k from Int.natCast_nonneg k), wrap_u8_any, e, Nat.min_eq_left (by show k ≤ 8; omega)]
  have e2 : (u8 x <<< (OfNat.ofNat k : UInt8)) = u8 (x * 2 ^ k) := by
    apply UInt8.toNat_inj.1
    rw [toNat_shl_u8 _ _ h]
    have h1 := n8_u8 x
    have h2 := n8_u8 (x * 2 ^ k)
    unfold n8 at h1 h2
    have h3 : (((u8 x).toNat * 2 ^ k % 256 : Nat) : Int) = ((u8 (x * 2 ^ k)).toNat : Int) := by
      rw [h2, Int.natCast_emod, Int.natCast_mul, h1]
      simp [Int.mul_emod]
    exact_mod_cast h3
  rw [e2]
@[go_sem high] theorem shr_u8 (a : UInt8) (yk : IntKind) (k : Nat) (h : k < 8) : Op.shift .shr .u8 (n8 a) yk (no_index (OfNat.ofNat k : Int)) = pure (.int .u8 (n8 (a >>> (OfNat.ofNat k : UInt8)))) := by
  have e : ((OfNat.ofNat k : Int)).toNat = k := rfl
  rw [shift_shr_any _ _ _ _ (show (0 : Int) ≤ OfNat.ofNat k from Int.natCast_nonneg k), e, Nat.min_eq_left (by show k ≤ 8; omega)]
  unfold n8
  rw [toNat_shr_u8 _ _ h]
  simp
@[go_sem high] theorem unary_xor_u8 (x : Int) : Op.unary .xor (.int .u8 x) = pure (.int .u8 (n8 (~~~(u8 x)))) := by
  show Op.intBits .xor .u8 255 x = _
  show (pure (.int .u8 (IntKind.u8.wrap ((BitVec.ofInt 8 255 ^^^ BitVec.ofInt 8 x).toNat : Nat))) : Sem Value) = _
  rw [wrap_u8_any]
  have h : BitVec.ofInt 8 255 = BitVec.allOnes 8 := by decide
  rw [h, BitVec.allOnes_xor]
  exact congrArg (fun t : UInt8 => (pure (.int .u8 (n8 t)) : Sem Value)) (u8_self (~~~(u8 x)))
@[go_sem] theorem u8_tdiv (a : UInt8) (k : Nat) (h : k < 256) : u8 (Int.tdiv (n8 a) (no_index (OfNat.ofNat k : Int))) = a / (OfNat.ofNat k : UInt8) := by
  apply u8_of
  unfold n8
  rw [UInt8.toNat_div, lit_toNat_u8 k h]
  rfl
@[go_sem] theorem u8_tmod (a : UInt8) (k : Nat) (h : k < 256) : Int.tmod (n8 a) (no_index (OfNat.ofNat k : Int)) = n8 (a % (OfNat.ofNat k : UInt8)) := by
  unfold n8
  rw [UInt8.toNat_mod, lit_toNat_u8 k h]
  rfl
@[go_sem] theorem beq_u8 (a b : UInt8) : (n8 a == n8 b) = (a == b) := by
  rw [Bool.eq_iff_iff]; simp only [beq_iff_eq]
  exact ⟨fun h => n8_inj h, fun h => by rw [h]⟩
@[go_sem] theorem bne_u8 (a b : UInt8) : (n8 a != n8 b) = (a != b) := by
  show (!(n8 a == n8 b)) = !(a == b)
  rw [beq_u8]
@[go_sem] theorem beq_u8_lit (a : UInt8) (k : Nat) (h : k < 256) : (n8 a == (no_index (OfNat.ofNat k : Int))) = (a == (OfNat.ofNat k : UInt8)) := by
  rw [← beq_u8]
  congr 1
  unfold n8
  rw [lit_toNat_u8 k h]; rfl
@[go_sem] theorem bne_u8_lit (a : UInt8) (k : Nat) (h : k < 256) : (n8 a != (no_index (OfNat.ofNat k : Int))) = (a != (OfNat.ofNat k : UInt8)) := by
  show (!(n8 a == (OfNat.ofNat k : Int))) = !(a == (OfNat.ofNat k : UInt8))
  rw [beq_u8_lit a k h]


def n16 (x : UInt16) : Int := (x.toNat : Int)
def u16 (x : Int) : UInt16 := UInt16.ofBitVec (BitVec.ofInt 16 x)
theorem n16_def (x : UInt16) : n16 x = (x.toNat : Int) := rfl
theorem n16_bd (x : UInt16) : 0 ≤ n16 x ∧ n16 x < 65536 := by have := x.toNat_lt; unfold n16; omega
theorem n16_toNat (x : UInt16) : (n16 x).toNat = x.toNat := rfl
theorem n16_inj {x y : UInt16} (h : n16 x = n16 y) : x = y := UInt16.toNat_inj.1 (by unfold n16 at h; omega)
@[go_sem] theorem cast_n16 (x : UInt16) : ((x.toNat : Nat) : Int) = n16 x := rfl
theorem n16_u16 (x : Int) : n16 (u16 x) = x % 65536 := by
  show ((BitVec.ofInt 16 x).toNat : Int) = _
  rw [BitVec.toNat_ofInt]
  have h : (0 : Int) ≤ x % 65536 := Int.emod_nonneg _ (by decide)
  simp [Int.toNat_of_nonneg h]
@[go_sem] theorem wrap_u16_any (e : Int) : IntKind.u16.wrap e = n16 (u16 e) := by
  rw [n16_u16]
  simp [IntKind.wrap, IntKind.bits, IntKind.signed]
@[go_sem] theorem u16_self (x : UInt16) : u16 (n16 x) = x := by
  show UInt16.ofBitVec (BitVec.ofInt 16 (x.toNat : Int)) = x
  rw [BitVec.ofInt_natCast]
  simp
theorem u16_of (x : Int) (y : UInt16) (h : x % 65536 = n16 y % 65536) : u16 x = y := by
  apply n16_inj; rw [n16_u16, h]; have := n16_bd y; omega
theorem u16_bv (x : Int) : (u16 x).toBitVec = BitVec.ofInt 16 x := rfl
@[go_sem] theorem u16_add (x y : Int) : u16 (x + y) = u16 x + u16 y := by
  apply UInt16.toBitVec_inj.1; rw [UInt16.toBitVec_add, u16_bv, u16_bv, u16_bv, BitVec.ofInt_add]
@[go_sem] theorem u16_mul (x y : Int) : u16 (x * y) = u16 x * u16 y := by
  apply UInt16.toBitVec_inj.1; rw [UInt16.toBitVec_mul, u16_bv, u16_bv, u16_bv, BitVec.ofInt_mul]
@[go_sem] theorem u16_neg (x : Int) : u16 (-x) = -u16 x := by
  apply UInt16.toBitVec_inj.1; rw [UInt16.toBitVec_neg, u16_bv, u16_bv, BitVec.ofInt_neg]
@[go_sem] theorem u16_sub (x y : Int) : u16 (x - y) = u16 x - u16 y := by
  rw [Int.sub_eq_add_neg, u16_add, u16_neg]
  apply UInt16.toBitVec_inj.1
  rw [UInt16.toBitVec_add, UInt16.toBitVec_sub, UInt16.toBitVec_neg, BitVec.sub_eq_add_neg]
@[go_sem] theorem u16_lit (k : Nat) : u16 (no_index (OfNat.ofNat k : Int)) = (OfNat.ofNat k : UInt16) := by
  apply UInt16.toBitVec_inj.1
  rw [u16_bv]
  exact BitVec.ofInt_natCast 16 k
@[go_sem] theorem u16_and (x y : Int) : bits .and .u16 x y = n16 (u16 x &&& u16 y) := by
  show IntKind.u16.wrap (((BitVec.ofInt 16 x &&& BitVec.ofInt 16 y).toNat : Nat) : Int) = _
  rw [wrap_u16_any]; exact congrArg n16 (u16_self (u16 x &&& u16 y))
@[go_sem] theorem u16_or (x y : Int) : bits .or .u16 x y = n16 (u16 x ||| u16 y) := by
  show IntKind.u16.wrap (((BitVec.ofInt 16 x ||| BitVec.ofInt 16 y).toNat : Nat) : Int) = _
  rw [wrap_u16_any]; exact congrArg n16 (u16_self (u16 x ||| u16 y))
@[go_sem] theorem u16_xor (x y : Int) : bits .xor .u16 x y = n16 (u16 x ^^^ u16 y) := by
  show IntKind.u16.wrap (((BitVec.ofInt 16 x ^^^ BitVec.ofInt 16 y).toNat : Nat) : Int) = _
  rw [wrap_u16_any]; exact congrArg n16 (u16_self (u16 x ^^^ u16 y))
@[go_sem] theorem u16_andNot (x y : Int) : bits .andNot .u16 x y = n16 (u16 x &&& ~~~(u16 y)) := by
  show IntKind.u16.wrap (((BitVec.ofInt 16 x &&& ~~~BitVec.ofInt 16 y).toNat : Nat) : Int) = _
  rw [wrap_u16_any]; exact congrArg n16 (u16_self (u16 x &&& ~~~(u16 y)))
theorem u16_of_nat (x : Nat) : u16 (x : Int) = UInt16.ofNat x := by
  apply UInt16.toNat_inj.1
  have h1 := n16_u16 (x : Int)
  have h2 : (UInt16.ofNat x).toNat = x % 65536 := BitVec.toNat_ofNat ..
  unfold n16 at h1
  omega
theorem lit_toNat_u16 (k : Nat) (h : k < 65536) : (OfNat.ofNat k : UInt16).toNat = k := by
  show (BitVec.ofNat 16 k).toNat = k
  rw [BitVec.toNat_ofNat]; exact Nat.mod_eq_of_lt h
theorem toNat_shl_u16 (a : UInt16) (k : Nat) (h : k < 16) : (a <<< (OfNat.ofNat k : UInt16)).toNat = a.toNat * 2 ^ k % 65536 := by
  rw [UInt16.toNat_shiftLeft, lit_toNat_u16 k (by omega), Nat.mod_eq_of_lt h, Nat.shiftLeft_eq]
theorem toNat_shr_u16 (a : UInt16) (k : Nat) (h : k < 16) : (a >>> (OfNat.ofNat k : UInt16)).toNat = a.toNat / 2 ^ k := by
  rw [UInt16.toNat_shiftRight, lit_toNat_u16 k (by omega), Nat.mod_eq_of_lt h, Nat.shiftRight_eq_div_pow]
@[go_sem high] theorem shl_u16 (x : Int) (yk : IntKind) (k : Nat) (h : k < 16) : Op.shift .shl .u16 x yk (no_index (OfNat.ofNat k : Int)) = pure (.int .u16 (n16 (u16 x <<< (OfNat.ofNat k : UInt16)))) := by
  have e : ((OfNat.ofNat k : Int)).toNat = k := rfl
  rw [shift_shl_any _ _ _ _ (show (0 : Int) ≤ OfNat.ofNat k from Int.natCast_nonneg k), wrap_u16_any, e, Nat.min_eq_left (by show k ≤ 16; omega)]
  have e2 : (u16 x <<< (OfNat.ofNat k : UInt16)) = u16 (x * 2 ^ k) := by
    apply UInt16.toNat_inj.1
    rw [toNat_shl_u16 _ _ h]
    have h1 := n16_u16 x
    have h2 := n16_u16 (x * 2 ^ k)
    unfold n16 at h1 h2
    have h3 : (((u16 x).toNat * 2 ^ k % 65536 : Nat) : Int) = ((u16 (x * 2 ^ k)).toNat : Int) := by
      rw [h2, Int.natCast_emod, Int.natCast_mul, h1]
      simp [Int.mul_emod]
    exact_mod_cast h3
  rw [e2]
@[go_sem high] theorem shr_u16 (a : UInt16) (yk : IntKind) (k : Nat) (h : k < 16) : Op.shift .shr .u16 (n16 a) yk (no_index (OfNat.ofNat k : Int)) = pure (.int .u16 (n16 (a >>> (OfNat.ofNat k : UInt16)))) := by
  have e : ((OfNat.ofNat k : Int)).toNat = k := rfl
  rw [shift_shr_any _ _ _ _ (show (0 : Int) ≤ OfNat.ofNat k from Int.natCast_nonneg k), e, Nat.min_eq_left (by show k ≤ 16; omega)]
  unfold n16
  rw [toNat_shr_u16 _ _ h]
  simp
@[go_sem high] theorem unary_xor_u16 (x : Int) : Op.unary .xor (.int .u16 x) = pure (.int .u16 (n16 (~~~(u16 x)))) := by
  show Op.intBits .xor .u16 65535 x = _
  show (pure (.int .u16 (IntKind.u16.wrap ((BitVec.ofInt 16 65535 ^^^ BitVec.ofInt 16 x).toNat : Nat))) : Sem Value) = _
  rw [wrap_u16_any]
  have h : BitVec.ofInt 16 65535 = BitVec.allOnes 16 := by decide
  rw [h, BitVec.allOnes_xor]
  exact congrArg (fun t : UInt16 => (pure (.int .u16 (n16 t)) : Sem Value)) (u16_self (~~~(u16 x)))
@[go_sem] theorem u16_tdiv (a : UInt16) (k : Nat) (h : k < 65536) : u16 (Int.tdiv (n16 a) (no_index (OfNat.ofNat k : Int))) = a / (OfNat.ofNat k : UInt16) := by
  apply u16_of
  unfold n16
  rw [UInt16.toNat_div, lit_toNat_u16 k h]
  rfl
@[go_sem] theorem u16_tmod (a : UInt16) (k : Nat) (h : k < 65536) : Int.tmod (n16 a) (no_index (OfNat.ofNat k : Int)) = n16 (a % (OfNat.ofNat k : UInt16)) := by
  unfold n16
  rw [UInt16.toNat_mod, lit_toNat_u16 k h]
  rfl
@[go_sem] theorem beq_u16 (a b : UInt16) : (n16 a == n16 b) = (a == b) := by
  rw [Bool.eq_iff_iff]; simp only [beq_iff_eq]
  exact ⟨fun h => n16_inj h, fun h => by rw [h]⟩
@[go_sem] theorem bne_u16 (a b : UInt16) : (n16 a != n16 b) = (a != b) := by
  show (!(n16 a == n16 b)) = !(a == b)
  rw [beq_u16]
@[go_sem] theorem beq_u16_lit (a : UInt16) (k : Nat) (h : k < 65536) : (n16 a == (no_index (OfNat.ofNat k : Int))) = (a == (OfNat.ofNat k : UInt16)) := by
  rw [← beq_u16]
  congr 1
  unfold n16
  rw [lit_toNat_u16 k h]; rfl
@[go_sem] theorem bne_u16_lit (a : UInt16) (k : Nat) (h : k < 65536) : (n16 a != (no_index (OfNat.ofNat k : Int))) = (a != (OfNat.ofNat k : UInt16)) := by
  show (!(n16 a == (OfNat.ofNat k : Int))) = !(a == (OfNat.ofNat k : UInt16))
  rw [beq_u16_lit a k h]


def n32 (x : UInt32) : Int := (x.toNat : Int)
def u32 (x : Int) : UInt32 := UInt32.ofBitVec (BitVec.ofInt 32 x)
theorem n32_def (x : UInt32) : n32 x = (x.toNat : Int) := rfl
theorem n32_bd (x : UInt32) : 0 ≤ n32 x ∧ n32 x < 4294967296 := by have := x.toNat_lt; unfold n32; omega
theorem n32_toNat (x : UInt32) : (n32 x).toNat = x.toNat := rfl
theorem n32_inj {x y : UInt32} (h : n32 x = n32 y) : x = y := UInt32.toNat_inj.1 (by unfold n32 at h; omega)
@[go_sem] theorem cast_n32 (x : UInt32) : ((x.toNat : Nat) : Int) = n32 x := rfl
theorem n32_u32 (x : Int) : n32 (u32 x) = x % 4294967296 := by
  show ((BitVec.ofInt 32 x).toNat : Int) = _
  rw [BitVec.toNat_ofInt]
  have h : (0 : Int) ≤ x % 4294967296 := Int.emod_nonneg _ (by decide)
  simp [Int.toNat_of_nonneg h]
@[go_sem] theorem wrap_u32_any (e : Int) : IntKind.u32.wrap e = n32 (u32 e) := by
  rw [n32_u32]
  simp [IntKind.wrap, IntKind.bits, IntKind.signed]
@[go_sem] theorem u32_self (x : UInt32) : u32 (n32 x) = x := by
  show UInt32.ofBitVec (BitVec.ofInt 32 (x.toNat : Int)) = x
  rw [BitVec.ofInt_natCast]
  simp
theorem u32_of (x : Int) (y : UInt32) (h : x % 4294967296 = n32 y % 4294967296) : u32 x = y := by
  apply n32_inj; rw [n32_u32, h]; have := n32_bd y; omega
theorem u32_bv (x : Int) : (u32 x).toBitVec = BitVec.ofInt 32 x := rfl
@[go_sem] theorem u32_add (x y : Int) : u32 (x + y) = u32 x + u32 y := by
  apply UInt32.toBitVec_inj.1; rw [UInt32.toBitVec_add, u32_bv, u32_bv, u32_bv, BitVec.ofInt_add]
@[go_sem] theorem u32_mul (x y : Int) : u32 (x * y) = u32 x * u32 y := by
  apply UInt32.toBitVec_inj.1; rw [UInt32.toBitVec_mul, u32_bv, u32_bv, u32_bv, BitVec.ofInt_mul]
@[go_sem] theorem u32_neg (x : Int) : u32 (-x) = -u32 x := by
  apply UInt32.toBitVec_inj.1; rw [UInt32.toBitVec_neg, u32_bv, u32_bv, BitVec.ofInt_neg]
@[go_sem] theorem u32_sub (x y : Int) : u32 (x - y) = u32 x - u32 y := by
  rw [Int.sub_eq_add_neg, u32_add, u32_neg]
  apply UInt32.toBitVec_inj.1
  rw [UInt32.toBitVec_add, UInt32.toBitVec_sub, UInt32.toBitVec_neg, BitVec.sub_eq_add_neg]
@[go_sem] theorem u32_lit (k : Nat) : u32 (no_index (OfNat.ofNat k : Int)) = (OfNat.ofNat k : UInt32) := by
  apply UInt32.toBitVec_inj.1
  rw [u32_bv]
  exact BitVec.ofInt_natCast 32 k
@[go_sem] theorem u32_and (x y : Int) : bits .and .u32 x y = n32 (u32 x &&& u32 y) := by
  show IntKind.u32.wrap (((BitVec.ofInt 32 x &&& BitVec.ofInt 32 y).toNat : Nat) : Int) = _
  rw [wrap_u32_any]; exact congrArg n32 (u32_self (u32 x &&& u32 y))
@[go_sem] theorem u32_or (x y : Int) : bits .or .u32 x y = n32 (u32 x ||| u32 y) := by
  show IntKind.u32.wrap (((BitVec.ofInt 32 x ||| BitVec.ofInt 32 y).toNat : Nat) : Int) = _
  rw [wrap_u32_any]; exact congrArg n32 (u32_self (u32 x ||| u32 y))
@[go_sem] theorem u32_xor (x y : Int) : bits .xor .u32 x y = n32 (u32 x ^^^ u32 y) := by
  show IntKind.u32.wrap (((BitVec.ofInt 32 x ^^^ BitVec.ofInt 32 y).toNat : Nat) : Int) = _
  rw [wrap_u32_any]; exact congrArg n32 (u32_self (u32 x ^^^ u32 y))
@[go_sem] theorem u32_andNot (x y : Int) : bits .andNot .u32 x y = n32 (u32 x &&& ~~~(u32 y)) := by
  show IntKind.u32.wrap (((BitVec.ofInt 32 x &&& ~~~BitVec.ofInt 32 y).toNat : Nat) : Int) = _
  rw [wrap_u32_any]; exact congrArg n32 (u32_self (u32 x &&& ~~~(u32 y)))
theorem u32_of_nat (x : Nat) : u32 (x : Int) = UInt32.ofNat x := by
  apply UInt32.toNat_inj.1
  have h1 := n32_u32 (x : Int)
  have h2 : (UInt32.ofNat x).toNat = x % 4294967296 := BitVec.toNat_ofNat ..
  unfold n32 at h1
  omega
theorem lit_toNat_u32 (k : Nat) (h : k < 4294967296) : (OfNat.ofNat k : UInt32).toNat = k := by
  show (BitVec.ofNat 32 k).toNat = k
  rw [BitVec.toNat_ofNat]; exact Nat.mod_eq_of_lt h
theorem toNat_shl_u32 (a : UInt32) (k : Nat) (h : k < 32) : (a <<< (OfNat.ofNat k : UInt32)).toNat = a.toNat * 2 ^ k % 4294967296 := by
  rw [UInt32.toNat_shiftLeft, lit_toNat_u32 k (by omega), Nat.mod_eq_of_lt h, Nat.shiftLeft_eq]
theorem toNat_shr_u32 (a : UInt32) (k : Nat) (h : k < 32) : (a >>> (OfNat.ofNat k : UInt32)).toNat = a.toNat / 2 ^ k := by
  rw [UInt32.toNat_shiftRight, lit_toNat_u32 k (by omega), Nat.mod_eq_of_lt h, Nat.shiftRight_eq_div_pow]
@[go_sem high] theorem shl_u32 (x : Int) (yk : IntKind) (k : Nat) (h : k < 32) : Op.shift .shl .u32 x yk (no_index (OfNat.ofNat k : Int)) = pure (.int .u32 (n32 (u32 x <<< (OfNat.ofNat k : UInt32)))) := by
  have e : ((OfNat.ofNat k : Int)).toNat = k := rfl
  rw [shift_shl_any _ _ _ _ (show (0 : Int) ≤ OfNat.ofNat k from Int.natCast_nonneg k), wrap_u32_any, e, Nat.min_eq_left (by show k ≤ 32; omega)]
  have e2 : (u32 x <<< (OfNat.ofNat k : UInt32)) = u32 (x * 2 ^ k) := by
    apply UInt32.toNat_inj.1
    rw [toNat_shl_u32 _ _ h]
    have h1 := n32_u32 x
    have h2 := n32_u32 (x * 2 ^ k)
    unfold n32 at h1 h2
    have h3 : (((u32 x).toNat * 2 ^ k % 4294967296 : Nat) : Int) = ((u32 (x * 2 ^ k)).toNat : Int) := by
      rw [h2, Int.natCast_emod, Int.natCast_mul, h1]
      simp [Int.mul_emod]
    exact_mod_cast h3
  rw [e2]
@[go_sem high] theorem shr_u32 (a : UInt32) (yk : IntKind) (k : Nat) (h : k < 32) : Op.shift .shr .u32 (n32 a) yk (no_index (OfNat.ofNat k : Int)) = pure (.int .u32 (n32 (a >>> (OfNat.ofNat k : UInt32)))) := by
  have e : ((OfNat.ofNat k : Int)).toNat = k := rfl
  rw [shift_shr_any _ _ _ _ (show (0 : Int) ≤ OfNat.ofNat k from Int.natCast_nonneg k), e, Nat.min_eq_left (by show k ≤ 32; omega)]
  unfold n32
  rw [toNat_shr_u32 _ _ h]
  simp
@[go_sem high] theorem unary_xor_u32 (x : Int) : Op.unary .xor (.int .u32 x) = pure (.int .u32 (n32 (~~~(u32 x)))) := by
  show Op.intBits .xor .u32 4294967295 x = _
  show (pure (.int .u32 (IntKind.u32.wrap ((BitVec.ofInt 32 4294967295 ^^^ BitVec.ofInt 32 x).toNat : Nat))) : Sem Value) = _
  rw [wrap_u32_any]
  have h : BitVec.ofInt 32 4294967295 = BitVec.allOnes 32 := by decide
  rw [h, BitVec.allOnes_xor]
  exact congrArg (fun t : UInt32 => (pure (.int .u32 (n32 t)) : Sem Value)) (u32_self (~~~(u32 x)))
@[go_sem] theorem u32_tdiv (a : UInt32) (k : Nat) (h : k < 4294967296) : u32 (Int.tdiv (n32 a) (no_index (OfNat.ofNat k : Int))) = a / (OfNat.ofNat k : UInt32) := by
  apply u32_of
  unfold n32
  rw [UInt32.toNat_div, lit_toNat_u32 k h]
  rfl
@[go_sem] theorem u32_tmod (a : UInt32) (k : Nat) (h : k < 4294967296) : Int.tmod (n32 a) (no_index (OfNat.ofNat k : Int)) = n32 (a % (OfNat.ofNat k : UInt32)) := by
  unfold n32
  rw [UInt32.toNat_mod, lit_toNat_u32 k h]
  rfl
@[go_sem] theorem beq_u32 (a b : UInt32) : (n32 a == n32 b) = (a == b) := by
  rw [Bool.eq_iff_iff]; simp only [beq_iff_eq]
  exact ⟨fun h => n32_inj h, fun h => by rw [h]⟩
@[go_sem] theorem bne_u32 (a b : UInt32) : (n32 a != n32 b) = (a != b) := by
  show (!(n32 a == n32 b)) = !(a == b)
  rw [beq_u32]
@[go_sem] theorem beq_u32_lit (a : UInt32) (k : Nat) (h : k < 4294967296) : (n32 a == (no_index (OfNat.ofNat k : Int))) = (a == (OfNat.ofNat k : UInt32)) := by
  rw [← beq_u32]
  congr 1
  unfold n32
  rw [lit_toNat_u32 k h]; rfl
@[go_sem] theorem bne_u32_lit (a : UInt32) (k : Nat) (h : k < 4294967296) : (n32 a != (no_index (OfNat.ofNat k : Int))) = (a != (OfNat.ofNat k : UInt32)) := by
  show (!(n32 a == (OfNat.ofNat k : Int))) = !(a == (OfNat.ofNat k : UInt32))
  rw [beq_u32_lit a k h]


def n64 (x : UInt64) : Int := (x.toNat : Int)
def u64 (x : Int) : UInt64 := UInt64.ofBitVec (BitVec.ofInt 64 x)
theorem n64_def (x : UInt64) : n64 x = (x.toNat : Int) := rfl
theorem n64_bd (x : UInt64) : 0 ≤ n64 x ∧ n64 x < 18446744073709551616 := by have := x.toNat_lt; unfold n64; omega
theorem n64_toNat (x : UInt64) : (n64 x).toNat = x.toNat := rfl
theorem n64_inj {x y : UInt64} (h : n64 x = n64 y) : x = y := UInt64.toNat_inj.1 (by unfold n64 at h; omega)
@[go_sem] theorem cast_n64 (x : UInt64) : ((x.toNat : Nat) : Int) = n64 x := rfl
theorem n64_u64 (x : Int) : n64 (u64 x) = x % 18446744073709551616 := by
  show ((BitVec.ofInt 64 x).toNat : Int) = _
  rw [BitVec.toNat_ofInt]
  have h : (0 : Int) ≤ x % 18446744073709551616 := Int.emod_nonneg _ (by decide)
  simp [Int.toNat_of_nonneg h]
@[go_sem] theorem wrap_u64_any (e : Int) : IntKind.u64.wrap e = n64 (u64 e) := by
  rw [n64_u64]
  simp [IntKind.wrap, IntKind.bits, IntKind.signed]
@[go_sem] theorem u64_self (x : UInt64) : u64 (n64 x) = x := by
  show UInt64.ofBitVec (BitVec.ofInt 64 (x.toNat : Int)) = x
  rw [BitVec.ofInt_natCast]
  simp
theorem u64_of (x : Int) (y : UInt64) (h : x % 18446744073709551616 = n64 y % 18446744073709551616) : u64 x = y := by
  apply n64_inj; rw [n64_u64, h]; have := n64_bd y; omega
theorem u64_bv (x : Int) : (u64 x).toBitVec = BitVec.ofInt 64 x := rfl
@[go_sem] theorem u64_add (x y : Int) : u64 (x + y) = u64 x + u64 y := by
  apply UInt64.toBitVec_inj.1; rw [UInt64.toBitVec_add, u64_bv, u64_bv, u64_bv, BitVec.ofInt_add]
@[go_sem] theorem u64_mul (x y : Int) : u64 (x * y) = u64 x * u64 y := by
  apply UInt64.toBitVec_inj.1; rw [UInt64.toBitVec_mul, u64_bv, u64_bv, u64_bv, BitVec.ofInt_mul]
@[go_sem] theorem u64_neg (x : Int) : u64 (-x) = -u64 x := by
  apply UInt64.toBitVec_inj.1; rw [UInt64.toBitVec_neg, u64_bv, u64_bv, BitVec.ofInt_neg]
@[go_sem] theorem u64_sub (x y : Int) : u64 (x - y) = u64 x - u64 y := by
  rw [Int.sub_eq_add_neg, u64_add, u64_neg]
  apply UInt64.toBitVec_inj.1
  rw [UInt64.toBitVec_add, UInt64.toBitVec_sub, UInt64.toBitVec_neg, BitVec.sub_eq_add_neg]
@[go_sem] theorem u64_lit (k : Nat) : u64 (no_index (OfNat.ofNat k : Int)) = (OfNat.ofNat k : UInt64) := by
  apply UInt64.toBitVec_inj.1
  rw [u64_bv]
  exact BitVec.ofInt_natCast 64 k
@[go_sem] theorem u64_and (x y : Int) : bits .and .u64 x y = n64 (u64 x &&& u64 y) := by
  show IntKind.u64.wrap (((BitVec.ofInt 64 x &&& BitVec.ofInt 64 y).toNat : Nat) : Int) = _
  rw [wrap_u64_any]; exact congrArg n64 (u64_self (u64 x &&& u64 y))
@[go_sem] theorem u64_or (x y : Int) : bits .or .u64 x y = n64 (u64 x ||| u64 y) := by
  show IntKind.u64.wrap (((BitVec.ofInt 64 x ||| BitVec.ofInt 64 y).toNat : Nat) : Int) = _
  rw [wrap_u64_any]; exact congrArg n64 (u64_self (u64 x ||| u64 y))
@[go_sem] theorem u64_xor (x y : Int) : bits .xor .u64 x y = n64 (u64 x ^^^ u64 y) := by
  show IntKind.u64.wrap (((BitVec.ofInt 64 x ^^^ BitVec.ofInt 64 y).toNat : Nat) : Int) = _
  rw [wrap_u64_any]; exact congrArg n64 (u64_self (u64 x ^^^ u64 y))
@[go_sem] theorem u64_andNot (x y : Int) : bits .andNot .u64 x y = n64 (u64 x &&& ~~~(u64 y)) := by
  show IntKind.u64.wrap (((BitVec.ofInt 64 x &&& ~~~BitVec.ofInt 64 y).toNat : Nat) : Int) = _
  rw [wrap_u64_any]; exact congrArg n64 (u64_self (u64 x &&& ~~~(u64 y)))
theorem u64_of_nat (x : Nat) : u64 (x : Int) = UInt64.ofNat x := by
  apply UInt64.toNat_inj.1
  have h1 := n64_u64 (x : Int)
  have h2 : (UInt64.ofNat x).toNat = x % 18446744073709551616 := BitVec.toNat_ofNat ..
  unfold n64 at h1
  omega
theorem lit_toNat_u64 (k : Nat) (h : k < 18446744073709551616) : (OfNat.ofNat k : UInt64).toNat = k := by
  show (BitVec.ofNat 64 k).toNat = k
  rw [BitVec.toNat_ofNat]; exact Nat.mod_eq_of_lt h
theorem toNat_shl_u64 (a : UInt64) (k : Nat) (h : k < 64) : (a <<< (OfNat.ofNat k : UInt64)).toNat = a.toNat * 2 ^ k % 18446744073709551616 := by
  rw [UInt64.toNat_shiftLeft, lit_toNat_u64 k (by omega), Nat.mod_eq_of_lt h, Nat.shiftLeft_eq]
theorem toNat_shr_u64 (a : UInt64) (k : Nat) (h : k < 64) : (a >>> (OfNat.ofNat k : UInt64)).toNat = a.toNat / 2 ^ k := by
  rw [UInt64.toNat_shiftRight, lit_toNat_u64 k (by omega), Nat.mod_eq_of_lt h, Nat.shiftRight_eq_div_pow]
@[go_sem high] theorem shl_u64 (x : Int) (yk : IntKind) (k : Nat) (h : k < 64) : Op.shift .shl .u64 x yk (no_index (OfNat.ofNat k : Int)) = pure (.int .u64 (n64 (u64 x <<< (OfNat.ofNat k : UInt64)))) := by
  have e : ((OfNat.ofNat k : Int)).toNat = k := rfl
  rw [shift_shl_any _ _ _ _ (show (0 : Int) ≤ OfNat.ofNat k from Int.natCast_nonneg k), wrap_u64_any, e, Nat.min_eq_left (by show k ≤ 64; omega)]
  have e2 : (u64 x <<< (OfNat.ofNat k : UInt64)) = u64 (x * 2 ^ k) := by
    apply UInt64.toNat_inj.1
    rw [toNat_shl_u64 _ _ h]
    have h1 := n64_u64 x
    have h2 := n64_u64 (x * 2 ^ k)
    unfold n64 at h1 h2
    have h3 : (((u64 x).toNat * 2 ^ k % 18446744073709551616 : Nat) : Int) = ((u64 (x * 2 ^ k)).toNat : Int) := by
      rw [h2, Int.natCast_emod, Int.natCast_mul, h1]
      simp [Int.mul_emod]
    exact_mod_cast h3
  rw [e2]
@[go_sem high] theorem shr_u64 (a : UInt64) (yk : IntKind) (k : Nat) (h : k < 64) : Op.shift .shr .u64 (n64 a) yk (no_index (OfNat.ofNat k : Int)) = pure (.int .u64 (n64 (a >>> (OfNat.ofNat k : UInt64)))) := by
  have e : ((OfNat.ofNat k : Int)).toNat = k := rfl
  rw [shift_shr_any _ _ _ _ (show (0 : Int) ≤ OfNat.ofNat k from Int.natCast_nonneg k), e, Nat.min_eq_left (by show k ≤ 64; omega)]
  unfold n64
  rw [toNat_shr_u64 _ _ h]
  simp
@[go_sem high] theorem unary_xor_u64 (x : Int) : Op.unary .xor (.int .u64 x) = pure (.int .u64 (n64 (~~~(u64 x)))) := by
  show Op.intBits .xor .u64 18446744073709551615 x = _
  show (pure (.int .u64 (IntKind.u64.wrap ((BitVec.ofInt 64 18446744073709551615 ^^^ BitVec.ofInt 64 x).toNat : Nat))) : Sem Value) = _
  rw [wrap_u64_any]
  have h : BitVec.ofInt 64 18446744073709551615 = BitVec.allOnes 64 := by decide
  rw [h, BitVec.allOnes_xor]
  exact congrArg (fun t : UInt64 => (pure (.int .u64 (n64 t)) : Sem Value)) (u64_self (~~~(u64 x)))
@[go_sem] theorem u64_tdiv (a : UInt64) (k : Nat) (h : k < 18446744073709551616) : u64 (Int.tdiv (n64 a) (no_index (OfNat.ofNat k : Int))) = a / (OfNat.ofNat k : UInt64) := by
  apply u64_of
  unfold n64
  rw [UInt64.toNat_div, lit_toNat_u64 k h]
  rfl
@[go_sem] theorem u64_tmod (a : UInt64) (k : Nat) (h : k < 18446744073709551616) : Int.tmod (n64 a) (no_index (OfNat.ofNat k : Int)) = n64 (a % (OfNat.ofNat k : UInt64)) := by
  unfold n64
  rw [UInt64.toNat_mod, lit_toNat_u64 k h]
  rfl
@[go_sem] theorem beq_u64 (a b : UInt64) : (n64 a == n64 b) = (a == b) := by
  rw [Bool.eq_iff_iff]; simp only [beq_iff_eq]
  exact ⟨fun h => n64_inj h, fun h => by rw [h]⟩
@[go_sem] theorem bne_u64 (a b : UInt64) : (n64 a != n64 b) = (a != b) := by
  show (!(n64 a == n64 b)) = !(a == b)
  rw [beq_u64]
@[go_sem] theorem beq_u64_lit (a : UInt64) (k : Nat) (h : k < 18446744073709551616) : (n64 a == (no_index (OfNat.ofNat k : Int))) = (a == (OfNat.ofNat k : UInt64)) := by
  rw [← beq_u64]
  congr 1
  unfold n64
  rw [lit_toNat_u64 k h]; rfl
@[go_sem] theorem bne_u64_lit (a : UInt64) (k : Nat) (h : k < 18446744073709551616) : (n64 a != (no_index (OfNat.ofNat k : Int))) = (a != (OfNat.ofNat k : UInt64)) := by
  show (!(n64 a == (OfNat.ofNat k : Int))) = !(a == (OfNat.ofNat k : UInt64))
  rw [beq_u64_lit a k h]

@[go_sem] theorem u16_of_u8 (x : UInt8) : u16 (n8 x) = x.toUInt16 := by
  apply u16_of
  unfold n8 n16
  rw [UInt8.toNat_toUInt16]
@[go_sem] theorem u32_of_u8 (x : UInt8) : u32 (n8 x) = x.toUInt32 := by
  apply u32_of
  unfold n8 n32
  rw [UInt8.toNat_toUInt32]
@[go_sem] theorem u64_of_u8 (x : UInt8) : u64 (n8 x) = x.toUInt64 := by
  apply u64_of
  unfold n8 n64
  rw [UInt8.toNat_toUInt64]
@[go_sem] theorem i16_of_u8 (x : UInt8) : IntKind.i16.wrap (n8 x) = n8 x := by
  have := n8_bd x
  exact IntWalk.i16_in _ (by omega)
@[go_sem] theorem i32_of_u8 (x : UInt8) : IntKind.i32.wrap (n8 x) = n8 x := by
  have := n8_bd x
  exact IntWalk.i32_in _ (by omega)
@[go_sem] theorem i64_of_u8 (x : UInt8) : IntKind.i64.wrap (n8 x) = n8 x := by
  have := n8_bd x
  exact IntWalk.i64_in _ (by omega)
@[go_sem] theorem u8_of_u16 (x : UInt16) : u8 (n16 x) = x.toUInt8 := by
  apply u8_of
  unfold n16 n8
  rw [UInt16.toNat_toUInt8]
  try omega
@[go_sem] theorem u32_of_u16 (x : UInt16) : u32 (n16 x) = x.toUInt32 := by
  apply u32_of
  unfold n16 n32
  rw [UInt16.toNat_toUInt32]
@[go_sem] theorem u64_of_u16 (x : UInt16) : u64 (n16 x) = x.toUInt64 := by
  apply u64_of
  unfold n16 n64
  rw [UInt16.toNat_toUInt64]
@[go_sem] theorem i32_of_u16 (x : UInt16) : IntKind.i32.wrap (n16 x) = n16 x := by
  have := n16_bd x
  exact IntWalk.i32_in _ (by omega)
@[go_sem] theorem i64_of_u16 (x : UInt16) : IntKind.i64.wrap (n16 x) = n16 x := by
  have := n16_bd x
  exact IntWalk.i64_in _ (by omega)
@[go_sem] theorem u8_of_u32 (x : UInt32) : u8 (n32 x) = x.toUInt8 := by
  apply u8_of
  unfold n32 n8
  rw [UInt32.toNat_toUInt8]
  try omega
@[go_sem] theorem u16_of_u32 (x : UInt32) : u16 (n32 x) = x.toUInt16 := by
  apply u16_of
  unfold n32 n16
  rw [UInt32.toNat_toUInt16]
  try omega
@[go_sem] theorem u64_of_u32 (x : UInt32) : u64 (n32 x) = x.toUInt64 := by
  apply u64_of
  unfold n32 n64
  rw [UInt32.toNat_toUInt64]
@[go_sem] theorem i64_of_u32 (x : UInt32) : IntKind.i64.wrap (n32 x) = n32 x := by
  have := n32_bd x
  exact IntWalk.i64_in _ (by omega)
@[go_sem] theorem u8_of_u64 (x : UInt64) : u8 (n64 x) = x.toUInt8 := by
  apply u8_of
  unfold n64 n8
  rw [UInt64.toNat_toUInt8]
  try omega
@[go_sem] theorem u16_of_u64 (x : UInt64) : u16 (n64 x) = x.toUInt16 := by
  apply u16_of
  unfold n64 n16
  rw [UInt64.toNat_toUInt16]
  try omega
@[go_sem] theorem u32_of_u64 (x : UInt64) : u32 (n64 x) = x.toUInt32 := by
  apply u32_of
  unfold n64 n32
  rw [UInt64.toNat_toUInt32]
  try omega
end Go.Cv
