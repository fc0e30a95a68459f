/-
  Walks of the layer hash: words turned, and mixed.
-/
import Derived.Test.YtnlphndfnnmdaaaDoorTail
import Derived.Test.YtnlphndfnnmdaaaDoorProg
import Derived.Test.YtnlphndfnnmdaaaDoorDig
import Derived.BigRegion
import Derived.BigQuiet
import Derived.WalkSmall
set_option linter.unusedSimpArgs false
set_option linter.unusedVariables false
namespace Go.Cv.Hash
open Go.RowKit
/-- A word turned right. -/
def rot32 (x : UInt32) (n : Nat) : UInt32 := x <<< UInt32.ofNat (32 - n) ||| x >>> UInt32.ofNat n
/-- Three places. -/
def small32 (x : UInt32) (a b c : Nat) : UInt32 := rot32 x a ^^^ rot32 x b ^^^ x >>> UInt32.ofNat c
def great32 (x : UInt32) (a b c : Nat) : UInt32 := rot32 x a ^^^ rot32 x b ^^^ rot32 x c
theorem ofNat_toNat32 (s : Nat) (h : s < 32) : (UInt32.ofNat s).toNat = s := by
  rw [UInt32.toNat_ofNat']; omega
theorem shl_run32 (x : UInt32) (yk : IntKind) (s : Nat) (h : s < 32) : Op.shift .shl .u32 (n32 x) yk (s : Int) = pure (.int .u32 (n32 (x <<< UInt32.ofNat s))) := by
  unfold Op.shift
  rw [if_neg (by omega)]
  have e : min ((s : Int)).toNat (IntKind.u32).bits = s := by show min s 32 = s; omega
  simp only [e]
  congr 2
  rw [wrap_u32_any, n32_u32]
  show ((x.toNat : Int) * 2 ^ s) % _ = (((x <<< UInt32.ofNat s).toNat : Nat) : Int)
  rw [UInt32.toNat_shiftLeft, ofNat_toNat32 s h, Nat.mod_eq_of_lt h, Nat.shiftLeft_eq]
  simp
theorem shr_eq32 (x : UInt32) (s : Nat) (h : s < 32) : n32 x / 2 ^ s = n32 (x >>> UInt32.ofNat s) := by
  show (x.toNat : Int) / 2 ^ s = (((x >>> UInt32.ofNat s).toNat : Nat) : Int)
  rw [UInt32.toNat_shiftRight, ofNat_toNat32 s h, Nat.mod_eq_of_lt h, Nat.shiftRight_eq_div_pow]
  simp
theorem and_turn32 (n : Nat) (h0 : 0 < n) (h1 : n < 32) : n64 (-u64 (n : Int) &&& 31) = ((32 - n : Nat) : Int) := by
  show (((-u64 (n : Int) &&& 31).toNat : Nat) : Int) = _
  rw [UInt64.toNat_and]
  have h2 : ((-u64 (n : Int)).toNat : Int) = (-(n : Int)) % 18446744073709551616 := by rw [← u64_neg]; exact n64_u64 _
  have h3 : (31 : UInt64).toNat = 2 ^ 5 - 1 := rfl
  rw [h3, Nat.and_two_pow_sub_one_eq_mod]
  omega
theorem sub_turn32 (n : Nat) (h1 : n < 32) : n64 (32 - u64 (((32 - n : Nat)) : Int)) = (n : Int) := by
  have e : ((32 : UInt64) - u64 (((32 - n : Nat)) : Int)) = u64 (n : Int) := by
    rw [show (32 : UInt64) = u64 (32 : Int) from rfl, ← u64_sub]
    congr 1
    omega
  rw [e, n64_u64]
  omega
/-- A word turned right. -/
def rot64 (x : UInt64) (n : Nat) : UInt64 := x <<< UInt64.ofNat (64 - n) ||| x >>> UInt64.ofNat n
/-- Three places. -/
def small64 (x : UInt64) (a b c : Nat) : UInt64 := rot64 x a ^^^ rot64 x b ^^^ x >>> UInt64.ofNat c
def great64 (x : UInt64) (a b c : Nat) : UInt64 := rot64 x a ^^^ rot64 x b ^^^ rot64 x c
theorem ofNat_toNat64 (s : Nat) (h : s < 64) : (UInt64.ofNat s).toNat = s := by
  rw [UInt64.toNat_ofNat']; omega
theorem shl_run64 (x : UInt64) (yk : IntKind) (s : Nat) (h : s < 64) : Op.shift .shl .u64 (n64 x) yk (s : Int) = pure (.int .u64 (n64 (x <<< UInt64.ofNat s))) := by
  unfold Op.shift
  rw [if_neg (by omega)]
  have e : min ((s : Int)).toNat (IntKind.u64).bits = s := by show min s 64 = s; omega
  simp only [e]
  congr 2
  rw [wrap_u64_any, n64_u64]
  show ((x.toNat : Int) * 2 ^ s) % _ = (((x <<< UInt64.ofNat s).toNat : Nat) : Int)
  rw [UInt64.toNat_shiftLeft, ofNat_toNat64 s h, Nat.mod_eq_of_lt h, Nat.shiftLeft_eq]
  simp
theorem shr_eq64 (x : UInt64) (s : Nat) (h : s < 64) : n64 x / 2 ^ s = n64 (x >>> UInt64.ofNat s) := by
  show (x.toNat : Int) / 2 ^ s = (((x >>> UInt64.ofNat s).toNat : Nat) : Int)
  rw [UInt64.toNat_shiftRight, ofNat_toNat64 s h, Nat.mod_eq_of_lt h, Nat.shiftRight_eq_div_pow]
  simp
theorem and_turn64 (n : Nat) (h0 : 0 < n) (h1 : n < 64) : n64 (-u64 (n : Int) &&& 63) = ((64 - n : Nat) : Int) := by
  show (((-u64 (n : Int) &&& 63).toNat : Nat) : Int) = _
  rw [UInt64.toNat_and]
  have h2 : ((-u64 (n : Int)).toNat : Int) = (-(n : Int)) % 18446744073709551616 := by rw [← u64_neg]; exact n64_u64 _
  have h3 : (63 : UInt64).toNat = 2 ^ 6 - 1 := rfl
  rw [h3, Nat.and_two_pow_sub_one_eq_mod]
  omega
theorem sub_turn64 (n : Nat) (h1 : n < 64) : n64 (64 - u64 (((64 - n : Nat)) : Int)) = (n : Int) := by
  have e : ((64 : UInt64) - u64 (((64 - n : Nat)) : Int)) = u64 (n : Int) := by
    rw [show (64 : UInt64) = u64 (64 : Int) from rfl, ← u64_sub]
    congr 1
    omega
  rw [e, n64_u64]
  omega
end Go.Cv.Hash
namespace Go.Proofs.YtnlphndfnnmdaaaDoor
open Go.RowKit Go.Cv Go.Cv.Hash Go.Cv.Dig
theorem ta32 (z : Int) (w : World) : (Instr.typeAssert (.iface 41 (.int .u32 z)) 20 41 true).run Tryd.prog w = .ok (.tuple #[.int .u32 z, .bool true]) w := by kernel_rfl
theorem ta64 (z : Int) (w : World) : (Instr.typeAssert (.iface 46 (.int .u64 z)) 20 41 true).run Tryd.prog w = .ok (.tuple #[.int .u32 0, .bool false]) w := by kernel_rfl
set_option maxHeartbeats 2000000 in
theorem rl32 (x : UInt32) (n : Nat) (w : World) (h0 : 0 < n) (h1 : n < 32) :
    Calls Tryd.prog 36 #[.int .u32 (n32 x), .int .i64 (-(n : Int))] w fun e w' => e = .returned (.int .u32 (n32 (rot32 x n))) ∧ w' = w := by
  have hs := and_turn32 n h0 h1
  have hs2 := sub_turn32 n h1
  have hl := fun yk => shl_run32 x yk (32 - n) (by omega)
  have hr := shr_eq32 x n h1
  have e : rot32 x n = x <<< UInt32.ofNat (32 - n) ||| x >>> UInt32.ofNat n := rfl
  rw [e]
  clear e
  generalize 32 - n = s at *
  generalize x <<< UInt32.ofNat s = y at *
  generalize x >>> UInt32.ofNat n = z at *
  go_enter Tryd.func36, Tryd.ntmps36
  go_wp2
  go_ret
  exact ⟨rfl, rfl⟩
set_option maxHeartbeats 2000000 in
theorem rot_32 (x : UInt32) (n : Nat) (w : World) (h0 : 0 < n) (h1 : n < 32) :
    Calls Tryd.prog 33 #[.int .u32 (n32 x), .int .i64 n] w fun e w' => e = .returned (.int .u32 (n32 (rot32 x n))) ∧ w' = w := by
  have hrl := fun w => rl32 x n w h0 h1
  have hta := ta32
  generalize rot32 x n = y at *
  go_enter Tryd.func33, Tryd.ntmps33
  go_wp2_with (go_at_call 36; with_reducible refine (hrl _).mono ?_; rintro e w2 ⟨rfl, rfl⟩)
  go_ret
  exact ⟨rfl, rfl⟩
set_option maxHeartbeats 400000 in
theorem small_32 (x : UInt32) (a b c : Nat) (w : World) (ha : 0 < a) (ha1 : a < 32) (hb : 0 < b) (hb1 : b < 32) (hc1 : c < 32) :
    Calls Tryd.prog 27 #[.int .u32 (n32 x), .agg #[.int .i64 a, .int .i64 b, .int .i64 c]] w fun e w' => e = .returned (.int .u32 (n32 (small32 x a b c))) ∧ Ext w w' := by
  have h1 := fun w => rot_32 x a w ha ha1
  have h2 := fun w => rot_32 x b w hb hb1
  have h3 := shr_eq32 x c hc1
  have hc0 : 0 ≤ (c : Int) := by omega
  have hc2 : (c : Int) ≤ 32 := by omega
  have e : small32 x a b c = rot32 x a ^^^ rot32 x b ^^^ x >>> UInt32.ofNat c := rfl
  rw [e]
  clear e
  generalize rot32 x a = y1 at *
  generalize rot32 x b = y2 at *
  generalize x >>> UInt32.ofNat c = y3 at *
  go_enter Tryd.func27, Tryd.ntmps27
  go_wp2
  go_quiet (first
    | (go_at_call 33; with_reducible exact Calls.quiet_of_same (h1 _))
    | (go_at_call 33; with_reducible exact Calls.quiet_of_same (h2 _)))
  go_wp2
  go_ret
  exact ⟨rfl, Ext.drewN (ext_alloc _ _) _⟩
set_option maxHeartbeats 400000 in
theorem great_32 (x : UInt32) (a b c : Nat) (w : World) (ha : 0 < a) (ha1 : a < 32) (hb : 0 < b) (hb1 : b < 32) (hc : 0 < c) (hc1 : c < 32) :
    Calls Tryd.prog 28 #[.int .u32 (n32 x), .agg #[.int .i64 a, .int .i64 b, .int .i64 c]] w fun e w' => e = .returned (.int .u32 (n32 (great32 x a b c))) ∧ Ext w w' := by
  have h1 := fun w => rot_32 x a w ha ha1
  have h2 := fun w => rot_32 x b w hb hb1
  have h3 := fun w => rot_32 x c w hc hc1
  have e : great32 x a b c = rot32 x a ^^^ rot32 x b ^^^ rot32 x c := rfl
  rw [e]
  clear e
  generalize rot32 x a = y1 at *
  generalize rot32 x b = y2 at *
  generalize rot32 x c = y3 at *
  go_enter Tryd.func28, Tryd.ntmps28
  go_wp2
  go_quiet (first
    | (go_at_call 33; with_reducible exact Calls.quiet_of_same (h1 _))
    | (go_at_call 33; with_reducible exact Calls.quiet_of_same (h2 _))
    | (go_at_call 33; with_reducible exact Calls.quiet_of_same (h3 _)))
  go_wp2
  go_ret
  exact ⟨rfl, Ext.drewN (ext_alloc _ _) _⟩
set_option maxHeartbeats 2000000 in
theorem rl64 (x : UInt64) (n : Nat) (w : World) (h0 : 0 < n) (h1 : n < 64) :
    Calls Tryd.prog 37 #[.int .u64 (n64 x), .int .i64 (-(n : Int))] w fun e w' => e = .returned (.int .u64 (n64 (rot64 x n))) ∧ w' = w := by
  have hs := and_turn64 n h0 h1
  have hs2 := sub_turn64 n h1
  have hl := fun yk => shl_run64 x yk (64 - n) (by omega)
  have hr := shr_eq64 x n h1
  have e : rot64 x n = x <<< UInt64.ofNat (64 - n) ||| x >>> UInt64.ofNat n := rfl
  rw [e]
  clear e
  generalize 64 - n = s at *
  generalize x <<< UInt64.ofNat s = y at *
  generalize x >>> UInt64.ofNat n = z at *
  go_enter Tryd.func37, Tryd.ntmps37
  go_wp2
  go_ret
  exact ⟨rfl, rfl⟩
set_option maxHeartbeats 2000000 in
theorem rot_64 (x : UInt64) (n : Nat) (w : World) (h0 : 0 < n) (h1 : n < 64) :
    Calls Tryd.prog 34 #[.int .u64 (n64 x), .int .i64 n] w fun e w' => e = .returned (.int .u64 (n64 (rot64 x n))) ∧ w' = w := by
  have hrl := fun w => rl64 x n w h0 h1
  have hta := ta64
  generalize rot64 x n = y at *
  go_enter Tryd.func34, Tryd.ntmps34
  go_wp2_with (go_at_call 37; with_reducible refine (hrl _).mono ?_; rintro e w2 ⟨rfl, rfl⟩)
  go_ret
  exact ⟨rfl, rfl⟩
set_option maxHeartbeats 400000 in
theorem small_64 (x : UInt64) (a b c : Nat) (w : World) (ha : 0 < a) (ha1 : a < 64) (hb : 0 < b) (hb1 : b < 64) (hc1 : c < 64) :
    Calls Tryd.prog 29 #[.int .u64 (n64 x), .agg #[.int .i64 a, .int .i64 b, .int .i64 c]] w fun e w' => e = .returned (.int .u64 (n64 (small64 x a b c))) ∧ Ext w w' := by
  have h1 := fun w => rot_64 x a w ha ha1
  have h2 := fun w => rot_64 x b w hb hb1
  have h3 := shr_eq64 x c hc1
  have hc0 : 0 ≤ (c : Int) := by omega
  have hc2 : (c : Int) ≤ 64 := by omega
  have e : small64 x a b c = rot64 x a ^^^ rot64 x b ^^^ x >>> UInt64.ofNat c := rfl
  rw [e]
  clear e
  generalize rot64 x a = y1 at *
  generalize rot64 x b = y2 at *
  generalize x >>> UInt64.ofNat c = y3 at *
  go_enter Tryd.func29, Tryd.ntmps29
  go_wp2
  go_quiet (first
    | (go_at_call 34; with_reducible exact Calls.quiet_of_same (h1 _))
    | (go_at_call 34; with_reducible exact Calls.quiet_of_same (h2 _)))
  go_wp2
  go_ret
  exact ⟨rfl, Ext.drewN (ext_alloc _ _) _⟩
set_option maxHeartbeats 400000 in
theorem great_64 (x : UInt64) (a b c : Nat) (w : World) (ha : 0 < a) (ha1 : a < 64) (hb : 0 < b) (hb1 : b < 64) (hc : 0 < c) (hc1 : c < 64) :
    Calls Tryd.prog 30 #[.int .u64 (n64 x), .agg #[.int .i64 a, .int .i64 b, .int .i64 c]] w fun e w' => e = .returned (.int .u64 (n64 (great64 x a b c))) ∧ Ext w w' := by
  have h1 := fun w => rot_64 x a w ha ha1
  have h2 := fun w => rot_64 x b w hb hb1
  have h3 := fun w => rot_64 x c w hc hc1
  have e : great64 x a b c = rot64 x a ^^^ rot64 x b ^^^ rot64 x c := rfl
  rw [e]
  clear e
  generalize rot64 x a = y1 at *
  generalize rot64 x b = y2 at *
  generalize rot64 x c = y3 at *
  go_enter Tryd.func30, Tryd.ntmps30
  go_wp2
  go_quiet (first
    | (go_at_call 34; with_reducible exact Calls.quiet_of_same (h1 _))
    | (go_at_call 34; with_reducible exact Calls.quiet_of_same (h2 _))
    | (go_at_call 34; with_reducible exact Calls.quiet_of_same (h3 _)))
  go_wp2
  go_ret
  exact ⟨rfl, Ext.drewN (ext_alloc _ _) _⟩
end Go.Proofs.YtnlphndfnnmdaaaDoor
