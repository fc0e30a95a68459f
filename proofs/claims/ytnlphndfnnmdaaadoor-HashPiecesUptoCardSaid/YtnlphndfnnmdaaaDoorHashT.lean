/-
  The document's answer of layer 5 reckons the published digests: plain law.
-/
import Derived.Test.YtnlphndfnnmdaaaDoorHashS
set_option linter.unusedSimpArgs false
set_option linter.unusedVariables false
namespace Go.Cv.Hash
open Go.RowKit
abbrev ex (x : UInt32) : UInt64 := x.toUInt64
theorem mask32 (u : UInt64) : u &&& 4294967295 = ex u.toUInt32 := by
  apply UInt64.toNat_inj.1
  rw [UInt64.toNat_and]
  show u.toNat &&& 4294967295 = (u.toUInt32).toUInt64.toNat
  rw [UInt32.toNat_toUInt64, UInt64.toNat_toUInt32]
  exact Nat.and_two_pow_sub_one_eq_mod _ 32
theorem ex_low (x : UInt32) : (ex x).toUInt32 = x := by
  apply UInt32.toNat_inj.1
  rw [UInt64.toNat_toUInt32, UInt32.toNat_toUInt64]
  have := x.toNat_lt
  omega
theorem ex_and (x y : UInt32) : ex x &&& ex y = ex (x &&& y) := by
  apply UInt64.toNat_inj.1
  simp
theorem ex_xor (x y : UInt32) : ex x ^^^ ex y = ex (x ^^^ y) := by
  apply UInt64.toNat_inj.1
  simp
theorem ex_not (x : UInt32) : 4294967295 ^^^ ex x = ex (~~~x) := by
  have h : (4294967295 : UInt64) = ex 4294967295 := rfl
  rw [h, ex_xor]
  congr 1
theorem ex_shr (x : UInt32) (k : Nat) (hk : k < 32) : ex x >>> UInt64.ofNat k = ex (x >>> UInt32.ofNat k) := by
  apply UInt64.toNat_inj.1
  rw [UInt64.toNat_shiftRight, UInt32.toNat_toUInt64, UInt32.toNat_toUInt64, UInt32.toNat_shiftRight, ofNat_toNat64 k (by omega), ofNat_toNat32 k hk, Nat.mod_eq_of_lt (show k < 64 by omega), Nat.mod_eq_of_lt hk]
theorem low_shl (x : UInt32) (k : Nat) (hk : k < 32) : (ex x <<< UInt64.ofNat k).toUInt32 = x <<< UInt32.ofNat k := by
  apply UInt32.toNat_inj.1
  rw [UInt64.toNat_toUInt32, UInt64.toNat_shiftLeft, UInt32.toNat_toUInt64, UInt32.toNat_shiftLeft, ofNat_toNat64 k (by omega), ofNat_toNat32 k hk, Nat.mod_eq_of_lt (show k < 64 by omega), Nat.mod_eq_of_lt hk]
  generalize x.toNat <<< k = z
  omega
theorem rotG_32 (x : UInt32) (k : Nat) (h0 : 0 < k) (h1 : k < 32) : rotG 32 4294967295 (ex x) k = ex (rot32 x k) := by
  unfold rotG rot32
  rw [mask32, ex_shr x k h1, UInt64.toUInt32_or, ex_low, low_shl x (32 - k) (by omega), UInt32.or_comm]
theorem smallG_32 (x : UInt32) (i j k : Nat) (hi : 0 < i) (hi1 : i < 32) (hj : 0 < j) (hj1 : j < 32) (hk : k < 32) : smallG 32 4294967295 (ex x) i j k = ex (small32 x i j k) := by
  unfold smallG small32
  rw [rotG_32 x i hi hi1, rotG_32 x j hj hj1, ex_shr x k hk, ex_xor, ex_xor]
theorem greatG_32 (x : UInt32) (i j k : Nat) (hi : 0 < i) (hi1 : i < 32) (hj : 0 < j) (hj1 : j < 32) (hk0 : 0 < k) (hk : k < 32) : greatG 32 4294967295 (ex x) i j k = ex (great32 x i j k) := by
  unfold greatG great32
  rw [rotG_32 x i hi hi1, rotG_32 x j hj hj1, rotG_32 x k hk0 hk, ex_xor, ex_xor]
theorem getD_ex (l : List UInt32) (i : Nat) : (l.map ex).getD i 0 = ex (l.getD i 0) := by
  rw [List.getD_eq_getElem?_getD, List.getD_eq_getElem?_getD, List.getElem?_map]
  cases l[i]? <;> rfl
theorem nxtG_32 (l : List UInt32) : nxtG KD32 (l.map ex) = ex (nxt32 l) := by
  unfold nxtG nxt32
  simp only [List.length_map, getD_ex]
  show (smallG 32 4294967295 _ 17 19 10 + _ + smallG 32 4294967295 _ 7 18 3 + _) &&& 4294967295 = _
  rw [smallG_32 _ 17 19 10 (by decide) (by decide) (by decide) (by decide) (by decide), smallG_32 _ 7 18 3 (by decide) (by decide) (by decide) (by decide) (by decide), mask32]
  simp only [UInt64.toUInt32_add, ex_low]
theorem schedG_32 : ∀ n (l : List UInt32), schedG KD32 n (l.map ex) = (sched32 n l).map ex
  | 0, _ => rfl
  | n + 1, l => by
    simp only [schedG, sched32]
    rw [nxtG_32, ← schedG_32 n]
    simp
theorem oneG_32 (s : St32) (k x : UInt32) : (oneG KD32 (up32 s) (ex k) (ex x)).toUInt32 = one32 s k x := by
  unfold oneG one32
  show (ex s.h + greatG 32 4294967295 (ex s.e) 6 11 25 + (ex s.e &&& ex s.f ^^^ (4294967295 ^^^ ex s.e) &&& ex s.g) + ex k + ex x).toUInt32 = _
  rw [greatG_32 _ 6 11 25 (by decide) (by decide) (by decide) (by decide) (by decide) (by decide), ex_not, ex_and, ex_and, ex_xor]
  simp only [UInt64.toUInt32_add, ex_low]
theorem dosG_32 (s : St32) : (dosG KD32 (up32 s)).toUInt32 = dos32 s := by
  unfold dosG dos32
  show (greatG 32 4294967295 (ex s.a) 2 13 22 + (ex s.a &&& ex s.b ^^^ ex s.a &&& ex s.c ^^^ ex s.b &&& ex s.c)).toUInt32 = _
  rw [greatG_32 _ 2 13 22 (by decide) (by decide) (by decide) (by decide) (by decide) (by decide), ex_and, ex_and, ex_and, ex_xor, ex_xor]
  simp only [UInt64.toUInt32_add, ex_low]
theorem rndG_32 (s : St32) (k x : UInt32) : rndG KD32 (up32 s) (ex k) (ex x) = up32 (rnd32 s k x) := by
  have h1 : (oneG KD32 (up32 s) (ex k) (ex x) + dosG KD32 (up32 s)) &&& 4294967295 = ex (one32 s k x + dos32 s) := by
    rw [mask32, UInt64.toUInt32_add, oneG_32, dosG_32]
  have h2 : (ex s.d + oneG KD32 (up32 s) (ex k) (ex x)) &&& 4294967295 = ex (s.d + one32 s k x) := by
    rw [mask32, UInt64.toUInt32_add, oneG_32, ex_low]
  unfold rndG rnd32
  show St64.mk ((oneG KD32 (up32 s) (ex k) (ex x) + dosG KD32 (up32 s)) &&& 4294967295) _ _ _ ((ex s.d + oneG KD32 (up32 s) (ex k) (ex x)) &&& 4294967295) _ _ _ = _
  rw [h1, h2]
  rfl
theorem rndsG_32 : ∀ (ks xs : List UInt32) (s : St32), rndsG KD32 (ks.map ex) (xs.map ex) (up32 s) = up32 (rnds32 ks xs s)
  | [], _, _ => by simp [rndsG, rnds32]
  | _ :: _, [], _ => by simp [rndsG, rnds32]
  | k :: ks, x :: xs, s => by
    simp only [List.map_cons, rndsG, rnds32]
    rw [rndG_32, rndsG_32 ks xs]
theorem plusG_32 (s t : St32) : plusG KD32 (up32 s) (up32 t) = up32 (plus32 s t) := by
  have h : ∀ a b : UInt32, (ex a + ex b) &&& 4294967295 = ex (a + b) := fun a b => by
    rw [mask32, UInt64.toUInt32_add, ex_low, ex_low]
  unfold plusG plus32
  show St64.mk ((ex s.a + ex t.a) &&& 4294967295) ((ex s.b + ex t.b) &&& 4294967295) ((ex s.c + ex t.c) &&& 4294967295) ((ex s.d + ex t.d) &&& 4294967295) ((ex s.e + ex t.e) &&& 4294967295) ((ex s.f + ex t.f) &&& 4294967295) ((ex s.g + ex t.g) &&& 4294967295) ((ex s.h + ex t.h) &&& 4294967295) = _
  rw [h, h, h, h, h, h, h, h]
  rfl
theorem blockG_32 (ws : List UInt32) (s : St32) (hw : ws.length = 16) : blockG KD32 (ws.map ex) (up32 s) = up32 (block32 K32 ws s) := by
  unfold blockG block32
  have e1 : KD32.ks.length - 16 = 64 - 16 := by decide
  have e2 : KD32.ks = K32.map ex := rfl
  rw [e1, e2, schedG_32, rndsG_32, plusG_32, List.take_of_length_le (by omega)]
theorem app_32 (x : UInt32) (c : UInt8) : app32 x c = 256 * x + c.toUInt32 := by
  unfold app32
  apply UInt32.toNat_inj.1
  rw [UInt32.toNat_or, UInt32.toNat_add, UInt32.toNat_mul, UInt32.toNat_shiftLeft, UInt8.toNat_toUInt32]
  have hc := c.toNat_lt
  have h8 : (8 : UInt32).toNat % 32 = 8 := rfl
  have h256 : (256 : UInt32).toNat = 256 := rfl
  rw [h8, h256, Nat.shiftLeft_eq]
  have e : x.toNat * 2 ^ 8 % 2 ^ 32 = (x.toNat % 2 ^ 24) <<< 8 := by rw [Nat.shiftLeft_eq]; omega
  rw [e, ← Nat.shiftLeft_add_eq_or_of_lt (by omega), Nat.shiftLeft_eq]
  omega
theorem app_64 (x : UInt64) (c : UInt8) : app64 x c = 256 * x + c.toUInt64 := by
  unfold app64
  apply UInt64.toNat_inj.1
  rw [UInt64.toNat_or, UInt64.toNat_add, UInt64.toNat_mul, UInt64.toNat_shiftLeft, UInt8.toNat_toUInt64]
  have hc := c.toNat_lt
  have h8 : (8 : UInt64).toNat % 64 = 8 := rfl
  have h256 : (256 : UInt64).toNat = 256 := rfl
  rw [h8, h256, Nat.shiftLeft_eq]
  have e : x.toNat * 2 ^ 8 % 2 ^ 64 = (x.toNat % 2 ^ 56) <<< 8 := by rw [Nat.shiftLeft_eq]; omega
  rw [e, ← Nat.shiftLeft_add_eq_or_of_lt (by omega), Nat.shiftLeft_eq]
  omega
theorem take_up (full : List UInt8) (p j : Nat) (h : p + j < full.length) : (full.drop p).take (j + 1) = (full.drop p).take j ++ [full.getD (p + j) 0] := by
  rw [List.take_succ_eq_append_getElem (by rw [List.length_drop]; omega), List.getElem_drop]
  congr 2
  simp [List.getD, List.getElem?_eq_getElem h]
theorem wordAt_64 (full : List UInt8) (p : Nat) : ∀ j, p + j ≤ full.length → wordAt full p j = be64 ((full.drop p).take j)
  | 0, _ => by simp [wordAt, be64]
  | j + 1, h => by
    rw [take_up full p j (by omega)]
    unfold be64
    rw [List.foldl_append, List.foldl_cons, List.foldl_nil, app_64, wordAt, wordAt_64 full p j (by omega)]
    rfl
theorem wordAt_low (full : List UInt8) (p : Nat) : ∀ j, p + j ≤ full.length → (wordAt full p j).toUInt32 = be32 ((full.drop p).take j)
  | 0, _ => by simp [wordAt, be32]
  | j + 1, h => by
    rw [take_up full p j (by omega)]
    unfold be32
    rw [List.foldl_append, List.foldl_cons, List.foldl_nil, app_32, wordAt, UInt64.toUInt32_add, UInt64.toUInt32_mul, wordAt_low full p j (by omega)]
    unfold be32
    congr 1
    simp
theorem wordAt_lt (full : List UInt8) (p : Nat) : ∀ j, j ≤ 4 → (wordAt full p j).toNat < 256 ^ j
  | 0, _ => by show (0 : UInt64).toNat < 1; decide
  | j + 1, h => by
    have ih := wordAt_lt full p j (by omega)
    have hc := (full.getD (p + j) 0).toNat_lt
    have h4 : 256 ^ j ≤ 256 ^ 3 := Nat.pow_le_pow_right (by decide) (by omega)
    rw [wordAt, UInt64.toNat_add, UInt64.toNat_mul, UInt8.toNat_toUInt64]
    show _ < 256 ^ j * 256
    have h256 : (256 : UInt64).toNat = 256 := rfl
    rw [h256]
    generalize (wordAt full p j).toNat = a at *
    generalize 256 ^ j = b at *
    omega
theorem wordAt_32 (full : List UInt8) (p : Nat) (h : p + 4 ≤ full.length) : wordAt full p 4 = ex (be32 ((full.drop p).take 4)) := by
  rw [← wordAt_low full p 4 h]
  apply UInt64.toNat_inj.1
  rw [UInt32.toNat_toUInt64, UInt64.toNat_toUInt32]
  have := wordAt_lt full p 4 (Nat.le_refl _)
  omega
theorem wordsAt_32 (full : List UInt8) (at' : Nat) (h : at' + 64 ≤ full.length) : wordsAt full 4 at' 16 = (words32 ((full.drop at').take 64)).map ex := by
  unfold wordsAt words32
  rw [List.map_map]
  refine List.map_congr_left fun i hi => ?_
  have hi := List.mem_range.1 hi
  rw [wordAt_32 full _ (by omega)]
  show ex _ = ex (be32 ((((full.drop at').take 64).drop (i * 4)).take 4))
  rw [List.drop_take, List.take_take, List.drop_drop, Nat.mul_comm 4 i, Nat.min_eq_left (by omega)]
theorem wordsAt_64 (full : List UInt8) (at' : Nat) (h : at' + 128 ≤ full.length) : wordsAt full 8 at' 16 = words64 ((full.drop at').take 128) := by
  unfold wordsAt words64
  refine List.map_congr_left fun i hi => ?_
  have hi := List.mem_range.1 hi
  show wordAt full (at' + 8 * i) 8 = be64 ((((full.drop at').take 128).drop (i * 8)).take 8)
  rw [wordAt_64 full (at' + 8 * i) 8 (by omega), List.drop_take, List.take_take, List.drop_drop, Nat.mul_comm 8 i, Nat.min_eq_left (by omega)]
end Go.Cv.Hash
