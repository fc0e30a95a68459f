/-
  The document's answer of layer 5 reckons the published digests: plain law, second part.
-/
import Derived.Test.YtnlphndfnnmdaaaDoorHashT
set_option linter.unusedSimpArgs false
set_option linter.unusedVariables false
namespace Go.Cv.Hash
open Go.RowKit
theorem sumBG_succ (D : Kd) (S : Nat) (full : List UInt8) (f at' : Nat) (s : St64) : sumBG D S full (f + 1) at' s = sumBG D S full f (at' + 16 * S) (blockG D (wordsAt full S at' 16) s) := rfl
theorem sumB32_succ (ks : List UInt32) (f : Nat) (l : List UInt8) (s : St32) : sumB32 ks (f + 1) l s = sumB32 ks f (l.drop 64) (block32 ks (words32 (l.take 64)) s) := rfl
theorem sumB64_succ (ks : List UInt64) (f : Nat) (l : List UInt8) (s : St64) : sumB64 ks (f + 1) l s = sumB64 ks f (l.drop 128) (block64 ks (words64 (l.take 128)) s) := rfl
theorem sumBG_32 (full : List UInt8) : ∀ f at' s, at' + 64 * f ≤ full.length → sumBG KD32 4 full f at' (up32 s) = up32 (sumB32 K32 f (full.drop at') s)
  | 0, _, _, _ => rfl
  | f + 1, at', s, h => by
    have hw : (words32 ((full.drop at').take 64)).length = 16 := by simp [words32]
    have ih := sumBG_32 full f (at' + 64) (block32 K32 (words32 ((full.drop at').take 64)) s) (by omega)
    rw [sumBG_succ, sumB32_succ, show 16 * 4 = 64 from rfl, wordsAt_32 full at' (by omega), blockG_32 _ _ hw, ih, List.drop_drop]
theorem all_64 (u : UInt64) : u &&& 18446744073709551615 = u := by
  apply UInt64.toNat_inj.1
  rw [UInt64.toNat_and]
  show u.toNat &&& 18446744073709551615 = u.toNat
  rw [show (18446744073709551615 : Nat) = 2 ^ 64 - 1 from rfl, Nat.and_two_pow_sub_one_eq_mod]
  exact Nat.mod_eq_of_lt u.toNat_lt
theorem not_64 (x : UInt64) : 18446744073709551615 ^^^ x = ~~~x := by
  have h : (18446744073709551615 : UInt64) = -1 := rfl
  rw [h, UInt64.neg_one_xor]
theorem rotG_64 (x : UInt64) (k : Nat) : rotG 64 18446744073709551615 x k = rot64 x k := by
  unfold rotG rot64
  rw [all_64, UInt64.or_comm]
theorem smallG_64 (x : UInt64) (i j k : Nat) : smallG 64 18446744073709551615 x i j k = small64 x i j k := by
  unfold smallG small64
  rw [rotG_64, rotG_64]
theorem greatG_64 (x : UInt64) (i j k : Nat) : greatG 64 18446744073709551615 x i j k = great64 x i j k := by
  unfold greatG great64
  rw [rotG_64, rotG_64, rotG_64]
theorem nxtG_64 (l : List UInt64) : nxtG KD64 l = nxt64 l := by
  unfold nxtG nxt64
  show (smallG 64 18446744073709551615 _ 19 61 6 + _ + smallG 64 18446744073709551615 _ 1 8 7 + _) &&& 18446744073709551615 = _
  rw [all_64, smallG_64, smallG_64]
theorem schedG_64 : ∀ n (l : List UInt64), schedG KD64 n l = sched64 n l
  | 0, _ => rfl
  | n + 1, l => by
    simp only [schedG, sched64]
    rw [nxtG_64, schedG_64 n]
theorem oneG_64 (s : St64) (k x : UInt64) : oneG KD64 s k x = one64 s k x := by
  unfold oneG one64
  show s.h + greatG 64 18446744073709551615 s.e 14 18 41 + (s.e &&& s.f ^^^ (18446744073709551615 ^^^ s.e) &&& s.g) + k + x = _
  rw [greatG_64, not_64]
theorem dosG_64 (s : St64) : dosG KD64 s = dos64 s := by
  unfold dosG dos64
  show greatG 64 18446744073709551615 s.a 28 34 39 + _ = _
  rw [greatG_64]
theorem rndG_64 (s : St64) (k x : UInt64) : rndG KD64 s k x = rnd64 s k x := by
  unfold rndG rnd64
  rw [oneG_64, dosG_64]
  show St64.mk (_ &&& 18446744073709551615) _ _ _ (_ &&& 18446744073709551615) _ _ _ = _
  rw [all_64, all_64]
theorem rndsG_64 : ∀ (ks xs : List UInt64) (s : St64), rndsG KD64 ks xs s = rnds64 ks xs s
  | [], _, _ => by simp [rndsG, rnds64]
  | _ :: _, [], _ => by simp [rndsG, rnds64]
  | k :: ks, x :: xs, s => by
    simp only [rndsG, rnds64]
    rw [rndG_64, rndsG_64 ks xs]
theorem plusG_64 (s t : St64) : plusG KD64 s t = plus64 s t := by
  unfold plusG plus64
  show St64.mk ((s.a + t.a) &&& 18446744073709551615) ((s.b + t.b) &&& 18446744073709551615) ((s.c + t.c) &&& 18446744073709551615) ((s.d + t.d) &&& 18446744073709551615) ((s.e + t.e) &&& 18446744073709551615) ((s.f + t.f) &&& 18446744073709551615) ((s.g + t.g) &&& 18446744073709551615) ((s.h + t.h) &&& 18446744073709551615) = _
  simp only [all_64]
theorem blockG_64 (ws : List UInt64) (s : St64) (hw : ws.length = 16) : blockG KD64 ws s = block64 K64 ws s := by
  unfold blockG block64
  have e1 : KD64.ks.length - 16 = 80 - 16 := by decide
  have e2 : KD64.ks = K64 := rfl
  rw [e1, e2, schedG_64, rndsG_64, plusG_64, List.take_of_length_le (by omega)]
theorem sumBG_64 (full : List UInt8) : ∀ f at' s, at' + 128 * f ≤ full.length → sumBG KD64 8 full f at' s = sumB64 K64 f (full.drop at') s
  | 0, _, _, _ => rfl
  | f + 1, at', s, h => by
    have hw : (words64 ((full.drop at').take 128)).length = 16 := by simp [words64]
    have ih := sumBG_64 full f (at' + 128) (block64 K64 (words64 ((full.drop at').take 128)) s) (by omega)
    rw [sumBG_succ, sumB64_succ, show 16 * 8 = 128 from rfl, wordsAt_64 full at' (by omega), blockG_64 _ _ hw, ih, List.drop_drop]
theorem len_zero (u : UInt64) : (u % 32).toUInt8 * (8 : UInt8) = ((u <<< 3) >>> UInt64.ofNat (8 * 0)).toUInt8 := by
  apply UInt8.toNat_inj.1
  have h3 : (3 : UInt64).toNat % 64 = 3 := rfl
  have h0 : (UInt64.ofNat (8 * 0)).toNat % 64 = 0 := rfl
  have h32 : (32 : UInt64).toNat = 32 := rfl
  have h8 : (8 : UInt8).toNat = 8 := rfl
  rw [UInt8.toNat_mul, UInt64.toNat_toUInt8, UInt64.toNat_toUInt8, UInt64.toNat_mod, UInt64.toNat_shiftRight, UInt64.toNat_shiftLeft, h3, h0, h32, h8, Nat.shiftLeft_eq, Nat.shiftRight_eq_div_pow]
  omega
theorem len_some (u : UInt64) (i : Nat) (h1 : 1 ≤ i) (h7 : i ≤ 7) : (u >>> UInt64.ofNat (8 * i - 3)).toUInt8 = ((u <<< 3) >>> UInt64.ofNat (8 * i)).toUInt8 := by
  apply UInt8.toNat_inj.1
  have h3 : (3 : UInt64).toNat % 64 = 3 := rfl
  have hu := u.toNat_lt
  rw [UInt64.toNat_toUInt8, UInt64.toNat_toUInt8, UInt64.toNat_shiftRight, UInt64.toNat_shiftRight, UInt64.toNat_shiftLeft, h3, ofNat_toNat64 _ (by omega), ofNat_toNat64 _ (by omega), Nat.mod_eq_of_lt (show 8 * i - 3 < 64 by omega), Nat.mod_eq_of_lt (show 8 * i < 64 by omega), Nat.shiftLeft_eq, Nat.shiftRight_eq_div_pow, Nat.shiftRight_eq_div_pow]
  rcases (by omega : i = 1 ∨ i = 2 ∨ i = 3 ∨ i = 4 ∨ i = 5 ∨ i = 6 ∨ i = 7) with rfl | rfl | rfl | rfl | rfl | rfl | rfl <;> omega
theorem lens_explicit (n m : Nat) : ∀ k, lensG n m k = (List.range k).map fun j => lenB n (m - 1 - j) := fun _ => rfl
theorem lenB_low (n i : Nat) (h : i ≤ 7) : lenB n i = ((u64 (n : Int) <<< 3) >>> UInt64.ofNat (8 * i)).toUInt8 := by
  unfold lenB
  by_cases h0 : i = 0
  · subst h0
    rw [if_pos rfl, len_zero]
  · rw [if_neg h0, if_pos (by omega), len_some _ _ (by omega) h]
theorem lenB_8 (n : Nat) : lenB n 8 = (u64 (n : Int) >>> 61).toUInt8 := rfl
theorem lenB_high (n i : Nat) (h : 8 < i) : lenB n i = 0 := by
  unfold lenB
  rw [if_neg (by omega), if_neg (by omega)]
theorem mcur_32 (n : Nat) : (mcur32 n 8).drop 8 = [lenB n 7, lenB n 6, lenB n 5, lenB n 4, lenB n 3, lenB n 2, lenB n 1, lenB n 0] := by
  rw [lenB_low n 7 (by omega), lenB_low n 6 (by omega), lenB_low n 5 (by omega), lenB_low n 4 (by omega), lenB_low n 3 (by omega), lenB_low n 2 (by omega), lenB_low n 1 (by omega), lenB_low n 0 (by omega)]
  rfl
theorem mcur_64 (n : Nat) : (mcur64 n 8).drop 0 = [0, 0, 0, 0, 0, 0, 0, lenB n 8, lenB n 7, lenB n 6, lenB n 5, lenB n 4, lenB n 3, lenB n 2, lenB n 1, lenB n 0] := by
  rw [lenB_low n 7 (by omega), lenB_low n 6 (by omega), lenB_low n 5 (by omega), lenB_low n 4 (by omega), lenB_low n 3 (by omega), lenB_low n 2 (by omega), lenB_low n 1 (by omega), lenB_low n 0 (by omega), lenB_8]
  rfl
theorem lens_32 (n : Nat) : lensG n 8 8 = (mcur32 n 8).drop 8 := by rw [mcur_32]; rfl
theorem lens_64 (n : Nat) : lensG n 16 16 = (mcur64 n 8).drop 0 := by
  rw [mcur_64]
  have e : lensG n 16 16 = [lenB n 15, lenB n 14, lenB n 13, lenB n 12, lenB n 11, lenB n 10, lenB n 9, lenB n 8, lenB n 7, lenB n 6, lenB n 5, lenB n 4, lenB n 3, lenB n 2, lenB n 1, lenB n 0] := rfl
  rw [e, lenB_high n 15 (by omega), lenB_high n 14 (by omega), lenB_high n 13 (by omega), lenB_high n 12 (by omega), lenB_high n 11 (by omega), lenB_high n 10 (by omega), lenB_high n 9 (by omega)]
theorem fullG_32 (l : List UInt8) : fullG 4 (zc32 l.length) l = full32 l := by
  unfold fullG full32
  rw [show 2 * 4 = 8 from rfl, lens_32]
theorem fullG_64 (l : List UInt8) : fullG 8 (zc64 l.length) l = full64 l := by
  unfold fullG full64
  rw [show 2 * 8 = 16 from rfl, lens_64]
theorem up_l (t : St32) : (up32 t).l = t.l.map ex := rfl
theorem outG_32 (t : St32) (k : Nat) : outAtG (up32 t) 4 k = outAt32 t k := by
  unfold outAtG outAt32
  rw [up_l, getD_ex, show 4 - 1 - k % 4 = 3 - k % 4 from rfl, ex_shr _ _ (by omega)]
  apply UInt8.toNat_inj.1
  rw [UInt64.toNat_toUInt8, UInt32.toNat_toUInt8, UInt32.toNat_toUInt64]
theorem dig_32 (l : List UInt8) (n : Nat) (h : l.length = n) : digG KD32 4 (zc32 n) ((fullG 4 (zc32 n) l).length / 64) (up32 B32) l = hash32 l := by
  subst h
  unfold digG hash32 digest32 outsG
  rw [fullG_32, sumBG_32 _ _ _ _ (by have := Nat.div_mul_le_self (full32 l).length 64; omega), List.drop_zero]
  exact List.map_congr_left fun k _ => outG_32 _ k
theorem dig_64 (l : List UInt8) (n : Nat) (h : l.length = n) : digG KD64 8 (zc64 n) ((fullG 8 (zc64 n) l).length / 128) B64 l = hash64 l := by
  subst h
  unfold digG hash64 digest64 outsG
  rw [fullG_64, sumBG_64 _ _ _ _ (by have := Nat.div_mul_le_self (full64 l).length 128; omega), List.drop_zero]
  rfl
end Go.Cv.Hash
namespace Go.Proofs.YtnlphndfnnmdaaaDoor
open Go.RowKit Go.Cv Go.Cv.Hash Go.Cv.Dig
theorem ref256_any (A : Option Addr) (n c : Nat) (l : List UInt8) (w : World) (hl : l.length = n) (hnc : n ≤ c) (hr : Rd w A (l.map bv)) (bnd : n ≤ 5000000) :
    Calls Tryd.prog 10 #[.slice A n c] w fun e w' => ∃ v, e = .returned v ∧ Out w' v (hash32 l) ∧ Ext w w' := by
  have h := narrowsum_any A n c l w hl hnc hr bnd
  rw [dig_32 l n hl] at h
  exact h
theorem ref512_any (A : Option Addr) (n c : Nat) (l : List UInt8) (w : World) (hl : l.length = n) (hnc : n ≤ c) (hr : Rd w A (l.map bv)) (bnd : n ≤ 5000000) :
    Calls Tryd.prog 11 #[.slice A n c] w fun e w' => ∃ v, e = .returned v ∧ Out w' v (hash64 l) ∧ Ext w w' := by
  have h := widesum_any A n c l w hl hnc hr bnd
  rw [dig_64 l n hl] at h
  exact h
end Go.Proofs.YtnlphndfnnmdaaaDoor
