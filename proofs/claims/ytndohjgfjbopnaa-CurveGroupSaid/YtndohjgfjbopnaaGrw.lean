/-
  The walk of the statement CurveGroup.
-/
import Derived.Test.YtndohjgfjbopnaaSome
import Derived.Test.YtndohjgfjbopnaaGiv
set_option linter.unusedSimpArgs false
set_option linter.unusedVariables false
namespace Go.Cv
open Go.RowKit Go.Cv.Pr Go.Cv.Grp
theorem den_ring {n : Nat} [NeZero n] (d y i : Fin n) (h : d * (y * y) + 1 = 0) (hi : i * i + 1 = 0) : i * i = d * (y * y) := by grind
theorem den_zero {n : Nat} [NeZero n] (d : Fin n) : d * (0 * 0) + 1 = 1 := by grind
theorem dec_den (y : F7) : C7.d * (y * y) + 1 ≠ 0 := fun h => by
  by_cases hy : y = 0
  · rw [hy, den_zero] at h
    exact C7.one h
  · exact C7.nsq C7.i y hy (den_ring _ _ _ h C7.ii)
theorem decU_on {x y : F7} (h : C7.on x y) : decU y = x * x := sq_ring x y C7.d _ (mul_fiv _ (dec_den y)) h
theorem top7 (a b : UInt8) (ha : a.toNat < 128) : ((a ||| b <<< 7) &&& 127) = a ∧ ((a ||| b <<< 7) >>> 7).toNat = b.toNat % 2 := by
  have h1 : (b <<< 7).toNat = 2 ^ 7 * (b.toNat % 2) := by
    rw [show (b <<< 7).toNat = b.toNat * 2 ^ 7 % 256 from toNat_shl_u8 b 7 (by decide)]
    omega
  have h2 : (a ||| b <<< 7).toNat = 2 ^ 7 * (b.toNat % 2) + a.toNat := by
    rw [UInt8.toNat_or, h1, Nat.or_comm, ← Nat.two_pow_add_eq_or_of_lt (by simpa using ha)]
  refine ⟨?_, ?_⟩
  · apply UInt8.toNat_inj.1
    rw [UInt8.toNat_and, h2]
    show (2 ^ 7 * (b.toNat % 2) + a.toNat) &&& (2 ^ 7 - 1) = _
    rw [Nat.and_two_pow_sub_one_eq_mod]
    omega
  · rw [show ((a ||| b <<< 7) >>> 7).toNat = (a ||| b <<< 7).toNat / 2 ^ 7 from toNat_shr_u8 _ 7 (by decide), h2]
    omega
theorem fb_top (y : F7) : (fb y 31).toNat < 128 := by
  have h := y.isLt
  have hp : pp < 2 ^ 255 := by unfold pp; decide
  show (UInt8.ofNat (y.val / 2 ^ (8 * 31))).toNat < 128
  rw [UInt8.toNat_ofNat']
  have : y.val / 2 ^ (8 * 31) < 128 := by
    rw [Nat.div_lt_iff_lt_mul (Nat.two_pow_pos _)]
    exact Nat.lt_trans h (Nat.lt_of_lt_of_le hp (by decide))
  omega
theorem fb_low (x : F7) : (fb x 0).toNat % 2 = x.val % 2 := by
  show (UInt8.ofNat (x.val / 2 ^ (8 * 0))).toNat % 2 = _
  rw [UInt8.toNat_ofNat']
  simp only [Nat.mul_zero, Nat.pow_zero, Nat.div_one]
  omega
theorem enc_31' (x y : F7) : encF x y 31 = fb y 31 ||| fb x 0 <<< 7 := by
  unfold encF updb
  exact if_pos rfl
theorem decG_enc (x y : F7) : ∀ i, i < 32 → decG (encF x y) i = fb y i := by
  intro i hi
  unfold decG
  by_cases h : i = 31
  · subst h
    rw [show updb (encF x y) 31 (encF x y 31 &&& 127) 31 = encF x y 31 &&& 127 from if_pos rfl, enc_31']
    exact (top7 _ _ (fb_top y)).1
  · rw [show updb (encF x y) 31 (encF x y 31 &&& 127) i = encF x y i from if_neg h]
    exact if_neg h
theorem decV_enc (x y : F7) : V (decG (encF x y)) = y.val := by
  rw [show V (decG (encF x y)) = V (fb y) from bsum_congr 32 (decG_enc x y), V_fb]
theorem decY_enc (x y : F7) : decY (encF x y) = y := by
  unfold decY
  rw [decV_enc, tf_val]
theorem enc_odd (x y : F7) : (encF x y 31 >>> 7 == 1) = decide (x.val % 2 = 1) := by
  rw [enc_31']
  have h := (top7 (fb y 31) (fb x 0) (fb_top y)).2
  rw [fb_low] at h
  generalize ((fb y 31 ||| fb x 0 <<< 7) >>> 7) = o at *
  by_cases hx : x.val % 2 = 1
  · rw [decide_eq_true hx, beq_iff_eq]
    apply UInt8.toNat_inj.1
    rw [h, hx]; rfl
  · rw [decide_eq_false hx, beq_eq_false_iff_ne]
    intro e
    rw [e] at h
    have : (1 : UInt8).toNat = 1 := rfl
    omega
theorem neg_neg_f (x : F7) : 0 - (0 - x) = x := by grind
theorem neg_zero_f (x : F7) (h : 0 - x = 0) : x = 0 := by grind
theorem decX_enc (P : P7) : decX (encF P.x P.y) = some P.x := by
  obtain ⟨x, y, on⟩ := P
  have hU := decU_on on
  unfold decX
  rw [decY_enc, decV_enc, if_pos y.isLt, hU, if_pos (okF_sq rfl), enc_odd]
  by_cases hx : x.val % 2 = 1
  · have hr : rtF (x * x) = 0 - x := by
      rcases rtF_two (x := x * x) (y := x) rfl with h | h
      · have := rtF_even (x * x)
        rw [h] at this; omega
      · exact h
    have hx0 : x ≠ 0 := fun h => by rw [h] at hx; exact absurd hx (by decide)
    rw [if_pos (decide_eq_true hx), hr, if_neg (fun h => hx0 (neg_zero_f x h)), neg_neg_f]
  · rw [if_neg (by rw [decide_eq_false hx]; decide), rtF_is rfl (by omega)]
theorem ord_lt : ordN < pp := by unfold pp ordN; decide
theorem tf_ord : (tf ordN).val = ordN := Nat.mod_eq_of_lt ord_lt
theorem grp_sum (f g : Nat → UInt8) : Pt.mul (V (nb ((V f * V (nb 1) + V g) % ordN))) B7 = (Pt.mul (V f) B7).add (Pt.mul (V g) B7) := by
  rw [V_nb (Nat.lt_trans (Nat.mod_lt _ (by unfold ordN; decide)) (by unfold ordN; decide)), Pt.mul_mod ord_zero, V_nb (by decide), Nat.mul_one, Pt.mul_add]
theorem grp_ord : Pt.mul (V (fb (tf ordN))) B7 = Pt.zero C7 := by
  rw [V_fb, tf_ord, ord_zero]
end Go.Cv
namespace Go.Proofs.Ytndohjgfjbopnaa
open Go.RowKit Go.Cv Go.Cv.Pr Go.Cv.Grp
theorem dec_pt (P : P7) (w : World) :
    Calls Try.prog 52 #[.agg (bcells (encF P.x P.y))] w fun e w' => e = .returned (.tuple #[.agg (pc (fb P.x) (fb P.y)), .nilIface]) ∧ Ext w w' := by
  have h := cdec_any (encF P.x P.y) w
  rw [decX_enc, decY_enc, decV_some] at h
  exact h
theorem norder (w : World) : Calls Try.prog 38 #[] w fun e w' => ∃ v, e = .returned v ∧ NF w' v (tf ordN) ∧ Ext w w' := by
  refine (rorder_any w).mono ?_
  rintro e w' ⟨v, rfl, hv, hx⟩
  exact ⟨v, rfl, by unfold NF; rw [tf_ord]; exact hv, hx⟩
theorem times_ord (w : World) :
    Calls Try.prog 50 #[.agg (bcells (fb (tf ordN))), .agg (pc (fb B7.x) (fb B7.y))] w fun e w' => e = .returned (.tuple #[.agg (pc (fun _ => 0) (nb 1)), .nilIface]) ∧ Ext w w' := by
  have h := times_pt (fb (tf ordN)) B7 w
  rw [grp_ord, show (Pt.zero C7).x = 0 from rfl, show (Pt.zero C7).y = 1 from rfl, fb_0, fb_1] at h
  exact h
theorem times_sum (f g : Nat → UInt8) (w : World) :
    Calls Try.prog 50 #[.agg (bcells (nb ((V f * V (nb 1) + V g) % ordN))), .agg (pc (fb B7.x) (fb B7.y))] w fun e w' => e = .returned (.tuple #[.agg (pc (fb ((Pt.mul (V f) B7).add (Pt.mul (V g) B7)).x) (fb ((Pt.mul (V f) B7).add (Pt.mul (V g) B7)).y)), .nilIface]) ∧ Ext w w' := by
  have h := times_pt (nb ((V f * V (nb 1) + V g) % ordN)) B7 w
  rw [grp_sum] at h
  exact h
theorem add_comm_pt (P Q : P7) (w : World) :
    Calls Try.prog 44 #[.agg (pc (fb Q.x) (fb Q.y)), .agg (pc (fb P.x) (fb P.y))] w fun e w' => e = .returned (.tuple #[.agg (pc (fb (P.add Q).x) (fb (P.add Q).y)), .nilIface]) ∧ Ext w w' := by
  have h := add_pt Q P w
  rw [Pt.add_comm] at h
  exact h
theorem add_assoc_pt (P Q R : P7) (w : World) :
    Calls Try.prog 44 #[.agg (pc (fb P.x) (fb P.y)), .agg (pc (fb (Q.add R).x) (fb (Q.add R).y))] w fun e w' => e = .returned (.tuple #[.agg (pc (fb ((P.add Q).add R).x) (fb ((P.add Q).add R).y)), .nilIface]) ∧ Ext w w' := by
  have h := add_pt P (Q.add R) w
  rw [← Pt.add_assoc] at h
  exact h
def plan_12_0 : List Plan := [⟨[], []⟩, ⟨[], []⟩, ⟨[], []⟩, ⟨[], []⟩]
def plan_12_1 : List Plan := [⟨[], []⟩, ⟨[0], [(34, 0)]⟩]
def plan_12_2 : List Plan := [⟨[], []⟩, ⟨[0], [(36, 0)]⟩, ⟨[0, 1], [(37, 1)]⟩, ⟨[0, 1, 2], [(35, 2)]⟩, ⟨[0, 1, 2], [(35, 2)]⟩, ⟨[], []⟩, ⟨[0, 1, 2, 3, 5], [(38, 3), (8, 5)]⟩, ⟨[0, 1, 2, 3, 4, 5, 6], [(39, 4)]⟩]
def plan_12_3 : List Plan := [⟨[], []⟩, ⟨[0], [(41, 0)]⟩, ⟨[0, 1], [(42, 1)]⟩, ⟨[0, 1, 2], [(40, 2)]⟩, ⟨[0, 1, 2], [(40, 2)]⟩, ⟨[], []⟩, ⟨[0, 1, 2, 3, 5], [(43, 3), (10, 5)]⟩, ⟨[0, 1, 2, 3, 4, 5, 6], [(44, 4)]⟩]
def plan_12_4 : List Plan := [⟨[], []⟩, ⟨[0], [(46, 0)]⟩, ⟨[0, 1], [(47, 1)]⟩, ⟨[0, 1, 2], [(45, 2)]⟩, ⟨[0, 1, 2], [(45, 2)]⟩, ⟨[], []⟩, ⟨[0, 1, 2, 3, 5], [(48, 3), (12, 5)]⟩, ⟨[0, 1, 2, 3, 4, 5, 6], [(49, 4)]⟩]
def plan_12_5 : List Plan := [⟨[], []⟩, ⟨[0], [(50, 0)]⟩, ⟨[0, 1], [(51, 1)]⟩, ⟨[0, 1, 2], [(52, 2)]⟩, ⟨[0, 1, 2, 3], [(52, 2), (53, 3)]⟩, ⟨[0, 1, 2, 3, 4], [(52, 2), (54, 4)]⟩, ⟨[0, 1, 2, 3, 4, 5], [(55, 5)]⟩, ⟨[0, 1, 2, 3, 4, 5, 6], [(56, 6)]⟩, ⟨[0, 1, 2, 3, 4, 5, 6, 7], [(56, 6), (57, 7)]⟩, ⟨[0, 1, 2, 3, 4, 5, 6, 7, 8], [(56, 6), (58, 8)]⟩]
def plan_12_7 : List Plan := [⟨[], []⟩, ⟨[], []⟩, ⟨[0, 1], [(61, 0), (62, 1)]⟩, ⟨[0, 1, 2], [(63, 2)]⟩, ⟨[0, 1, 2, 3], [(60, 3)]⟩, ⟨[0, 1, 2, 3], [(60, 3)]⟩, ⟨[], []⟩, ⟨[0, 1, 2, 3, 4, 6], [(64, 4), (14, 6)]⟩, ⟨[0, 1, 2, 3, 4, 5, 6, 7], [(65, 5)]⟩]
def plan_12_8 : List Plan := [⟨[], []⟩, ⟨[], []⟩, ⟨[0, 1], [(67, 0), (68, 1)]⟩, ⟨[0, 1, 2], [(69, 2)]⟩, ⟨[0, 1, 2, 3], [(66, 3)]⟩, ⟨[0, 1, 2, 3], [(66, 3)]⟩, ⟨[], []⟩, ⟨[0, 1, 2, 3, 4, 6], [(70, 4), (16, 6)]⟩, ⟨[0, 1, 2, 3, 4, 5, 6, 7], [(71, 5)]⟩]
def plan_12_9 : List Plan := [⟨[], []⟩, ⟨[], []⟩, ⟨[0, 1], [(73, 0), (74, 1)]⟩, ⟨[0, 1, 2], [(75, 2)]⟩, ⟨[0, 1, 2, 3], [(72, 3)]⟩, ⟨[0, 1, 2, 3], [(72, 3)]⟩, ⟨[], []⟩, ⟨[0, 1, 2, 3, 4, 6], [(76, 4), (18, 6)]⟩, ⟨[0, 1, 2, 3, 4, 5, 6, 7], [(77, 5)]⟩]
def plan_12_10 : List Plan := [⟨[], []⟩, ⟨[], []⟩, ⟨[0, 1], [(79, 0), (80, 1)]⟩, ⟨[0, 1, 2], [(81, 2)]⟩, ⟨[0, 1, 2, 3], [(78, 3)]⟩, ⟨[0, 1, 2, 3], [(78, 3)]⟩, ⟨[], []⟩, ⟨[0, 1, 2, 3, 4, 6], [(82, 4), (20, 6)]⟩, ⟨[0, 1, 2, 3, 4, 5, 6, 7], [(83, 5)]⟩]
def plan_12_11 : List Plan := [⟨[], []⟩, ⟨[], []⟩, ⟨[0, 1], [(85, 0), (86, 1)]⟩, ⟨[0, 1, 2], [(87, 2)]⟩, ⟨[0, 1, 2, 3], [(84, 3)]⟩, ⟨[0, 1, 2, 3], [(84, 3)]⟩, ⟨[], []⟩, ⟨[0, 1, 2, 3, 4, 6], [(88, 4), (22, 6)]⟩, ⟨[0, 1, 2, 3, 4, 5, 6, 7], [(89, 5)]⟩]
def plan_12_12 : List Plan := [⟨[], []⟩, ⟨[0], [(90, 0)]⟩, ⟨[0, 1], [(91, 1)]⟩, ⟨[0, 1, 2], [(92, 2)]⟩, ⟨[0, 1, 2, 3], [(92, 2), (93, 3)]⟩, ⟨[0, 1, 2, 3, 4], [(92, 2), (94, 4)]⟩, ⟨[0, 1, 2, 3, 4, 5], [(95, 5)]⟩, ⟨[0, 1, 2, 3, 4, 5, 6], [(96, 6)]⟩, ⟨[0, 1, 2, 3, 4, 5, 6, 7], [(96, 6), (97, 7)]⟩, ⟨[0, 1, 2, 3, 4, 5, 6, 7, 8], [(96, 6), (98, 8)]⟩, ⟨[0, 1, 2, 3, 4, 5, 6, 7, 8, 9], [(99, 9)]⟩, ⟨[0, 1, 2, 3, 4, 5, 6, 7, 8, 9, 10], [(100, 10)]⟩, ⟨[0, 1, 2, 3, 4, 5, 6, 7, 8, 9, 10, 11], [(100, 10), (101, 11)]⟩, ⟨[0, 1, 2, 3, 4, 5, 6, 7, 8, 9, 10, 11, 12], [(100, 10), (102, 12)]⟩, ⟨[0, 1, 2, 3, 4, 5, 6, 7, 8, 9, 10, 11, 12, 13], [(103, 13)]⟩, ⟨[0, 1, 2, 3, 4, 5, 6, 7, 8, 9, 10, 11, 12, 13, 14], [(104, 14)]⟩, ⟨[0, 1, 2, 3, 4, 5, 6, 7, 8, 9, 10, 11, 12, 13, 14, 15], [(104, 14), (105, 15)]⟩, ⟨[0, 1, 2, 3, 4, 5, 6, 7, 8, 9, 10, 11, 12, 13, 14, 15, 16], [(104, 14), (106, 16)]⟩, ⟨[0, 1, 2, 3, 4, 5, 6, 7, 8, 9, 10, 11, 12, 13, 14, 15, 16, 17], [(107, 17)]⟩, ⟨[0, 1, 2, 3, 4, 5, 6, 7, 8, 9, 10, 11, 12, 13, 14, 15, 16, 17, 18], [(108, 18)]⟩, ⟨[0, 1, 2, 3, 4, 5, 6, 7, 8, 9, 10, 11, 12, 13, 14, 15, 16, 17, 18], [(108, 18)]⟩, ⟨[0, 1, 2, 3, 4, 5, 6, 7, 8, 9, 10, 11, 12, 13, 14, 15, 16, 17, 18, 19, 20], [(108, 18), (109, 19), (110, 20)]⟩, ⟨[0, 1, 2, 3, 4, 5, 6, 7, 8, 9, 10, 11, 12, 13, 14, 15, 16, 17, 18, 19, 20, 21], [(108, 18), (111, 21)]⟩, ⟨[0, 1, 2, 3, 4, 5, 6, 7, 8, 9, 10, 11, 12, 13, 14, 15, 16, 17, 18, 19, 20, 21, 22], [(112, 22)]⟩, ⟨[0, 1, 2, 3, 4, 5, 6, 7, 8, 9, 10, 11, 12, 13, 14, 15, 16, 17, 18, 19, 20, 21, 22, 23], [(113, 23)]⟩, ⟨[0, 1, 2, 3, 4, 5, 6, 7, 8, 9, 10, 11, 12, 13, 14, 15, 16, 17, 18, 19, 20, 21, 22, 23], [(113, 23)]⟩, ⟨[0, 1, 2, 3, 4, 5, 6, 7, 8, 9, 10, 11, 12, 13, 14, 15, 16, 17, 18, 19, 20, 21, 22, 23, 24, 25], [(113, 23), (114, 24), (115, 25)]⟩, ⟨[0, 1, 2, 3, 4, 5, 6, 7, 8, 9, 10, 11, 12, 13, 14, 15, 16, 17, 18, 19, 20, 21, 22, 23, 24, 25, 26], [(113, 23), (116, 26)]⟩]
def plan_12_14 : List Plan := [⟨[], []⟩, ⟨[0], [(119, 0)]⟩, ⟨[0, 1], [(120, 1)]⟩, ⟨[0, 1, 2], [(118, 2)]⟩, ⟨[0, 1, 2], [(118, 2)]⟩, ⟨[], []⟩, ⟨[0, 1, 2, 3, 5], [(121, 3), (24, 5)]⟩, ⟨[0, 1, 2, 3, 4, 5, 6], [(122, 4)]⟩]
def plan_12_15 : List Plan := [⟨[], []⟩, ⟨[0], [(124, 0)]⟩, ⟨[0, 1], [(125, 1)]⟩, ⟨[0, 1, 2], [(123, 2)]⟩, ⟨[0, 1, 2], [(123, 2)]⟩, ⟨[], []⟩, ⟨[0, 1, 2, 3, 5], [(126, 3), (25, 5)]⟩, ⟨[0, 1, 2, 3, 4, 5, 6], [(127, 4)]⟩]
def plan_12_16 : List Plan := [⟨[], []⟩, ⟨[0], [(129, 0)]⟩, ⟨[0, 1], [(130, 1)]⟩, ⟨[0, 1, 2], [(128, 2)]⟩, ⟨[0, 1, 2], [(128, 2)]⟩, ⟨[], []⟩, ⟨[0, 1, 2, 3, 5], [(131, 3), (26, 5)]⟩, ⟨[0, 1, 2, 3, 4, 5, 6], [(132, 4)]⟩]
def plan_12_17 : List Plan := [⟨[], []⟩, ⟨[0], [(133, 0)]⟩, ⟨[0, 1], [(134, 1)]⟩, ⟨[0, 1, 2], [(135, 2)]⟩, ⟨[0, 1, 2, 3], [(135, 2), (136, 3)]⟩, ⟨[0, 1, 2, 3, 4], [(135, 2), (137, 4)]⟩, ⟨[0, 1, 2, 3, 4, 5], [(138, 5)]⟩, ⟨[0, 1, 2, 3, 4, 5, 6], [(139, 6)]⟩, ⟨[0, 1, 2, 3, 4, 5, 6, 7], [(139, 6), (140, 7)]⟩, ⟨[0, 1, 2, 3, 4, 5, 6, 7, 8], [(139, 6), (141, 8)]⟩, ⟨[0, 1, 2, 3, 4, 5, 6, 7, 8, 9], [(142, 9)]⟩, ⟨[0, 1, 2, 3, 4, 5, 6, 7, 8, 9, 10], [(143, 10)]⟩, ⟨[0, 1, 2, 3, 4, 5, 6, 7, 8, 9, 10], [(143, 10)]⟩, ⟨[0, 1, 2, 3, 4, 5, 6, 7, 8, 9, 10, 11, 12], [(143, 10), (144, 11), (145, 12)]⟩, ⟨[0, 1, 2, 3, 4, 5, 6, 7, 8, 9, 10, 11, 12, 13], [(143, 10), (146, 13)]⟩, ⟨[0, 1, 2, 3, 4, 5, 6, 7, 8, 9, 10, 11, 12, 13, 14], [(147, 14)]⟩, ⟨[0, 1, 2, 3, 4, 5, 6, 7, 8, 9, 10, 11, 12, 13, 14, 15], [(148, 15)]⟩, ⟨[0, 1, 2, 3, 4, 5, 6, 7, 8, 9, 10, 11, 12, 13, 14, 15], [(148, 15)]⟩, ⟨[0, 1, 2, 3, 4, 5, 6, 7, 8, 9, 10, 11, 12, 13, 14, 15, 16, 17], [(148, 15), (149, 16), (150, 17)]⟩, ⟨[0, 1, 2, 3, 4, 5, 6, 7, 8, 9, 10, 11, 12, 13, 14, 15, 16, 17, 18], [(148, 15), (151, 18)]⟩]
def plan_12_19 : List Plan := [⟨[], []⟩, ⟨[], []⟩, ⟨[], []⟩, ⟨[0, 1, 2], [(153, 0), (154, 1), (155, 2)]⟩, ⟨[], []⟩, ⟨[0, 1, 2, 3, 4], [(156, 3), (27, 4)]⟩]
def plan_12_20 : List Plan := [⟨[], []⟩, ⟨[], []⟩, ⟨[0, 1], [(158, 0), (159, 1)]⟩, ⟨[0, 1, 2], [(160, 2)]⟩, ⟨[0, 1, 2, 3], [(157, 3)]⟩, ⟨[0, 1, 2, 3], [(157, 3)]⟩, ⟨[], []⟩, ⟨[0, 1, 2, 3, 4, 6], [(161, 4), (28, 6)]⟩, ⟨[0, 1, 2, 3, 4, 5, 6, 7], [(162, 5)]⟩]
def plan_12_21 : List Plan := [⟨[], []⟩, ⟨[], []⟩, ⟨[0, 1], [(164, 0), (165, 1)]⟩, ⟨[0, 1, 2], [(166, 2)]⟩, ⟨[0, 1, 2, 3], [(163, 3)]⟩, ⟨[0, 1, 2, 3], [(163, 3)]⟩, ⟨[], []⟩, ⟨[0, 1, 2, 3, 4, 6], [(167, 4), (29, 6)]⟩, ⟨[0, 1, 2, 3, 4, 5, 6, 7], [(168, 5)]⟩]
def plan_12_22 : List Plan := [⟨[], []⟩, ⟨[], []⟩, ⟨[0, 1], [(170, 0), (171, 1)]⟩, ⟨[0, 1, 2], [(172, 2)]⟩, ⟨[0, 1, 2, 3], [(169, 3)]⟩, ⟨[0, 1, 2, 3], [(169, 3)]⟩, ⟨[], []⟩, ⟨[0, 1, 2, 3, 4, 6], [(173, 4), (30, 6)]⟩, ⟨[0, 1, 2, 3, 4, 5, 6, 7], [(174, 5)]⟩]
def plan_12_23 : List Plan := [⟨[], []⟩, ⟨[], []⟩, ⟨[0, 1], [(176, 0), (177, 1)]⟩, ⟨[0, 1, 2], [(178, 2)]⟩, ⟨[0, 1, 2, 3], [(175, 3)]⟩, ⟨[0, 1, 2, 3], [(175, 3)]⟩, ⟨[], []⟩, ⟨[0, 1, 2, 3, 4, 6], [(179, 4), (31, 6)]⟩, ⟨[0, 1, 2, 3, 4, 5, 6, 7], [(180, 5)]⟩]
def plan_12_24 : List Plan := [⟨[], []⟩, ⟨[0], [(181, 0)]⟩, ⟨[], []⟩, ⟨[0, 1, 2], [(182, 1), (32, 2)]⟩]
def plan_12_25 : List Plan := [⟨[], []⟩, ⟨[], []⟩, ⟨[0, 1], [(184, 0), (185, 1)]⟩, ⟨[0, 1, 2], [(186, 2)]⟩, ⟨[0, 1, 2, 3], [(183, 3)]⟩, ⟨[0, 1, 2, 3], [(183, 3)]⟩, ⟨[], []⟩, ⟨[0, 1, 2, 3, 4, 6], [(187, 4), (33, 6)]⟩, ⟨[0, 1, 2, 3, 4, 5, 6, 7], [(188, 5)]⟩]
def plan_12_26 : List Plan := [⟨[], []⟩, ⟨[0], [(189, 0)]⟩, ⟨[0, 1], [(190, 1)]⟩, ⟨[0, 1, 2], [(190, 1), (191, 2)]⟩, ⟨[0, 1, 2, 3], [(190, 1), (192, 3)]⟩, ⟨[0, 1, 2, 3, 4], [(193, 4)]⟩, ⟨[0, 1, 2, 3, 4, 5], [(194, 5)]⟩, ⟨[0, 1, 2, 3, 4, 5, 6], [(194, 5), (195, 6)]⟩, ⟨[0, 1, 2, 3, 4, 5, 6, 7], [(194, 5), (196, 7)]⟩, ⟨[0, 1, 2, 3, 4, 5, 6, 7, 8], [(197, 8)]⟩, ⟨[0, 1, 2, 3, 4, 5, 6, 7, 8, 9], [(198, 9)]⟩, ⟨[0, 1, 2, 3, 4, 5, 6, 7, 8, 9, 10], [(198, 9), (199, 10)]⟩, ⟨[0, 1, 2, 3, 4, 5, 6, 7, 8, 9, 10, 11], [(198, 9), (200, 11)]⟩, ⟨[0, 1, 2, 3, 4, 5, 6, 7, 8, 9, 10, 11, 12], [(201, 12)]⟩, ⟨[0, 1, 2, 3, 4, 5, 6, 7, 8, 9, 10, 11, 12, 13], [(202, 13)]⟩, ⟨[0, 1, 2, 3, 4, 5, 6, 7, 8, 9, 10, 11, 12, 13, 14], [(202, 13), (203, 14)]⟩, ⟨[0, 1, 2, 3, 4, 5, 6, 7, 8, 9, 10, 11, 12, 13, 14, 15], [(202, 13), (204, 15)]⟩, ⟨[0, 1, 2, 3, 4, 5, 6, 7, 8, 9, 10, 11, 12, 13, 14, 15, 16], [(205, 16)]⟩, ⟨[0, 1, 2, 3, 4, 5, 6, 7, 8, 9, 10, 11, 12, 13, 14, 15, 16, 17], [(206, 17)]⟩, ⟨[0, 1, 2, 3, 4, 5, 6, 7, 8, 9, 10, 11, 12, 13, 14, 15, 16, 17, 18], [(206, 17), (207, 18)]⟩, ⟨[0, 1, 2, 3, 4, 5, 6, 7, 8, 9, 10, 11, 12, 13, 14, 15, 16, 17, 18, 19], [(206, 17), (208, 19)]⟩, ⟨[0, 1, 2, 3, 4, 5, 6, 7, 8, 9, 10, 11, 12, 13, 14, 15, 16, 17, 18, 19, 20], [(209, 20)]⟩, ⟨[0, 1, 2, 3, 4, 5, 6, 7, 8, 9, 10, 11, 12, 13, 14, 15, 16, 17, 18, 19, 20, 21], [(210, 21)]⟩, ⟨[0, 1, 2, 3, 4, 5, 6, 7, 8, 9, 10, 11, 12, 13, 14, 15, 16, 17, 18, 19, 20, 21], [(210, 21)]⟩, ⟨[0, 1, 2, 3, 4, 5, 6, 7, 8, 9, 10, 11, 12, 13, 14, 15, 16, 17, 18, 19, 20, 21, 22, 23], [(210, 21), (211, 22), (212, 23)]⟩, ⟨[0, 1, 2, 3, 4, 5, 6, 7, 8, 9, 10, 11, 12, 13, 14, 15, 16, 17, 18, 19, 20, 21, 22, 23, 24], [(210, 21), (213, 24)]⟩, ⟨[0, 1, 2, 3, 4, 5, 6, 7, 8, 9, 10, 11, 12, 13, 14, 15, 16, 17, 18, 19, 20, 21, 22, 23, 24, 25], [(214, 25)]⟩, ⟨[0, 1, 2, 3, 4, 5, 6, 7, 8, 9, 10, 11, 12, 13, 14, 15, 16, 17, 18, 19, 20, 21, 22, 23, 24, 25, 26], [(215, 26)]⟩, ⟨[0, 1, 2, 3, 4, 5, 6, 7, 8, 9, 10, 11, 12, 13, 14, 15, 16, 17, 18, 19, 20, 21, 22, 23, 24, 25, 26], [(215, 26)]⟩, ⟨[0, 1, 2, 3, 4, 5, 6, 7, 8, 9, 10, 11, 12, 13, 14, 15, 16, 17, 18, 19, 20, 21, 22, 23, 24, 25, 26, 28], [(215, 26), (217, 28)]⟩, ⟨[0, 1, 2, 3, 4, 5, 6, 7, 8, 9, 10, 11, 12, 13, 14, 15, 16, 17, 18, 19, 20, 21, 22, 23, 24, 25, 26, 27, 28, 29], [(215, 26), (216, 27), (218, 29)]⟩, ⟨[0, 1, 2, 3, 4, 5, 6, 7, 8, 9, 10, 11, 12, 13, 14, 15, 16, 17, 18, 19, 20, 21, 22, 23, 24, 25, 26, 27, 28, 29, 30], [(215, 26), (219, 30)]⟩, ⟨[0, 1, 2, 3, 4, 5, 6, 7, 8, 9, 10, 11, 12, 13, 14, 15, 16, 17, 18, 19, 20, 21, 22, 23, 24, 25, 26, 27, 28, 29, 30, 31], [(220, 31)]⟩]
set_option maxRecDepth 20000 in
set_option maxHeartbeats 40000000 in
theorem group_any (f1 f2 f3 : Nat → UInt8) (w : World) :
    Calls Try.prog 12 #[.agg (bcells f1), .agg (bcells f2), .agg (bcells f3)] w fun e w' => e = .returned (.bool true) ∧ Ext w w' := by
  obtain ⟨P, hPe⟩ : ∃ P, P = someP f1 := ⟨_, rfl⟩
  obtain ⟨Q, hQe⟩ : ∃ Q, Q = someP f2 := ⟨_, rfl⟩
  obtain ⟨R, hRe⟩ : ∃ R, R = someP f3 := ⟨_, rfl⟩
  have hP := some_any f1
  have hQ := some_any f2
  have hR := some_any f3
  rw [← hPe] at hP
  rw [← hQe] at hQ
  rw [← hRe] at hR
  clear hPe hQe hRe
  go_enter Try.func12, Try.ntmps12
  have hx : Ext w w := Ext.refl w
  go_upto_region 0 with fail
  have hok : TrsOk [] w.heap.size ([⟨some 0, 0, 22, none, fun cs => (Value.agg (List.toArray cs)) = .agg (bcells (f1)), fun _ => True⟩, ⟨some 1, 0, 22, none, fun cs => (Value.agg (List.toArray cs)) = .agg (bcells (f2)), fun _ => True⟩, ⟨some 2, 0, 22, none, fun cs => (Value.agg (List.toArray cs)) = .agg (bcells (f3)), fun _ => True⟩] : List Trk) := ⟨by simp, by simp, by simp, by simp⟩
  refine wp_region_text (InvN [] (fun j u => match j with | 3 => u = .bool false | _ => True) (fun _ => none) (fun _ => none) [⟨some 0, 0, 22, none, fun cs => (Value.agg (List.toArray cs)) = .agg (bcells (f1)), fun _ => True⟩, ⟨some 1, 0, 22, none, fun cs => (Value.agg (List.toArray cs)) = .agg (bcells (f2)), fun _ => True⟩, ⟨some 2, 0, 22, none, fun cs => (Value.agg (List.toArray cs)) = .agg (bcells (f3)), fun _ => True⟩] w) plan_12_0 [(3, 0), (4, 1), (5, 2), (6, 3)] 221 rfl (by kernel_rfl) (InvN.of (Inv.start0 hok (by simp))) ⟨?_, ?_, ?_, ?_, trivial⟩ ?_
  · intro L v w hL hD hC hI
    refine ⟨fun _ => ?_, fun hw => by cases hw⟩
    refine InvN.alloc_step hok hI hL ⟨some 0, 0, 22, none, fun cs => (Value.agg (List.toArray cs)) = .agg (bcells (f1)), fun _ => True⟩ (by simp) rfl (by simp) (by intro s hs; cases hs) rfl rfl ?_
    rw [show readsOf plan_12_0 0 = [] from rfl]
    exact ⟨trivial, rfl, (bcells f1).toList, by first | rfl | (rw [Array.toArray_toList]; rfl), by show (Value.agg _ = Value.agg _); rw [Array.toArray_toList]⟩
  · intro L v w hL hD hC hI
    refine ⟨fun _ => ?_, fun hw => by cases hw⟩
    refine InvN.alloc_step hok hI hL ⟨some 1, 0, 22, none, fun cs => (Value.agg (List.toArray cs)) = .agg (bcells (f2)), fun _ => True⟩ (by simp) rfl (by simp) (by intro s hs; cases hs) rfl rfl ?_
    rw [show readsOf plan_12_0 1 = [] from rfl]
    exact ⟨trivial, rfl, (bcells f2).toList, by first | rfl | (rw [Array.toArray_toList]; rfl), by show (Value.agg _ = Value.agg _); rw [Array.toArray_toList]⟩
  · intro L v w hL hD hC hI
    refine ⟨fun _ => ?_, fun hw => by cases hw⟩
    refine InvN.alloc_step hok hI hL ⟨some 2, 0, 22, none, fun cs => (Value.agg (List.toArray cs)) = .agg (bcells (f3)), fun _ => True⟩ (by simp) rfl (by simp) (by intro s hs; cases hs) rfl rfl ?_
    rw [show readsOf plan_12_0 2 = [] from rfl]
    exact ⟨trivial, rfl, (bcells f3).toList, by first | rfl | (rw [Array.toArray_toList]; rfl), by show (Value.agg _ = Value.agg _); rw [Array.toArray_toList]⟩
  · intro L v w hL hD hC hI
    refine ⟨fun _ => ?_, fun hw => by cases hw⟩
    refine hI.val0 hL (by simp) rfl rfl ?_
    rw [show readsOf plan_12_0 3 = [] from rfl]
    first | exact ⟨rfl, Ext.refl _⟩ | (go_simp; exact ⟨rfl, Ext.refl _⟩)
  intro L v1 W1 hL hI
  obtain ⟨k1, cs, hb_k1, lo_k1, hr, hn, ho⟩ := hI.inv.row_made ⟨some 0, 0, 22, none, fun cs => (Value.agg (List.toArray cs)) = .agg (bcells (f1)), fun _ => True⟩ (by simp) 0 rfl (hL 0 (by decide))
  have R_k1 : RV W1 k1 22 (fun u => u = .agg (bcells (f1))) := ⟨cs, hr, ho (by intro s hs; cases hs)⟩
  clear hr hn ho
  obtain ⟨k2, cs, hb_k2, lo_k2, hr, hn, ho⟩ := hI.inv.row_made ⟨some 1, 0, 22, none, fun cs => (Value.agg (List.toArray cs)) = .agg (bcells (f2)), fun _ => True⟩ (by simp) 1 rfl (hL 1 (by decide))
  have R_k2 : RV W1 k2 22 (fun u => u = .agg (bcells (f2))) := ⟨cs, hr, ho (by intro s hs; cases hs)⟩
  clear hr hn ho
  obtain ⟨k3, cs, hb_k3, lo_k3, hr, hn, ho⟩ := hI.inv.row_made ⟨some 2, 0, 22, none, fun cs => (Value.agg (List.toArray cs)) = .agg (bcells (f3)), fun _ => True⟩ (by simp) 2 rfl (hL 2 (by decide))
  have R_k3 : RV W1 k3 22 (fun u => u = .agg (bcells (f3))) := ⟨cs, hr, ho (by intro s hs; cases hs)⟩
  clear hr hn ho
  have hx' : Ext w W1 := hx.trans hI.inv.keep.to_ext
  have hs_6_0 : (v1 3) = .bool false := hI.inv.val 3 (hL 3 (by decide))
  clear hx hI hL hok L
  have hx := hx'
  clear hx'
  simp only [putP, Act.put, List.setIfInBounds_toArray, List.set_cons_zero, List.set_cons_succ, hb_k1, hb_k2, hb_k3, hs_6_0]
  go_upto_region 1 with fail
  have hok : TrsOk [] W1.heap.size ([] : List Trk) := ⟨by simp, by simp, by simp, by simp⟩
  refine wp_region_text (InvN [] (fun j u => match j with | 0 => u = .bool (true) | 1 => u = .bool (true) | _ => True) (fun _ => none) (fun _ => none) [] W1) plan_12_1 [(34, 0), (7, 1)] 221 rfl (by kernel_rfl) (InvN.of (Inv.start0 hok (by simp))) ⟨?_, ?_, trivial⟩ ?_
  · intro L v w hL hD hC hI
    refine ⟨fun _ => ?_, fun hw => by cases hw⟩
    refine hI.val0 hL (by simp) rfl rfl ?_
    rw [show readsOf plan_12_1 0 = [] from rfl]
    refine give_call _ _ _ _ rfl rfl Try.func28 (by kernel_rfl) (by kernel_rfl) ?_
    refine Calls.mono (shown7_any w) ?_
    rintro e w' ⟨rfl, hx⟩
    exact ⟨_, rfl, rfl, hx⟩
  · intro L v w hL hD hC hI
    refine ⟨fun _ => ?_, fun hw => by cases hw⟩
    have h0 : (v 0) = .bool (true) := hI.inv.val 0 (hD 0 (by decide))
    refine hI.val0 hL (by simp) rfl rfl ?_
    rw [show readsOf plan_12_1 1 = [(34, 0)] from rfl]
    exact ⟨h0, Ext.refl _⟩
  intro L v2 W2 hL hI
  replace R_k1 := R_k1.keep hI.inv.keep (by simp)
  replace R_k2 := R_k2.keep hI.inv.keep (by simp)
  replace R_k3 := R_k3.keep hI.inv.keep (by simp)
  have hx' : Ext w W2 := hx.trans hI.inv.keep.to_ext
  have hs_7_1 : (v2 1) = .bool (true) := hI.inv.val 1 (hL 1 (by decide))
  clear hx hI hL hok L
  have hx := hx'
  clear hx'
  simp only [putP, Act.put, List.setIfInBounds_toArray, List.set_cons_zero, List.set_cons_succ, hs_7_1]
  go_upto_region 2 with fail
  have hok : TrsOk [] W2.heap.size ([⟨some 5, 0, 43, some 6, fun cs => (Value.agg (List.toArray cs)) = .agg (pc (fun _ => 0) (fun _ => 0)), fun cs => (Value.agg (List.toArray cs)) = .agg (pc (fb (P).x) (fb (P).y))⟩] : List Trk) := ⟨by simp, by simp, by simp, by simp⟩
  refine wp_region_text (InvN [] (fun j u => match j with | 0 => u = .agg (bcells (f1)) | 1 => u = .tuple #[.agg (pc (fb (P).x) (fb (P).y)), .bool (true)] | 2 => u = .tuple #[.agg (pc (fb (P).x) (fb (P).y)), .bool (true)] | 3 => u = .agg (pc (fb (P).x) (fb (P).y)) | 4 => u = .bool (true) | 7 => u = .bool (true) | _ => True) (fun _ => none) (fun _ => none) [⟨some 5, 0, 43, some 6, fun cs => (Value.agg (List.toArray cs)) = .agg (pc (fun _ => 0) (fun _ => 0)), fun cs => (Value.agg (List.toArray cs)) = .agg (pc (fb (P).x) (fb (P).y))⟩] W2) plan_12_2 [(36, 0), (37, 1), (35, 2), (38, 3), (39, 4), (8, 5), (9, 7)] 221 rfl (by kernel_rfl) (InvN.of (Inv.start0 hok (by simp))) ⟨?_, ?_, ?_, ?_, ?_, ?_, ?_, ?_, trivial⟩ ?_
  · intro L v w hL hD hC hI
    refine ⟨fun _ => ?_, fun hw => by cases hw⟩
    refine hI.val0 hL (by simp) rfl rfl ?_
    rw [show readsOf plan_12_2 0 = [] from rfl]
    exact ld_B (R_k1.keep hI.inv.keep (by simp)) _ rfl rfl fun u hu => ⟨hu, Ext.refl _⟩
  · intro L v w hL hD hC hI
    refine ⟨fun _ => ?_, fun hw => by cases hw⟩
    have h0 : (v 0) = .agg (bcells (f1)) := hI.inv.val 0 (hD 0 (by decide))
    refine hI.val0 hL (by simp) rfl rfl ?_
    rw [show readsOf plan_12_2 1 = [(36, 0)] from rfl]
    refine give_call _ _ _ _ rfl rfl Try.func42 (by kernel_rfl) (by kernel_rfl) ?_
    refine Calls.mono (calls_eq (hP w) (args' := #[v 0]) (by rw [h0])) ?_
    rintro e w' ⟨rfl, hx⟩
    exact ⟨_, rfl, rfl, hx⟩
  · intro L v w hL hD hC hI
    refine ⟨fun _ => ?_, fun hw => by cases hw⟩
    have h1 : (v 1) = .tuple #[.agg (pc (fb (P).x) (fb (P).y)), .bool (true)] := hI.inv.val 1 (hD 1 (by decide))
    refine hI.val0 hL (by simp) rfl rfl ?_
    rw [show readsOf plan_12_2 2 = [(37, 1)] from rfl]
    exact ⟨h1, Ext.refl _⟩
  · intro L v w hL hD hC hI
    refine ⟨fun _ => ?_, fun hw => by cases hw⟩
    have h2 : (v 2) = .tuple #[.agg (pc (fb (P).x) (fb (P).y)), .bool (true)] := hI.inv.val 2 (hD 2 (by decide))
    refine hI.val0 hL (by simp) rfl rfl ?_
    rw [show readsOf plan_12_2 3 = [(35, 2)] from rfl]
    exact give_ext _ _ _ rfl h2 _ rfl ⟨rfl, Ext.refl _⟩
  · intro L v w hL hD hC hI
    refine ⟨fun _ => ?_, fun hw => by cases hw⟩
    have h2 : (v 2) = .tuple #[.agg (pc (fb (P).x) (fb (P).y)), .bool (true)] := hI.inv.val 2 (hD 2 (by decide))
    refine hI.val0 hL (by simp) rfl rfl ?_
    rw [show readsOf plan_12_2 4 = [(35, 2)] from rfl]
    exact give_ext _ _ _ rfl h2 _ rfl ⟨rfl, Ext.refl _⟩
  · intro L v w hL hD hC hI
    refine ⟨fun _ => ?_, fun hw => by cases hw⟩
    refine InvN.alloc_step hok hI hL ⟨some 5, 0, 43, some 6, fun cs => (Value.agg (List.toArray cs)) = .agg (pc (fun _ => 0) (fun _ => 0)), fun cs => (Value.agg (List.toArray cs)) = .agg (pc (fb (P).x) (fb (P).y))⟩ (by simp) rfl (by simp) (by intro s hs; cases hs; exact not_yet hC hL (by decide)) rfl rfl ?_
    rw [show readsOf plan_12_2 5 = [] from rfl]
    go_simp
    first | exact ⟨rfl, pcL (fun _ => 0) (fun _ => 0), rfl, rfl⟩ | exact ⟨trivial, rfl, pcL (fun _ => 0) (fun _ => 0), rfl, rfl⟩ | exact ⟨rfl, (bcells fun _ => 0).toList, by rw [Array.toArray_toList], by rw [Array.toArray_toList]⟩
  · intro L v w hL hD hC hI
    refine ⟨fun _ => ?_, fun hw => by cases hw⟩
    have h3 : (v 3) = .agg (pc (fb (P).x) (fb (P).y)) := hI.inv.val 3 (hD 3 (by decide))
    refine InvN.store_step hok hI hL ⟨some 5, 0, 43, some 6, fun cs => (Value.agg (List.toArray cs)) = .agg (pc (fun _ => 0) (fun _ => 0)), fun cs => (Value.agg (List.toArray cs)) = .agg (pc (fb (P).x) (fb (P).y))⟩ (by simp) rfl (by simp) (by intro k hk; cases hk; exact hD 5 (by decide)) rfl rfl (fun cs h => by rw [pcL_of h]; exact noI_pc _ _) ?_
    intro n cs hb hR hold
    change v 5 = .pointer (some ⟨n, 0, none⟩) at hb
    rw [show readsOf plan_12_2 6 = [(38, 3), (8, 5)] from rfl]
    exact st_P hR (by rw [pcL_of hold]; exact pcL_len _ _) _ _ rfl hb h3 fun w' cs' hr he hk => ⟨trivial, hk, cs', hr, he⟩
  · intro L v w hL hD hC hI
    refine ⟨fun _ => ?_, fun hw => by cases hw⟩
    have h4 : (v 4) = .bool (true) := hI.inv.val 4 (hD 4 (by decide))
    refine hI.val0 hL (by simp) rfl rfl ?_
    rw [show readsOf plan_12_2 7 = [(39, 4)] from rfl]
    exact ⟨h4, Ext.refl _⟩
  intro L v3 W3 hL hI
  obtain ⟨p, cs, hb_p, lo_p, hr, hn, ho⟩ := hI.inv.row_made ⟨some 5, 0, 43, some 6, fun cs => (Value.agg (List.toArray cs)) = .agg (pc (fun _ => 0) (fun _ => 0)), fun cs => (Value.agg (List.toArray cs)) = .agg (pc (fb (P).x) (fb (P).y))⟩ (by simp) 5 rfl (hL 5 (by decide))
  have R_p : RV W3 p 43 (fun u => u = .agg (pc (fb (P).x) (fb (P).y))) := ⟨cs, hr, hn 6 rfl (hL 6 (by decide))⟩
  clear hr hn ho
  replace R_k1 := R_k1.keep hI.inv.keep (by simp)
  replace R_k2 := R_k2.keep hI.inv.keep (by simp)
  replace R_k3 := R_k3.keep hI.inv.keep (by simp)
  have hx' : Ext w W3 := hx.trans hI.inv.keep.to_ext
  have hs_9_2 : (v3 7) = .bool (true) := hI.inv.val 7 (hL 7 (by decide))
  clear hx hI hL hok L
  have hx := hx'
  clear hx'
  simp only [putP, Act.put, List.setIfInBounds_toArray, List.set_cons_zero, List.set_cons_succ, hb_p, hs_9_2]
  go_upto_region 3 with fail
  have hok : TrsOk [] W3.heap.size ([⟨some 5, 0, 43, some 6, fun cs => (Value.agg (List.toArray cs)) = .agg (pc (fun _ => 0) (fun _ => 0)), fun cs => (Value.agg (List.toArray cs)) = .agg (pc (fb (Q).x) (fb (Q).y))⟩] : List Trk) := ⟨by simp, by simp, by simp, by simp⟩
  refine wp_region_text (InvN [] (fun j u => match j with | 0 => u = .agg (bcells (f2)) | 1 => u = .tuple #[.agg (pc (fb (Q).x) (fb (Q).y)), .bool (true)] | 2 => u = .tuple #[.agg (pc (fb (Q).x) (fb (Q).y)), .bool (true)] | 3 => u = .agg (pc (fb (Q).x) (fb (Q).y)) | 4 => u = .bool (true) | 7 => u = .bool (true) | _ => True) (fun _ => none) (fun _ => none) [⟨some 5, 0, 43, some 6, fun cs => (Value.agg (List.toArray cs)) = .agg (pc (fun _ => 0) (fun _ => 0)), fun cs => (Value.agg (List.toArray cs)) = .agg (pc (fb (Q).x) (fb (Q).y))⟩] W3) plan_12_3 [(41, 0), (42, 1), (40, 2), (43, 3), (44, 4), (10, 5), (11, 7)] 221 rfl (by kernel_rfl) (InvN.of (Inv.start0 hok (by simp))) ⟨?_, ?_, ?_, ?_, ?_, ?_, ?_, ?_, trivial⟩ ?_
  · intro L v w hL hD hC hI
    refine ⟨fun _ => ?_, fun hw => by cases hw⟩
    refine hI.val0 hL (by simp) rfl rfl ?_
    rw [show readsOf plan_12_3 0 = [] from rfl]
    exact ld_B (R_k2.keep hI.inv.keep (by simp)) _ rfl rfl fun u hu => ⟨hu, Ext.refl _⟩
  · intro L v w hL hD hC hI
    refine ⟨fun _ => ?_, fun hw => by cases hw⟩
    have h0 : (v 0) = .agg (bcells (f2)) := hI.inv.val 0 (hD 0 (by decide))
    refine hI.val0 hL (by simp) rfl rfl ?_
    rw [show readsOf plan_12_3 1 = [(41, 0)] from rfl]
    refine give_call _ _ _ _ rfl rfl Try.func42 (by kernel_rfl) (by kernel_rfl) ?_
    refine Calls.mono (calls_eq (hQ w) (args' := #[v 0]) (by rw [h0])) ?_
    rintro e w' ⟨rfl, hx⟩
    exact ⟨_, rfl, rfl, hx⟩
  · intro L v w hL hD hC hI
    refine ⟨fun _ => ?_, fun hw => by cases hw⟩
    have h1 : (v 1) = .tuple #[.agg (pc (fb (Q).x) (fb (Q).y)), .bool (true)] := hI.inv.val 1 (hD 1 (by decide))
    refine hI.val0 hL (by simp) rfl rfl ?_
    rw [show readsOf plan_12_3 2 = [(42, 1)] from rfl]
    exact ⟨h1, Ext.refl _⟩
  · intro L v w hL hD hC hI
    refine ⟨fun _ => ?_, fun hw => by cases hw⟩
    have h2 : (v 2) = .tuple #[.agg (pc (fb (Q).x) (fb (Q).y)), .bool (true)] := hI.inv.val 2 (hD 2 (by decide))
    refine hI.val0 hL (by simp) rfl rfl ?_
    rw [show readsOf plan_12_3 3 = [(40, 2)] from rfl]
    exact give_ext _ _ _ rfl h2 _ rfl ⟨rfl, Ext.refl _⟩
  · intro L v w hL hD hC hI
    refine ⟨fun _ => ?_, fun hw => by cases hw⟩
    have h2 : (v 2) = .tuple #[.agg (pc (fb (Q).x) (fb (Q).y)), .bool (true)] := hI.inv.val 2 (hD 2 (by decide))
    refine hI.val0 hL (by simp) rfl rfl ?_
    rw [show readsOf plan_12_3 4 = [(40, 2)] from rfl]
    exact give_ext _ _ _ rfl h2 _ rfl ⟨rfl, Ext.refl _⟩
  · intro L v w hL hD hC hI
    refine ⟨fun _ => ?_, fun hw => by cases hw⟩
    refine InvN.alloc_step hok hI hL ⟨some 5, 0, 43, some 6, fun cs => (Value.agg (List.toArray cs)) = .agg (pc (fun _ => 0) (fun _ => 0)), fun cs => (Value.agg (List.toArray cs)) = .agg (pc (fb (Q).x) (fb (Q).y))⟩ (by simp) rfl (by simp) (by intro s hs; cases hs; exact not_yet hC hL (by decide)) rfl rfl ?_
    rw [show readsOf plan_12_3 5 = [] from rfl]
    go_simp
    first | exact ⟨rfl, pcL (fun _ => 0) (fun _ => 0), rfl, rfl⟩ | exact ⟨trivial, rfl, pcL (fun _ => 0) (fun _ => 0), rfl, rfl⟩ | exact ⟨rfl, (bcells fun _ => 0).toList, by rw [Array.toArray_toList], by rw [Array.toArray_toList]⟩
  · intro L v w hL hD hC hI
    refine ⟨fun _ => ?_, fun hw => by cases hw⟩
    have h3 : (v 3) = .agg (pc (fb (Q).x) (fb (Q).y)) := hI.inv.val 3 (hD 3 (by decide))
    refine InvN.store_step hok hI hL ⟨some 5, 0, 43, some 6, fun cs => (Value.agg (List.toArray cs)) = .agg (pc (fun _ => 0) (fun _ => 0)), fun cs => (Value.agg (List.toArray cs)) = .agg (pc (fb (Q).x) (fb (Q).y))⟩ (by simp) rfl (by simp) (by intro k hk; cases hk; exact hD 5 (by decide)) rfl rfl (fun cs h => by rw [pcL_of h]; exact noI_pc _ _) ?_
    intro n cs hb hR hold
    change v 5 = .pointer (some ⟨n, 0, none⟩) at hb
    rw [show readsOf plan_12_3 6 = [(43, 3), (10, 5)] from rfl]
    exact st_P hR (by rw [pcL_of hold]; exact pcL_len _ _) _ _ rfl hb h3 fun w' cs' hr he hk => ⟨trivial, hk, cs', hr, he⟩
  · intro L v w hL hD hC hI
    refine ⟨fun _ => ?_, fun hw => by cases hw⟩
    have h4 : (v 4) = .bool (true) := hI.inv.val 4 (hD 4 (by decide))
    refine hI.val0 hL (by simp) rfl rfl ?_
    rw [show readsOf plan_12_3 7 = [(44, 4)] from rfl]
    exact ⟨h4, Ext.refl _⟩
  intro L v4 W4 hL hI
  obtain ⟨q, cs, hb_q, lo_q, hr, hn, ho⟩ := hI.inv.row_made ⟨some 5, 0, 43, some 6, fun cs => (Value.agg (List.toArray cs)) = .agg (pc (fun _ => 0) (fun _ => 0)), fun cs => (Value.agg (List.toArray cs)) = .agg (pc (fb (Q).x) (fb (Q).y))⟩ (by simp) 5 rfl (hL 5 (by decide))
  have R_q : RV W4 q 43 (fun u => u = .agg (pc (fb (Q).x) (fb (Q).y))) := ⟨cs, hr, hn 6 rfl (hL 6 (by decide))⟩
  clear hr hn ho
  replace R_k1 := R_k1.keep hI.inv.keep (by simp)
  replace R_k2 := R_k2.keep hI.inv.keep (by simp)
  replace R_k3 := R_k3.keep hI.inv.keep (by simp)
  replace R_p := R_p.keep hI.inv.keep (by simp)
  have hx' : Ext w W4 := hx.trans hI.inv.keep.to_ext
  have hs_11_3 : (v4 7) = .bool (true) := hI.inv.val 7 (hL 7 (by decide))
  clear hx hI hL hok L
  have hx := hx'
  clear hx'
  simp only [putP, Act.put, List.setIfInBounds_toArray, List.set_cons_zero, List.set_cons_succ, hb_q, hs_11_3]
  go_upto_region 4 with fail
  have hok : TrsOk [] W4.heap.size ([⟨some 5, 0, 43, some 6, fun cs => (Value.agg (List.toArray cs)) = .agg (pc (fun _ => 0) (fun _ => 0)), fun cs => (Value.agg (List.toArray cs)) = .agg (pc (fb (R).x) (fb (R).y))⟩] : List Trk) := ⟨by simp, by simp, by simp, by simp⟩
  refine wp_region_text (InvN [] (fun j u => match j with | 0 => u = .agg (bcells (f3)) | 1 => u = .tuple #[.agg (pc (fb (R).x) (fb (R).y)), .bool (true)] | 2 => u = .tuple #[.agg (pc (fb (R).x) (fb (R).y)), .bool (true)] | 3 => u = .agg (pc (fb (R).x) (fb (R).y)) | 4 => u = .bool (true) | 7 => u = .bool (true) | _ => True) (fun _ => none) (fun _ => none) [⟨some 5, 0, 43, some 6, fun cs => (Value.agg (List.toArray cs)) = .agg (pc (fun _ => 0) (fun _ => 0)), fun cs => (Value.agg (List.toArray cs)) = .agg (pc (fb (R).x) (fb (R).y))⟩] W4) plan_12_4 [(46, 0), (47, 1), (45, 2), (48, 3), (49, 4), (12, 5), (13, 7)] 221 rfl (by kernel_rfl) (InvN.of (Inv.start0 hok (by simp))) ⟨?_, ?_, ?_, ?_, ?_, ?_, ?_, ?_, trivial⟩ ?_
  · intro L v w hL hD hC hI
    refine ⟨fun _ => ?_, fun hw => by cases hw⟩
    refine hI.val0 hL (by simp) rfl rfl ?_
    rw [show readsOf plan_12_4 0 = [] from rfl]
    exact ld_B (R_k3.keep hI.inv.keep (by simp)) _ rfl rfl fun u hu => ⟨hu, Ext.refl _⟩
  · intro L v w hL hD hC hI
    refine ⟨fun _ => ?_, fun hw => by cases hw⟩
    have h0 : (v 0) = .agg (bcells (f3)) := hI.inv.val 0 (hD 0 (by decide))
    refine hI.val0 hL (by simp) rfl rfl ?_
    rw [show readsOf plan_12_4 1 = [(46, 0)] from rfl]
    refine give_call _ _ _ _ rfl rfl Try.func42 (by kernel_rfl) (by kernel_rfl) ?_
    refine Calls.mono (calls_eq (hR w) (args' := #[v 0]) (by rw [h0])) ?_
    rintro e w' ⟨rfl, hx⟩
    exact ⟨_, rfl, rfl, hx⟩
  · intro L v w hL hD hC hI
    refine ⟨fun _ => ?_, fun hw => by cases hw⟩
    have h1 : (v 1) = .tuple #[.agg (pc (fb (R).x) (fb (R).y)), .bool (true)] := hI.inv.val 1 (hD 1 (by decide))
    refine hI.val0 hL (by simp) rfl rfl ?_
    rw [show readsOf plan_12_4 2 = [(47, 1)] from rfl]
    exact ⟨h1, Ext.refl _⟩
  · intro L v w hL hD hC hI
    refine ⟨fun _ => ?_, fun hw => by cases hw⟩
    have h2 : (v 2) = .tuple #[.agg (pc (fb (R).x) (fb (R).y)), .bool (true)] := hI.inv.val 2 (hD 2 (by decide))
    refine hI.val0 hL (by simp) rfl rfl ?_
    rw [show readsOf plan_12_4 3 = [(45, 2)] from rfl]
    exact give_ext _ _ _ rfl h2 _ rfl ⟨rfl, Ext.refl _⟩
  · intro L v w hL hD hC hI
    refine ⟨fun _ => ?_, fun hw => by cases hw⟩
    have h2 : (v 2) = .tuple #[.agg (pc (fb (R).x) (fb (R).y)), .bool (true)] := hI.inv.val 2 (hD 2 (by decide))
    refine hI.val0 hL (by simp) rfl rfl ?_
    rw [show readsOf plan_12_4 4 = [(45, 2)] from rfl]
    exact give_ext _ _ _ rfl h2 _ rfl ⟨rfl, Ext.refl _⟩
  · intro L v w hL hD hC hI
    refine ⟨fun _ => ?_, fun hw => by cases hw⟩
    refine InvN.alloc_step hok hI hL ⟨some 5, 0, 43, some 6, fun cs => (Value.agg (List.toArray cs)) = .agg (pc (fun _ => 0) (fun _ => 0)), fun cs => (Value.agg (List.toArray cs)) = .agg (pc (fb (R).x) (fb (R).y))⟩ (by simp) rfl (by simp) (by intro s hs; cases hs; exact not_yet hC hL (by decide)) rfl rfl ?_
    rw [show readsOf plan_12_4 5 = [] from rfl]
    go_simp
    first | exact ⟨rfl, pcL (fun _ => 0) (fun _ => 0), rfl, rfl⟩ | exact ⟨trivial, rfl, pcL (fun _ => 0) (fun _ => 0), rfl, rfl⟩ | exact ⟨rfl, (bcells fun _ => 0).toList, by rw [Array.toArray_toList], by rw [Array.toArray_toList]⟩
  · intro L v w hL hD hC hI
    refine ⟨fun _ => ?_, fun hw => by cases hw⟩
    have h3 : (v 3) = .agg (pc (fb (R).x) (fb (R).y)) := hI.inv.val 3 (hD 3 (by decide))
    refine InvN.store_step hok hI hL ⟨some 5, 0, 43, some 6, fun cs => (Value.agg (List.toArray cs)) = .agg (pc (fun _ => 0) (fun _ => 0)), fun cs => (Value.agg (List.toArray cs)) = .agg (pc (fb (R).x) (fb (R).y))⟩ (by simp) rfl (by simp) (by intro k hk; cases hk; exact hD 5 (by decide)) rfl rfl (fun cs h => by rw [pcL_of h]; exact noI_pc _ _) ?_
    intro n cs hb hR hold
    change v 5 = .pointer (some ⟨n, 0, none⟩) at hb
    rw [show readsOf plan_12_4 6 = [(48, 3), (12, 5)] from rfl]
    exact st_P hR (by rw [pcL_of hold]; exact pcL_len _ _) _ _ rfl hb h3 fun w' cs' hr he hk => ⟨trivial, hk, cs', hr, he⟩
  · intro L v w hL hD hC hI
    refine ⟨fun _ => ?_, fun hw => by cases hw⟩
    have h4 : (v 4) = .bool (true) := hI.inv.val 4 (hD 4 (by decide))
    refine hI.val0 hL (by simp) rfl rfl ?_
    rw [show readsOf plan_12_4 7 = [(49, 4)] from rfl]
    exact ⟨h4, Ext.refl _⟩
  intro L v5 W5 hL hI
  obtain ⟨r, cs, hb_r, lo_r, hr, hn, ho⟩ := hI.inv.row_made ⟨some 5, 0, 43, some 6, fun cs => (Value.agg (List.toArray cs)) = .agg (pc (fun _ => 0) (fun _ => 0)), fun cs => (Value.agg (List.toArray cs)) = .agg (pc (fb (R).x) (fb (R).y))⟩ (by simp) 5 rfl (hL 5 (by decide))
  have R_r : RV W5 r 43 (fun u => u = .agg (pc (fb (R).x) (fb (R).y))) := ⟨cs, hr, hn 6 rfl (hL 6 (by decide))⟩
  clear hr hn ho
  replace R_k1 := R_k1.keep hI.inv.keep (by simp)
  replace R_k2 := R_k2.keep hI.inv.keep (by simp)
  replace R_k3 := R_k3.keep hI.inv.keep (by simp)
  replace R_p := R_p.keep hI.inv.keep (by simp)
  replace R_q := R_q.keep hI.inv.keep (by simp)
  have hx' : Ext w W5 := hx.trans hI.inv.keep.to_ext
  have hs_13_4 : (v5 7) = .bool (true) := hI.inv.val 7 (hL 7 (by decide))
  clear hx hI hL hok L
  have hx := hx'
  clear hx'
  simp only [putP, Act.put, List.setIfInBounds_toArray, List.set_cons_zero, List.set_cons_succ, hb_r, hs_13_4]
  go_upto_region 5 with fail
  have hok : TrsOk [] W5.heap.size ([] : List Trk) := ⟨by simp, by simp, by simp, by simp⟩
  refine wp_region_text (InvN [] (fun j u => match j with | 0 => u = .bool (true) | 1 => u = .bool (false) | 2 => u = .bool (false) | 3 => u = .bool (true) | 4 => u = .bool (false) | 5 => u = .bool (false) | 6 => u = .bool (false) | 7 => u = .bool (true) | 8 => u = .bool (false) | 9 => u = .bool (false) | _ => True) (fun _ => none) (fun _ => none) [] W5) plan_12_5 [(50, 0), (51, 1), (52, 2), (53, 3), (54, 4), (55, 5), (56, 6), (57, 7), (58, 8), (59, 9)] 221 rfl (by kernel_rfl) (InvN.of (Inv.start0 hok (by simp))) ⟨?_, ?_, ?_, ?_, ?_, ?_, ?_, ?_, ?_, ?_, trivial⟩ ?_
  · intro L v w hL hD hC hI
    refine ⟨fun _ => ?_, fun hw => by cases hw⟩
    refine hI.val0 hL (by simp) rfl rfl ?_
    rw [show readsOf plan_12_5 0 = [] from rfl]
    first | exact ⟨rfl, Ext.refl _⟩ | (go_simp; exact ⟨rfl, Ext.refl _⟩)
  · intro L v w hL hD hC hI
    refine ⟨fun _ => ?_, fun hw => by cases hw⟩
    have h0 : (v 0) = .bool (true) := hI.inv.val 0 (hD 0 (by decide))
    refine hI.val0 hL (by simp) rfl rfl ?_
    rw [show readsOf plan_12_5 1 = [(50, 0)] from rfl]
    exact give_not _ _ rfl h0 ⟨rfl, Ext.refl _⟩
  · intro L v w hL hD hC hI
    refine ⟨fun _ => ?_, fun hw => by cases hw⟩
    have h1 : (v 1) = .bool (false) := hI.inv.val 1 (hD 1 (by decide))
    refine hI.val0 hL (by simp) rfl rfl ?_
    rw [show readsOf plan_12_5 2 = [(51, 1)] from rfl]
    exact ⟨h1, Ext.refl _⟩
  · intro L v w hL hD hC hI
    have hg : v 2 = .bool false := hI.inv.val 2 (hD 2 (by decide))
    refine ⟨fun _ => ?_, fun hw => by simp [wantedV, hg] at hw⟩
    have h2 : (v 2) = .bool (false) := hI.inv.val 2 (hD 2 (by decide))
    refine hI.val0 hL (by simp) rfl rfl ?_
    rw [show readsOf plan_12_5 3 = [(52, 2)] from rfl]
    first | exact ⟨rfl, Ext.refl _⟩ | (go_simp; exact ⟨rfl, Ext.refl _⟩)
  · intro L v w hL hD hC hI
    have hg : v 2 = .bool false := hI.inv.val 2 (hD 2 (by decide))
    refine ⟨fun _ => ?_, fun hw => by simp [wantedV, hg] at hw⟩
    have h2 : (v 2) = .bool (false) := hI.inv.val 2 (hD 2 (by decide))
    have h3 : (v 3) = .bool (true) := hI.inv.val 3 (hD 3 (by decide))
    refine hI.val0 hL (by simp) rfl rfl ?_
    rw [show readsOf plan_12_5 4 = [(52, 2), (53, 3)] from rfl]
    exact give_not _ _ rfl h3 ⟨rfl, Ext.refl _⟩
  · intro L v w hL hD hC hI
    refine ⟨fun _ => ?_, fun hw => by cases hw⟩
    have h2 : (v 2) = .bool (false) := hI.inv.val 2 (hD 2 (by decide))
    have h4 : (v 4) = .bool (false) := hI.inv.val 4 (hD 4 (by decide))
    refine hI.val0 hL (by simp) rfl rfl ?_
    rw [show readsOf plan_12_5 5 = [(52, 2), (54, 4)] from rfl]
    exact give_pick_f _ _ _ rfl h2 ⟨h4, Ext.refl _⟩
  · intro L v w hL hD hC hI
    refine ⟨fun _ => ?_, fun hw => by cases hw⟩
    have h5 : (v 5) = .bool (false) := hI.inv.val 5 (hD 5 (by decide))
    refine hI.val0 hL (by simp) rfl rfl ?_
    rw [show readsOf plan_12_5 6 = [(55, 5)] from rfl]
    exact ⟨h5, Ext.refl _⟩
  · intro L v w hL hD hC hI
    have hg : v 6 = .bool false := hI.inv.val 6 (hD 6 (by decide))
    refine ⟨fun _ => ?_, fun hw => by simp [wantedV, hg] at hw⟩
    have h6 : (v 6) = .bool (false) := hI.inv.val 6 (hD 6 (by decide))
    refine hI.val0 hL (by simp) rfl rfl ?_
    rw [show readsOf plan_12_5 7 = [(56, 6)] from rfl]
    first | exact ⟨rfl, Ext.refl _⟩ | (go_simp; exact ⟨rfl, Ext.refl _⟩)
  · intro L v w hL hD hC hI
    have hg : v 6 = .bool false := hI.inv.val 6 (hD 6 (by decide))
    refine ⟨fun _ => ?_, fun hw => by simp [wantedV, hg] at hw⟩
    have h6 : (v 6) = .bool (false) := hI.inv.val 6 (hD 6 (by decide))
    have h7 : (v 7) = .bool (true) := hI.inv.val 7 (hD 7 (by decide))
    refine hI.val0 hL (by simp) rfl rfl ?_
    rw [show readsOf plan_12_5 8 = [(56, 6), (57, 7)] from rfl]
    exact give_not _ _ rfl h7 ⟨rfl, Ext.refl _⟩
  · intro L v w hL hD hC hI
    refine ⟨fun _ => ?_, fun hw => by cases hw⟩
    have h6 : (v 6) = .bool (false) := hI.inv.val 6 (hD 6 (by decide))
    have h8 : (v 8) = .bool (false) := hI.inv.val 8 (hD 8 (by decide))
    refine hI.val0 hL (by simp) rfl rfl ?_
    rw [show readsOf plan_12_5 9 = [(56, 6), (58, 8)] from rfl]
    exact give_pick_f _ _ _ rfl h6 ⟨h8, Ext.refl _⟩
  intro L v6 W6 hL hI
  replace R_k1 := R_k1.keep hI.inv.keep (by simp)
  replace R_k2 := R_k2.keep hI.inv.keep (by simp)
  replace R_k3 := R_k3.keep hI.inv.keep (by simp)
  replace R_p := R_p.keep hI.inv.keep (by simp)
  replace R_q := R_q.keep hI.inv.keep (by simp)
  replace R_r := R_r.keep hI.inv.keep (by simp)
  have hx' : Ext w W6 := hx.trans hI.inv.keep.to_ext
  have hs_50_5 : (v6 0) = .bool (true) := hI.inv.val 0 (hL 0 (by decide))
  have hs_52_5 : (v6 2) = .bool (false) := hI.inv.val 2 (hL 2 (by decide))
  have hs_53_5 : (v6 3) = .bool (true) := hI.inv.val 3 (hL 3 (by decide))
  have hs_56_5 : (v6 6) = .bool (false) := hI.inv.val 6 (hL 6 (by decide))
  have hs_57_5 : (v6 7) = .bool (true) := hI.inv.val 7 (hL 7 (by decide))
  have hs_59_5 : (v6 9) = .bool (false) := hI.inv.val 9 (hL 9 (by decide))
  clear hx hI hL hok L
  have hx := hx'
  clear hx'
  simp only [putP, Act.put, List.setIfInBounds_toArray, List.set_cons_zero, List.set_cons_succ, hs_50_5, hs_52_5, hs_53_5, hs_56_5, hs_57_5, hs_59_5]
  go_upto_region 7 with fail
  have hok : TrsOk [] W6.heap.size ([⟨some 6, 0, 43, some 7, fun cs => (Value.agg (List.toArray cs)) = .agg (pc (fun _ => 0) (fun _ => 0)), fun cs => (Value.agg (List.toArray cs)) = .agg (pc (fb ((P).add (Q)).x) (fb ((P).add (Q)).y))⟩] : List Trk) := ⟨by simp, by simp, by simp, by simp⟩
  refine wp_region_text (InvN [] (fun j u => match j with | 0 => u = .agg (pc (fb (P).x) (fb (P).y)) | 1 => u = .agg (pc (fb (Q).x) (fb (Q).y)) | 2 => u = .tuple #[.agg (pc (fb ((P).add (Q)).x) (fb ((P).add (Q)).y)), .nilIface] | 3 => u = .tuple #[.agg (pc (fb ((P).add (Q)).x) (fb ((P).add (Q)).y)), .nilIface] | 4 => u = .agg (pc (fb ((P).add (Q)).x) (fb ((P).add (Q)).y)) | 5 => u = .nilIface | 8 => u = .nilIface | _ => True) (fun _ => none) (fun _ => none) [⟨some 6, 0, 43, some 7, fun cs => (Value.agg (List.toArray cs)) = .agg (pc (fun _ => 0) (fun _ => 0)), fun cs => (Value.agg (List.toArray cs)) = .agg (pc (fb ((P).add (Q)).x) (fb ((P).add (Q)).y))⟩] W6) plan_12_7 [(61, 0), (62, 1), (63, 2), (60, 3), (64, 4), (65, 5), (14, 6), (15, 8)] 221 rfl (by kernel_rfl) (InvN.of (Inv.start0 hok (by simp))) ⟨?_, ?_, ?_, ?_, ?_, ?_, ?_, ?_, ?_, trivial⟩ ?_
  · intro L v w hL hD hC hI
    refine ⟨fun _ => ?_, fun hw => by cases hw⟩
    refine hI.val0 hL (by simp) rfl rfl ?_
    rw [show readsOf plan_12_7 0 = [] from rfl]
    exact ld_P (R_p.keep hI.inv.keep (by simp)) _ rfl rfl fun u hu => ⟨hu, Ext.refl _⟩
  · intro L v w hL hD hC hI
    refine ⟨fun _ => ?_, fun hw => by cases hw⟩
    refine hI.val0 hL (by simp) rfl rfl ?_
    rw [show readsOf plan_12_7 1 = [] from rfl]
    exact ld_P (R_q.keep hI.inv.keep (by simp)) _ rfl rfl fun u hu => ⟨hu, Ext.refl _⟩
  · intro L v w hL hD hC hI
    refine ⟨fun _ => ?_, fun hw => by cases hw⟩
    have h0 : (v 0) = .agg (pc (fb (P).x) (fb (P).y)) := hI.inv.val 0 (hD 0 (by decide))
    have h1 : (v 1) = .agg (pc (fb (Q).x) (fb (Q).y)) := hI.inv.val 1 (hD 1 (by decide))
    refine hI.val0 hL (by simp) rfl rfl ?_
    rw [show readsOf plan_12_7 2 = [(61, 0), (62, 1)] from rfl]
    refine give_call _ _ _ _ rfl rfl Try.func44 (by kernel_rfl) (by kernel_rfl) ?_
    refine Calls.mono (calls_eq (add_pt (P) (Q) w) (args' := #[v 0, v 1]) (by rw [h0, h1])) ?_
    rintro e w' ⟨rfl, hx⟩
    exact ⟨_, rfl, rfl, hx⟩
  · intro L v w hL hD hC hI
    refine ⟨fun _ => ?_, fun hw => by cases hw⟩
    have h2 : (v 2) = .tuple #[.agg (pc (fb ((P).add (Q)).x) (fb ((P).add (Q)).y)), .nilIface] := hI.inv.val 2 (hD 2 (by decide))
    refine hI.val0 hL (by simp) rfl rfl ?_
    rw [show readsOf plan_12_7 3 = [(63, 2)] from rfl]
    exact ⟨h2, Ext.refl _⟩
  · intro L v w hL hD hC hI
    refine ⟨fun _ => ?_, fun hw => by cases hw⟩
    have h3 : (v 3) = .tuple #[.agg (pc (fb ((P).add (Q)).x) (fb ((P).add (Q)).y)), .nilIface] := hI.inv.val 3 (hD 3 (by decide))
    refine hI.val0 hL (by simp) rfl rfl ?_
    rw [show readsOf plan_12_7 4 = [(60, 3)] from rfl]
    exact give_ext _ _ _ rfl h3 _ rfl ⟨rfl, Ext.refl _⟩
  · intro L v w hL hD hC hI
    refine ⟨fun _ => ?_, fun hw => by cases hw⟩
    have h3 : (v 3) = .tuple #[.agg (pc (fb ((P).add (Q)).x) (fb ((P).add (Q)).y)), .nilIface] := hI.inv.val 3 (hD 3 (by decide))
    refine hI.val0 hL (by simp) rfl rfl ?_
    rw [show readsOf plan_12_7 5 = [(60, 3)] from rfl]
    exact give_ext _ _ _ rfl h3 _ rfl ⟨rfl, Ext.refl _⟩
  · intro L v w hL hD hC hI
    refine ⟨fun _ => ?_, fun hw => by cases hw⟩
    refine InvN.alloc_step hok hI hL ⟨some 6, 0, 43, some 7, fun cs => (Value.agg (List.toArray cs)) = .agg (pc (fun _ => 0) (fun _ => 0)), fun cs => (Value.agg (List.toArray cs)) = .agg (pc (fb ((P).add (Q)).x) (fb ((P).add (Q)).y))⟩ (by simp) rfl (by simp) (by intro s hs; cases hs; exact not_yet hC hL (by decide)) rfl rfl ?_
    rw [show readsOf plan_12_7 6 = [] from rfl]
    go_simp
    first | exact ⟨rfl, pcL (fun _ => 0) (fun _ => 0), rfl, rfl⟩ | exact ⟨trivial, rfl, pcL (fun _ => 0) (fun _ => 0), rfl, rfl⟩ | exact ⟨rfl, (bcells fun _ => 0).toList, by rw [Array.toArray_toList], by rw [Array.toArray_toList]⟩
  · intro L v w hL hD hC hI
    refine ⟨fun _ => ?_, fun hw => by cases hw⟩
    have h4 : (v 4) = .agg (pc (fb ((P).add (Q)).x) (fb ((P).add (Q)).y)) := hI.inv.val 4 (hD 4 (by decide))
    refine InvN.store_step hok hI hL ⟨some 6, 0, 43, some 7, fun cs => (Value.agg (List.toArray cs)) = .agg (pc (fun _ => 0) (fun _ => 0)), fun cs => (Value.agg (List.toArray cs)) = .agg (pc (fb ((P).add (Q)).x) (fb ((P).add (Q)).y))⟩ (by simp) rfl (by simp) (by intro k hk; cases hk; exact hD 6 (by decide)) rfl rfl (fun cs h => by rw [pcL_of h]; exact noI_pc _ _) ?_
    intro n cs hb hR hold
    change v 6 = .pointer (some ⟨n, 0, none⟩) at hb
    rw [show readsOf plan_12_7 7 = [(64, 4), (14, 6)] from rfl]
    exact st_P hR (by rw [pcL_of hold]; exact pcL_len _ _) _ _ rfl hb h4 fun w' cs' hr he hk => ⟨trivial, hk, cs', hr, he⟩
  · intro L v w hL hD hC hI
    refine ⟨fun _ => ?_, fun hw => by cases hw⟩
    have h5 : (v 5) = .nilIface := hI.inv.val 5 (hD 5 (by decide))
    refine hI.val0 hL (by simp) rfl rfl ?_
    rw [show readsOf plan_12_7 8 = [(65, 5)] from rfl]
    exact ⟨h5, Ext.refl _⟩
  intro L v7 W7 hL hI
  obtain ⟨a, cs, hb_a, lo_a, hr, hn, ho⟩ := hI.inv.row_made ⟨some 6, 0, 43, some 7, fun cs => (Value.agg (List.toArray cs)) = .agg (pc (fun _ => 0) (fun _ => 0)), fun cs => (Value.agg (List.toArray cs)) = .agg (pc (fb ((P).add (Q)).x) (fb ((P).add (Q)).y))⟩ (by simp) 6 rfl (hL 6 (by decide))
  have R_a : RV W7 a 43 (fun u => u = .agg (pc (fb ((P).add (Q)).x) (fb ((P).add (Q)).y))) := ⟨cs, hr, hn 7 rfl (hL 7 (by decide))⟩
  clear hr hn ho
  replace R_k1 := R_k1.keep hI.inv.keep (by simp)
  replace R_k2 := R_k2.keep hI.inv.keep (by simp)
  replace R_k3 := R_k3.keep hI.inv.keep (by simp)
  replace R_p := R_p.keep hI.inv.keep (by simp)
  replace R_q := R_q.keep hI.inv.keep (by simp)
  replace R_r := R_r.keep hI.inv.keep (by simp)
  have hx' : Ext w W7 := hx.trans hI.inv.keep.to_ext
  have hs_15_7 : (v7 8) = .nilIface := hI.inv.val 8 (hL 8 (by decide))
  clear hx hI hL hok L
  have hx := hx'
  clear hx'
  simp only [putP, Act.put, List.setIfInBounds_toArray, List.set_cons_zero, List.set_cons_succ, hb_a, hs_15_7]
  go_upto_region 8 with fail
  have hok : TrsOk [] W7.heap.size ([⟨some 6, 0, 43, some 7, fun cs => (Value.agg (List.toArray cs)) = .agg (pc (fun _ => 0) (fun _ => 0)), fun cs => (Value.agg (List.toArray cs)) = .agg (pc (fb ((P).add (Q)).x) (fb ((P).add (Q)).y))⟩] : List Trk) := ⟨by simp, by simp, by simp, by simp⟩
  refine wp_region_text (InvN [] (fun j u => match j with | 0 => u = .agg (pc (fb (Q).x) (fb (Q).y)) | 1 => u = .agg (pc (fb (P).x) (fb (P).y)) | 2 => u = .tuple #[.agg (pc (fb ((P).add (Q)).x) (fb ((P).add (Q)).y)), .nilIface] | 3 => u = .tuple #[.agg (pc (fb ((P).add (Q)).x) (fb ((P).add (Q)).y)), .nilIface] | 4 => u = .agg (pc (fb ((P).add (Q)).x) (fb ((P).add (Q)).y)) | 5 => u = .nilIface | 8 => u = .nilIface | _ => True) (fun _ => none) (fun _ => none) [⟨some 6, 0, 43, some 7, fun cs => (Value.agg (List.toArray cs)) = .agg (pc (fun _ => 0) (fun _ => 0)), fun cs => (Value.agg (List.toArray cs)) = .agg (pc (fb ((P).add (Q)).x) (fb ((P).add (Q)).y))⟩] W7) plan_12_8 [(67, 0), (68, 1), (69, 2), (66, 3), (70, 4), (71, 5), (16, 6), (17, 8)] 221 rfl (by kernel_rfl) (InvN.of (Inv.start0 hok (by simp))) ⟨?_, ?_, ?_, ?_, ?_, ?_, ?_, ?_, ?_, trivial⟩ ?_
  · intro L v w hL hD hC hI
    refine ⟨fun _ => ?_, fun hw => by cases hw⟩
    refine hI.val0 hL (by simp) rfl rfl ?_
    rw [show readsOf plan_12_8 0 = [] from rfl]
    exact ld_P (R_q.keep hI.inv.keep (by simp)) _ rfl rfl fun u hu => ⟨hu, Ext.refl _⟩
  · intro L v w hL hD hC hI
    refine ⟨fun _ => ?_, fun hw => by cases hw⟩
    refine hI.val0 hL (by simp) rfl rfl ?_
    rw [show readsOf plan_12_8 1 = [] from rfl]
    exact ld_P (R_p.keep hI.inv.keep (by simp)) _ rfl rfl fun u hu => ⟨hu, Ext.refl _⟩
  · intro L v w hL hD hC hI
    refine ⟨fun _ => ?_, fun hw => by cases hw⟩
    have h0 : (v 0) = .agg (pc (fb (Q).x) (fb (Q).y)) := hI.inv.val 0 (hD 0 (by decide))
    have h1 : (v 1) = .agg (pc (fb (P).x) (fb (P).y)) := hI.inv.val 1 (hD 1 (by decide))
    refine hI.val0 hL (by simp) rfl rfl ?_
    rw [show readsOf plan_12_8 2 = [(67, 0), (68, 1)] from rfl]
    refine give_call _ _ _ _ rfl rfl Try.func44 (by kernel_rfl) (by kernel_rfl) ?_
    refine Calls.mono (calls_eq (add_comm_pt P Q w) (args' := #[v 0, v 1]) (by rw [h0, h1])) ?_
    rintro e w' ⟨rfl, hx⟩
    exact ⟨_, rfl, rfl, hx⟩
  · intro L v w hL hD hC hI
    refine ⟨fun _ => ?_, fun hw => by cases hw⟩
    have h2 : (v 2) = .tuple #[.agg (pc (fb ((P).add (Q)).x) (fb ((P).add (Q)).y)), .nilIface] := hI.inv.val 2 (hD 2 (by decide))
    refine hI.val0 hL (by simp) rfl rfl ?_
    rw [show readsOf plan_12_8 3 = [(69, 2)] from rfl]
    exact ⟨h2, Ext.refl _⟩
  · intro L v w hL hD hC hI
    refine ⟨fun _ => ?_, fun hw => by cases hw⟩
    have h3 : (v 3) = .tuple #[.agg (pc (fb ((P).add (Q)).x) (fb ((P).add (Q)).y)), .nilIface] := hI.inv.val 3 (hD 3 (by decide))
    refine hI.val0 hL (by simp) rfl rfl ?_
    rw [show readsOf plan_12_8 4 = [(66, 3)] from rfl]
    exact give_ext _ _ _ rfl h3 _ rfl ⟨rfl, Ext.refl _⟩
  · intro L v w hL hD hC hI
    refine ⟨fun _ => ?_, fun hw => by cases hw⟩
    have h3 : (v 3) = .tuple #[.agg (pc (fb ((P).add (Q)).x) (fb ((P).add (Q)).y)), .nilIface] := hI.inv.val 3 (hD 3 (by decide))
    refine hI.val0 hL (by simp) rfl rfl ?_
    rw [show readsOf plan_12_8 5 = [(66, 3)] from rfl]
    exact give_ext _ _ _ rfl h3 _ rfl ⟨rfl, Ext.refl _⟩
  · intro L v w hL hD hC hI
    refine ⟨fun _ => ?_, fun hw => by cases hw⟩
    refine InvN.alloc_step hok hI hL ⟨some 6, 0, 43, some 7, fun cs => (Value.agg (List.toArray cs)) = .agg (pc (fun _ => 0) (fun _ => 0)), fun cs => (Value.agg (List.toArray cs)) = .agg (pc (fb ((P).add (Q)).x) (fb ((P).add (Q)).y))⟩ (by simp) rfl (by simp) (by intro s hs; cases hs; exact not_yet hC hL (by decide)) rfl rfl ?_
    rw [show readsOf plan_12_8 6 = [] from rfl]
    go_simp
    first | exact ⟨rfl, pcL (fun _ => 0) (fun _ => 0), rfl, rfl⟩ | exact ⟨trivial, rfl, pcL (fun _ => 0) (fun _ => 0), rfl, rfl⟩ | exact ⟨rfl, (bcells fun _ => 0).toList, by rw [Array.toArray_toList], by rw [Array.toArray_toList]⟩
  · intro L v w hL hD hC hI
    refine ⟨fun _ => ?_, fun hw => by cases hw⟩
    have h4 : (v 4) = .agg (pc (fb ((P).add (Q)).x) (fb ((P).add (Q)).y)) := hI.inv.val 4 (hD 4 (by decide))
    refine InvN.store_step hok hI hL ⟨some 6, 0, 43, some 7, fun cs => (Value.agg (List.toArray cs)) = .agg (pc (fun _ => 0) (fun _ => 0)), fun cs => (Value.agg (List.toArray cs)) = .agg (pc (fb ((P).add (Q)).x) (fb ((P).add (Q)).y))⟩ (by simp) rfl (by simp) (by intro k hk; cases hk; exact hD 6 (by decide)) rfl rfl (fun cs h => by rw [pcL_of h]; exact noI_pc _ _) ?_
    intro n cs hb hR hold
    change v 6 = .pointer (some ⟨n, 0, none⟩) at hb
    rw [show readsOf plan_12_8 7 = [(70, 4), (16, 6)] from rfl]
    exact st_P hR (by rw [pcL_of hold]; exact pcL_len _ _) _ _ rfl hb h4 fun w' cs' hr he hk => ⟨trivial, hk, cs', hr, he⟩
  · intro L v w hL hD hC hI
    refine ⟨fun _ => ?_, fun hw => by cases hw⟩
    have h5 : (v 5) = .nilIface := hI.inv.val 5 (hD 5 (by decide))
    refine hI.val0 hL (by simp) rfl rfl ?_
    rw [show readsOf plan_12_8 8 = [(71, 5)] from rfl]
    exact ⟨h5, Ext.refl _⟩
  intro L v8 W8 hL hI
  obtain ⟨b, cs, hb_b, lo_b, hr, hn, ho⟩ := hI.inv.row_made ⟨some 6, 0, 43, some 7, fun cs => (Value.agg (List.toArray cs)) = .agg (pc (fun _ => 0) (fun _ => 0)), fun cs => (Value.agg (List.toArray cs)) = .agg (pc (fb ((P).add (Q)).x) (fb ((P).add (Q)).y))⟩ (by simp) 6 rfl (hL 6 (by decide))
  have R_b : RV W8 b 43 (fun u => u = .agg (pc (fb ((P).add (Q)).x) (fb ((P).add (Q)).y))) := ⟨cs, hr, hn 7 rfl (hL 7 (by decide))⟩
  clear hr hn ho
  replace R_k1 := R_k1.keep hI.inv.keep (by simp)
  replace R_k2 := R_k2.keep hI.inv.keep (by simp)
  replace R_k3 := R_k3.keep hI.inv.keep (by simp)
  replace R_p := R_p.keep hI.inv.keep (by simp)
  replace R_q := R_q.keep hI.inv.keep (by simp)
  replace R_r := R_r.keep hI.inv.keep (by simp)
  replace R_a := R_a.keep hI.inv.keep (by simp)
  have hx' : Ext w W8 := hx.trans hI.inv.keep.to_ext
  have hs_17_8 : (v8 8) = .nilIface := hI.inv.val 8 (hL 8 (by decide))
  clear hx hI hL hok L
  have hx := hx'
  clear hx'
  simp only [putP, Act.put, List.setIfInBounds_toArray, List.set_cons_zero, List.set_cons_succ, hb_b, hs_17_8]
  go_upto_region 9 with fail
  have hok : TrsOk [] W8.heap.size ([⟨some 6, 0, 43, some 7, fun cs => (Value.agg (List.toArray cs)) = .agg (pc (fun _ => 0) (fun _ => 0)), fun cs => (Value.agg (List.toArray cs)) = .agg (pc (fb (((P).add (Q)).add (R)).x) (fb (((P).add (Q)).add (R)).y))⟩] : List Trk) := ⟨by simp, by simp, by simp, by simp⟩
  refine wp_region_text (InvN [] (fun j u => match j with | 0 => u = .agg (pc (fb ((P).add (Q)).x) (fb ((P).add (Q)).y)) | 1 => u = .agg (pc (fb (R).x) (fb (R).y)) | 2 => u = .tuple #[.agg (pc (fb (((P).add (Q)).add (R)).x) (fb (((P).add (Q)).add (R)).y)), .nilIface] | 3 => u = .tuple #[.agg (pc (fb (((P).add (Q)).add (R)).x) (fb (((P).add (Q)).add (R)).y)), .nilIface] | 4 => u = .agg (pc (fb (((P).add (Q)).add (R)).x) (fb (((P).add (Q)).add (R)).y)) | 5 => u = .nilIface | 8 => u = .nilIface | _ => True) (fun _ => none) (fun _ => none) [⟨some 6, 0, 43, some 7, fun cs => (Value.agg (List.toArray cs)) = .agg (pc (fun _ => 0) (fun _ => 0)), fun cs => (Value.agg (List.toArray cs)) = .agg (pc (fb (((P).add (Q)).add (R)).x) (fb (((P).add (Q)).add (R)).y))⟩] W8) plan_12_9 [(73, 0), (74, 1), (75, 2), (72, 3), (76, 4), (77, 5), (18, 6), (19, 8)] 221 rfl (by kernel_rfl) (InvN.of (Inv.start0 hok (by simp))) ⟨?_, ?_, ?_, ?_, ?_, ?_, ?_, ?_, ?_, trivial⟩ ?_
  · intro L v w hL hD hC hI
    refine ⟨fun _ => ?_, fun hw => by cases hw⟩
    refine hI.val0 hL (by simp) rfl rfl ?_
    rw [show readsOf plan_12_9 0 = [] from rfl]
    exact ld_P (R_a.keep hI.inv.keep (by simp)) _ rfl rfl fun u hu => ⟨hu, Ext.refl _⟩
  · intro L v w hL hD hC hI
    refine ⟨fun _ => ?_, fun hw => by cases hw⟩
    refine hI.val0 hL (by simp) rfl rfl ?_
    rw [show readsOf plan_12_9 1 = [] from rfl]
    exact ld_P (R_r.keep hI.inv.keep (by simp)) _ rfl rfl fun u hu => ⟨hu, Ext.refl _⟩
  · intro L v w hL hD hC hI
    refine ⟨fun _ => ?_, fun hw => by cases hw⟩
    have h0 : (v 0) = .agg (pc (fb ((P).add (Q)).x) (fb ((P).add (Q)).y)) := hI.inv.val 0 (hD 0 (by decide))
    have h1 : (v 1) = .agg (pc (fb (R).x) (fb (R).y)) := hI.inv.val 1 (hD 1 (by decide))
    refine hI.val0 hL (by simp) rfl rfl ?_
    rw [show readsOf plan_12_9 2 = [(73, 0), (74, 1)] from rfl]
    refine give_call _ _ _ _ rfl rfl Try.func44 (by kernel_rfl) (by kernel_rfl) ?_
    refine Calls.mono (calls_eq (add_pt ((P).add (Q)) (R) w) (args' := #[v 0, v 1]) (by rw [h0, h1])) ?_
    rintro e w' ⟨rfl, hx⟩
    exact ⟨_, rfl, rfl, hx⟩
  · intro L v w hL hD hC hI
    refine ⟨fun _ => ?_, fun hw => by cases hw⟩
    have h2 : (v 2) = .tuple #[.agg (pc (fb (((P).add (Q)).add (R)).x) (fb (((P).add (Q)).add (R)).y)), .nilIface] := hI.inv.val 2 (hD 2 (by decide))
    refine hI.val0 hL (by simp) rfl rfl ?_
    rw [show readsOf plan_12_9 3 = [(75, 2)] from rfl]
    exact ⟨h2, Ext.refl _⟩
  · intro L v w hL hD hC hI
    refine ⟨fun _ => ?_, fun hw => by cases hw⟩
    have h3 : (v 3) = .tuple #[.agg (pc (fb (((P).add (Q)).add (R)).x) (fb (((P).add (Q)).add (R)).y)), .nilIface] := hI.inv.val 3 (hD 3 (by decide))
    refine hI.val0 hL (by simp) rfl rfl ?_
    rw [show readsOf plan_12_9 4 = [(72, 3)] from rfl]
    exact give_ext _ _ _ rfl h3 _ rfl ⟨rfl, Ext.refl _⟩
  · intro L v w hL hD hC hI
    refine ⟨fun _ => ?_, fun hw => by cases hw⟩
    have h3 : (v 3) = .tuple #[.agg (pc (fb (((P).add (Q)).add (R)).x) (fb (((P).add (Q)).add (R)).y)), .nilIface] := hI.inv.val 3 (hD 3 (by decide))
    refine hI.val0 hL (by simp) rfl rfl ?_
    rw [show readsOf plan_12_9 5 = [(72, 3)] from rfl]
    exact give_ext _ _ _ rfl h3 _ rfl ⟨rfl, Ext.refl _⟩
  · intro L v w hL hD hC hI
    refine ⟨fun _ => ?_, fun hw => by cases hw⟩
    refine InvN.alloc_step hok hI hL ⟨some 6, 0, 43, some 7, fun cs => (Value.agg (List.toArray cs)) = .agg (pc (fun _ => 0) (fun _ => 0)), fun cs => (Value.agg (List.toArray cs)) = .agg (pc (fb (((P).add (Q)).add (R)).x) (fb (((P).add (Q)).add (R)).y))⟩ (by simp) rfl (by simp) (by intro s hs; cases hs; exact not_yet hC hL (by decide)) rfl rfl ?_
    rw [show readsOf plan_12_9 6 = [] from rfl]
    go_simp
    first | exact ⟨rfl, pcL (fun _ => 0) (fun _ => 0), rfl, rfl⟩ | exact ⟨trivial, rfl, pcL (fun _ => 0) (fun _ => 0), rfl, rfl⟩ | exact ⟨rfl, (bcells fun _ => 0).toList, by rw [Array.toArray_toList], by rw [Array.toArray_toList]⟩
  · intro L v w hL hD hC hI
    refine ⟨fun _ => ?_, fun hw => by cases hw⟩
    have h4 : (v 4) = .agg (pc (fb (((P).add (Q)).add (R)).x) (fb (((P).add (Q)).add (R)).y)) := hI.inv.val 4 (hD 4 (by decide))
    refine InvN.store_step hok hI hL ⟨some 6, 0, 43, some 7, fun cs => (Value.agg (List.toArray cs)) = .agg (pc (fun _ => 0) (fun _ => 0)), fun cs => (Value.agg (List.toArray cs)) = .agg (pc (fb (((P).add (Q)).add (R)).x) (fb (((P).add (Q)).add (R)).y))⟩ (by simp) rfl (by simp) (by intro k hk; cases hk; exact hD 6 (by decide)) rfl rfl (fun cs h => by rw [pcL_of h]; exact noI_pc _ _) ?_
    intro n cs hb hR hold
    change v 6 = .pointer (some ⟨n, 0, none⟩) at hb
    rw [show readsOf plan_12_9 7 = [(76, 4), (18, 6)] from rfl]
    exact st_P hR (by rw [pcL_of hold]; exact pcL_len _ _) _ _ rfl hb h4 fun w' cs' hr he hk => ⟨trivial, hk, cs', hr, he⟩
  · intro L v w hL hD hC hI
    refine ⟨fun _ => ?_, fun hw => by cases hw⟩
    have h5 : (v 5) = .nilIface := hI.inv.val 5 (hD 5 (by decide))
    refine hI.val0 hL (by simp) rfl rfl ?_
    rw [show readsOf plan_12_9 8 = [(77, 5)] from rfl]
    exact ⟨h5, Ext.refl _⟩
  intro L v9 W9 hL hI
  obtain ⟨c, cs, hb_c, lo_c, hr, hn, ho⟩ := hI.inv.row_made ⟨some 6, 0, 43, some 7, fun cs => (Value.agg (List.toArray cs)) = .agg (pc (fun _ => 0) (fun _ => 0)), fun cs => (Value.agg (List.toArray cs)) = .agg (pc (fb (((P).add (Q)).add (R)).x) (fb (((P).add (Q)).add (R)).y))⟩ (by simp) 6 rfl (hL 6 (by decide))
  have R_c : RV W9 c 43 (fun u => u = .agg (pc (fb (((P).add (Q)).add (R)).x) (fb (((P).add (Q)).add (R)).y))) := ⟨cs, hr, hn 7 rfl (hL 7 (by decide))⟩
  clear hr hn ho
  replace R_k1 := R_k1.keep hI.inv.keep (by simp)
  replace R_k2 := R_k2.keep hI.inv.keep (by simp)
  replace R_k3 := R_k3.keep hI.inv.keep (by simp)
  replace R_p := R_p.keep hI.inv.keep (by simp)
  replace R_q := R_q.keep hI.inv.keep (by simp)
  replace R_r := R_r.keep hI.inv.keep (by simp)
  replace R_a := R_a.keep hI.inv.keep (by simp)
  replace R_b := R_b.keep hI.inv.keep (by simp)
  have hx' : Ext w W9 := hx.trans hI.inv.keep.to_ext
  have hs_19_9 : (v9 8) = .nilIface := hI.inv.val 8 (hL 8 (by decide))
  clear hx hI hL hok L
  have hx := hx'
  clear hx'
  simp only [putP, Act.put, List.setIfInBounds_toArray, List.set_cons_zero, List.set_cons_succ, hb_c, hs_19_9]
  go_upto_region 10 with fail
  have hok : TrsOk [] W9.heap.size ([⟨some 6, 0, 43, some 7, fun cs => (Value.agg (List.toArray cs)) = .agg (pc (fun _ => 0) (fun _ => 0)), fun cs => (Value.agg (List.toArray cs)) = .agg (pc (fb ((Q).add (R)).x) (fb ((Q).add (R)).y))⟩] : List Trk) := ⟨by simp, by simp, by simp, by simp⟩
  refine wp_region_text (InvN [] (fun j u => match j with | 0 => u = .agg (pc (fb (Q).x) (fb (Q).y)) | 1 => u = .agg (pc (fb (R).x) (fb (R).y)) | 2 => u = .tuple #[.agg (pc (fb ((Q).add (R)).x) (fb ((Q).add (R)).y)), .nilIface] | 3 => u = .tuple #[.agg (pc (fb ((Q).add (R)).x) (fb ((Q).add (R)).y)), .nilIface] | 4 => u = .agg (pc (fb ((Q).add (R)).x) (fb ((Q).add (R)).y)) | 5 => u = .nilIface | 8 => u = .nilIface | _ => True) (fun _ => none) (fun _ => none) [⟨some 6, 0, 43, some 7, fun cs => (Value.agg (List.toArray cs)) = .agg (pc (fun _ => 0) (fun _ => 0)), fun cs => (Value.agg (List.toArray cs)) = .agg (pc (fb ((Q).add (R)).x) (fb ((Q).add (R)).y))⟩] W9) plan_12_10 [(79, 0), (80, 1), (81, 2), (78, 3), (82, 4), (83, 5), (20, 6), (21, 8)] 221 rfl (by kernel_rfl) (InvN.of (Inv.start0 hok (by simp))) ⟨?_, ?_, ?_, ?_, ?_, ?_, ?_, ?_, ?_, trivial⟩ ?_
  · intro L v w hL hD hC hI
    refine ⟨fun _ => ?_, fun hw => by cases hw⟩
    refine hI.val0 hL (by simp) rfl rfl ?_
    rw [show readsOf plan_12_10 0 = [] from rfl]
    exact ld_P (R_q.keep hI.inv.keep (by simp)) _ rfl rfl fun u hu => ⟨hu, Ext.refl _⟩
  · intro L v w hL hD hC hI
    refine ⟨fun _ => ?_, fun hw => by cases hw⟩
    refine hI.val0 hL (by simp) rfl rfl ?_
    rw [show readsOf plan_12_10 1 = [] from rfl]
    exact ld_P (R_r.keep hI.inv.keep (by simp)) _ rfl rfl fun u hu => ⟨hu, Ext.refl _⟩
  · intro L v w hL hD hC hI
    refine ⟨fun _ => ?_, fun hw => by cases hw⟩
    have h0 : (v 0) = .agg (pc (fb (Q).x) (fb (Q).y)) := hI.inv.val 0 (hD 0 (by decide))
    have h1 : (v 1) = .agg (pc (fb (R).x) (fb (R).y)) := hI.inv.val 1 (hD 1 (by decide))
    refine hI.val0 hL (by simp) rfl rfl ?_
    rw [show readsOf plan_12_10 2 = [(79, 0), (80, 1)] from rfl]
    refine give_call _ _ _ _ rfl rfl Try.func44 (by kernel_rfl) (by kernel_rfl) ?_
    refine Calls.mono (calls_eq (add_pt (Q) (R) w) (args' := #[v 0, v 1]) (by rw [h0, h1])) ?_
    rintro e w' ⟨rfl, hx⟩
    exact ⟨_, rfl, rfl, hx⟩
  · intro L v w hL hD hC hI
    refine ⟨fun _ => ?_, fun hw => by cases hw⟩
    have h2 : (v 2) = .tuple #[.agg (pc (fb ((Q).add (R)).x) (fb ((Q).add (R)).y)), .nilIface] := hI.inv.val 2 (hD 2 (by decide))
    refine hI.val0 hL (by simp) rfl rfl ?_
    rw [show readsOf plan_12_10 3 = [(81, 2)] from rfl]
    exact ⟨h2, Ext.refl _⟩
  · intro L v w hL hD hC hI
    refine ⟨fun _ => ?_, fun hw => by cases hw⟩
    have h3 : (v 3) = .tuple #[.agg (pc (fb ((Q).add (R)).x) (fb ((Q).add (R)).y)), .nilIface] := hI.inv.val 3 (hD 3 (by decide))
    refine hI.val0 hL (by simp) rfl rfl ?_
    rw [show readsOf plan_12_10 4 = [(78, 3)] from rfl]
    exact give_ext _ _ _ rfl h3 _ rfl ⟨rfl, Ext.refl _⟩
  · intro L v w hL hD hC hI
    refine ⟨fun _ => ?_, fun hw => by cases hw⟩
    have h3 : (v 3) = .tuple #[.agg (pc (fb ((Q).add (R)).x) (fb ((Q).add (R)).y)), .nilIface] := hI.inv.val 3 (hD 3 (by decide))
    refine hI.val0 hL (by simp) rfl rfl ?_
    rw [show readsOf plan_12_10 5 = [(78, 3)] from rfl]
    exact give_ext _ _ _ rfl h3 _ rfl ⟨rfl, Ext.refl _⟩
  · intro L v w hL hD hC hI
    refine ⟨fun _ => ?_, fun hw => by cases hw⟩
    refine InvN.alloc_step hok hI hL ⟨some 6, 0, 43, some 7, fun cs => (Value.agg (List.toArray cs)) = .agg (pc (fun _ => 0) (fun _ => 0)), fun cs => (Value.agg (List.toArray cs)) = .agg (pc (fb ((Q).add (R)).x) (fb ((Q).add (R)).y))⟩ (by simp) rfl (by simp) (by intro s hs; cases hs; exact not_yet hC hL (by decide)) rfl rfl ?_
    rw [show readsOf plan_12_10 6 = [] from rfl]
    go_simp
    first | exact ⟨rfl, pcL (fun _ => 0) (fun _ => 0), rfl, rfl⟩ | exact ⟨trivial, rfl, pcL (fun _ => 0) (fun _ => 0), rfl, rfl⟩ | exact ⟨rfl, (bcells fun _ => 0).toList, by rw [Array.toArray_toList], by rw [Array.toArray_toList]⟩
  · intro L v w hL hD hC hI
    refine ⟨fun _ => ?_, fun hw => by cases hw⟩
    have h4 : (v 4) = .agg (pc (fb ((Q).add (R)).x) (fb ((Q).add (R)).y)) := hI.inv.val 4 (hD 4 (by decide))
    refine InvN.store_step hok hI hL ⟨some 6, 0, 43, some 7, fun cs => (Value.agg (List.toArray cs)) = .agg (pc (fun _ => 0) (fun _ => 0)), fun cs => (Value.agg (List.toArray cs)) = .agg (pc (fb ((Q).add (R)).x) (fb ((Q).add (R)).y))⟩ (by simp) rfl (by simp) (by intro k hk; cases hk; exact hD 6 (by decide)) rfl rfl (fun cs h => by rw [pcL_of h]; exact noI_pc _ _) ?_
    intro n cs hb hR hold
    change v 6 = .pointer (some ⟨n, 0, none⟩) at hb
    rw [show readsOf plan_12_10 7 = [(82, 4), (20, 6)] from rfl]
    exact st_P hR (by rw [pcL_of hold]; exact pcL_len _ _) _ _ rfl hb h4 fun w' cs' hr he hk => ⟨trivial, hk, cs', hr, he⟩
  · intro L v w hL hD hC hI
    refine ⟨fun _ => ?_, fun hw => by cases hw⟩
    have h5 : (v 5) = .nilIface := hI.inv.val 5 (hD 5 (by decide))
    refine hI.val0 hL (by simp) rfl rfl ?_
    rw [show readsOf plan_12_10 8 = [(83, 5)] from rfl]
    exact ⟨h5, Ext.refl _⟩
  intro L v10 W10 hL hI
  obtain ⟨d, cs, hb_d, lo_d, hr, hn, ho⟩ := hI.inv.row_made ⟨some 6, 0, 43, some 7, fun cs => (Value.agg (List.toArray cs)) = .agg (pc (fun _ => 0) (fun _ => 0)), fun cs => (Value.agg (List.toArray cs)) = .agg (pc (fb ((Q).add (R)).x) (fb ((Q).add (R)).y))⟩ (by simp) 6 rfl (hL 6 (by decide))
  have R_d : RV W10 d 43 (fun u => u = .agg (pc (fb ((Q).add (R)).x) (fb ((Q).add (R)).y))) := ⟨cs, hr, hn 7 rfl (hL 7 (by decide))⟩
  clear hr hn ho
  replace R_k1 := R_k1.keep hI.inv.keep (by simp)
  replace R_k2 := R_k2.keep hI.inv.keep (by simp)
  replace R_k3 := R_k3.keep hI.inv.keep (by simp)
  replace R_p := R_p.keep hI.inv.keep (by simp)
  replace R_q := R_q.keep hI.inv.keep (by simp)
  replace R_r := R_r.keep hI.inv.keep (by simp)
  replace R_a := R_a.keep hI.inv.keep (by simp)
  replace R_b := R_b.keep hI.inv.keep (by simp)
  replace R_c := R_c.keep hI.inv.keep (by simp)
  have hx' : Ext w W10 := hx.trans hI.inv.keep.to_ext
  have hs_21_10 : (v10 8) = .nilIface := hI.inv.val 8 (hL 8 (by decide))
  clear hx hI hL hok L
  have hx := hx'
  clear hx'
  simp only [putP, Act.put, List.setIfInBounds_toArray, List.set_cons_zero, List.set_cons_succ, hb_d, hs_21_10]
  go_upto_region 11 with fail
  have hok : TrsOk [] W10.heap.size ([⟨some 6, 0, 43, some 7, fun cs => (Value.agg (List.toArray cs)) = .agg (pc (fun _ => 0) (fun _ => 0)), fun cs => (Value.agg (List.toArray cs)) = .agg (pc (fb (((P).add (Q)).add (R)).x) (fb (((P).add (Q)).add (R)).y))⟩] : List Trk) := ⟨by simp, by simp, by simp, by simp⟩
  refine wp_region_text (InvN [] (fun j u => match j with | 0 => u = .agg (pc (fb (P).x) (fb (P).y)) | 1 => u = .agg (pc (fb ((Q).add (R)).x) (fb ((Q).add (R)).y)) | 2 => u = .tuple #[.agg (pc (fb (((P).add (Q)).add (R)).x) (fb (((P).add (Q)).add (R)).y)), .nilIface] | 3 => u = .tuple #[.agg (pc (fb (((P).add (Q)).add (R)).x) (fb (((P).add (Q)).add (R)).y)), .nilIface] | 4 => u = .agg (pc (fb (((P).add (Q)).add (R)).x) (fb (((P).add (Q)).add (R)).y)) | 5 => u = .nilIface | 8 => u = .nilIface | _ => True) (fun _ => none) (fun _ => none) [⟨some 6, 0, 43, some 7, fun cs => (Value.agg (List.toArray cs)) = .agg (pc (fun _ => 0) (fun _ => 0)), fun cs => (Value.agg (List.toArray cs)) = .agg (pc (fb (((P).add (Q)).add (R)).x) (fb (((P).add (Q)).add (R)).y))⟩] W10) plan_12_11 [(85, 0), (86, 1), (87, 2), (84, 3), (88, 4), (89, 5), (22, 6), (23, 8)] 221 rfl (by kernel_rfl) (InvN.of (Inv.start0 hok (by simp))) ⟨?_, ?_, ?_, ?_, ?_, ?_, ?_, ?_, ?_, trivial⟩ ?_
  · intro L v w hL hD hC hI
    refine ⟨fun _ => ?_, fun hw => by cases hw⟩
    refine hI.val0 hL (by simp) rfl rfl ?_
    rw [show readsOf plan_12_11 0 = [] from rfl]
    exact ld_P (R_p.keep hI.inv.keep (by simp)) _ rfl rfl fun u hu => ⟨hu, Ext.refl _⟩
  · intro L v w hL hD hC hI
    refine ⟨fun _ => ?_, fun hw => by cases hw⟩
    refine hI.val0 hL (by simp) rfl rfl ?_
    rw [show readsOf plan_12_11 1 = [] from rfl]
    exact ld_P (R_d.keep hI.inv.keep (by simp)) _ rfl rfl fun u hu => ⟨hu, Ext.refl _⟩
  · intro L v w hL hD hC hI
    refine ⟨fun _ => ?_, fun hw => by cases hw⟩
    have h0 : (v 0) = .agg (pc (fb (P).x) (fb (P).y)) := hI.inv.val 0 (hD 0 (by decide))
    have h1 : (v 1) = .agg (pc (fb ((Q).add (R)).x) (fb ((Q).add (R)).y)) := hI.inv.val 1 (hD 1 (by decide))
    refine hI.val0 hL (by simp) rfl rfl ?_
    rw [show readsOf plan_12_11 2 = [(85, 0), (86, 1)] from rfl]
    refine give_call _ _ _ _ rfl rfl Try.func44 (by kernel_rfl) (by kernel_rfl) ?_
    refine Calls.mono (calls_eq (add_assoc_pt P Q R w) (args' := #[v 0, v 1]) (by rw [h0, h1])) ?_
    rintro e w' ⟨rfl, hx⟩
    exact ⟨_, rfl, rfl, hx⟩
  · intro L v w hL hD hC hI
    refine ⟨fun _ => ?_, fun hw => by cases hw⟩
    have h2 : (v 2) = .tuple #[.agg (pc (fb (((P).add (Q)).add (R)).x) (fb (((P).add (Q)).add (R)).y)), .nilIface] := hI.inv.val 2 (hD 2 (by decide))
    refine hI.val0 hL (by simp) rfl rfl ?_
    rw [show readsOf plan_12_11 3 = [(87, 2)] from rfl]
    exact ⟨h2, Ext.refl _⟩
  · intro L v w hL hD hC hI
    refine ⟨fun _ => ?_, fun hw => by cases hw⟩
    have h3 : (v 3) = .tuple #[.agg (pc (fb (((P).add (Q)).add (R)).x) (fb (((P).add (Q)).add (R)).y)), .nilIface] := hI.inv.val 3 (hD 3 (by decide))
    refine hI.val0 hL (by simp) rfl rfl ?_
    rw [show readsOf plan_12_11 4 = [(84, 3)] from rfl]
    exact give_ext _ _ _ rfl h3 _ rfl ⟨rfl, Ext.refl _⟩
  · intro L v w hL hD hC hI
    refine ⟨fun _ => ?_, fun hw => by cases hw⟩
    have h3 : (v 3) = .tuple #[.agg (pc (fb (((P).add (Q)).add (R)).x) (fb (((P).add (Q)).add (R)).y)), .nilIface] := hI.inv.val 3 (hD 3 (by decide))
    refine hI.val0 hL (by simp) rfl rfl ?_
    rw [show readsOf plan_12_11 5 = [(84, 3)] from rfl]
    exact give_ext _ _ _ rfl h3 _ rfl ⟨rfl, Ext.refl _⟩
  · intro L v w hL hD hC hI
    refine ⟨fun _ => ?_, fun hw => by cases hw⟩
    refine InvN.alloc_step hok hI hL ⟨some 6, 0, 43, some 7, fun cs => (Value.agg (List.toArray cs)) = .agg (pc (fun _ => 0) (fun _ => 0)), fun cs => (Value.agg (List.toArray cs)) = .agg (pc (fb (((P).add (Q)).add (R)).x) (fb (((P).add (Q)).add (R)).y))⟩ (by simp) rfl (by simp) (by intro s hs; cases hs; exact not_yet hC hL (by decide)) rfl rfl ?_
    rw [show readsOf plan_12_11 6 = [] from rfl]
    go_simp
    first | exact ⟨rfl, pcL (fun _ => 0) (fun _ => 0), rfl, rfl⟩ | exact ⟨trivial, rfl, pcL (fun _ => 0) (fun _ => 0), rfl, rfl⟩ | exact ⟨rfl, (bcells fun _ => 0).toList, by rw [Array.toArray_toList], by rw [Array.toArray_toList]⟩
  · intro L v w hL hD hC hI
    refine ⟨fun _ => ?_, fun hw => by cases hw⟩
    have h4 : (v 4) = .agg (pc (fb (((P).add (Q)).add (R)).x) (fb (((P).add (Q)).add (R)).y)) := hI.inv.val 4 (hD 4 (by decide))
    refine InvN.store_step hok hI hL ⟨some 6, 0, 43, some 7, fun cs => (Value.agg (List.toArray cs)) = .agg (pc (fun _ => 0) (fun _ => 0)), fun cs => (Value.agg (List.toArray cs)) = .agg (pc (fb (((P).add (Q)).add (R)).x) (fb (((P).add (Q)).add (R)).y))⟩ (by simp) rfl (by simp) (by intro k hk; cases hk; exact hD 6 (by decide)) rfl rfl (fun cs h => by rw [pcL_of h]; exact noI_pc _ _) ?_
    intro n cs hb hR hold
    change v 6 = .pointer (some ⟨n, 0, none⟩) at hb
    rw [show readsOf plan_12_11 7 = [(88, 4), (22, 6)] from rfl]
    exact st_P hR (by rw [pcL_of hold]; exact pcL_len _ _) _ _ rfl hb h4 fun w' cs' hr he hk => ⟨trivial, hk, cs', hr, he⟩
  · intro L v w hL hD hC hI
    refine ⟨fun _ => ?_, fun hw => by cases hw⟩
    have h5 : (v 5) = .nilIface := hI.inv.val 5 (hD 5 (by decide))
    refine hI.val0 hL (by simp) rfl rfl ?_
    rw [show readsOf plan_12_11 8 = [(89, 5)] from rfl]
    exact ⟨h5, Ext.refl _⟩
  intro L v11 W11 hL hI
  obtain ⟨x, cs, hb_x, lo_x, hr, hn, ho⟩ := hI.inv.row_made ⟨some 6, 0, 43, some 7, fun cs => (Value.agg (List.toArray cs)) = .agg (pc (fun _ => 0) (fun _ => 0)), fun cs => (Value.agg (List.toArray cs)) = .agg (pc (fb (((P).add (Q)).add (R)).x) (fb (((P).add (Q)).add (R)).y))⟩ (by simp) 6 rfl (hL 6 (by decide))
  have R_x : RV W11 x 43 (fun u => u = .agg (pc (fb (((P).add (Q)).add (R)).x) (fb (((P).add (Q)).add (R)).y))) := ⟨cs, hr, hn 7 rfl (hL 7 (by decide))⟩
  clear hr hn ho
  replace R_k1 := R_k1.keep hI.inv.keep (by simp)
  replace R_k2 := R_k2.keep hI.inv.keep (by simp)
  replace R_k3 := R_k3.keep hI.inv.keep (by simp)
  replace R_p := R_p.keep hI.inv.keep (by simp)
  replace R_q := R_q.keep hI.inv.keep (by simp)
  replace R_r := R_r.keep hI.inv.keep (by simp)
  replace R_a := R_a.keep hI.inv.keep (by simp)
  replace R_b := R_b.keep hI.inv.keep (by simp)
  replace R_c := R_c.keep hI.inv.keep (by simp)
  replace R_d := R_d.keep hI.inv.keep (by simp)
  have hx' : Ext w W11 := hx.trans hI.inv.keep.to_ext
  have hs_23_11 : (v11 8) = .nilIface := hI.inv.val 8 (hL 8 (by decide))
  clear hx hI hL hok L
  have hx := hx'
  clear hx'
  simp only [putP, Act.put, List.setIfInBounds_toArray, List.set_cons_zero, List.set_cons_succ, hb_x, hs_23_11]
  go_upto_region 12 with fail
  have hok : TrsOk [] W11.heap.size ([] : List Trk) := ⟨by simp, by simp, by simp, by simp⟩
  refine wp_region_text (InvN [] (fun j u => match j with | 0 => u = .nilIface | 1 => u = .bool (false) | 2 => u = .bool (false) | 3 => u = .nilIface | 4 => u = .bool (false) | 5 => u = .bool (false) | 6 => u = .bool (false) | 7 => u = .nilIface | 8 => u = .bool (false) | 9 => u = .bool (false) | 10 => u = .bool (false) | 11 => u = .nilIface | 12 => u = .bool (false) | 13 => u = .bool (false) | 14 => u = .bool (false) | 15 => u = .nilIface | 16 => u = .bool (false) | 17 => u = .bool (false) | 18 => u = .bool (false) | 19 => u = .agg (pc (fb ((P).add (Q)).x) (fb ((P).add (Q)).y)) | 20 => u = .agg (pc (fb ((P).add (Q)).x) (fb ((P).add (Q)).y)) | 21 => u = .bool (false) | 22 => u = .bool (false) | 23 => u = .bool (false) | 24 => u = .agg (pc (fb (((P).add (Q)).add (R)).x) (fb (((P).add (Q)).add (R)).y)) | 25 => u = .agg (pc (fb (((P).add (Q)).add (R)).x) (fb (((P).add (Q)).add (R)).y)) | 26 => u = .bool (false) | 27 => u = .bool (false) | _ => True) (fun _ => none) (fun _ => none) [] W11) plan_12_12 [(90, 0), (91, 1), (92, 2), (93, 3), (94, 4), (95, 5), (96, 6), (97, 7), (98, 8), (99, 9), (100, 10), (101, 11), (102, 12), (103, 13), (104, 14), (105, 15), (106, 16), (107, 17), (108, 18), (109, 19), (110, 20), (111, 21), (112, 22), (113, 23), (114, 24), (115, 25), (116, 26), (117, 27)] 221 rfl (by kernel_rfl) (InvN.of (Inv.start0 hok (by simp))) ⟨?_, ?_, ?_, ?_, ?_, ?_, ?_, ?_, ?_, ?_, ?_, ?_, ?_, ?_, ?_, ?_, ?_, ?_, ?_, ?_, ?_, ?_, ?_, ?_, ?_, ?_, ?_, ?_, trivial⟩ ?_
  · intro L v w hL hD hC hI
    refine ⟨fun _ => ?_, fun hw => by cases hw⟩
    refine hI.val0 hL (by simp) rfl rfl ?_
    rw [show readsOf plan_12_12 0 = [] from rfl]
    first | exact ⟨rfl, Ext.refl _⟩ | (go_simp; exact ⟨rfl, Ext.refl _⟩)
  · intro L v w hL hD hC hI
    refine ⟨fun _ => ?_, fun hw => by cases hw⟩
    have h0 : (v 0) = .nilIface := hI.inv.val 0 (hD 0 (by decide))
    refine hI.val0 hL (by simp) rfl rfl ?_
    rw [show readsOf plan_12_12 1 = [(90, 0)] from rfl]
    exact give_nil_ne _ _ rfl h0 rfl ⟨rfl, Ext.refl _⟩
  · intro L v w hL hD hC hI
    refine ⟨fun _ => ?_, fun hw => by cases hw⟩
    have h1 : (v 1) = .bool (false) := hI.inv.val 1 (hD 1 (by decide))
    refine hI.val0 hL (by simp) rfl rfl ?_
    rw [show readsOf plan_12_12 2 = [(91, 1)] from rfl]
    exact ⟨h1, Ext.refl _⟩
  · intro L v w hL hD hC hI
    have hg : v 2 = .bool false := hI.inv.val 2 (hD 2 (by decide))
    refine ⟨fun _ => ?_, fun hw => by simp [wantedV, hg] at hw⟩
    have h2 : (v 2) = .bool (false) := hI.inv.val 2 (hD 2 (by decide))
    refine hI.val0 hL (by simp) rfl rfl ?_
    rw [show readsOf plan_12_12 3 = [(92, 2)] from rfl]
    first | exact ⟨rfl, Ext.refl _⟩ | (go_simp; exact ⟨rfl, Ext.refl _⟩)
  · intro L v w hL hD hC hI
    have hg : v 2 = .bool false := hI.inv.val 2 (hD 2 (by decide))
    refine ⟨fun _ => ?_, fun hw => by simp [wantedV, hg] at hw⟩
    have h2 : (v 2) = .bool (false) := hI.inv.val 2 (hD 2 (by decide))
    have h3 : (v 3) = .nilIface := hI.inv.val 3 (hD 3 (by decide))
    refine hI.val0 hL (by simp) rfl rfl ?_
    rw [show readsOf plan_12_12 4 = [(92, 2), (93, 3)] from rfl]
    exact give_nil_ne _ _ rfl h3 rfl ⟨rfl, Ext.refl _⟩
  · intro L v w hL hD hC hI
    refine ⟨fun _ => ?_, fun hw => by cases hw⟩
    have h2 : (v 2) = .bool (false) := hI.inv.val 2 (hD 2 (by decide))
    have h4 : (v 4) = .bool (false) := hI.inv.val 4 (hD 4 (by decide))
    refine hI.val0 hL (by simp) rfl rfl ?_
    rw [show readsOf plan_12_12 5 = [(92, 2), (94, 4)] from rfl]
    exact give_pick_f _ _ _ rfl h2 ⟨h4, Ext.refl _⟩
  · intro L v w hL hD hC hI
    refine ⟨fun _ => ?_, fun hw => by cases hw⟩
    have h5 : (v 5) = .bool (false) := hI.inv.val 5 (hD 5 (by decide))
    refine hI.val0 hL (by simp) rfl rfl ?_
    rw [show readsOf plan_12_12 6 = [(95, 5)] from rfl]
    exact ⟨h5, Ext.refl _⟩
  · intro L v w hL hD hC hI
    have hg : v 6 = .bool false := hI.inv.val 6 (hD 6 (by decide))
    refine ⟨fun _ => ?_, fun hw => by simp [wantedV, hg] at hw⟩
    have h6 : (v 6) = .bool (false) := hI.inv.val 6 (hD 6 (by decide))
    refine hI.val0 hL (by simp) rfl rfl ?_
    rw [show readsOf plan_12_12 7 = [(96, 6)] from rfl]
    first | exact ⟨rfl, Ext.refl _⟩ | (go_simp; exact ⟨rfl, Ext.refl _⟩)
  · intro L v w hL hD hC hI
    have hg : v 6 = .bool false := hI.inv.val 6 (hD 6 (by decide))
    refine ⟨fun _ => ?_, fun hw => by simp [wantedV, hg] at hw⟩
    have h6 : (v 6) = .bool (false) := hI.inv.val 6 (hD 6 (by decide))
    have h7 : (v 7) = .nilIface := hI.inv.val 7 (hD 7 (by decide))
    refine hI.val0 hL (by simp) rfl rfl ?_
    rw [show readsOf plan_12_12 8 = [(96, 6), (97, 7)] from rfl]
    exact give_nil_ne _ _ rfl h7 rfl ⟨rfl, Ext.refl _⟩
  · intro L v w hL hD hC hI
    refine ⟨fun _ => ?_, fun hw => by cases hw⟩
    have h6 : (v 6) = .bool (false) := hI.inv.val 6 (hD 6 (by decide))
    have h8 : (v 8) = .bool (false) := hI.inv.val 8 (hD 8 (by decide))
    refine hI.val0 hL (by simp) rfl rfl ?_
    rw [show readsOf plan_12_12 9 = [(96, 6), (98, 8)] from rfl]
    exact give_pick_f _ _ _ rfl h6 ⟨h8, Ext.refl _⟩
  · intro L v w hL hD hC hI
    refine ⟨fun _ => ?_, fun hw => by cases hw⟩
    have h9 : (v 9) = .bool (false) := hI.inv.val 9 (hD 9 (by decide))
    refine hI.val0 hL (by simp) rfl rfl ?_
    rw [show readsOf plan_12_12 10 = [(99, 9)] from rfl]
    exact ⟨h9, Ext.refl _⟩
  · intro L v w hL hD hC hI
    have hg : v 10 = .bool false := hI.inv.val 10 (hD 10 (by decide))
    refine ⟨fun _ => ?_, fun hw => by simp [wantedV, hg] at hw⟩
    have h10 : (v 10) = .bool (false) := hI.inv.val 10 (hD 10 (by decide))
    refine hI.val0 hL (by simp) rfl rfl ?_
    rw [show readsOf plan_12_12 11 = [(100, 10)] from rfl]
    first | exact ⟨rfl, Ext.refl _⟩ | (go_simp; exact ⟨rfl, Ext.refl _⟩)
  · intro L v w hL hD hC hI
    have hg : v 10 = .bool false := hI.inv.val 10 (hD 10 (by decide))
    refine ⟨fun _ => ?_, fun hw => by simp [wantedV, hg] at hw⟩
    have h10 : (v 10) = .bool (false) := hI.inv.val 10 (hD 10 (by decide))
    have h11 : (v 11) = .nilIface := hI.inv.val 11 (hD 11 (by decide))
    refine hI.val0 hL (by simp) rfl rfl ?_
    rw [show readsOf plan_12_12 12 = [(100, 10), (101, 11)] from rfl]
    exact give_nil_ne _ _ rfl h11 rfl ⟨rfl, Ext.refl _⟩
  · intro L v w hL hD hC hI
    refine ⟨fun _ => ?_, fun hw => by cases hw⟩
    have h10 : (v 10) = .bool (false) := hI.inv.val 10 (hD 10 (by decide))
    have h12 : (v 12) = .bool (false) := hI.inv.val 12 (hD 12 (by decide))
    refine hI.val0 hL (by simp) rfl rfl ?_
    rw [show readsOf plan_12_12 13 = [(100, 10), (102, 12)] from rfl]
    exact give_pick_f _ _ _ rfl h10 ⟨h12, Ext.refl _⟩
  · intro L v w hL hD hC hI
    refine ⟨fun _ => ?_, fun hw => by cases hw⟩
    have h13 : (v 13) = .bool (false) := hI.inv.val 13 (hD 13 (by decide))
    refine hI.val0 hL (by simp) rfl rfl ?_
    rw [show readsOf plan_12_12 14 = [(103, 13)] from rfl]
    exact ⟨h13, Ext.refl _⟩
  · intro L v w hL hD hC hI
    have hg : v 14 = .bool false := hI.inv.val 14 (hD 14 (by decide))
    refine ⟨fun _ => ?_, fun hw => by simp [wantedV, hg] at hw⟩
    have h14 : (v 14) = .bool (false) := hI.inv.val 14 (hD 14 (by decide))
    refine hI.val0 hL (by simp) rfl rfl ?_
    rw [show readsOf plan_12_12 15 = [(104, 14)] from rfl]
    first | exact ⟨rfl, Ext.refl _⟩ | (go_simp; exact ⟨rfl, Ext.refl _⟩)
  · intro L v w hL hD hC hI
    have hg : v 14 = .bool false := hI.inv.val 14 (hD 14 (by decide))
    refine ⟨fun _ => ?_, fun hw => by simp [wantedV, hg] at hw⟩
    have h14 : (v 14) = .bool (false) := hI.inv.val 14 (hD 14 (by decide))
    have h15 : (v 15) = .nilIface := hI.inv.val 15 (hD 15 (by decide))
    refine hI.val0 hL (by simp) rfl rfl ?_
    rw [show readsOf plan_12_12 16 = [(104, 14), (105, 15)] from rfl]
    exact give_nil_ne _ _ rfl h15 rfl ⟨rfl, Ext.refl _⟩
  · intro L v w hL hD hC hI
    refine ⟨fun _ => ?_, fun hw => by cases hw⟩
    have h14 : (v 14) = .bool (false) := hI.inv.val 14 (hD 14 (by decide))
    have h16 : (v 16) = .bool (false) := hI.inv.val 16 (hD 16 (by decide))
    refine hI.val0 hL (by simp) rfl rfl ?_
    rw [show readsOf plan_12_12 17 = [(104, 14), (106, 16)] from rfl]
    exact give_pick_f _ _ _ rfl h14 ⟨h16, Ext.refl _⟩
  · intro L v w hL hD hC hI
    refine ⟨fun _ => ?_, fun hw => by cases hw⟩
    have h17 : (v 17) = .bool (false) := hI.inv.val 17 (hD 17 (by decide))
    refine hI.val0 hL (by simp) rfl rfl ?_
    rw [show readsOf plan_12_12 18 = [(107, 17)] from rfl]
    exact ⟨h17, Ext.refl _⟩
  · intro L v w hL hD hC hI
    have hg : v 18 = .bool false := hI.inv.val 18 (hD 18 (by decide))
    refine ⟨fun _ => ?_, fun hw => by simp [wantedV, hg] at hw⟩
    have h18 : (v 18) = .bool (false) := hI.inv.val 18 (hD 18 (by decide))
    refine hI.val0 hL (by simp) rfl rfl ?_
    rw [show readsOf plan_12_12 19 = [(108, 18)] from rfl]
    exact ld_P (R_a.keep hI.inv.keep (by simp)) _ rfl rfl fun u hu => ⟨hu, Ext.refl _⟩
  · intro L v w hL hD hC hI
    have hg : v 18 = .bool false := hI.inv.val 18 (hD 18 (by decide))
    refine ⟨fun _ => ?_, fun hw => by simp [wantedV, hg] at hw⟩
    have h18 : (v 18) = .bool (false) := hI.inv.val 18 (hD 18 (by decide))
    refine hI.val0 hL (by simp) rfl rfl ?_
    rw [show readsOf plan_12_12 20 = [(108, 18)] from rfl]
    exact ld_P (R_b.keep hI.inv.keep (by simp)) _ rfl rfl fun u hu => ⟨hu, Ext.refl _⟩
  · intro L v w hL hD hC hI
    have hg : v 18 = .bool false := hI.inv.val 18 (hD 18 (by decide))
    refine ⟨fun _ => ?_, fun hw => by simp [wantedV, hg] at hw⟩
    have h18 : (v 18) = .bool (false) := hI.inv.val 18 (hD 18 (by decide))
    have h19 : (v 19) = .agg (pc (fb ((P).add (Q)).x) (fb ((P).add (Q)).y)) := hI.inv.val 19 (hD 19 (by decide))
    have h20 : (v 20) = .agg (pc (fb ((P).add (Q)).x) (fb ((P).add (Q)).y)) := hI.inv.val 20 (hD 20 (by decide))
    refine hI.val0 hL (by simp) rfl rfl ?_
    rw [show readsOf plan_12_12 21 = [(108, 18), (109, 19), (110, 20)] from rfl]
    exact give_neP _ _ _ _ _ _ _ rfl h19 h20 ⟨by simp [beqb_self], Ext.refl _⟩
  · intro L v w hL hD hC hI
    refine ⟨fun _ => ?_, fun hw => by cases hw⟩
    have h18 : (v 18) = .bool (false) := hI.inv.val 18 (hD 18 (by decide))
    have h21 : (v 21) = .bool (false) := hI.inv.val 21 (hD 21 (by decide))
    refine hI.val0 hL (by simp) rfl rfl ?_
    rw [show readsOf plan_12_12 22 = [(108, 18), (111, 21)] from rfl]
    exact give_pick_f _ _ _ rfl h18 ⟨h21, Ext.refl _⟩
  · intro L v w hL hD hC hI
    refine ⟨fun _ => ?_, fun hw => by cases hw⟩
    have h22 : (v 22) = .bool (false) := hI.inv.val 22 (hD 22 (by decide))
    refine hI.val0 hL (by simp) rfl rfl ?_
    rw [show readsOf plan_12_12 23 = [(112, 22)] from rfl]
    exact ⟨h22, Ext.refl _⟩
  · intro L v w hL hD hC hI
    have hg : v 23 = .bool false := hI.inv.val 23 (hD 23 (by decide))
    refine ⟨fun _ => ?_, fun hw => by simp [wantedV, hg] at hw⟩
    have h23 : (v 23) = .bool (false) := hI.inv.val 23 (hD 23 (by decide))
    refine hI.val0 hL (by simp) rfl rfl ?_
    rw [show readsOf plan_12_12 24 = [(113, 23)] from rfl]
    exact ld_P (R_c.keep hI.inv.keep (by simp)) _ rfl rfl fun u hu => ⟨hu, Ext.refl _⟩
  · intro L v w hL hD hC hI
    have hg : v 23 = .bool false := hI.inv.val 23 (hD 23 (by decide))
    refine ⟨fun _ => ?_, fun hw => by simp [wantedV, hg] at hw⟩
    have h23 : (v 23) = .bool (false) := hI.inv.val 23 (hD 23 (by decide))
    refine hI.val0 hL (by simp) rfl rfl ?_
    rw [show readsOf plan_12_12 25 = [(113, 23)] from rfl]
    exact ld_P (R_x.keep hI.inv.keep (by simp)) _ rfl rfl fun u hu => ⟨hu, Ext.refl _⟩
  · intro L v w hL hD hC hI
    have hg : v 23 = .bool false := hI.inv.val 23 (hD 23 (by decide))
    refine ⟨fun _ => ?_, fun hw => by simp [wantedV, hg] at hw⟩
    have h23 : (v 23) = .bool (false) := hI.inv.val 23 (hD 23 (by decide))
    have h24 : (v 24) = .agg (pc (fb (((P).add (Q)).add (R)).x) (fb (((P).add (Q)).add (R)).y)) := hI.inv.val 24 (hD 24 (by decide))
    have h25 : (v 25) = .agg (pc (fb (((P).add (Q)).add (R)).x) (fb (((P).add (Q)).add (R)).y)) := hI.inv.val 25 (hD 25 (by decide))
    refine hI.val0 hL (by simp) rfl rfl ?_
    rw [show readsOf plan_12_12 26 = [(113, 23), (114, 24), (115, 25)] from rfl]
    exact give_neP _ _ _ _ _ _ _ rfl h24 h25 ⟨by simp [beqb_self], Ext.refl _⟩
  · intro L v w hL hD hC hI
    refine ⟨fun _ => ?_, fun hw => by cases hw⟩
    have h23 : (v 23) = .bool (false) := hI.inv.val 23 (hD 23 (by decide))
    have h26 : (v 26) = .bool (false) := hI.inv.val 26 (hD 26 (by decide))
    refine hI.val0 hL (by simp) rfl rfl ?_
    rw [show readsOf plan_12_12 27 = [(113, 23), (116, 26)] from rfl]
    exact give_pick_f _ _ _ rfl h23 ⟨h26, Ext.refl _⟩
  intro L v12 W12 hL hI
  replace R_k1 := R_k1.keep hI.inv.keep (by simp)
  replace R_k2 := R_k2.keep hI.inv.keep (by simp)
  replace R_k3 := R_k3.keep hI.inv.keep (by simp)
  replace R_p := R_p.keep hI.inv.keep (by simp)
  replace R_q := R_q.keep hI.inv.keep (by simp)
  replace R_r := R_r.keep hI.inv.keep (by simp)
  replace R_a := R_a.keep hI.inv.keep (by simp)
  replace R_b := R_b.keep hI.inv.keep (by simp)
  replace R_c := R_c.keep hI.inv.keep (by simp)
  replace R_d := R_d.keep hI.inv.keep (by simp)
  replace R_x := R_x.keep hI.inv.keep (by simp)
  have hx' : Ext w W12 := hx.trans hI.inv.keep.to_ext
  have hs_90_12 : (v12 0) = .nilIface := hI.inv.val 0 (hL 0 (by decide))
  have hs_92_12 : (v12 2) = .bool (false) := hI.inv.val 2 (hL 2 (by decide))
  have hs_93_12 : (v12 3) = .nilIface := hI.inv.val 3 (hL 3 (by decide))
  have hs_96_12 : (v12 6) = .bool (false) := hI.inv.val 6 (hL 6 (by decide))
  have hs_97_12 : (v12 7) = .nilIface := hI.inv.val 7 (hL 7 (by decide))
  have hs_100_12 : (v12 10) = .bool (false) := hI.inv.val 10 (hL 10 (by decide))
  have hs_101_12 : (v12 11) = .nilIface := hI.inv.val 11 (hL 11 (by decide))
  have hs_104_12 : (v12 14) = .bool (false) := hI.inv.val 14 (hL 14 (by decide))
  have hs_105_12 : (v12 15) = .nilIface := hI.inv.val 15 (hL 15 (by decide))
  have hs_108_12 : (v12 18) = .bool (false) := hI.inv.val 18 (hL 18 (by decide))
  have hs_113_12 : (v12 23) = .bool (false) := hI.inv.val 23 (hL 23 (by decide))
  have hs_117_12 : (v12 27) = .bool (false) := hI.inv.val 27 (hL 27 (by decide))
  clear hx hI hL hok L
  have hx := hx'
  clear hx'
  simp only [putP, Act.put, List.setIfInBounds_toArray, List.set_cons_zero, List.set_cons_succ, hs_90_12, hs_92_12, hs_93_12, hs_96_12, hs_97_12, hs_100_12, hs_101_12, hs_104_12, hs_105_12, hs_108_12, hs_113_12, hs_117_12]
  clear R_q
  clear R_r
  clear R_a
  clear R_b
  clear R_c
  clear R_d
  clear R_x
  clear R_k3
  go_upto_region 14 with fail
  have hok : TrsOk [] W12.heap.size ([⟨some 5, 0, 22, some 6, fun cs => (Value.agg (List.toArray cs)) = .agg (bcells (fun _ => 0)), fun cs => (Value.agg (List.toArray cs)) = .agg (bcells (encF (P).x (P).y))⟩] : List Trk) := ⟨by simp, by simp, by simp, by simp⟩
  refine wp_region_text (InvN [] (fun j u => match j with | 0 => u = .agg (pc (fb (P).x) (fb (P).y)) | 1 => u = .tuple #[.agg (bcells (encF (P).x (P).y)), .nilIface] | 2 => u = .tuple #[.agg (bcells (encF (P).x (P).y)), .nilIface] | 3 => u = .agg (bcells (encF (P).x (P).y)) | 4 => u = .nilIface | 7 => u = .nilIface | _ => True) (fun _ => none) (fun _ => none) [⟨some 5, 0, 22, some 6, fun cs => (Value.agg (List.toArray cs)) = .agg (bcells (fun _ => 0)), fun cs => (Value.agg (List.toArray cs)) = .agg (bcells (encF (P).x (P).y))⟩] W12) plan_12_14 [(119, 0), (120, 1), (118, 2), (121, 3), (122, 4), (24, 5), (15, 7)] 221 rfl (by kernel_rfl) (InvN.of (Inv.start0 hok (by simp))) ⟨?_, ?_, ?_, ?_, ?_, ?_, ?_, ?_, trivial⟩ ?_
  · intro L v w hL hD hC hI
    refine ⟨fun _ => ?_, fun hw => by cases hw⟩
    refine hI.val0 hL (by simp) rfl rfl ?_
    rw [show readsOf plan_12_14 0 = [] from rfl]
    exact ld_P (R_p.keep hI.inv.keep (by simp)) _ rfl rfl fun u hu => ⟨hu, Ext.refl _⟩
  · intro L v w hL hD hC hI
    refine ⟨fun _ => ?_, fun hw => by cases hw⟩
    have h0 : (v 0) = .agg (pc (fb (P).x) (fb (P).y)) := hI.inv.val 0 (hD 0 (by decide))
    refine hI.val0 hL (by simp) rfl rfl ?_
    rw [show readsOf plan_12_14 1 = [(119, 0)] from rfl]
    refine give_call _ _ _ _ rfl rfl Try.func54 (by kernel_rfl) (by kernel_rfl) ?_
    refine Calls.mono (calls_eq (enc_pt (P) w) (args' := #[v 0]) (by rw [h0])) ?_
    rintro e w' ⟨rfl, hx⟩
    exact ⟨_, rfl, rfl, hx⟩
  · intro L v w hL hD hC hI
    refine ⟨fun _ => ?_, fun hw => by cases hw⟩
    have h1 : (v 1) = .tuple #[.agg (bcells (encF (P).x (P).y)), .nilIface] := hI.inv.val 1 (hD 1 (by decide))
    refine hI.val0 hL (by simp) rfl rfl ?_
    rw [show readsOf plan_12_14 2 = [(120, 1)] from rfl]
    exact ⟨h1, Ext.refl _⟩
  · intro L v w hL hD hC hI
    refine ⟨fun _ => ?_, fun hw => by cases hw⟩
    have h2 : (v 2) = .tuple #[.agg (bcells (encF (P).x (P).y)), .nilIface] := hI.inv.val 2 (hD 2 (by decide))
    refine hI.val0 hL (by simp) rfl rfl ?_
    rw [show readsOf plan_12_14 3 = [(118, 2)] from rfl]
    exact give_ext _ _ _ rfl h2 _ rfl ⟨rfl, Ext.refl _⟩
  · intro L v w hL hD hC hI
    refine ⟨fun _ => ?_, fun hw => by cases hw⟩
    have h2 : (v 2) = .tuple #[.agg (bcells (encF (P).x (P).y)), .nilIface] := hI.inv.val 2 (hD 2 (by decide))
    refine hI.val0 hL (by simp) rfl rfl ?_
    rw [show readsOf plan_12_14 4 = [(118, 2)] from rfl]
    exact give_ext _ _ _ rfl h2 _ rfl ⟨rfl, Ext.refl _⟩
  · intro L v w hL hD hC hI
    refine ⟨fun _ => ?_, fun hw => by cases hw⟩
    refine InvN.alloc_step hok hI hL ⟨some 5, 0, 22, some 6, fun cs => (Value.agg (List.toArray cs)) = .agg (bcells (fun _ => 0)), fun cs => (Value.agg (List.toArray cs)) = .agg (bcells (encF (P).x (P).y))⟩ (by simp) rfl (by simp) (by intro s hs; cases hs; exact not_yet hC hL (by decide)) rfl rfl ?_
    rw [show readsOf plan_12_14 5 = [] from rfl]
    go_simp
    first | exact ⟨rfl, pcL (fun _ => 0) (fun _ => 0), rfl, rfl⟩ | exact ⟨trivial, rfl, pcL (fun _ => 0) (fun _ => 0), rfl, rfl⟩ | exact ⟨rfl, (bcells fun _ => 0).toList, by rw [Array.toArray_toList], by rw [Array.toArray_toList]⟩
  · intro L v w hL hD hC hI
    refine ⟨fun _ => ?_, fun hw => by cases hw⟩
    have h3 : (v 3) = .agg (bcells (encF (P).x (P).y)) := hI.inv.val 3 (hD 3 (by decide))
    refine InvN.store_step hok hI hL ⟨some 5, 0, 22, some 6, fun cs => (Value.agg (List.toArray cs)) = .agg (bcells (fun _ => 0)), fun cs => (Value.agg (List.toArray cs)) = .agg (bcells (encF (P).x (P).y))⟩ (by simp) rfl (by simp) (by intro k hk; cases hk; exact hD 5 (by decide)) rfl rfl (fun cs h => by rw [bL_of h]; exact noI_b _) ?_
    intro n cs hb hR hold
    change v 5 = .pointer (some ⟨n, 0, none⟩) at hb
    rw [show readsOf plan_12_14 6 = [(121, 3), (24, 5)] from rfl]
    exact st_B hR (by rw [bL_of hold]; simp) _ _ rfl hb h3 fun w' cs' hr he hk => ⟨trivial, hk, cs', hr, he⟩
  · intro L v w hL hD hC hI
    refine ⟨fun _ => ?_, fun hw => by cases hw⟩
    have h4 : (v 4) = .nilIface := hI.inv.val 4 (hD 4 (by decide))
    refine hI.val0 hL (by simp) rfl rfl ?_
    rw [show readsOf plan_12_14 7 = [(122, 4)] from rfl]
    exact ⟨h4, Ext.refl _⟩
  intro L v13 W13 hL hI
  obtain ⟨m, cs, hb_m, lo_m, hr, hn, ho⟩ := hI.inv.row_made ⟨some 5, 0, 22, some 6, fun cs => (Value.agg (List.toArray cs)) = .agg (bcells (fun _ => 0)), fun cs => (Value.agg (List.toArray cs)) = .agg (bcells (encF (P).x (P).y))⟩ (by simp) 5 rfl (hL 5 (by decide))
  have R_m : RV W13 m 22 (fun u => u = .agg (bcells (encF (P).x (P).y))) := ⟨cs, hr, hn 6 rfl (hL 6 (by decide))⟩
  clear hr hn ho
  replace R_k1 := R_k1.keep hI.inv.keep (by simp)
  replace R_k2 := R_k2.keep hI.inv.keep (by simp)
  replace R_p := R_p.keep hI.inv.keep (by simp)
  have hx' : Ext w W13 := hx.trans hI.inv.keep.to_ext
  have hs_15_14 : (v13 7) = .nilIface := hI.inv.val 7 (hL 7 (by decide))
  clear hx hI hL hok L
  have hx := hx'
  clear hx'
  simp only [putP, Act.put, List.setIfInBounds_toArray, List.set_cons_zero, List.set_cons_succ, hb_m, hs_15_14]
  go_upto_region 15 with fail
  have hok : TrsOk [] W13.heap.size ([⟨some 5, 0, 43, some 6, fun cs => (Value.agg (List.toArray cs)) = .agg (pc (fun _ => 0) (fun _ => 0)), fun cs => (Value.agg (List.toArray cs)) = .agg (pc (fb (P).x) (fb (P).y))⟩] : List Trk) := ⟨by simp, by simp, by simp, by simp⟩
  refine wp_region_text (InvN [] (fun j u => match j with | 0 => u = .agg (bcells (encF (P).x (P).y)) | 1 => u = .tuple #[.agg (pc (fb (P).x) (fb (P).y)), .nilIface] | 2 => u = .tuple #[.agg (pc (fb (P).x) (fb (P).y)), .nilIface] | 3 => u = .agg (pc (fb (P).x) (fb (P).y)) | 4 => u = .nilIface | 7 => u = .nilIface | _ => True) (fun _ => none) (fun _ => none) [⟨some 5, 0, 43, some 6, fun cs => (Value.agg (List.toArray cs)) = .agg (pc (fun _ => 0) (fun _ => 0)), fun cs => (Value.agg (List.toArray cs)) = .agg (pc (fb (P).x) (fb (P).y))⟩] W13) plan_12_15 [(124, 0), (125, 1), (123, 2), (126, 3), (127, 4), (25, 5), (17, 7)] 221 rfl (by kernel_rfl) (InvN.of (Inv.start0 hok (by simp))) ⟨?_, ?_, ?_, ?_, ?_, ?_, ?_, ?_, trivial⟩ ?_
  · intro L v w hL hD hC hI
    refine ⟨fun _ => ?_, fun hw => by cases hw⟩
    refine hI.val0 hL (by simp) rfl rfl ?_
    rw [show readsOf plan_12_15 0 = [] from rfl]
    exact ld_B (R_m.keep hI.inv.keep (by simp)) _ rfl rfl fun u hu => ⟨hu, Ext.refl _⟩
  · intro L v w hL hD hC hI
    refine ⟨fun _ => ?_, fun hw => by cases hw⟩
    have h0 : (v 0) = .agg (bcells (encF (P).x (P).y)) := hI.inv.val 0 (hD 0 (by decide))
    refine hI.val0 hL (by simp) rfl rfl ?_
    rw [show readsOf plan_12_15 1 = [(124, 0)] from rfl]
    refine give_call _ _ _ _ rfl rfl Try.func52 (by kernel_rfl) (by kernel_rfl) ?_
    refine Calls.mono (calls_eq (dec_pt P w) (args' := #[v 0]) (by rw [h0])) ?_
    rintro e w' ⟨rfl, hx⟩
    exact ⟨_, rfl, rfl, hx⟩
  · intro L v w hL hD hC hI
    refine ⟨fun _ => ?_, fun hw => by cases hw⟩
    have h1 : (v 1) = .tuple #[.agg (pc (fb (P).x) (fb (P).y)), .nilIface] := hI.inv.val 1 (hD 1 (by decide))
    refine hI.val0 hL (by simp) rfl rfl ?_
    rw [show readsOf plan_12_15 2 = [(125, 1)] from rfl]
    exact ⟨h1, Ext.refl _⟩
  · intro L v w hL hD hC hI
    refine ⟨fun _ => ?_, fun hw => by cases hw⟩
    have h2 : (v 2) = .tuple #[.agg (pc (fb (P).x) (fb (P).y)), .nilIface] := hI.inv.val 2 (hD 2 (by decide))
    refine hI.val0 hL (by simp) rfl rfl ?_
    rw [show readsOf plan_12_15 3 = [(123, 2)] from rfl]
    exact give_ext _ _ _ rfl h2 _ rfl ⟨rfl, Ext.refl _⟩
  · intro L v w hL hD hC hI
    refine ⟨fun _ => ?_, fun hw => by cases hw⟩
    have h2 : (v 2) = .tuple #[.agg (pc (fb (P).x) (fb (P).y)), .nilIface] := hI.inv.val 2 (hD 2 (by decide))
    refine hI.val0 hL (by simp) rfl rfl ?_
    rw [show readsOf plan_12_15 4 = [(123, 2)] from rfl]
    exact give_ext _ _ _ rfl h2 _ rfl ⟨rfl, Ext.refl _⟩
  · intro L v w hL hD hC hI
    refine ⟨fun _ => ?_, fun hw => by cases hw⟩
    refine InvN.alloc_step hok hI hL ⟨some 5, 0, 43, some 6, fun cs => (Value.agg (List.toArray cs)) = .agg (pc (fun _ => 0) (fun _ => 0)), fun cs => (Value.agg (List.toArray cs)) = .agg (pc (fb (P).x) (fb (P).y))⟩ (by simp) rfl (by simp) (by intro s hs; cases hs; exact not_yet hC hL (by decide)) rfl rfl ?_
    rw [show readsOf plan_12_15 5 = [] from rfl]
    go_simp
    first | exact ⟨rfl, pcL (fun _ => 0) (fun _ => 0), rfl, rfl⟩ | exact ⟨trivial, rfl, pcL (fun _ => 0) (fun _ => 0), rfl, rfl⟩ | exact ⟨rfl, (bcells fun _ => 0).toList, by rw [Array.toArray_toList], by rw [Array.toArray_toList]⟩
  · intro L v w hL hD hC hI
    refine ⟨fun _ => ?_, fun hw => by cases hw⟩
    have h3 : (v 3) = .agg (pc (fb (P).x) (fb (P).y)) := hI.inv.val 3 (hD 3 (by decide))
    refine InvN.store_step hok hI hL ⟨some 5, 0, 43, some 6, fun cs => (Value.agg (List.toArray cs)) = .agg (pc (fun _ => 0) (fun _ => 0)), fun cs => (Value.agg (List.toArray cs)) = .agg (pc (fb (P).x) (fb (P).y))⟩ (by simp) rfl (by simp) (by intro k hk; cases hk; exact hD 5 (by decide)) rfl rfl (fun cs h => by rw [pcL_of h]; exact noI_pc _ _) ?_
    intro n cs hb hR hold
    change v 5 = .pointer (some ⟨n, 0, none⟩) at hb
    rw [show readsOf plan_12_15 6 = [(126, 3), (25, 5)] from rfl]
    exact st_P hR (by rw [pcL_of hold]; exact pcL_len _ _) _ _ rfl hb h3 fun w' cs' hr he hk => ⟨trivial, hk, cs', hr, he⟩
  · intro L v w hL hD hC hI
    refine ⟨fun _ => ?_, fun hw => by cases hw⟩
    have h4 : (v 4) = .nilIface := hI.inv.val 4 (hD 4 (by decide))
    refine hI.val0 hL (by simp) rfl rfl ?_
    rw [show readsOf plan_12_15 7 = [(127, 4)] from rfl]
    exact ⟨h4, Ext.refl _⟩
  intro L v14 W14 hL hI
  obtain ⟨back, cs, hb_back, lo_back, hr, hn, ho⟩ := hI.inv.row_made ⟨some 5, 0, 43, some 6, fun cs => (Value.agg (List.toArray cs)) = .agg (pc (fun _ => 0) (fun _ => 0)), fun cs => (Value.agg (List.toArray cs)) = .agg (pc (fb (P).x) (fb (P).y))⟩ (by simp) 5 rfl (hL 5 (by decide))
  have R_back : RV W14 back 43 (fun u => u = .agg (pc (fb (P).x) (fb (P).y))) := ⟨cs, hr, hn 6 rfl (hL 6 (by decide))⟩
  clear hr hn ho
  replace R_k1 := R_k1.keep hI.inv.keep (by simp)
  replace R_k2 := R_k2.keep hI.inv.keep (by simp)
  replace R_p := R_p.keep hI.inv.keep (by simp)
  replace R_m := R_m.keep hI.inv.keep (by simp)
  have hx' : Ext w W14 := hx.trans hI.inv.keep.to_ext
  have hs_17_15 : (v14 7) = .nilIface := hI.inv.val 7 (hL 7 (by decide))
  clear hx hI hL hok L
  have hx := hx'
  clear hx'
  simp only [putP, Act.put, List.setIfInBounds_toArray, List.set_cons_zero, List.set_cons_succ, hb_back, hs_17_15]
  go_upto_region 16 with fail
  have hok : TrsOk [] W14.heap.size ([⟨some 5, 0, 22, some 6, fun cs => (Value.agg (List.toArray cs)) = .agg (bcells (fun _ => 0)), fun cs => (Value.agg (List.toArray cs)) = .agg (bcells (encF (P).x (P).y))⟩] : List Trk) := ⟨by simp, by simp, by simp, by simp⟩
  refine wp_region_text (InvN [] (fun j u => match j with | 0 => u = .agg (pc (fb (P).x) (fb (P).y)) | 1 => u = .tuple #[.agg (bcells (encF (P).x (P).y)), .nilIface] | 2 => u = .tuple #[.agg (bcells (encF (P).x (P).y)), .nilIface] | 3 => u = .agg (bcells (encF (P).x (P).y)) | 4 => u = .nilIface | 7 => u = .nilIface | _ => True) (fun _ => none) (fun _ => none) [⟨some 5, 0, 22, some 6, fun cs => (Value.agg (List.toArray cs)) = .agg (bcells (fun _ => 0)), fun cs => (Value.agg (List.toArray cs)) = .agg (bcells (encF (P).x (P).y))⟩] W14) plan_12_16 [(129, 0), (130, 1), (128, 2), (131, 3), (132, 4), (26, 5), (19, 7)] 221 rfl (by kernel_rfl) (InvN.of (Inv.start0 hok (by simp))) ⟨?_, ?_, ?_, ?_, ?_, ?_, ?_, ?_, trivial⟩ ?_
  · intro L v w hL hD hC hI
    refine ⟨fun _ => ?_, fun hw => by cases hw⟩
    refine hI.val0 hL (by simp) rfl rfl ?_
    rw [show readsOf plan_12_16 0 = [] from rfl]
    exact ld_P (R_back.keep hI.inv.keep (by simp)) _ rfl rfl fun u hu => ⟨hu, Ext.refl _⟩
  · intro L v w hL hD hC hI
    refine ⟨fun _ => ?_, fun hw => by cases hw⟩
    have h0 : (v 0) = .agg (pc (fb (P).x) (fb (P).y)) := hI.inv.val 0 (hD 0 (by decide))
    refine hI.val0 hL (by simp) rfl rfl ?_
    rw [show readsOf plan_12_16 1 = [(129, 0)] from rfl]
    refine give_call _ _ _ _ rfl rfl Try.func54 (by kernel_rfl) (by kernel_rfl) ?_
    refine Calls.mono (calls_eq (enc_pt (P) w) (args' := #[v 0]) (by rw [h0])) ?_
    rintro e w' ⟨rfl, hx⟩
    exact ⟨_, rfl, rfl, hx⟩
  · intro L v w hL hD hC hI
    refine ⟨fun _ => ?_, fun hw => by cases hw⟩
    have h1 : (v 1) = .tuple #[.agg (bcells (encF (P).x (P).y)), .nilIface] := hI.inv.val 1 (hD 1 (by decide))
    refine hI.val0 hL (by simp) rfl rfl ?_
    rw [show readsOf plan_12_16 2 = [(130, 1)] from rfl]
    exact ⟨h1, Ext.refl _⟩
  · intro L v w hL hD hC hI
    refine ⟨fun _ => ?_, fun hw => by cases hw⟩
    have h2 : (v 2) = .tuple #[.agg (bcells (encF (P).x (P).y)), .nilIface] := hI.inv.val 2 (hD 2 (by decide))
    refine hI.val0 hL (by simp) rfl rfl ?_
    rw [show readsOf plan_12_16 3 = [(128, 2)] from rfl]
    exact give_ext _ _ _ rfl h2 _ rfl ⟨rfl, Ext.refl _⟩
  · intro L v w hL hD hC hI
    refine ⟨fun _ => ?_, fun hw => by cases hw⟩
    have h2 : (v 2) = .tuple #[.agg (bcells (encF (P).x (P).y)), .nilIface] := hI.inv.val 2 (hD 2 (by decide))
    refine hI.val0 hL (by simp) rfl rfl ?_
    rw [show readsOf plan_12_16 4 = [(128, 2)] from rfl]
    exact give_ext _ _ _ rfl h2 _ rfl ⟨rfl, Ext.refl _⟩
  · intro L v w hL hD hC hI
    refine ⟨fun _ => ?_, fun hw => by cases hw⟩
    refine InvN.alloc_step hok hI hL ⟨some 5, 0, 22, some 6, fun cs => (Value.agg (List.toArray cs)) = .agg (bcells (fun _ => 0)), fun cs => (Value.agg (List.toArray cs)) = .agg (bcells (encF (P).x (P).y))⟩ (by simp) rfl (by simp) (by intro s hs; cases hs; exact not_yet hC hL (by decide)) rfl rfl ?_
    rw [show readsOf plan_12_16 5 = [] from rfl]
    go_simp
    first | exact ⟨rfl, pcL (fun _ => 0) (fun _ => 0), rfl, rfl⟩ | exact ⟨trivial, rfl, pcL (fun _ => 0) (fun _ => 0), rfl, rfl⟩ | exact ⟨rfl, (bcells fun _ => 0).toList, by rw [Array.toArray_toList], by rw [Array.toArray_toList]⟩
  · intro L v w hL hD hC hI
    refine ⟨fun _ => ?_, fun hw => by cases hw⟩
    have h3 : (v 3) = .agg (bcells (encF (P).x (P).y)) := hI.inv.val 3 (hD 3 (by decide))
    refine InvN.store_step hok hI hL ⟨some 5, 0, 22, some 6, fun cs => (Value.agg (List.toArray cs)) = .agg (bcells (fun _ => 0)), fun cs => (Value.agg (List.toArray cs)) = .agg (bcells (encF (P).x (P).y))⟩ (by simp) rfl (by simp) (by intro k hk; cases hk; exact hD 5 (by decide)) rfl rfl (fun cs h => by rw [bL_of h]; exact noI_b _) ?_
    intro n cs hb hR hold
    change v 5 = .pointer (some ⟨n, 0, none⟩) at hb
    rw [show readsOf plan_12_16 6 = [(131, 3), (26, 5)] from rfl]
    exact st_B hR (by rw [bL_of hold]; simp) _ _ rfl hb h3 fun w' cs' hr he hk => ⟨trivial, hk, cs', hr, he⟩
  · intro L v w hL hD hC hI
    refine ⟨fun _ => ?_, fun hw => by cases hw⟩
    have h4 : (v 4) = .nilIface := hI.inv.val 4 (hD 4 (by decide))
    refine hI.val0 hL (by simp) rfl rfl ?_
    rw [show readsOf plan_12_16 7 = [(132, 4)] from rfl]
    exact ⟨h4, Ext.refl _⟩
  intro L v15 W15 hL hI
  obtain ⟨again, cs, hb_again, lo_again, hr, hn, ho⟩ := hI.inv.row_made ⟨some 5, 0, 22, some 6, fun cs => (Value.agg (List.toArray cs)) = .agg (bcells (fun _ => 0)), fun cs => (Value.agg (List.toArray cs)) = .agg (bcells (encF (P).x (P).y))⟩ (by simp) 5 rfl (hL 5 (by decide))
  have R_again : RV W15 again 22 (fun u => u = .agg (bcells (encF (P).x (P).y))) := ⟨cs, hr, hn 6 rfl (hL 6 (by decide))⟩
  clear hr hn ho
  replace R_k1 := R_k1.keep hI.inv.keep (by simp)
  replace R_k2 := R_k2.keep hI.inv.keep (by simp)
  replace R_p := R_p.keep hI.inv.keep (by simp)
  replace R_m := R_m.keep hI.inv.keep (by simp)
  replace R_back := R_back.keep hI.inv.keep (by simp)
  have hx' : Ext w W15 := hx.trans hI.inv.keep.to_ext
  have hs_19_16 : (v15 7) = .nilIface := hI.inv.val 7 (hL 7 (by decide))
  clear hx hI hL hok L
  have hx := hx'
  clear hx'
  simp only [putP, Act.put, List.setIfInBounds_toArray, List.set_cons_zero, List.set_cons_succ, hb_again, hs_19_16]
  go_upto_region 17 with fail
  have hok : TrsOk [] W15.heap.size ([] : List Trk) := ⟨by simp, by simp, by simp, by simp⟩
  refine wp_region_text (InvN [] (fun j u => match j with | 0 => u = .nilIface | 1 => u = .bool (false) | 2 => u = .bool (false) | 3 => u = .nilIface | 4 => u = .bool (false) | 5 => u = .bool (false) | 6 => u = .bool (false) | 7 => u = .nilIface | 8 => u = .bool (false) | 9 => u = .bool (false) | 10 => u = .bool (false) | 11 => u = .agg (pc (fb (P).x) (fb (P).y)) | 12 => u = .agg (pc (fb (P).x) (fb (P).y)) | 13 => u = .bool (false) | 14 => u = .bool (false) | 15 => u = .bool (false) | 16 => u = .agg (bcells (encF (P).x (P).y)) | 17 => u = .agg (bcells (encF (P).x (P).y)) | 18 => u = .bool (false) | 19 => u = .bool (false) | _ => True) (fun _ => none) (fun _ => none) [] W15) plan_12_17 [(133, 0), (134, 1), (135, 2), (136, 3), (137, 4), (138, 5), (139, 6), (140, 7), (141, 8), (142, 9), (143, 10), (144, 11), (145, 12), (146, 13), (147, 14), (148, 15), (149, 16), (150, 17), (151, 18), (152, 19)] 221 rfl (by kernel_rfl) (InvN.of (Inv.start0 hok (by simp))) ⟨?_, ?_, ?_, ?_, ?_, ?_, ?_, ?_, ?_, ?_, ?_, ?_, ?_, ?_, ?_, ?_, ?_, ?_, ?_, ?_, trivial⟩ ?_
  · intro L v w hL hD hC hI
    refine ⟨fun _ => ?_, fun hw => by cases hw⟩
    refine hI.val0 hL (by simp) rfl rfl ?_
    rw [show readsOf plan_12_17 0 = [] from rfl]
    first | exact ⟨rfl, Ext.refl _⟩ | (go_simp; exact ⟨rfl, Ext.refl _⟩)
  · intro L v w hL hD hC hI
    refine ⟨fun _ => ?_, fun hw => by cases hw⟩
    have h0 : (v 0) = .nilIface := hI.inv.val 0 (hD 0 (by decide))
    refine hI.val0 hL (by simp) rfl rfl ?_
    rw [show readsOf plan_12_17 1 = [(133, 0)] from rfl]
    exact give_nil_ne _ _ rfl h0 rfl ⟨rfl, Ext.refl _⟩
  · intro L v w hL hD hC hI
    refine ⟨fun _ => ?_, fun hw => by cases hw⟩
    have h1 : (v 1) = .bool (false) := hI.inv.val 1 (hD 1 (by decide))
    refine hI.val0 hL (by simp) rfl rfl ?_
    rw [show readsOf plan_12_17 2 = [(134, 1)] from rfl]
    exact ⟨h1, Ext.refl _⟩
  · intro L v w hL hD hC hI
    have hg : v 2 = .bool false := hI.inv.val 2 (hD 2 (by decide))
    refine ⟨fun _ => ?_, fun hw => by simp [wantedV, hg] at hw⟩
    have h2 : (v 2) = .bool (false) := hI.inv.val 2 (hD 2 (by decide))
    refine hI.val0 hL (by simp) rfl rfl ?_
    rw [show readsOf plan_12_17 3 = [(135, 2)] from rfl]
    first | exact ⟨rfl, Ext.refl _⟩ | (go_simp; exact ⟨rfl, Ext.refl _⟩)
  · intro L v w hL hD hC hI
    have hg : v 2 = .bool false := hI.inv.val 2 (hD 2 (by decide))
    refine ⟨fun _ => ?_, fun hw => by simp [wantedV, hg] at hw⟩
    have h2 : (v 2) = .bool (false) := hI.inv.val 2 (hD 2 (by decide))
    have h3 : (v 3) = .nilIface := hI.inv.val 3 (hD 3 (by decide))
    refine hI.val0 hL (by simp) rfl rfl ?_
    rw [show readsOf plan_12_17 4 = [(135, 2), (136, 3)] from rfl]
    exact give_nil_ne _ _ rfl h3 rfl ⟨rfl, Ext.refl _⟩
  · intro L v w hL hD hC hI
    refine ⟨fun _ => ?_, fun hw => by cases hw⟩
    have h2 : (v 2) = .bool (false) := hI.inv.val 2 (hD 2 (by decide))
    have h4 : (v 4) = .bool (false) := hI.inv.val 4 (hD 4 (by decide))
    refine hI.val0 hL (by simp) rfl rfl ?_
    rw [show readsOf plan_12_17 5 = [(135, 2), (137, 4)] from rfl]
    exact give_pick_f _ _ _ rfl h2 ⟨h4, Ext.refl _⟩
  · intro L v w hL hD hC hI
    refine ⟨fun _ => ?_, fun hw => by cases hw⟩
    have h5 : (v 5) = .bool (false) := hI.inv.val 5 (hD 5 (by decide))
    refine hI.val0 hL (by simp) rfl rfl ?_
    rw [show readsOf plan_12_17 6 = [(138, 5)] from rfl]
    exact ⟨h5, Ext.refl _⟩
  · intro L v w hL hD hC hI
    have hg : v 6 = .bool false := hI.inv.val 6 (hD 6 (by decide))
    refine ⟨fun _ => ?_, fun hw => by simp [wantedV, hg] at hw⟩
    have h6 : (v 6) = .bool (false) := hI.inv.val 6 (hD 6 (by decide))
    refine hI.val0 hL (by simp) rfl rfl ?_
    rw [show readsOf plan_12_17 7 = [(139, 6)] from rfl]
    first | exact ⟨rfl, Ext.refl _⟩ | (go_simp; exact ⟨rfl, Ext.refl _⟩)
  · intro L v w hL hD hC hI
    have hg : v 6 = .bool false := hI.inv.val 6 (hD 6 (by decide))
    refine ⟨fun _ => ?_, fun hw => by simp [wantedV, hg] at hw⟩
    have h6 : (v 6) = .bool (false) := hI.inv.val 6 (hD 6 (by decide))
    have h7 : (v 7) = .nilIface := hI.inv.val 7 (hD 7 (by decide))
    refine hI.val0 hL (by simp) rfl rfl ?_
    rw [show readsOf plan_12_17 8 = [(139, 6), (140, 7)] from rfl]
    exact give_nil_ne _ _ rfl h7 rfl ⟨rfl, Ext.refl _⟩
  · intro L v w hL hD hC hI
    refine ⟨fun _ => ?_, fun hw => by cases hw⟩
    have h6 : (v 6) = .bool (false) := hI.inv.val 6 (hD 6 (by decide))
    have h8 : (v 8) = .bool (false) := hI.inv.val 8 (hD 8 (by decide))
    refine hI.val0 hL (by simp) rfl rfl ?_
    rw [show readsOf plan_12_17 9 = [(139, 6), (141, 8)] from rfl]
    exact give_pick_f _ _ _ rfl h6 ⟨h8, Ext.refl _⟩
  · intro L v w hL hD hC hI
    refine ⟨fun _ => ?_, fun hw => by cases hw⟩
    have h9 : (v 9) = .bool (false) := hI.inv.val 9 (hD 9 (by decide))
    refine hI.val0 hL (by simp) rfl rfl ?_
    rw [show readsOf plan_12_17 10 = [(142, 9)] from rfl]
    exact ⟨h9, Ext.refl _⟩
  · intro L v w hL hD hC hI
    have hg : v 10 = .bool false := hI.inv.val 10 (hD 10 (by decide))
    refine ⟨fun _ => ?_, fun hw => by simp [wantedV, hg] at hw⟩
    have h10 : (v 10) = .bool (false) := hI.inv.val 10 (hD 10 (by decide))
    refine hI.val0 hL (by simp) rfl rfl ?_
    rw [show readsOf plan_12_17 11 = [(143, 10)] from rfl]
    exact ld_P (R_back.keep hI.inv.keep (by simp)) _ rfl rfl fun u hu => ⟨hu, Ext.refl _⟩
  · intro L v w hL hD hC hI
    have hg : v 10 = .bool false := hI.inv.val 10 (hD 10 (by decide))
    refine ⟨fun _ => ?_, fun hw => by simp [wantedV, hg] at hw⟩
    have h10 : (v 10) = .bool (false) := hI.inv.val 10 (hD 10 (by decide))
    refine hI.val0 hL (by simp) rfl rfl ?_
    rw [show readsOf plan_12_17 12 = [(143, 10)] from rfl]
    exact ld_P (R_p.keep hI.inv.keep (by simp)) _ rfl rfl fun u hu => ⟨hu, Ext.refl _⟩
  · intro L v w hL hD hC hI
    have hg : v 10 = .bool false := hI.inv.val 10 (hD 10 (by decide))
    refine ⟨fun _ => ?_, fun hw => by simp [wantedV, hg] at hw⟩
    have h10 : (v 10) = .bool (false) := hI.inv.val 10 (hD 10 (by decide))
    have h11 : (v 11) = .agg (pc (fb (P).x) (fb (P).y)) := hI.inv.val 11 (hD 11 (by decide))
    have h12 : (v 12) = .agg (pc (fb (P).x) (fb (P).y)) := hI.inv.val 12 (hD 12 (by decide))
    refine hI.val0 hL (by simp) rfl rfl ?_
    rw [show readsOf plan_12_17 13 = [(143, 10), (144, 11), (145, 12)] from rfl]
    exact give_neP _ _ _ _ _ _ _ rfl h11 h12 ⟨by simp [beqb_self], Ext.refl _⟩
  · intro L v w hL hD hC hI
    refine ⟨fun _ => ?_, fun hw => by cases hw⟩
    have h10 : (v 10) = .bool (false) := hI.inv.val 10 (hD 10 (by decide))
    have h13 : (v 13) = .bool (false) := hI.inv.val 13 (hD 13 (by decide))
    refine hI.val0 hL (by simp) rfl rfl ?_
    rw [show readsOf plan_12_17 14 = [(143, 10), (146, 13)] from rfl]
    exact give_pick_f _ _ _ rfl h10 ⟨h13, Ext.refl _⟩
  · intro L v w hL hD hC hI
    refine ⟨fun _ => ?_, fun hw => by cases hw⟩
    have h14 : (v 14) = .bool (false) := hI.inv.val 14 (hD 14 (by decide))
    refine hI.val0 hL (by simp) rfl rfl ?_
    rw [show readsOf plan_12_17 15 = [(147, 14)] from rfl]
    exact ⟨h14, Ext.refl _⟩
  · intro L v w hL hD hC hI
    have hg : v 15 = .bool false := hI.inv.val 15 (hD 15 (by decide))
    refine ⟨fun _ => ?_, fun hw => by simp [wantedV, hg] at hw⟩
    have h15 : (v 15) = .bool (false) := hI.inv.val 15 (hD 15 (by decide))
    refine hI.val0 hL (by simp) rfl rfl ?_
    rw [show readsOf plan_12_17 16 = [(148, 15)] from rfl]
    exact ld_B (R_again.keep hI.inv.keep (by simp)) _ rfl rfl fun u hu => ⟨hu, Ext.refl _⟩
  · intro L v w hL hD hC hI
    have hg : v 15 = .bool false := hI.inv.val 15 (hD 15 (by decide))
    refine ⟨fun _ => ?_, fun hw => by simp [wantedV, hg] at hw⟩
    have h15 : (v 15) = .bool (false) := hI.inv.val 15 (hD 15 (by decide))
    refine hI.val0 hL (by simp) rfl rfl ?_
    rw [show readsOf plan_12_17 17 = [(148, 15)] from rfl]
    exact ld_B (R_m.keep hI.inv.keep (by simp)) _ rfl rfl fun u hu => ⟨hu, Ext.refl _⟩
  · intro L v w hL hD hC hI
    have hg : v 15 = .bool false := hI.inv.val 15 (hD 15 (by decide))
    refine ⟨fun _ => ?_, fun hw => by simp [wantedV, hg] at hw⟩
    have h15 : (v 15) = .bool (false) := hI.inv.val 15 (hD 15 (by decide))
    have h16 : (v 16) = .agg (bcells (encF (P).x (P).y)) := hI.inv.val 16 (hD 16 (by decide))
    have h17 : (v 17) = .agg (bcells (encF (P).x (P).y)) := hI.inv.val 17 (hD 17 (by decide))
    refine hI.val0 hL (by simp) rfl rfl ?_
    rw [show readsOf plan_12_17 18 = [(148, 15), (149, 16), (150, 17)] from rfl]
    simp only [putP, Act.put, List.setIfInBounds_toArray, List.set_cons_zero, List.set_cons_succ, h16, h17]
    go_simp
    exact ⟨by simp [beqb_self], Ext.refl _⟩
  · intro L v w hL hD hC hI
    refine ⟨fun _ => ?_, fun hw => by cases hw⟩
    have h15 : (v 15) = .bool (false) := hI.inv.val 15 (hD 15 (by decide))
    have h18 : (v 18) = .bool (false) := hI.inv.val 18 (hD 18 (by decide))
    refine hI.val0 hL (by simp) rfl rfl ?_
    rw [show readsOf plan_12_17 19 = [(148, 15), (151, 18)] from rfl]
    exact give_pick_f _ _ _ rfl h15 ⟨h18, Ext.refl _⟩
  intro L v16 W16 hL hI
  replace R_k1 := R_k1.keep hI.inv.keep (by simp)
  replace R_k2 := R_k2.keep hI.inv.keep (by simp)
  replace R_p := R_p.keep hI.inv.keep (by simp)
  replace R_m := R_m.keep hI.inv.keep (by simp)
  replace R_back := R_back.keep hI.inv.keep (by simp)
  replace R_again := R_again.keep hI.inv.keep (by simp)
  have hx' : Ext w W16 := hx.trans hI.inv.keep.to_ext
  have hs_133_17 : (v16 0) = .nilIface := hI.inv.val 0 (hL 0 (by decide))
  have hs_135_17 : (v16 2) = .bool (false) := hI.inv.val 2 (hL 2 (by decide))
  have hs_136_17 : (v16 3) = .nilIface := hI.inv.val 3 (hL 3 (by decide))
  have hs_139_17 : (v16 6) = .bool (false) := hI.inv.val 6 (hL 6 (by decide))
  have hs_140_17 : (v16 7) = .nilIface := hI.inv.val 7 (hL 7 (by decide))
  have hs_143_17 : (v16 10) = .bool (false) := hI.inv.val 10 (hL 10 (by decide))
  have hs_148_17 : (v16 15) = .bool (false) := hI.inv.val 15 (hL 15 (by decide))
  have hs_152_17 : (v16 19) = .bool (false) := hI.inv.val 19 (hL 19 (by decide))
  clear hx hI hL hok L
  have hx := hx'
  clear hx'
  simp only [putP, Act.put, List.setIfInBounds_toArray, List.set_cons_zero, List.set_cons_succ, hs_133_17, hs_135_17, hs_136_17, hs_139_17, hs_140_17, hs_143_17, hs_148_17, hs_152_17]
  clear R_m
  clear R_back
  clear R_again
  clear R_p
  go_upto_region 19 with fail
  have hok : TrsOk [] W16.heap.size ([⟨some 4, 0, 22, some 5, fun cs => (Value.agg (List.toArray cs)) = .agg (bcells (fun _ => 0)), fun cs => (Value.agg (List.toArray cs)) = .agg (bcells (nb ((V f1 * V (nb 1) + V f2) % ordN)))⟩] : List Trk) := ⟨by simp, by simp, by simp, by simp⟩
  refine wp_region_plan (InvN [] (fun j u => match j with | 0 => u = .agg (bcells (f1)) | 1 => u = .agg (bcells (nb 1)) | 2 => u = .agg (bcells (f2)) | 3 => u = .agg (bcells (nb ((V f1 * V (nb 1) + V f2) % ordN))) | _ => True) (fun _ => none) (fun _ => none) [⟨some 4, 0, 22, some 5, fun cs => (Value.agg (List.toArray cs)) = .agg (bcells (fun _ => 0)), fun cs => (Value.agg (List.toArray cs)) = .agg (bcells (nb ((V f1 * V (nb 1) + V f2) % ordN)))⟩] W16) plan_12_19 [(153, 0), (154, 1), (155, 2), (156, 3), (27, 4)] 221 (by kernel_rfl) rfl (by kernel_rfl) (InvN.of (Inv.start hok (by simp))) ⟨?_, ?_, ?_, ?_, ?_, ?_, trivial⟩ ?_
  · intro L v w hL hD hC hI
    refine ⟨fun _ => ?_, fun hw => by cases hw⟩
    refine hI.val0 hL (by simp) rfl rfl ?_
    rw [show readsOf plan_12_19 0 = [] from rfl]
    exact ld_B (R_k1.keep hI.inv.keep (by simp)) _ rfl rfl fun u hu => ⟨hu, Ext.refl _⟩
  · intro L v w hL hD hC hI
    refine ⟨fun _ => ?_, fun hw => by cases hw⟩
    refine hI.val0 hL (by simp) rfl rfl ?_
    rw [show readsOf plan_12_19 1 = [] from rfl]
    refine give_call _ _ _ _ rfl rfl Try.func40 (by kernel_rfl) (by kernel_rfl) ?_
    refine Calls.mono (sm7_1 w) ?_
    rintro e w' ⟨rfl, hx⟩
    exact ⟨_, rfl, rfl, hx⟩
  · intro L v w hL hD hC hI
    refine ⟨fun _ => ?_, fun hw => by cases hw⟩
    refine hI.val0 hL (by simp) rfl rfl ?_
    rw [show readsOf plan_12_19 2 = [] from rfl]
    exact ld_B (R_k2.keep hI.inv.keep (by simp)) _ rfl rfl fun u hu => ⟨hu, Ext.refl _⟩
  · intro L v w hL hD hC hI
    refine ⟨fun _ => ?_, fun hw => by cases hw⟩
    have h0 : (v 0) = .agg (bcells (f1)) := hI.inv.val 0 (hD 0 (by decide))
    have h1 : (v 1) = .agg (bcells (nb 1)) := hI.inv.val 1 (hD 1 (by decide))
    have h2 : (v 2) = .agg (bcells (f2)) := hI.inv.val 2 (hD 2 (by decide))
    refine hI.val0 hL (by simp) rfl rfl ?_
    rw [show readsOf plan_12_19 3 = [(153, 0), (154, 1), (155, 2)] from rfl]
    refine give_call _ _ _ _ rfl rfl Try.func35 (by kernel_rfl) (by kernel_rfl) ?_
    refine Calls.mono (calls_eq (muladd_any f1 (nb 1) f2 w) (args' := #[v 0, v 1, v 2]) (by rw [h0, h1, h2])) ?_
    rintro e w' ⟨rfl, hx⟩
    exact ⟨_, rfl, rfl, hx⟩
  · intro L v w hL hD hC hI
    refine ⟨fun _ => ?_, fun hw => by cases hw⟩
    refine InvN.alloc_step hok hI hL ⟨some 4, 0, 22, some 5, fun cs => (Value.agg (List.toArray cs)) = .agg (bcells (fun _ => 0)), fun cs => (Value.agg (List.toArray cs)) = .agg (bcells (nb ((V f1 * V (nb 1) + V f2) % ordN)))⟩ (by simp) rfl (by simp) (by intro s hs; cases hs; exact not_yet hC hL (by decide)) rfl rfl ?_
    rw [show readsOf plan_12_19 4 = [] from rfl]
    go_simp
    first | exact ⟨rfl, pcL (fun _ => 0) (fun _ => 0), rfl, rfl⟩ | exact ⟨trivial, rfl, pcL (fun _ => 0) (fun _ => 0), rfl, rfl⟩ | exact ⟨rfl, (bcells fun _ => 0).toList, by rw [Array.toArray_toList], by rw [Array.toArray_toList]⟩
  · intro L v w hL hD hC hI
    refine ⟨fun _ => ?_, fun hw => by cases hw⟩
    have h3 : (v 3) = .agg (bcells (nb ((V f1 * V (nb 1) + V f2) % ordN))) := hI.inv.val 3 (hD 3 (by decide))
    refine InvN.store_step hok hI hL ⟨some 4, 0, 22, some 5, fun cs => (Value.agg (List.toArray cs)) = .agg (bcells (fun _ => 0)), fun cs => (Value.agg (List.toArray cs)) = .agg (bcells (nb ((V f1 * V (nb 1) + V f2) % ordN)))⟩ (by simp) rfl (by simp) (by intro k hk; cases hk; exact hD 4 (by decide)) rfl rfl (fun cs h => by rw [bL_of h]; exact noI_b _) ?_
    intro n cs hb hR hold
    change v 4 = .pointer (some ⟨n, 0, none⟩) at hb
    rw [show readsOf plan_12_19 5 = [(156, 3), (27, 4)] from rfl]
    exact st_B hR (by rw [bL_of hold]; simp) _ _ rfl hb h3 fun w' cs' hr he hk => ⟨trivial, hk, cs', hr, he⟩
  intro L v17 W17 hL hI
  obtain ⟨s, cs, hb_s, lo_s, hr, hn, ho⟩ := hI.inv.row_made ⟨some 4, 0, 22, some 5, fun cs => (Value.agg (List.toArray cs)) = .agg (bcells (fun _ => 0)), fun cs => (Value.agg (List.toArray cs)) = .agg (bcells (nb ((V f1 * V (nb 1) + V f2) % ordN)))⟩ (by simp) 4 rfl (hL 4 (by decide))
  have R_s : RV W17 s 22 (fun u => u = .agg (bcells (nb ((V f1 * V (nb 1) + V f2) % ordN)))) := ⟨cs, hr, hn 5 rfl (hL 5 (by decide))⟩
  clear hr hn ho
  replace R_k1 := R_k1.keep hI.inv.keep (by simp)
  replace R_k2 := R_k2.keep hI.inv.keep (by simp)
  have hx' : Ext w W17 := hx.trans hI.inv.keep.to_ext
  clear hx hI hL hok L
  have hx := hx'
  clear hx'
  simp only [putP, Act.put, List.setIfInBounds_toArray, List.set_cons_zero, List.set_cons_succ, hb_s]
  go_upto_region 20 with fail
  have hok : TrsOk [] W17.heap.size ([⟨some 6, 0, 43, some 7, fun cs => (Value.agg (List.toArray cs)) = .agg (pc (fun _ => 0) (fun _ => 0)), fun cs => (Value.agg (List.toArray cs)) = .agg (pc (fb ((Pt.mul (V (f1)) (B7)).add (Pt.mul (V (f2)) (B7))).x) (fb ((Pt.mul (V (f1)) (B7)).add (Pt.mul (V (f2)) (B7))).y))⟩] : List Trk) := ⟨by simp, by simp, by simp, by simp⟩
  refine wp_region_plan (InvN [] (fun j u => match j with | 0 => u = .agg (bcells (nb ((V f1 * V (nb 1) + V f2) % ordN))) | 1 => u = .agg (pc (fb (B7).x) (fb (B7).y)) | 2 => u = .tuple #[.agg (pc (fb ((Pt.mul (V (f1)) (B7)).add (Pt.mul (V (f2)) (B7))).x) (fb ((Pt.mul (V (f1)) (B7)).add (Pt.mul (V (f2)) (B7))).y)), .nilIface] | 3 => u = .tuple #[.agg (pc (fb ((Pt.mul (V (f1)) (B7)).add (Pt.mul (V (f2)) (B7))).x) (fb ((Pt.mul (V (f1)) (B7)).add (Pt.mul (V (f2)) (B7))).y)), .nilIface] | 4 => u = .agg (pc (fb ((Pt.mul (V (f1)) (B7)).add (Pt.mul (V (f2)) (B7))).x) (fb ((Pt.mul (V (f1)) (B7)).add (Pt.mul (V (f2)) (B7))).y)) | 5 => u = .nilIface | 8 => u = .nilIface | _ => True) (fun _ => none) (fun _ => none) [⟨some 6, 0, 43, some 7, fun cs => (Value.agg (List.toArray cs)) = .agg (pc (fun _ => 0) (fun _ => 0)), fun cs => (Value.agg (List.toArray cs)) = .agg (pc (fb ((Pt.mul (V (f1)) (B7)).add (Pt.mul (V (f2)) (B7))).x) (fb ((Pt.mul (V (f1)) (B7)).add (Pt.mul (V (f2)) (B7))).y))⟩] W17) plan_12_20 [(158, 0), (159, 1), (160, 2), (157, 3), (161, 4), (162, 5), (28, 6), (15, 8)] 221 (by kernel_rfl) rfl (by kernel_rfl) (InvN.of (Inv.start hok (by simp))) ⟨?_, ?_, ?_, ?_, ?_, ?_, ?_, ?_, ?_, trivial⟩ ?_
  · intro L v w hL hD hC hI
    refine ⟨fun _ => ?_, fun hw => by cases hw⟩
    refine hI.val0 hL (by simp) rfl rfl ?_
    rw [show readsOf plan_12_20 0 = [] from rfl]
    exact ld_B (R_s.keep hI.inv.keep (by simp)) _ rfl rfl fun u hu => ⟨hu, Ext.refl _⟩
  · intro L v w hL hD hC hI
    refine ⟨fun _ => ?_, fun hw => by cases hw⟩
    refine hI.val0 hL (by simp) rfl rfl ?_
    rw [show readsOf plan_12_20 1 = [] from rfl]
    refine give_call _ _ _ _ rfl rfl Try.func30 (by kernel_rfl) (by kernel_rfl) ?_
    refine Calls.mono (base_any w) ?_
    rintro e w' ⟨rfl, hx⟩
    exact ⟨_, rfl, rfl, hx⟩
  · intro L v w hL hD hC hI
    refine ⟨fun _ => ?_, fun hw => by cases hw⟩
    have h0 : (v 0) = .agg (bcells (nb ((V f1 * V (nb 1) + V f2) % ordN))) := hI.inv.val 0 (hD 0 (by decide))
    have h1 : (v 1) = .agg (pc (fb (B7).x) (fb (B7).y)) := hI.inv.val 1 (hD 1 (by decide))
    refine hI.val0 hL (by simp) rfl rfl ?_
    rw [show readsOf plan_12_20 2 = [(158, 0), (159, 1)] from rfl]
    refine give_call _ _ _ _ rfl rfl Try.func50 (by kernel_rfl) (by kernel_rfl) ?_
    refine Calls.mono (calls_eq (times_sum f1 f2 w) (args' := #[v 0, v 1]) (by rw [h0, h1])) ?_
    rintro e w' ⟨rfl, hx⟩
    exact ⟨_, rfl, rfl, hx⟩
  · intro L v w hL hD hC hI
    refine ⟨fun _ => ?_, fun hw => by cases hw⟩
    have h2 : (v 2) = .tuple #[.agg (pc (fb ((Pt.mul (V (f1)) (B7)).add (Pt.mul (V (f2)) (B7))).x) (fb ((Pt.mul (V (f1)) (B7)).add (Pt.mul (V (f2)) (B7))).y)), .nilIface] := hI.inv.val 2 (hD 2 (by decide))
    refine hI.val0 hL (by simp) rfl rfl ?_
    rw [show readsOf plan_12_20 3 = [(160, 2)] from rfl]
    exact ⟨h2, Ext.refl _⟩
  · intro L v w hL hD hC hI
    refine ⟨fun _ => ?_, fun hw => by cases hw⟩
    have h3 : (v 3) = .tuple #[.agg (pc (fb ((Pt.mul (V (f1)) (B7)).add (Pt.mul (V (f2)) (B7))).x) (fb ((Pt.mul (V (f1)) (B7)).add (Pt.mul (V (f2)) (B7))).y)), .nilIface] := hI.inv.val 3 (hD 3 (by decide))
    refine hI.val0 hL (by simp) rfl rfl ?_
    rw [show readsOf plan_12_20 4 = [(157, 3)] from rfl]
    exact give_ext _ _ _ rfl h3 _ rfl ⟨rfl, Ext.refl _⟩
  · intro L v w hL hD hC hI
    refine ⟨fun _ => ?_, fun hw => by cases hw⟩
    have h3 : (v 3) = .tuple #[.agg (pc (fb ((Pt.mul (V (f1)) (B7)).add (Pt.mul (V (f2)) (B7))).x) (fb ((Pt.mul (V (f1)) (B7)).add (Pt.mul (V (f2)) (B7))).y)), .nilIface] := hI.inv.val 3 (hD 3 (by decide))
    refine hI.val0 hL (by simp) rfl rfl ?_
    rw [show readsOf plan_12_20 5 = [(157, 3)] from rfl]
    exact give_ext _ _ _ rfl h3 _ rfl ⟨rfl, Ext.refl _⟩
  · intro L v w hL hD hC hI
    refine ⟨fun _ => ?_, fun hw => by cases hw⟩
    refine InvN.alloc_step hok hI hL ⟨some 6, 0, 43, some 7, fun cs => (Value.agg (List.toArray cs)) = .agg (pc (fun _ => 0) (fun _ => 0)), fun cs => (Value.agg (List.toArray cs)) = .agg (pc (fb ((Pt.mul (V (f1)) (B7)).add (Pt.mul (V (f2)) (B7))).x) (fb ((Pt.mul (V (f1)) (B7)).add (Pt.mul (V (f2)) (B7))).y))⟩ (by simp) rfl (by simp) (by intro s hs; cases hs; exact not_yet hC hL (by decide)) rfl rfl ?_
    rw [show readsOf plan_12_20 6 = [] from rfl]
    go_simp
    first | exact ⟨rfl, pcL (fun _ => 0) (fun _ => 0), rfl, rfl⟩ | exact ⟨trivial, rfl, pcL (fun _ => 0) (fun _ => 0), rfl, rfl⟩ | exact ⟨rfl, (bcells fun _ => 0).toList, by rw [Array.toArray_toList], by rw [Array.toArray_toList]⟩
  · intro L v w hL hD hC hI
    refine ⟨fun _ => ?_, fun hw => by cases hw⟩
    have h4 : (v 4) = .agg (pc (fb ((Pt.mul (V (f1)) (B7)).add (Pt.mul (V (f2)) (B7))).x) (fb ((Pt.mul (V (f1)) (B7)).add (Pt.mul (V (f2)) (B7))).y)) := hI.inv.val 4 (hD 4 (by decide))
    refine InvN.store_step hok hI hL ⟨some 6, 0, 43, some 7, fun cs => (Value.agg (List.toArray cs)) = .agg (pc (fun _ => 0) (fun _ => 0)), fun cs => (Value.agg (List.toArray cs)) = .agg (pc (fb ((Pt.mul (V (f1)) (B7)).add (Pt.mul (V (f2)) (B7))).x) (fb ((Pt.mul (V (f1)) (B7)).add (Pt.mul (V (f2)) (B7))).y))⟩ (by simp) rfl (by simp) (by intro k hk; cases hk; exact hD 6 (by decide)) rfl rfl (fun cs h => by rw [pcL_of h]; exact noI_pc _ _) ?_
    intro n cs hb hR hold
    change v 6 = .pointer (some ⟨n, 0, none⟩) at hb
    rw [show readsOf plan_12_20 7 = [(161, 4), (28, 6)] from rfl]
    exact st_P hR (by rw [pcL_of hold]; exact pcL_len _ _) _ _ rfl hb h4 fun w' cs' hr he hk => ⟨trivial, hk, cs', hr, he⟩
  · intro L v w hL hD hC hI
    refine ⟨fun _ => ?_, fun hw => by cases hw⟩
    have h5 : (v 5) = .nilIface := hI.inv.val 5 (hD 5 (by decide))
    refine hI.val0 hL (by simp) rfl rfl ?_
    rw [show readsOf plan_12_20 8 = [(162, 5)] from rfl]
    exact ⟨h5, Ext.refl _⟩
  intro L v18 W18 hL hI
  obtain ⟨t, cs, hb_t, lo_t, hr, hn, ho⟩ := hI.inv.row_made ⟨some 6, 0, 43, some 7, fun cs => (Value.agg (List.toArray cs)) = .agg (pc (fun _ => 0) (fun _ => 0)), fun cs => (Value.agg (List.toArray cs)) = .agg (pc (fb ((Pt.mul (V (f1)) (B7)).add (Pt.mul (V (f2)) (B7))).x) (fb ((Pt.mul (V (f1)) (B7)).add (Pt.mul (V (f2)) (B7))).y))⟩ (by simp) 6 rfl (hL 6 (by decide))
  have R_t : RV W18 t 43 (fun u => u = .agg (pc (fb ((Pt.mul (V (f1)) (B7)).add (Pt.mul (V (f2)) (B7))).x) (fb ((Pt.mul (V (f1)) (B7)).add (Pt.mul (V (f2)) (B7))).y))) := ⟨cs, hr, hn 7 rfl (hL 7 (by decide))⟩
  clear hr hn ho
  replace R_k1 := R_k1.keep hI.inv.keep (by simp)
  replace R_k2 := R_k2.keep hI.inv.keep (by simp)
  replace R_s := R_s.keep hI.inv.keep (by simp)
  have hx' : Ext w W18 := hx.trans hI.inv.keep.to_ext
  have hs_15_20 : (v18 8) = .nilIface := hI.inv.val 8 (hL 8 (by decide))
  clear hx hI hL hok L
  have hx := hx'
  clear hx'
  simp only [putP, Act.put, List.setIfInBounds_toArray, List.set_cons_zero, List.set_cons_succ, hb_t, hs_15_20]
  go_upto_region 21 with fail
  have hok : TrsOk [] W18.heap.size ([⟨some 6, 0, 43, some 7, fun cs => (Value.agg (List.toArray cs)) = .agg (pc (fun _ => 0) (fun _ => 0)), fun cs => (Value.agg (List.toArray cs)) = .agg (pc (fb (Pt.mul (V (f1)) (B7)).x) (fb (Pt.mul (V (f1)) (B7)).y))⟩] : List Trk) := ⟨by simp, by simp, by simp, by simp⟩
  refine wp_region_plan (InvN [] (fun j u => match j with | 0 => u = .agg (bcells (f1)) | 1 => u = .agg (pc (fb (B7).x) (fb (B7).y)) | 2 => u = .tuple #[.agg (pc (fb (Pt.mul (V (f1)) (B7)).x) (fb (Pt.mul (V (f1)) (B7)).y)), .nilIface] | 3 => u = .tuple #[.agg (pc (fb (Pt.mul (V (f1)) (B7)).x) (fb (Pt.mul (V (f1)) (B7)).y)), .nilIface] | 4 => u = .agg (pc (fb (Pt.mul (V (f1)) (B7)).x) (fb (Pt.mul (V (f1)) (B7)).y)) | 5 => u = .nilIface | 8 => u = .nilIface | _ => True) (fun _ => none) (fun _ => none) [⟨some 6, 0, 43, some 7, fun cs => (Value.agg (List.toArray cs)) = .agg (pc (fun _ => 0) (fun _ => 0)), fun cs => (Value.agg (List.toArray cs)) = .agg (pc (fb (Pt.mul (V (f1)) (B7)).x) (fb (Pt.mul (V (f1)) (B7)).y))⟩] W18) plan_12_21 [(164, 0), (165, 1), (166, 2), (163, 3), (167, 4), (168, 5), (29, 6), (17, 8)] 221 (by kernel_rfl) rfl (by kernel_rfl) (InvN.of (Inv.start hok (by simp))) ⟨?_, ?_, ?_, ?_, ?_, ?_, ?_, ?_, ?_, trivial⟩ ?_
  · intro L v w hL hD hC hI
    refine ⟨fun _ => ?_, fun hw => by cases hw⟩
    refine hI.val0 hL (by simp) rfl rfl ?_
    rw [show readsOf plan_12_21 0 = [] from rfl]
    exact ld_B (R_k1.keep hI.inv.keep (by simp)) _ rfl rfl fun u hu => ⟨hu, Ext.refl _⟩
  · intro L v w hL hD hC hI
    refine ⟨fun _ => ?_, fun hw => by cases hw⟩
    refine hI.val0 hL (by simp) rfl rfl ?_
    rw [show readsOf plan_12_21 1 = [] from rfl]
    refine give_call _ _ _ _ rfl rfl Try.func30 (by kernel_rfl) (by kernel_rfl) ?_
    refine Calls.mono (base_any w) ?_
    rintro e w' ⟨rfl, hx⟩
    exact ⟨_, rfl, rfl, hx⟩
  · intro L v w hL hD hC hI
    refine ⟨fun _ => ?_, fun hw => by cases hw⟩
    have h0 : (v 0) = .agg (bcells (f1)) := hI.inv.val 0 (hD 0 (by decide))
    have h1 : (v 1) = .agg (pc (fb (B7).x) (fb (B7).y)) := hI.inv.val 1 (hD 1 (by decide))
    refine hI.val0 hL (by simp) rfl rfl ?_
    rw [show readsOf plan_12_21 2 = [(164, 0), (165, 1)] from rfl]
    refine give_call _ _ _ _ rfl rfl Try.func50 (by kernel_rfl) (by kernel_rfl) ?_
    refine Calls.mono (calls_eq (times_pt (f1) (B7) w) (args' := #[v 0, v 1]) (by rw [h0, h1])) ?_
    rintro e w' ⟨rfl, hx⟩
    exact ⟨_, rfl, rfl, hx⟩
  · intro L v w hL hD hC hI
    refine ⟨fun _ => ?_, fun hw => by cases hw⟩
    have h2 : (v 2) = .tuple #[.agg (pc (fb (Pt.mul (V (f1)) (B7)).x) (fb (Pt.mul (V (f1)) (B7)).y)), .nilIface] := hI.inv.val 2 (hD 2 (by decide))
    refine hI.val0 hL (by simp) rfl rfl ?_
    rw [show readsOf plan_12_21 3 = [(166, 2)] from rfl]
    exact ⟨h2, Ext.refl _⟩
  · intro L v w hL hD hC hI
    refine ⟨fun _ => ?_, fun hw => by cases hw⟩
    have h3 : (v 3) = .tuple #[.agg (pc (fb (Pt.mul (V (f1)) (B7)).x) (fb (Pt.mul (V (f1)) (B7)).y)), .nilIface] := hI.inv.val 3 (hD 3 (by decide))
    refine hI.val0 hL (by simp) rfl rfl ?_
    rw [show readsOf plan_12_21 4 = [(163, 3)] from rfl]
    exact give_ext _ _ _ rfl h3 _ rfl ⟨rfl, Ext.refl _⟩
  · intro L v w hL hD hC hI
    refine ⟨fun _ => ?_, fun hw => by cases hw⟩
    have h3 : (v 3) = .tuple #[.agg (pc (fb (Pt.mul (V (f1)) (B7)).x) (fb (Pt.mul (V (f1)) (B7)).y)), .nilIface] := hI.inv.val 3 (hD 3 (by decide))
    refine hI.val0 hL (by simp) rfl rfl ?_
    rw [show readsOf plan_12_21 5 = [(163, 3)] from rfl]
    exact give_ext _ _ _ rfl h3 _ rfl ⟨rfl, Ext.refl _⟩
  · intro L v w hL hD hC hI
    refine ⟨fun _ => ?_, fun hw => by cases hw⟩
    refine InvN.alloc_step hok hI hL ⟨some 6, 0, 43, some 7, fun cs => (Value.agg (List.toArray cs)) = .agg (pc (fun _ => 0) (fun _ => 0)), fun cs => (Value.agg (List.toArray cs)) = .agg (pc (fb (Pt.mul (V (f1)) (B7)).x) (fb (Pt.mul (V (f1)) (B7)).y))⟩ (by simp) rfl (by simp) (by intro s hs; cases hs; exact not_yet hC hL (by decide)) rfl rfl ?_
    rw [show readsOf plan_12_21 6 = [] from rfl]
    go_simp
    first | exact ⟨rfl, pcL (fun _ => 0) (fun _ => 0), rfl, rfl⟩ | exact ⟨trivial, rfl, pcL (fun _ => 0) (fun _ => 0), rfl, rfl⟩ | exact ⟨rfl, (bcells fun _ => 0).toList, by rw [Array.toArray_toList], by rw [Array.toArray_toList]⟩
  · intro L v w hL hD hC hI
    refine ⟨fun _ => ?_, fun hw => by cases hw⟩
    have h4 : (v 4) = .agg (pc (fb (Pt.mul (V (f1)) (B7)).x) (fb (Pt.mul (V (f1)) (B7)).y)) := hI.inv.val 4 (hD 4 (by decide))
    refine InvN.store_step hok hI hL ⟨some 6, 0, 43, some 7, fun cs => (Value.agg (List.toArray cs)) = .agg (pc (fun _ => 0) (fun _ => 0)), fun cs => (Value.agg (List.toArray cs)) = .agg (pc (fb (Pt.mul (V (f1)) (B7)).x) (fb (Pt.mul (V (f1)) (B7)).y))⟩ (by simp) rfl (by simp) (by intro k hk; cases hk; exact hD 6 (by decide)) rfl rfl (fun cs h => by rw [pcL_of h]; exact noI_pc _ _) ?_
    intro n cs hb hR hold
    change v 6 = .pointer (some ⟨n, 0, none⟩) at hb
    rw [show readsOf plan_12_21 7 = [(167, 4), (29, 6)] from rfl]
    exact st_P hR (by rw [pcL_of hold]; exact pcL_len _ _) _ _ rfl hb h4 fun w' cs' hr he hk => ⟨trivial, hk, cs', hr, he⟩
  · intro L v w hL hD hC hI
    refine ⟨fun _ => ?_, fun hw => by cases hw⟩
    have h5 : (v 5) = .nilIface := hI.inv.val 5 (hD 5 (by decide))
    refine hI.val0 hL (by simp) rfl rfl ?_
    rw [show readsOf plan_12_21 8 = [(168, 5)] from rfl]
    exact ⟨h5, Ext.refl _⟩
  intro L v19 W19 hL hI
  obtain ⟨u_, cs, hb_u_, lo_u_, hr, hn, ho⟩ := hI.inv.row_made ⟨some 6, 0, 43, some 7, fun cs => (Value.agg (List.toArray cs)) = .agg (pc (fun _ => 0) (fun _ => 0)), fun cs => (Value.agg (List.toArray cs)) = .agg (pc (fb (Pt.mul (V (f1)) (B7)).x) (fb (Pt.mul (V (f1)) (B7)).y))⟩ (by simp) 6 rfl (hL 6 (by decide))
  have R_u_ : RV W19 u_ 43 (fun u => u = .agg (pc (fb (Pt.mul (V (f1)) (B7)).x) (fb (Pt.mul (V (f1)) (B7)).y))) := ⟨cs, hr, hn 7 rfl (hL 7 (by decide))⟩
  clear hr hn ho
  replace R_k1 := R_k1.keep hI.inv.keep (by simp)
  replace R_k2 := R_k2.keep hI.inv.keep (by simp)
  replace R_s := R_s.keep hI.inv.keep (by simp)
  replace R_t := R_t.keep hI.inv.keep (by simp)
  have hx' : Ext w W19 := hx.trans hI.inv.keep.to_ext
  have hs_17_21 : (v19 8) = .nilIface := hI.inv.val 8 (hL 8 (by decide))
  clear hx hI hL hok L
  have hx := hx'
  clear hx'
  simp only [putP, Act.put, List.setIfInBounds_toArray, List.set_cons_zero, List.set_cons_succ, hb_u_, hs_17_21]
  go_upto_region 22 with fail
  have hok : TrsOk [] W19.heap.size ([⟨some 6, 0, 43, some 7, fun cs => (Value.agg (List.toArray cs)) = .agg (pc (fun _ => 0) (fun _ => 0)), fun cs => (Value.agg (List.toArray cs)) = .agg (pc (fb (Pt.mul (V (f2)) (B7)).x) (fb (Pt.mul (V (f2)) (B7)).y))⟩] : List Trk) := ⟨by simp, by simp, by simp, by simp⟩
  refine wp_region_plan (InvN [] (fun j u => match j with | 0 => u = .agg (bcells (f2)) | 1 => u = .agg (pc (fb (B7).x) (fb (B7).y)) | 2 => u = .tuple #[.agg (pc (fb (Pt.mul (V (f2)) (B7)).x) (fb (Pt.mul (V (f2)) (B7)).y)), .nilIface] | 3 => u = .tuple #[.agg (pc (fb (Pt.mul (V (f2)) (B7)).x) (fb (Pt.mul (V (f2)) (B7)).y)), .nilIface] | 4 => u = .agg (pc (fb (Pt.mul (V (f2)) (B7)).x) (fb (Pt.mul (V (f2)) (B7)).y)) | 5 => u = .nilIface | 8 => u = .nilIface | _ => True) (fun _ => none) (fun _ => none) [⟨some 6, 0, 43, some 7, fun cs => (Value.agg (List.toArray cs)) = .agg (pc (fun _ => 0) (fun _ => 0)), fun cs => (Value.agg (List.toArray cs)) = .agg (pc (fb (Pt.mul (V (f2)) (B7)).x) (fb (Pt.mul (V (f2)) (B7)).y))⟩] W19) plan_12_22 [(170, 0), (171, 1), (172, 2), (169, 3), (173, 4), (174, 5), (30, 6), (19, 8)] 221 (by kernel_rfl) rfl (by kernel_rfl) (InvN.of (Inv.start hok (by simp))) ⟨?_, ?_, ?_, ?_, ?_, ?_, ?_, ?_, ?_, trivial⟩ ?_
  · intro L v w hL hD hC hI
    refine ⟨fun _ => ?_, fun hw => by cases hw⟩
    refine hI.val0 hL (by simp) rfl rfl ?_
    rw [show readsOf plan_12_22 0 = [] from rfl]
    exact ld_B (R_k2.keep hI.inv.keep (by simp)) _ rfl rfl fun u hu => ⟨hu, Ext.refl _⟩
  · intro L v w hL hD hC hI
    refine ⟨fun _ => ?_, fun hw => by cases hw⟩
    refine hI.val0 hL (by simp) rfl rfl ?_
    rw [show readsOf plan_12_22 1 = [] from rfl]
    refine give_call _ _ _ _ rfl rfl Try.func30 (by kernel_rfl) (by kernel_rfl) ?_
    refine Calls.mono (base_any w) ?_
    rintro e w' ⟨rfl, hx⟩
    exact ⟨_, rfl, rfl, hx⟩
  · intro L v w hL hD hC hI
    refine ⟨fun _ => ?_, fun hw => by cases hw⟩
    have h0 : (v 0) = .agg (bcells (f2)) := hI.inv.val 0 (hD 0 (by decide))
    have h1 : (v 1) = .agg (pc (fb (B7).x) (fb (B7).y)) := hI.inv.val 1 (hD 1 (by decide))
    refine hI.val0 hL (by simp) rfl rfl ?_
    rw [show readsOf plan_12_22 2 = [(170, 0), (171, 1)] from rfl]
    refine give_call _ _ _ _ rfl rfl Try.func50 (by kernel_rfl) (by kernel_rfl) ?_
    refine Calls.mono (calls_eq (times_pt (f2) (B7) w) (args' := #[v 0, v 1]) (by rw [h0, h1])) ?_
    rintro e w' ⟨rfl, hx⟩
    exact ⟨_, rfl, rfl, hx⟩
  · intro L v w hL hD hC hI
    refine ⟨fun _ => ?_, fun hw => by cases hw⟩
    have h2 : (v 2) = .tuple #[.agg (pc (fb (Pt.mul (V (f2)) (B7)).x) (fb (Pt.mul (V (f2)) (B7)).y)), .nilIface] := hI.inv.val 2 (hD 2 (by decide))
    refine hI.val0 hL (by simp) rfl rfl ?_
    rw [show readsOf plan_12_22 3 = [(172, 2)] from rfl]
    exact ⟨h2, Ext.refl _⟩
  · intro L v w hL hD hC hI
    refine ⟨fun _ => ?_, fun hw => by cases hw⟩
    have h3 : (v 3) = .tuple #[.agg (pc (fb (Pt.mul (V (f2)) (B7)).x) (fb (Pt.mul (V (f2)) (B7)).y)), .nilIface] := hI.inv.val 3 (hD 3 (by decide))
    refine hI.val0 hL (by simp) rfl rfl ?_
    rw [show readsOf plan_12_22 4 = [(169, 3)] from rfl]
    exact give_ext _ _ _ rfl h3 _ rfl ⟨rfl, Ext.refl _⟩
  · intro L v w hL hD hC hI
    refine ⟨fun _ => ?_, fun hw => by cases hw⟩
    have h3 : (v 3) = .tuple #[.agg (pc (fb (Pt.mul (V (f2)) (B7)).x) (fb (Pt.mul (V (f2)) (B7)).y)), .nilIface] := hI.inv.val 3 (hD 3 (by decide))
    refine hI.val0 hL (by simp) rfl rfl ?_
    rw [show readsOf plan_12_22 5 = [(169, 3)] from rfl]
    exact give_ext _ _ _ rfl h3 _ rfl ⟨rfl, Ext.refl _⟩
  · intro L v w hL hD hC hI
    refine ⟨fun _ => ?_, fun hw => by cases hw⟩
    refine InvN.alloc_step hok hI hL ⟨some 6, 0, 43, some 7, fun cs => (Value.agg (List.toArray cs)) = .agg (pc (fun _ => 0) (fun _ => 0)), fun cs => (Value.agg (List.toArray cs)) = .agg (pc (fb (Pt.mul (V (f2)) (B7)).x) (fb (Pt.mul (V (f2)) (B7)).y))⟩ (by simp) rfl (by simp) (by intro s hs; cases hs; exact not_yet hC hL (by decide)) rfl rfl ?_
    rw [show readsOf plan_12_22 6 = [] from rfl]
    go_simp
    first | exact ⟨rfl, pcL (fun _ => 0) (fun _ => 0), rfl, rfl⟩ | exact ⟨trivial, rfl, pcL (fun _ => 0) (fun _ => 0), rfl, rfl⟩ | exact ⟨rfl, (bcells fun _ => 0).toList, by rw [Array.toArray_toList], by rw [Array.toArray_toList]⟩
  · intro L v w hL hD hC hI
    refine ⟨fun _ => ?_, fun hw => by cases hw⟩
    have h4 : (v 4) = .agg (pc (fb (Pt.mul (V (f2)) (B7)).x) (fb (Pt.mul (V (f2)) (B7)).y)) := hI.inv.val 4 (hD 4 (by decide))
    refine InvN.store_step hok hI hL ⟨some 6, 0, 43, some 7, fun cs => (Value.agg (List.toArray cs)) = .agg (pc (fun _ => 0) (fun _ => 0)), fun cs => (Value.agg (List.toArray cs)) = .agg (pc (fb (Pt.mul (V (f2)) (B7)).x) (fb (Pt.mul (V (f2)) (B7)).y))⟩ (by simp) rfl (by simp) (by intro k hk; cases hk; exact hD 6 (by decide)) rfl rfl (fun cs h => by rw [pcL_of h]; exact noI_pc _ _) ?_
    intro n cs hb hR hold
    change v 6 = .pointer (some ⟨n, 0, none⟩) at hb
    rw [show readsOf plan_12_22 7 = [(173, 4), (30, 6)] from rfl]
    exact st_P hR (by rw [pcL_of hold]; exact pcL_len _ _) _ _ rfl hb h4 fun w' cs' hr he hk => ⟨trivial, hk, cs', hr, he⟩
  · intro L v w hL hD hC hI
    refine ⟨fun _ => ?_, fun hw => by cases hw⟩
    have h5 : (v 5) = .nilIface := hI.inv.val 5 (hD 5 (by decide))
    refine hI.val0 hL (by simp) rfl rfl ?_
    rw [show readsOf plan_12_22 8 = [(174, 5)] from rfl]
    exact ⟨h5, Ext.refl _⟩
  intro L v20 W20 hL hI
  obtain ⟨v_, cs, hb_v_, lo_v_, hr, hn, ho⟩ := hI.inv.row_made ⟨some 6, 0, 43, some 7, fun cs => (Value.agg (List.toArray cs)) = .agg (pc (fun _ => 0) (fun _ => 0)), fun cs => (Value.agg (List.toArray cs)) = .agg (pc (fb (Pt.mul (V (f2)) (B7)).x) (fb (Pt.mul (V (f2)) (B7)).y))⟩ (by simp) 6 rfl (hL 6 (by decide))
  have R_v_ : RV W20 v_ 43 (fun u => u = .agg (pc (fb (Pt.mul (V (f2)) (B7)).x) (fb (Pt.mul (V (f2)) (B7)).y))) := ⟨cs, hr, hn 7 rfl (hL 7 (by decide))⟩
  clear hr hn ho
  replace R_k1 := R_k1.keep hI.inv.keep (by simp)
  replace R_k2 := R_k2.keep hI.inv.keep (by simp)
  replace R_s := R_s.keep hI.inv.keep (by simp)
  replace R_t := R_t.keep hI.inv.keep (by simp)
  replace R_u_ := R_u_.keep hI.inv.keep (by simp)
  have hx' : Ext w W20 := hx.trans hI.inv.keep.to_ext
  have hs_19_22 : (v20 8) = .nilIface := hI.inv.val 8 (hL 8 (by decide))
  clear hx hI hL hok L
  have hx := hx'
  clear hx'
  simp only [putP, Act.put, List.setIfInBounds_toArray, List.set_cons_zero, List.set_cons_succ, hb_v_, hs_19_22]
  go_upto_region 23 with fail
  have hok : TrsOk [] W20.heap.size ([⟨some 6, 0, 43, some 7, fun cs => (Value.agg (List.toArray cs)) = .agg (pc (fun _ => 0) (fun _ => 0)), fun cs => (Value.agg (List.toArray cs)) = .agg (pc (fb ((Pt.mul (V (f1)) (B7)).add (Pt.mul (V (f2)) (B7))).x) (fb ((Pt.mul (V (f1)) (B7)).add (Pt.mul (V (f2)) (B7))).y))⟩] : List Trk) := ⟨by simp, by simp, by simp, by simp⟩
  refine wp_region_text (InvN [] (fun j u => match j with | 0 => u = .agg (pc (fb (Pt.mul (V (f1)) (B7)).x) (fb (Pt.mul (V (f1)) (B7)).y)) | 1 => u = .agg (pc (fb (Pt.mul (V (f2)) (B7)).x) (fb (Pt.mul (V (f2)) (B7)).y)) | 2 => u = .tuple #[.agg (pc (fb ((Pt.mul (V (f1)) (B7)).add (Pt.mul (V (f2)) (B7))).x) (fb ((Pt.mul (V (f1)) (B7)).add (Pt.mul (V (f2)) (B7))).y)), .nilIface] | 3 => u = .tuple #[.agg (pc (fb ((Pt.mul (V (f1)) (B7)).add (Pt.mul (V (f2)) (B7))).x) (fb ((Pt.mul (V (f1)) (B7)).add (Pt.mul (V (f2)) (B7))).y)), .nilIface] | 4 => u = .agg (pc (fb ((Pt.mul (V (f1)) (B7)).add (Pt.mul (V (f2)) (B7))).x) (fb ((Pt.mul (V (f1)) (B7)).add (Pt.mul (V (f2)) (B7))).y)) | 5 => u = .nilIface | 8 => u = .nilIface | _ => True) (fun _ => none) (fun _ => none) [⟨some 6, 0, 43, some 7, fun cs => (Value.agg (List.toArray cs)) = .agg (pc (fun _ => 0) (fun _ => 0)), fun cs => (Value.agg (List.toArray cs)) = .agg (pc (fb ((Pt.mul (V (f1)) (B7)).add (Pt.mul (V (f2)) (B7))).x) (fb ((Pt.mul (V (f1)) (B7)).add (Pt.mul (V (f2)) (B7))).y))⟩] W20) plan_12_23 [(176, 0), (177, 1), (178, 2), (175, 3), (179, 4), (180, 5), (31, 6), (21, 8)] 221 rfl (by kernel_rfl) (InvN.of (Inv.start0 hok (by simp))) ⟨?_, ?_, ?_, ?_, ?_, ?_, ?_, ?_, ?_, trivial⟩ ?_
  · intro L v w hL hD hC hI
    refine ⟨fun _ => ?_, fun hw => by cases hw⟩
    refine hI.val0 hL (by simp) rfl rfl ?_
    rw [show readsOf plan_12_23 0 = [] from rfl]
    exact ld_P (R_u_.keep hI.inv.keep (by simp)) _ rfl rfl fun u hu => ⟨hu, Ext.refl _⟩
  · intro L v w hL hD hC hI
    refine ⟨fun _ => ?_, fun hw => by cases hw⟩
    refine hI.val0 hL (by simp) rfl rfl ?_
    rw [show readsOf plan_12_23 1 = [] from rfl]
    exact ld_P (R_v_.keep hI.inv.keep (by simp)) _ rfl rfl fun u hu => ⟨hu, Ext.refl _⟩
  · intro L v w hL hD hC hI
    refine ⟨fun _ => ?_, fun hw => by cases hw⟩
    have h0 : (v 0) = .agg (pc (fb (Pt.mul (V (f1)) (B7)).x) (fb (Pt.mul (V (f1)) (B7)).y)) := hI.inv.val 0 (hD 0 (by decide))
    have h1 : (v 1) = .agg (pc (fb (Pt.mul (V (f2)) (B7)).x) (fb (Pt.mul (V (f2)) (B7)).y)) := hI.inv.val 1 (hD 1 (by decide))
    refine hI.val0 hL (by simp) rfl rfl ?_
    rw [show readsOf plan_12_23 2 = [(176, 0), (177, 1)] from rfl]
    refine give_call _ _ _ _ rfl rfl Try.func44 (by kernel_rfl) (by kernel_rfl) ?_
    refine Calls.mono (calls_eq (add_pt (Pt.mul (V (f1)) (B7)) (Pt.mul (V (f2)) (B7)) w) (args' := #[v 0, v 1]) (by rw [h0, h1])) ?_
    rintro e w' ⟨rfl, hx⟩
    exact ⟨_, rfl, rfl, hx⟩
  · intro L v w hL hD hC hI
    refine ⟨fun _ => ?_, fun hw => by cases hw⟩
    have h2 : (v 2) = .tuple #[.agg (pc (fb ((Pt.mul (V (f1)) (B7)).add (Pt.mul (V (f2)) (B7))).x) (fb ((Pt.mul (V (f1)) (B7)).add (Pt.mul (V (f2)) (B7))).y)), .nilIface] := hI.inv.val 2 (hD 2 (by decide))
    refine hI.val0 hL (by simp) rfl rfl ?_
    rw [show readsOf plan_12_23 3 = [(178, 2)] from rfl]
    exact ⟨h2, Ext.refl _⟩
  · intro L v w hL hD hC hI
    refine ⟨fun _ => ?_, fun hw => by cases hw⟩
    have h3 : (v 3) = .tuple #[.agg (pc (fb ((Pt.mul (V (f1)) (B7)).add (Pt.mul (V (f2)) (B7))).x) (fb ((Pt.mul (V (f1)) (B7)).add (Pt.mul (V (f2)) (B7))).y)), .nilIface] := hI.inv.val 3 (hD 3 (by decide))
    refine hI.val0 hL (by simp) rfl rfl ?_
    rw [show readsOf plan_12_23 4 = [(175, 3)] from rfl]
    exact give_ext _ _ _ rfl h3 _ rfl ⟨rfl, Ext.refl _⟩
  · intro L v w hL hD hC hI
    refine ⟨fun _ => ?_, fun hw => by cases hw⟩
    have h3 : (v 3) = .tuple #[.agg (pc (fb ((Pt.mul (V (f1)) (B7)).add (Pt.mul (V (f2)) (B7))).x) (fb ((Pt.mul (V (f1)) (B7)).add (Pt.mul (V (f2)) (B7))).y)), .nilIface] := hI.inv.val 3 (hD 3 (by decide))
    refine hI.val0 hL (by simp) rfl rfl ?_
    rw [show readsOf plan_12_23 5 = [(175, 3)] from rfl]
    exact give_ext _ _ _ rfl h3 _ rfl ⟨rfl, Ext.refl _⟩
  · intro L v w hL hD hC hI
    refine ⟨fun _ => ?_, fun hw => by cases hw⟩
    refine InvN.alloc_step hok hI hL ⟨some 6, 0, 43, some 7, fun cs => (Value.agg (List.toArray cs)) = .agg (pc (fun _ => 0) (fun _ => 0)), fun cs => (Value.agg (List.toArray cs)) = .agg (pc (fb ((Pt.mul (V (f1)) (B7)).add (Pt.mul (V (f2)) (B7))).x) (fb ((Pt.mul (V (f1)) (B7)).add (Pt.mul (V (f2)) (B7))).y))⟩ (by simp) rfl (by simp) (by intro s hs; cases hs; exact not_yet hC hL (by decide)) rfl rfl ?_
    rw [show readsOf plan_12_23 6 = [] from rfl]
    go_simp
    first | exact ⟨rfl, pcL (fun _ => 0) (fun _ => 0), rfl, rfl⟩ | exact ⟨trivial, rfl, pcL (fun _ => 0) (fun _ => 0), rfl, rfl⟩ | exact ⟨rfl, (bcells fun _ => 0).toList, by rw [Array.toArray_toList], by rw [Array.toArray_toList]⟩
  · intro L v w hL hD hC hI
    refine ⟨fun _ => ?_, fun hw => by cases hw⟩
    have h4 : (v 4) = .agg (pc (fb ((Pt.mul (V (f1)) (B7)).add (Pt.mul (V (f2)) (B7))).x) (fb ((Pt.mul (V (f1)) (B7)).add (Pt.mul (V (f2)) (B7))).y)) := hI.inv.val 4 (hD 4 (by decide))
    refine InvN.store_step hok hI hL ⟨some 6, 0, 43, some 7, fun cs => (Value.agg (List.toArray cs)) = .agg (pc (fun _ => 0) (fun _ => 0)), fun cs => (Value.agg (List.toArray cs)) = .agg (pc (fb ((Pt.mul (V (f1)) (B7)).add (Pt.mul (V (f2)) (B7))).x) (fb ((Pt.mul (V (f1)) (B7)).add (Pt.mul (V (f2)) (B7))).y))⟩ (by simp) rfl (by simp) (by intro k hk; cases hk; exact hD 6 (by decide)) rfl rfl (fun cs h => by rw [pcL_of h]; exact noI_pc _ _) ?_
    intro n cs hb hR hold
    change v 6 = .pointer (some ⟨n, 0, none⟩) at hb
    rw [show readsOf plan_12_23 7 = [(179, 4), (31, 6)] from rfl]
    exact st_P hR (by rw [pcL_of hold]; exact pcL_len _ _) _ _ rfl hb h4 fun w' cs' hr he hk => ⟨trivial, hk, cs', hr, he⟩
  · intro L v w hL hD hC hI
    refine ⟨fun _ => ?_, fun hw => by cases hw⟩
    have h5 : (v 5) = .nilIface := hI.inv.val 5 (hD 5 (by decide))
    refine hI.val0 hL (by simp) rfl rfl ?_
    rw [show readsOf plan_12_23 8 = [(180, 5)] from rfl]
    exact ⟨h5, Ext.refl _⟩
  intro L v21 W21 hL hI
  obtain ⟨w_, cs, hb_w_, lo_w_, hr, hn, ho⟩ := hI.inv.row_made ⟨some 6, 0, 43, some 7, fun cs => (Value.agg (List.toArray cs)) = .agg (pc (fun _ => 0) (fun _ => 0)), fun cs => (Value.agg (List.toArray cs)) = .agg (pc (fb ((Pt.mul (V (f1)) (B7)).add (Pt.mul (V (f2)) (B7))).x) (fb ((Pt.mul (V (f1)) (B7)).add (Pt.mul (V (f2)) (B7))).y))⟩ (by simp) 6 rfl (hL 6 (by decide))
  have R_w_ : RV W21 w_ 43 (fun u => u = .agg (pc (fb ((Pt.mul (V (f1)) (B7)).add (Pt.mul (V (f2)) (B7))).x) (fb ((Pt.mul (V (f1)) (B7)).add (Pt.mul (V (f2)) (B7))).y))) := ⟨cs, hr, hn 7 rfl (hL 7 (by decide))⟩
  clear hr hn ho
  replace R_k1 := R_k1.keep hI.inv.keep (by simp)
  replace R_k2 := R_k2.keep hI.inv.keep (by simp)
  replace R_s := R_s.keep hI.inv.keep (by simp)
  replace R_t := R_t.keep hI.inv.keep (by simp)
  replace R_u_ := R_u_.keep hI.inv.keep (by simp)
  replace R_v_ := R_v_.keep hI.inv.keep (by simp)
  have hx' : Ext w W21 := hx.trans hI.inv.keep.to_ext
  have hs_21_23 : (v21 8) = .nilIface := hI.inv.val 8 (hL 8 (by decide))
  clear hx hI hL hok L
  have hx := hx'
  clear hx'
  simp only [putP, Act.put, List.setIfInBounds_toArray, List.set_cons_zero, List.set_cons_succ, hb_w_, hs_21_23]
  go_upto_region 24 with fail
  have hok : TrsOk [] W21.heap.size ([⟨some 2, 0, 22, some 3, fun cs => (Value.agg (List.toArray cs)) = .agg (bcells (fun _ => 0)), fun cs => (Value.agg (List.toArray cs)) = .agg (bcells (fb (tf ordN)))⟩] : List Trk) := ⟨by simp, by simp, by simp, by simp⟩
  refine wp_region_text (InvN [] (fun j u => match j with | 1 => u = .agg (bcells (fb (tf ordN))) | _ => True) (fun j => match j with | 0 => some (tf ordN) | _ => none) (fun _ => none) [⟨some 2, 0, 22, some 3, fun cs => (Value.agg (List.toArray cs)) = .agg (bcells (fun _ => 0)), fun cs => (Value.agg (List.toArray cs)) = .agg (bcells (fb (tf ordN)))⟩] W21) plan_12_24 [(181, 0), (182, 1), (32, 2)] 221 rfl (by kernel_rfl) (InvN.of (Inv.start0 hok (by simp))) ⟨?_, ?_, ?_, ?_, trivial⟩ ?_
  · intro L v w hL hD hC hI
    refine ⟨fun _ => ?_, fun hw => by cases hw⟩
    refine hI.numv _ hL (by simp) rfl rfl (fun _ => trivial) ?_
    rw [show readsOf plan_12_24 0 = [] from rfl]
    refine give_call _ _ _ _ rfl rfl Try.func38 (by kernel_rfl) (by kernel_rfl) ?_
    refine Calls.mono (norder w) ?_
    rintro e w' ⟨r, rfl, hr, hx⟩
    exact ⟨r, rfl, hr, hx⟩
  · intro L v w hL hD hC hI
    refine ⟨fun _ => ?_, fun hw => by cases hw⟩
    have h0 : NF w (v 0) (tf ordN) := hI.num.n 0 _ (hD 0 (by decide)) rfl
    refine hI.val0 hL (by simp) rfl rfl ?_
    rw [show readsOf plan_12_24 1 = [(181, 0)] from rfl]
    refine give_call _ _ _ _ rfl rfl Try.func17 (by kernel_rfl) (by kernel_rfl) ?_
    refine Calls.mono (nbytes h0) ?_
    rintro e w' ⟨rfl, hx⟩
    exact ⟨_, rfl, rfl, hx⟩
  · intro L v w hL hD hC hI
    refine ⟨fun _ => ?_, fun hw => by cases hw⟩
    refine InvN.alloc_step hok hI hL ⟨some 2, 0, 22, some 3, fun cs => (Value.agg (List.toArray cs)) = .agg (bcells (fun _ => 0)), fun cs => (Value.agg (List.toArray cs)) = .agg (bcells (fb (tf ordN)))⟩ (by simp) rfl (by simp) (by intro s hs; cases hs; exact not_yet hC hL (by decide)) rfl rfl ?_
    rw [show readsOf plan_12_24 2 = [] from rfl]
    go_simp
    first | exact ⟨rfl, pcL (fun _ => 0) (fun _ => 0), rfl, rfl⟩ | exact ⟨trivial, rfl, pcL (fun _ => 0) (fun _ => 0), rfl, rfl⟩ | exact ⟨rfl, (bcells fun _ => 0).toList, by rw [Array.toArray_toList], by rw [Array.toArray_toList]⟩
  · intro L v w hL hD hC hI
    refine ⟨fun _ => ?_, fun hw => by cases hw⟩
    have h1 : (v 1) = .agg (bcells (fb (tf ordN))) := hI.inv.val 1 (hD 1 (by decide))
    refine InvN.store_step hok hI hL ⟨some 2, 0, 22, some 3, fun cs => (Value.agg (List.toArray cs)) = .agg (bcells (fun _ => 0)), fun cs => (Value.agg (List.toArray cs)) = .agg (bcells (fb (tf ordN)))⟩ (by simp) rfl (by simp) (by intro k hk; cases hk; exact hD 2 (by decide)) rfl rfl (fun cs h => by rw [bL_of h]; exact noI_b _) ?_
    intro n cs hb hR hold
    change v 2 = .pointer (some ⟨n, 0, none⟩) at hb
    rw [show readsOf plan_12_24 3 = [(182, 1), (32, 2)] from rfl]
    exact st_B hR (by rw [bL_of hold]; simp) _ _ rfl hb h1 fun w' cs' hr he hk => ⟨trivial, hk, cs', hr, he⟩
  intro L v22 W22 hL hI
  obtain ⟨order, cs, hb_order, lo_order, hr, hn, ho⟩ := hI.inv.row_made ⟨some 2, 0, 22, some 3, fun cs => (Value.agg (List.toArray cs)) = .agg (bcells (fun _ => 0)), fun cs => (Value.agg (List.toArray cs)) = .agg (bcells (fb (tf ordN)))⟩ (by simp) 2 rfl (hL 2 (by decide))
  have R_order : RV W22 order 22 (fun u => u = .agg (bcells (fb (tf ordN)))) := ⟨cs, hr, hn 3 rfl (hL 3 (by decide))⟩
  clear hr hn ho
  replace R_k1 := R_k1.keep hI.inv.keep (by simp)
  replace R_k2 := R_k2.keep hI.inv.keep (by simp)
  replace R_s := R_s.keep hI.inv.keep (by simp)
  replace R_t := R_t.keep hI.inv.keep (by simp)
  replace R_u_ := R_u_.keep hI.inv.keep (by simp)
  replace R_v_ := R_v_.keep hI.inv.keep (by simp)
  replace R_w_ := R_w_.keep hI.inv.keep (by simp)
  have hx' : Ext w W22 := hx.trans hI.inv.keep.to_ext
  clear hx hI hL hok L
  have hx := hx'
  clear hx'
  simp only [putP, Act.put, List.setIfInBounds_toArray, List.set_cons_zero, List.set_cons_succ, hb_order]
  go_upto_region 25 with fail
  have hok : TrsOk [] W22.heap.size ([⟨some 6, 0, 43, some 7, fun cs => (Value.agg (List.toArray cs)) = .agg (pc (fun _ => 0) (fun _ => 0)), fun cs => (Value.agg (List.toArray cs)) = .agg (pc (fun _ => 0) (nb 1))⟩] : List Trk) := ⟨by simp, by simp, by simp, by simp⟩
  refine wp_region_plan (InvN [] (fun j u => match j with | 0 => u = .agg (bcells (fb (tf ordN))) | 1 => u = .agg (pc (fb (B7).x) (fb (B7).y)) | 2 => u = .tuple #[.agg (pc (fun _ => 0) (nb 1)), .nilIface] | 3 => u = .tuple #[.agg (pc (fun _ => 0) (nb 1)), .nilIface] | 4 => u = .agg (pc (fun _ => 0) (nb 1)) | 5 => u = .nilIface | 8 => u = .nilIface | _ => True) (fun _ => none) (fun _ => none) [⟨some 6, 0, 43, some 7, fun cs => (Value.agg (List.toArray cs)) = .agg (pc (fun _ => 0) (fun _ => 0)), fun cs => (Value.agg (List.toArray cs)) = .agg (pc (fun _ => 0) (nb 1))⟩] W22) plan_12_25 [(184, 0), (185, 1), (186, 2), (183, 3), (187, 4), (188, 5), (33, 6), (23, 8)] 221 (by kernel_rfl) rfl (by kernel_rfl) (InvN.of (Inv.start hok (by simp))) ⟨?_, ?_, ?_, ?_, ?_, ?_, ?_, ?_, ?_, trivial⟩ ?_
  · intro L v w hL hD hC hI
    refine ⟨fun _ => ?_, fun hw => by cases hw⟩
    refine hI.val0 hL (by simp) rfl rfl ?_
    rw [show readsOf plan_12_25 0 = [] from rfl]
    exact ld_B (R_order.keep hI.inv.keep (by simp)) _ rfl rfl fun u hu => ⟨hu, Ext.refl _⟩
  · intro L v w hL hD hC hI
    refine ⟨fun _ => ?_, fun hw => by cases hw⟩
    refine hI.val0 hL (by simp) rfl rfl ?_
    rw [show readsOf plan_12_25 1 = [] from rfl]
    refine give_call _ _ _ _ rfl rfl Try.func30 (by kernel_rfl) (by kernel_rfl) ?_
    refine Calls.mono (base_any w) ?_
    rintro e w' ⟨rfl, hx⟩
    exact ⟨_, rfl, rfl, hx⟩
  · intro L v w hL hD hC hI
    refine ⟨fun _ => ?_, fun hw => by cases hw⟩
    have h0 : (v 0) = .agg (bcells (fb (tf ordN))) := hI.inv.val 0 (hD 0 (by decide))
    have h1 : (v 1) = .agg (pc (fb (B7).x) (fb (B7).y)) := hI.inv.val 1 (hD 1 (by decide))
    refine hI.val0 hL (by simp) rfl rfl ?_
    rw [show readsOf plan_12_25 2 = [(184, 0), (185, 1)] from rfl]
    refine give_call _ _ _ _ rfl rfl Try.func50 (by kernel_rfl) (by kernel_rfl) ?_
    refine Calls.mono (calls_eq (times_ord w) (args' := #[v 0, v 1]) (by rw [h0, h1])) ?_
    rintro e w' ⟨rfl, hx⟩
    exact ⟨_, rfl, rfl, hx⟩
  · intro L v w hL hD hC hI
    refine ⟨fun _ => ?_, fun hw => by cases hw⟩
    have h2 : (v 2) = .tuple #[.agg (pc (fun _ => 0) (nb 1)), .nilIface] := hI.inv.val 2 (hD 2 (by decide))
    refine hI.val0 hL (by simp) rfl rfl ?_
    rw [show readsOf plan_12_25 3 = [(186, 2)] from rfl]
    exact ⟨h2, Ext.refl _⟩
  · intro L v w hL hD hC hI
    refine ⟨fun _ => ?_, fun hw => by cases hw⟩
    have h3 : (v 3) = .tuple #[.agg (pc (fun _ => 0) (nb 1)), .nilIface] := hI.inv.val 3 (hD 3 (by decide))
    refine hI.val0 hL (by simp) rfl rfl ?_
    rw [show readsOf plan_12_25 4 = [(183, 3)] from rfl]
    exact give_ext _ _ _ rfl h3 _ rfl ⟨rfl, Ext.refl _⟩
  · intro L v w hL hD hC hI
    refine ⟨fun _ => ?_, fun hw => by cases hw⟩
    have h3 : (v 3) = .tuple #[.agg (pc (fun _ => 0) (nb 1)), .nilIface] := hI.inv.val 3 (hD 3 (by decide))
    refine hI.val0 hL (by simp) rfl rfl ?_
    rw [show readsOf plan_12_25 5 = [(183, 3)] from rfl]
    exact give_ext _ _ _ rfl h3 _ rfl ⟨rfl, Ext.refl _⟩
  · intro L v w hL hD hC hI
    refine ⟨fun _ => ?_, fun hw => by cases hw⟩
    refine InvN.alloc_step hok hI hL ⟨some 6, 0, 43, some 7, fun cs => (Value.agg (List.toArray cs)) = .agg (pc (fun _ => 0) (fun _ => 0)), fun cs => (Value.agg (List.toArray cs)) = .agg (pc (fun _ => 0) (nb 1))⟩ (by simp) rfl (by simp) (by intro s hs; cases hs; exact not_yet hC hL (by decide)) rfl rfl ?_
    rw [show readsOf plan_12_25 6 = [] from rfl]
    go_simp
    first | exact ⟨rfl, pcL (fun _ => 0) (fun _ => 0), rfl, rfl⟩ | exact ⟨trivial, rfl, pcL (fun _ => 0) (fun _ => 0), rfl, rfl⟩ | exact ⟨rfl, (bcells fun _ => 0).toList, by rw [Array.toArray_toList], by rw [Array.toArray_toList]⟩
  · intro L v w hL hD hC hI
    refine ⟨fun _ => ?_, fun hw => by cases hw⟩
    have h4 : (v 4) = .agg (pc (fun _ => 0) (nb 1)) := hI.inv.val 4 (hD 4 (by decide))
    refine InvN.store_step hok hI hL ⟨some 6, 0, 43, some 7, fun cs => (Value.agg (List.toArray cs)) = .agg (pc (fun _ => 0) (fun _ => 0)), fun cs => (Value.agg (List.toArray cs)) = .agg (pc (fun _ => 0) (nb 1))⟩ (by simp) rfl (by simp) (by intro k hk; cases hk; exact hD 6 (by decide)) rfl rfl (fun cs h => by rw [pcL_of h]; exact noI_pc _ _) ?_
    intro n cs hb hR hold
    change v 6 = .pointer (some ⟨n, 0, none⟩) at hb
    rw [show readsOf plan_12_25 7 = [(187, 4), (33, 6)] from rfl]
    exact st_P hR (by rw [pcL_of hold]; exact pcL_len _ _) _ _ rfl hb h4 fun w' cs' hr he hk => ⟨trivial, hk, cs', hr, he⟩
  · intro L v w hL hD hC hI
    refine ⟨fun _ => ?_, fun hw => by cases hw⟩
    have h5 : (v 5) = .nilIface := hI.inv.val 5 (hD 5 (by decide))
    refine hI.val0 hL (by simp) rfl rfl ?_
    rw [show readsOf plan_12_25 8 = [(188, 5)] from rfl]
    exact ⟨h5, Ext.refl _⟩
  intro L v23 W23 hL hI
  obtain ⟨z, cs, hb_z, lo_z, hr, hn, ho⟩ := hI.inv.row_made ⟨some 6, 0, 43, some 7, fun cs => (Value.agg (List.toArray cs)) = .agg (pc (fun _ => 0) (fun _ => 0)), fun cs => (Value.agg (List.toArray cs)) = .agg (pc (fun _ => 0) (nb 1))⟩ (by simp) 6 rfl (hL 6 (by decide))
  have R_z : RV W23 z 43 (fun u => u = .agg (pc (fun _ => 0) (nb 1))) := ⟨cs, hr, hn 7 rfl (hL 7 (by decide))⟩
  clear hr hn ho
  replace R_k1 := R_k1.keep hI.inv.keep (by simp)
  replace R_k2 := R_k2.keep hI.inv.keep (by simp)
  replace R_s := R_s.keep hI.inv.keep (by simp)
  replace R_t := R_t.keep hI.inv.keep (by simp)
  replace R_u_ := R_u_.keep hI.inv.keep (by simp)
  replace R_v_ := R_v_.keep hI.inv.keep (by simp)
  replace R_w_ := R_w_.keep hI.inv.keep (by simp)
  replace R_order := R_order.keep hI.inv.keep (by simp)
  have hx' : Ext w W23 := hx.trans hI.inv.keep.to_ext
  have hs_23_25 : (v23 8) = .nilIface := hI.inv.val 8 (hL 8 (by decide))
  clear hx hI hL hok L
  have hx := hx'
  clear hx'
  simp only [putP, Act.put, List.setIfInBounds_toArray, List.set_cons_zero, List.set_cons_succ, hb_z, hs_23_25]
  go_upto_region 26 with fail
  have hok : TrsOk [] W23.heap.size ([] : List Trk) := ⟨by simp, by simp, by simp, by simp⟩
  refine wp_region_plan (InvN [] (fun j u => match j with | 0 => u = .bool (true) | 1 => u = .bool (true) | 2 => u = .nilIface | 3 => u = .bool (true) | 4 => u = .bool (true) | 5 => u = .bool (true) | 6 => u = .nilIface | 7 => u = .bool (true) | 8 => u = .bool (true) | 9 => u = .bool (true) | 10 => u = .nilIface | 11 => u = .bool (true) | 12 => u = .bool (true) | 13 => u = .bool (true) | 14 => u = .nilIface | 15 => u = .bool (true) | 16 => u = .bool (true) | 17 => u = .bool (true) | 18 => u = .nilIface | 19 => u = .bool (true) | 20 => u = .bool (true) | 21 => u = .bool (true) | 22 => u = .agg (pc (fb ((Pt.mul (V (f1)) (B7)).add (Pt.mul (V (f2)) (B7))).x) (fb ((Pt.mul (V (f1)) (B7)).add (Pt.mul (V (f2)) (B7))).y)) | 23 => u = .agg (pc (fb ((Pt.mul (V (f1)) (B7)).add (Pt.mul (V (f2)) (B7))).x) (fb ((Pt.mul (V (f1)) (B7)).add (Pt.mul (V (f2)) (B7))).y)) | 24 => u = .bool (true) | 25 => u = .bool (true) | 26 => u = .bool (true) | 27 => u = .agg (pc (fun _ => 0) (nb 1)) | 28 => u = .agg (bcells (nb 1)) | 29 => u = .agg (pc (fun _ => 0) (nb 1)) | 30 => u = .bool (true) | 31 => u = .bool (true) | 32 => u = .bool (true) | _ => True) (fun _ => none) (fun _ => none) [] W23) plan_12_26 [(189, 0), (190, 1), (191, 2), (192, 3), (193, 4), (194, 5), (195, 6), (196, 7), (197, 8), (198, 9), (199, 10), (200, 11), (201, 12), (202, 13), (203, 14), (204, 15), (205, 16), (206, 17), (207, 18), (208, 19), (209, 20), (210, 21), (211, 22), (212, 23), (213, 24), (214, 25), (215, 26), (216, 27), (217, 28), (218, 29), (219, 30), (220, 31), (6, 32)] 221 (by kernel_rfl) rfl (by kernel_rfl) (InvN.of (Inv.start hok (by simp))) ⟨?_, ?_, ?_, ?_, ?_, ?_, ?_, ?_, ?_, ?_, ?_, ?_, ?_, ?_, ?_, ?_, ?_, ?_, ?_, ?_, ?_, ?_, ?_, ?_, ?_, ?_, ?_, ?_, ?_, ?_, ?_, ?_, ?_, trivial⟩ ?_
  · intro L v w hL hD hC hI
    refine ⟨fun _ => ?_, fun hw => by cases hw⟩
    refine hI.val0 hL (by simp) rfl rfl ?_
    rw [show readsOf plan_12_26 0 = [] from rfl]
    first | exact ⟨rfl, Ext.refl _⟩ | (go_simp; exact ⟨rfl, Ext.refl _⟩)
  · intro L v w hL hD hC hI
    refine ⟨fun _ => ?_, fun hw => by cases hw⟩
    have h0 : (v 0) = .bool (true) := hI.inv.val 0 (hD 0 (by decide))
    refine hI.val0 hL (by simp) rfl rfl ?_
    rw [show readsOf plan_12_26 1 = [(189, 0)] from rfl]
    exact ⟨h0, Ext.refl _⟩
  · intro L v w hL hD hC hI
    have hg : v 1 = .bool true := hI.inv.val 1 (hD 1 (by decide))
    refine ⟨fun _ => ?_, fun hw => by simp [wantedV, hg] at hw⟩
    have h1 : (v 1) = .bool (true) := hI.inv.val 1 (hD 1 (by decide))
    refine hI.val0 hL (by simp) rfl rfl ?_
    rw [show readsOf plan_12_26 2 = [(190, 1)] from rfl]
    first | exact ⟨rfl, Ext.refl _⟩ | (go_simp; exact ⟨rfl, Ext.refl _⟩)
  · intro L v w hL hD hC hI
    have hg : v 1 = .bool true := hI.inv.val 1 (hD 1 (by decide))
    refine ⟨fun _ => ?_, fun hw => by simp [wantedV, hg] at hw⟩
    have h1 : (v 1) = .bool (true) := hI.inv.val 1 (hD 1 (by decide))
    have h2 : (v 2) = .nilIface := hI.inv.val 2 (hD 2 (by decide))
    refine hI.val0 hL (by simp) rfl rfl ?_
    rw [show readsOf plan_12_26 3 = [(190, 1), (191, 2)] from rfl]
    exact give_nil_eq _ _ rfl h2 rfl ⟨rfl, Ext.refl _⟩
  · intro L v w hL hD hC hI
    refine ⟨fun _ => ?_, fun hw => by cases hw⟩
    have h1 : (v 1) = .bool (true) := hI.inv.val 1 (hD 1 (by decide))
    have h3 : (v 3) = .bool (true) := hI.inv.val 3 (hD 3 (by decide))
    refine hI.val0 hL (by simp) rfl rfl ?_
    rw [show readsOf plan_12_26 4 = [(190, 1), (192, 3)] from rfl]
    exact give_pick_t _ _ _ rfl h1 ⟨h3, Ext.refl _⟩
  · intro L v w hL hD hC hI
    refine ⟨fun _ => ?_, fun hw => by cases hw⟩
    have h4 : (v 4) = .bool (true) := hI.inv.val 4 (hD 4 (by decide))
    refine hI.val0 hL (by simp) rfl rfl ?_
    rw [show readsOf plan_12_26 5 = [(193, 4)] from rfl]
    exact ⟨h4, Ext.refl _⟩
  · intro L v w hL hD hC hI
    have hg : v 5 = .bool true := hI.inv.val 5 (hD 5 (by decide))
    refine ⟨fun _ => ?_, fun hw => by simp [wantedV, hg] at hw⟩
    have h5 : (v 5) = .bool (true) := hI.inv.val 5 (hD 5 (by decide))
    refine hI.val0 hL (by simp) rfl rfl ?_
    rw [show readsOf plan_12_26 6 = [(194, 5)] from rfl]
    first | exact ⟨rfl, Ext.refl _⟩ | (go_simp; exact ⟨rfl, Ext.refl _⟩)
  · intro L v w hL hD hC hI
    have hg : v 5 = .bool true := hI.inv.val 5 (hD 5 (by decide))
    refine ⟨fun _ => ?_, fun hw => by simp [wantedV, hg] at hw⟩
    have h5 : (v 5) = .bool (true) := hI.inv.val 5 (hD 5 (by decide))
    have h6 : (v 6) = .nilIface := hI.inv.val 6 (hD 6 (by decide))
    refine hI.val0 hL (by simp) rfl rfl ?_
    rw [show readsOf plan_12_26 7 = [(194, 5), (195, 6)] from rfl]
    exact give_nil_eq _ _ rfl h6 rfl ⟨rfl, Ext.refl _⟩
  · intro L v w hL hD hC hI
    refine ⟨fun _ => ?_, fun hw => by cases hw⟩
    have h5 : (v 5) = .bool (true) := hI.inv.val 5 (hD 5 (by decide))
    have h7 : (v 7) = .bool (true) := hI.inv.val 7 (hD 7 (by decide))
    refine hI.val0 hL (by simp) rfl rfl ?_
    rw [show readsOf plan_12_26 8 = [(194, 5), (196, 7)] from rfl]
    exact give_pick_t _ _ _ rfl h5 ⟨h7, Ext.refl _⟩
  · intro L v w hL hD hC hI
    refine ⟨fun _ => ?_, fun hw => by cases hw⟩
    have h8 : (v 8) = .bool (true) := hI.inv.val 8 (hD 8 (by decide))
    refine hI.val0 hL (by simp) rfl rfl ?_
    rw [show readsOf plan_12_26 9 = [(197, 8)] from rfl]
    exact ⟨h8, Ext.refl _⟩
  · intro L v w hL hD hC hI
    have hg : v 9 = .bool true := hI.inv.val 9 (hD 9 (by decide))
    refine ⟨fun _ => ?_, fun hw => by simp [wantedV, hg] at hw⟩
    have h9 : (v 9) = .bool (true) := hI.inv.val 9 (hD 9 (by decide))
    refine hI.val0 hL (by simp) rfl rfl ?_
    rw [show readsOf plan_12_26 10 = [(198, 9)] from rfl]
    first | exact ⟨rfl, Ext.refl _⟩ | (go_simp; exact ⟨rfl, Ext.refl _⟩)
  · intro L v w hL hD hC hI
    have hg : v 9 = .bool true := hI.inv.val 9 (hD 9 (by decide))
    refine ⟨fun _ => ?_, fun hw => by simp [wantedV, hg] at hw⟩
    have h9 : (v 9) = .bool (true) := hI.inv.val 9 (hD 9 (by decide))
    have h10 : (v 10) = .nilIface := hI.inv.val 10 (hD 10 (by decide))
    refine hI.val0 hL (by simp) rfl rfl ?_
    rw [show readsOf plan_12_26 11 = [(198, 9), (199, 10)] from rfl]
    exact give_nil_eq _ _ rfl h10 rfl ⟨rfl, Ext.refl _⟩
  · intro L v w hL hD hC hI
    refine ⟨fun _ => ?_, fun hw => by cases hw⟩
    have h9 : (v 9) = .bool (true) := hI.inv.val 9 (hD 9 (by decide))
    have h11 : (v 11) = .bool (true) := hI.inv.val 11 (hD 11 (by decide))
    refine hI.val0 hL (by simp) rfl rfl ?_
    rw [show readsOf plan_12_26 12 = [(198, 9), (200, 11)] from rfl]
    exact give_pick_t _ _ _ rfl h9 ⟨h11, Ext.refl _⟩
  · intro L v w hL hD hC hI
    refine ⟨fun _ => ?_, fun hw => by cases hw⟩
    have h12 : (v 12) = .bool (true) := hI.inv.val 12 (hD 12 (by decide))
    refine hI.val0 hL (by simp) rfl rfl ?_
    rw [show readsOf plan_12_26 13 = [(201, 12)] from rfl]
    exact ⟨h12, Ext.refl _⟩
  · intro L v w hL hD hC hI
    have hg : v 13 = .bool true := hI.inv.val 13 (hD 13 (by decide))
    refine ⟨fun _ => ?_, fun hw => by simp [wantedV, hg] at hw⟩
    have h13 : (v 13) = .bool (true) := hI.inv.val 13 (hD 13 (by decide))
    refine hI.val0 hL (by simp) rfl rfl ?_
    rw [show readsOf plan_12_26 14 = [(202, 13)] from rfl]
    first | exact ⟨rfl, Ext.refl _⟩ | (go_simp; exact ⟨rfl, Ext.refl _⟩)
  · intro L v w hL hD hC hI
    have hg : v 13 = .bool true := hI.inv.val 13 (hD 13 (by decide))
    refine ⟨fun _ => ?_, fun hw => by simp [wantedV, hg] at hw⟩
    have h13 : (v 13) = .bool (true) := hI.inv.val 13 (hD 13 (by decide))
    have h14 : (v 14) = .nilIface := hI.inv.val 14 (hD 14 (by decide))
    refine hI.val0 hL (by simp) rfl rfl ?_
    rw [show readsOf plan_12_26 15 = [(202, 13), (203, 14)] from rfl]
    exact give_nil_eq _ _ rfl h14 rfl ⟨rfl, Ext.refl _⟩
  · intro L v w hL hD hC hI
    refine ⟨fun _ => ?_, fun hw => by cases hw⟩
    have h13 : (v 13) = .bool (true) := hI.inv.val 13 (hD 13 (by decide))
    have h15 : (v 15) = .bool (true) := hI.inv.val 15 (hD 15 (by decide))
    refine hI.val0 hL (by simp) rfl rfl ?_
    rw [show readsOf plan_12_26 16 = [(202, 13), (204, 15)] from rfl]
    exact give_pick_t _ _ _ rfl h13 ⟨h15, Ext.refl _⟩
  · intro L v w hL hD hC hI
    refine ⟨fun _ => ?_, fun hw => by cases hw⟩
    have h16 : (v 16) = .bool (true) := hI.inv.val 16 (hD 16 (by decide))
    refine hI.val0 hL (by simp) rfl rfl ?_
    rw [show readsOf plan_12_26 17 = [(205, 16)] from rfl]
    exact ⟨h16, Ext.refl _⟩
  · intro L v w hL hD hC hI
    have hg : v 17 = .bool true := hI.inv.val 17 (hD 17 (by decide))
    refine ⟨fun _ => ?_, fun hw => by simp [wantedV, hg] at hw⟩
    have h17 : (v 17) = .bool (true) := hI.inv.val 17 (hD 17 (by decide))
    refine hI.val0 hL (by simp) rfl rfl ?_
    rw [show readsOf plan_12_26 18 = [(206, 17)] from rfl]
    first | exact ⟨rfl, Ext.refl _⟩ | (go_simp; exact ⟨rfl, Ext.refl _⟩)
  · intro L v w hL hD hC hI
    have hg : v 17 = .bool true := hI.inv.val 17 (hD 17 (by decide))
    refine ⟨fun _ => ?_, fun hw => by simp [wantedV, hg] at hw⟩
    have h17 : (v 17) = .bool (true) := hI.inv.val 17 (hD 17 (by decide))
    have h18 : (v 18) = .nilIface := hI.inv.val 18 (hD 18 (by decide))
    refine hI.val0 hL (by simp) rfl rfl ?_
    rw [show readsOf plan_12_26 19 = [(206, 17), (207, 18)] from rfl]
    exact give_nil_eq _ _ rfl h18 rfl ⟨rfl, Ext.refl _⟩
  · intro L v w hL hD hC hI
    refine ⟨fun _ => ?_, fun hw => by cases hw⟩
    have h17 : (v 17) = .bool (true) := hI.inv.val 17 (hD 17 (by decide))
    have h19 : (v 19) = .bool (true) := hI.inv.val 19 (hD 19 (by decide))
    refine hI.val0 hL (by simp) rfl rfl ?_
    rw [show readsOf plan_12_26 20 = [(206, 17), (208, 19)] from rfl]
    exact give_pick_t _ _ _ rfl h17 ⟨h19, Ext.refl _⟩
  · intro L v w hL hD hC hI
    refine ⟨fun _ => ?_, fun hw => by cases hw⟩
    have h20 : (v 20) = .bool (true) := hI.inv.val 20 (hD 20 (by decide))
    refine hI.val0 hL (by simp) rfl rfl ?_
    rw [show readsOf plan_12_26 21 = [(209, 20)] from rfl]
    exact ⟨h20, Ext.refl _⟩
  · intro L v w hL hD hC hI
    have hg : v 21 = .bool true := hI.inv.val 21 (hD 21 (by decide))
    refine ⟨fun _ => ?_, fun hw => by simp [wantedV, hg] at hw⟩
    have h21 : (v 21) = .bool (true) := hI.inv.val 21 (hD 21 (by decide))
    refine hI.val0 hL (by simp) rfl rfl ?_
    rw [show readsOf plan_12_26 22 = [(210, 21)] from rfl]
    exact ld_P (R_t.keep hI.inv.keep (by simp)) _ rfl rfl fun u hu => ⟨hu, Ext.refl _⟩
  · intro L v w hL hD hC hI
    have hg : v 21 = .bool true := hI.inv.val 21 (hD 21 (by decide))
    refine ⟨fun _ => ?_, fun hw => by simp [wantedV, hg] at hw⟩
    have h21 : (v 21) = .bool (true) := hI.inv.val 21 (hD 21 (by decide))
    refine hI.val0 hL (by simp) rfl rfl ?_
    rw [show readsOf plan_12_26 23 = [(210, 21)] from rfl]
    exact ld_P (R_w_.keep hI.inv.keep (by simp)) _ rfl rfl fun u hu => ⟨hu, Ext.refl _⟩
  · intro L v w hL hD hC hI
    have hg : v 21 = .bool true := hI.inv.val 21 (hD 21 (by decide))
    refine ⟨fun _ => ?_, fun hw => by simp [wantedV, hg] at hw⟩
    have h21 : (v 21) = .bool (true) := hI.inv.val 21 (hD 21 (by decide))
    have h22 : (v 22) = .agg (pc (fb ((Pt.mul (V (f1)) (B7)).add (Pt.mul (V (f2)) (B7))).x) (fb ((Pt.mul (V (f1)) (B7)).add (Pt.mul (V (f2)) (B7))).y)) := hI.inv.val 22 (hD 22 (by decide))
    have h23 : (v 23) = .agg (pc (fb ((Pt.mul (V (f1)) (B7)).add (Pt.mul (V (f2)) (B7))).x) (fb ((Pt.mul (V (f1)) (B7)).add (Pt.mul (V (f2)) (B7))).y)) := hI.inv.val 23 (hD 23 (by decide))
    refine hI.val0 hL (by simp) rfl rfl ?_
    rw [show readsOf plan_12_26 24 = [(210, 21), (211, 22), (212, 23)] from rfl]
    exact give_eqP _ _ _ _ _ _ _ rfl h22 h23 ⟨by simp [beqb_self], Ext.refl _⟩
  · intro L v w hL hD hC hI
    refine ⟨fun _ => ?_, fun hw => by cases hw⟩
    have h21 : (v 21) = .bool (true) := hI.inv.val 21 (hD 21 (by decide))
    have h24 : (v 24) = .bool (true) := hI.inv.val 24 (hD 24 (by decide))
    refine hI.val0 hL (by simp) rfl rfl ?_
    rw [show readsOf plan_12_26 25 = [(210, 21), (213, 24)] from rfl]
    exact give_pick_t _ _ _ rfl h21 ⟨h24, Ext.refl _⟩
  · intro L v w hL hD hC hI
    refine ⟨fun _ => ?_, fun hw => by cases hw⟩
    have h25 : (v 25) = .bool (true) := hI.inv.val 25 (hD 25 (by decide))
    refine hI.val0 hL (by simp) rfl rfl ?_
    rw [show readsOf plan_12_26 26 = [(214, 25)] from rfl]
    exact ⟨h25, Ext.refl _⟩
  · intro L v w hL hD hC hI
    have hg : v 26 = .bool true := hI.inv.val 26 (hD 26 (by decide))
    refine ⟨fun _ => ?_, fun hw => by simp [wantedV, hg] at hw⟩
    have h26 : (v 26) = .bool (true) := hI.inv.val 26 (hD 26 (by decide))
    refine hI.val0 hL (by simp) rfl rfl ?_
    rw [show readsOf plan_12_26 27 = [(215, 26)] from rfl]
    exact ld_P (R_z.keep hI.inv.keep (by simp)) _ rfl rfl fun u hu => ⟨hu, Ext.refl _⟩
  · intro L v w hL hD hC hI
    have hg : v 26 = .bool true := hI.inv.val 26 (hD 26 (by decide))
    refine ⟨fun _ => ?_, fun hw => by simp [wantedV, hg] at hw⟩
    have h26 : (v 26) = .bool (true) := hI.inv.val 26 (hD 26 (by decide))
    refine hI.val0 hL (by simp) rfl rfl ?_
    rw [show readsOf plan_12_26 28 = [(215, 26)] from rfl]
    refine give_call _ _ _ _ rfl rfl Try.func40 (by kernel_rfl) (by kernel_rfl) ?_
    refine Calls.mono (sm7_1 w) ?_
    rintro e w' ⟨rfl, hx⟩
    exact ⟨_, rfl, rfl, hx⟩
  · intro L v w hL hD hC hI
    have hg : v 26 = .bool true := hI.inv.val 26 (hD 26 (by decide))
    refine ⟨fun _ => ?_, fun hw => by simp [wantedV, hg] at hw⟩
    have h26 : (v 26) = .bool (true) := hI.inv.val 26 (hD 26 (by decide))
    have h28 : (v 28) = .agg (bcells (nb 1)) := hI.inv.val 28 (hD 28 (by decide))
    refine hI.val0 hL (by simp) rfl rfl ?_
    rw [show readsOf plan_12_26 29 = [(215, 26), (217, 28)] from rfl]
    simp only [putP, Act.put, List.setIfInBounds_toArray, List.set_cons_zero, List.set_cons_succ, h28]
    go_simp
    exact ⟨rfl, Ext.refl _⟩
  · intro L v w hL hD hC hI
    have hg : v 26 = .bool true := hI.inv.val 26 (hD 26 (by decide))
    refine ⟨fun _ => ?_, fun hw => by simp [wantedV, hg] at hw⟩
    have h26 : (v 26) = .bool (true) := hI.inv.val 26 (hD 26 (by decide))
    have h27 : (v 27) = .agg (pc (fun _ => 0) (nb 1)) := hI.inv.val 27 (hD 27 (by decide))
    have h29 : (v 29) = .agg (pc (fun _ => 0) (nb 1)) := hI.inv.val 29 (hD 29 (by decide))
    refine hI.val0 hL (by simp) rfl rfl ?_
    rw [show readsOf plan_12_26 30 = [(215, 26), (216, 27), (218, 29)] from rfl]
    exact give_eqP _ _ _ _ _ _ _ rfl h27 h29 ⟨by simp [beqb_self], Ext.refl _⟩
  · intro L v w hL hD hC hI
    refine ⟨fun _ => ?_, fun hw => by cases hw⟩
    have h26 : (v 26) = .bool (true) := hI.inv.val 26 (hD 26 (by decide))
    have h30 : (v 30) = .bool (true) := hI.inv.val 30 (hD 30 (by decide))
    refine hI.val0 hL (by simp) rfl rfl ?_
    rw [show readsOf plan_12_26 31 = [(215, 26), (219, 30)] from rfl]
    exact give_pick_t _ _ _ rfl h26 ⟨h30, Ext.refl _⟩
  · intro L v w hL hD hC hI
    refine ⟨fun _ => ?_, fun hw => by cases hw⟩
    have h31 : (v 31) = .bool (true) := hI.inv.val 31 (hD 31 (by decide))
    refine hI.val0 hL (by simp) rfl rfl ?_
    rw [show readsOf plan_12_26 32 = [(220, 31)] from rfl]
    exact ⟨h31, Ext.refl _⟩
  intro L v24 W24 hL hI
  replace R_k1 := R_k1.keep hI.inv.keep (by simp)
  replace R_k2 := R_k2.keep hI.inv.keep (by simp)
  replace R_s := R_s.keep hI.inv.keep (by simp)
  replace R_t := R_t.keep hI.inv.keep (by simp)
  replace R_u_ := R_u_.keep hI.inv.keep (by simp)
  replace R_v_ := R_v_.keep hI.inv.keep (by simp)
  replace R_w_ := R_w_.keep hI.inv.keep (by simp)
  replace R_order := R_order.keep hI.inv.keep (by simp)
  replace R_z := R_z.keep hI.inv.keep (by simp)
  have hx' : Ext w W24 := hx.trans hI.inv.keep.to_ext
  have hs_189_26 : (v24 0) = .bool (true) := hI.inv.val 0 (hL 0 (by decide))
  have hs_190_26 : (v24 1) = .bool (true) := hI.inv.val 1 (hL 1 (by decide))
  have hs_191_26 : (v24 2) = .nilIface := hI.inv.val 2 (hL 2 (by decide))
  have hs_194_26 : (v24 5) = .bool (true) := hI.inv.val 5 (hL 5 (by decide))
  have hs_195_26 : (v24 6) = .nilIface := hI.inv.val 6 (hL 6 (by decide))
  have hs_198_26 : (v24 9) = .bool (true) := hI.inv.val 9 (hL 9 (by decide))
  have hs_199_26 : (v24 10) = .nilIface := hI.inv.val 10 (hL 10 (by decide))
  have hs_202_26 : (v24 13) = .bool (true) := hI.inv.val 13 (hL 13 (by decide))
  have hs_203_26 : (v24 14) = .nilIface := hI.inv.val 14 (hL 14 (by decide))
  have hs_206_26 : (v24 17) = .bool (true) := hI.inv.val 17 (hL 17 (by decide))
  have hs_207_26 : (v24 18) = .nilIface := hI.inv.val 18 (hL 18 (by decide))
  have hs_210_26 : (v24 21) = .bool (true) := hI.inv.val 21 (hL 21 (by decide))
  have hs_215_26 : (v24 26) = .bool (true) := hI.inv.val 26 (hL 26 (by decide))
  have hs_6_26 : (v24 32) = .bool (true) := hI.inv.val 32 (hL 32 (by decide))
  clear hx hI hL hok L
  have hx := hx'
  clear hx'
  simp only [putP, Act.put, List.setIfInBounds_toArray, List.set_cons_zero, List.set_cons_succ, hs_189_26, hs_190_26, hs_191_26, hs_194_26, hs_195_26, hs_198_26, hs_199_26, hs_202_26, hs_203_26, hs_206_26, hs_207_26, hs_210_26, hs_215_26, hs_6_26]
  go_wp2
  go_ret
  exact ⟨rfl, hx⟩
end Go.Proofs.Ytndohjgfjbopnaa
