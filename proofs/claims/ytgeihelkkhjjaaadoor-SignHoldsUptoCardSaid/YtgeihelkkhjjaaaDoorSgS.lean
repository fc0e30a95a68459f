/-
  The package sign, in plain bytes: a seed's number and mark, its key, digests, signatures, and the check.
-/
import Derived.Test.YtgeihelkkhjjaaaDoorSgB
import Derived.Test.YtgeihelkkhjjaaaDoorHashG
import Derived.Test.YtgeihelkkhjjaaaDoorSB
import Derived.Test.YtgeihelkkhjjaaaDoorPt
set_option linter.unusedSimpArgs false
set_option linter.unusedVariables false
namespace Go.Cv
open Go.RowKit Go.Cv.Pr Go.Cv.Grp Go.Cv.Hash
theorem sg_on_ring {n : Nat} [NeZero n] (x y d u i : Fin n) (h1 : (d * (y * y) + 1) * i = 1) (hu : u = (y * y - 1) * i) (hx : x * x = u) : y * y - x * x = 1 + d * (x * x) * (y * y) := by grind
theorem neg_sq_ {n : Nat} [NeZero n] (x : Fin n) : (0 - x) * (0 - x) = x * x := by grind
theorem decX_on {b : Nat → UInt8} {x : F7} (h : decX b = some x) : C7.on x (decY b) := by
  have key : ∀ z : F7, z * z = decU (decY b) → C7.on z (decY b) := fun z hz => sg_on_ring z _ C7.d _ _ (mul_fiv _ (dec_den _)) rfl hz
  have no : ∀ {z : F7}, (none : Option F7) = some z → False := fun h => Option.some_ne_none _ h.symm
  unfold decX at h
  by_cases h1 : V (decG b) < pp
  · rw [if_pos h1] at h
    by_cases h2 : okF (decU (decY b)) = true
    · rw [if_pos h2] at h
      have hs := rtF_sq h2
      by_cases h3 : (b 31 >>> 7 == 1) = true
      · rw [if_pos h3] at h
        by_cases h4 : rtF (decU (decY b)) = 0
        · rw [if_pos h4] at h
          exact (no h).elim
        · rw [if_neg h4] at h
          rw [← Option.some.inj h]
          exact key _ (by rw [neg_sq_]; exact hs)
      · rw [if_neg h3] at h
        rw [← Option.some.inj h]
        exact key _ hs
    · rw [if_neg h2] at h
      exact (no h).elim
  · rw [if_neg h1] at h
    exact (no h).elim
open Classical in
/-- The point that 32 bytes are. -/
noncomputable def decP (b : Nat → UInt8) : Option P7 := if h : ∃ P : P7, decX b = some P.x ∧ decY b = P.y then some h.choose else none
theorem decP_of {b : Nat → UInt8} {P : P7} (h1 : decX b = some P.x) (h2 : decY b = P.y) : decP b = some P := by
  have h : ∃ P : P7, decX b = some P.x ∧ decY b = P.y := ⟨P, h1, h2⟩
  unfold decP
  rw [dif_pos h]
  exact congrArg some (Pt.ext_ (Option.some.inj (h.choose_spec.1.symm.trans h1)) (h.choose_spec.2.symm.trans h2))
theorem decP_some {b : Nat → UInt8} {P : P7} (h : decP b = some P) : decX b = some P.x ∧ decY b = P.y := by
  unfold decP at h
  split at h
  · rename_i he
    injection h with h
    rw [← h]; exact he.choose_spec
  · cases h
theorem decP_none {b : Nat → UInt8} (h : decP b = none) : decX b = none := by
  cases hx : decX b with
  | none => rfl
  | some x =>
    rw [decP_of (P := ⟨x, decY b, decX_on hx⟩) hx rfl] at h
    cases h
theorem decP_enc (P : P7) : decP (encF P.x P.y) = some P := decP_of (decX_enc P) (decY_enc P.x P.y)
theorem decX_congr {f g : Nat → UInt8} (h : ∀ i, i < 32 → f i = g i) : decX f = decX g ∧ decY f = decY g := by
  have h1 : ∀ i, i < 32 → decG f i = decG g i := fun i hi => by
    unfold decG updb
    by_cases e : i = 31
    · rw [if_pos e, if_pos e, h 31 (by decide)]
    · rw [if_neg e, if_neg e, h i hi]
  have h2 : V (decG f) = V (decG g) := bsum_congr 32 h1
  have h3 : decY f = decY g := by unfold decY; rw [h2]
  refine ⟨?_, h3⟩
  unfold decX
  rw [h2, h3, h 31 (by decide)]
theorem decP_congr {f g : Nat → UInt8} (h : ∀ i, i < 32 → f i = g i) : decP f = decP g := by
  unfold decP
  obtain ⟨h1, h2⟩ := decX_congr h
  rw [h1, h2]
/-- 32 bytes of a list, from a place on. -/
def lf (l : List UInt8) (k : Nat) : Nat → UInt8 := fun j => l.getD (k + j) 0
theorem lf_blist (f : Nat → UInt8) : ∀ i, i < 32 → lf (blist f) 0 i = f i := fun i hi => by
  unfold lf blist
  simp [List.getD, hi]
theorem blist_lf (l : List UInt8) (k : Nat) (h : k + 32 ≤ l.length) : blist (lf l k) = (l.drop k).take 32 := by
  apply List.ext_getElem
  · rw [blist_len]; simp; omega
  · intro i h1 h2
    rw [blist_len] at h1
    unfold blist lf
    simp [List.getD, List.getElem?_eq_getElem (show k + i < l.length by omega)]
theorem V_congr {f g : Nat → UInt8} (h : ∀ i, i < 32 → f i = g i) : V f = V g := bsum_congr 32 h
/-- A seed's digest. -/
def sHash (f : Nat → UInt8) : List UInt8 := Hash.hash64 (blist f)
theorem hash64_len (l : List UInt8) : (Hash.hash64 l).length = 64 := by unfold Hash.hash64 Hash.digest64; simp
/-- A seed's number and its mark, out of the digest. -/
def sNum (h : List UInt8) : Nat → UInt8 := fun i => if i = 31 then (h.getD 31 0 &&& 63) ||| 64 else if i = 0 then h.getD 0 0 &&& 248 else h.getD i 0
/-- So many times the base point, as bytes. -/
def sKey (k : Nat → UInt8) : Nat → UInt8 := encF (Pt.mul (V k) B7).x (Pt.mul (V k) B7).y
/-- A digest modulo the order. -/
def sDig (l : List UInt8) : Nat → UInt8 := nb (bsum (fun j => (Hash.hash64 l).getD j 0) 64 % ordN)
/-- The signature of a text by a number and a mark. -/
def sSig (a m : Nat → UInt8) (t : List UInt8) : List UInt8 :=
  blist (sKey (sDig (blist m ++ t))) ++ blist (nb ((V (sDig (blist (sKey (sDig (blist m ++ t))) ++ (blist (sKey a) ++ t))) * V a + V (sDig (blist m ++ t))) % ordN))
theorem sSig_len (a m : Nat → UInt8) (t : List UInt8) : (sSig a m t).length = 64 := by unfold sSig; simp [blist_len]
/-- The point of the check. -/
noncomputable def sChk (P : P7) (k s : Nat → UInt8) : Nat → UInt8 := encF ((Pt.mul (V s) B7).add (Pt.mul (V k) P.neg)).x ((Pt.mul (V s) B7).add (Pt.mul (V k) P.neg)).y
noncomputable def sVer1 (o : Option P7) (k : Nat → UInt8) (g : List UInt8) : Bool := match o with | none => false | some P => blist (sChk P k (lf g 32)) == g.take 32
/-- Whether a signature is a key's. -/
noncomputable def sVer (key t g : List UInt8) : Bool :=
  if key.length = 32 then (if g.length = 64 then (if V (lf g 32) < ordN then sVer1 (decP (lf key 0)) (sDig (g.take 32 ++ (key ++ t))) g else false) else false) else false
theorem low_is (f : Nat → UInt8) : beqb (nb (V f % ordN)) f = decide (V f < ordN) := by
  have hV := V_lt f
  by_cases h : V f < ordN
  · rw [decide_eq_true h, Nat.mod_eq_of_lt h]
    exact (beqb_iff _ _).2 (nb_Vt f)
  · rw [decide_eq_false h]
    rw [Bool.eq_false_iff]
    intro hb
    have := V_congr ((beqb_iff _ _).1 hb)
    rw [V_nb (Nat.lt_trans (Nat.mod_lt _ (by decide)) (by decide))] at this
    exact h (this ▸ Nat.mod_lt _ (by decide))
theorem sVer_sig (a m : Nat → UInt8) (t : List UInt8) : sVer (blist (sKey a)) t (sSig a m t) = true := by
  obtain ⟨r, hr⟩ : ∃ r, r = sDig (blist m ++ t) := ⟨_, rfl⟩
  have e1 : sSig a m t = blist (sKey r) ++ blist (nb ((V (sDig (blist (sKey r) ++ (blist (sKey a) ++ t))) * V a + V r) % ordN)) := by rw [hr]; rfl
  obtain ⟨k, hk⟩ : ∃ k, k = sDig (blist (sKey r) ++ (blist (sKey a) ++ t)) := ⟨_, rfl⟩
  rw [← hk] at e1
  obtain ⟨S, hS⟩ : ∃ S, S = nb ((V k * V a + V r) % ordN) := ⟨_, rfl⟩
  rw [← hS] at e1
  have ht : (sSig a m t).take 32 = blist (sKey r) := by rw [e1, List.take_append_of_le_length (by rw [blist_len]; omega), List.take_of_length_le (by rw [blist_len]; omega)]
  have hl : ∀ i, i < 32 → lf (sSig a m t) 32 i = S i := fun i hi => by
    rw [e1]
    unfold lf
    have h2 := lf_blist S i hi
    unfold lf at h2
    rw [Nat.zero_add] at h2
    rw [← h2]
    simp only [List.getD_eq_getElem?_getD]
    rw [List.getElem?_append_right (by rw [blist_len]; omega), blist_len, Nat.add_sub_cancel_left]
  have hV : V (lf (sSig a m t) 32) = (V k * V a + V r) % ordN := by
    rw [V_congr hl, hS, V_nb (Nat.lt_trans (Nat.mod_lt _ (by decide)) (by decide))]
  unfold sVer
  rw [if_pos (blist_len _), if_pos (sSig_len _ _ _), if_pos (hV ▸ Nat.mod_lt _ (by decide)), ht, ← hk]
  rw [decP_congr (lf_blist (sKey a))]
  unfold sKey at *
  rw [decP_enc]
  show (blist (sChk _ k (lf (sSig a m t) 32)) == (sSig a m t).take 32) = true
  rw [ht]
  unfold sChk
  rw [hV, sign_valid]
  exact beq_self_eq_true _
/-- With the order added it isn't low any more. -/
theorem sVer_high (key t g : List UInt8) (h : ordN ≤ V (lf g 32)) : sVer key t g = false := by
  unfold sVer
  by_cases h1 : key.length = 32
  · rw [if_pos h1]
    by_cases h2 : g.length = 64
    · rw [if_pos h2, if_neg (by omega)]
    · rw [if_neg h2]
  · rw [if_neg h1]
theorem sVer_sig_len (key t g : List UInt8) (h : g.length ≠ 64) : sVer key t g = false := by
  unfold sVer
  by_cases h1 : key.length = 32
  · rw [if_pos h1, if_neg h]
  · rw [if_neg h1]
theorem sVer_key_len (key t g : List UInt8) (h : key.length ≠ 32) : sVer key t g = false := by
  unfold sVer
  rw [if_neg h]
end Go.Cv
