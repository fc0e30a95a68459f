import Derived.Test.YtndohjgfjbopnaaED
import Derived.Test.YtndohjgfjbopnaaDP
section
/-
  Walks of the document's answer: digits told as bytes.
-/
set_option linter.unusedSimpArgs false
set_option linter.unusedVariables false
namespace Go.Cv.Dig
open Go.RowKit
theorem dval_digit {l : List Nat} (h : Small l) (q : Nat) : dval l / 16777216 ^ q % 16777216 = dg l q := by
  by_cases hq : q < l.length
  · have h1 := lo_hi l (i := q) (by omega)
    have h2 := lo_lt h q
    have h3 := hi_cons hq
    have h4 := h.dg q
    rw [h1, Nat.add_comm, Nat.mul_add_div (Nat.pow_pos (by decide)), Nat.div_eq_of_lt h2, h3]
    omega
  · rw [dg_ge (by omega)]
    have h2 := h.lt
    have h3 : 16777216 ^ l.length ≤ 16777216 ^ q := Nat.pow_le_pow_right (by decide) (by omega)
    rw [Nat.div_eq_of_lt (by omega)]
/-- The byte of a number's digit. -/
theorem digit_byte {l : List Nat} (h : Small l) (j : Nat) : nb (dval l) j = UInt8.ofNat (dg l (j / 3) / 256 ^ (j % 3)) := by
  have hd := dval_digit h (j / 3)
  apply UInt8.toNat_inj.1
  unfold nb
  rw [UInt8.toNat_ofNat', UInt8.toNat_ofNat']
  have e : 2 ^ (8 * j) = 16777216 ^ (j / 3) * 2 ^ (8 * (j % 3)) := by
    rw [show (16777216 : Nat) = 2 ^ 24 from rfl, ← Nat.pow_mul, ← Nat.pow_add]
    congr 1
    omega
  have e2 : (256 : Nat) ^ (j % 3) = 2 ^ (8 * (j % 3)) := by rw [show (256 : Nat) = 2 ^ 8 from rfl, ← Nat.pow_mul]
  rw [e, e2, ← Nat.div_div_eq_div_mul, ← hd]
  generalize dval l / 16777216 ^ (j / 3) = X
  rcases (by omega : j % 3 = 0 ∨ j % 3 = 1 ∨ j % 3 = 2) with h0 | h0 | h0 <;> rw [h0] <;> omega
/-- The prime's digits. -/
def pdig : List Nat := [16777197, 16777215, 16777215, 16777215, 16777215, 16777215, 16777215, 16777215, 16777215, 16777215, 32767]
theorem pdig_val : dval pdig = 2 ^ 255 - 19 := by decide
theorem pdig_canon : Canon pdig := ⟨by unfold Small pdig; decide, by decide⟩
end Go.Cv.Dig
namespace Go.Proofs.Ytndohjgfjbopnaa
open Go.RowKit Go.Cv Go.Cv.Dig

set_option maxHeartbeats 400000 in
theorem digit_any (A : Option Addr) (n cap : Nat) (l : List Nat) (i : Nat) (w : World) (hn : l.length = n) (hr : Rd w A (l.map iv)) (hm : n ≤ 140737488355328) (hi : i < 4611686018427387904) :
    Calls Try.prog 61 #[.slice A n cap, .int .i64 i] w fun e w' => e = .returned (iv (dg l i)) ∧ w' = w := by
  subst hn
  by_cases hlt : i < l.length
  · obtain ⟨ad, rfl, hc⟩ := hr.at_ (k := i) (by simpa using hlt)
    rw [List.getElem_map] at hc
    have hd : iv (dg l i) = iv l[i] := by rw [dg_lt hlt]
    go_enter Try.func61, Try.ntmps61
    go_wp2
    go_ret
    exact ⟨by rw [hd]; rfl, rfl⟩
  · have hd : iv (dg l i) = iv 0 := by rw [dg_ge (by omega)]
    go_enter Try.func61, Try.ntmps61
    go_wp2
    go_ret
    exact ⟨by rw [hd]; rfl, rfl⟩

theorem digit_third (A : Option Addr) (n cap : Nat) (l : List Nat) (k : Nat) (w : World) (hn : l.length = n) (hr : Rd w A (l.map iv)) (hm : n ≤ 140737488355328) (hi : k / 3 < 4611686018427387904) :
    Calls Try.prog 61 #[.slice A n cap, .int .i64 ((k : Int) / 3)] w fun e w' => e = .returned (iv (dg l (k / 3))) ∧ w' = w := digit_any A n cap l (k / 3) w hn hr hm hi

set_option maxHeartbeats 800000 in
theorem p_any (w : World) :
    Calls Try.prog 56 #[] w fun e w' => ∃ A c, e = .returned (.slice A 11 c) ∧ Rd w' A (pdig.map iv) ∧ Ext w w' := by
  go_enter Try.func56, Try.ntmps56
  go_wp2
  go_ret
  refine ⟨_, _, rfl, ?_, ext_alloc _ _⟩
  refine Rd.of_cells fun j u hu => ?_
  have hj : j < 11 := by have := (List.getElem?_eq_some_iff.1 hu).1; simpa [pdig] using this
  rw [show (Addr.add ⟨w.heap.size, 0, none⟩ j) = ⟨w.heap.size, j, none⟩ from by unfold Addr.add; split <;> simp_all]
  rw [World.cell?_alloc_at _ _ _ _ rfl, ← hu]
  rcases (by omega : j = 0 ∨ j = 1 ∨ j = 2 ∨ j = 3 ∨ j = 4 ∨ j = 5 ∨ j = 6 ∨ j = 7 ∨ j = 8 ∨ j = 9 ∨ j = 10) with rfl | rfl | rfl | rfl | rfl | rfl | rfl | rfl | rfl | rfl | rfl <;> rfl

set_option maxHeartbeats 800000 in
theorem small_any (a : UInt8) (w : World) :
    Calls Try.prog 16 #[.int .u8 (n8 a)] w fun e w' => e = .returned (.agg (bcells (updb (fun _ => 0) 0 a))) ∧ Ext w w' := by
  go_enter Try.func16, Try.ntmps16
  go_wp2_with (simp only [bcells_set])
  refine bodyPost_ret_by (by simp [results, Try.results16, go_sem]; rfl) rfl ?_
  exact ⟨rfl, (ext_alloc _ _).trans (ext_alloc _ _)⟩

set_option maxHeartbeats 2000000 in
theorem bytes_any (A : Option Addr) (n cap : Nat) (l : List Nat) (w : World) (hn : l.length = n) (hs : Small l) (hr : Rd w A (l.map iv)) (hm : n ≤ 140737488355328) :
    Calls Try.prog 17 #[.slice A n cap] w fun e w' => e = .returned (.agg (bcells (nb (dval l)))) ∧ Ext w w' := by
  have hD : Hid (∀ q, dg l q < 16777216) := Lib.hid hs.dg
  have hB : Hid (∀ j, nb (dval l) j = UInt8.ofNat (dg l (j / 3) / 256 ^ (j % 3))) := Lib.hid (digit_byte hs)
  clear hs
  go_enter Try.func17, Try.ntmps17
  go_wp2
  go_loopw [4] (fun i wr => ∃ (k : Nat) (g : Nat → UInt8), k ≤ 32 ∧ i = .int .i64 k ∧ wr = (w.alloc (.cells (bcells fun _ => 0) 22)).alloc (.cells (bcells g) 22) ∧ ∀ j, j < k → g j = nb (dval l) j) (fun i _ => 32 - (intOf i).toNat)
  case atStart => exact ⟨0, _, by omega, rfl, rfl, fun _ h => absurd h (by omega)⟩
  case round =>
    obtain ⟨k, g, hk, rfl, rfl, hg⟩ := hrel
    replace hg := Lib.hid hg
    by_cases hlt : k < 32
    · have hdl := hD.out (k / 3)
      have h3 : k % 3 < 3 := Nat.mod_lt _ (by decide)
      go_wp2_with (go_at_call 61; with_reducible refine (digit_third _ _ _ l k _ hn ((hr.alloc _).alloc _) hm (by omega)).mono ?_; rintro e w' ⟨rfl, rfl⟩)
      go_loop [5, 6] (fun t5 t6 => ∃ m : Nat, m ≤ k % 3 ∧ t6 = .int .i64 m ∧ t5 = iv (dg l (k / 3) / 256 ^ m)) (fun _ t6 => 3 - (intOf t6).toNat)
      case atStart => exact ⟨0, by omega, rfl, by rw [Nat.pow_zero, Nat.div_one]⟩
      case round =>
        obtain ⟨m, hm3, rfl, rfl⟩ := hrel
        have hX : dg l (k / 3) / 256 ^ m < 16777216 := Nat.lt_of_le_of_lt (Nat.div_le_self _ _) hdl
        have hX2 : Hid (((dg l (k / 3) / 256 ^ m : Nat) : Int) / 256 = ((dg l (k / 3) / 256 ^ (m + 1) : Nat) : Int)) := Lib.hid (by
          rw [Nat.pow_succ, ← Nat.div_div_eq_div_mul]; rfl)
        have hX3 : Hid (m = k % 3 → Cv.u8 (((dg l (k / 3) / 256 ^ m : Nat) : Int) % 256) = nb (dval l) k) := Lib.hid (by
          intro h
          subst h
          rw [hB.out k]
          generalize dg l (k / 3) / 256 ^ (k % 3) = X
          rw [show ((X : Int) % 256) = ((X % 256 : Nat) : Int) from rfl, u8_nat]
          apply UInt8.toNat_inj.1
          rw [UInt8.toNat_ofNat', UInt8.toNat_ofNat']
          exact Nat.mod_mod _ _)
        generalize dg l (k / 3) / 256 ^ m = X at *
        by_cases hlt3 : m < k % 3
        · go_wp2
          go_round
          case rel => exact ⟨m + 1, by omega, by go_num, by rw [hX2.out]⟩
          case measure => simp [intOf]; omega
        · have hmk : m = k % 3 := by omega
          go_wp2
          rw [bcells_set, hX3.out hmk]
          refine ⟨⟨k + 1, updb g k (nb (dval l) k), by omega, by go_num, rfl, fun j hj => ?_⟩, by simp [intOf]; omega⟩
          by_cases hjk : j = k
          · subst hjk; exact if_pos rfl
          · rw [show updb g k (nb (dval l) k) j = g j from if_neg hjk]; exact hg.out j (by omega)
    · have hk32 : k = 32 := by omega
      subst hk32
      rw [bcells_congr hg.out]
      go_wp2
      refine bodyPost_ret_by (by simp [results, Try.results17, go_sem]; rfl) rfl ?_
      exact ⟨rfl, (ext_alloc _ _).trans (ext_alloc _ _)⟩
end Go.Proofs.Ytndohjgfjbopnaa
end
section
/-
  The numbers of the shown examples.
-/
set_option linter.unusedSimpArgs false
set_option linter.unusedVariables false
namespace Go.Cv
open Go.RowKit Go.Cv.Dig
theorem bsum_nb (n : Nat) : ∀ k, bsum (nb n) k = n % 2 ^ (8 * k)
  | 0 => by simp [bsum, Nat.mod_one]
  | k + 1 => by
    simp only [bsum]
    rw [bsum_nb n k, show 8 * (k + 1) = 8 * k + 8 from by omega, Nat.pow_add, Nat.mod_mul]
    unfold nb
    rw [UInt8.toNat_ofNat']
theorem V_nb {n : Nat} (h : n < 2 ^ 256) : V (nb n) = n := by
  unfold V
  rw [bsum_nb, Nat.mod_eq_of_lt (by simpa using h)]
theorem V_ob (n : Nat) : V (ob n) = n % (2 ^ 255 - 19) := V_nb (Nat.lt_trans (Nat.mod_lt _ (by decide)) (by decide))
theorem V_lt (f : Nat → UInt8) : V f < 2 ^ 256 := bsum_lt f 32
@[go_sem] theorem beqb_self (f : Nat → UInt8) : beqb f f = true := (beqb_iff f f).2 fun _ _ => rfl
theorem sm_nb (a : UInt8) : bcells (updb (fun _ => 0) 0 a) = bcells (nb a.toNat) := bcells_congr fun i hi => by
  by_cases h0 : i = 0
  · subst h0
    rw [show updb (fun _ => 0) 0 a 0 = a from rfl]
    unfold nb
    apply UInt8.toNat_inj.1
    rw [UInt8.toNat_ofNat', Nat.mul_zero, Nat.pow_zero, Nat.div_one, Nat.mod_eq_of_lt a.toNat_lt]
  · rw [show updb (fun _ => 0) 0 a i = 0 from if_neg h0]
    unfold nb
    apply UInt8.toNat_inj.1
    have h1 := a.toNat_lt
    have h2 : 2 ^ 8 ≤ 2 ^ (8 * i) := Nat.pow_le_pow_right (by decide) (by omega)
    rw [UInt8.toNat_ofNat', Nat.div_eq_of_lt (by omega)]
    rfl
/-- The half of one. -/
def ivr (a : Nat) : Nat := pI a % (2 ^ 255 - 19)
theorem pI_mul (a : Nat) (h : ¬ Pr.pp ∣ a) : Eqp (a * pI a) 1 := by
  have hf := Pr.prime_pp.fermat h
  unfold Pr.Eqm at hf
  obtain ⟨K, hK⟩ : ∃ K, K = 2 ^ 255 - 21 := ⟨_, rfl⟩
  have e : Pr.pp - 1 = K + 1 := by rw [hK]; decide
  rw [e, Nat.pow_succ] at hf
  unfold pI Eqp
  rw [← hK, Nat.mul_comm]
  exact hf
theorem mul_ivr {a : Nat} (h : Eqp (a * pI a) 1) : ob (a * ivr a) = nb 1 := by
  unfold ob ivr
  unfold Eqp at h
  rw [Nat.mul_mod_mod, h]
theorem mul_i2 : ob (2 * ivr 2) = nb 1 := mul_ivr (pI_mul 2 (by decide +kernel))
theorem pE_val (b v : Nat) (h : Pr.pm (2 ^ 255 - 19) 252 b (2 ^ 252 - 2) 1 % (2 ^ 255 - 19) = v % (2 ^ 255 - 19)) : Eqp (pE b) v := by
  have hp := Pr.pm_one (n := 2 ^ 255 - 19) (f := 252) (b := b) (e := 2 ^ 252 - 2) (by decide)
  unfold Pr.Eqm at hp
  obtain ⟨K, hK⟩ : ∃ K, K = 2 ^ 252 - 2 := ⟨_, rfl⟩
  unfold pE Eqp
  rw [← hK] at hp h ⊢
  rw [← hp]
  exact h
theorem rtc_no_ {a x : Nat} (h1 : Eqp (pE a) x) (h2 : ¬ Eqp (x * x) a) : Eqp (rtc a) (x * rm1) := by
  unfold rtc
  rw [if_neg (fun h => h2 ((h1.mul h1).sy.tr h))]
  exact h1.mul (Eqp.refl rm1)
theorem rtOk_no {a x : Nat} (h1 : Eqp (pE a) x) (h2 : ¬ Eqp (x * x) a) (h3 : ¬ Eqp (x * rm1 * (x * rm1)) a) : rtOk a = false := by
  have h := rtc_no_ h1 h2
  unfold rtOk
  exact decide_eq_false fun h4 => h3 ((h.mul h).sy.tr h4)
theorem rtOk_yes {a x : Nat} (h1 : Eqp (pE a) x) (h2 : ¬ Eqp (x * x) a) (h3 : Eqp (x * rm1 * (x * rm1)) a) : rtOk a = true := by
  have h := rtc_no_ h1 h2
  unfold rtOk
  exact decide_eq_true ((h.mul h).tr h3)
theorem pE_4 : Eqp (pE 4) 39362322753415011913614158609977084030892133031847780325488042146247659569504 := pE_val 4 _ (by decide +kernel)
theorem pE_2 : Eqp (pE 2) 19681161376707505956807079304988542015446066515923890162744021073123829784753 := pE_val 2 _ (by decide +kernel)
theorem rtOk_4 : rtOk 4 = true := rtOk_yes pE_4 (by decide +kernel) (by decide +kernel)
theorem rtOk_2 : rtOk 2 = false := rtOk_no pE_2 (by decide +kernel) (by decide +kernel)
theorem ob_rtv {a x : Nat} (h : Eqp (rtc a) x) (hx : ob (if x % (2 ^ 255 - 19) % 2 = 1 then 0 + negp x else x) = nb 2) : ob (rtv a) = nb 2 := by
  unfold Eqp at h
  unfold rtv negp
  unfold negp at hx
  rw [h]
  split
  · rename_i h1
    rw [if_pos h1] at hx
    exact hx
  · rename_i h1
    rw [if_neg h1] at hx
    rw [← hx]
    exact ob_of h
theorem rtv_4 : ob (rtv 4) = nb 2 := ob_rtv (rtc_no_ pE_4 (by decide +kernel)) (by
  unfold ob
  congr 1)
end Go.Cv
end
section
/-
  Plain laws: which numbers are squares modulo 2^255 - 19, and what their roots are.
-/
set_option linter.unusedSimpArgs false
set_option linter.unusedVariables false
namespace Go.Cv
open Go.RowKit Go.Cv.Pr
theorem dvd_iff (a : Nat) : Pr.pp ∣ a ↔ Eqp a 0 := by
  unfold Eqp
  rw [Nat.zero_mod]
  exact Nat.dvd_iff_mod_eq_zero ..
theorem Eqp.cancel {a b c : Nat} (h : Eqp (a + c) (b + c)) : Eqp a b := by
  unfold Eqp at *
  omega
theorem negp_add (n : Nat) : Eqp (n + negp n) 0 := by
  have h := Nat.mod_lt n (show 2 ^ 255 - 19 > 0 by decide)
  unfold Eqp negp
  omega
/-- What makes nought with n is what is owed to n. -/
theorem neg_unique {a n : Nat} (h : Eqp (a + n) 0) : Eqp a (negp n) := by
  have h2 := sub_eqp h
  rwa [Nat.zero_add] at h2
theorem negp_mul (a b : Nat) : Eqp (negp a * b) (negp (a * b)) := by
  apply neg_unique
  have h := (negp_add a).mul (Eqp.refl b)
  rw [Nat.add_mul, Nat.zero_mul, Nat.add_comm] at h
  exact h
theorem negp_negp (a : Nat) : Eqp (negp (negp a)) a := by
  refine (neg_unique (a := a) ?_).sy
  exact negp_add a
theorem negp_congr {a b : Nat} (h : Eqp a b) : negp a = negp b := by unfold negp; rw [h]
/-- Two numbers with one square are alike, or one is what is owed to the other. -/
theorem root_two {a b : Nat} (h : Eqp (a * a) (b * b)) : Eqp a b ∨ Eqp (a + b) 0 := by
  have h1 : Eqp ((a + negp b) * (a + b)) 0 := by
    have e : (a + negp b) * (a + b) = a * a + (a * b + negp b * a) + negp b * b := by
      rw [Nat.mul_add, Nat.add_mul, Nat.add_mul]
      omega
    have h2 : Eqp (a * b + negp b * a) 0 := by
      rw [Nat.mul_comm a b]
      exact ((Eqp.refl _).add (negp_mul b a)).tr (negp_add _)
    have h3 : Eqp (a * a + negp b * b) 0 := (h.add (negp_mul b b)).tr (negp_add _)
    rw [e]
    have h4 := h3.add h2
    rw [Nat.add_zero] at h4
    refine Eqp.tr ?_ h4
    show _ % _ = _ % _
    congr 1
    omega
  rcases prime_pp.dvd_mul ((dvd_iff _).2 h1) with h5 | h5
  · left
    have h6 := (dvd_iff _).1 h5
    have h7 := neg_unique h6
    exact h7.tr (negp_negp b)
  · right
    exact (dvd_iff _).1 h5
theorem rm1_sq : Eqp (rm1 * rm1 + 1) 0 := by decide +kernel
/-- Half of p - 1. -/
def hp : Nat := 2 ^ 254 - 10
theorem hp_two : hp + hp = Pr.pp - 1 := by decide
theorem hp_E : 4 * (2 ^ 252 - 2) = hp + 2 := by decide
/-- The fourth power of what is tried. -/
theorem pE_four (x : Nat) : (pE x * pE x) * (pE x * pE x) = x ^ hp * (x * x) := by
  obtain ⟨E, hE⟩ : ∃ E, E = 2 ^ 252 - 2 := ⟨_, rfl⟩
  have h1 := hp_E
  unfold pE
  rw [← hE] at h1 ⊢
  obtain ⟨H, hH⟩ : ∃ H, H = hp := ⟨_, rfl⟩
  rw [← hH] at h1 ⊢
  rw [← Nat.pow_add, ← Nat.pow_add, ← Nat.pow_two, ← Nat.pow_add]
  congr 1
  omega
theorem rtOk_of_one {x : Nat} (h : Eqp (x ^ hp) 1) : rtOk x = true := by
  have h4 := pE_four x
  have h5 : Eqp ((pE x * pE x) * (pE x * pE x)) (x * x) := by
    rw [h4]
    have := h.mul (Eqp.refl (x * x))
    rwa [Nat.one_mul] at this
  unfold rtOk
  refine decide_eq_true ?_
  unfold rtc
  generalize pE x = r at *
  split
  · assumption
  · rename_i hn
    rcases root_two h5 with h6 | h6
    · exact absurd h6 hn
    · -- the square is what is owed to x
      have h7 := neg_unique (a := x) (n := r * r) (by rw [Nat.add_comm]; exact h6)
      have h8 : Eqp (rm1 * rm1) (negp 1) := neg_unique rm1_sq
      have e : r * rm1 * (r * rm1) = r * r * (rm1 * rm1) := Nat.mul_mul_mul_comm ..
      rw [e]
      have h9 := (Eqp.refl (r * r)).mul h8
      refine h9.tr ?_
      rw [Nat.mul_comm]
      refine (negp_mul 1 (r * r)).tr ?_
      rw [Nat.one_mul]
      exact h7.sy
theorem one_of_sq {x b : Nat} (hb : ¬ Pr.pp ∣ b) (h : Eqp (b * b) x) : Eqp (x ^ hp) 1 := by
  have hf := prime_pp.fermat hb
  have h1 : Eqp ((b * b) ^ hp) (x ^ hp) := h.pow hp
  have h2 := hp_two
  obtain ⟨H, hH⟩ : ∃ H, H = hp := ⟨_, rfl⟩
  rw [← hH] at h1 h2 ⊢
  rw [← h2, Nat.pow_add, ← Nat.mul_pow] at hf
  exact h1.sy.tr hf
theorem rtOk_sq {x b : Nat} (h : Eqp (b * b) x) : rtOk x = true := by
  by_cases hb : Pr.pp ∣ b
  · have h0 := (dvd_iff b).1 hb
    have hx : Eqp x 0 := h.sy.tr (h0.mul h0)
    have hp0 : Eqp (pE x) 0 := by
      obtain ⟨E, hE⟩ : ∃ E, E + 1 = 2 ^ 252 - 2 := ⟨2 ^ 252 - 3, by decide⟩
      unfold pE
      rw [← hE, Nat.pow_succ]
      exact ((Eqp.refl _).mul hx).tr (by rw [Nat.mul_zero])
    unfold rtOk
    refine decide_eq_true ?_
    unfold rtc
    have h1 : Eqp (pE x * pE x) x := (hp0.mul hp0).tr hx.sy
    rw [if_pos h1]
    exact h1
  · exact rtOk_of_one (one_of_sq hb h)
theorem one_of_rtOk {x : Nat} (hx : ¬ Eqp x 0) (h : rtOk x = true) : Eqp (x ^ hp) 1 := by
  have h1 : Eqp (rtc x * rtc x) x := of_decide_eq_true h
  refine one_of_sq (b := rtc x) (fun hd => hx ?_) h1
  have h0 := (dvd_iff _).1 hd
  exact h1.sy.tr (h0.mul h0)
theorem euler {x : Nat} (hx : ¬ Eqp x 0) : Eqp (x ^ hp) 1 ∨ Eqp (x ^ hp + 1) 0 := by
  have hf := prime_pp.fermat (fun hd => hx ((dvd_iff x).1 hd))
  have h2 := hp_two
  obtain ⟨H, hH⟩ : ∃ H, H = hp := ⟨_, rfl⟩
  rw [← hH] at h2 ⊢
  rw [← h2, Nat.pow_add] at hf
  exact root_two (b := 1) hf
theorem two_hp (t : Nat) (ht : t = 2) : Eqp (t ^ hp + 1) 0 := by
  have h : ∀ b : Nat, Pr.pm (2 ^ 255 - 19) 254 b (2 ^ 254 - 10) 1 % (2 ^ 255 - 19) = (2 ^ 255 - 20) → Eqp (b ^ hp + 1) 0 := by
    intro b hb
    have hq := Pr.pm_one (n := 2 ^ 255 - 19) (f := 254) (b := b) (e := 2 ^ 254 - 10) (by decide)
    unfold Pr.Eqm at hq
    rw [hb] at hq
    have e : hp = 2 ^ 254 - 10 := rfl
    rw [← e] at hq
    generalize b ^ hp = X at *
    unfold Eqp
    omega
  exact h t (by rw [ht]; decide +kernel)
/-- Of a number and its double just one is a square. -/
theorem double {x y : Nat} (hx : ¬ Eqp x 0) (hy : Eqp y (x + x)) : rtOk y = !rtOk x := by
  obtain ⟨t, ht⟩ : ∃ t, t = 2 := ⟨_, rfl⟩
  have hxy : Eqp (y ^ hp) (t ^ hp * x ^ hp) := by
    rw [← Nat.mul_pow]
    refine Eqp.pow ?_ hp
    rw [ht, Nat.two_mul]
    exact hy
  have hy0 : ¬ Eqp y 0 := fun h0 => by
    have h2 : Eqp (2 * x) 0 := by rw [Nat.two_mul]; exact hy.sy.tr h0
    rcases prime_pp.dvd_mul ((dvd_iff _).2 h2) with h3 | h3
    · exact absurd h3 (by decide +kernel)
    · exact hx ((dvd_iff _).1 h3)
  have hne : ∀ z, Eqp (z ^ hp) 1 → Eqp (z ^ hp + 1) 0 → False := fun z ha hb => by
    have := (ha.sy.add (Eqp.refl 1)).tr hb
    revert this
    decide
  have t2 := neg_unique (two_hp t ht)
  have tt : Eqp (t ^ hp * x ^ hp) (negp (x ^ hp)) := by
    refine (t2.mul (Eqp.refl (x ^ hp))).tr ((negp_mul 1 _).tr ?_)
    rw [Nat.one_mul]
  have hyn : Eqp (y ^ hp + x ^ hp) 0 := by
    refine ((hxy.tr tt).add (Eqp.refl (x ^ hp))).tr ?_
    rw [Nat.add_comm]
    exact negp_add _
  cases hr : rtOk x with
  | true =>
    have h3 := one_of_rtOk hx hr
    cases hs : rtOk y with
    | false => rfl
    | true =>
      have h4 := one_of_rtOk hy0 hs
      have := ((h4.add h3).sy.tr hyn)
      revert this
      decide
  | false =>
    have h3 : Eqp (x ^ hp + 1) 0 := by
      rcases euler hx with h | h
      · rw [rtOk_of_one h] at hr
        exact absurd hr (by decide)
      · exact h
    have h4 : Eqp (y ^ hp) 1 := by
      have h5 := neg_unique hyn
      have h6 := neg_unique h3
      refine h5.tr ?_
      rw [negp_congr h6]
      exact negp_negp 1
    rw [rtOk_of_one h4]
    rfl
theorem rtv_two {x b : Nat} (h : Eqp (b * b) x) : Eqp (rtv x) b ∨ Eqp (rtv x + b) 0 := by
  have h1 : Eqp (rtc x * rtc x) x := of_decide_eq_true (rtOk_sq h)
  have h2 := root_two (h1.tr h.sy)
  unfold rtv
  split
  · rw [Nat.zero_add]
    rcases h2 with h3 | h3
    · right
      rw [negp_congr h3, Nat.add_comm]
      exact negp_add b
    · left
      rw [negp_congr (neg_unique h3)]
      exact negp_negp b
  · exact h2
theorem even_num {q r : Nat} (h : r < q) (hq : q % 2 = 1) (h1 : r % 2 = 1) : (q - r) % q % 2 = 0 := by
  have e : (q - r) % q = q - r := Nat.mod_eq_of_lt (by omega)
  rw [e]
  omega
theorem rtv_even (x : Nat) : rtv x % (2 ^ 255 - 19) % 2 = 0 := by
  unfold rtv
  generalize rtc x = r
  have h := Nat.mod_lt r (show 2 ^ 255 - 19 > 0 by decide)
  by_cases h1 : r % (2 ^ 255 - 19) % 2 = 1
  · rw [if_pos h1, Nat.zero_add]
    unfold negp
    exact even_num h (by decide) h1
  · rw [if_neg h1]
    exact (Nat.mod_two_eq_zero_or_one _).resolve_right h1
theorem ob_even (x : Nat) : ob (rtv x) 0 % 2 = 0 := by
  have h := rtv_even x
  have h2 : (ob (rtv x) 0).toNat = rtv x % (2 ^ 255 - 19) % 2 ^ 8 := by
    unfold ob nb
    rw [UInt8.toNat_ofNat', Nat.mul_zero, Nat.pow_zero, Nat.div_one]
  generalize rtv x % (2 ^ 255 - 19) = N at *
  apply UInt8.toNat_inj.1
  rw [UInt8.toNat_mod, h2, show (2 : UInt8).toNat = 2 from rfl, show (0 : UInt8).toNat = 0 from rfl]
  omega
end Go.Cv
section
set_option maxRecDepth 20000
namespace Go.Cv
open Go.RowKit
theorem nb_zero : nb 0 = fun _ => 0 := by
  funext j
  unfold nb
  rw [Nat.zero_div]
  rfl
theorem e_add (a b : Nat) : beqb (ob (a + b)) (nb ((a % (2 ^ 255 - 19) + b % (2 ^ 255 - 19)) % (2 ^ 255 - 19))) = true := by
  rw [← Nat.add_mod]; exact beqb_self _
theorem e_mul (a b : Nat) : beqb (ob (a * b)) (nb ((a % (2 ^ 255 - 19) * (b % (2 ^ 255 - 19))) % (2 ^ 255 - 19))) = true := by
  rw [← Nat.mul_mod]; exact beqb_self _
theorem neg_ref (a b : Nat) : (a + negp b) % (2 ^ 255 - 19) = (a % (2 ^ 255 - 19) + 2 * (2 ^ 255 - 19) - b % (2 ^ 255 - 19)) % (2 ^ 255 - 19) := by
  have h := Nat.mod_lt b (show 0 < 2 ^ 255 - 19 by decide)
  unfold negp
  omega
theorem e_sub (a b : Nat) : beqb (ob (a + negp b)) (nb ((a % (2 ^ 255 - 19) + 2 * (2 ^ 255 - 19) - b % (2 ^ 255 - 19)) % (2 ^ 255 - 19))) = true := by
  rw [← neg_ref]; exact beqb_self _
theorem e_inv (a P : Nat) (hP : P = 2 ^ 255 - 19) : beqb (ob (pI a)) (nb ((a % P) ^ (P - 2) % P)) = true := by
  rw [← Nat.pow_mod]
  have h : ob (pI a) = nb (a ^ (P - 2) % P) := by
    unfold ob pI
    rw [← hP, show 2 ^ 255 - 21 = P - 2 from by omega]
  rw [h]; exact beqb_self _
theorem rm_ref (P e : Nat) (hP : P = 2 ^ 255 - 19) (he : e = (P - 1) / 2 / 2) : 2 ^ e % P = rm1 % P := by
  have h1 : e = (2 ^ 255 - 20) / 2 / 2 := by rw [he, hP]
  have h2 : e < 2 ^ 254 := by omega
  have h := Pr.pm_one (n := P) (b := 2) h2
  unfold Pr.Eqm at h
  rw [← h]
  clear h h2 he
  subst h1 hP
  decide +kernel
theorem root_ref (a P r0 r : Nat) (hP : P = 2 ^ 255 - 19) (h0 : r0 = pE a % P) (hr : r = rtc a % P) :
    r0 = (a % P) ^ ((P + 3) / 2 / 2 / 2) % P ∧ ((r0 * r0) % P = a % P → r = r0) ∧ ((r0 * r0) % P ≠ a % P → r = (r0 * (2 ^ ((P - 1) / 2 / 2) % P)) % P) ∧
    rtOk a = decide ((r * r) % P = a % P) ∧ (rtOk a = true → beqb (ob (rtv a)) (nb (if r % 2 = 1 then (0 + 2 * P - r) % P else r)) = true) := by
  have hc : (r0 * r0) % P = a % P ↔ Eqp (pE a * pE a) a := by
    rw [h0, ← Nat.mul_mod, hP]; try exact Iff.rfl
  have hk : (r * r) % P = a % P ↔ Eqp (rtc a * rtc a) a := by
    rw [hr, ← Nat.mul_mod, hP]; try exact Iff.rfl
  refine ⟨?_, fun h => ?_, fun h => ?_, ?_, fun _ => ?_⟩
  · rw [h0, ← Nat.pow_mod]
    unfold pE
    rw [show 2 ^ 252 - 2 = (P + 3) / 2 / 2 / 2 from by omega]
  · rw [hr, h0]
    unfold rtc
    rw [if_pos (hc.1 h)]
  · rw [rm_ref P _ hP rfl, hr, h0, ← Nat.mul_mod]
    unfold rtc
    rw [if_neg fun h2 => h (hc.2 h2)]
  · unfold rtOk
    by_cases h : Eqp (rtc a * rtc a) a
    · rw [decide_eq_true h, decide_eq_true (hk.2 h)]
    · rw [decide_eq_false h, decide_eq_false fun h2 => h (hk.1 h2)]
  · have e : rtv a % (2 ^ 255 - 19) = if r % 2 = 1 then (0 + 2 * P - r) % P else r := by
      unfold rtv
      rw [← hP, ← hr]
      split
      · rw [hP, neg_ref, ← hP, ← hr, Nat.zero_mod]
      · exact hr.symm
    unfold ob
    rw [e]
    exact beqb_self _
end Go.Cv
end
end
