import Derived.Test.YtndohjgfjbopnaaSC
import Derived.Test.YtndohjgfjbopnaaRD
section
/-
  The document's answer of layer 7: the order.
-/
set_option linter.unusedSimpArgs false
set_option linter.unusedVariables false
namespace Go.Cv
open Go.RowKit Go.Cv.Dig
def lowL : List UInt8 := [237, 211, 245, 92, 26, 99, 18, 88, 214, 156, 247, 162, 222, 249, 222, 20]
def lowF (i : Nat) : Nat → UInt8 := fun k => if k < i then lowL.getD k 0 else 0
theorem lowF_val : V (updb (lowF 16) 31 16) = ordN := by decide
theorem lowF_zero : lowF 0 = fun _ => 0 := by funext k; simp [lowF]
theorem lowF_succ (i : Nat) : updb (lowF i) i (lowL.getD i 0) = lowF (i + 1) := by
  funext k
  unfold updb lowF
  by_cases h : k = i
  · subst h; simp
  · rw [if_neg h]
    by_cases h2 : k < i
    · rw [if_pos h2, if_pos (by omega)]
    · rw [if_neg h2, if_neg (by omega)]
theorem ordN_lt : ordN < 16777216 ^ 11 := by decide
end Go.Cv
namespace Go.Proofs.Ytndohjgfjbopnaa
open Go.RowKit Go.Cv Go.Cv.Dig
theorem of_num (b : Nat) (f : Nat → UInt8) (w : World) (hR : RV w b 22 (fun u => u = .agg (bcells f))) :
    Calls Try.prog 37 #[.slice (some ⟨b, 0, none⟩) 32 32] w fun e w' => ∃ v, e = .returned v ∧ Num w' v (V f) 11 ∧ Ext w w' := by
  refine (of_any _ 32 32 (blist f) w (blist_len f) (rd_bcells hR) (by decide)).mono ?_
  rintro e w' ⟨v, rfl, hv, hx⟩
  rw [show bsum (lb (blist f)) 32 = V f from bsum_blist f] at hv
  exact ⟨v, rfl, hv.short (Nat.lt_of_lt_of_le (bsum_lt f 32) (by decide)), hx⟩
set_option maxRecDepth 20000 in
set_option maxHeartbeats 4000000 in
theorem rorder_any (w : World) :
    Calls Try.prog 38 #[] w fun e w' => ∃ v, e = .returned v ∧ Num w' v ordN 11 ∧ Ext w w' := by
  go_enter Try.func38, Try.ntmps38
  go_upto_region 4 with fail
  obtain ⟨W0, hW0⟩ : ∃ W0, W0 = w.alloc (.cells (bcells fun _ => 0) 22) := ⟨_, rfl⟩
  obtain ⟨b, hb⟩ : ∃ b, b = w.heap.size := ⟨_, rfl⟩
  rw [← hW0, ← hb]
  have s0 : W0.heap.size = b + 1 := by rw [hW0, hb]; exact Array.size_push _
  have hx0 : Ext w W0 := by rw [hW0]; exact ext_alloc _ _
  have hR0 : RV W0 b 22 (fun u => u = .agg (bcells (lowF 0))) := by rw [hW0, hb, lowF_zero]; exact RV.newB _ _ _
  have hbw : w.heap.size ≤ b := by omega
  clear hW0 hb
  obtain ⟨W, hW⟩ : ∃ W, W = W0.alloc (.cells #[.int .u8 237, .int .u8 211, .int .u8 245, .int .u8 92, .int .u8 26, .int .u8 99, .int .u8 18, .int .u8 88, .int .u8 214, .int .u8 156, .int .u8 247, .int .u8 162, .int .u8 222, .int .u8 249, .int .u8 222, .int .u8 20] 5) := ⟨_, rfl⟩
  obtain ⟨bl, hbl⟩ : ∃ bl, bl = b + 1 := ⟨_, rfl⟩
  rw [← hW, ← hbl]
  have hRl : Row W bl 5 (lowL.map bv) := by rw [hW, hbl, ← s0]; exact Row.alloc W0 (lowL.map bv) _
  have hx1 : Ext W0 W := by rw [hW]; exact ext_alloc _ _
  have hne : bl ≠ b := by omega
  have hR1 := hR0.ext hx1
  have hx := hx0.trans hx1
  clear hW hbl s0 hx0 hx1 hR0
  go_loopw [3] (fun v3 wr => ∃ i : Nat, i ≤ 16 ∧ v3 = .int .i64 i ∧ RV wr b 22 (fun u => u = .agg (bcells (lowF i))) ∧ Keep [b] W wr) (fun v3 _ => 16 - (intOf v3).toNat)
  case atStart => exact ⟨0, by decide, rfl, hR1, Keep.refl _ _⟩
  case round =>
    clear hR1
    obtain ⟨i, hi, rfl, hR, hK⟩ := hrel
    have hRl2 := hRl.keep hK (by simpa using hne)
    by_cases hi2 : i < 16
    · have hiI : (i : Int) < 16 := by omega
      have hi0 : 0 ≤ (i : Int) := by omega
      have hi32 : (i : Int) < 32 := by omega
      have c1 : wr.cell? ⟨bl, i, none⟩ = some (.int .u8 (n8 (lowL.getD i 0))) := by
        rw [hRl2.cell (i := i) (by rw [List.length_map]; exact hi2), List.getElem_map]
        have : lowL.getD i 0 = lowL[i]'(show i < lowL.length from hi2) := by simp [List.getD, List.getElem?_eq_getElem (show i < lowL.length from hi2)]
        rw [this]
      have hfr := hR.fro i
      have c2 := hR.byte (i := i) (by omega)
      have hR2 := hR.set i (lowL.getD i 0)
      rw [lowF_succ] at hR2
      have hK2 := hK.same (Keep.setCell wr ⟨b, i, none⟩ (.int .u8 (n8 (lowL.getD i 0))))
      have hms : 16 - (i + 1) < 16 - i := by omega
      clear hR hK hRl2 hRl hne
      generalize lowL.getD i 0 = y at *
      go_wp2
      all_goals
        exact ⟨⟨i + 1, hi2, by go_num, hR2, ⟨hK2.os, hK2.tape, hK2.output, hK2.size, hK2.keep⟩⟩, by simpa [intOf] using hms⟩
    · obtain rfl : i = 16 := by omega
      have hK2 := hK.same (Keep.setCell wr ⟨b, 31, none⟩ (.int .u8 16))
      have hR2 : RV (wr.setCell ⟨b, 31, none⟩ (.int .u8 16)) b 22 (fun u => u = .agg (bcells (updb (lowF 16) 31 16))) := hR.set 31 16
      have hxw := Ext.keep_ hx hK2 (by simpa using hbw)
      have hfr := hR.fro 31
      have c2 := hR.byte (i := 31) (by omega)
      clear hR hK hRl2 hRl hne hK2
      go_wp2_with (first
        | (go_at_call 37; ((with_reducible refine (of_num b _ _ hR2).mono ?_); rintro e w' ⟨v, rfl, hv, hx2⟩)))
      rw [lowF_val] at hv
      refine bodyPost_ret_by (by simp [results, Try.results38, go_sem]; rfl) rfl ?_
      exact ⟨v, rfl, hv, hxw.trans hx2⟩
end Go.Proofs.Ytndohjgfjbopnaa
end
section
/-
  The document's answer of layer 7: numbers modulo the order.
-/
set_option linter.unusedSimpArgs false
set_option linter.unusedVariables false
namespace Go.Cv.Dig
theorem dval_div (l : List Nat) (h : Small l) : ∀ (q : Nat), dval l / 16777216 ^ q = dval (l.drop q)
  | 0 => by simp
  | q + 1 => by
    rw [Nat.pow_succ, ← Nat.div_div_eq_div_mul, dval_div l h q, ← List.drop_drop]
    have hs : Small (l.drop q) := fun d hd => h d (List.mem_of_mem_drop hd)
    generalize l.drop q = m at *
    cases m with
    | nil => simp [dval]
    | cons d m =>
      have := hs d (by simp)
      simp only [dval, List.drop_succ_cons, List.drop_zero]
      omega
theorem dval_bit {l : List Nat} (h : Small l) {q t : Nat} (ht : t < 24) (hq : q < l.length) : dval l / 2 ^ (24 * q + t) % 2 = l[q] / 2 ^ t % 2 := by
  rw [Nat.pow_add, ← Nat.div_div_eq_div_mul, Nat.pow_mul, show (2 : Nat) ^ 24 = 16777216 from rfl, dval_div l h q, List.drop_eq_getElem_cons hq]
  simp only [dval]
  rw [show 16777216 * dval (l.drop (q + 1)) = 2 ^ t * (2 * (2 ^ (23 - t) * dval (l.drop (q + 1)))) from by
    rw [← Nat.mul_assoc 2, ← Nat.pow_succ', ← Nat.mul_assoc, ← Nat.pow_add, show t + (23 - t).succ = 24 from by omega], Nat.add_mul_div_left _ _ (Nat.two_pow_pos t), Nat.add_mul_mod_self_left]
theorem rmod_step {N L r b : Nat} (hr : r = N % L) (hb : b ≤ 1) (hL : 1 < L) (h : L ≤ r + r + b) : r + r + b - L = (2 * N + b) % L := by
  have h1 : r < L := by rw [hr]; exact Nat.mod_lt _ (by omega)
  have h2 : (2 * N + b) % L = (r + r + b) % L := by
    rw [hr, ← Nat.two_mul, Nat.add_mod, Nat.mul_mod, Nat.add_mod (2 * (N % L)), Nat.mul_mod 2 (N % L), Nat.mod_mod]
  rw [h2, Nat.mod_eq_sub_mod h, Nat.mod_eq_of_lt (by omega)]
theorem rmod_step0 {N L r b : Nat} (hr : r = N % L) (hb : b ≤ 1) (hL : 1 < L) (h : ¬ L ≤ r + r + b) : r + r + b = (2 * N + b) % L := by
  have h2 : (2 * N + b) % L = (r + r + b) % L := by
    rw [hr, ← Nat.two_mul, Nat.add_mod, Nat.mul_mod, Nat.add_mod (2 * (N % L)), Nat.mul_mod 2 (N % L), Nat.mod_mod]
  rw [h2, Nat.mod_eq_of_lt (by omega)]
theorem bit_step (X i : Nat) : X / 2 ^ i = 2 * (X / 2 ^ (i + 1)) + X / 2 ^ i % 2 := by
  rw [Nat.pow_succ, ← Nat.div_div_eq_div_mul]; omega
end Go.Cv.Dig
namespace Go.Proofs.Ytndohjgfjbopnaa
open Go.RowKit Go.Cv Go.Cv.Dig
theorem cmp_sign (w : World) (v1 v2 : Value) (x y : Nat) (h1 : Num w v1 x 11) (h2 : Num w v2 y 11) :
    Calls Try.prog 36 #[v1, v2] w fun e w' => ∃ c, e = .returned (.int .i64 c) ∧ cmpIs x y c ∧ Ext w w' := by
  obtain ⟨A, n, c, l, rfl, hn, hc, hr, hcan, rfl, hl⟩ := h1
  obtain ⟨B, n2, c2, l2, rfl, hn2, hc2, hr2, hcan2, rfl, hl2⟩ := h2
  refine (cmp_any A B n n2 c c2 l l2 w hn hn2 hcan hcan2 hr hr2 (by omega) (by omega)).mono ?_
  rintro e w' ⟨k, rfl, hk, hx⟩
  exact ⟨k, rfl, hk, hx⟩
theorem and_mod_ (x k : Nat) (hk : k < 64) (hx : x < 2 ^ 63) : bits .and .i64 (x : Int) (((2 ^ k - 1 : Nat)) : Int) = ((x % 2 ^ k : Nat) : Int) := by
  show IntKind.i64.wrap (((BitVec.ofInt 64 (x : Int) &&& BitVec.ofInt 64 (((2 ^ k - 1 : Nat)) : Int)).toNat : Nat) : Int) = _
  rw [BitVec.ofInt_natCast, BitVec.ofInt_natCast, ← BitVec.ofNat_and, Nat.and_two_pow_sub_one_eq_mod, BitVec.toNat_ofNat]
  have h1 : x % 2 ^ k ≤ x := Nat.mod_le _ _
  rw [Nat.mod_eq_of_lt (by omega)]
  exact IntWalk.i64_in _ (by omega)
theorem bit_and (d t : Nat) (hd : d < 16777216) : bits .and .i64 ((d / 2 ^ t : Nat) : Int) 1 = ((d / 2 ^ t % 2 : Nat) : Int) := by
  have h0 : d / 2 ^ t ≤ d := Nat.div_le_self _ _
  generalize d / 2 ^ t = e at *
  exact and_mod_ e 1 (by decide) (by omega)
set_option maxRecDepth 8000 in
set_option maxHeartbeats 8000000 in
theorem rrest_any (w : World) (va : Value) (X L : Nat) (hL : L = ordN) (ha : Num w va X 1000) :
    Calls Try.prog 41 #[va] w fun e w' => ∃ v, e = .returned v ∧ Num w' v (X % L) 11 ∧ Ext w w' := by
  have hO := rorder_any
  rw [← hL] at hO
  have hL2 : Hid (1 < L ∧ L + L + 1 < 16777216 ^ 11) := Lib.hid (by rw [hL]; decide)
  clear hL
  obtain ⟨N, hN⟩ : ∃ N, N = X % L := ⟨_, rfl⟩
  rw [← hN]
  replace hN := Lib.hid hN
  obtain ⟨A, n, c, l, rfl, hn, hc, hr, hcan, hval, hle⟩ := ha
  have HN := Lib.hid hn
  have HV := Lib.hid hval
  have HX : Hid (X / 2 ^ (24 * n) = 0) := Lib.hid (by
    rw [← hval, ← hn]
    refine Nat.div_eq_of_lt ?_
    have := hcan.1.lt
    rw [Nat.pow_mul]; exact this)
  clear hn hval
  have HC := Lib.hid hcan.1
  clear hcan
  go_enter Try.func41, Try.ntmps41
  go_upto_region 4 with (go_at_call 38; with_reducible refine (hO _).mono ?_; rintro e w1 ⟨vo, rfl, hvo, hx1⟩)
  go_loopw [4, 5] (fun v4 v5 wr => ∃ (k : Nat) (x : Int), k ≤ 24 * n ∧ v5 = .int .i64 x ∧ Hid (x + 1 = (k : Int)) ∧ Num wr v4 (X / 2 ^ k % L) 11 ∧ Ext w1 wr) (fun _ v5 _ => (intOf v5 + 1).toNat)
  case atStart =>
    refine ⟨24 * n, _, Nat.le_refl _, rfl, Lib.hid (by push_cast; omega), ?_, Ext.refl _⟩
    rw [HX.out, Nat.zero_mod]
    exact num_nil w1
  case round =>
    obtain ⟨k, x, hk, rfl, hxk, hnum, hE⟩ := hrel
    have hxk' := hxk.out
    by_cases hx0 : 0 ≤ x
    · obtain ⟨i, rfl⟩ : ∃ i : Nat, x = (i : Int) := ⟨x.toNat, by omega⟩
      obtain rfl : k = i + 1 := by omega
      obtain ⟨q, hq⟩ : ∃ q, q = i / 24 := ⟨_, rfl⟩
      obtain ⟨t, ht⟩ : ∃ t, t = i % 24 := ⟨_, rfl⟩
      have hqm : q < n := by omega
      have hqmI : (q : Int) < (n : Int) := by omega
      have hq0 : 0 ≤ (q : Int) := by omega
      have ht0 : 0 ≤ (t : Int) := by omega
      have ht24 : t < 24 := by omega
      have ht64I : (t : Int) < 64 := by omega
      have d1 : (i : Int) / 24 = (q : Int) := by omega
      have d2 : (i : Int).tdiv 24 = (q : Int) := by rw [Int.tdiv_eq_ediv_of_nonneg (by omega)]; omega
      have r1 : (i : Int) % 24 = (t : Int) := by omega
      have r2 : (i : Int).tmod 24 = (t : Int) := by rw [Int.tmod_eq_emod_of_nonneg (by omega)]; omega
      have hqw : q < l.length := by rw [HN.out]; exact hqm
      obtain ⟨ad, rfl, hcell⟩ := (hr.ext (hx1.trans hE)).at_ (k := q) (by rw [List.length_map]; exact hqw)
      rw [List.getElem_map] at hcell
      have hbit : X / 2 ^ i % 2 = (l[q]'hqw) / 2 ^ t % 2 := by
        rw [← HV.out, ← dval_bit HC.out ht24 hqw]
        congr 3
        omega
      have hd : l[q]'hqw < 16777216 := HC.out _ (List.getElem_mem hqw)
      generalize l[q]'hqw = d at *
      have hand := bit_and d t hd
      rw [← hbit] at hand
      have hcell2 : wr.cell? (ad.add q) = some (.int .i64 (d : Int)) := hcell
      have hi64 : i < 24000 := by omega
      have hidx : Hid ((i : Int) - 1 + 1 = (i : Int)) := Lib.hid (by omega)
      have hil : i ≤ 24 * n := by omega
      have hv1 : IntKind.i64.wrap ((i : Int) - 1) = (i : Int) - 1 := IntWalk.i64_in _ (by omega)
      have hstep := bit_step X i
      obtain ⟨r, hr0⟩ : ∃ r, r = X / 2 ^ (i + 1) % L := ⟨_, rfl⟩
      rw [← hr0] at hnum
      have hrL : r < L := by rw [hr0]; exact Nat.mod_lt _ (by have := hL2.out.1; omega)
      have hb2 : X / 2 ^ i % 2 < 2 := Nat.mod_lt _ (by decide)
      obtain ⟨b, hb⟩ : ∃ b, b = X / 2 ^ i % 2 := ⟨_, rfl⟩
      rw [← hb] at hand hb2 hstep
      have HS1 : Hid (L ≤ r + r + b → r + r + b - L = X / 2 ^ i % L) := Lib.hid fun h => by rw [hstep]; exact rmod_step hr0 (by omega) hL2.out.1 h
      have HS0 : Hid (¬ L ≤ r + r + b → r + r + b = X / 2 ^ i % L) := Lib.hid fun h => by rw [hstep]; exact rmod_step0 hr0 (by omega) hL2.out.1 h
      have hr1 := Lib.hid (show r + r < 16777216 ^ 11 from by have := hL2.out.2; omega)
      have hr2' := Lib.hid (show r + r + 1 < 16777216 ^ 11 from by have := hL2.out.2; omega)
      have hshr : ((d : Int) / 2 ^ t) = ((d / 2 ^ t : Nat) : Int) := by push_cast; rfl
      obtain ⟨e, he⟩ : ∃ e, e = d / 2 ^ t := ⟨_, rfl⟩
      rw [← he] at hshr hand
      clear he
      have hms : (((i : Int) - 1 + 1).toNat) < ((i : Int) + 1).toNat := by omega
      have hxw := hx1
      clear hb hr0 hstep hbit hq ht hxk hcell hxk' hx0 hrL
      rcases (by omega : b = 0 ∨ b = 1) with rfl | rfl
      · by_cases hcm : L ≤ r + r + 0
        · have HS := Lib.hid (HS1.out hcm)
          have hcx := Lib.hid hcm
          clear hcm
          go_wp2_with (first
          | (go_at_call 65; with_reducible refine (plus_num _ _ _ r r hnum hnum hr1.out).mono ?_; rintro e w2 ⟨v2, rfl, hv2, hx2⟩; have hcell3 := Keep.cell (bs := []) (Keep.of_ext hx2) hcell2 (by simp); have hE2 := hE.trans hx2)
          | (go_at_call 36; with_reducible refine (cmp_sign _ _ _ (r + r) L hv2 (hvo.ext hE2)).mono ?_; rintro e w4 ⟨c4, rfl, hc4, hx4⟩; have hE4 := hE2.trans hx4; have hc5 : 0 ≤ c4 := (by unfold cmpIs at hc4; have := hcx.out; omega))
          | (go_at_call 63; with_reducible refine (less_num _ _ _ (r + r) L (hv2.ext hx4) (hvo.ext hE4) (by have := hcx.out; omega)).mono ?_; rintro e w5 ⟨v5, rfl, hv5, hx5⟩))
          exact ⟨⟨i, _, hil, rfl, hidx, by rw [← HS.out]; exact hv5, hE4.trans hx5⟩, by simp [intOf]⟩
        · have HS := Lib.hid (HS0.out hcm)
          have hcx := Lib.hid hcm
          clear hcm
          go_wp2_with (first
          | (go_at_call 65; with_reducible refine (plus_num _ _ _ r r hnum hnum hr1.out).mono ?_; rintro e w2 ⟨v2, rfl, hv2, hx2⟩; have hcell3 := Keep.cell (bs := []) (Keep.of_ext hx2) hcell2 (by simp); have hE2 := hE.trans hx2)
          | (go_at_call 36; with_reducible refine (cmp_sign _ _ _ (r + r) L hv2 (hvo.ext hE2)).mono ?_; rintro e w4 ⟨c4, rfl, hc4, hx4⟩; have hE4 := hE2.trans hx4; have hc5 : ¬ 0 ≤ c4 := (by unfold cmpIs at hc4; have := hcx.out; omega)))
          exact ⟨⟨i, _, hil, rfl, hidx, by rw [← HS.out]; exact (hv2.ext hx4), hE4⟩, by simp [intOf]⟩
      · by_cases hcm : L ≤ r + r + 1
        · have HS := Lib.hid (HS1.out hcm)
          have hcx := Lib.hid hcm
          clear hcm
          go_wp2_with (first
          | (go_at_call 65; with_reducible refine (plus_num _ _ _ r r hnum hnum hr1.out).mono ?_; rintro e w2 ⟨v2, rfl, hv2, hx2⟩; have hcell3 := Keep.cell (bs := []) (Keep.of_ext hx2) hcell2 (by simp); have hE2 := hE.trans hx2)
          | (go_at_call 65; with_reducible refine (plus_num _ _ _ (r + r) 1 (hv2.ext (ext_alloc _ _)) (num_1 _ _) hr2'.out).mono ?_; rintro e w3 ⟨v3, rfl, hv3, hx3⟩; have hE3 := hE2.trans ((ext_alloc _ _).trans hx3))
          | (go_at_call 36; with_reducible refine (cmp_sign _ _ _ (r + r + 1) L hv3 (hvo.ext hE3)).mono ?_; rintro e w4 ⟨c4, rfl, hc4, hx4⟩; have hE4 := hE3.trans hx4; have hc5 : 0 ≤ c4 := (by unfold cmpIs at hc4; have := hcx.out; omega))
          | (go_at_call 63; with_reducible refine (less_num _ _ _ (r + r + 1) L (hv3.ext hx4) (hvo.ext hE4) (by have := hcx.out; omega)).mono ?_; rintro e w5 ⟨v5, rfl, hv5, hx5⟩))
          exact ⟨⟨i, _, hil, rfl, hidx, by rw [← HS.out]; exact hv5, hE4.trans hx5⟩, by simp [intOf]⟩
        · have HS := Lib.hid (HS0.out hcm)
          have hcx := Lib.hid hcm
          clear hcm
          go_wp2_with (first
          | (go_at_call 65; with_reducible refine (plus_num _ _ _ r r hnum hnum hr1.out).mono ?_; rintro e w2 ⟨v2, rfl, hv2, hx2⟩; have hcell3 := Keep.cell (bs := []) (Keep.of_ext hx2) hcell2 (by simp); have hE2 := hE.trans hx2)
          | (go_at_call 65; with_reducible refine (plus_num _ _ _ (r + r) 1 (hv2.ext (ext_alloc _ _)) (num_1 _ _) hr2'.out).mono ?_; rintro e w3 ⟨v3, rfl, hv3, hx3⟩; have hE3 := hE2.trans ((ext_alloc _ _).trans hx3))
          | (go_at_call 36; with_reducible refine (cmp_sign _ _ _ (r + r + 1) L hv3 (hvo.ext hE3)).mono ?_; rintro e w4 ⟨c4, rfl, hc4, hx4⟩; have hE4 := hE3.trans hx4; have hc5 : ¬ 0 ≤ c4 := (by unfold cmpIs at hc4; have := hcx.out; omega)))
          exact ⟨⟨i, _, hil, rfl, hidx, by rw [← HS.out]; exact (hv3.ext hx4), hE4⟩, by simp [intOf]⟩
    · obtain rfl : k = 0 := by omega
      rw [Nat.pow_zero, Nat.div_one, ← hN.out] at hnum
      go_wp2
      go_ret
      exact ⟨_, rfl, hnum, hx1.trans hE⟩
end Go.Proofs.Ytndohjgfjbopnaa
end
section
/-
  The document's answer: the product of two numbers.
-/
set_option linter.unusedSimpArgs false
set_option linter.unusedVariables false
namespace Go.Cv.Dig
open Go.RowKit
/-- What stands behind i digits of a product. -/
structure ProdInv (l m os : List Nat) (i : Nat) : Prop where
  len : os.length = l.length + m.length
  small : Small os
  val : dval os = lo l i * dval m
  zero : ∀ j, i + m.length ≤ j → dg os j = 0
structure ProdIn (l m os : List Nat) (i k c : Nat) : Prop where
  len : os.length = l.length + m.length
  small : Small os
  car : c < 16777216
  val : dval os + 16777216 ^ (i + k) * c = lo l i * dval m + 16777216 ^ i * (dg l i * lo m k)
  zero : ∀ j, i + m.length ≤ j → dg os j = 0
theorem ProdInv.start (l m : List Nat) : ProdInv l m (List.replicate (l.length + m.length) 0) 0 := by
  refine ⟨by simp, fun d hd => by rw [List.eq_of_mem_replicate hd]; decide, by rw [dval_replicate, lo_zero, Nat.zero_mul], fun j _ => ?_⟩
  unfold dg
  rw [List.getD_eq_getElem?_getD, List.getElem?_replicate]
  split <;> rfl
theorem ProdInv.enter {l m os : List Nat} {i : Nat} (h : ProdInv l m os i) : ProdIn l m os i 0 0 :=
  ⟨h.len, h.small, by decide, by rw [h.val, lo_zero]; simp, h.zero⟩
theorem prod_le {a b c d : Nat} (ha : a < 16777216) (hb : b < 16777216) (hc : c < 16777216) (hd : d < 16777216) : a + b * c + d < 16777216 * 16777216 := by
  have h := Nat.mul_le_mul (show b ≤ 16777215 by omega) (show c ≤ 16777215 by omega)
  omega
theorem ProdIn.step {l m os : List Nat} {i k c : Nat} (hl : Small l) (hm : Small m) (hi : i < l.length) (hk : k < m.length) (h : ProdIn l m os i k c) :
    ProdIn l m (os.set (i + k) ((dg os (i + k) + dg l i * dg m k + c) % 16777216)) i (k + 1) ((dg os (i + k) + dg l i * dg m k + c) / 16777216) := by
  have h1 := hl.dg i
  have h2 := hm.dg k
  have h3 := h.small.dg (i + k)
  have hlen := h.len
  have ht := prod_le h3 h1 h2 h.car
  have ha := dval_set (l := os) (i := i + k) (by omega) ((dg os (i + k) + dg l i * dg m k + c) % 16777216)
  have hv := h.val
  obtain ⟨t, ht0⟩ : ∃ t, t = dg os (i + k) + dg l i * dg m k + c := ⟨_, rfl⟩
  rw [← ht0] at ha ht ⊢
  refine ⟨by rw [List.length_set, hlen], h.small.set _ (Nat.mod_lt _ (by decide)), Nat.div_lt_of_lt_mul ht, ?_, fun j hj => ?_⟩
  · have e2 : 16777216 ^ (i + k) * (t % 16777216 + 16777216 * (t / 16777216)) = 16777216 ^ (i + k) * t := by rw [Nat.mod_add_div]
    rw [Nat.mul_add, ← Nat.mul_assoc] at e2
    have e3 : 16777216 ^ (i + k) * t = 16777216 ^ (i + k) * dg os (i + k) + 16777216 ^ (i + k) * (dg l i * dg m k) + 16777216 ^ (i + k) * c := by rw [ht0, Nat.mul_add, Nat.mul_add]
    have e4 : 16777216 ^ i * (dg l i * lo m (k + 1)) = 16777216 ^ i * (dg l i * lo m k) + 16777216 ^ (i + k) * (dg l i * dg m k) := by
      rw [lo_succ, Nat.mul_add, Nat.mul_add, Nat.pow_add]
      congr 1
      rw [Nat.mul_left_comm (dg l i), Nat.mul_assoc]
    rw [e4, ← Nat.add_assoc i k 1, Nat.pow_succ]
    omega
  · rw [dg_set (by omega), if_neg (by omega)]
    exact h.zero _ hj
theorem ProdIn.leave {l m os : List Nat} {i c : Nat} (hi : i < l.length) (h : ProdIn l m os i m.length c) : ProdInv l m (os.set (i + m.length) c) (i + 1) := by
  have hlen := h.len
  have hz := h.zero (i + m.length) (Nat.le_refl _)
  have ha := dval_set (l := os) (i := i + m.length) (by omega) c
  rw [hz, Nat.mul_zero, Nat.add_zero] at ha
  refine ⟨by rw [List.length_set, hlen], h.small.set _ h.car, ?_, fun j hj => ?_⟩
  · rw [ha, h.val, lo_succ, Nat.add_mul, lo_all (Nat.le_refl m.length), Nat.mul_assoc]
  · rw [dg_set (by omega), if_neg (by omega)]
    exact h.zero _ (by omega)
end Go.Cv.Dig
namespace Go.Proofs.Ytndohjgfjbopnaa
open Go.RowKit Go.Cv Go.Cv.Dig
@[go_sem] theorem make_int2 (n m : Nat) (w : World) (hn : n + m ≤ 100000) : (Instr.makeSlice 28 (.int .i64 ((n : Int) + (m : Int))) (.int .i64 ((n : Int) + (m : Int)))).run Try.prog w =
    .ok (.slice (some ⟨w.heap.size, 0, none⟩) (n + m) (n + m)) (w.alloc (.cells (icells (List.replicate (n + m) 0)) 3)) := make_int (n + m) w (by omega)
set_option maxRecDepth 4000 in
set_option maxHeartbeats 4000000 in
theorem product_any (A B : Option Addr) (n n2 c1 c2 : Nat) (l m : List Nat) (w : World) (hn : l.length = n) (hn2 : m.length = n2) (hl : Small l) (hm : Small m) (hr : Rd w A (l.map iv)) (hr2 : Rd w B (m.map iv)) (hb : n + n2 ≤ 100000) :
    Calls Try.prog 81 #[.slice A n c1, .slice B n2 c2] w fun e w' => ∃ v, e = .returned v ∧ Num w' v (dval l * dval m) (n + n2) ∧ Ext w w' := by
  have HN := Lib.hid hn
  have HM := Lib.hid hn2
  have HL := Lib.hid hl
  have HL2 := Lib.hid hm
  have hst := ProdInv.start l m
  rw [hn, hn2] at hst
  replace hst := Lib.hid hst
  clear hl hn hm hn2
  go_enter Try.func81, Try.ntmps81
  go_wp2
  go_loopw [6, 7, 8, 9] (fun t _ _ _ wr => ∃ (i : Nat) (os : List Nat) (x : Nat × Array Obj), i ≤ n ∧ t = .int .i64 i ∧ wr = grw (w.alloc (.cells (icells os) 3)) x ∧ Hid (ProdInv l m os i)) (fun t _ _ _ _ => n - (intOf t).toNat)
  case atStart => exact ⟨0, List.replicate (n + n2) 0, _, Nat.zero_le _, rfl, grw_self _, hst⟩
  case round =>
    clear hst
    obtain ⟨i, os, x, hi, rfl, rfl, HP⟩ := hrel
    by_cases hlt : i < n
    · have hltI : (i : Int) < (n : Int) := by omega
      obtain ⟨ad, rfl, hcell⟩ := hr.at_ (k := i) (by rw [List.length_map, HN.out]; exact hlt)
      rw [List.getElem_map, ← dg_lt] at hcell
      have hEn := Lib.hid HP.out.enter
      have hms : n - (i + 1) < n - i := by omega
      clear HP
      go_upto_region 7 with fail
      go_loopw [7, 8, 9] (fun v7 v8 _ wr => ∃ (k c : Nat) (os : List Nat) (x : Nat × Array Obj), k ≤ n2 ∧ v7 = .int .i64 c ∧ v8 = .int .i64 k ∧ wr = grw (w.alloc (.cells (icells os) 3)) x ∧ Hid (ProdIn l m os i k c)) (fun _ v8 _ _ => n2 - (intOf v8).toNat)
      case atStart => exact ⟨0, 0, os, x, Nat.zero_le _, rfl, rfl, rfl, hEn⟩
      case round =>
        clear hEn
        obtain ⟨k, c, os, x, hk, rfl, rfl, rfl, HQ⟩ := hrel
        have hlen : (icells os).size = n + n2 := by rw [icells_size, HQ.out.len, HN.out, HM.out]
        by_cases hkt : k < n2
        · have hktI : (k : Int) < (n2 : Int) := by omega
          obtain ⟨bd, rfl, hcell2⟩ := hr2.at_ (k := k) (by rw [List.length_map, HM.out]; exact hkt)
          rw [List.getElem_map, ← dg_lt] at hcell2
          have h1 := HL.out.dg i
          have h2 := HL2.out.dg k
          have h3 := HQ.out.small.dg (i + k)
          have h4 := HQ.out.car
          have h5 := prod_le h3 h1 h2 h4
          have HS := Lib.hid (HQ.out.step HL.out HL2.out (by rw [HN.out]; exact hlt) (by rw [HM.out]; exact hkt))
          have hg0 := icells_get os (i := i + k) (by rw [HQ.out.len, HN.out, HM.out]; omega)
          obtain ⟨s, hs⟩ : ∃ s, s = i + k := ⟨_, rfl⟩
          have hsI : (i : Int) + (k : Int) = (s : Int) := by omega
          have hsn : s < n + n2 := by omega
          have hsnI : (s : Int) < (n : Int) + (n2 : Int) := by omega
          rw [← hs] at HS h3 h5 hg0
          generalize dg os s = p at *
          generalize dg l i = q at *
          generalize dg m k = r at *
          obtain ⟨y, hy⟩ : ∃ y, y = q * r := ⟨_, rfl⟩
          have hyI : (q : Int) * (r : Int) = (y : Int) := by rw [hy]; push_cast; rfl
          rw [← hy] at HS h5
          clear hs hy
          have hall : ∀ z : Nat, (grw (w.alloc (.cells (icells os) 3)) (z, x.2)).cell? (ad.add i) = some (iv q) := fun z => Ext.cell ((ext_alloc _ _).trans (grw_ext _ _)) hcell
          have hbll : ∀ z : Nat, (grw (w.alloc (.cells (icells os) 3)) (z, x.2)).cell? (bd.add k) = some (iv r) := fun z => Ext.cell ((ext_alloc _ _).trans (grw_ext _ _)) hcell2
          have hg2 : ∀ h : s < (icells os).size, (icells os)[s]'h = iv p := fun h => by rw [Array.getElem?_eq_getElem h] at hg0; exact Option.some.inj hg0
          have w1 : IntKind.i64.wrap (y : Int) = (y : Int) := IntWalk.i64_in _ (by omega)
          have w2 : IntKind.i64.wrap ((p : Int) + (y : Int)) = (p : Int) + (y : Int) := IntWalk.i64_in _ (by omega)
          have w3 : IntKind.i64.wrap ((p : Int) + (y : Int) + (c : Int)) = (p : Int) + (y : Int) + (c : Int) := IntWalk.i64_in _ (by omega)
          have hms2 : n2 - (k + 1) < n2 - k := by omega
          obtain ⟨T, hT⟩ : ∃ T, T = p + y + c := ⟨_, rfl⟩
          have hTI : (p : Int) + (y : Int) + (c : Int) = (T : Int) := by rw [hT]; push_cast; rfl
          rw [← hT] at HS h5
          have w4 : IntKind.i64.wrap (T : Int) = (T : Int) := IntWalk.i64_in _ (by omega)
          have d1 : (T : Int).tdiv 16777216 = ((T / 16777216 : Nat) : Int) := rfl
          have d2 : (T : Int).tmod 16777216 = ((T % 16777216 : Nat) : Int) := rfl
          obtain ⟨T1, hT1⟩ : ∃ T1, T1 = T / 16777216 := ⟨_, rfl⟩
          obtain ⟨T2, hT2⟩ : ∃ T2, T2 = T % 16777216 := ⟨_, rfl⟩
          rw [← hT1] at d1 HS
          rw [← hT2] at d2 HS
          have b1 : T1 < 16777216 := by omega
          have b2 : T2 < 16777216 := by omega
          have w5 : IntKind.i64.wrap (T1 : Int) = (T1 : Int) := IntWalk.i64_in _ (by omega)
          clear HQ h5 h1 h2 h3 h4 hT hT1 hT2
          go_upto_region 9 with fail
          go_region
          all_goals
            go_wp2
            refine ⟨⟨k + 1, T1, os.set s T2, _, hkt, by go_num, by go_num, by rw [← icells_set], HS⟩, by simp [intOf]; omega⟩
        · obtain rfl : k = n2 := by omega
          have HS := Lib.hid ((HM.out ▸ HQ.out : ProdIn l m os i m.length c).leave (by rw [HN.out]; exact hlt))
          rw [HM.out] at HS
          obtain ⟨s, hs⟩ : ∃ s, s = i + k := ⟨_, rfl⟩
          have hsI : (i : Int) + (k : Int) = (s : Int) := by omega
          have hsn : s < n + k := by omega
          have hsnI : (s : Int) < (n : Int) + (k : Int) := by omega
          rw [← hs] at HS
          clear hs HQ
          go_wp2
          refine ⟨⟨i + 1, os.set s c, _, hlt, by go_num, by rw [← icells_set], HS⟩, by simp [intOf]; omega⟩
    · obtain rfl : i = n := by omega
      have HV : Hid (dval os = dval l * dval m) := Lib.hid (by rw [HP.out.val, lo_all (Nat.le_of_eq HN.out)])
      have hlen : os.length = i + n2 := by rw [HP.out.len, HN.out, HM.out]
      have hrd : Rd (grw (w.alloc (.cells (icells os) 3)) x) (some ⟨w.heap.size, 0, none⟩) (os.map iv) := (rd_icells w os _).ext (grw_ext _ _)
      replace hlen := Lib.hid hlen
      go_wp2_with (go_at_call 80; with_reducible refine (cut_any _ (i + n2) (i + n2) os _ hlen.out HP.out.small hrd (by omega) (Nat.le_refl _)).mono ?_; rintro e w' ⟨r, rfl, hri, hrv, hrc, rfl⟩)
      go_ret
      exact ⟨_, rfl, Num.mk (by rw [List.length_take, hlen.out, Nat.min_eq_left hri]) hri (by rw [List.map_take]; exact hrd.take r) hrc (by rw [hrv, HV.out]) hri, (ext_alloc _ _).trans (grw_ext _ _)⟩
end Go.Proofs.Ytndohjgfjbopnaa
end
