/-
  Walks of the document's answer: a number modulo the prime.
-/
import Derived.Test.YtndohjgfjbopnaaRefH
import Derived.Deep.RegionLaw
set_option linter.unusedSimpArgs false
set_option linter.unusedVariables false
namespace Go.Cv
/-- The least number of which P holds. -/
theorem least_ex (P : Nat → Prop) (h : ∃ n, P n) : ∃ n, P n ∧ ∀ m, P m → n ≤ m := by
  obtain ⟨n, hn⟩ := h
  induction n using Nat.strongRecOn with
  | ind n ih =>
    by_cases h2 : ∃ m, m < n ∧ P m
    · obtain ⟨m, hm, hp⟩ := h2
      exact ih m hm hp
    · exact ⟨n, hn, fun m hm => Nat.le_of_not_lt fun hl => h2 ⟨m, hl, hm⟩⟩
open Classical in
noncomputable def leastN (P : Nat → Prop) : Nat := if h : ∃ n, P n then Classical.choose (least_ex P h) else 0
theorem leastN_spec {P : Nat → Prop} (h : ∃ n, P n) : P (leastN P) := by
  unfold leastN; rw [dif_pos h]; exact (Classical.choose_spec (least_ex P h)).1
theorem leastN_lt {P : Nat → Prop} {m k : Nat} (h : P m) (hk : m < k) : leastN P < k := by
  have e : ∃ n, P n := ⟨m, h⟩
  unfold leastN; rw [dif_pos e]; exact Nat.lt_of_le_of_lt ((Classical.choose_spec (least_ex P e)).2 m h) hk
end Go.Cv
namespace Go.Cv.Dig
open Go.RowKit
/-- What a round of Mod makes of eleven digits. -/
theorem mod_split {m : List Nat} (hc : Canon m) (hl : m.length = 11) :
    ∃ y, dval (m.take 10 ++ [dg m 10 % 32768]) = y ∧ y < 2 ^ 255 ∧ dval m = y + 2 ^ 255 * (dg m 10 / 32768) := by
  have h10 := hc.1.dg 10
  have h1 := lo_hi m (i := 10) (by omega)
  have h2 : hi m 10 = dg m 10 := by
    rw [hi_cons (by omega)]
    unfold hi
    rw [List.drop_of_length_le (by omega)]
    simp [dval]
  have h3 := lo_lt hc.1 10
  refine ⟨_, rfl, ?_⟩
  have h4 : dval (m.take 10 ++ [dg m 10 % 32768]) = lo m 10 + 16777216 ^ 10 * (dg m 10 % 32768) := by
    rw [dval_snoc, List.length_take, hl]; rfl
  rw [h4, h1, h2]
  have h5 := Nat.mod_lt (dg m 10) (show 0 < 32768 by decide)
  have h6 := Nat.mod_add_div (dg m 10) 32768
  generalize dg m 10 % 32768 = r at *
  generalize dg m 10 / 32768 = q at *
  rw [← h6]
  rw [← h6] at h10
  omega
theorem mod_step {x y h N : Nat} (e : x = y + 2 ^ 255 * h) (hh : 0 < h) (hb : h < 512) (hy : y < 2 ^ 255) (hm : x % (2 ^ 255 - 19) = N) :
    (y + 19 * h) % (2 ^ 255 - 19) = N ∧ y + 19 * h < x ∧ y + 19 * h < 16777216 ^ 11 := by
  refine ⟨?_, by omega, by omega⟩
  rw [← hm, e]
  have e2 : y + 2 ^ 255 * h = y + 19 * h + (2 ^ 255 - 19) * h := by omega
  rw [e2, Nat.add_mul_mod_self_left]
theorem small_low {m : List Nat} (hc : Canon m) : Small (m.take 10 ++ [dg m 10 % 32768]) := (hc.1.take 10).snoc (by omega)
theorem low_map (m : List Nat) (d : Nat) : (m.take 10).map iv ++ [iv d] = (m.take 10 ++ [d]).map iv := by simp
theorem dval_lt11 {m : List Nat} (hc : Canon m) (h : m.length < 11 ∨ m.length = 11 ∧ dg m 10 < 32768) : dval m < 2 ^ 255 := by
  rcases h with h | ⟨h, h2⟩
  · have := pdig_lt hc (.inl h); omega
  · obtain ⟨y, h3, h4, h5⟩ := mod_split hc h
    rw [Nat.div_eq_of_lt h2] at h5
    omega
theorem Canon.of_snoc {d : Nat} (h : d < 16777216) : Small [d] := fun x hx => by rw [List.mem_singleton.1 hx]; exact h
theorem dval_one (d : Nat) : dval [d] = d := by simp [dval]
end Go.Cv.Dig
namespace Go.Proofs.Ytndohjgfjbopnaa
open Go.RowKit Go.Cv Go.Cv.Dig
theorem Num.parts {w : World} {v : Value} {x N : Nat} (h : Num w v x N) : ∃ A n c l, v = .slice A n c ∧ l.length = n ∧ n ≤ c ∧ Rd w A (l.map iv) ∧ Canon l ∧ dval l = x ∧ n ≤ N := h
theorem Num.short {w : World} {v : Value} {x N M : Nat} (h : Num w v x N) (hx : x < 16777216 ^ M) : Num w v x M := by
  obtain ⟨A, n, c, l, rfl, hn, hc, hr, hl, rfl, hN⟩ := h
  exact Num.mk hn hc hr hl rfl (by rw [← hn]; exact hl.len_le hx)
theorem cell_new_one (w : World) (v : Value) (t : TypeId) : (w.alloc (.cells #[v] t)).cell? ⟨w.heap.size, 0, none⟩ = some v := by
  obtain ⟨ad, h1, h2⟩ := (rd_new_one w v t).at_ (k := 0) (by simp)
  cases h1
  exact h2
theorem take_one (q : Nat) {r : Nat} (h : r ≤ 1) : ([q].take r).length = r := by
  rw [List.length_take]; exact Nat.min_eq_left h
theorem cell_19 (w : World) (t : TypeId) : (w.alloc (.cells #[.int .i64 19] t)).cell? ⟨w.heap.size, 0, none⟩ = some (iv 19) := cell_new_one w _ t
theorem digit_past (A : Option Addr) (cap : Nat) (l : List Nat) (w : World) (hn : l.length = 11) (hr : Rd w A (l.map iv)) :
    Calls Try.prog 61 #[.slice A 11 cap, .int .i64 11] w fun e w' => e = .returned (.int .i64 0) ∧ w' = w := by
  refine (digit_any A 11 cap l 11 w hn hr (by decide) (by decide)).mono ?_
  rintro e w' ⟨rfl, rfl⟩
  rw [dg_ge (by omega)]
  exact ⟨rfl, rfl⟩

set_option maxRecDepth 20000 in
set_option maxHeartbeats 4000000 in
theorem mod_any (w : World) (v0 : Value) (x0 : Nat) (h0 : Num w v0 x0 11) :
    Calls Try.prog 60 #[v0] w fun e w' => ∃ v, e = .returned v ∧ Num w' v (x0 % (2 ^ 255 - 19)) 11 ∧ Ext w w' := by
  obtain ⟨A0, n0, cap0, l0, rfl, h0⟩ := h0
  replace h0 : Hid (Num w (.slice A0 n0 cap0) x0 11) := Lib.hid ⟨A0, n0, cap0, l0, rfl, h0⟩
  obtain ⟨N, hN⟩ : ∃ N, N = x0 % (2 ^ 255 - 19) := ⟨_, rfl⟩
  rw [← hN]
  replace hN := Lib.hid hN
  go_enter Try.func60, Try.ntmps60
  go_wp2
  obtain ⟨R, hR⟩ : ∃ R : World → Value → Nat → Prop, R = fun wr v x => Num wr v x 11 ∧ Ext w wr ∧ Hid (x % (2 ^ 255 - 19) = N) := ⟨_, rfl⟩
  replace hR := Lib.hid hR
  go_loopw [0] (fun v wr => ∃ x, R wr v x) (fun v wr => leastN (R wr v))
  case atStart => exact ⟨x0, by rw [hR.out]; exact ⟨h0.out, Ext.refl _, Lib.hid hN.out.symm⟩⟩
  case round =>
    have hsp := leastN_spec hrel
    clear hrel
    obtain ⟨x, hx⟩ : ∃ x, x = leastN (R wr u0) := ⟨_, rfl⟩
    rw [← hx, hR.out] at hsp
    replace hx := Lib.hid hx
    obtain ⟨hnum, hE, HX⟩ := hsp
    obtain ⟨A, n, c, m, rfl, hn, hc, hr, hcan, hval, hle⟩ := hnum
    have HN := Lib.hid hn
    have HC := Lib.hid hcan
    have HV := Lib.hid hval
    clear hn hcan hval
    by_cases h11 : n < 11
    · have HB := Lib.hid (dval_lt11 HC.out (.inl (by rw [HN.out]; exact h11)))
      go_wp2_with (go_at_call 91; with_reducible refine (below_any A n c m _ HN.out HC.out HB.out hr hle hc).mono ?_; rintro e w' ⟨v, rfl, hv, hx'⟩)
      go_ret
      exact ⟨_, rfl, by rw [HV.out, HX.out] at hv; exact hv, hE.trans hx'⟩
    · obtain rfl : n = 11 := by omega
      obtain ⟨ad, rfl, hcell⟩ := hr.at_ (k := 10) (by rw [List.length_map, HN.out]; decide)
      have hd10 := dg_lt (l := m) (i := 10) (by rw [HN.out]; decide)
      rw [List.getElem_map, ← hd10] at hcell
      clear hd10
      replace hcell : wr.cell? ⟨ad.block, ad.off + 10, none⟩ = some (iv (dg m 10)) := by
        have e : ad.add 10 = ⟨ad.block, ad.off + 10, none⟩ := by unfold Addr.add; rfl
        rw [← e]; exact hcell
      by_cases hd : dg m 10 < 32768
      · have HB := Lib.hid (dval_lt11 HC.out (.inr ⟨HN.out, hd⟩))
        have hd' : decide ((32768 : Int) ≤ (dg m 10 : Int)) = false := decide_eq_false (by omega)
        go_wp2_with (go_at_call 91; with_reducible refine (below_any (some ad) 11 c m _ HN.out HC.out HB.out hr hle hc).mono ?_; rintro e w' ⟨v, rfl, hv, hx'⟩)
        go_ret
        exact ⟨_, rfl, by rw [HV.out, HX.out] at hv; exact hv, hE.trans hx'⟩
      · have hd' : decide ((32768 : Int) ≤ (dg m 10 : Int)) = true := decide_eq_true (by omega)
        have hds := HC.out.1.dg 10
        obtain ⟨y, hy, hyb, hys⟩ := mod_split HC.out HN.out
        have HY := Lib.hid hy
        have HS := Lib.hid (mod_step (N := N) hys (by omega) (by omega) hyb (by rw [HV.out, HX.out]))
        clear hy hyb hys
        obtain ⟨r, hrr⟩ : ∃ r, r = dg m 10 % 32768 := ⟨_, rfl⟩
        have t1 : (dg m 10 : Int).tmod 32768 = (r : Int) := by rw [hrr]; rfl
        obtain ⟨q, hq⟩ : ∃ q, q = dg m 10 / 32768 := ⟨_, rfl⟩
        have t2 : IntKind.i64.wrap ((dg m 10 : Int) / 32768) = (q : Int) := by rw [IntWalk.i64_in _ (by omega), hq]; rfl
        have hq1 : q < 512 := by omega
        rw [← hrr] at HY
        rw [← hq] at HS
        have HSM : Hid (Small (m.take 10 ++ [r])) := Lib.hid (hrr ▸ small_low HC.out)
        clear hrr hq
        have HL10 : Hid (((m.take 10).map iv).length = 10) := Lib.hid (by rw [List.length_map, List.length_take, HN.out]; rfl)
        go_wp2_with (first
          | (at_builtin; refine wpList_app0 rfl (.tmp 20) (.tmp 22) 28 3 8 rfl introw rfl _ 10 _ ((m.take 10).map iv) rfl HL10.out (by rw [List.map_take]; exact hr.take 10) (one_map_iv _) (by simp [maxLen]) (by omega) ?_; intro A1 c1 w1 ho1 hc1 hm1 hr1 hx1; have hcell1 := Ext.cell hx1 hcell)
          | (at_builtin; refine wpList_app rfl (.tmp 24) (.tmp 29) 28 3 8 rfl introw wr.heap.size _ 10 _ rfl (own_ext ho1 (ext_alloc _ _)) _ 1 1 [iv r] rfl rfl (rd_new_one _ _ _) (one_map_iv [_]) (by simp [maxLen]) (by omega) (hx1.trans (ext_alloc _ _)).size ?_; intro A2 c2 w2 ho2 hc2 hm2 hr2 hE2 hg2; have hx2 := hE2 wr (hx1.trans (ext_alloc _ _)) (Nat.le_refl _); clear hE2 hg2))
        rw [low_map] at hr2
        have hcell2 := Ext.cell hx2 hcell
        have HQ1 : Hid (Small [q]) := Lib.hid (Canon.of_snoc (by omega))
        have HLL : Hid ((m.take 10 ++ [r]).length = 11) := Lib.hid (by rw [List.length_append, List.length_take, HN.out]; rfl)
        have hdig := (digit_past (some ad) c m w2.drew HN.out ((hr.ext hx2).drew))
        have w11 : IntKind.i64.wrap 11 = 11 := by decide
        have w00 : IntKind.i64.wrap 0 = 0 := by decide
        have wqq : IntKind.i64.wrap (q : Int) = (q : Int) := IntWalk.i64_in _ (by omega)
        clear hcell hcell1 hr1
        refine wp_loop_rounds 2 ?_
        rw [rounds_succ]
        go_wp2
        go_region_law (first
          | (go_simp; go_at_call 61; (with_reducible refine Calls.mono hdig ?_); rintro e w' ⟨rfl, rfl⟩)
          | (refine step_app rfl (.tmp 37) (.tmp 50) 28 3 8 rfl introw w2.heap.size (.slice none 0 0) 0 [] rfl (World.ownsRow_nil _ _ _ 1) _ 1 1 [iv q] rfl rfl (rd_new_one _ _ _).drew (one_map_iv [_]) (by simp [maxLen]) (by omega) (by simp) ?_; intro A3 c3 w3 ho3 hc3 hm3 hr3 hE3 hg3))
        all_goals
          have hx3 : Ext w2 w3 := hE3 w2 ((ext_alloc _ _).trans (ext_drew _)) (Nat.le_refl _)
          have hcell3 := Ext.cell hx3 hcell2
          have hlow := hr2.ext hx3
          replace hr3 : Rd w3 A3 ([q].map iv) := hr3
          have htk : ∀ r, Rd w3 A3 (([q].take r).map iv) := fun r => by rw [List.map_take]; exact hr3.take r
          have hlk : ∀ r1, Rd w3 A2 (((m.take 10 ++ [r]).take r1).map iv) := fun r1 => by rw [List.map_take]; exact hlow.take r1
          clear hE3 hg3 hcell2
          go_wp2
          rw [rounds_succ]
          go_wp2_with (first
            | (go_at_call 80; with_reducible refine (cut_any A2 11 c2 (m.take 10 ++ [r]) _ HLL.out HSM.out hlow (by decide) hc2).mono ?_; rintro e w' ⟨r1, rfl, hr11, hrv1, hrc1, rfl⟩)
            | (go_at_call 80; with_reducible refine (cut_any A3 1 c3 [q] _ rfl HQ1.out hr3 (by decide) hc3).mono ?_; rintro e w' ⟨r2, rfl, hr22, hrv2, hrc2, rfl⟩)
            | (go_at_call 81; with_reducible refine (nine_any A3 _ r2 c3 1 ([q].take r2) _ (take_one q hr22) hrc2 ((htk r2).ext (ext_alloc _ _)) (cell_19 _ _) (by omega)).mono ?_; rintro e w4 ⟨v4, rfl, hnum4, hx4⟩; obtain ⟨B, nb, cb, lb, rfl, hnb, hcb, hrb, hcanb, hvb, hleb⟩ := Num.parts hnum4)
            | (go_at_call 65; with_reducible refine (plus_any A2 B r1 nb c2 cb ((m.take 10 ++ [r]).take r1) lb _ (by rw [List.length_take, HLL.out, Nat.min_eq_left hr11]) hnb hrc1 hcanb ((hlk r1).ext ((ext_alloc _ _).trans hx4)) hrb (by omega) (by omega)).mono ?_; rintro e w5 ⟨v5, rfl, hnum5, hx5⟩))
          rw [hvb, hrv1, hrv2, HY.out, dval_one] at hnum5
          have hfin : R w5 v5 (y + 19 * q) := by
            rw [hR.out]
            exact ⟨hnum5.short HS.out.2.2, hE.trans (hx2.trans (hx3.trans ((ext_alloc _ _).trans (hx4.trans hx5)))), Lib.hid HS.out.1⟩
          refine ⟨⟨_, hfin⟩, ?_⟩
          have hl := leastN_lt hfin (k := x) (by rw [← HV.out]; exact HS.out.2.1)
          rw [hx.out] at hl
          exact hl
end Go.Proofs.Ytndohjgfjbopnaa
