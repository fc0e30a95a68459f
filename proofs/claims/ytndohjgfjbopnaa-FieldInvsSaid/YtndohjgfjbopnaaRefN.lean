/-
  Walks of the document's answer: the root.
-/
import Derived.Test.YtndohjgfjbopnaaRefM
set_option linter.unusedSimpArgs false
set_option linter.unusedVariables false
namespace Go.Proofs.Ytndohjgfjbopnaa
open Go.RowKit Go.Cv Go.Cv.Dig
theorem tmod2_1 {d r : Nat} (hd : d % 2 = r % 2) (hr : r % 2 = 1) : (d : Int).tmod 2 = 1 := by
  rw [show (d : Int).tmod 2 = ((d % 2 : Nat) : Int) from rfl, hd, hr]; rfl
theorem tmod2_0 {d r : Nat} (hd : d % 2 = r % 2) (hr : r % 2 = 0) : (d : Int).tmod 2 = 0 := by
  rw [show (d : Int).tmod 2 = ((d % 2 : Nat) : Int) from rfl, hd, hr]; rfl

set_option maxRecDepth 4000 in
set_option maxHeartbeats 8000000 in
theorem rroot_any (w0 : World) (va : Value) (x P : Nat) (hP : P = 2 ^ 255 - 19) (ha : Num w0 va x 11) (r0 r : Nat)
    (h0 : r0 = x ^ ((P + 3) / 2 / 2 / 2) % P) (h1 : (r0 * r0) % P = x → r = r0) (h2 : (r0 * r0) % P ≠ x → r = (r0 * (2 ^ ((P - 1) / 2 / 2) % P)) % P) :
    Calls Try.prog 20 #[va] w0 fun e w' => ∃ v, e = .returned (.tuple #[v, .bool (decide ((r * r) % P = x))]) ∧ ((r * r) % P = x → Num w' v (if r % 2 = 1 then (0 + 2 * P - r) % P else r) 11) ∧ Ext w0 w' := by
  have hp := p_num
  rw [← hP] at hp
  have HP := Lib.hid hP
  have hM : ∀ (w : World) (v1 v2 : Value) (x y : Nat), Num w v1 x 11 → Num w v2 y 11 → Calls Try.prog 26 #[v1, v2] w fun e w' => ∃ v, e = .returned v ∧ Num w' v ((x * y) % P) 11 ∧ Ext w w' := by
    rw [hP]; exact rmul_any
  have hS : ∀ (w : World) (v2 : Value) (y : Nat), Num w v2 y 11 → y < P → Calls Try.prog 24 #[.slice none 0 0, v2] w fun e w' => ∃ v, e = .returned v ∧ Num w' v ((0 + 2 * P - y) % P) 11 ∧ Ext w w' := by
    intro w v2 y h hy
    rw [hP] at hy ⊢
    exact rsub_any w _ v2 0 y (num_nil w) h (by omega)
  have hP3 : Hid (P + 3 < 16777216 ^ 11 ∧ 1 ≤ P) := Lib.hid (by rw [hP]; decide)
  have hrP : Hid (r < P) := Lib.hid (by
    have hpos : 0 < P := by rw [hP]; decide
    by_cases h : (r0 * r0) % P = x
    · rw [h1 h, h0]; exact Nat.mod_lt _ hpos
    · rw [h2 h]; exact Nat.mod_lt _ hpos)
  have H0 := Lib.hid h0
  have H1 := Lib.hid h1
  have H2 := Lib.hid h2
  clear h0 h1 h2 hP
  obtain ⟨q, hq⟩ : ∃ q, q = (if r % 2 = 1 then (0 + 2 * P - r) % P else r) := ⟨_, rfl⟩
  rw [← hq]
  replace hq := Lib.hid hq
  obtain ⟨kb, hkb⟩ : ∃ kb, kb = decide ((r * r) % P = x) := ⟨_, rfl⟩
  rw [← hkb]
  replace hkb := Lib.hid hkb
  obtain ⟨E, hE⟩ : ∃ E, E = (P + 3) / 2 / 2 / 2 := ⟨_, rfl⟩
  rw [← hE] at H0
  replace hE := Lib.hid hE
  go_enter Try.func20, Try.ntmps20
  go_wp2_with (first
    | (go_at_call 56; with_reducible refine (hp _).mono ?_; rintro e w1 ⟨v1, rfl, hv1, hx1⟩)
    | (go_at_call 65; with_reducible refine (plus_num _ v1 _ P 3 (hv1.ext (ext_alloc _ _)) (num_3 _ _) hP3.out.1).mono ?_; rintro e w2 ⟨v2, rfl, hv2, hx2⟩))
  have hx02 : Ext w0 w2 := hx1.trans ((ext_alloc _ _).trans hx2)
  clear hv1 hx1 hx2
  refine wp_loop_rounds 4 ?_
  rw [rounds_succ]
  go_wp2_with (go_at_call 66; with_reducible refine (half_num _ v2 _ hv2).mono ?_; rintro e w3 ⟨v3, b3, rfl, hv3, hx3⟩)
  rw [rounds_succ]
  go_wp2_with (go_at_call 66; with_reducible refine (half_num _ v3 _ hv3).mono ?_; rintro e w4 ⟨v4, b4, rfl, hv4, hx4⟩)
  rw [rounds_succ]
  go_wp2_with (go_at_call 66; with_reducible refine (half_num _ v4 _ hv4).mono ?_; rintro e w5 ⟨v5, b5, rfl, hv5, hx5⟩)
  rw [rounds_succ]
  have hx05 : Ext w0 w5 := hx02.trans (hx3.trans (hx4.trans hx5))
  rw [← hE.out] at hv5
  clear hv2 hv3 hv4 hx02 hx3 hx4 hx5
  go_upto_region 7 with (go_at_call 62; with_reducible refine (rpower_any _ va v5 x E P HP.out (ha.ext hx05) hv5).mono ?_; rintro e w6 ⟨v6, rfl, hv6, hx6⟩)
  have hx06 : Ext w0 w6 := hx05.trans hx6
  rw [← H0.out] at hv6
  clear hv5 hx05 hx6
  by_cases hc : (r0 * r0) % P = x
  · obtain rfl := H1.out hc
    have hc1 := Lib.hid hc
    clear hc
    by_cases hk : (r * r) % P = x
    · have hkt : kb = true := by rw [hkb.out]; exact decide_eq_true hk
      subst hkt
      replace hk := Lib.hid hk
      by_cases hodd : r % 2 = 1
      · go_wp2_with (first
          | (go_at_call 26; with_reducible refine (hM _ v6 v6 r r hv6 hv6).mono ?_; rintro e w7 ⟨v7, rfl, hv7, hx7⟩)
          | (go_at_call 36; with_reducible refine (cmp_num _ v7 va _ x hv7 (ha.ext (hx06.trans hx7))).mono ?_; rintro e w8 ⟨c8, rfl, hc8, -, hx8⟩; have hc9 := hc8 hc1.out; subst hc9; clear hc8; have hvr := hv6.ext (hx7.trans hx8); have hxr := hx06.trans (hx7.trans hx8))
          | (go_at_call 26; with_reducible refine (hM _ v6 v6 r r hvr hvr).mono ?_; rintro e w20 ⟨v20, rfl, hv20, hx20⟩)
          | (go_at_call 36; with_reducible refine (cmp_num _ v20 va _ x hv20 (ha.ext (hxr.trans hx20))).mono ?_; rintro e w21 ⟨c21, rfl, hc21, -, hx21⟩; have hc22 := hc21 hk.out; subst hc22; clear hc21)
          | (go_at_call 61; with_reducible refine (digit_num _ v6 r (hvr.ext (hx20.trans hx21))).mono ?_; rintro e w22 ⟨d, rfl, hd, hdl, rfl⟩; have t1 : (d : Int).tmod 2 = 1 := tmod2_1 hd hodd)
          | (go_at_call 24; with_reducible refine (hS _ v6 r (hvr.ext (hx20.trans hx21)) hrP.out).mono ?_; rintro e w23 ⟨v23, rfl, hv23, hx23⟩))
        go_ret2
        exact ⟨_, rfl, fun _ => by rw [hq.out, if_pos hodd]; exact hv23, hxr.trans (hx20.trans (hx21.trans hx23))⟩
      · have hod0 : r % 2 = 0 := by omega
        go_wp2_with (first
          | (go_at_call 26; with_reducible refine (hM _ v6 v6 r r hv6 hv6).mono ?_; rintro e w7 ⟨v7, rfl, hv7, hx7⟩)
          | (go_at_call 36; with_reducible refine (cmp_num _ v7 va _ x hv7 (ha.ext (hx06.trans hx7))).mono ?_; rintro e w8 ⟨c8, rfl, hc8, -, hx8⟩; have hc9 := hc8 hc1.out; subst hc9; clear hc8; have hvr := hv6.ext (hx7.trans hx8); have hxr := hx06.trans (hx7.trans hx8))
          | (go_at_call 26; with_reducible refine (hM _ v6 v6 r r hvr hvr).mono ?_; rintro e w20 ⟨v20, rfl, hv20, hx20⟩)
          | (go_at_call 36; with_reducible refine (cmp_num _ v20 va _ x hv20 (ha.ext (hxr.trans hx20))).mono ?_; rintro e w21 ⟨c21, rfl, hc21, -, hx21⟩; have hc22 := hc21 hk.out; subst hc22; clear hc21)
          | (go_at_call 61; with_reducible refine (digit_num _ v6 r (hvr.ext (hx20.trans hx21))).mono ?_; rintro e w22 ⟨d, rfl, hd, hdl, rfl⟩; have t1 : (d : Int).tmod 2 = 0 := tmod2_0 hd hod0))
        go_ret2
        exact ⟨_, rfl, fun _ => by rw [hq.out, if_neg hodd]; exact hvr.ext (hx20.trans hx21), hxr.trans (hx20.trans hx21)⟩
    · exact absurd hc1.out hk
  · have hr := Lib.hid (H2.out hc)
    have hc1 := Lib.hid hc
    clear hc
    by_cases hk : (r * r) % P = x
    · have hkt : kb = true := by rw [hkb.out]; exact decide_eq_true hk
      subst hkt
      replace hk := Lib.hid hk
      by_cases hodd : r % 2 = 1
      · go_wp2_with (first
          | (go_at_call 26; with_reducible refine (hM _ v6 v6 r0 r0 hv6 hv6).mono ?_; rintro e w7 ⟨v7, rfl, hv7, hx7⟩)
          | (go_at_call 36; with_reducible refine (cmp_num _ v7 va _ x hv7 (ha.ext (hx06.trans hx7))).mono ?_; rintro e w8 ⟨c8, rfl, -, hc8, hx8⟩; have hc9 := hc8 hc1.out; clear hc8)
          | (go_at_call 56; with_reducible refine (hp _).mono ?_; rintro e w9 ⟨v9, rfl, hv9, hx9⟩)
          | (go_at_call 63; with_reducible refine (less_num _ v9 _ P 1 (hv9.ext (ext_alloc _ _)) (num_1 _ _) hP3.out.2).mono ?_; rintro e w10 ⟨v10, rfl, hv10, hx10⟩)
          | (go_at_call 66; with_reducible refine (half_num _ v10 _ hv10).mono ?_; rintro e w11 ⟨v11, b11, rfl, hv11, hx11⟩)
          | (go_at_call 66; with_reducible refine (half_num _ v11 _ hv11).mono ?_; rintro e w12 ⟨v12, b12, rfl, hv12, hx12⟩)
          | (go_at_call 62; with_reducible refine (rpower_any _ _ v12 2 _ P HP.out (num_2 _ _) (hv12.ext (ext_alloc _ _))).mono ?_; rintro e w13 ⟨v13, rfl, hv13, hx13⟩)
          | (go_at_call 26; with_reducible refine (hM _ v6 v13 r0 _ (hv6.ext (hx7.trans (hx8.trans (hx9.trans ((ext_alloc _ _).trans (hx10.trans (hx11.trans (hx12.trans ((ext_alloc _ _).trans hx13))))))))) hv13).mono ?_; rintro e w14 ⟨v14, rfl, hv14, hx14⟩; have hvr := hr.out ▸ hv14; have hxr := hx06.trans (hx7.trans (hx8.trans (hx9.trans ((ext_alloc _ _).trans (hx10.trans (hx11.trans (hx12.trans ((ext_alloc _ _).trans (hx13.trans hx14))))))))))
          | (go_at_call 26; with_reducible refine (hM _ v14 v14 r r hvr hvr).mono ?_; rintro e w20 ⟨v20, rfl, hv20, hx20⟩)
          | (go_at_call 36; with_reducible refine (cmp_num _ v20 va _ x hv20 (ha.ext (hxr.trans hx20))).mono ?_; rintro e w21 ⟨c21, rfl, hc21, -, hx21⟩; have hc22 := hc21 hk.out; subst hc22; clear hc21)
          | (go_at_call 61; with_reducible refine (digit_num _ v14 r (hvr.ext (hx20.trans hx21))).mono ?_; rintro e w22 ⟨d, rfl, hd, hdl, rfl⟩; have t1 : (d : Int).tmod 2 = 1 := tmod2_1 hd hodd)
          | (go_at_call 24; with_reducible refine (hS _ v14 r (hvr.ext (hx20.trans hx21)) hrP.out).mono ?_; rintro e w23 ⟨v23, rfl, hv23, hx23⟩))
        go_ret2
        exact ⟨_, rfl, fun _ => by rw [hq.out, if_pos hodd]; exact hv23, hxr.trans (hx20.trans (hx21.trans hx23))⟩
      · have hod0 : r % 2 = 0 := by omega
        go_wp2_with (first
          | (go_at_call 26; with_reducible refine (hM _ v6 v6 r0 r0 hv6 hv6).mono ?_; rintro e w7 ⟨v7, rfl, hv7, hx7⟩)
          | (go_at_call 36; with_reducible refine (cmp_num _ v7 va _ x hv7 (ha.ext (hx06.trans hx7))).mono ?_; rintro e w8 ⟨c8, rfl, -, hc8, hx8⟩; have hc9 := hc8 hc1.out; clear hc8)
          | (go_at_call 56; with_reducible refine (hp _).mono ?_; rintro e w9 ⟨v9, rfl, hv9, hx9⟩)
          | (go_at_call 63; with_reducible refine (less_num _ v9 _ P 1 (hv9.ext (ext_alloc _ _)) (num_1 _ _) hP3.out.2).mono ?_; rintro e w10 ⟨v10, rfl, hv10, hx10⟩)
          | (go_at_call 66; with_reducible refine (half_num _ v10 _ hv10).mono ?_; rintro e w11 ⟨v11, b11, rfl, hv11, hx11⟩)
          | (go_at_call 66; with_reducible refine (half_num _ v11 _ hv11).mono ?_; rintro e w12 ⟨v12, b12, rfl, hv12, hx12⟩)
          | (go_at_call 62; with_reducible refine (rpower_any _ _ v12 2 _ P HP.out (num_2 _ _) (hv12.ext (ext_alloc _ _))).mono ?_; rintro e w13 ⟨v13, rfl, hv13, hx13⟩)
          | (go_at_call 26; with_reducible refine (hM _ v6 v13 r0 _ (hv6.ext (hx7.trans (hx8.trans (hx9.trans ((ext_alloc _ _).trans (hx10.trans (hx11.trans (hx12.trans ((ext_alloc _ _).trans hx13))))))))) hv13).mono ?_; rintro e w14 ⟨v14, rfl, hv14, hx14⟩; have hvr := hr.out ▸ hv14; have hxr := hx06.trans (hx7.trans (hx8.trans (hx9.trans ((ext_alloc _ _).trans (hx10.trans (hx11.trans (hx12.trans ((ext_alloc _ _).trans (hx13.trans hx14))))))))))
          | (go_at_call 26; with_reducible refine (hM _ v14 v14 r r hvr hvr).mono ?_; rintro e w20 ⟨v20, rfl, hv20, hx20⟩)
          | (go_at_call 36; with_reducible refine (cmp_num _ v20 va _ x hv20 (ha.ext (hxr.trans hx20))).mono ?_; rintro e w21 ⟨c21, rfl, hc21, -, hx21⟩; have hc22 := hc21 hk.out; subst hc22; clear hc21)
          | (go_at_call 61; with_reducible refine (digit_num _ v14 r (hvr.ext (hx20.trans hx21))).mono ?_; rintro e w22 ⟨d, rfl, hd, hdl, rfl⟩; have t1 : (d : Int).tmod 2 = 0 := tmod2_0 hd hod0))
        go_ret2
        exact ⟨_, rfl, fun _ => by rw [hq.out, if_neg hodd]; exact hvr.ext (hx20.trans hx21), hxr.trans (hx20.trans hx21)⟩
    · have hkt : kb = false := by rw [hkb.out]; exact decide_eq_false hk
      subst hkt
      replace hk := Lib.hid hk
      go_wp2_with (first
        | (go_at_call 26; with_reducible refine (hM _ v6 v6 r0 r0 hv6 hv6).mono ?_; rintro e w7 ⟨v7, rfl, hv7, hx7⟩)
        | (go_at_call 36; with_reducible refine (cmp_num _ v7 va _ x hv7 (ha.ext (hx06.trans hx7))).mono ?_; rintro e w8 ⟨c8, rfl, -, hc8, hx8⟩; have hc9 := hc8 hc1.out; clear hc8)
        | (go_at_call 56; with_reducible refine (hp _).mono ?_; rintro e w9 ⟨v9, rfl, hv9, hx9⟩)
        | (go_at_call 63; with_reducible refine (less_num _ v9 _ P 1 (hv9.ext (ext_alloc _ _)) (num_1 _ _) hP3.out.2).mono ?_; rintro e w10 ⟨v10, rfl, hv10, hx10⟩)
        | (go_at_call 66; with_reducible refine (half_num _ v10 _ hv10).mono ?_; rintro e w11 ⟨v11, b11, rfl, hv11, hx11⟩)
        | (go_at_call 66; with_reducible refine (half_num _ v11 _ hv11).mono ?_; rintro e w12 ⟨v12, b12, rfl, hv12, hx12⟩)
        | (go_at_call 62; with_reducible refine (rpower_any _ _ v12 2 _ P HP.out (num_2 _ _) (hv12.ext (ext_alloc _ _))).mono ?_; rintro e w13 ⟨v13, rfl, hv13, hx13⟩)
        | (go_at_call 26; with_reducible refine (hM _ v6 v13 r0 _ (hv6.ext (hx7.trans (hx8.trans (hx9.trans ((ext_alloc _ _).trans (hx10.trans (hx11.trans (hx12.trans ((ext_alloc _ _).trans hx13))))))))) hv13).mono ?_; rintro e w14 ⟨v14, rfl, hv14, hx14⟩; have hvr := hr.out ▸ hv14; have hxr := hx06.trans (hx7.trans (hx8.trans (hx9.trans ((ext_alloc _ _).trans (hx10.trans (hx11.trans (hx12.trans ((ext_alloc _ _).trans (hx13.trans hx14))))))))))
        | (go_at_call 26; with_reducible refine (hM _ v14 v14 r r hvr hvr).mono ?_; rintro e w20 ⟨v20, rfl, hv20, hx20⟩)
        | (go_at_call 36; with_reducible refine (cmp_num _ v20 va _ x hv20 (ha.ext (hxr.trans hx20))).mono ?_; rintro e w21 ⟨c21, rfl, -, hc21, hx21⟩; have hc22 := hc21 hk.out; clear hc21))
      all_goals
        go_ret2
        exact ⟨_, rfl, fun h => absurd h hk.out, hxr.trans (hx20.trans hx21)⟩
end Go.Proofs.Ytndohjgfjbopnaa
