/-
  Walks: comparing by the document's answer; the statement UtfCmps.
-/
import Derived.Test.YthdniboajbhhiaaDoorUtfO
import Derived.BigQuiet
set_option linter.unusedSimpArgs false
set_option linter.unusedVariables false
namespace Go.Cv.Utf
theorem cmpL_nil_right (a : Nat) (l : List Nat) : cmpL (a :: l) [] = 1 := rfl
theorem cmpL_drop {x y : List Nat} {i : Nat} (hx : i < x.length) (hy : i < y.length) :
    cmpL (x.drop i) (y.drop i) = if x[i] < y[i] then -1 else if y[i] < x[i] then 1 else cmpL (x.drop (i + 1)) (y.drop (i + 1)) := by
  rw [List.drop_eq_getElem_cons hx, List.drop_eq_getElem_cons hy]; rfl
theorem cmpL_short {x y : List Nat} {i : Nat} (hx : x.length ≤ i) (hy : i < y.length) : cmpL (x.drop i) (y.drop i) = -1 := by
  rw [List.drop_of_length_le hx, List.drop_eq_getElem_cons hy]; rfl
theorem cmpL_long {x y : List Nat} {i : Nat} (hx : i < x.length) (hy : y.length ≤ i) : cmpL (x.drop i) (y.drop i) = 1 := by
  rw [List.drop_of_length_le hy, List.drop_eq_getElem_cons hx]; rfl
theorem cmpL_both {x y : List Nat} {i : Nat} (hx : x.length ≤ i) (hy : y.length ≤ i) : cmpL (x.drop i) (y.drop i) = 0 := by
  rw [List.drop_of_length_le hx, List.drop_of_length_le hy]; rfl
theorem cmpL_three : ∀ l m, cmpL l m = -1 ∨ cmpL l m = 0 ∨ cmpL l m = 1
  | [], [] => .inr (.inl rfl)
  | [], _ :: _ => .inl rfl
  | _ :: _, [] => .inr (.inr rfl)
  | a :: l, b :: m => by
    rw [cmpL_head]
    split
    · exact .inl rfl
    · split
      · exact .inr (.inr rfl)
      · exact cmpL_three l m
theorem ptsFrom_len (s : ByteArray) : ∀ f pos, (ptsFrom s f pos).length ≤ f
  | 0, _ => Nat.le_refl _
  | f + 1, pos => by
    simp only [ptsFrom]
    split
    · have := ptsFrom_len s f (pos + (Utf8.decode s pos).2)
      simp only [List.length_cons]; omega
    · simp
theorem pts_len (s : ByteArray) : (pts s).length ≤ s.size := ptsFrom_len s _ _
end Go.Cv.Utf
namespace Go.Proofs.YthdniboajbhhiaaDoor
open Go.RowKit Go.Cv Go.Cv.Utf Go.Cv.Dig

set_option maxRecDepth 8000 in
set_option maxHeartbeats 8000000 in
theorem refcmp_any (a b : ByteArray) (w : World) (ha : badAt a = -1) (hb : badAt b = -1) (hsa : a.size ≤ 2000000) (hsb : b.size ≤ 2000000) :
    Calls Tryd.prog 12 #[.string a, .string b] w fun e w' => e = .returned (.int .i64 (cmpL (pts a) (pts b))) ∧ Ext w w' := by
  have hpa : ∀ w, Calls Tryd.prog 19 #[.string a] w fun e w' => ∃ v z, e = .returned (.tuple #[v, .int .i64 z]) ∧ Ints w' v (pts a) ∧ Ext w w' := fun w =>
    (refpoints_any a w hsa).mono fun e w' ⟨v, h1, ⟨l, h2, h3⟩, hx⟩ => ⟨v, _, h1, h3 ha ▸ h2, hx⟩
  have hpb : ∀ w, Calls Tryd.prog 19 #[.string b] w fun e w' => ∃ v z, e = .returned (.tuple #[v, .int .i64 z]) ∧ Ints w' v (pts b) ∧ Ext w w' := fun w =>
    (refpoints_any b w hsb).mono fun e w' ⟨v, h1, ⟨l, h2, h3⟩, hx⟩ => ⟨v, _, h1, h3 hb ▸ h2, hx⟩
  have hla := pts_len a
  have hlb := pts_len b
  clear ha hb
  generalize pts a = x at *
  generalize pts b = y at *
  obtain ⟨Z, hZ⟩ : ∃ Z, Z = cmpL x y := ⟨_, rfl⟩
  rw [← hZ]
  replace hZ := Lib.hid hZ
  go_enter Tryd.func12, Tryd.ntmps12
  go_wp2_with (first
    | (go_at_call 19; with_reducible refine (hpa _).mono ?_; rintro e w1 ⟨v1, z1, rfl, hi1, hx1⟩)
    | (go_at_call 19; with_reducible refine (hpb _).mono ?_; rintro e w2 ⟨v2, z2, rfl, hi2, hx2⟩))
  replace hi1 := hi1.ext hx2
  obtain ⟨A, n, c, rfl, hn, hc, hr⟩ := hi1
  obtain ⟨B, m, c2, rfl, hm, hc2, hr2⟩ := hi2
  have hxx : Ext w w2 := hx1.trans hx2
  have HN := Lib.hid hn
  have HM := Lib.hid hm
  have hnb : n ≤ 2000000 := by omega
  have hmb : m ≤ 2000000 := by omega
  clear hn hm hx1 hx2 hla hlb
  go_loopw [9] (fun t wr => ∃ i : Nat, i ≤ n ∧ i ≤ m ∧ t = .int .i64 i ∧ Ext w2 wr ∧ Hid (cmpL (x.drop i) (y.drop i) = Z)) (fun t _ => n - (intOf t).toNat)
  case atStart => exact ⟨0, by omega, by omega, rfl, Ext.refl _, Lib.hid (by rw [List.drop_zero, List.drop_zero, hZ.out])⟩
  case round =>
    obtain ⟨i, hin, him, rfl, hE, hc0⟩ := hrel
    by_cases h1 : i < n
    · have h1' : (i : Int) < (n : Int) := by omega
      by_cases h2 : i < m
      · have h2' : (i : Int) < (m : Int) := by omega
        obtain ⟨ad, rfl, hcell⟩ := (hr.ext hE).at_ (k := i) (by rw [List.length_map, HN.out]; exact h1)
        obtain ⟨bd, rfl, hcell2⟩ := (hr2.ext hE).at_ (k := i) (by rw [List.length_map, HM.out]; exact h2)
        rw [List.getElem_map] at hcell hcell2
        have hd := Lib.hid ((cmpL_drop (x := x) (y := y) (i := i) (by rw [HN.out]; exact h1) (by rw [HM.out]; exact h2)).symm.trans hc0.out)
        generalize x[i]'(by rw [HN.out]; exact h1) = p at *
        generalize y[i]'(by rw [HM.out]; exact h2) = q at *
        obtain ⟨xg, rfl⟩ := grw_of_ext hE
        clear hE hc0
        by_cases hpq : p < q
        · have hpq' : (p : Int) < (q : Int) := by omega
          have hd2 : Hid (Z = -1) := Lib.hid (by have := hd.out; rw [if_pos hpq] at this; exact this.symm)
          go_wp2
          go_quiet (fail)
          go_wp2
          rw [hd2.out]
          go_ret
          exact ⟨rfl, hxx.trans (by (repeat (first | exact grw_ext _ _ | exact Ext.refl _ | refine Ext.drewN ?_ _ | refine Ext.trans ?_ (ext_drew _))))⟩
        · have hpq' : ¬ (p : Int) < (q : Int) := by omega
          by_cases hqp : q < p
          · have hqp' : (q : Int) < (p : Int) := by omega
            have hd2 : Hid (Z = 1) := Lib.hid (by have := hd.out; rw [if_neg hpq, if_pos hqp] at this; exact this.symm)
            go_wp2
            go_quiet (fail)
            go_wp2
            go_quiet (fail)
            go_wp2
            rw [hd2.out]
            go_ret
            exact ⟨rfl, hxx.trans (by (repeat (first | exact grw_ext _ _ | exact Ext.refl _ | refine Ext.drewN ?_ _ | refine Ext.trans ?_ (ext_drew _))))⟩
          · have hqp' : ¬ (q : Int) < (p : Int) := by omega
            have hd2 : Hid (cmpL (x.drop (i + 1)) (y.drop (i + 1)) = Z) := Lib.hid (by have := hd.out; rw [if_neg hpq, if_neg hqp] at this; exact this)
            go_wp2
            go_quiet (fail)
            go_wp2
            go_quiet (fail)
            go_wp2
            exact ⟨⟨i + 1, by omega, by omega, by go_num, by (repeat (first | exact grw_ext _ _ | exact Ext.refl _ | refine Ext.drewN ?_ _ | refine Ext.trans ?_ (ext_drew _))), hd2⟩, by simp [intOf]; omega⟩
      · obtain rfl : i = m := by omega
        have hd2 : Hid (Z = 1) := Lib.hid (by rw [← hc0.out, cmpL_long (by rw [HN.out]; exact h1) (by rw [HM.out]; exact Nat.le_refl _)])
        have h3' : ¬ (n : Int) < (i : Int) := by omega
        go_wp2
        rw [hd2.out]
        go_ret
        exact ⟨rfl, hxx.trans hE⟩
    · obtain rfl : i = n := by omega
      by_cases h2 : i < m
      · have h2' : (i : Int) < (m : Int) := by omega
        have hd2 : Hid (Z = -1) := Lib.hid (by rw [← hc0.out, cmpL_short (by rw [HN.out]; exact Nat.le_refl _) (by rw [HM.out]; exact h2)])
        go_wp2
        rw [hd2.out]
        go_ret
        exact ⟨rfl, hxx.trans hE⟩
      · obtain rfl : i = m := by omega
        have hd2 : Hid (Z = 0) := Lib.hid (by rw [← hc0.out, cmpL_both (by rw [HN.out]; exact Nat.le_refl _) (by rw [HM.out]; exact Nat.le_refl _)])
        go_wp2
        rw [hd2.out]
        go_ret
        exact ⟨rfl, hxx.trans hE⟩

set_option maxHeartbeats 8000000 in
theorem cmps_any (a b : ByteArray) (w : World) (hT : Lib.Utf8Tabs 2 3 w) (bnd : a.size + b.size ≤ 1048576) :
    Calls Tryd.prog 3 #[.string a, .string b] w fun e w' => e = .returned (.bool true) ∧ Ext w w' := by
  have hs := shown_any w hT
  have hsa : a.size ≤ 2000000 := by omega
  have hsb : b.size ≤ 2000000 := by omega
  have hba := fun w => refbad_any a w hsa
  have hbb := fun w => refbad_any b w hsb
  by_cases hab : badAt a = -1 ∧ badAt b = -1
  · obtain ⟨ha, hb⟩ := hab
    have h1 := fun w h => cmp_ok a b w h ha hb
    have h2 := fun w h => cmp_ok b a w h hb ha
    have h3 := fun w => refcmp_any a b w ha hb hsa hsb
    rw [compare_pts ha hb] at h1
    rw [compare_pts hb ha, cmpL_neg] at h2
    rw [ha] at hba
    rw [hb] at hbb
    have hZ2 : cmpL (pts a) (pts b) = -1 ∨ cmpL (pts a) (pts b) = 0 ∨ cmpL (pts a) (pts b) = 1 := cmpL_three _ _
    generalize cmpL (pts a) (pts b) = Z at *
    clear ha hb
    have hw : IntKind.i64.wrap (-Z) = -Z := IntWalk.i64_in _ (by omega)
    go_enter Tryd.func3, Tryd.ntmps3
    go_wp2_with (first
      | (go_at_call 9; with_reducible refine hs.mono ?_; rintro e w1 ⟨rfl, hx1⟩)
      | (go_at_call 10; with_reducible refine (h1 _ (Utf8Tabs_below hT hx1)).mono ?_; rintro e w2 ⟨rfl, hx2⟩)
      | (go_at_call 10; with_reducible refine (h2 _ (Utf8Tabs_below hT (hx1.trans hx2))).mono ?_; rintro e w3 ⟨rfl, hx3⟩)
      | (go_at_call 11; with_reducible refine (hba _).mono ?_; rintro e w4 ⟨rfl, hx4⟩)
      | (go_at_call 11; with_reducible refine (hbb _).mono ?_; rintro e w5 ⟨rfl, hx5⟩)
      | (go_at_call 12; with_reducible refine (h3 _).mono ?_; rintro e w6 ⟨rfl, hx6⟩))
    go_ret
    exact ⟨rfl, hx1.trans (hx2.trans (hx3.trans (hx4.trans (hx5.trans hx6))))⟩
  · have hno : badAt a ≠ -1 ∨ badAt b ≠ -1 := by omega
    have h1 := fun w h => cmp_no a b w h hno
    have h2 := fun w h => cmp_no b a w h hno.symm
    rcases badAt_two a with ha | ⟨p, ha, -⟩
    · rcases badAt_two b with hb | ⟨p, hb, -⟩
      · exact absurd ⟨ha, hb⟩ hab
      · rw [ha] at hba
        rw [hb] at hbb
        clear ha hb hab hno
        go_enter Tryd.func3, Tryd.ntmps3
        go_wp2_with (first
          | (go_at_call 9; with_reducible refine hs.mono ?_; rintro e w1 ⟨rfl, hx1⟩)
          | (go_at_call 10; with_reducible refine (h1 _ (Utf8Tabs_below hT hx1)).mono ?_; rintro e w2 ⟨rfl, hx2⟩)
          | (go_at_call 10; with_reducible refine (h2 _ (Utf8Tabs_below hT (hx1.trans hx2))).mono ?_; rintro e w3 ⟨rfl, hx3⟩)
          | (go_at_call 11; with_reducible refine (hba _).mono ?_; rintro e w4 ⟨rfl, hx4⟩)
          | (go_at_call 11; with_reducible refine (hbb _).mono ?_; rintro e w5 ⟨rfl, hx5⟩))
        go_ret
        exact ⟨rfl, hx1.trans (hx2.trans (hx3.trans (hx4.trans hx5)))⟩
    · rw [ha] at hba
      have hbb2 : ∀ w, Calls Tryd.prog 11 #[.string b] w fun e w' => ∃ z, e = .returned (.int .i64 z) ∧ Ext w w' := fun w => (hbb w).mono fun e w' h => ⟨_, h⟩
      clear ha hab hno hbb
      go_enter Tryd.func3, Tryd.ntmps3
      go_wp2_with (first
        | (go_at_call 9; with_reducible refine hs.mono ?_; rintro e w1 ⟨rfl, hx1⟩)
        | (go_at_call 10; with_reducible refine (h1 _ (Utf8Tabs_below hT hx1)).mono ?_; rintro e w2 ⟨rfl, hx2⟩)
        | (go_at_call 10; with_reducible refine (h2 _ (Utf8Tabs_below hT (hx1.trans hx2))).mono ?_; rintro e w3 ⟨rfl, hx3⟩)
        | (go_at_call 11; with_reducible refine (hba _).mono ?_; rintro e w4 ⟨rfl, hx4⟩)
        | (go_at_call 11; with_reducible refine (hbb2 _).mono ?_; rintro e w5 ⟨z, rfl, hx5⟩))
      go_ret
      exact ⟨rfl, hx1.trans (hx2.trans (hx3.trans (hx4.trans hx5)))⟩
end Go.Proofs.YthdniboajbhhiaaDoor
