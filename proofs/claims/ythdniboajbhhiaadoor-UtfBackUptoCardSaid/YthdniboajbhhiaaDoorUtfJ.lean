/-
  Walks: two lists alike; the statement UtfPoints.
-/
import Derived.Test.YthdniboajbhhiaaDoorUtfH
import Derived.Test.YthdniboajbhhiaaDoorUtfIs
import Derived.BigQuiet
set_option linter.unusedSimpArgs false
set_option linter.unusedVariables false
namespace Go.Proofs.YthdniboajbhhiaaDoor
open Go.RowKit Go.Cv Go.Cv.Utf Go.Cv.Dig

set_option maxHeartbeats 4000000 in
theorem ints_same (v u : Value) (l : List Nat) (w : World) (hv : Ints w v l) (hu : Ints w u l) (hl : l.length ≤ 2000000) :
    Calls Tryd.prog 18 #[v, u] w fun e w' => e = .returned (.bool true) ∧ Ext w w' := by
  obtain ⟨A, n, c, rfl, hn, hc, hr⟩ := hv
  obtain ⟨B, m, c2, rfl, hm, hc2, hr2⟩ := hu
  obtain rfl : n = m := hn.symm.trans hm
  have HN := Lib.hid hn
  have hnb : n ≤ 2000000 := by omega
  clear hn hm hl
  go_enter Tryd.func18, Tryd.ntmps18
  go_wp2
  go_loopw [5] (fun t wr => ∃ i : Nat, i ≤ n ∧ t = .int .i64 i ∧ Ext w wr) (fun t _ => n - (intOf t).toNat)
  case atStart => exact ⟨0, by omega, rfl, Ext.refl _⟩
  case round =>
    obtain ⟨i, hin, rfl, hE⟩ := hrel
    by_cases h1 : i < n
    · have h1' : (i : Int) < (n : Int) := by omega
      obtain ⟨ad, rfl, hcell⟩ := (hr.ext hE).at_ (k := i) (by rw [List.length_map, HN.out]; exact h1)
      obtain ⟨bd, rfl, hcell2⟩ := (hr2.ext hE).at_ (k := i) (by rw [List.length_map, HN.out]; exact h1)
      rw [List.getElem_map] at hcell hcell2
      generalize l[i]'(by rw [HN.out]; exact h1) = p at *
      obtain ⟨xg, rfl⟩ := grw_of_ext hE
      clear hE
      go_wp2
      go_quiet (fail)
      go_wp2
      exact ⟨⟨i + 1, by omega, by go_num, (by (repeat (first | exact grw_ext _ _ | exact Ext.refl _ | refine Ext.drewN ?_ _ | refine Ext.trans ?_ (ext_drew _))))⟩, by simp [intOf]; omega⟩
    · obtain rfl : i = n := by omega
      go_wp2
      go_ret
      exact ⟨rfl, hE⟩

set_option maxHeartbeats 8000000 in
theorem utfpoints_any (s : ByteArray) (w : World) (hT : Lib.Utf8Tabs 2 3 w) (hg : w.cell? ⟨0, 0, none⟩ = some (.iface 96 (.agg #[.pointer (some ⟨4, 24, none⟩)]))) (bnd : s.size ≤ 1048576) :
    Calls Tryd.prog 6 #[.string s] w fun e w' => e = .returned (.bool true) ∧ Ext w w' := by
  have hs := shown_any w hT
  have hs2 : s.size ≤ 2000000 := by omega
  have hbad := bad_any s
  have href : ∀ w, Calls Tryd.prog 19 #[.string s] w fun e w' => ∃ v, e = .returned (.tuple #[v, .int .i64 (badAt s)]) ∧ PtsRes s w' v ∧ Ext w w' := fun w => refpoints_any s w hs2
  have hlen := pts_len s
  rcases badAt_two s with hb | ⟨p, hb, -⟩
  · have h1 := fun w h => points_ok s w h hb hs2
    have href2 : ∀ w, Calls Tryd.prog 19 #[.string s] w fun e w' => ∃ v, e = .returned (.tuple #[v, .int .i64 (-1)]) ∧ Ints w' v (pts s) ∧ Ext w w' := fun w =>
      (href w).mono fun e w' ⟨v, h1, ⟨l, h2, h3⟩, hx⟩ => ⟨v, by rw [h1, hb], h3 hb ▸ h2, hx⟩
    rw [hb] at hbad
    clear hb href
    generalize pts s = l at *
    go_enter Tryd.func6, Tryd.ntmps6
    go_wp2_with (first
      | (go_at_call 9; with_reducible refine hs.mono ?_; rintro e w1 ⟨rfl, hx1⟩)
      | (go_at_call 16; with_reducible refine (hbad _ (Utf8Tabs_below hT hx1)).mono ?_; rintro e w2 ⟨rfl, hx2⟩)
      | (go_at_call 14; with_reducible refine (h1 _ (Utf8Tabs_below hT (hx1.trans hx2))).mono ?_; rintro e w3 ⟨v, rfl, hv, hx3⟩)
      | (go_at_call 19; with_reducible refine (href2 _).mono ?_; rintro e w4 ⟨u, rfl, hu, hx4⟩)
      | (go_at_call 18; with_reducible refine (ints_same v u l _ (hv.ext hx4) hu (by omega)).mono ?_; rintro e w5 ⟨rfl, hx5⟩))
    go_ret
    exact ⟨rfl, hx1.trans (hx2.trans (hx3.trans (hx4.trans hx5)))⟩
  · have h1 := fun w h => points_no s p w h hb
    have href2 : ∀ w, Calls Tryd.prog 19 #[.string s] w fun e w' => ∃ v, e = .returned (.tuple #[v, .int .i64 p]) ∧ Ext w w' := fun w =>
      (href w).mono fun e w' ⟨v, h1, h2, hx⟩ => ⟨v, by rw [h1, hb], hx⟩
    rw [hb] at hbad
    clear hb href hlen
    go_enter Tryd.func6, Tryd.ntmps6
    go_wp2_with (first
      | (go_at_call 9; with_reducible refine hs.mono ?_; rintro e w1 ⟨rfl, hx1⟩)
      | (go_at_call 16; with_reducible refine (hbad _ (Utf8Tabs_below hT hx1)).mono ?_; rintro e w2 ⟨rfl, hx2⟩)
      | (go_at_call 14; with_reducible refine (h1 _ (Utf8Tabs_below hT (hx1.trans hx2))).mono ?_; rintro e w3 ⟨n, rfl, hc0, hc1, -, hx3⟩)
      | (go_at_call 19; with_reducible refine (href2 _).mono ?_; rintro e w4 ⟨u, rfl, hx4⟩)
      | (go_at_call 20; with_reducible refine (isat_any n p 7 _ (Ext.cell (hx1.trans (hx2.trans (hx3.trans hx4))) hg) (Ext.cell hx4 hc0) (Ext.cell hx4 hc1)).mono ?_; rintro e w5 ⟨rfl, hx5⟩))
    go_ret
    exact ⟨rfl, hx1.trans (hx2.trans (hx3.trans (hx4.trans hx5)))⟩
theorem utfpoints_w (s : ByteArray) (w : World) (hT : Lib.Utf8Tabs 2 3 w ∧ w.cell? ⟨0, 0, none⟩ = some (.iface 96 (.agg #[.pointer (some ⟨4, 24, none⟩)]))) (bnd : s.size ≤ 1048576) :
    Calls Tryd.prog 6 #[.string s] w fun e w' => e = .returned (.bool true) ∧ Ext w w' := utfpoints_any s w hT.1 hT.2 bnd
end Go.Proofs.YthdniboajbhhiaaDoor
