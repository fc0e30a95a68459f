/-
  The walk of the statement WalTears.
-/
import Derived.Test.YtkoineooofmehaaWalUp
import Derived.Test.YtkoineooofmehaaWalR
import Derived.Test.YtkoineooofmehaaWalFns2
import Derived.Test.YtkoineooofmehaaArgs
set_option linter.unusedSimpArgs false
set_option linter.unusedVariables false
namespace Go.Proofs.Ytkoineooofmehaa
open Go.RowKit Go.Cv Go.Cv.Wal

theorem intinfo : (Try.prog.info? 3).map (fun i => (i.zero, i.size, i.bytes)) = some (some (.int .i64 0), 1, 8) := by kernel_rfl
theorem introw : RowT Try.prog 38 3 8 := RowT.of Try.underlying38 intinfo rfl
set_option maxHeartbeats 1600000 in
theorem walTears_walk (A : Option Addr) (n cap : Nat) (R : List (List UInt8)) (less : Int) (w : World) (hB : ArgBB w A n cap R) (hless : (Lit.int .i64 less).wf = true) (hm : n + (R.map List.length).sum ≤ 1048576) :
    Calls Try.prog 5 #[.slice A n cap, .int .i64 less] w fun e w' => e = .returned (.bool true) ∧ Ext w w' := by
  obtain ⟨hl, hle, hmax, vs, hr, ha⟩ := hB
  have hlb : -9223372036854775808 ≤ less ∧ less ≤ 9223372036854775807 := by
    simp [Lit.wf, IntKind.min, IntKind.max, IntKind.signed, IntKind.bits] at hless
    omega
  clear hless
  have hsmall : ∀ r ∈ R, r.length ≤ 2097152 := fun r hr => by
    have : r.length ≤ (R.map List.length).sum := mem_le_sum (List.mem_map_of_mem hr)
    omega
  have hend : ∀ k, endOf R k ≤ 9437184 := fun k => by
    have := endOf_le R k
    omega
  go_enter Try.func5, Try.ntmps5
  go_wp2_with fail
  refine (up_any w).mono ?_
  rintro e w1 ⟨rfl, hx1⟩
  go_wp2_with fail
  go_loopw [6, 7, 8, 9, 10] (fun vb ve vi _ _ wr => ∃ (k : Nat) (Ab Ae : Option Addr) (cb ce : Nat), k ≤ n ∧ vi = .int .i64 k ∧ vb = .slice Ab (endOf R k) cb ∧ ve = .slice Ae k ce ∧ Ext w1 wr ∧
    wr.ownsRow w1.heap.size 5 1 (.slice Ab (endOf R k) cb) (endOf R k) ((flat (R.take k)).map bv) ∧ wr.ownsRow w1.heap.size 3 1 (.slice Ae k ce) k (ends R k)) (fun _ _ vi _ _ _ => n - (intOf vi).toNat)
  case atStart => exact ⟨0, none, none, 0, 0, Nat.zero_le _, rfl, by rw [endOf_zero], rfl, Ext.refl _, by rw [endOf_zero]; exact World.ownsRow_nil _ _ _ _, World.ownsRow_nil _ _ _ _⟩
  case round =>
    obtain ⟨k, Ab, Ae, cb, ce, hk, rfl, rfl, rfl, hxa, hob, hoe⟩ := hrel
    have hx := hx1.trans hxa
    have hw1 : w1.heap.size ≤ wr.heap.size := hxa.size
    by_cases hlt : k < n
    · have hv : k < vs.length := by rw [ha.len]; omega
      obtain ⟨B1, m1, d1, hb1, hq1, _, _, hx1', _⟩ := ha.get k hv (by omega)
      obtain ⟨ad, rfl, hc⟩ := hr.at_ hv
      rw [hb1] at hc
      replace hc := hx.cell hc
      have hm1 : m1 ≤ 2097152 := by rw [← hq1]; exact hsmall _ (List.getElem_mem _)
      have hS := Lib.hid (endOf_succ (R := R) (k := k) (by omega))
      have hFs := Lib.hid (flat_succ (R := R) (k := k) (by omega))
      have hEs := Lib.hid (ends_succ R k)
      have he1 := hend (k + 1)
      generalize hrk : R[k] = rk at *
      clear hrk hb1
      go_wp2_with fail
      refine (frame_any B1 m1 d1 rk wr hq1 (hx1'.ext hx) hm1).mono ?_
      rintro _ w2 ⟨A2, c2, rfl, hx2, _, hc2, hm2, hr2⟩
      replace hob := own_ext hob hx2
      replace hoe := own_ext hoe hx2
      generalize hek : endOf R k = ek at *
      generalize hek1 : endOf R (k + 1) = ek1 at *
      rw [hq1] at hS
      obtain rfl : ek1 = ek + (8 + m1) := hS.out
      have Hek := Lib.hid hek
      have Hek1 := Lib.hid hek1
      clear hek hek1
      go_wp2_with (first
        | (at_builtin; refine wpList_appbg rfl (.tmp 42) (.tmp 43) 22 5 rfl u8row w1.heap.size _ ek _ rfl hob A2 (8 + m1) c2 (frame rk) rfl (by rw [frame_length, hq1]) hr2 (by omega) (Nat.le_trans hw1 hx2.size) ?_; intro A3 c3 w3 ho3 hc3 hm3 hr3 hE3 hg3; have hoe3 := own_kept_ty hoe hob (by decide) hg3; have hs3 := hg3.size)
        | (at_builtin; refine wpList_app rfl (.tmp 45) (.tmp 48) 38 3 8 rfl introw w1.heap.size _ k _ rfl (hoe3.alloc _) _ 1 1 [.int .i64 ((ek : Int) + (8 + (m1 : Int)))] rfl rfl (rd_new_one _ _ _) (one_int _ _) (by unfold maxLen; omega) (by omega) (by have := hx2.size; simp; omega) ?_; intro A4 c4 w4 ho4 hc4 hm4 hr4 hE4 hg4; have ho34 := own_kept_ty (ho3.alloc _) (hoe3.alloc _) (by decide) hg4))
      have hx4 : Ext w1 w4 := hE4 w1 ((hE3 w1 (hxa.trans hx2) (Nat.le_refl _)).trans (ext_alloc _ _)) (Nat.le_refl _)
      rw [← hFs.out] at ho34
      have ho4' : w4.ownsRow w1.heap.size 3 1 (.slice A4 (k + 1) c4) (k + 1) (ends R (k + 1)) := by rw [hEs.out]; exact ho4
      go_roundw
      case rel => exact ⟨k + 1, A3, A4, c3, c4, by omega, by go_num, by rw [Hek1.out], rfl, hx4, by rw [Hek1.out]; exact ho34, ho4'⟩
      case measure => simp [intOf]; omega
    · obtain rfl : k = n := by omega
      have htk : R.take k = R := List.take_of_length_le (by omega)
      have hEk : endOf R k = (flat R).length := by unfold endOf; rw [htk]
      rw [htk] at hob
      have hrb := Rd.of_own hob
      have hre := Rd.of_own hoe
      have hfl : (flat R).length ≤ 9437184 := by rw [← hEk]; exact hend k
      obtain ⟨Ab', cb', hcb, hcbl, hcbm, _, _⟩ := own_form hob
      injection hcb with hab _ hcb
      subst hcb
      subst hab
      rw [hEk] at hcbl ⊢
      clear hob hoe htk
      have HEk := Lib.hid hEk
      clear hEk
      have hr' := hr.ext hx
      have ha' : AllB (fun _ _ => True) wr vs R := ha.ext hx fun _ h => h
      have hwr := hx
      obtain ⟨c, hcf, ⟨h1, h2, hc⟩ | ⟨h1, h2, hc⟩ | ⟨h1, hc⟩⟩ : ∃ c : Nat, c ≤ (flat R).length ∧ (((0 : Int) < less ∧ less ≤ ((flat R).length : Int) ∧ (c : Int) = ((flat R).length : Int) - less) ∨ ((0 : Int) < less ∧ ¬ less ≤ ((flat R).length : Int) ∧ (c : Int) = ((flat R).length : Int)) ∨ (¬ (0 : Int) < less ∧ (c : Int) = ((flat R).length : Int))) := by
        by_cases h1 : (0 : Int) < less
        · by_cases h2 : less ≤ ((flat R).length : Int)
          · exact ⟨(((flat R).length : Int) - less).toNat, by omega, .inl ⟨h1, h2, by omega⟩⟩
          · exact ⟨(flat R).length, Nat.le_refl _, .inr (.inl ⟨h1, h2, rfl⟩)⟩
        · exact ⟨(flat R).length, Nat.le_refl _, .inr (.inr ⟨h1, rfl⟩)⟩
      all_goals
        have Hc := Lib.hid hc
        clear hc
        have hE0 : endOf R 0 ≤ c := by rw [endOf_zero]; omega
        go_wp2_with fail
        rw [← Hc.out]
        go_loopw [12] (fun i wl => wl = wr ∧ ∃ j : Nat, j ≤ k ∧ i = .int .i64 j ∧ endOf R j ≤ c) (fun i _ => k - (intOf i).toNat)
        case atStart => exact ⟨rfl, 0, Nat.zero_le _, rfl, hE0⟩
        case round =>
          obtain ⟨rfl, j, hj, rfl, hjc⟩ := hrel
          by_cases hjk : j < k
          · obtain ⟨ade, rfl, hce⟩ := hre.at_ (k := j) (by rw [ends_len]; exact hjk)
            have hce' : wr.cell? (ade.add j) = some (.int .i64 (endOf R (j + 1) : Nat)) := by
              rw [hce]
              have := ends_get R hjk
              rw [List.getElem?_eq_getElem (by rw [ends_len]; exact hjk)] at this
              exact this
            clear hce
            by_cases hj1 : endOf R (j + 1) ≤ c
            · have hji : ((endOf R (j + 1) : Nat) : Int) ≤ (c : Int) := by omega
              go_wp2_with fail
              go_roundw
              case rel => exact ⟨trivial, j + 1, by omega, by go_num, hj1⟩
              case measure => simp [intOf]; omega
            · have hji : ¬ ((endOf R (j + 1) : Nat) : Int) ≤ (c : Int) := by omega
              have hsc := scans_cut (R := R) (c := c) (k := j) hsmall (by omega) hjc (.inr ⟨by omega, by omega⟩) hcf
              have hrc : Rd wr Ab (((flat R).take c).map bv) := by
                rw [List.map_take]; exact hrb.take c
              have hlc := Lib.hid (show ((flat R).take c).length = c by rw [List.length_take]; omega)
              go_wp2_with fail
              refine (scan_any Ab c cb ((flat R).take c) wr hlc.out (by omega) hrc (by omega)).mono ?_
              rintro _ w5 ⟨A5, c5, vs5, R5, u5, hs5, rfl, hx5, ho5, hc5, hm5, hr5, ha5⟩
              obtain ⟨hR5, rfl⟩ := Scans.unique hs5 hsc
              have hjl := Lib.hid (show R5.length = j by rw [hR5, List.length_take]; omega)
              have HR5 := Lib.hid hR5
              clear hR5
              have ha2 : AllB (fun _ _ => True) w5 (vs.take j) R5 := by rw [HR5.out]; exact (ha'.ext hx5 fun _ h => h).take j
              have hej := hend j
              go_wp2_with fail
              with_reducible refine (same_any A5 A R5.length j c5 _ vs5 (vs.take j) R5 R5 _ _ w5 rfl hjl.out hr5 ((hr'.ext hx5).take j) ha5 ha2 (by have := hjl.out; omega) (by omega)).mono ?_
              rintro _ _ ⟨rfl, m, rfl⟩
              have hxe : Ext w (w5.drewN m) := (hx.trans hx5).drewN m
              rcases Nat.eq_zero_or_pos j with hj0 | hj0
              · subst hj0
                have h00 := endOf_zero R
                go_wp2
                go_ret
                exact ⟨rfl, hxe⟩
              · obtain ⟨ade', hae', hce0⟩ := hre.at_ (k := j - 1) (by rw [ends_len]; omega)
                have hce1 : (w5.drewN m).cell? (ade'.add (j - 1)) = some (.int .i64 (endOf R j : Nat)) := by
                  have h1 : wr.cell? (ade'.add (j - 1)) = some (.int .i64 (endOf R j : Nat)) := by
                    rw [hce0]
                    have := ends_get R (k := k) (j := j - 1) (by omega)
                    rw [List.getElem?_eq_getElem (by rw [ends_len]; omega)] at this
                    rw [this]
                    have e : j - 1 + 1 = j := by omega
                    rw [e]
                  exact ((Ext.refl w5).drewN m).cell (hx5.cell h1)
                injection hae' with hae'; subst hae'
                clear hce0
                have hj1i : (0 : Int) < (j : Int) := by omega
                have hjb : ((j : Int) == 0) = false := by rw [beq_eq_false_iff_ne]; omega
                have hix : (0 : Int) ≤ (j : Int) - 1 := by omega
                have hix2 : (j : Int) - 1 < (k : Int) := by omega
                go_wp2
                go_ret
                exact ⟨rfl, hxe⟩
          · have hsc := scans_cut (R := R) (c := c) (k := j) hsmall (by omega) hjc (.inl (by omega)) hcf
            have hrc : Rd wr Ab (((flat R).take c).map bv) := by
              rw [List.map_take]; exact hrb.take c
            have hlc := Lib.hid (show ((flat R).take c).length = c by rw [List.length_take]; omega)
            go_wp2_with fail
            refine (scan_any Ab c cb ((flat R).take c) wr hlc.out (by omega) hrc (by omega)).mono ?_
            rintro _ w5 ⟨A5, c5, vs5, R5, u5, hs5, rfl, hx5, ho5, hc5, hm5, hr5, ha5⟩
            obtain ⟨hR5, rfl⟩ := Scans.unique hs5 hsc
            have hjl := Lib.hid (show R5.length = j by rw [hR5, List.length_take]; omega)
            have HR5 := Lib.hid hR5
            clear hR5
            have ha2 : AllB (fun _ _ => True) w5 (vs.take j) R5 := by rw [HR5.out]; exact (ha'.ext hx5 fun _ h => h).take j
            have hej := hend j
            go_wp2_with fail
            with_reducible refine (same_any A5 A R5.length j c5 _ vs5 (vs.take j) R5 R5 _ _ w5 rfl hjl.out hr5 ((hr'.ext hx5).take j) ha5 ha2 (by have := hjl.out; omega) (by omega)).mono ?_
            rintro _ _ ⟨rfl, m, rfl⟩
            have hxe : Ext w (w5.drewN m) := (hx.trans hx5).drewN m
            rcases Nat.eq_zero_or_pos j with hj0 | hj0
            · subst hj0
              have h00 := endOf_zero R
              go_wp2
              go_ret
              exact ⟨rfl, hxe⟩
            · obtain ⟨ade', hae', hce0⟩ := hre.at_ (k := j - 1) (by rw [ends_len]; omega)
              have hce1 : (w5.drewN m).cell? (ade'.add (j - 1)) = some (.int .i64 (endOf R j : Nat)) := by
                have h1 : wr.cell? (ade'.add (j - 1)) = some (.int .i64 (endOf R j : Nat)) := by
                  rw [hce0]
                  have := ends_get R (k := k) (j := j - 1) (by omega)
                  rw [List.getElem?_eq_getElem (by rw [ends_len]; omega)] at this
                  rw [this]
                  have e : j - 1 + 1 = j := by omega
                  rw [e]
                exact ((Ext.refl w5).drewN m).cell (hx5.cell h1)
              subst hae'
              clear hce0
              have hj1i : (0 : Int) < (j : Int) := by omega
              have hjb : ((j : Int) == 0) = false := by rw [beq_eq_false_iff_ne]; omega
              have hix : (0 : Int) ≤ (j : Int) - 1 := by omega
              have hix2 : (j : Int) - 1 < (k : Int) := by omega
              go_wp2
              go_ret
              exact ⟨rfl, hxe⟩
end Go.Proofs.Ytkoineooofmehaa
