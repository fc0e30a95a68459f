/-
  The walk of the statement WalFrames.
-/
import Derived.Test.YtkoineooofmehaaWalUp
import Derived.Test.YtkoineooofmehaaArgs
set_option linter.unusedSimpArgs false
set_option linter.unusedVariables false
namespace Go.Proofs.Ytkoineooofmehaa
open Go.RowKit Go.Cv Go.Cv.Wal

set_option maxHeartbeats 400000 in
theorem walFrames_walk (A : Option Addr) (n cap : Nat) (l : List UInt8) (w : World) (hm : cap ≤ 140737488351232) (hB : ArgB w A n cap l) :
    Calls Try.prog 3 #[.slice A n cap] w fun e w' => e = .returned (.bool true) ∧ Ext w w' := by
  obtain ⟨hl, hle, hmax, hr⟩ := hB
  clear hmax
  by_cases hbig : 2097152 < n
  · go_enter Try.func3, Try.ntmps3
    go_wp2_with fail
    refine (up_any w).mono ?_
    rintro e w1 ⟨rfl, hx1⟩
    go_wp2_with (at_builtin; refine wpList_appb0 rfl (.tmp 10) (.tmp 11) 22 5 rfl u8row rfl A n cap l rfl hl (hr.ext hx1) (by omega) ?_; intro A2 c2 w2 ho2 hc2 hm2 hr2 hx2)
    replace hr := hr.ext (hx1.trans hx2)
    refine (frame_long A2 n c2 w2 hbig (by omega)).mono ?_
    rintro e w3 ⟨rfl, rfl⟩
    go_wp2_with fail
    refine (rframe_long A n cap w2 hbig (by omega)).mono ?_
    rintro e w3 ⟨rfl, rfl⟩
    have hcv1 := run_convert_rd (P := Try.prog) w2 22 9 5 Try.underlying22 Try.underlying5 Try.underlying9 A2 n c2 l hl hr2
    have hcv2 := run_convert_rd (P := Try.prog) w2 22 9 5 Try.underlying22 Try.underlying5 Try.underlying9 A n cap l hl hr
    have hcv3 := run_convert_rd (P := Try.prog) w2 22 9 5 Try.underlying22 Try.underlying5 Try.underlying9 none 0 0 [] rfl Rd.nil_
    go_wp2_with (first
      | (go_at_call 9; refine (check_any _ _ _ l _ hl hr2 (by omega)).mono ?_; rintro e w3 ⟨rfl, rfl⟩)
      | (go_at_call 10; refine (rcheck_any _ _ _ l _ hl hr (by omega)).mono ?_; rintro e w3 ⟨rfl, rfl⟩)
      | (go_at_call 11; refine (code_long _).mono ?_; rintro e w3 ⟨rfl, rfl⟩))
    go_ret
    exact ⟨rfl, hx1.trans hx2⟩
  · have hfl : (frame l).length = 8 + n := by rw [frame_length, hl]
    go_enter Try.func3, Try.ntmps3
    go_wp2_with fail
    refine (up_any w).mono ?_
    rintro e w1 ⟨rfl, hx1⟩
    go_wp2_with (at_builtin; refine wpList_appb0 rfl (.tmp 10) (.tmp 11) 22 5 rfl u8row rfl A n cap l rfl hl (hr.ext hx1) (by omega) ?_; intro A2 c2 w2 ho2 hc2 hm2 hr2 hx2)
    replace hr := hr.ext (hx1.trans hx2)
    refine (frame_any A2 n c2 l w2 hl hr2 (by omega)).mono ?_
    rintro e w3 ⟨A3, c3, rfl, hx3, _, _, _, hr3⟩
    go_wp2_with fail
    refine (rframe_any A n cap l w3 hl (hr.ext hx3) (by omega)).mono ?_
    rintro e w4 ⟨A4, c4, rfl, hx4, _, _, _, hr4⟩
    replace hr := (hr.ext hx3).ext hx4
    replace hr2 := (hr2.ext hx3).ext hx4
    replace hr3 := hr3.ext hx4
    have hcv1 := run_convert_rd (P := Try.prog) w4 22 9 5 Try.underlying22 Try.underlying5 Try.underlying9 A2 n c2 l hl hr2
    have hcv2 := run_convert_rd (P := Try.prog) w4 22 9 5 Try.underlying22 Try.underlying5 Try.underlying9 A n cap l hl hr
    have hcv3 := run_convert_rd (P := Try.prog) w4 22 9 5 Try.underlying22 Try.underlying5 Try.underlying9 A3 (8 + n) c3 (frame l) hfl hr3
    have hcv4 := run_convert_rd (P := Try.prog) w4 22 9 5 Try.underlying22 Try.underlying5 Try.underlying9 A4 (8 + n) c4 (frame l) hfl hr4
    clear hfl
    go_wp2_with (first
      | (go_at_call 9; refine (check_any _ _ _ l _ hl hr2 (by omega)).mono ?_; rintro e w3 ⟨rfl, rfl⟩)
      | (go_at_call 10; refine (rcheck_any _ _ _ l _ hl hr (by omega)).mono ?_; rintro e w3 ⟨rfl, rfl⟩)
      | (go_at_call 11; refine (code_nil _).mono ?_; rintro e w3 ⟨rfl, rfl⟩))
    go_ret
    exact ⟨rfl, ((hx1.trans hx2).trans hx3).trans hx4⟩
end Go.Proofs.Ytkoineooofmehaa
