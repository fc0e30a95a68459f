/-
  Walks of the frames of the layer wal.
-/
import Derived.Test.YtjnbbfhoegeppaaDoorWalA
import Derived.Deep.RegionLaw
set_option linter.unusedSimpArgs false
set_option linter.unusedVariables false
namespace Go.Proofs.YtjnbbfhoegeppaaDoor
open Go.RowKit Go.Cv Go.Cv.Wal

/-- A row of bytes and a nil error. -/
def RetFrame (w : World) (y : Value) (n : Nat) (l : List UInt8) (e : Ending) (w' : World) : Prop :=
  ∃ A c, e = .returned (.tuple #[.slice A n c, y]) ∧ Ext w w' ∧ w'.ownsRow w.heap.size 5 1 (.slice A n c) n (l.map bv) ∧ n ≤ c ∧ c ≤ maxLen ∧ Rd w' A (l.map bv)

set_option maxHeartbeats 400000 in
theorem frame_long (A : Option Addr) (n cap : Nat) (w : World) (hn : 2097152 < n) (hm : n ≤ 140737488355328) :
    Calls Tryd.prog 17 #[.slice A n cap] w fun e w' => e = .returned (.tuple #[.slice none 0 0, .iface 34 (.int .i64 2)]) ∧ w = w' := by
  have hn' : (2097152 : Int) < (n : Int) := by omega
  go_enter Tryd.func17, Tryd.ntmps17
  go_wp2
  go_ret2
  exact ⟨rfl, rfl⟩

set_option maxHeartbeats 400000 in
theorem frame_any (A : Option Addr) (n cap : Nat) (l : List UInt8) (w : World) (hl : l.length = n) (hr : Rd w A (l.map bv)) (hn : n ≤ 2097152) :
    Calls Tryd.prog 17 #[.slice A n cap] w (RetFrame w .nilIface (8 + n) (frame l)) := by
  have hn' : ¬ (2097152 : Int) < (n : Int) := by omega
  have h32 : Hid (u32 (n : Int) = UInt32.ofNat n) := u32_of_nat n
  go_enter Tryd.func17, Tryd.ntmps17
  go_wp2_with fail
  rw [h32.out]
  refine (bytes_any (UInt32.ofNat n) w).mono ?_
  rintro e w1 ⟨A1, c1, rfl, hx1, ho1, hc1, hm1, hr1⟩
  go_wp2_with fail
  have hc1i : (4 : Int) ≤ (c1 : Int) := by omega
  go_region_law (first
    | (go_simp; go_at_call_of 32 (4294967295 : Int); (with_reducible refine (on_first _ _ _ (le4 (UInt32.ofNat n)) _ (le4_length _) hr1.drew (by omega)).mono ?_); rintro e w2 ⟨rfl, rfl⟩)
    | (go_simp; go_at_call 32; (with_reducible refine (on_any _ _ _ _ l _ hl ((hr.ext hx1).drew) (by omega)).mono ?_); rintro e w2 ⟨rfl, rfl⟩)
    | (go_simp; go_at_call 31; (with_reducible refine (bytes_any _ _).mono ?_); rintro e w2 ⟨A2, c2, rfl, hx2, ho2, hc2, hm2, hr2⟩)
    | (refine step_appnew rfl _ _ 22 5 1 rfl u8row A1 4 4 ((le4 (UInt32.ofNat n)).map bv) rfl rfl (hr1.drew.ext hx2) A2 4 c2 _ rfl rfl hr2 (by omega) (by simp [maxLen]) (by omega) ?_; intro A3 c3 w3 ho3 hc3 hm3 hr3 hx3))
  have hx13 : Ext w w3 := ((hx1.trans (ext_drew w1)).trans hx2).trans hx3
  have hbw : w.heap.size ≤ w2.heap.size := ((hx1.trans (ext_drew w1)).trans hx2).size
  go_wp2_with (at_builtin; refine wpList_app rfl _ _ 22 5 1 rfl u8row w2.heap.size _ 8 _ rfl ho3 A n cap (l.map bv) rfl (by simp [hl]) (hr.ext hx13) (one_map_bv l) (by simp [maxLen]; omega) (by omega) hx3.size ?_; intro A4 c4 w4 ho4 hc4 hm4 hr4 hE4 hg4)
  go_ret2
  rw [crc_append] at ho4 hr4
  have e : (le4 (UInt32.ofNat n)).map bv ++ (le4 (~~~(crc 4294967295 (le4 (UInt32.ofNat n) ++ l)))).map bv ++ l.map bv = (frame l).map bv := by
    rw [frame, hl, check]; simp
  rw [e] at ho4 hr4
  exact ⟨A4, c4, rfl, hE4 _ hx13 hbw, own_base ho4 hbw, hc4, hm4, hr4⟩

set_option maxHeartbeats 400000 in
theorem rframe_long (A : Option Addr) (n cap : Nat) (w : World) (hn : 2097152 < n) (hm : n ≤ 140737488355328) :
    Calls Tryd.prog 27 #[.slice A n cap] w fun e w' => e = .returned (.tuple #[.slice none 0 0, .int .i64 2]) ∧ w = w' := by
  have hn' : (2097152 : Int) < (n : Int) := by omega
  go_enter Tryd.func27, Tryd.ntmps27
  go_wp2
  go_ret2
  exact ⟨rfl, rfl⟩

set_option maxHeartbeats 400000 in
theorem rframe_any (A : Option Addr) (n cap : Nat) (l : List UInt8) (w : World) (hl : l.length = n) (hr : Rd w A (l.map bv)) (hn : n ≤ 2097152) :
    Calls Tryd.prog 27 #[.slice A n cap] w (RetFrame w (.int .i64 0) (8 + n) (frame l)) := by
  have hn' : ¬ (2097152 : Int) < (n : Int) := by omega
  have h32 : Hid (u32 (n : Int) = UInt32.ofNat n) := u32_of_nat n
  go_enter Tryd.func27, Tryd.ntmps27
  go_wp2_with fail
  rw [h32.out]
  refine (four_any (UInt32.ofNat n) w).mono ?_
  rintro e w1 ⟨A1, c1, rfl, hx1, ho1, hc1, hm1, hr1⟩
  have HL := Lib.hid (show (le4 (UInt32.ofNat n) ++ l).length = 4 + n by rw [List.length_append, le4_length, hl])
  go_wp2_with (first
    | (at_builtin; refine wpList_appb0 rfl (.tmp 14) (.tmp 15) 22 5 rfl u8row rfl A1 4 c1 (le4 (UInt32.ofNat n)) rfl rfl hr1 (by omega) ?_; intro A2 c2 w2 ho2 hc2 hm2 hr2 hx2)
    | (at_builtin; refine wpList_appb rfl (.tmp 17) (.tmp 18) 22 5 rfl u8row w1.heap.size _ 4 _ rfl ho2 A n cap l rfl hl (hr.ext (hx1.trans hx2)) (by omega) hx2.size ?_; intro A3 c3 w3 ho3 hc3 hm3 hr3 hE3; have hx3 := hE3 w1 hx2 (Nat.le_refl _); clear hE3)
    | (at_builtin; refine wpList_appb0 rfl (.tmp 20) (.tmp 21) 22 5 rfl u8row rfl A1 4 c1 (le4 (UInt32.ofNat n)) rfl rfl (hr1.ext hx3) (by omega) ?_; intro A4 c4 w4 ho4 hc4 hm4 hr4 hx4)
    | (go_at_call 38; refine (rcheck_any _ _ _ _ _ HL.out (hr3.ext hx4) (by omega)).mono ?_; rintro e w5 ⟨rfl, rfl⟩)
    | (go_at_call 37; refine (four_any _ _).mono ?_; rintro e w5 ⟨A5, c5, rfl, hx5, ho5, hc5, hm5, hr5⟩)
    | (at_builtin; refine wpList_appb rfl (.tmp 23) (.tmp 26) 22 5 rfl u8row w3.heap.size _ 4 _ rfl (own_ext ho4 hx5) A5 4 c5 _ rfl rfl hr5 (by omega) (hx4.trans hx5).size ?_; intro A6 c6 w6 ho6 hc6 hm6 hr6 hE6; have hx6 := hE6 w ((hx1.trans hx3).trans (hx4.trans hx5)) (hx1.trans hx3).size; have hs6 := (hE6 w3 (hx4.trans hx5) (Nat.le_refl _)).size; clear hE6)
    | (at_builtin; refine wpList_appb rfl (.tmp 28) (.tmp 29) 22 5 rfl u8row w3.heap.size _ 8 _ rfl ho6 A n cap l rfl hl (hr.ext hx6) (by omega) hs6 ?_; intro A7 c7 w7 ho7 hc7 hm7 hr7 hE7; have hx7 := hE7 w hx6 (hx1.trans hx3).size; clear hE7))
  have e : le4 (UInt32.ofNat n) ++ le4 (check (le4 (UInt32.ofNat n) ++ l)) ++ l = frame l := by
    rw [frame, hl]; simp
  rw [e] at ho7 hr7
  go_ret2
  exact ⟨A7, c7, rfl, hx7, own_base ho7 (hx1.trans hx3).size, hc7, hm7, hr7⟩
end Go.Proofs.YtjnbbfhoegeppaaDoor
