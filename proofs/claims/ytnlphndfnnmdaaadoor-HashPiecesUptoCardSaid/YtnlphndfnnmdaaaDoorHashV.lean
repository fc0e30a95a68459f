/-
  Both digests of a text are the document's: the statement HashSums.
-/
import Derived.Test.YtnlphndfnnmdaaaDoorHashJ
import Derived.Test.YtnlphndfnnmdaaaDoorHashU
set_option linter.unusedSimpArgs false
set_option linter.unusedVariables false
namespace Go.Proofs.YtnlphndfnnmdaaaDoor
open Go.RowKit Go.Cv Go.Cv.Hash Go.Cv.Dig
/-- Two rows with the same bytes. -/
theorem same_true (d : List UInt8) (A : Option Addr) (n c : Nat) (B : Option Addr) (m k : Nat) (w : World) (hA : d.length = n) (h1 : Rd w A (d.map bv)) (hB : d.length = m) (h2 : Rd w B (d.map bv)) (bnd : n ≤ 5000000) :
    Calls Tryd.prog 9 #[.slice A n c, .slice B m k] w fun e w' => e = .returned (.bool true) ∧ Ext w w' := by
  have h := same_any A n c d B m k d w hA h1 hB h2 bnd
  rwa [decide_eq_true rfl] at h
set_option maxRecDepth 20000 in
set_option maxHeartbeats 16000000 in
theorem sums_any (A : Option Addr) (n cap : Nat) (l : List UInt8) (w : World) (hT : Tabs w) (hl : ArgB w A n cap l) (bnd : cap ≤ 1048576) :
    Calls Tryd.prog 3 #[.slice A n cap] w fun e w' => e = .returned (.bool true) ∧ Ext w w' := by
  have hs := shown_any w hT
  have hle := hl.le
  have hlen := hl.len
  have hr := hl.rd
  clear hl
  have kA := fun B c w' h0 h1 (h2 : Tabs w') => sum256_any B n c l w' hlen h0 h1 (by omega) h2.1
  have kB := fun B c w' h0 h1 (h2 : Tabs w') => sum512_any B n c l w' hlen h0 h1 (by omega) h2.2
  have kC := fun w' h1 => ref256_any A n cap l w' hlen hle h1 (by omega)
  have kD := fun w' h1 => ref512_any A n cap l w' hlen hle h1 (by omega)
  obtain ⟨D32, hD32⟩ : ∃ D, D = hash32 l := ⟨_, rfl⟩
  obtain ⟨D64, hD64⟩ : ∃ D, D = hash64 l := ⟨_, rfl⟩
  have lD32 : D32.length = 32 := by rw [hD32]; exact outAt_len32 l
  have lD64 : D64.length = 64 := by rw [hD64]; exact outAt_len64 l
  rw [← hD32] at kA kC
  rw [← hD64] at kB kD
  clear hD32 hD64
  have HL := Lib.hid hlen
  clear hlen
  go_enter Tryd.func3, Tryd.ntmps3
  go_wp2_with (first
    | (go_at_call 6; with_reducible refine hs.mono ?_; rintro e w0 ⟨rfl, hx0⟩; have hr0 := hr.ext hx0)
    | (at_builtin; refine wpList_appb0 rfl (.tmp 11) (.tmp 12) 22 5 rfl u8rowH32 rfl A n cap l rfl HL.out hr0 (by omega) ?_; intro A3 c3 w3 ho3 hc3 hm3 hr3 hx3; have hx3' : Ext w w3 := hx0.trans hx3)
    | (go_at_call 7; with_reducible refine (kA A3 c3 w3 hc3 hr3 (hT.ext hx3')).mono ?_; rintro e w4 ⟨rfl, hx4⟩)
    | ((with_reducible refine store_fresh32 ?_ (.tmp 5) (.tmp 15) ?_ D32 lD32 ?_ ?_ ?_); rfl; rfl; rfl; rfl; intro w5 ho5 hx5; have hx5' : Ext w3 w5 := Ext.trans hx4 hx5)
    | (go_at_call 8; with_reducible refine (kB A3 c3 w5 hc3 (hr3.ext hx5') (hT.ext (hx3'.trans hx5'))).mono ?_; rintro e w6 ⟨rfl, hx6⟩)
    | ((with_reducible refine store_fresh64 ?_ (.tmp 6) (.tmp 17) ?_ D64 lD64 ?_ ?_ ?_); rfl; rfl; rfl; rfl; intro w7 ho7 hx7; have hx7' : Ext w3 w7 := Ext.trans hx5' (Ext.trans hx6 hx7); have gx := rowrd32 (ho5.ext (Ext.trans hx6 hx7)); have gy := rowrd64 ho7; clear ho5 ho7))
  go_region_law (first
    | (go_simp; go_at_call 10; (with_reducible refine (kC _ (hr.ext (hx3'.trans (hx7'.trans (ext_drew _))))).mono ?_); rintro e w8 ⟨v8, rfl, ⟨B8, n8', c8, rfl, hl8, hc8, hr8⟩, hx8⟩)
    | (go_simp; go_at_call 9; (with_reducible refine (same_true D32 _ 32 32 B8 n8' c8 w8 lD32 (gx.ext ((ext_drew _).trans hx8)) hl8 hr8 (by decide)).mono ?_); rintro e w9 ⟨rfl, hx9⟩))
  all_goals
    have hE9 : Ext w3 w9 := hx7'.trans ((ext_drew _).trans (hx8.trans hx9))
    have gy9 := gy.ext ((ext_drew _).trans (hx8.trans hx9))
    go_wp2
    go_region_law (first
      | (go_simp; go_at_call 11; (with_reducible refine (kD _ (hr.ext (hx3'.trans (hE9.trans (ext_drew _))))).mono ?_); rintro e w10 ⟨v10, rfl, ⟨B10, n10, c10, rfl, hl10, hc10, hr10⟩, hx10⟩)
      | (go_simp; go_at_call 9; (with_reducible refine (same_true D64 _ 64 64 B10 n10 c10 w10 lD64 (gy9.ext ((ext_drew _).trans hx10)) hl10 hr10 (by decide)).mono ?_); rintro e w11 ⟨rfl, hx11⟩))
    all_goals
      have hE11 : Ext w3 w11 := hE9.trans ((ext_drew _).trans (hx10.trans hx11))
      go_wp2_with (go_at_call 9; with_reducible refine (same_true l A3 n c3 A n cap _ HL.out (hr3.ext hE11) HL.out (hr.ext (hx3'.trans hE11)) (by omega)).mono ?_; rintro e w12 ⟨rfl, hx12⟩)
      go_ret
      exact ⟨rfl, hx3'.trans (hE11.trans hx12)⟩
theorem sums_w (A : Option Addr) (n cap : Nat) (l : List UInt8) (w : World) (hT : Tabs w) (hl : ArgB w A n cap l) (bnd : cap ≤ 1048576) :
    Calls Tryd.prog 3 #[.slice A n cap] w fun e w' => e = .returned (.bool true) ∧ Ext w w' := sums_any A n cap l w hT hl bnd
end Go.Proofs.YtnlphndfnnmdaaaDoor
