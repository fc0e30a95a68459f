/-
  Walks of the layer utf: the beginning of a text; the shown examples.
-/
import Derived.Test.YthdniboajbhhiaaDoorUtfB
set_option linter.unusedSimpArgs false
set_option linter.unusedVariables false
namespace Go.Cv.Utf
open Go.RowKit Go.Cv.Dig
/-- How many bytes are kept: back to the nearest that starts a character. -/
def cutN (s : ByteArray) : Nat → Nat
  | 0 => 0
  | m + 1 => if Lib.runeStart (n8 (s.get! (m + 1))) then m + 1 else cutN s m
theorem cutN_le (s : ByteArray) : ∀ m, cutN s m ≤ m
  | 0 => Nat.le_refl _
  | m + 1 => by
    simp only [cutN]
    split
    · exact Nat.le_refl _
    · have := cutN_le s m; omega
end Go.Cv.Utf
namespace Go.Proofs.YthdniboajbhhiaaDoor
open Go.RowKit Go.Cv Go.Cv.Utf Go.Cv.Dig

set_option maxHeartbeats 2000000 in
theorem cut_neg (s : ByteArray) (m : Int) (w : World) (hm : m < 0) :
    Calls Tryd.prog 17 #[.string s, .int .i64 m] w fun e w' => e = .returned (.tuple #[.string ⟨#[]⟩, .iface 28 (.int .i64 1)]) ∧ w' = w := by
  go_enter Tryd.func17, Tryd.ntmps17
  go_wp2
  go_ret2
  exact ⟨rfl, rfl⟩
set_option maxHeartbeats 2000000 in
theorem cut_all (s : ByteArray) (m : Int) (w : World) (hT : Lib.Utf8Tabs 2 3 w) (hb : badAt s = -1) (h0 : ¬ m < 0) (hm : (s.size : Int) ≤ m) :
    Calls Tryd.prog 17 #[.string s, .int .i64 m] w fun e w' => e = .returned (.tuple #[.string s, .nilIface]) ∧ Ext w w' := by
  have hso := sound_ok s w hT hb
  clear hb hT
  go_enter Tryd.func17, Tryd.ntmps17
  go_wp2_with (go_at_call 24; with_reducible refine hso.mono ?_; rintro e w1 ⟨rfl, hx1⟩)
  go_ret2
  exact ⟨rfl, hx1⟩
set_option maxHeartbeats 2000000 in
theorem cut_no (s : ByteArray) (p : Nat) (m : Int) (w : World) (hT : Lib.Utf8Tabs 2 3 w) (hb : badAt s = (p : Int)) (h0 : ¬ m < 0) :
    Calls Tryd.prog 17 #[.string s, .int .i64 m] w fun e w' => ∃ n, e = .returned (.tuple #[.string ⟨#[]⟩, .iface 57 (.pointer (some ⟨n, 0, none⟩))]) ∧ w'.cell? ⟨n, 0, none⟩ = some (.int .i64 (p : Int)) ∧ w'.cell? ⟨n, 1, none⟩ = some (.iface 28 (.int .i64 7)) ∧ w.heap.size ≤ n ∧ Ext w w' := by
  have hso := sound_no s p w hT hb
  clear hb hT
  go_enter Tryd.func17, Tryd.ntmps17
  go_wp2_with (go_at_call 24; with_reducible refine hso.mono ?_; rintro e w1 ⟨n, rfl, h1, h2, h3, hx1⟩)
  go_ret2
  exact ⟨_, rfl, h1, h2, h3, hx1⟩
set_option maxHeartbeats 2000000 in
theorem points_no (s : ByteArray) (p : Nat) (w : World) (hT : Lib.Utf8Tabs 2 3 w) (hb : badAt s = (p : Int)) :
    Calls Tryd.prog 14 #[.string s] w fun e w' => ∃ n, e = .returned (.tuple #[.slice none 0 0, .iface 57 (.pointer (some ⟨n, 0, none⟩))]) ∧ w'.cell? ⟨n, 0, none⟩ = some (.int .i64 (p : Int)) ∧ w'.cell? ⟨n, 1, none⟩ = some (.iface 28 (.int .i64 7)) ∧ w.heap.size ≤ n ∧ Ext w w' := by
  have hso := sound_no s p w hT hb
  clear hb hT
  go_enter Tryd.func14, Tryd.ntmps14
  go_wp2_with (go_at_call 24; with_reducible refine hso.mono ?_; rintro e w1 ⟨n, rfl, h1, h2, h3, hx1⟩)
  go_ret2
  exact ⟨_, rfl, h1, h2, h3, hx1⟩
set_option maxHeartbeats 4000000 in
theorem cut_some (s : ByteArray) (m : Nat) (w : World) (hT : Lib.Utf8Tabs 2 3 w) (hb : badAt s = -1) (hm : m < s.size) (hs : s.size ≤ 140737488355328) :
    Calls Tryd.prog 17 #[.string s, .int .i64 m] w fun e w' => e = .returned (.tuple #[.string (s.extract 0 (cutN s m)), .nilIface]) ∧ Ext w w' := by
  have hso := sound_ok s w hT hb
  clear hb hT
  have hm2 : ¬ s.size ≤ m := by omega
  have hm3 : ¬ (s.size : Int) ≤ (m : Int) := by omega
  go_enter Tryd.func17, Tryd.ntmps17
  go_wp2_with (go_at_call 24; with_reducible refine hso.mono ?_; rintro e w1 ⟨rfl, hx1⟩)
  clear hso
  go_loopw [1] (fun t wr => ∃ k : Nat, k ≤ m ∧ t = .int .i64 k ∧ Hid (cutN s k = cutN s m) ∧ Ext w1 wr) (fun t _ => (intOf t).toNat)
  case atStart => exact ⟨m, Nat.le_refl _, rfl, Lib.hid rfl, Ext.refl _⟩
  case round =>
    obtain ⟨k, hk, rfl, hc, hE⟩ := hrel
    rcases k with _ | k
    · have hc2 : Hid (s.extract 0 (cutN s m) = ByteArray.empty) := Lib.hid (by rw [← hc.out]; simp [cutN])
      go_wp2
      rw [hc2.out]
      go_ret2
      exact ⟨rfl, hx1.trans hE⟩
    · have hkb : k + 1 < s.size := by omega
      have hkb2 : 0 ≤ (k : Int) + 1 ∧ (k : Int) + 1 < (s.size : Int) := by omega
      have hge : s.get! (k + 1) = s[k + 1]'hkb := Utf8W.get!_of_lt s (k + 1) hkb
      by_cases hr : Lib.runeStart (n8 (s.get! (k + 1))) = true
      · have hc2 : Hid (cutN s m = k + 1) := Lib.hid (by rw [← hc.out]; simp only [cutN]; rw [if_pos hr])
        rw [hge] at hr
        clear hge
        go_wp2_with (go_at_call 29; with_reducible refine (Tryd.utf8_RuneStart _ _ (n8_bd _).1 (n8_bd _).2).mono ?_; rintro e w2 ⟨rfl, rfl⟩)
        rw [hc2.out]
        go_ret2
        exact ⟨rfl, hx1.trans hE⟩
      · have hc2 : Hid (cutN s k = cutN s m) := Lib.hid (by rw [← hc.out]; simp only [cutN]; rw [if_neg hr])
        rw [Bool.not_eq_true, hge] at hr
        clear hge
        go_wp2_with (go_at_call 29; with_reducible refine (Tryd.utf8_RuneStart _ _ (n8_bd _).1 (n8_bd _).2).mono ?_; rintro e w2 ⟨rfl, rfl⟩)
        exact ⟨⟨k, by omega, by go_num, hc2, hE⟩, by simp [intOf]⟩
end Go.Proofs.YthdniboajbhhiaaDoor
