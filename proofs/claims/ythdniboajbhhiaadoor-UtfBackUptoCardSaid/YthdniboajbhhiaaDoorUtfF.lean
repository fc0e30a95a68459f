/-
  Walks of the document's answer for layer 1: the character at a place.
-/
import Derived.Test.YthdniboajbhhiaaDoorUtfE
set_option linter.unusedSimpArgs false
set_option linter.unusedVariables false
namespace Go.Cv.Utf
open Go.RowKit
theorem atN_out (m : Nat) (f : Nat → Nat) : ∃ r1 r2, atN m f = (r1, r2) ∧ (szN (f 0) = 0 ∨ m < szN (f 0) → r1 = 0 ∧ r2 = 0) ∧
    (¬ (szN (f 0) = 0 ∨ m < szN (f 0)) → ∀ j, 1 ≤ j → j < szN (f 0) → ¬ (128 ≤ f j ∧ f j ≤ 191) → r1 = 0 ∧ r2 = 0) ∧
    (¬ (szN (f 0) = 0 ∨ m < szN (f 0)) → Conts f (szN (f 0)) → isPt (acc (offN (szN (f 0)) (f 0)) f (szN (f 0) - 1)) = true ∧ blen (acc (offN (szN (f 0)) (f 0)) f (szN (f 0) - 1)) = szN (f 0) → r1 = acc (offN (szN (f 0)) (f 0)) f (szN (f 0) - 1) ∧ r2 = szN (f 0)) ∧
    (¬ (szN (f 0) = 0 ∨ m < szN (f 0)) → Conts f (szN (f 0)) → ¬ (isPt (acc (offN (szN (f 0)) (f 0)) f (szN (f 0) - 1)) = true ∧ blen (acc (offN (szN (f 0)) (f 0)) f (szN (f 0) - 1)) = szN (f 0)) → r1 = 0 ∧ r2 = 0) := by
  refine ⟨(atN m f).1, (atN m f).2, rfl, fun h => ?_, fun h j h1 h2 h3 => ?_, fun h h1 h2 => ?_, fun h h1 h2 => ?_⟩
  · unfold atN; rw [if_pos h]; exact ⟨rfl, rfl⟩
  · unfold atN; rw [if_neg h, if_neg fun hc => h3 (hc j h1 h2)]; exact ⟨rfl, rfl⟩
  · unfold atN; rw [if_neg h, if_pos h1, if_pos h2]; exact ⟨rfl, rfl⟩
  · unfold atN; rw [if_neg h, if_pos h1, if_neg h2]; exact ⟨rfl, rfl⟩
theorem szN_two (b : Nat) : szN b = 0 ∨ (szN b = 1 ∧ b < 128) ∨ (szN b = 2 ∧ 192 ≤ b ∧ b < 224) ∨ (szN b = 3 ∧ 224 ≤ b ∧ b < 240) ∨ (szN b = 4 ∧ 240 ≤ b ∧ b < 248) := by
  unfold szN
  split
  · exact .inr (.inl ⟨rfl, by assumption⟩)
  · split
    · exact .inr (.inr (.inl ⟨rfl, by assumption⟩))
    · split
      · exact .inr (.inr (.inr (.inl ⟨rfl, by assumption⟩)))
      · split
        · exact .inr (.inr (.inr (.inr ⟨rfl, by assumption⟩)))
        · exact .inl rfl
theorem pow64 {i : Nat} (h : i < 4) : 64 ^ i ≤ 262144 := by
  rcases (by omega : i = 0 ∨ i = 1 ∨ i = 2 ∨ i = 3) with rfl | rfl | rfl | rfl <;> decide
end Go.Cv.Utf
namespace Go.Proofs.YthdniboajbhhiaaDoor
open Go.RowKit Go.Cv Go.Cv.Utf Go.Cv.Dig

set_option maxRecDepth 8000 in
set_option maxHeartbeats 8000000 in
theorem at_any (s : ByteArray) (pos : Nat) (w : World) (hp : pos < s.size) (hs : s.size ≤ 140737488355328) :
    Calls Tryd.prog 30 #[.string s, .int .i64 pos] w fun e w' => e = .returned (.tuple #[.int .i64 ((atN (s.size - pos) (bt s pos)).1 : Int), .int .i64 ((atN (s.size - pos) (bt s pos)).2 : Int)]) ∧ Ext w w' := by
  obtain ⟨r1, r2, hr, R0, R1, R2, R3⟩ := atN_out (s.size - pos) (bt s pos)
  rw [hr]
  clear hr
  have hb0 : bt s pos 0 = (s[pos]'hp).toNat := by unfold bt; rw [Nat.add_zero, Utf8W.get!_of_lt s pos hp]
  have hsz := szN_two (bt s pos 0)
  have hcall := size_any (s[pos]'hp)
  rw [← hb0] at hcall
  have hn8 : n8 (s[pos]'hp) = (bt s pos 0 : Int) := by rw [hb0]; rfl
  replace hb0 := Lib.hid hb0
  have hidx : 0 ≤ (pos : Int) ∧ (pos : Int) < (s.size : Int) := by omega
  by_cases h0 : szN (bt s pos 0) = 0
  · obtain ⟨rfl, rfl⟩ := R0 (.inl h0)
    have hcl : ∀ w, Calls Tryd.prog 39 #[.int .u8 (bt s pos 0 : Int)] w fun e w' => e = .returned (.int .i64 0) ∧ w' = w := fun w => by have h := hcall w; rw [hn8, h0] at h; exact h
    clear R0 R1 R2 R3 hsz hcall
    go_enter Tryd.func30, Tryd.ntmps30
    go_wp2_with (go_at_call 39; with_reducible refine (hcl _).mono ?_; rintro e w' ⟨rfl, rfl⟩)
    go_ret2
    exact ⟨rfl, Ext.refl _⟩
  by_cases hm : s.size - pos < szN (bt s pos 0)
  · obtain ⟨rfl, rfl⟩ := R0 (.inr hm)
    clear R0 R1 R2 R3 hsz
    have h0' : ¬ ((szN (bt s pos 0) : Nat) : Int) = 0 := by omega
    have hm' : (s.size : Int) < (pos : Int) + ((szN (bt s pos 0) : Nat) : Int) := by omega
    have hbn : szN (bt s pos 0) ≤ 4 := by unfold szN; (repeat' split) <;> omega
    rw [hn8] at hcall
    generalize szN (bt s pos 0) = n at *
    go_enter Tryd.func30, Tryd.ntmps30
    go_wp2_with (go_at_call 39; with_reducible refine (hcall _).mono ?_; rintro e w' ⟨rfl, rfl⟩)
    go_ret2
    exact ⟨rfl, Ext.refl _⟩
  replace R1 := Lib.hid (R1 (by omega))
  replace R2 := Lib.hid (R2 (by omega))
  replace R3 := Lib.hid (R3 (by omega))
  clear R0
  obtain ⟨n, hn⟩ : ∃ n, n = szN (bt s pos 0) := ⟨_, rfl⟩
  obtain ⟨p0, hp0⟩ : ∃ p0, p0 = offN n (bt s pos 0) := ⟨_, rfl⟩
  have hp0b : p0 < 128 := by
    rw [hp0, hn]
    rcases hsz with h | ⟨h, h1⟩ | ⟨h, h1⟩ | ⟨h, h1⟩ | ⟨h, h1⟩
    · exact absurd h h0
    · rw [h]; unfold offN; (repeat rw [if_neg (by decide)]); exact h1
    · rw [h, offN2]; omega
    · rw [h, offN3]; omega
    · rw [h, offN4]; omega
  rw [← hn] at hsz hm h0 hcall R1 R2 R3
  rw [← hp0] at R2 R3
  go_enter Tryd.func30, Tryd.ntmps30
  rcases hsz with h | ⟨rfl, h1⟩ | ⟨rfl, h1⟩ | ⟨rfl, h1⟩ | ⟨rfl, h1⟩
  · exact absurd h h0
  · have hcl : ∀ w, Calls Tryd.prog 39 #[.int .u8 (bt s pos 0 : Int)] w fun e w' => e = .returned (.int .i64 1) ∧ w' = w := fun w => by rw [← hn8]; exact hcall w
    have hmi : ¬ (s.size : Int) < (pos : Int) + 1 := by omega
    have hpe : bt s pos 0 = p0 := by rw [hp0]; unfold offN; (repeat rw [if_neg (by decide)])
    rw [hpe] at hcl hn8
    replace hp0 := Lib.hid hp0
    replace hn := Lib.hid hn
    clear hcall hb0 hm h0
    go_wp2_with (go_at_call 39; with_reducible refine (hcl _).mono ?_; rintro e w1 ⟨rfl, rfl⟩)
    go_loopw [7, 8] (fun t7 t8 wr => ∃ i : Nat, 1 ≤ i ∧ i ≤ 1 ∧ t8 = .int .i64 i ∧ t7 = .int .i64 ((acc p0 (bt s pos) (i - 1) : Nat) : Int) ∧ Ext w1 wr ∧ acc p0 (bt s pos) (i - 1) < 128 * 64 ^ (i - 1) ∧ Hid (∀ j, 1 ≤ j → j < i → 128 ≤ bt s pos j ∧ bt s pos j ≤ 191)) (fun _ t8 _ => 1 - (intOf t8).toNat)
    case atStart => exact ⟨1, by omega, by omega, rfl, rfl, Ext.refl _, by show p0 < 128 * 64 ^ 0; omega, Lib.hid fun j g1 g2 => by omega⟩
    case round =>
      obtain ⟨i, hi1, hin, rfl, rfl, hE, hab, HC⟩ := hrel
      obtain ⟨k, rfl⟩ : ∃ k, i = k + 1 := ⟨i - 1, by omega⟩
      simp only [Nat.add_sub_cancel] at hab ⊢
      by_cases hlt : k + 1 < 1
      · exact absurd hlt (by omega)
      · obtain rfl : k = 1 - 1 := by omega
        have hCC : Conts (bt s pos) 1 := fun j g1 g2 => HC.out j g1 (by omega)
        replace R2 := Lib.hid (R2.out hCC)
        replace R3 := Lib.hid (R3.out hCC)
        clear HC R1
        generalize acc p0 (bt s pos) (1 - 1) = q at *
        have hqb : q < 33554432 := by have := pow64 (i := 1 - 1) (by omega); omega
        by_cases hpt : isPt q = true
        · have hp1 := isPt_iff q |>.1 hpt
          have hiso : ∀ w, Calls Tryd.prog 33 #[.int .i64 (q : Int)] w fun e w' => e = .returned (.bool true) ∧ w' = w := fun w => by
            have h := isPoint_any (q : Int) w
            rw [decide_eq_true (by omega)] at h
            exact h
          have hby := fun w => bytes_pt q w (by omega)
          by_cases hbl : blen q = 1
          · obtain ⟨rfl, rfl⟩ := R2.out ⟨hpt, hbl⟩
            rw [hbl] at hby
            clear hpt hp1
            go_wp2_with (first
              | (go_at_call 33; with_reducible refine (hiso _).mono ?_; rintro e w2 ⟨rfl, rfl⟩)
              | (go_at_call 34; with_reducible refine (hby _).mono ?_; rintro e w3 ⟨A, rfl, -, hx⟩))
            go_ret2
            exact ⟨rfl, hE.trans hx⟩
          · obtain ⟨rfl, rfl⟩ := R3.out fun h => hbl h.2
            have hbl' : ¬ ((blen q : Nat) : Int) = 1 := by omega
            clear hpt hp1
            go_wp2_with (first
              | (go_at_call 33; with_reducible refine (hiso _).mono ?_; rintro e w2 ⟨rfl, rfl⟩)
              | (go_at_call 34; with_reducible refine (hby _).mono ?_; rintro e w3 ⟨A, rfl, -, hx⟩))
            go_ret2
            exact ⟨rfl, hE.trans hx⟩
        · obtain ⟨rfl, rfl⟩ := R3.out fun h => hpt h.1
          have hp1 : ¬ (q ≤ 1114111 ∧ (q < 55296 ∨ 57343 < q)) := fun h => hpt ((isPt_iff q).2 h)
          have hiso : ∀ w, Calls Tryd.prog 33 #[.int .i64 (q : Int)] w fun e w' => e = .returned (.bool false) ∧ w' = w := fun w => by
            have h := isPoint_any (q : Int) w
            rw [decide_eq_false (by omega)] at h
            exact h
          clear hpt hp1
          go_wp2_with (go_at_call 33; with_reducible refine (hiso _).mono ?_; rintro e w2 ⟨rfl, rfl⟩)
          go_ret2
          exact ⟨rfl, hE⟩
  · have hcl : ∀ w, Calls Tryd.prog 39 #[.int .u8 (bt s pos 0 : Int)] w fun e w' => e = .returned (.int .i64 2) ∧ w' = w := fun w => by rw [← hn8]; exact hcall w
    have hmi : ¬ (s.size : Int) < (pos : Int) + 2 := by omega
    have hpi : (bt s pos 0 : Int) - 192 = (p0 : Int) := by rw [hp0, offN2]; omega
    replace hp0 := Lib.hid hp0
    replace hn := Lib.hid hn
    clear hcall hb0 hm h0
    go_wp2_with (go_at_call 39; with_reducible refine (hcl _).mono ?_; rintro e w1 ⟨rfl, rfl⟩)
    go_loopw [7, 8] (fun t7 t8 wr => ∃ i : Nat, 1 ≤ i ∧ i ≤ 2 ∧ t8 = .int .i64 i ∧ t7 = .int .i64 ((acc p0 (bt s pos) (i - 1) : Nat) : Int) ∧ Ext w1 wr ∧ acc p0 (bt s pos) (i - 1) < 128 * 64 ^ (i - 1) ∧ Hid (∀ j, 1 ≤ j → j < i → 128 ≤ bt s pos j ∧ bt s pos j ≤ 191)) (fun _ t8 _ => 2 - (intOf t8).toNat)
    case atStart => exact ⟨1, by omega, by omega, rfl, rfl, Ext.refl _, by show p0 < 128 * 64 ^ 0; omega, Lib.hid fun j g1 g2 => by omega⟩
    case round =>
      obtain ⟨i, hi1, hin, rfl, rfl, hE, hab, HC⟩ := hrel
      obtain ⟨k, rfl⟩ : ∃ k, i = k + 1 := ⟨i - 1, by omega⟩
      simp only [Nat.add_sub_cancel] at hab ⊢
      by_cases hlt : k + 1 < 2
      · have hjx : pos + (k + 1) < s.size := by omega
        have hb1 : bt s pos (k + 1) = (s[pos + (k + 1)]'hjx).toNat := by unfold bt; rw [Utf8W.get!_of_lt s _ hjx]
        have hb18 : n8 (s[pos + (k + 1)]'hjx) = (bt s pos (k + 1) : Int) := by rw [hb1]; rfl
        have hbb := bt_lt s pos (k + 1)
        have hidx2 : 0 ≤ (pos : Int) + ((k : Int) + 1) ∧ (pos : Int) + ((k : Int) + 1) < (s.size : Int) := by omega
        have hpk := pow64 (i := k) (by omega)
        obtain ⟨q, hq⟩ : ∃ q, q = acc p0 (bt s pos) k := ⟨_, rfl⟩
        have hqb : q < 33554432 := by rw [hq]; omega
        rw [← hq] at hab ⊢
        replace hq := Lib.hid hq
        have hw1 : IntKind.i64.wrap ((pos : Int) + ((k : Int) + 1)) = (pos : Int) + ((k : Int) + 1) := IntWalk.i64_in _ (by omega)
        clear hb1
        obtain ⟨c, hc⟩ : ∃ c, c = bt s pos (k + 1) := ⟨_, rfl⟩
        rw [← hc] at hb18 hbb
        by_cases hc1 : c < 128
        · obtain ⟨rfl, rfl⟩ := R1.out (k + 1) (by omega) hlt (by rw [← hc]; omega)
          replace hc := Lib.hid hc
          have hc1' : (c : Int) < 128 := by omega
          go_wp2
          go_ret2
          exact ⟨rfl, hE⟩
        · by_cases hc2 : 191 < c
          · obtain ⟨rfl, rfl⟩ := R1.out (k + 1) (by omega) hlt (by rw [← hc]; omega)
            replace hc := Lib.hid hc
            have hc1' : ¬ (c : Int) < 128 := by omega
            have hc2' : (191 : Int) < (c : Int) := by omega
            go_wp2
            go_ret2
            exact ⟨rfl, hE⟩
          · have hacc : 64 * (q : Int) + (c : Int) - 128 = ((acc p0 (bt s pos) (k + 1) : Nat) : Int) := by
              have e : acc p0 (bt s pos) (k + 1) = 64 * q + c - 128 := by rw [hq.out, hc]; rfl
              rw [e]; omega
            have hab2 : acc p0 (bt s pos) (k + 1) < 128 * 64 ^ (k + 1) := by
              have e : acc p0 (bt s pos) (k + 1) = 64 * q + c - 128 := by rw [hq.out, hc]; rfl
              rw [e, Nat.pow_succ]; omega
            have HC2 : Hid (∀ j, 1 ≤ j → j < k + 1 + 1 → 128 ≤ bt s pos j ∧ bt s pos j ≤ 191) := Lib.hid fun j g1 g2 => by
              by_cases hj : j = k + 1
              · rw [hj, ← hc]; omega
              · exact HC.out j g1 (by omega)
            replace hc := Lib.hid hc
            have hc1' : ¬ (c : Int) < 128 := by omega
            have hc2' : ¬ (191 : Int) < (c : Int) := by omega
            go_wp2
            exact ⟨⟨k + 1 + 1, by omega, by omega, by go_num, rfl, hE, hab2, HC2⟩, by simp [intOf]; omega⟩
      · obtain rfl : k = 2 - 1 := by omega
        have hCC : Conts (bt s pos) 2 := fun j g1 g2 => HC.out j g1 (by omega)
        replace R2 := Lib.hid (R2.out hCC)
        replace R3 := Lib.hid (R3.out hCC)
        clear HC R1
        generalize acc p0 (bt s pos) (2 - 1) = q at *
        have hqb : q < 33554432 := by have := pow64 (i := 2 - 1) (by omega); omega
        by_cases hpt : isPt q = true
        · have hp1 := isPt_iff q |>.1 hpt
          have hiso : ∀ w, Calls Tryd.prog 33 #[.int .i64 (q : Int)] w fun e w' => e = .returned (.bool true) ∧ w' = w := fun w => by
            have h := isPoint_any (q : Int) w
            rw [decide_eq_true (by omega)] at h
            exact h
          have hby := fun w => bytes_pt q w (by omega)
          by_cases hbl : blen q = 2
          · obtain ⟨rfl, rfl⟩ := R2.out ⟨hpt, hbl⟩
            rw [hbl] at hby
            clear hpt hp1
            go_wp2_with (first
              | (go_at_call 33; with_reducible refine (hiso _).mono ?_; rintro e w2 ⟨rfl, rfl⟩)
              | (go_at_call 34; with_reducible refine (hby _).mono ?_; rintro e w3 ⟨A, rfl, -, hx⟩))
            go_ret2
            exact ⟨rfl, hE.trans hx⟩
          · obtain ⟨rfl, rfl⟩ := R3.out fun h => hbl h.2
            have hbl' : ¬ ((blen q : Nat) : Int) = 2 := by omega
            clear hpt hp1
            go_wp2_with (first
              | (go_at_call 33; with_reducible refine (hiso _).mono ?_; rintro e w2 ⟨rfl, rfl⟩)
              | (go_at_call 34; with_reducible refine (hby _).mono ?_; rintro e w3 ⟨A, rfl, -, hx⟩))
            go_ret2
            exact ⟨rfl, hE.trans hx⟩
        · obtain ⟨rfl, rfl⟩ := R3.out fun h => hpt h.1
          have hp1 : ¬ (q ≤ 1114111 ∧ (q < 55296 ∨ 57343 < q)) := fun h => hpt ((isPt_iff q).2 h)
          have hiso : ∀ w, Calls Tryd.prog 33 #[.int .i64 (q : Int)] w fun e w' => e = .returned (.bool false) ∧ w' = w := fun w => by
            have h := isPoint_any (q : Int) w
            rw [decide_eq_false (by omega)] at h
            exact h
          clear hpt hp1
          go_wp2_with (go_at_call 33; with_reducible refine (hiso _).mono ?_; rintro e w2 ⟨rfl, rfl⟩)
          go_ret2
          exact ⟨rfl, hE⟩
  · have hcl : ∀ w, Calls Tryd.prog 39 #[.int .u8 (bt s pos 0 : Int)] w fun e w' => e = .returned (.int .i64 3) ∧ w' = w := fun w => by rw [← hn8]; exact hcall w
    have hmi : ¬ (s.size : Int) < (pos : Int) + 3 := by omega
    have hpi : (bt s pos 0 : Int) - 224 = (p0 : Int) := by rw [hp0, offN3]; omega
    replace hp0 := Lib.hid hp0
    replace hn := Lib.hid hn
    clear hcall hb0 hm h0
    go_wp2_with (go_at_call 39; with_reducible refine (hcl _).mono ?_; rintro e w1 ⟨rfl, rfl⟩)
    go_loopw [7, 8] (fun t7 t8 wr => ∃ i : Nat, 1 ≤ i ∧ i ≤ 3 ∧ t8 = .int .i64 i ∧ t7 = .int .i64 ((acc p0 (bt s pos) (i - 1) : Nat) : Int) ∧ Ext w1 wr ∧ acc p0 (bt s pos) (i - 1) < 128 * 64 ^ (i - 1) ∧ Hid (∀ j, 1 ≤ j → j < i → 128 ≤ bt s pos j ∧ bt s pos j ≤ 191)) (fun _ t8 _ => 3 - (intOf t8).toNat)
    case atStart => exact ⟨1, by omega, by omega, rfl, rfl, Ext.refl _, by show p0 < 128 * 64 ^ 0; omega, Lib.hid fun j g1 g2 => by omega⟩
    case round =>
      obtain ⟨i, hi1, hin, rfl, rfl, hE, hab, HC⟩ := hrel
      obtain ⟨k, rfl⟩ : ∃ k, i = k + 1 := ⟨i - 1, by omega⟩
      simp only [Nat.add_sub_cancel] at hab ⊢
      by_cases hlt : k + 1 < 3
      · have hjx : pos + (k + 1) < s.size := by omega
        have hb1 : bt s pos (k + 1) = (s[pos + (k + 1)]'hjx).toNat := by unfold bt; rw [Utf8W.get!_of_lt s _ hjx]
        have hb18 : n8 (s[pos + (k + 1)]'hjx) = (bt s pos (k + 1) : Int) := by rw [hb1]; rfl
        have hbb := bt_lt s pos (k + 1)
        have hidx2 : 0 ≤ (pos : Int) + ((k : Int) + 1) ∧ (pos : Int) + ((k : Int) + 1) < (s.size : Int) := by omega
        have hpk := pow64 (i := k) (by omega)
        obtain ⟨q, hq⟩ : ∃ q, q = acc p0 (bt s pos) k := ⟨_, rfl⟩
        have hqb : q < 33554432 := by rw [hq]; omega
        rw [← hq] at hab ⊢
        replace hq := Lib.hid hq
        have hw1 : IntKind.i64.wrap ((pos : Int) + ((k : Int) + 1)) = (pos : Int) + ((k : Int) + 1) := IntWalk.i64_in _ (by omega)
        clear hb1
        obtain ⟨c, hc⟩ : ∃ c, c = bt s pos (k + 1) := ⟨_, rfl⟩
        rw [← hc] at hb18 hbb
        by_cases hc1 : c < 128
        · obtain ⟨rfl, rfl⟩ := R1.out (k + 1) (by omega) hlt (by rw [← hc]; omega)
          replace hc := Lib.hid hc
          have hc1' : (c : Int) < 128 := by omega
          go_wp2
          go_ret2
          exact ⟨rfl, hE⟩
        · by_cases hc2 : 191 < c
          · obtain ⟨rfl, rfl⟩ := R1.out (k + 1) (by omega) hlt (by rw [← hc]; omega)
            replace hc := Lib.hid hc
            have hc1' : ¬ (c : Int) < 128 := by omega
            have hc2' : (191 : Int) < (c : Int) := by omega
            go_wp2
            go_ret2
            exact ⟨rfl, hE⟩
          · have hacc : 64 * (q : Int) + (c : Int) - 128 = ((acc p0 (bt s pos) (k + 1) : Nat) : Int) := by
              have e : acc p0 (bt s pos) (k + 1) = 64 * q + c - 128 := by rw [hq.out, hc]; rfl
              rw [e]; omega
            have hab2 : acc p0 (bt s pos) (k + 1) < 128 * 64 ^ (k + 1) := by
              have e : acc p0 (bt s pos) (k + 1) = 64 * q + c - 128 := by rw [hq.out, hc]; rfl
              rw [e, Nat.pow_succ]; omega
            have HC2 : Hid (∀ j, 1 ≤ j → j < k + 1 + 1 → 128 ≤ bt s pos j ∧ bt s pos j ≤ 191) := Lib.hid fun j g1 g2 => by
              by_cases hj : j = k + 1
              · rw [hj, ← hc]; omega
              · exact HC.out j g1 (by omega)
            replace hc := Lib.hid hc
            have hc1' : ¬ (c : Int) < 128 := by omega
            have hc2' : ¬ (191 : Int) < (c : Int) := by omega
            go_wp2
            exact ⟨⟨k + 1 + 1, by omega, by omega, by go_num, rfl, hE, hab2, HC2⟩, by simp [intOf]; omega⟩
      · obtain rfl : k = 3 - 1 := by omega
        have hCC : Conts (bt s pos) 3 := fun j g1 g2 => HC.out j g1 (by omega)
        replace R2 := Lib.hid (R2.out hCC)
        replace R3 := Lib.hid (R3.out hCC)
        clear HC R1
        generalize acc p0 (bt s pos) (3 - 1) = q at *
        have hqb : q < 33554432 := by have := pow64 (i := 3 - 1) (by omega); omega
        by_cases hpt : isPt q = true
        · have hp1 := isPt_iff q |>.1 hpt
          have hiso : ∀ w, Calls Tryd.prog 33 #[.int .i64 (q : Int)] w fun e w' => e = .returned (.bool true) ∧ w' = w := fun w => by
            have h := isPoint_any (q : Int) w
            rw [decide_eq_true (by omega)] at h
            exact h
          have hby := fun w => bytes_pt q w (by omega)
          by_cases hbl : blen q = 3
          · obtain ⟨rfl, rfl⟩ := R2.out ⟨hpt, hbl⟩
            rw [hbl] at hby
            clear hpt hp1
            go_wp2_with (first
              | (go_at_call 33; with_reducible refine (hiso _).mono ?_; rintro e w2 ⟨rfl, rfl⟩)
              | (go_at_call 34; with_reducible refine (hby _).mono ?_; rintro e w3 ⟨A, rfl, -, hx⟩))
            go_ret2
            exact ⟨rfl, hE.trans hx⟩
          · obtain ⟨rfl, rfl⟩ := R3.out fun h => hbl h.2
            have hbl' : ¬ ((blen q : Nat) : Int) = 3 := by omega
            clear hpt hp1
            go_wp2_with (first
              | (go_at_call 33; with_reducible refine (hiso _).mono ?_; rintro e w2 ⟨rfl, rfl⟩)
              | (go_at_call 34; with_reducible refine (hby _).mono ?_; rintro e w3 ⟨A, rfl, -, hx⟩))
            go_ret2
            exact ⟨rfl, hE.trans hx⟩
        · obtain ⟨rfl, rfl⟩ := R3.out fun h => hpt h.1
          have hp1 : ¬ (q ≤ 1114111 ∧ (q < 55296 ∨ 57343 < q)) := fun h => hpt ((isPt_iff q).2 h)
          have hiso : ∀ w, Calls Tryd.prog 33 #[.int .i64 (q : Int)] w fun e w' => e = .returned (.bool false) ∧ w' = w := fun w => by
            have h := isPoint_any (q : Int) w
            rw [decide_eq_false (by omega)] at h
            exact h
          clear hpt hp1
          go_wp2_with (go_at_call 33; with_reducible refine (hiso _).mono ?_; rintro e w2 ⟨rfl, rfl⟩)
          go_ret2
          exact ⟨rfl, hE⟩
  · have hcl : ∀ w, Calls Tryd.prog 39 #[.int .u8 (bt s pos 0 : Int)] w fun e w' => e = .returned (.int .i64 4) ∧ w' = w := fun w => by rw [← hn8]; exact hcall w
    have hmi : ¬ (s.size : Int) < (pos : Int) + 4 := by omega
    have hpi : (bt s pos 0 : Int) - 240 = (p0 : Int) := by rw [hp0, offN4]; omega
    replace hp0 := Lib.hid hp0
    replace hn := Lib.hid hn
    clear hcall hb0 hm h0
    go_wp2_with (go_at_call 39; with_reducible refine (hcl _).mono ?_; rintro e w1 ⟨rfl, rfl⟩)
    go_loopw [7, 8] (fun t7 t8 wr => ∃ i : Nat, 1 ≤ i ∧ i ≤ 4 ∧ t8 = .int .i64 i ∧ t7 = .int .i64 ((acc p0 (bt s pos) (i - 1) : Nat) : Int) ∧ Ext w1 wr ∧ acc p0 (bt s pos) (i - 1) < 128 * 64 ^ (i - 1) ∧ Hid (∀ j, 1 ≤ j → j < i → 128 ≤ bt s pos j ∧ bt s pos j ≤ 191)) (fun _ t8 _ => 4 - (intOf t8).toNat)
    case atStart => exact ⟨1, by omega, by omega, rfl, rfl, Ext.refl _, by show p0 < 128 * 64 ^ 0; omega, Lib.hid fun j g1 g2 => by omega⟩
    case round =>
      obtain ⟨i, hi1, hin, rfl, rfl, hE, hab, HC⟩ := hrel
      obtain ⟨k, rfl⟩ : ∃ k, i = k + 1 := ⟨i - 1, by omega⟩
      simp only [Nat.add_sub_cancel] at hab ⊢
      by_cases hlt : k + 1 < 4
      · have hjx : pos + (k + 1) < s.size := by omega
        have hb1 : bt s pos (k + 1) = (s[pos + (k + 1)]'hjx).toNat := by unfold bt; rw [Utf8W.get!_of_lt s _ hjx]
        have hb18 : n8 (s[pos + (k + 1)]'hjx) = (bt s pos (k + 1) : Int) := by rw [hb1]; rfl
        have hbb := bt_lt s pos (k + 1)
        have hidx2 : 0 ≤ (pos : Int) + ((k : Int) + 1) ∧ (pos : Int) + ((k : Int) + 1) < (s.size : Int) := by omega
        have hpk := pow64 (i := k) (by omega)
        obtain ⟨q, hq⟩ : ∃ q, q = acc p0 (bt s pos) k := ⟨_, rfl⟩
        have hqb : q < 33554432 := by rw [hq]; omega
        rw [← hq] at hab ⊢
        replace hq := Lib.hid hq
        have hw1 : IntKind.i64.wrap ((pos : Int) + ((k : Int) + 1)) = (pos : Int) + ((k : Int) + 1) := IntWalk.i64_in _ (by omega)
        clear hb1
        obtain ⟨c, hc⟩ : ∃ c, c = bt s pos (k + 1) := ⟨_, rfl⟩
        rw [← hc] at hb18 hbb
        by_cases hc1 : c < 128
        · obtain ⟨rfl, rfl⟩ := R1.out (k + 1) (by omega) hlt (by rw [← hc]; omega)
          replace hc := Lib.hid hc
          have hc1' : (c : Int) < 128 := by omega
          go_wp2
          go_ret2
          exact ⟨rfl, hE⟩
        · by_cases hc2 : 191 < c
          · obtain ⟨rfl, rfl⟩ := R1.out (k + 1) (by omega) hlt (by rw [← hc]; omega)
            replace hc := Lib.hid hc
            have hc1' : ¬ (c : Int) < 128 := by omega
            have hc2' : (191 : Int) < (c : Int) := by omega
            go_wp2
            go_ret2
            exact ⟨rfl, hE⟩
          · have hacc : 64 * (q : Int) + (c : Int) - 128 = ((acc p0 (bt s pos) (k + 1) : Nat) : Int) := by
              have e : acc p0 (bt s pos) (k + 1) = 64 * q + c - 128 := by rw [hq.out, hc]; rfl
              rw [e]; omega
            have hab2 : acc p0 (bt s pos) (k + 1) < 128 * 64 ^ (k + 1) := by
              have e : acc p0 (bt s pos) (k + 1) = 64 * q + c - 128 := by rw [hq.out, hc]; rfl
              rw [e, Nat.pow_succ]; omega
            have HC2 : Hid (∀ j, 1 ≤ j → j < k + 1 + 1 → 128 ≤ bt s pos j ∧ bt s pos j ≤ 191) := Lib.hid fun j g1 g2 => by
              by_cases hj : j = k + 1
              · rw [hj, ← hc]; omega
              · exact HC.out j g1 (by omega)
            replace hc := Lib.hid hc
            have hc1' : ¬ (c : Int) < 128 := by omega
            have hc2' : ¬ (191 : Int) < (c : Int) := by omega
            go_wp2
            exact ⟨⟨k + 1 + 1, by omega, by omega, by go_num, rfl, hE, hab2, HC2⟩, by simp [intOf]; omega⟩
      · obtain rfl : k = 4 - 1 := by omega
        have hCC : Conts (bt s pos) 4 := fun j g1 g2 => HC.out j g1 (by omega)
        replace R2 := Lib.hid (R2.out hCC)
        replace R3 := Lib.hid (R3.out hCC)
        clear HC R1
        generalize acc p0 (bt s pos) (4 - 1) = q at *
        have hqb : q < 33554432 := by have := pow64 (i := 4 - 1) (by omega); omega
        by_cases hpt : isPt q = true
        · have hp1 := isPt_iff q |>.1 hpt
          have hiso : ∀ w, Calls Tryd.prog 33 #[.int .i64 (q : Int)] w fun e w' => e = .returned (.bool true) ∧ w' = w := fun w => by
            have h := isPoint_any (q : Int) w
            rw [decide_eq_true (by omega)] at h
            exact h
          have hby := fun w => bytes_pt q w (by omega)
          by_cases hbl : blen q = 4
          · obtain ⟨rfl, rfl⟩ := R2.out ⟨hpt, hbl⟩
            rw [hbl] at hby
            clear hpt hp1
            go_wp2_with (first
              | (go_at_call 33; with_reducible refine (hiso _).mono ?_; rintro e w2 ⟨rfl, rfl⟩)
              | (go_at_call 34; with_reducible refine (hby _).mono ?_; rintro e w3 ⟨A, rfl, -, hx⟩))
            go_ret2
            exact ⟨rfl, hE.trans hx⟩
          · obtain ⟨rfl, rfl⟩ := R3.out fun h => hbl h.2
            have hbl' : ¬ ((blen q : Nat) : Int) = 4 := by omega
            clear hpt hp1
            go_wp2_with (first
              | (go_at_call 33; with_reducible refine (hiso _).mono ?_; rintro e w2 ⟨rfl, rfl⟩)
              | (go_at_call 34; with_reducible refine (hby _).mono ?_; rintro e w3 ⟨A, rfl, -, hx⟩))
            go_ret2
            exact ⟨rfl, hE.trans hx⟩
        · obtain ⟨rfl, rfl⟩ := R3.out fun h => hpt h.1
          have hp1 : ¬ (q ≤ 1114111 ∧ (q < 55296 ∨ 57343 < q)) := fun h => hpt ((isPt_iff q).2 h)
          have hiso : ∀ w, Calls Tryd.prog 33 #[.int .i64 (q : Int)] w fun e w' => e = .returned (.bool false) ∧ w' = w := fun w => by
            have h := isPoint_any (q : Int) w
            rw [decide_eq_false (by omega)] at h
            exact h
          clear hpt hp1
          go_wp2_with (go_at_call 33; with_reducible refine (hiso _).mono ?_; rintro e w2 ⟨rfl, rfl⟩)
          go_ret2
          exact ⟨rfl, hE⟩
end Go.Proofs.YthdniboajbhhiaaDoor
