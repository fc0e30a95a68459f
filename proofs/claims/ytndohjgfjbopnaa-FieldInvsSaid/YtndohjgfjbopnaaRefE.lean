/-
  Walks of the document's answer: less than the prime.
-/
import Derived.Test.YtndohjgfjbopnaaRefD
set_option linter.unusedSimpArgs false
set_option linter.unusedVariables false
namespace Go.Cv.Dig
open Go.RowKit
theorem pdig_lt {l : List Nat} (hl : Canon l) (h : l.length < 11 ∨ l.length = 11 ∧ dg l 10 < 32767) : dval l < 2 ^ 255 - 19 := by
  rcases h with h | ⟨h1, h2⟩
  · have := hl.1.lt
    have h3 : 16777216 ^ l.length ≤ 16777216 ^ 10 := Nat.pow_le_pow_right (by decide) (by omega)
    omega
  · have h3 := lo_hi l (i := 10) (by omega)
    have h4 := lo_lt hl.1 10
    have h5 : hi l 10 = dg l 10 := by
      rw [hi_cons (by omega)]
      unfold hi
      rw [List.drop_of_length_le (by omega)]
      simp [dval]
    rw [h5] at h3
    omega
theorem below_mod {x : Nat} (h : x < 2 ^ 255) : (x < 2 ^ 255 - 19 → x = x % (2 ^ 255 - 19)) ∧ (2 ^ 255 - 19 ≤ x → x - (2 ^ 255 - 19) = x % (2 ^ 255 - 19)) := by
  constructor
  · intro h1
    rw [Nat.mod_eq_of_lt h1]
  · intro h1
    omega
end Go.Cv.Dig
namespace Go.Proofs.Ytndohjgfjbopnaa
open Go.RowKit Go.Cv Go.Cv.Dig

theorem cmp_ge {x : Nat} {k : Int} (h : cmpIs x (dval pdig) k) (hx : 2 ^ 255 - 19 ≤ x) : k ≥ 0 := by
  rw [pdig_val] at h
  unfold cmpIs at h
  omega
theorem cmp_lt {x : Nat} {k : Int} (h : cmpIs x (dval pdig) k) (hx : ¬ 2 ^ 255 - 19 ≤ x) : ¬ k ≥ 0 := by
  rw [pdig_val] at h
  unfold cmpIs at h
  omega
theorem cmp_p (A B : Option Addr) (c1 c2 : Nat) (l : List Nat) (w : World) (hn1 : l.length = 11) (hl : Canon l)
    (hr1 : Rd w A (l.map iv)) (hr2 : Rd w B (pdig.map iv)) :
    Calls Try.prog 36 #[.slice A 11 c1, .slice B 11 c2] w fun e w' => ∃ c, e = .returned (.int .i64 c) ∧ cmpIs (dval l) (dval pdig) c ∧ Ext w w' :=
  cmp_any A B 11 11 c1 c2 l pdig w hn1 rfl hl pdig_canon hr1 hr2 (by decide) (by decide)
theorem less_p (A B : Option Addr) (c1 c2 : Nat) (l : List Nat) (w : World) (hn1 : l.length = 11) (hl : Canon l) (hle : 2 ^ 255 - 19 ≤ dval l)
    (hr1 : Rd w A (l.map iv)) (hr2 : Rd w B (pdig.map iv)) :
    Calls Try.prog 63 #[.slice A 11 c1, .slice B 11 c2] w fun e w' => ∃ v, e = .returned v ∧ Num w' v (dval l - (2 ^ 255 - 19)) 11 ∧ Ext w w' := by
  have h := less_any A B 11 11 c1 c2 l pdig w hn1 rfl hl pdig_canon (by rw [pdig_val]; exact hle) hr1 hr2 (by decide) (by decide)
  rw [pdig_val] at h
  exact h

set_option maxRecDepth 20000 in
set_option maxHeartbeats 2000000 in
theorem below_any (A : Option Addr) (n1 c1 : Nat) (l : List Nat) (w : World) (hn1 : l.length = n1) (hl : Canon l) (hv : dval l < 2 ^ 255)
    (hr1 : Rd w A (l.map iv)) (hb1 : n1 ≤ 11) (hc1 : n1 ≤ c1) :
    Calls Try.prog 91 #[.slice A n1 c1] w fun e w' => ∃ v, e = .returned v ∧ Num w' v (dval l % (2 ^ 255 - 19)) 11 ∧ Ext w w' := by
  have HN1 := Lib.hid hn1
  have HL := Lib.hid hl
  have HB := Lib.hid (below_mod hv)
  have HP := Lib.hid (pdig_lt hl)
  clear hl hn1 hv
  by_cases h11 : n1 < 11
  · have hlt : dval l < 2 ^ 255 - 19 := HP.out (.inl (by rw [HN1.out]; exact h11))
    have HE := Lib.hid (HB.out.1 hlt)
    clear hlt
    go_enter Try.func91, Try.ntmps91
    go_wp2
    go_ret
    exact ⟨_, rfl, Num.mk HN1.out hc1 hr1 HL.out HE.out hb1, Ext.refl _⟩
  · obtain rfl : n1 = 11 := by omega
    obtain ⟨ad, rfl, hcell⟩ := hr1.at_ (k := 10) (by rw [List.length_map, HN1.out]; decide)
    have hd10 := dg_lt (l := l) (i := 10) (by rw [HN1.out]; decide)
    rw [List.getElem_map, ← hd10] at hcell
    clear hd10
    replace hcell : w.cell? ⟨ad.block, ad.off + 10, none⟩ = some (iv (dg l 10)) := by
      have e : ad.add 10 = ⟨ad.block, ad.off + 10, none⟩ := by unfold Addr.add; rfl
      rw [← e]; exact hcell
    by_cases hd : dg l 10 < 32767
    · have hlt : dval l < 2 ^ 255 - 19 := HP.out (.inr ⟨HN1.out, hd⟩)
      have HE := Lib.hid (HB.out.1 hlt)
      clear hlt
      have hd' : (dg l 10 : Int) < 32767 := by omega
      go_enter Try.func91, Try.ntmps91
      go_wp2
      go_ret
      exact ⟨_, rfl, Num.mk HN1.out hc1 hr1 HL.out HE.out (Nat.le_refl _), Ext.refl _⟩
    · have hd' : ¬ (dg l 10 : Int) < 32767 := by omega
      go_enter Try.func91, Try.ntmps91
      by_cases hge : 2 ^ 255 - 19 ≤ dval l
      · have HE := Lib.hid (HB.out.2 hge)
        have HG := Lib.hid hge
        clear hge
        go_wp2_with (first
          | (go_at_call 56; with_reducible refine (p_any _).mono ?_; rintro e w' ⟨B, c, rfl, hB, hx⟩)
          | (go_at_call 36; with_reducible refine (cmp_p _ _ _ _ l _ HN1.out HL.out (hr1.ext hx) hB).mono ?_; rintro e w' ⟨k, rfl, hk, hx2⟩; have hk2 := cmp_ge hk HG.out; clear hk)
          | (go_at_call 63; with_reducible refine (less_p _ _ _ _ l _ HN1.out HL.out HG.out (hr1.ext (hx.trans hx2)) (hB.ext hx2)).mono ?_; rintro e w' ⟨v, rfl, hnum, hx3⟩))
        go_ret
        exact ⟨_, rfl, HE.out ▸ hnum, (hx.trans hx2).trans hx3⟩
      · have HE := Lib.hid (HB.out.1 (by omega))
        have HG := Lib.hid hge
        clear hge
        go_wp2_with (first
          | (go_at_call 56; with_reducible refine (p_any _).mono ?_; rintro e w' ⟨B, c, rfl, hB, hx⟩)
          | (go_at_call 36; with_reducible refine (cmp_p _ _ _ _ l _ HN1.out HL.out (hr1.ext hx) hB).mono ?_; rintro e w' ⟨k, rfl, hk, hx2⟩; have hk2 := cmp_lt hk HG.out; clear hk))
        go_ret
        exact ⟨_, rfl, Num.mk HN1.out hc1 (hr1.ext (hx.trans hx2)) HL.out HE.out (Nat.le_refl _), hx.trans hx2⟩
end Go.Proofs.Ytndohjgfjbopnaa
