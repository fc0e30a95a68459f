/-
  Bytes and texts come back: the statement BaseBack.
-/
import Derived.Test.YtjbomaihabldjaaDoorBaseG
set_option linter.unusedSimpArgs false
set_option linter.unusedVariables false
namespace Go.Proofs.YtjbomaihabldjaaDoor
open Go.RowKit Go.Cv Go.Cv.Base Go.Cv.Dig
theorem vals_text (u : Bool) (l : List UInt8) : vals u ⟨l.toArray⟩ = l.map (W u) := by simp [vals]
/-- What was told is read again. -/
theorem dec_back (u : Bool) (l : List UInt8) (w : World) (bnd : l.length ≤ 2000000) :
    Calls Tryd.prog 10 #[.string ⟨(enc u l).toArray⟩, .bool u] w fun e w' => ∃ A n c, e = .returned (.tuple #[.slice A n c, .nilIface]) ∧ l.length = n ∧ Rd w' A (l.map bv) ∧ Ext w w' := by
  have hsz : (⟨(enc u l).toArray⟩ : ByteArray).size ≤ 5000000 := by
    have := enc_len u l
    show (enc u l).toArray.size ≤ _
    rw [List.size_toArray]
    omega
  refine (decode_ok u ⟨(enc u l).toArray⟩ (all_let u _ (by simpa using enc_letters u l)) w hsz).mono ?_
  rintro e w' (⟨d, v, hd, rfl, ⟨A, n, c, rfl, hn, hc, hr⟩, hx⟩ | ⟨hd, -⟩)
  · rw [vals_text, dec_enc] at hd
    injection hd with hd
    subst hd
    exact ⟨A, n, c, rfl, hn, hr, hx⟩
  · rw [vals_text, dec_enc] at hd
    cases hd
theorem text_inj {s : ByteArray} {l : List UInt8} (h : s.data.toList = l) : s = ⟨l.toArray⟩ := by
  cases s with
  | mk a => simp at h; rw [← h]
set_option maxRecDepth 10000 in
set_option maxHeartbeats 8000000 in
theorem back_any (A : Option Addr) (n cap : Nat) (l : List UInt8) (s : ByteArray) (u : Bool) (w : World) (hT : ET w) (hl : ArgB w A n cap l) (bnd : cap + s.size ≤ 1048576) :
    Calls Tryd.prog 5 #[.slice A n cap, .string s, .bool u] w fun e w' => e = .returned (.bool true) ∧ Ext w w' := by
  have hs := shown_any w hT
  have hle := hl.le
  have hn2 : n ≤ 2000000 := by omega
  have hlen := hl.len
  have hr := hl.rd
  have hen := fun w hr => encode_any u A n cap l w hlen hle hr hn2
  have hdb := fun w => dec_back u l w (by omega)
  have hsame := fun B m d w a b => same_any A n cap l B m d l w hlen a b
  rw [decide_eq_true (show l = l from rfl)] at hsame
  have hel := enc_length u l
  rw [hlen] at hel
  obtain ⟨T, hTT⟩ : ∃ T : ByteArray, T = ⟨(enc u l).toArray⟩ := ⟨_, rfl⟩
  have hTs : (T.size : Int) = ((enc u l).length : Int) := by rw [hTT]; rfl
  have hlt : ((T.size : Int) != (n : Int) / 3 * 4 + ((n : Int) % 3 * 4 + 2) / 3) = false := by
    rw [hTs, hel]
    simp
  rcases decode_two u s (by omega) with ⟨d, hd, hlet, h1, -⟩ | ⟨p, h1, -⟩
  · have hdl := dec_len _ _ hd
    rw [vals_len] at hdl
    have hed := enc_dec u s.data.toList d hlet hd
    have hst : (s.toList == T.toList) = decide (l = d) := by
      rw [Bool.eq_iff_iff, beq_iff_eq, decide_eq_true_iff, ByteArray.toList_eq, ByteArray.toList_eq]
      constructor
      · intro h
        rw [← hed, hTT] at h
        have h2 := congrArg (fun x => dec (x.map (W u))) h
        simp only [dec_enc] at h2
        injection h2 with h2
        exact h2.symm
      · intro h
        rw [← hed, hTT, h]
    have hse : (⟨(enc u d).toArray⟩ : ByteArray) = s := (text_inj hed.symm).symm
    have h1' : ∀ w, Calls Tryd.prog 10 #[.string s, .bool u] w fun e w' => ∃ A n c, e = .returned (.tuple #[.slice A n c, .nilIface]) ∧ d.length = n ∧ n ≤ c ∧ Rd w' A (d.map bv) ∧ Ext w w' := fun w => (h1 w).mono fun e w' ⟨v, g1, ⟨A, n, c, g2, g3, g4, g5⟩, g6⟩ => ⟨A, n, c, by rw [g1, g2], g3, g4, g5, g6⟩
    have hen2 := fun A n c w a b hr => encode_any u A n c d w a b hr
    rw [hse] at hen2
    have hsame2 := fun B m e w a b => same_any A n cap l B m e d w hlen a b
    rw [← hTT] at hdb hen
    clear hTT hTs hel h1 hd hlet hed hse
    generalize decide (l = d) = r at *
    go_enter Tryd.func5, Tryd.ntmps5
    go_wp2_with (first
      | (go_at_call 6; with_reducible refine hs.mono ?_; rintro e w1 ⟨rfl, hx1⟩)
      | (go_at_call 7; with_reducible refine (hen _ (hr.ext hx1)).mono ?_; rintro e w2 ⟨rfl, hx2⟩)
      | (go_at_call 10; with_reducible refine (hdb _).mono ?_; rintro e w3 ⟨A3, n3, c3, rfl, hn3, hr3, hx3⟩)
      | (go_at_call 8; with_reducible refine (hsame A3 n3 c3 _ (hr.ext (hx1.trans (hx2.trans hx3))) hn3 hr3 (by omega)).mono ?_; rintro e w4 ⟨rfl, hx4⟩)
      | (go_at_call 10; with_reducible refine (h1' _).mono ?_; rintro e w5 ⟨A5, n5, c5, rfl, hn5, hc5, hr5, hx5⟩)
      | (go_at_call 7; with_reducible refine (hen2 A5 n5 c5 _ hn5 hc5 hr5 (by omega)).mono ?_; rintro e w6 ⟨rfl, hx6⟩)
      | (go_at_call 8; with_reducible refine (hsame2 A5 n5 c5 _ (hr.ext (hx1.trans (hx2.trans (hx3.trans (hx4.trans (hx5.trans hx6)))))) hn5 (hr5.ext hx6) (by omega)).mono ?_; rintro e w7 ⟨rfl, hx7⟩))
    go_ret
    exact ⟨by first | rfl | simp, hx1.trans (hx2.trans (hx3.trans (hx4.trans (hx5.trans (hx6.trans hx7)))))⟩
  · rw [← hTT] at hdb hen
    clear hTT hTs hel
    go_enter Tryd.func5, Tryd.ntmps5
    go_wp2_with (first
      | (go_at_call 6; with_reducible refine hs.mono ?_; rintro e w1 ⟨rfl, hx1⟩)
      | (go_at_call 7; with_reducible refine (hen _ (hr.ext hx1)).mono ?_; rintro e w2 ⟨rfl, hx2⟩)
      | (go_at_call 10; with_reducible refine (hdb _).mono ?_; rintro e w3 ⟨A3, n3, c3, rfl, hn3, hr3, hx3⟩)
      | (go_at_call 8; with_reducible refine (hsame A3 n3 c3 _ (hr.ext (hx1.trans (hx2.trans hx3))) hn3 hr3 (by omega)).mono ?_; rintro e w4 ⟨rfl, hx4⟩)
      | (go_at_call 10; (with_reducible refine (h1 _).mono ?_); rintro e w5 ⟨b, rfl, -, -, hx5⟩))
    go_ret
    exact ⟨by first | rfl | simp, hx1.trans (hx2.trans (hx3.trans (hx4.trans hx5)))⟩
theorem back_w (A : Option Addr) (n cap : Nat) (l : List UInt8) (s : ByteArray) (u : Bool) (w : World) (hT : ET w) (hl : ArgB w A n cap l) (bnd : cap + s.size ≤ 1048576) :
    Calls Tryd.prog 5 #[.slice A n cap, .string s, .bool u] w fun e w' => e = .returned (.bool true) ∧ Ext w w' := back_any A n cap l s u w hT hl bnd
end Go.Proofs.YtjbomaihabldjaaDoor
