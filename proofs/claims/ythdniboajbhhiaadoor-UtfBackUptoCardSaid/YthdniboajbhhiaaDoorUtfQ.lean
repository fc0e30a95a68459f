/-
  What is read and told again is the same: plain laws, and the statement UtfBack.
-/
import Derived.Test.YthdniboajbhhiaaDoorUtfM
set_option linter.unusedSimpArgs false
set_option linter.unusedVariables false
namespace Go.Cv.Utf
open Go.RowKit Go.Cv.Dig Go.Lib
theorem dec_of_enc (m : Nat) (f : Nat → Nat) (p : Nat) (hp : isPt p = true) (hm : blen p ≤ m) (h : (List.range (blen p)).map f = encN p) : decodeN m (f 0) (f 1) (f 2) (f 3) = (p, blen p) := by
  rw [isPt_iff] at hp
  obtain ⟨h1, h2⟩ := hp
  rcases (by omega : p < 128 ∨ (128 ≤ p ∧ p < 2048) ∨ (2048 ≤ p ∧ p < 65536) ∨ 65536 ≤ p) with g | ⟨g1, g⟩ | ⟨g1, g⟩ | g
  · rw [blen1 g] at h hm ⊢
    rw [encN1 g] at h
    have e0 : f 0 = p := by simpa [List.range_succ] using h
    unfold decodeN
    rw [if_pos (by omega), e0]
  · rw [blen2 g1 g] at h hm ⊢
    rw [encN2 g1 g] at h
    simp [List.range_succ] at h
    obtain ⟨e0, e1⟩ := h
    unfold decodeN
    rw [if_neg (by omega), if_pos (by omega), if_pos (by omega)]
    congr 1
    omega
  · rw [blen3 g1 g] at h hm ⊢
    rw [encN3 g1 g] at h
    simp [List.range_succ] at h
    obtain ⟨e0, e1, e2⟩ := h
    unfold decodeN
    have e : f 0 % 16 * 4096 + f 1 % 64 * 64 + f 2 % 64 = p := by omega
    rw [if_neg (by omega), if_neg (by omega), if_pos (by omega), e, if_pos (by omega)]
  · rw [blen4 g] at h hm ⊢
    rw [encN4 g] at h
    simp [List.range_succ] at h
    obtain ⟨e0, e1, e2, e3⟩ := h
    unfold decodeN
    have e : f 0 % 8 * 262144 + f 1 % 64 * 4096 + f 2 % 64 * 64 + f 3 % 64 = p := by omega
    rw [if_neg (by omega), if_neg (by omega), if_neg (by omega), if_pos (by omega), e, if_pos (by omega)]
theorem encN_len (p : Nat) : (encN p).length = blen p := by
  unfold encN blen
  repeat' split
  all_goals rfl
theorem blen_pos (p : Nat) : 1 ≤ blen p := by
  unfold blen
  repeat' split
  all_goals omega
theorem not_bad_enc (p : Nat) : ¬ badD (p, blen p) := by
  rintro ⟨h1, h2⟩
  have h1 : p = 65533 := h1
  have h2 : blen p ≤ 1 := h2
  rw [h1] at h2
  revert h2
  decide
/-- A text made of characters' bytes is sound, and these are its characters. -/
theorem sound_from (s : ByteArray) : ∀ (ps : List Nat) f pos, s.size ≤ pos + f → (nums s).drop pos = flat ps → (∀ p ∈ ps, isPt p = true) → badFrom s f pos = -1 ∧ ptsFrom s f pos = ps
  | [], f, pos, hf, hd, _ => by
    have h0 : ¬ pos < s.size := by
      intro h
      have := congrArg List.length hd
      rw [List.length_drop, nums_len] at this
      simp [flat] at this
      omega
    exact ⟨badFrom_end _ _ _ h0, ptsFrom_end _ _ _ h0⟩
  | p :: ps, f, pos, hf, hd, hp => by
    rw [flat_cons] at hd
    have hl := congrArg List.length hd
    rw [List.length_drop, nums_len, List.length_append, encN_len] at hl
    have hbp := blen_pos p
    obtain ⟨f, rfl⟩ : ∃ f', f = f' + 1 := ⟨f - 1, by omega⟩
    have hlt : pos < s.size := by omega
    have htk : ((nums s).drop pos).take (blen p) = encN p := by rw [hd, ← encN_len, List.take_left]
    rw [nums_take s pos _ (by omega)] at htk
    have hdec : Utf8.decode s pos = (p, blen p) := by
      rw [decode_at]
      exact dec_of_enc (s.size - pos) (bt s pos) p (hp p (by simp)) (by omega) htk
    have hdr : (nums s).drop (pos + blen p) = flat ps := by
      rw [← List.drop_drop, hd, ← encN_len, List.drop_left]
    obtain ⟨i1, i2⟩ := sound_from s ps f (pos + blen p) (by omega) hdr (fun q hq => hp q (by simp [hq]))
    simp only [badFrom, ptsFrom, if_pos hlt]
    rw [hdec, if_neg (show ¬ (_ ∧ _) from not_bad_enc p)]
    exact ⟨i1, by rw [i2]⟩
theorem sound_of {s : ByteArray} {ps : List Nat} (h : nums s = flat ps) (hp : ∀ p ∈ ps, isPt p = true) : badAt s = -1 ∧ pts s = ps :=
  sound_from s ps s.size 0 (by omega) (by rw [List.drop_zero]; exact h) hp
theorem nums_append (s t : ByteArray) : nums (s ++ t) = nums s ++ nums t := by
  unfold nums
  rw [← List.map_append]
  simp
theorem flat_append (a b : List Nat) : flat (a ++ b) = flat a ++ flat b := by simp [flat]
theorem sound_append {s t : ByteArray} (hs : badAt s = -1) (ht : badAt t = -1) : badAt (s ++ t) = -1 :=
  (sound_of (ps := pts s ++ pts t) (by rw [nums_append, (flat_pts hs).1, (flat_pts ht).1, flat_append]) (fun p hp => by
    rcases List.mem_append.1 hp with h | h
    · exact (flat_pts hs).2 p h
    · exact (flat_pts ht).2 p h)).1
theorem size_append_ (s t : ByteArray) : (s ++ t).size = s.size + t.size := by
  rw [← nums_len, nums_append, List.length_append, nums_len, nums_len]
theorem extract_left (s t : ByteArray) : (s ++ t).extract 0 s.size = s := by
  have h : ((s ++ t).extract 0 s.size).data = s.data := by
    simp
  cases hs : (s ++ t).extract 0 s.size
  rw [hs] at h
  cases s
  simpa using h
/-- Behind a sound text a sound one begins with a character. -/
theorem cutN_join {s t : ByteArray} (ht : badAt t = -1) (h0 : 0 < t.size) : cutN (s ++ t) s.size = s.size := by
  cases hs : s.size with
  | zero => rfl
  | succ k =>
    have hf := (flat_pts ht).1
    rcases hp : pts t with _ | ⟨p, r⟩
    · rw [hp] at hf
      have := congrArg List.length hf
      rw [nums_len] at this
      exact absurd (show t.size = 0 from this) (by omega)
    · rw [hp, flat_cons] at hf
      obtain ⟨b, tl, he, hb, -⟩ := encN_head p
      rw [he] at hf
      have h1 := nums_at (s ++ t) (k + 1) 0 (by rw [size_append_]; omega)
      rw [nums_append, hf, List.getElem?_append_right (by rw [nums_len]; omega), nums_len, hs] at h1
      have h2 : b = bt (s ++ t) (k + 1) 0 := by simpa using h1
      show cutN (s ++ t) (k + 1) = k + 1
      simp only [cutN]
      rw [if_pos ((start_iff _ _).2 (by rw [h2] at hb; exact hb))]
theorem less_cmp : ∀ l m : List UInt8, (Op.bytesLess l m = true ↔ compareBytes l m < 0)
  | [], [] => by simp [Op.bytesLess, compareBytes]
  | [], _ :: _ => by simp [Op.bytesLess, compareBytes]
  | _ :: _, [] => by simp [Op.bytesLess, compareBytes]
  | a :: l, b :: m => by
    have ih := less_cmp l m
    simp only [Op.bytesLess, compareBytes, Bool.or_eq_true, Bool.and_eq_true, decide_eq_true_eq, beq_iff_eq]
    rw [ih]
    by_cases h : a < b
    · rw [if_pos h]; simp [h]
    · rw [if_neg h]
      by_cases h2 : b < a
      · rw [if_pos h2]
        have : ¬ a = b := by
          intro e; rw [e] at h2; exact absurd h2 (by simp [UInt8.lt_iff_toNat_lt])
        simp [h, this]
      · rw [if_neg h2]
        have : a = b := by
          apply UInt8.toNat_inj.1
          simp only [UInt8.lt_iff_toNat_lt] at h h2
          omega
        simp [h, this]
theorem cmp_zero : ∀ l m : List UInt8, compareBytes l m = 0 ↔ l = m
  | [], [] => by simp [compareBytes]
  | [], _ :: _ => by simp [compareBytes]
  | _ :: _, [] => by simp [compareBytes]
  | a :: l, b :: m => by
    simp only [compareBytes]
    by_cases h : a < b
    · rw [if_pos h]
      have : ¬ a = b := by
        intro e; rw [e] at h; exact absurd h (by simp [UInt8.lt_iff_toNat_lt])
      simp [this]
    · rw [if_neg h]
      by_cases h2 : b < a
      · rw [if_pos h2]
        have : ¬ a = b := by
          intro e; rw [e] at h2; exact absurd h2 (by simp [UInt8.lt_iff_toNat_lt])
        simp [this]
      · rw [if_neg h2, cmp_zero l m]
        have : a = b := by
          apply UInt8.toNat_inj.1
          simp only [UInt8.lt_iff_toNat_lt] at h h2
          omega
        simp [this]
end Go.Cv.Utf

