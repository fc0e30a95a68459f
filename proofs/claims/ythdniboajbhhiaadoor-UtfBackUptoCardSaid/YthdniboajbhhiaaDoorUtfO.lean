/-
  Plain laws: a sound text is its characters' bytes, one behind the other; the order of the bytes is that of the characters.
-/
import Derived.Test.YthdniboajbhhiaaDoorUtfG
set_option linter.unusedSimpArgs false
set_option linter.unusedVariables false
namespace Go.Cv.Utf
open Go.Lib
/-- A character's bytes, as numbers. -/
def encN (p : Nat) : List Nat :=
  if p < 128 then [p] else if p < 2048 then [192 + p / 64, 128 + p % 64]
  else if p < 65536 then [224 + p / 4096, 128 + p / 64 % 64, 128 + p % 64]
  else [240 + p / 262144, 128 + p / 4096 % 64, 128 + p / 64 % 64, 128 + p % 64]
theorem encN1 {p : Nat} (h : p < 128) : encN p = [p] := by unfold encN; rw [if_pos h]
theorem encN2 {p : Nat} (h : 128 ≤ p) (h2 : p < 2048) : encN p = [192 + p / 64, 128 + p % 64] := by unfold encN; rw [if_neg (by omega), if_pos h2]
theorem encN3 {p : Nat} (h : 2048 ≤ p) (h2 : p < 65536) : encN p = [224 + p / 4096, 128 + p / 64 % 64, 128 + p % 64] := by unfold encN; rw [if_neg (by omega), if_neg (by omega), if_pos h2]
theorem encN4 {p : Nat} (h : 65536 ≤ p) : encN p = [240 + p / 262144, 128 + p / 4096 % 64, 128 + p / 64 % 64, 128 + p % 64] := by unfold encN; rw [if_neg (by omega), if_neg (by omega), if_neg (by omega)]
theorem encN_ne (p : Nat) : encN p ≠ [] := by
  unfold encN
  repeat' split
  all_goals simp
theorem cmpL_self : ∀ l, cmpL l l = 0
  | [] => rfl
  | a :: l => by simp only [cmpL]; rw [if_neg (Nat.lt_irrefl a), if_neg (Nat.lt_irrefl a), cmpL_self l]
theorem cmpL_head {a b : Nat} {l m : List Nat} : cmpL (a :: l) (b :: m) = if a < b then -1 else if b < a then 1 else cmpL l m := rfl
theorem cmpL_lt {a b : Nat} (h : a < b) (l m : List Nat) : cmpL (a :: l) (b :: m) = -1 := by rw [cmpL_head, if_pos h]
theorem cmpL_gt {a b : Nat} (h : b < a) (l m : List Nat) : cmpL (a :: l) (b :: m) = 1 := by rw [cmpL_head, if_neg (by omega), if_pos h]
theorem cmpL_eq {a b : Nat} (h : a = b) (l m : List Nat) : cmpL (a :: l) (b :: m) = cmpL l m := by rw [cmpL_head, if_neg (by omega), if_neg (by omega)]
theorem cmpL_neg : ∀ l m, cmpL m l = -cmpL l m
  | [], [] => rfl
  | [], _ :: _ => rfl
  | _ :: _, [] => rfl
  | a :: l, b :: m => by
    rw [cmpL_head, cmpL_head, cmpL_neg l m]
    by_cases h1 : a < b
    · rw [if_neg (by omega), if_pos h1, if_pos h1]; rfl
    · by_cases h2 : b < a
      · rw [if_pos h2, if_neg h1, if_pos h2]
      · rw [if_neg h2, if_neg h1, if_neg h1, if_neg h2]
/-- The lesser character's bytes come first. -/
theorem cmpL_enc_lt {p q : Nat} (hq : q ≤ 1114111) (h : p < q) (u v : List Nat) : cmpL (encN p ++ u) (encN q ++ v) = -1 := by
  rcases (by omega : q < 128 ∨ (128 ≤ q ∧ q < 2048) ∨ (2048 ≤ q ∧ q < 65536) ∨ 65536 ≤ q) with g | ⟨g1, g⟩ | ⟨g1, g⟩ | g
  · rw [encN1 g, encN1 (by omega)]
    exact cmpL_lt h _ _
  · rw [encN2 g1 g]
    by_cases f : p < 128
    · rw [encN1 f]; exact cmpL_lt (by omega) _ _
    · rw [encN2 (by omega) (by omega)]
      by_cases e : p / 64 < q / 64
      · exact cmpL_lt (by omega) _ _
      · exact (cmpL_eq (by omega) _ _).trans (cmpL_lt (by omega) _ _)
  · rw [encN3 g1 g]
    by_cases f : p < 128
    · rw [encN1 f]; exact cmpL_lt (by omega) _ _
    · by_cases f2 : p < 2048
      · rw [encN2 (by omega) f2]; exact cmpL_lt (by omega) _ _
      · rw [encN3 (by omega) (by omega)]
        by_cases e : p / 4096 < q / 4096
        · exact cmpL_lt (by omega) _ _
        · by_cases e2 : p / 64 < q / 64
          · exact (cmpL_eq (by omega) _ _).trans (cmpL_lt (by omega) _ _)
          · exact (cmpL_eq (by omega) _ _).trans ((cmpL_eq (by omega) _ _).trans (cmpL_lt (by omega) _ _))
  · rw [encN4 g]
    by_cases f : p < 128
    · rw [encN1 f]; exact cmpL_lt (by omega) _ _
    · by_cases f2 : p < 2048
      · rw [encN2 (by omega) f2]; exact cmpL_lt (by omega) _ _
      · by_cases f3 : p < 65536
        · rw [encN3 (by omega) f3]; exact cmpL_lt (by omega) _ _
        · rw [encN4 (by omega)]
          by_cases e : p / 262144 < q / 262144
          · exact cmpL_lt (by omega) _ _
          · by_cases e2 : p / 4096 < q / 4096
            · exact (cmpL_eq (by omega) _ _).trans (cmpL_lt (by omega) _ _)
            · by_cases e3 : p / 64 < q / 64
              · exact (cmpL_eq (by omega) _ _).trans ((cmpL_eq (by omega) _ _).trans (cmpL_lt (by omega) _ _))
              · exact (cmpL_eq (by omega) _ _).trans ((cmpL_eq (by omega) _ _).trans ((cmpL_eq (by omega) _ _).trans (cmpL_lt (by omega) _ _)))
theorem cmpL_append (l u v : List Nat) : cmpL (l ++ u) (l ++ v) = cmpL u v := by
  induction l with
  | nil => rfl
  | cons a l ih => exact (cmpL_eq rfl _ _).trans ih
def flat (l : List Nat) : List Nat := l.flatMap encN
theorem flat_cons (p : Nat) (l : List Nat) : flat (p :: l) = encN p ++ flat l := by simp [flat]
theorem cmpL_nil_enc (p : Nat) (u : List Nat) : cmpL [] (encN p ++ u) = -1 := by
  cases h : encN p with
  | nil => exact absurd h (encN_ne p)
  | cons a l => rfl
theorem cmpL_enc_nil (p : Nat) (u : List Nat) : cmpL (encN p ++ u) [] = 1 := by
  cases h : encN p with
  | nil => exact absurd h (encN_ne p)
  | cons a l => rfl
/-- The order of the bytes is that of the characters. -/
theorem cmpL_flat : ∀ {xs ys : List Nat}, (∀ p ∈ xs, p ≤ 1114111) → (∀ p ∈ ys, p ≤ 1114111) → cmpL (flat xs) (flat ys) = cmpL xs ys
  | [], [], _, _ => rfl
  | [], q :: ys, _, _ => by rw [flat_cons]; exact cmpL_nil_enc q _
  | p :: xs, [], _, _ => by rw [flat_cons]; exact cmpL_enc_nil p _
  | p :: xs, q :: ys, hx, hy => by
    rw [flat_cons, flat_cons]
    rcases Nat.lt_trichotomy p q with h | rfl | h
    · rw [cmpL_enc_lt (hy q (by simp)) h, cmpL_lt h]
    · rw [cmpL_append, cmpL_eq rfl]
      exact cmpL_flat (fun r hr => hx r (by simp [hr])) fun r hr => hy r (by simp [hr])
    · rw [cmpL_neg, cmpL_enc_lt (hx p (by simp)) h, cmpL_gt h]; rfl
/-- A text's bytes, as numbers. -/
def nums (s : ByteArray) : List Nat := s.data.toList.map UInt8.toNat
theorem compare_nums : ∀ l m : List UInt8, compareBytes l m = cmpL (l.map UInt8.toNat) (m.map UInt8.toNat)
  | [], [] => rfl
  | [], _ :: _ => rfl
  | _ :: _, [] => rfl
  | a :: l, b :: m => by
    simp only [compareBytes, List.map_cons, cmpL]
    rw [compare_nums l m]
    simp only [UInt8.lt_iff_toNat_lt]
theorem nums_len (s : ByteArray) : (nums s).length = s.size := by
  unfold nums
  rw [List.length_map, Array.length_toList]; rfl
theorem nums_at (s : ByteArray) (pos j : Nat) (h : pos + j < s.size) : (nums s)[pos + j]? = some (bt s pos j) := by
  unfold nums bt
  rw [List.getElem?_map, Array.getElem?_toList]
  rw [Go.Proofs.Utf8W.get!_of_lt s (pos + j) h]
  have e : s.data[pos + j]? = some (s[pos + j]'h) := by
    rw [Array.getElem?_eq_getElem h]; rfl
  rw [e]; rfl
theorem nums_take (s : ByteArray) (pos k : Nat) (h : pos + k ≤ s.size) : ((nums s).drop pos).take k = (List.range k).map (bt s pos) := by
  apply List.ext_getElem?
  intro j
  rw [List.getElem?_take, List.getElem?_map, List.getElem?_drop]
  by_cases hj : j < k
  · rw [if_pos hj, nums_at s pos j (by omega), List.getElem?_range hj]; rfl
  · rw [if_neg hj, List.getElem?_eq_none (by simpa using hj)]; rfl
/-- What stands at a place, if anything, is the bytes of a character. -/
theorem dec_enc (m : Nat) (f : Nat → Nat) (h0 : f 0 < 256) (h1 : f 1 < 256) (h2 : f 2 < 256) (h3 : f 3 < 256) (hm : 1 ≤ m) (hb : ¬ badD (decodeN m (f 0) (f 1) (f 2) (f 3))) :
    ∃ p k, decodeN m (f 0) (f 1) (f 2) (f 3) = (p, k) ∧ k ≤ m ∧ isPt p = true ∧ (List.range k).map f = encN p := by
  rcases (by omega : f 0 < 128 ∨ (128 ≤ f 0 ∧ f 0 < 192) ∨ (192 ≤ f 0 ∧ f 0 < 224) ∨ (224 ≤ f 0 ∧ f 0 < 240) ∨ (240 ≤ f 0 ∧ f 0 < 248) ∨ 248 ≤ f 0) with h | h | h | h | h | h
  · refine ⟨f 0, 1, by unfold decodeN; rw [if_pos h], hm, pt_of (by omega), ?_⟩
    rw [encN1 h]; rfl
  · exact absurd (show badD _ by rw [show decodeN m (f 0) (f 1) (f 2) (f 3) = (65533, 1) from by unfold decodeN; (repeat rw [if_neg (by omega)])]; exact badD_no) hb
  · by_cases hc : 1 < m ∧ f 1 / 64 = 2
    · have e6 : decodeN m (f 0) (f 1) (f 2) (f 3) = if f 0 % 32 * 64 + f 1 % 64 ≥ 128 then (f 0 % 32 * 64 + f 1 % 64, 2) else (65533, 1) := by
        unfold decodeN
        rw [if_neg (by omega), if_pos (by omega)]
      by_cases hp : f 0 % 32 * 64 + f 1 % 64 ≥ 128
      · rw [if_pos hp] at e6
        refine ⟨_, _, e6, by omega, pt_of (by omega), ?_⟩
        rw [encN2 (by omega) (by omega), show (List.range 2).map f = [f 0, f 1] from rfl]
        congr 1
        · omega
        · congr 1; omega
      · rw [if_neg hp] at e6
        rw [e6] at hb
        exact absurd badD_no hb
    · exact absurd (show badD _ by rw [show decodeN m (f 0) (f 1) (f 2) (f 3) = (65533, 1) from by unfold decodeN; (repeat rw [if_neg (by omega)])]; exact badD_no) hb
  · by_cases hc : (1 < m ∧ f 1 / 64 = 2) ∧ (2 < m ∧ f 2 / 64 = 2)
    · have e6 : decodeN m (f 0) (f 1) (f 2) (f 3) = if f 0 % 16 * 4096 + f 1 % 64 * 64 + f 2 % 64 ≥ 2048 ∧ (f 0 % 16 * 4096 + f 1 % 64 * 64 + f 2 % 64 < 55296 ∨ (57344 ≤ f 0 % 16 * 4096 + f 1 % 64 * 64 + f 2 % 64 ∧ f 0 % 16 * 4096 + f 1 % 64 * 64 + f 2 % 64 ≤ 1114111)) then (f 0 % 16 * 4096 + f 1 % 64 * 64 + f 2 % 64, 3) else (65533, 1) := by
        unfold decodeN
        rw [if_neg (by omega), if_neg (by omega), if_pos (by omega)]
      by_cases hp : f 0 % 16 * 4096 + f 1 % 64 * 64 + f 2 % 64 ≥ 2048 ∧ (f 0 % 16 * 4096 + f 1 % 64 * 64 + f 2 % 64 < 55296 ∨ (57344 ≤ f 0 % 16 * 4096 + f 1 % 64 * 64 + f 2 % 64 ∧ f 0 % 16 * 4096 + f 1 % 64 * 64 + f 2 % 64 ≤ 1114111))
      · rw [if_pos hp] at e6
        refine ⟨_, _, e6, by omega, pt_of (by omega), ?_⟩
        rw [encN3 (by omega) (by omega), show (List.range 3).map f = [f 0, f 1, f 2] from rfl]
        congr 1
        · omega
        · congr 1
          · omega
          · congr 1; omega
      · rw [if_neg hp] at e6
        rw [e6] at hb
        exact absurd badD_no hb
    · exact absurd (show badD _ by rw [show decodeN m (f 0) (f 1) (f 2) (f 3) = (65533, 1) from by unfold decodeN; (repeat rw [if_neg (by omega)])]; exact badD_no) hb
  · by_cases hc : (1 < m ∧ f 1 / 64 = 2) ∧ (2 < m ∧ f 2 / 64 = 2) ∧ (3 < m ∧ f 3 / 64 = 2)
    · have e6 : decodeN m (f 0) (f 1) (f 2) (f 3) = if f 0 % 8 * 262144 + f 1 % 64 * 4096 + f 2 % 64 * 64 + f 3 % 64 ≥ 65536 ∧ (f 0 % 8 * 262144 + f 1 % 64 * 4096 + f 2 % 64 * 64 + f 3 % 64 < 55296 ∨ (57344 ≤ f 0 % 8 * 262144 + f 1 % 64 * 4096 + f 2 % 64 * 64 + f 3 % 64 ∧ f 0 % 8 * 262144 + f 1 % 64 * 4096 + f 2 % 64 * 64 + f 3 % 64 ≤ 1114111)) then (f 0 % 8 * 262144 + f 1 % 64 * 4096 + f 2 % 64 * 64 + f 3 % 64, 4) else (65533, 1) := by
        unfold decodeN
        rw [if_neg (by omega), if_neg (by omega), if_neg (by omega), if_pos (by omega)]
      by_cases hp : f 0 % 8 * 262144 + f 1 % 64 * 4096 + f 2 % 64 * 64 + f 3 % 64 ≥ 65536 ∧ (f 0 % 8 * 262144 + f 1 % 64 * 4096 + f 2 % 64 * 64 + f 3 % 64 < 55296 ∨ (57344 ≤ f 0 % 8 * 262144 + f 1 % 64 * 4096 + f 2 % 64 * 64 + f 3 % 64 ∧ f 0 % 8 * 262144 + f 1 % 64 * 4096 + f 2 % 64 * 64 + f 3 % 64 ≤ 1114111))
      · rw [if_pos hp] at e6
        refine ⟨_, _, e6, by omega, pt_of (by omega), ?_⟩
        rw [encN4 (by omega), show (List.range 4).map f = [f 0, f 1, f 2, f 3] from rfl]
        congr 1
        · omega
        · congr 1
          · omega
          · congr 1
            · omega
            · congr 1; omega
      · rw [if_neg hp] at e6
        rw [e6] at hb
        exact absurd badD_no hb
    · exact absurd (show badD _ by rw [show decodeN m (f 0) (f 1) (f 2) (f 3) = (65533, 1) from by unfold decodeN; (repeat rw [if_neg (by omega)])]; exact badD_no) hb
  · exact absurd (show badD _ by rw [show decodeN m (f 0) (f 1) (f 2) (f 3) = (65533, 1) from by unfold decodeN; (repeat rw [if_neg (by omega)])]; exact badD_no) hb
theorem dec_at (s : ByteArray) (pos : Nat) (h : pos < s.size) (hb : ¬ badD (Utf8.decode s pos)) :
    ∃ p k, Utf8.decode s pos = (p, k) ∧ pos + k ≤ s.size ∧ isPt p = true ∧ ((nums s).drop pos).take k = encN p := by
  rw [decode_at] at hb ⊢
  obtain ⟨p, k, h1, h2, h3, h4⟩ := dec_enc (s.size - pos) (bt s pos) (bt_lt _ _ _) (bt_lt _ _ _) (bt_lt _ _ _) (bt_lt _ _ _) (by omega) hb
  exact ⟨p, k, h1, by omega, h3, by rw [nums_take s pos k (by omega)]; exact h4⟩
theorem flat_from (s : ByteArray) : ∀ f pos, s.size ≤ pos + f → badFrom s f pos = -1 → (nums s).drop pos = flat (ptsFrom s f pos) ∧ ∀ p ∈ ptsFrom s f pos, isPt p = true
  | 0, pos, h, _ => by
    rw [List.drop_of_length_le (by rw [nums_len]; omega)]
    exact ⟨rfl, fun p hp => by simp [ptsFrom] at hp⟩
  | f + 1, pos, h, hb => by
    by_cases hp : pos < s.size
    · simp only [badFrom, ptsFrom, if_pos hp] at hb ⊢
      by_cases hbad : badD (Utf8.decode s pos)
      · rw [if_pos (show _ ∧ _ from hbad)] at hb
        omega
      · rw [if_neg (show ¬ (_ ∧ _) from hbad)] at hb
        obtain ⟨p, k, h1, h2, h3, h4⟩ := dec_at s pos hp hbad
        have hk : 1 ≤ k := by have := dec_pos s pos hp; rw [h1] at this; exact this
        rw [h1] at hb ⊢
        obtain ⟨i1, i2⟩ := flat_from s f (pos + k) (by omega) hb
        constructor
        · rw [flat_cons, ← i1, ← h4, ← List.drop_drop]
          exact (List.take_append_drop k _).symm
        · intro q hq
          rcases List.mem_cons.1 hq with rfl | hq
          · exact h3
          · exact i2 q hq
    · simp only [ptsFrom, if_neg hp]
      rw [List.drop_of_length_le (by rw [nums_len]; omega)]
      exact ⟨rfl, fun p hp => by simp at hp⟩
theorem flat_pts {s : ByteArray} (h : badAt s = -1) : nums s = flat (pts s) ∧ ∀ p ∈ pts s, isPt p = true := by
  have := flat_from s s.size 0 (by omega) h
  rwa [List.drop_zero] at this
theorem pts_le {s : ByteArray} (h : badAt s = -1) : ∀ p ∈ pts s, p ≤ 1114111 := fun p hp => ((isPt_iff p).1 ((flat_pts h).2 p hp)).1
/-- Of sound texts the order of the bytes is that of the characters. -/
theorem compare_pts {a b : ByteArray} (ha : badAt a = -1) (hb : badAt b = -1) : compareBytes a.data.toList b.data.toList = cmpL (pts a) (pts b) := by
  rw [compare_nums]
  show cmpL (nums a) (nums b) = _
  rw [(flat_pts ha).1, (flat_pts hb).1]
  exact cmpL_flat (pts_le ha) (pts_le hb)
end Go.Cv.Utf
