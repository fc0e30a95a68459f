/-
  Plain laws: the character that stands at a place of a text, by the document's own way of reading it.
-/
import Derived.Test.YthdniboajbhhiaaDoorUtfB
import Derived.Lib.DecodeN
set_option linter.unusedSimpArgs false
set_option linter.unusedVariables false
namespace Go.Cv.Utf
open Go.Lib
def szN (b : Nat) : Nat := if b < 128 then 1 else if 192 ≤ b ∧ b < 224 then 2 else if 224 ≤ b ∧ b < 240 then 3 else if 240 ≤ b ∧ b < 248 then 4 else 0
def offN (n b : Nat) : Nat := if n = 2 then b - 192 else if n = 3 then b - 224 else if n = 4 then b - 240 else b
def acc (p : Nat) (f : Nat → Nat) : Nat → Nat
  | 0 => p
  | i + 1 => 64 * acc p f i + f (i + 1) - 128
def isPt (p : Nat) : Bool := p ≤ 1114111 && (p < 55296 || 57343 < p)
def blen (p : Nat) : Nat := if p < 128 then 1 else if p < 2048 then 2 else if p < 65536 then 3 else 4
def Conts (f : Nat → Nat) (n : Nat) : Prop := ∀ j, 1 ≤ j → j < n → 128 ≤ f j ∧ f j ≤ 191
open Classical in
noncomputable def atN (m : Nat) (f : Nat → Nat) : Nat × Nat :=
  if szN (f 0) = 0 ∨ m < szN (f 0) then (0, 0) else
    if Conts f (szN (f 0)) then
      (if isPt (acc (offN (szN (f 0)) (f 0)) f (szN (f 0) - 1)) = true ∧ blen (acc (offN (szN (f 0)) (f 0)) f (szN (f 0) - 1)) = szN (f 0) then (acc (offN (szN (f 0)) (f 0)) f (szN (f 0) - 1), szN (f 0)) else (0, 0))
    else (0, 0)
/-- Whether none stands there. -/
def badD (d : Nat × Nat) : Prop := d.1 = 65533 ∧ d.2 ≤ 1
instance (d : Nat × Nat) : Decidable (badD d) := inferInstanceAs (Decidable (_ ∧ _))
theorem badD_no : badD (65533, 1) := ⟨rfl, Nat.le_refl _⟩
theorem badD_ge {c k : Nat} (h : 2 ≤ k) : ¬ badD (c, k) := fun g => by have g2 : k ≤ 1 := g.2; omega
theorem conts2 (f : Nat → Nat) : Conts f 2 ↔ 128 ≤ f 1 ∧ f 1 ≤ 191 :=
  ⟨fun h => h 1 (by decide) (by decide), fun h j h1 h2 => by
    have e : j = 1 := by omega
    rw [e]; exact h⟩
theorem conts3 (f : Nat → Nat) : Conts f 3 ↔ (128 ≤ f 1 ∧ f 1 ≤ 191) ∧ (128 ≤ f 2 ∧ f 2 ≤ 191) :=
  ⟨fun h => ⟨h 1 (by decide) (by decide), h 2 (by decide) (by decide)⟩, fun h j h1 h2 => by
    rcases (by omega : j = 1 ∨ j = 2) with rfl | rfl
    · exact h.1
    · exact h.2⟩
theorem conts4 (f : Nat → Nat) : Conts f 4 ↔ (128 ≤ f 1 ∧ f 1 ≤ 191) ∧ (128 ≤ f 2 ∧ f 2 ≤ 191) ∧ (128 ≤ f 3 ∧ f 3 ≤ 191) :=
  ⟨fun h => ⟨h 1 (by decide) (by decide), h 2 (by decide) (by decide), h 3 (by decide) (by decide)⟩, fun h j h1 h2 => by
    rcases (by omega : j = 1 ∨ j = 2 ∨ j = 3) with rfl | rfl | rfl
    · exact h.1
    · exact h.2.1
    · exact h.2.2⟩
theorem conts1 (f : Nat → Nat) : Conts f 1 := fun j h1 h2 => by omega
theorem isPt_iff (p : Nat) : isPt p = true ↔ p ≤ 1114111 ∧ (p < 55296 ∨ 57343 < p) := by simp [isPt]
theorem pt_of {p : Nat} (h : p ≤ 1114111 ∧ (p < 55296 ∨ 57343 < p)) : isPt p = true := (isPt_iff p).2 h
theorem blen1 {p : Nat} (h : p < 128) : blen p = 1 := by unfold blen; rw [if_pos h]
theorem blen2 {p : Nat} (h : 128 ≤ p) (h2 : p < 2048) : blen p = 2 := by unfold blen; rw [if_neg (by omega), if_pos h2]
theorem blen3 {p : Nat} (h : 2048 ≤ p) (h2 : p < 65536) : blen p = 3 := by unfold blen; rw [if_neg (by omega), if_neg (by omega), if_pos h2]
theorem blen4 {p : Nat} (h : 65536 ≤ p) : blen p = 4 := by unfold blen; rw [if_neg (by omega), if_neg (by omega), if_neg (by omega)]
theorem offN2 (b : Nat) : offN 2 b = b - 192 := by unfold offN; rw [if_pos rfl]
theorem offN3 (b : Nat) : offN 3 b = b - 224 := by unfold offN; rw [if_neg (by decide), if_pos rfl]
theorem offN4 (b : Nat) : offN 4 b = b - 240 := by unfold offN; rw [if_neg (by decide), if_neg (by decide), if_pos rfl]
theorem pair_cases {a b c d : Nat} (h1 : a = c) (h2 : b = d) : (a, b) = (c, d) := by rw [h1, h2]
set_option maxHeartbeats 4000000 in
theorem at_dec (m : Nat) (f : Nat → Nat) (h0 : f 0 < 256) (h1 : f 1 < 256) (h2 : f 2 < 256) (h3 : f 3 < 256) (hm : 1 ≤ m) :
    atN m f = if badD (decodeN m (f 0) (f 1) (f 2) (f 3)) then (0, 0) else decodeN m (f 0) (f 1) (f 2) (f 3) := by
  rcases (by omega : f 0 < 128 ∨ (128 ≤ f 0 ∧ f 0 < 192) ∨ (192 ≤ f 0 ∧ f 0 < 224) ∨ (224 ≤ f 0 ∧ f 0 < 240) ∨ (240 ≤ f 0 ∧ f 0 < 248) ∨ 248 ≤ f 0) with h | h | h | h | h | h
  · have e1 : szN (f 0) = 1 := by unfold szN; rw [if_pos h]
    have e2 : decodeN m (f 0) (f 1) (f 2) (f 3) = (f 0, 1) := by unfold decodeN; rw [if_pos h]
    have e3 : ¬ badD (f 0, 1) := by rintro ⟨g1, -⟩; have g1 : f 0 = 65533 := g1; omega
    unfold atN
    rw [e1, e2, if_neg e3, if_neg (by omega), if_pos (conts1 f)]
    have e4 : acc (offN 1 (f 0)) f (1 - 1) = f 0 := by
      show offN 1 (f 0) = f 0
      unfold offN
      rw [if_neg (by decide), if_neg (by decide), if_neg (by decide)]
    rw [e4]
    have e5 : isPt (f 0) = true := by rw [isPt_iff]; omega
    have e6 : blen (f 0) = 1 := by unfold blen; rw [if_pos h]
    rw [if_pos ⟨e5, e6⟩]
  · have e1 : szN (f 0) = 0 := by unfold szN; (repeat rw [if_neg (by omega)])
    have e2 : decodeN m (f 0) (f 1) (f 2) (f 3) = (65533, 1) := by unfold decodeN; (repeat rw [if_neg (by omega)])
    unfold atN
    rw [e1, e2, if_pos (.inl rfl), if_pos badD_no]
  · have e1 : szN (f 0) = 2 := by unfold szN; rw [if_neg (by omega), if_pos h]
    unfold atN
    rw [e1]
    by_cases hm2 : m < 2
    · have e2 : decodeN m (f 0) (f 1) (f 2) (f 3) = (65533, 1) := by unfold decodeN; (repeat rw [if_neg (by omega)])
      rw [e2, if_pos (.inr hm2), if_pos badD_no]
    · rw [if_neg (by omega)]
      by_cases hc : 128 ≤ f 1 ∧ f 1 ≤ 191
      · rw [if_pos ((conts2 f).2 hc)]
        have e4 : acc (offN 2 (f 0)) f (2 - 1) = (f 0 - 192) * 64 + (f 1 - 128) := by
          rw [offN2]
          show 64 * (f 0 - 192) + f 1 - 128 = _
          omega
        have e5 : f 0 % 32 * 64 + f 1 % 64 = (f 0 - 192) * 64 + (f 1 - 128) := by omega
        have e6 : decodeN m (f 0) (f 1) (f 2) (f 3) = if ((f 0 - 192) * 64 + (f 1 - 128)) ≥ 128 then (((f 0 - 192) * 64 + (f 1 - 128)), 2) else (65533, 1) := by
          unfold decodeN
          rw [if_neg (by omega), if_pos (by omega), e5]
        rw [e4, e6]
        generalize hp : (f 0 - 192) * 64 + (f 1 - 128) = p
        by_cases hp2 : p ≥ 128
        · rw [if_pos hp2, if_neg (badD_ge (by decide)), if_pos (And.intro (pt_of (by omega)) (blen2 (by omega) (by omega)))]
        · rw [if_neg hp2, if_pos badD_no, if_neg (fun g => by have := g.2; rw [blen1 (by omega)] at this; omega)]
      · have e2 : decodeN m (f 0) (f 1) (f 2) (f 3) = (65533, 1) := by unfold decodeN; (repeat rw [if_neg (by omega)])
        rw [if_neg fun h => hc ((conts2 f).1 h), e2, if_pos badD_no]
  · have e1 : szN (f 0) = 3 := by unfold szN; rw [if_neg (by omega), if_neg (by omega), if_pos h]
    unfold atN
    rw [e1]
    by_cases hm2 : m < 3
    · have e2 : decodeN m (f 0) (f 1) (f 2) (f 3) = (65533, 1) := by unfold decodeN; (repeat rw [if_neg (by omega)])
      rw [e2, if_pos (.inr hm2), if_pos badD_no]
    · rw [if_neg (by omega)]
      by_cases hc : (128 ≤ f 1 ∧ f 1 ≤ 191) ∧ (128 ≤ f 2 ∧ f 2 ≤ 191)
      · rw [if_pos ((conts3 f).2 hc)]
        have e4 : acc (offN 3 (f 0)) f (3 - 1) = (f 0 - 224) * 4096 + (f 1 - 128) * 64 + (f 2 - 128) := by
          rw [offN3]
          show 64 * (64 * (f 0 - 224) + f 1 - 128) + f 2 - 128 = _
          omega
        have e5 : f 0 % 16 * 4096 + f 1 % 64 * 64 + f 2 % 64 = (f 0 - 224) * 4096 + (f 1 - 128) * 64 + (f 2 - 128) := by omega
        have e6 : decodeN m (f 0) (f 1) (f 2) (f 3) = if ((f 0 - 224) * 4096 + (f 1 - 128) * 64 + (f 2 - 128)) ≥ 2048 ∧ (((f 0 - 224) * 4096 + (f 1 - 128) * 64 + (f 2 - 128)) < 55296 ∨ (57344 ≤ ((f 0 - 224) * 4096 + (f 1 - 128) * 64 + (f 2 - 128)) ∧ ((f 0 - 224) * 4096 + (f 1 - 128) * 64 + (f 2 - 128)) ≤ 1114111)) then (((f 0 - 224) * 4096 + (f 1 - 128) * 64 + (f 2 - 128)), 3) else (65533, 1) := by
          unfold decodeN
          rw [if_neg (by omega), if_neg (by omega), if_pos (by omega), e5]
        rw [e4, e6]
        generalize hp : (f 0 - 224) * 4096 + (f 1 - 128) * 64 + (f 2 - 128) = p
        by_cases hp2 : p ≥ 2048 ∧ (p < 55296 ∨ (57344 ≤ p ∧ p ≤ 1114111))
        · rw [if_pos hp2, if_neg (badD_ge (by decide)), if_pos (And.intro (pt_of (by omega)) (blen3 (by omega) (by omega)))]
        · rw [if_neg hp2, if_pos badD_no, if_neg ?_]
          rw [isPt_iff]
          rintro ⟨g1, g2⟩
          unfold blen at g2
          split at g2
          · omega
          · split at g2
            · omega
            · omega
      · have e2 : decodeN m (f 0) (f 1) (f 2) (f 3) = (65533, 1) := by unfold decodeN; (repeat rw [if_neg (by omega)])
        rw [if_neg fun h => hc ((conts3 f).1 h), e2, if_pos badD_no]
  · have e1 : szN (f 0) = 4 := by unfold szN; rw [if_neg (by omega), if_neg (by omega), if_neg (by omega), if_pos h]
    unfold atN
    rw [e1]
    by_cases hm2 : m < 4
    · have e2 : decodeN m (f 0) (f 1) (f 2) (f 3) = (65533, 1) := by unfold decodeN; (repeat rw [if_neg (by omega)])
      rw [e2, if_pos (.inr hm2), if_pos badD_no]
    · rw [if_neg (by omega)]
      by_cases hc : (128 ≤ f 1 ∧ f 1 ≤ 191) ∧ (128 ≤ f 2 ∧ f 2 ≤ 191) ∧ (128 ≤ f 3 ∧ f 3 ≤ 191)
      · rw [if_pos ((conts4 f).2 hc)]
        have e4 : acc (offN 4 (f 0)) f (4 - 1) = (f 0 - 240) * 262144 + (f 1 - 128) * 4096 + (f 2 - 128) * 64 + (f 3 - 128) := by
          rw [offN4]
          show 64 * (64 * (64 * (f 0 - 240) + f 1 - 128) + f 2 - 128) + f 3 - 128 = _
          omega
        have e5 : f 0 % 8 * 262144 + f 1 % 64 * 4096 + f 2 % 64 * 64 + f 3 % 64 = (f 0 - 240) * 262144 + (f 1 - 128) * 4096 + (f 2 - 128) * 64 + (f 3 - 128) := by omega
        have e6 : decodeN m (f 0) (f 1) (f 2) (f 3) = if ((f 0 - 240) * 262144 + (f 1 - 128) * 4096 + (f 2 - 128) * 64 + (f 3 - 128)) ≥ 65536 ∧ (((f 0 - 240) * 262144 + (f 1 - 128) * 4096 + (f 2 - 128) * 64 + (f 3 - 128)) < 55296 ∨ (57344 ≤ ((f 0 - 240) * 262144 + (f 1 - 128) * 4096 + (f 2 - 128) * 64 + (f 3 - 128)) ∧ ((f 0 - 240) * 262144 + (f 1 - 128) * 4096 + (f 2 - 128) * 64 + (f 3 - 128)) ≤ 1114111)) then (((f 0 - 240) * 262144 + (f 1 - 128) * 4096 + (f 2 - 128) * 64 + (f 3 - 128)), 4) else (65533, 1) := by
          unfold decodeN
          rw [if_neg (by omega), if_neg (by omega), if_neg (by omega), if_pos (by omega), e5]
        rw [e4, e6]
        generalize hp : (f 0 - 240) * 262144 + (f 1 - 128) * 4096 + (f 2 - 128) * 64 + (f 3 - 128) = p
        by_cases hp2 : p ≥ 65536 ∧ (p < 55296 ∨ (57344 ≤ p ∧ p ≤ 1114111))
        · rw [if_pos hp2, if_neg (badD_ge (by decide)), if_pos (And.intro (pt_of (by omega)) (blen4 (by omega)))]
        · rw [if_neg hp2, if_pos badD_no, if_neg ?_]
          rw [isPt_iff]
          rintro ⟨g1, g2⟩
          unfold blen at g2
          split at g2
          · omega
          · split at g2
            · omega
            · split at g2
              · omega
              · omega
      · have e2 : decodeN m (f 0) (f 1) (f 2) (f 3) = (65533, 1) := by unfold decodeN; (repeat rw [if_neg (by omega)])
        rw [if_neg fun h => hc ((conts4 f).1 h), e2, if_pos badD_no]
  · have e1 : szN (f 0) = 0 := by unfold szN; (repeat rw [if_neg (by omega)])
    have e2 : decodeN m (f 0) (f 1) (f 2) (f 3) = (65533, 1) := by unfold decodeN; (repeat rw [if_neg (by omega)])
    unfold atN
    rw [e1, e2, if_pos (.inl rfl), if_pos badD_no]
/-- The bytes from a place on, as numbers. -/
def bt (s : ByteArray) (pos j : Nat) : Nat := (s.get! (pos + j)).toNat
theorem bt_lt (s : ByteArray) (pos j : Nat) : bt s pos j < 256 := (s.get! (pos + j)).toNat_lt
theorem at_is (s : ByteArray) (pos : Nat) (h : pos < s.size) :
    atN (s.size - pos) (bt s pos) = if badD (Utf8.decode s pos) then (0, 0) else Utf8.decode s pos := by
  rw [decode_at]
  exact at_dec _ _ (bt_lt _ _ _) (bt_lt _ _ _) (bt_lt _ _ _) (bt_lt _ _ _) (by omega)
end Go.Cv.Utf
