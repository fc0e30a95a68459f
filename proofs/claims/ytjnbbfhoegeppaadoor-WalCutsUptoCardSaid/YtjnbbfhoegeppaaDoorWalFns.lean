/-
  The plain functions of the layer wal: checks, frames, the records that bytes begin with.
-/
import Derived.Test.YtjnbbfhoegeppaaDoorKern
set_option linter.unusedSimpArgs false
set_option linter.unusedVariables false
namespace Go.Cv.Wal

def crcBit (c : UInt32) : UInt32 := (c >>> 1) ^^^ (3988292384 &&& (0 - (c &&& 1)))
def crcBits : Nat → UInt32 → UInt32
  | 0, c => c
  | n + 1, c => crcBit (crcBits n c)
def crcByte (c : UInt32) (b : UInt8) : UInt32 := crcBits 8 (c ^^^ b.toUInt32)
def crc (c : UInt32) (l : List UInt8) : UInt32 := l.foldl crcByte c
theorem crc_append (c : UInt32) (l m : List UInt8) : crc (crc c l) m = crc c (l ++ m) := by simp [crc]
theorem crc_snoc (c : UInt32) (l : List UInt8) (b : UInt8) : crc c (l ++ [b]) = crcByte (crc c l) b := by simp [crc]

def crcBit' (c : UInt32) : UInt32 := if c % 2 == 1 then (c / 2) ^^^ 3988292384 else c / 2
theorem crcBit_eq (c : UInt32) : crcBit' c = crcBit c := by
  have h2 : c / (2 : UInt32) = c >>> (1 : UInt32) := by
    apply UInt32.toNat_inj.1
    rw [UInt32.toNat_div, UInt32.toNat_shiftRight]
    simp [Nat.shiftRight_eq_div_pow]
  have hm : c % (2 : UInt32) = c &&& (1 : UInt32) := by
    apply UInt32.toNat_inj.1
    rw [UInt32.toNat_mod, UInt32.toNat_and]
    simp [Nat.and_one_is_mod]
  unfold crcBit' crcBit
  rw [h2, hm]
  have h01 : c &&& (1 : UInt32) = 0 ∨ c &&& (1 : UInt32) = 1 := by
    rw [← hm]
    have h : (c % (2 : UInt32)).toNat < 2 := by rw [UInt32.toNat_mod]; exact Nat.mod_lt _ (by decide)
    rcases (by omega : (c % (2 : UInt32)).toNat = 0 ∨ (c % (2 : UInt32)).toNat = 1) with h | h
    · left; apply UInt32.toNat_inj.1; simpa using h
    · right; apply UInt32.toNat_inj.1; simpa using h
  rcases h01 with h | h
  · rw [h]; simp
  · rw [h]; simp

def le4 (v : UInt32) : List UInt8 := [v.toUInt8, (v >>> 8).toUInt8, (v >>> 16).toUInt8, (v >>> 24).toUInt8]
theorem le4_length (v : UInt32) : (le4 v).length = 4 := rfl
theorem not32 (x : UInt32) : ~~~x = x ^^^ 4294967295 := by
  apply UInt32.toBitVec_inj.1
  rw [UInt32.toBitVec_not, UInt32.toBitVec_xor]
  have h : (4294967295 : UInt32).toBitVec = BitVec.allOnes 32 := by decide
  rw [h, BitVec.xor_allOnes]
def check (l : List UInt8) : UInt32 := ~~~(crc 4294967295 l)
def frame (l : List UInt8) : List UInt8 := le4 (UInt32.ofNat l.length) ++ (le4 (check (le4 (UInt32.ofNat l.length) ++ l)) ++ l)
theorem frame_length (l : List UInt8) : (frame l).length = 8 + l.length := by simp [frame, le4_length]; omega

/-- Four bytes as a number, the lowest first. -/
def num4 (a b c d : UInt8) : Nat := a.toNat + 256 * b.toNat + 65536 * c.toNat + 16777216 * d.toNat
theorem num4_lt (a b c d : UInt8) : num4 a b c d < 4294967296 := by
  have := a.toNat_lt; have := b.toNat_lt; have := c.toNat_lt; have := d.toNat_lt
  unfold num4; omega

def le4' (v : UInt32) : List UInt8 := [(v % 256).toUInt8, (v / 256 % 256).toUInt8, (v / 65536 % 256).toUInt8, (v / 16777216).toUInt8]
theorem byteEq {a b : UInt8} (h : a.toNat = b.toNat) : a = b := UInt8.toNat_inj.1 h
theorem le4_toNat (v : UInt32) : (le4 v).map UInt8.toNat = [v.toNat % 256, v.toNat / 256 % 256, v.toNat / 65536 % 256, v.toNat / 16777216 % 256] := by
  simp [le4, Nat.shiftRight_eq_div_pow]
theorem map_toNat_inj : ∀ {l m : List UInt8}, l.map UInt8.toNat = m.map UInt8.toNat → l = m
  | [], [], _ => rfl
  | [], b :: m, h => by simp at h
  | a :: l, [], h => by simp at h
  | a :: l, b :: m, h => by
    simp only [List.map_cons, List.cons.injEq] at h
    rw [byteEq h.1, map_toNat_inj h.2]
theorem le4_eq (v : UInt32) : le4' v = le4 v := by
  apply map_toNat_inj
  rw [le4_toNat]
  have := v.toNat_lt
  simp [le4']
/-- Four bytes as a word, as the program makes it. -/
def word4 (a b c d : UInt8) : UInt32 := a.toUInt32 ||| b.toUInt32 <<< 8 ||| c.toUInt32 <<< 16 ||| d.toUInt32 <<< 24
theorem word4_toNat (a b c d : UInt8) : (word4 a b c d).toNat = num4 a b c d := by
  have ha := a.toNat_lt; have hb := b.toNat_lt; have hc := c.toNat_lt; have hd := d.toNat_lt
  unfold word4 num4
  simp only [UInt32.toNat_or, UInt32.toNat_shiftLeft, UInt8.toNat_toUInt32]
  have e8 : (8 : UInt32).toNat % 32 = 8 := rfl
  have e16 : (16 : UInt32).toNat % 32 = 16 := rfl
  have e24 : (24 : UInt32).toNat % 32 = 24 := rfl
  rw [e8, e16, e24, Nat.shiftLeft_eq, Nat.shiftLeft_eq, Nat.shiftLeft_eq]
  rw [Nat.mod_eq_of_lt (by omega), Nat.mod_eq_of_lt (by omega), Nat.mod_eq_of_lt (by omega)]
  have h1 : a.toNat ||| b.toNat * 2 ^ 8 = b.toNat * 2 ^ 8 + a.toNat := by
    rw [Nat.or_comm, Nat.mul_comm, Nat.two_pow_add_eq_or_of_lt (by omega)]
  have h2 : (b.toNat * 2 ^ 8 + a.toNat) ||| c.toNat * 2 ^ 16 = c.toNat * 2 ^ 16 + (b.toNat * 2 ^ 8 + a.toNat) := by
    rw [Nat.or_comm, Nat.mul_comm, Nat.two_pow_add_eq_or_of_lt (by omega)]
  have h3 : (c.toNat * 2 ^ 16 + (b.toNat * 2 ^ 8 + a.toNat)) ||| d.toNat * 2 ^ 24 = d.toNat * 2 ^ 24 + (c.toNat * 2 ^ 16 + (b.toNat * 2 ^ 8 + a.toNat)) := by
    rw [Nat.or_comm, Nat.mul_comm, Nat.two_pow_add_eq_or_of_lt (by omega)]
  rw [h1, h2, h3]
  omega
theorem le4_word4 (a b c d : UInt8) : le4 (word4 a b c d) = [a, b, c, d] := by
  apply map_toNat_inj
  rw [le4_toNat, word4_toNat]
  have ha := a.toNat_lt; have hb := b.toNat_lt; have hc := c.toNat_lt; have hd := d.toNat_lt
  simp only [num4, List.map_cons, List.map_nil, List.cons.injEq, and_true]
  omega
theorem le4_inj {v : UInt32} {a b c d : UInt8} (h : le4 v = [a, b, c, d]) : v = word4 a b c d := by
  apply UInt32.toNat_inj.1
  rw [word4_toNat]
  have hv := v.toNat_lt
  have := congrArg (List.map UInt8.toNat) h
  rw [le4_toNat] at this
  simp only [List.map_cons, List.map_nil, List.cons.injEq, and_true] at this
  unfold num4
  omega

/-- The record whose frame bytes begin with. -/
def scan1 : List UInt8 → Option (List UInt8)
  | a :: b :: c :: d :: e :: f :: g :: h :: r =>
    if num4 a b c d > 2097152 ∨ num4 a b c d > r.length then none
    else if check ([a, b, c, d] ++ r.take (num4 a b c d)) = word4 e f g h then some (r.take (num4 a b c d)) else none
  | _ => none

/-- R are the records of the frames that l begins with, u bytes in all; what follows is no frame. -/
structure Scans (l : List UInt8) (R : List (List UInt8)) (u : Nat) : Prop where
  le : u ≤ l.length
  eq : (R.map frame).flatten = l.take u
  small : ∀ r ∈ R, r.length ≤ 2097152
  last : scan1 (l.drop u) = none

theorem le4_ofNat_num4 (a b c d : UInt8) : le4 (UInt32.ofNat (num4 a b c d)) = [a, b, c, d] := by
  have : UInt32.ofNat (num4 a b c d) = word4 a b c d := by
    apply UInt32.toNat_inj.1
    rw [word4_toNat]
    have := num4_lt a b c d
    have h2 : (UInt32.ofNat (num4 a b c d)).toNat = num4 a b c d % 4294967296 := BitVec.toNat_ofNat ..
    omega
  rw [this, le4_word4]
theorem scan1_some {l r : List UInt8} (h : scan1 l = some r) : l = frame r ++ l.drop (8 + r.length) ∧ r.length ≤ 2097152 ∧ 8 + r.length ≤ l.length := by
  match l, h with
  | a :: b :: c :: d :: e :: f :: g :: h :: t, hs =>
    simp only [scan1] at hs
    split at hs
    · cases hs
    · rename_i hn
      split at hs
      · rename_i hc
        injection hs with hs
        have hlen : r.length = num4 a b c d := by rw [← hs, List.length_take]; omega
        refine ⟨?_, by omega, by simp; omega⟩
        have h1 : frame r = [a, b, c, d] ++ ([e, f, g, h] ++ r) := by
          unfold frame
          rw [hlen, le4_ofNat_num4, ← hs, hc, le4_word4]
        rw [h1]
        have h2 : (a :: b :: c :: d :: e :: f :: g :: h :: t).drop (8 + r.length) = t.drop (num4 a b c d) := by
          rw [hlen, Nat.add_comm 8]; rfl
        rw [h2, ← hs]
        simp
      · cases hs
theorem scan1_frame (r t : List UInt8) (h : r.length ≤ 2097152) : scan1 (frame r ++ t) = some r := by
  obtain ⟨a, b, c, d, h4⟩ : ∃ a b c d, le4 (UInt32.ofNat r.length) = [a, b, c, d] := ⟨_, _, _, _, rfl⟩
  obtain ⟨e, f, g, i, h8⟩ : ∃ e f g i, le4 (check (le4 (UInt32.ofNat r.length) ++ r)) = [e, f, g, i] := ⟨_, _, _, _, rfl⟩
  have hn : num4 a b c d = r.length := by
    rw [← word4_toNat, ← le4_inj h4]
    have h2 : (UInt32.ofNat r.length).toNat = r.length % 4294967296 := BitVec.toNat_ofNat ..
    omega
  have hw := le4_inj h8
  have he : frame r ++ t = a :: b :: c :: d :: e :: f :: g :: i :: (r ++ t) := by
    unfold frame; rw [h8, h4]; simp
  rw [he]
  simp only [scan1]
  rw [if_neg (by simp; omega)]
  have ht : (r ++ t).take (num4 a b c d) = r := by rw [hn]; simp
  rw [ht, ← h4, hw, if_pos rfl]
theorem scan1_frame_eq (a b c d e f g i : UInt8) (r : List UInt8) (h1 : ¬ num4 a b c d > 2097152) (h2 : ¬ num4 a b c d > r.length) :
    scan1 (a :: b :: c :: d :: e :: f :: g :: i :: r) = if frame (r.take (num4 a b c d)) = a :: b :: c :: d :: e :: f :: g :: i :: r.take (num4 a b c d) then some (r.take (num4 a b c d)) else none := by
  have hlen : (r.take (num4 a b c d)).length = num4 a b c d := by rw [List.length_take]; omega
  show (if num4 a b c d > 2097152 ∨ num4 a b c d > r.length then none else if check ([a, b, c, d] ++ r.take (num4 a b c d)) = word4 e f g i then some (r.take (num4 a b c d)) else none) = _
  rw [if_neg (by omega)]
  have hf : frame (r.take (num4 a b c d)) = [a, b, c, d] ++ (le4 (check ([a, b, c, d] ++ r.take (num4 a b c d))) ++ r.take (num4 a b c d)) := by
    unfold frame
    rw [hlen, le4_ofNat_num4]
  by_cases hc : check ([a, b, c, d] ++ r.take (num4 a b c d)) = word4 e f g i
  · rw [if_pos hc, if_pos]
    rw [hf, hc, le4_word4]; rfl
  · rw [if_neg hc, if_neg]
    intro h
    apply hc
    rw [hf] at h
    have h3 := (List.append_inj (s₁ := [a, b, c, d]) (s₂ := [a, b, c, d]) h rfl).2
    have h4 := (List.append_inj (s₂ := [e, f, g, i]) h3 rfl).1
    exact le4_inj h4
theorem flat_len : ∀ R : List (List UInt8), 8 * R.length ≤ ((R.map frame).flatten).length
  | [] => by simp
  | r :: R => by
    have := flat_len R
    simp only [List.map_cons, List.flatten_cons, List.length_append, List.length_cons, frame_length]
    omega
theorem Scans.count {l : List UInt8} {R : List (List UInt8)} {u : Nat} (h : Scans l R u) : 8 * R.length ≤ l.length := by
  have h1 := flat_len R
  rw [h.eq, List.length_take] at h1
  omega
theorem scans_empty : Scans [] [] 0 := ⟨Nat.le_refl _, rfl, by simp, rfl⟩
theorem take_frame {l r : List UInt8} {k : Nat} (hk : k ≤ l.length) (h : scan1 (l.drop k) = some r) :
    l.take (k + (8 + r.length)) = l.take k ++ frame r ∧ k + (8 + r.length) ≤ l.length ∧ r.length ≤ 2097152 := by
  obtain ⟨h1, h2, h3⟩ := scan1_some h
  rw [List.length_drop] at h3
  refine ⟨?_, by omega, h2⟩
  rw [List.take_add]
  congr 1
  rw [h1, ← frame_length, List.take_left]
theorem Scans.unique : ∀ {R R' : List (List UInt8)} {l : List UInt8} {u u' : Nat}, Scans l R u → Scans l R' u' → R = R' ∧ u = u'
  | [], [], l, u, u', h, h' => by
    refine ⟨rfl, ?_⟩
    have h1 := congrArg List.length h.eq
    have h2 := congrArg List.length h'.eq
    simp only [List.map_nil, List.flatten_nil, List.length_nil, List.length_take] at h1 h2
    have := h.le; have := h'.le
    omega
  | [], r' :: R', l, u, u', h, h' => by
    exfalso
    have h1 := congrArg List.length h.eq
    simp only [List.map_nil, List.flatten_nil, List.length_nil, List.length_take] at h1
    have := h.le
    have hu : u = 0 := by omega
    subst hu
    have h2 := h'.eq
    rw [List.map_cons, List.flatten_cons] at h2
    have h3 : l = frame r' ++ ((R'.map frame).flatten ++ l.drop u') := by
      rw [← List.append_assoc, h2, List.take_append_drop]
    have h4 := h.last
    rw [List.drop_zero, h3, scan1_frame _ _ (h'.small r' (by simp))] at h4
    cases h4
  | r :: R, [], l, u, u', h, h' => by
    exfalso
    have h1 := congrArg List.length h'.eq
    simp only [List.map_nil, List.flatten_nil, List.length_nil, List.length_take] at h1
    have := h'.le
    have hu : u' = 0 := by omega
    subst hu
    have h2 := h.eq
    rw [List.map_cons, List.flatten_cons] at h2
    have h3 : l = frame r ++ ((R.map frame).flatten ++ l.drop u) := by
      rw [← List.append_assoc, h2, List.take_append_drop]
    have h4 := h'.last
    rw [List.drop_zero, h3, scan1_frame _ _ (h.small r (by simp))] at h4
    cases h4
  | r :: R, r' :: R', l, u, u', h, h' => by
    have h2 := h.eq
    have h2' := h'.eq
    rw [List.map_cons, List.flatten_cons] at h2 h2'
    have h3 : l = frame r ++ ((R.map frame).flatten ++ l.drop u) := by
      rw [← List.append_assoc, h2, List.take_append_drop]
    have h3' : l = frame r' ++ ((R'.map frame).flatten ++ l.drop u') := by
      rw [← List.append_assoc, h2', List.take_append_drop]
    have hr : r = r' := by
      have a1 := scan1_frame r ((R.map frame).flatten ++ l.drop u) (h.small r (by simp))
      have a2 := scan1_frame r' ((R'.map frame).flatten ++ l.drop u') (h'.small r' (by simp))
      rw [← h3] at a1
      rw [← h3', a1] at a2
      injection a2
    subst hr
    have hf := frame_length r
    have step : ∀ {Z : List (List UInt8)} {v : Nat}, Scans l (r :: Z) v → 8 + r.length ≤ v ∧ Scans (l.drop (8 + r.length)) Z (v - (8 + r.length)) := by
      intro Z v hz
      have e := hz.eq
      rw [List.map_cons, List.flatten_cons] at e
      have el := congrArg List.length e
      rw [List.length_append, List.length_take, hf] at el
      have hle := hz.le
      have hv : 8 + r.length ≤ v := by omega
      refine ⟨hv, ⟨by rw [List.length_drop]; omega, ?_, fun x hx => hz.small x (by simp [hx]), ?_⟩⟩
      · rw [← List.drop_take, ← e, ← hf, List.drop_left]
      · rw [List.drop_drop]
        have : 8 + r.length + (v - (8 + r.length)) = v := by omega
        rw [this]; exact hz.last
    obtain ⟨b1, s1⟩ := step h
    obtain ⟨b2, s2⟩ := step h'
    obtain ⟨e1, e2⟩ := Scans.unique s1 s2
    exact ⟨by rw [e1], by omega⟩
end Go.Cv.Wal
