/-
  Texts of the lemmas below the claim, put together: WalFns WalFns2 WoP KvP.
-/
import Derived.Test.YtjnbbfhoegeppaaGreatDoorMKern
import Derived.Test.YtjnbbfhoegeppaaGreatDoorMDkP
section
/-
  The plain functions of the layer wal: checks, frames, the records that bytes begin with.
-/
set_option linter.unusedSimpArgs false
set_option linter.unusedVariables false
namespace Go.Cv.Wal

def crcBit (c : UInt32) : UInt32 := (c >>> 1) ^^^ (3988292384 &&& (0 - (c &&& 1)))
def crcBits : Nat → UInt32 → UInt32
  | 0, c => c
  | n + 1, c => crcBit (crcBits n c)
def crcByte (c : UInt32) (b : UInt8) : UInt32 := crcBits 8 (c ^^^ b.toUInt32)
def crc (c : UInt32) (l : List UInt8) : UInt32 := l.foldl crcByte c
theorem crc_append (c : UInt32) (l m : List UInt8) : crc (crc c l) m = crc c (l ++ m) := by simp [crc]
theorem crc_snoc (c : UInt32) (l : List UInt8) (b : UInt8) : crc c (l ++ [b]) = crcByte (crc c l) b := by simp [crc]

def crcBit' (c : UInt32) : UInt32 := if c % 2 == 1 then (c / 2) ^^^ 3988292384 else c / 2
theorem crcBit_eq (c : UInt32) : crcBit' c = crcBit c := by
  have h2 : c / (2 : UInt32) = c >>> (1 : UInt32) := by
    apply UInt32.toNat_inj.1
    rw [UInt32.toNat_div, UInt32.toNat_shiftRight]
    simp [Nat.shiftRight_eq_div_pow]
  have hm : c % (2 : UInt32) = c &&& (1 : UInt32) := by
    apply UInt32.toNat_inj.1
    rw [UInt32.toNat_mod, UInt32.toNat_and]
    simp [Nat.and_one_is_mod]
  unfold crcBit' crcBit
  rw [h2, hm]
  have h01 : c &&& (1 : UInt32) = 0 ∨ c &&& (1 : UInt32) = 1 := by
    rw [← hm]
    have h : (c % (2 : UInt32)).toNat < 2 := by rw [UInt32.toNat_mod]; exact Nat.mod_lt _ (by decide)
    rcases (by omega : (c % (2 : UInt32)).toNat = 0 ∨ (c % (2 : UInt32)).toNat = 1) with h | h
    · left; apply UInt32.toNat_inj.1; simpa using h
    · right; apply UInt32.toNat_inj.1; simpa using h
  rcases h01 with h | h
  · rw [h]; simp
  · rw [h]; simp

def le4 (v : UInt32) : List UInt8 := [v.toUInt8, (v >>> 8).toUInt8, (v >>> 16).toUInt8, (v >>> 24).toUInt8]
theorem le4_length (v : UInt32) : (le4 v).length = 4 := rfl
theorem not32 (x : UInt32) : ~~~x = x ^^^ 4294967295 := by
  apply UInt32.toBitVec_inj.1
  rw [UInt32.toBitVec_not, UInt32.toBitVec_xor]
  have h : (4294967295 : UInt32).toBitVec = BitVec.allOnes 32 := by decide
  rw [h, BitVec.xor_allOnes]
def check (l : List UInt8) : UInt32 := ~~~(crc 4294967295 l)
def frame (l : List UInt8) : List UInt8 := le4 (UInt32.ofNat l.length) ++ (le4 (check (le4 (UInt32.ofNat l.length) ++ l)) ++ l)
theorem frame_length (l : List UInt8) : (frame l).length = 8 + l.length := by simp [frame, le4_length]; omega

/-- Four bytes as a number, the lowest first. -/
def num4 (a b c d : UInt8) : Nat := a.toNat + 256 * b.toNat + 65536 * c.toNat + 16777216 * d.toNat
theorem num4_lt (a b c d : UInt8) : num4 a b c d < 4294967296 := by
  have := a.toNat_lt; have := b.toNat_lt; have := c.toNat_lt; have := d.toNat_lt
  unfold num4; omega

def le4' (v : UInt32) : List UInt8 := [(v % 256).toUInt8, (v / 256 % 256).toUInt8, (v / 65536 % 256).toUInt8, (v / 16777216).toUInt8]
theorem byteEq {a b : UInt8} (h : a.toNat = b.toNat) : a = b := UInt8.toNat_inj.1 h
theorem le4_toNat (v : UInt32) : (le4 v).map UInt8.toNat = [v.toNat % 256, v.toNat / 256 % 256, v.toNat / 65536 % 256, v.toNat / 16777216 % 256] := by
  simp [le4, Nat.shiftRight_eq_div_pow]
theorem map_toNat_inj : ∀ {l m : List UInt8}, l.map UInt8.toNat = m.map UInt8.toNat → l = m
  | [], [], _ => rfl
  | [], b :: m, h => by simp at h
  | a :: l, [], h => by simp at h
  | a :: l, b :: m, h => by
    simp only [List.map_cons, List.cons.injEq] at h
    rw [byteEq h.1, map_toNat_inj h.2]
theorem le4_eq (v : UInt32) : le4' v = le4 v := by
  apply map_toNat_inj
  rw [le4_toNat]
  have := v.toNat_lt
  simp [le4']
/-- Four bytes as a word, as the program makes it. -/
def word4 (a b c d : UInt8) : UInt32 := a.toUInt32 ||| b.toUInt32 <<< 8 ||| c.toUInt32 <<< 16 ||| d.toUInt32 <<< 24
theorem word4_toNat (a b c d : UInt8) : (word4 a b c d).toNat = num4 a b c d := by
  have ha := a.toNat_lt; have hb := b.toNat_lt; have hc := c.toNat_lt; have hd := d.toNat_lt
  unfold word4 num4
  simp only [UInt32.toNat_or, UInt32.toNat_shiftLeft, UInt8.toNat_toUInt32]
  have e8 : (8 : UInt32).toNat % 32 = 8 := rfl
  have e16 : (16 : UInt32).toNat % 32 = 16 := rfl
  have e24 : (24 : UInt32).toNat % 32 = 24 := rfl
  rw [e8, e16, e24, Nat.shiftLeft_eq, Nat.shiftLeft_eq, Nat.shiftLeft_eq]
  rw [Nat.mod_eq_of_lt (by omega), Nat.mod_eq_of_lt (by omega), Nat.mod_eq_of_lt (by omega)]
  have h1 : a.toNat ||| b.toNat * 2 ^ 8 = b.toNat * 2 ^ 8 + a.toNat := by
    rw [Nat.or_comm, Nat.mul_comm, Nat.two_pow_add_eq_or_of_lt (by omega)]
  have h2 : (b.toNat * 2 ^ 8 + a.toNat) ||| c.toNat * 2 ^ 16 = c.toNat * 2 ^ 16 + (b.toNat * 2 ^ 8 + a.toNat) := by
    rw [Nat.or_comm, Nat.mul_comm, Nat.two_pow_add_eq_or_of_lt (by omega)]
  have h3 : (c.toNat * 2 ^ 16 + (b.toNat * 2 ^ 8 + a.toNat)) ||| d.toNat * 2 ^ 24 = d.toNat * 2 ^ 24 + (c.toNat * 2 ^ 16 + (b.toNat * 2 ^ 8 + a.toNat)) := by
    rw [Nat.or_comm, Nat.mul_comm, Nat.two_pow_add_eq_or_of_lt (by omega)]
  rw [h1, h2, h3]
  omega
theorem le4_word4 (a b c d : UInt8) : le4 (word4 a b c d) = [a, b, c, d] := by
  apply map_toNat_inj
  rw [le4_toNat, word4_toNat]
  have ha := a.toNat_lt; have hb := b.toNat_lt; have hc := c.toNat_lt; have hd := d.toNat_lt
  simp only [num4, List.map_cons, List.map_nil, List.cons.injEq, and_true]
  omega
theorem le4_inj {v : UInt32} {a b c d : UInt8} (h : le4 v = [a, b, c, d]) : v = word4 a b c d := by
  apply UInt32.toNat_inj.1
  rw [word4_toNat]
  have hv := v.toNat_lt
  have := congrArg (List.map UInt8.toNat) h
  rw [le4_toNat] at this
  simp only [List.map_cons, List.map_nil, List.cons.injEq, and_true] at this
  unfold num4
  omega

/-- The record whose frame bytes begin with. -/
def scan1 : List UInt8 → Option (List UInt8)
  | a :: b :: c :: d :: e :: f :: g :: h :: r =>
    if num4 a b c d > 2097152 ∨ num4 a b c d > r.length then none
    else if check ([a, b, c, d] ++ r.take (num4 a b c d)) = word4 e f g h then some (r.take (num4 a b c d)) else none
  | _ => none

/-- R are the records of the frames that l begins with, u bytes in all; what follows is no frame. -/
structure Scans (l : List UInt8) (R : List (List UInt8)) (u : Nat) : Prop where
  le : u ≤ l.length
  eq : (R.map frame).flatten = l.take u
  small : ∀ r ∈ R, r.length ≤ 2097152
  last : scan1 (l.drop u) = none

theorem le4_ofNat_num4 (a b c d : UInt8) : le4 (UInt32.ofNat (num4 a b c d)) = [a, b, c, d] := by
  have : UInt32.ofNat (num4 a b c d) = word4 a b c d := by
    apply UInt32.toNat_inj.1
    rw [word4_toNat]
    have := num4_lt a b c d
    have h2 : (UInt32.ofNat (num4 a b c d)).toNat = num4 a b c d % 4294967296 := BitVec.toNat_ofNat ..
    omega
  rw [this, le4_word4]
theorem scan1_some {l r : List UInt8} (h : scan1 l = some r) : l = frame r ++ l.drop (8 + r.length) ∧ r.length ≤ 2097152 ∧ 8 + r.length ≤ l.length := by
  match l, h with
  | a :: b :: c :: d :: e :: f :: g :: h :: t, hs =>
    simp only [scan1] at hs
    split at hs
    · cases hs
    · rename_i hn
      split at hs
      · rename_i hc
        injection hs with hs
        have hlen : r.length = num4 a b c d := by rw [← hs, List.length_take]; omega
        refine ⟨?_, by omega, by simp; omega⟩
        have h1 : frame r = [a, b, c, d] ++ ([e, f, g, h] ++ r) := by
          unfold frame
          rw [hlen, le4_ofNat_num4, ← hs, hc, le4_word4]
        rw [h1]
        have h2 : (a :: b :: c :: d :: e :: f :: g :: h :: t).drop (8 + r.length) = t.drop (num4 a b c d) := by
          rw [hlen, Nat.add_comm 8]; rfl
        rw [h2, ← hs]
        simp
      · cases hs
theorem scan1_frame (r t : List UInt8) (h : r.length ≤ 2097152) : scan1 (frame r ++ t) = some r := by
  obtain ⟨a, b, c, d, h4⟩ : ∃ a b c d, le4 (UInt32.ofNat r.length) = [a, b, c, d] := ⟨_, _, _, _, rfl⟩
  obtain ⟨e, f, g, i, h8⟩ : ∃ e f g i, le4 (check (le4 (UInt32.ofNat r.length) ++ r)) = [e, f, g, i] := ⟨_, _, _, _, rfl⟩
  have hn : num4 a b c d = r.length := by
    rw [← word4_toNat, ← le4_inj h4]
    have h2 : (UInt32.ofNat r.length).toNat = r.length % 4294967296 := BitVec.toNat_ofNat ..
    omega
  have hw := le4_inj h8
  have he : frame r ++ t = a :: b :: c :: d :: e :: f :: g :: i :: (r ++ t) := by
    unfold frame; rw [h8, h4]; simp
  rw [he]
  simp only [scan1]
  rw [if_neg (by simp; omega)]
  have ht : (r ++ t).take (num4 a b c d) = r := by rw [hn]; simp
  rw [ht, ← h4, hw, if_pos rfl]
theorem scan1_frame_eq (a b c d e f g i : UInt8) (r : List UInt8) (h1 : ¬ num4 a b c d > 2097152) (h2 : ¬ num4 a b c d > r.length) :
    scan1 (a :: b :: c :: d :: e :: f :: g :: i :: r) = if frame (r.take (num4 a b c d)) = a :: b :: c :: d :: e :: f :: g :: i :: r.take (num4 a b c d) then some (r.take (num4 a b c d)) else none := by
  have hlen : (r.take (num4 a b c d)).length = num4 a b c d := by rw [List.length_take]; omega
  show (if num4 a b c d > 2097152 ∨ num4 a b c d > r.length then none else if check ([a, b, c, d] ++ r.take (num4 a b c d)) = word4 e f g i then some (r.take (num4 a b c d)) else none) = _
  rw [if_neg (by omega)]
  have hf : frame (r.take (num4 a b c d)) = [a, b, c, d] ++ (le4 (check ([a, b, c, d] ++ r.take (num4 a b c d))) ++ r.take (num4 a b c d)) := by
    unfold frame
    rw [hlen, le4_ofNat_num4]
  by_cases hc : check ([a, b, c, d] ++ r.take (num4 a b c d)) = word4 e f g i
  · rw [if_pos hc, if_pos]
    rw [hf, hc, le4_word4]; rfl
  · rw [if_neg hc, if_neg]
    intro h
    apply hc
    rw [hf] at h
    have h3 := (List.append_inj (s₁ := [a, b, c, d]) (s₂ := [a, b, c, d]) h rfl).2
    have h4 := (List.append_inj (s₂ := [e, f, g, i]) h3 rfl).1
    exact le4_inj h4
theorem flat_len : ∀ R : List (List UInt8), 8 * R.length ≤ ((R.map frame).flatten).length
  | [] => by simp
  | r :: R => by
    have := flat_len R
    simp only [List.map_cons, List.flatten_cons, List.length_append, List.length_cons, frame_length]
    omega
theorem Scans.count {l : List UInt8} {R : List (List UInt8)} {u : Nat} (h : Scans l R u) : 8 * R.length ≤ l.length := by
  have h1 := flat_len R
  rw [h.eq, List.length_take] at h1
  omega
theorem scans_empty : Scans [] [] 0 := ⟨Nat.le_refl _, rfl, by simp, rfl⟩
theorem take_frame {l r : List UInt8} {k : Nat} (hk : k ≤ l.length) (h : scan1 (l.drop k) = some r) :
    l.take (k + (8 + r.length)) = l.take k ++ frame r ∧ k + (8 + r.length) ≤ l.length ∧ r.length ≤ 2097152 := by
  obtain ⟨h1, h2, h3⟩ := scan1_some h
  rw [List.length_drop] at h3
  refine ⟨?_, by omega, h2⟩
  rw [List.take_add]
  congr 1
  rw [h1, ← frame_length, List.take_left]
theorem Scans.unique : ∀ {R R' : List (List UInt8)} {l : List UInt8} {u u' : Nat}, Scans l R u → Scans l R' u' → R = R' ∧ u = u'
  | [], [], l, u, u', h, h' => by
    refine ⟨rfl, ?_⟩
    have h1 := congrArg List.length h.eq
    have h2 := congrArg List.length h'.eq
    simp only [List.map_nil, List.flatten_nil, List.length_nil, List.length_take] at h1 h2
    have := h.le; have := h'.le
    omega
  | [], r' :: R', l, u, u', h, h' => by
    exfalso
    have h1 := congrArg List.length h.eq
    simp only [List.map_nil, List.flatten_nil, List.length_nil, List.length_take] at h1
    have := h.le
    have hu : u = 0 := by omega
    subst hu
    have h2 := h'.eq
    rw [List.map_cons, List.flatten_cons] at h2
    have h3 : l = frame r' ++ ((R'.map frame).flatten ++ l.drop u') := by
      rw [← List.append_assoc, h2, List.take_append_drop]
    have h4 := h.last
    rw [List.drop_zero, h3, scan1_frame _ _ (h'.small r' (by simp))] at h4
    cases h4
  | r :: R, [], l, u, u', h, h' => by
    exfalso
    have h1 := congrArg List.length h'.eq
    simp only [List.map_nil, List.flatten_nil, List.length_nil, List.length_take] at h1
    have := h'.le
    have hu : u' = 0 := by omega
    subst hu
    have h2 := h.eq
    rw [List.map_cons, List.flatten_cons] at h2
    have h3 : l = frame r ++ ((R.map frame).flatten ++ l.drop u) := by
      rw [← List.append_assoc, h2, List.take_append_drop]
    have h4 := h'.last
    rw [List.drop_zero, h3, scan1_frame _ _ (h.small r (by simp))] at h4
    cases h4
  | r :: R, r' :: R', l, u, u', h, h' => by
    have h2 := h.eq
    have h2' := h'.eq
    rw [List.map_cons, List.flatten_cons] at h2 h2'
    have h3 : l = frame r ++ ((R.map frame).flatten ++ l.drop u) := by
      rw [← List.append_assoc, h2, List.take_append_drop]
    have h3' : l = frame r' ++ ((R'.map frame).flatten ++ l.drop u') := by
      rw [← List.append_assoc, h2', List.take_append_drop]
    have hr : r = r' := by
      have a1 := scan1_frame r ((R.map frame).flatten ++ l.drop u) (h.small r (by simp))
      have a2 := scan1_frame r' ((R'.map frame).flatten ++ l.drop u') (h'.small r' (by simp))
      rw [← h3] at a1
      rw [← h3', a1] at a2
      injection a2
    subst hr
    have hf := frame_length r
    have step : ∀ {Z : List (List UInt8)} {v : Nat}, Scans l (r :: Z) v → 8 + r.length ≤ v ∧ Scans (l.drop (8 + r.length)) Z (v - (8 + r.length)) := by
      intro Z v hz
      have e := hz.eq
      rw [List.map_cons, List.flatten_cons] at e
      have el := congrArg List.length e
      rw [List.length_append, List.length_take, hf] at el
      have hle := hz.le
      have hv : 8 + r.length ≤ v := by omega
      refine ⟨hv, ⟨by rw [List.length_drop]; omega, ?_, fun x hx => hz.small x (by simp [hx]), ?_⟩⟩
      · rw [← List.drop_take, ← e, ← hf, List.drop_left]
      · rw [List.drop_drop]
        have : 8 + r.length + (v - (8 + r.length)) = v := by omega
        rw [this]; exact hz.last
    obtain ⟨b1, s1⟩ := step h
    obtain ⟨b2, s2⟩ := step h'
    obtain ⟨e1, e2⟩ := Scans.unique s1 s2
    exact ⟨by rw [e1], by omega⟩
end Go.Cv.Wal
end
section
/-
  Plain laws on frames one behind the other, cut anywhere.
-/
set_option linter.unusedSimpArgs false
set_option linter.unusedVariables false
namespace Go.Cv.Wal

/-- All frames one behind the other. -/
def flat (R : List (List UInt8)) : List UInt8 := (R.map frame).flatten
theorem flat_append (R S : List (List UInt8)) : flat (R ++ S) = flat R ++ flat S := by simp [flat]
theorem flat_one (r : List UInt8) : flat [r] = frame r := by simp [flat]
theorem flat_cons (r : List UInt8) (R : List (List UInt8)) : flat (r :: R) = frame r ++ flat R := by simp [flat]
theorem flat_succ {R : List (List UInt8)} {k : Nat} (h : k < R.length) : flat (R.take (k + 1)) = flat (R.take k) ++ frame R[k] := by
  rw [List.take_succ_eq_append_getElem h, flat_append, flat_one]
/-- Where the k-th frame ends. -/
def endOf (R : List (List UInt8)) (k : Nat) : Nat := (flat (R.take k)).length
theorem endOf_zero (R : List (List UInt8)) : endOf R 0 = 0 := by simp [endOf, flat]
theorem endOf_succ {R : List (List UInt8)} {k : Nat} (h : k < R.length) : endOf R (k + 1) = endOf R k + (8 + R[k].length) := by
  unfold endOf
  rw [flat_succ h, List.length_append, frame_length]
theorem flat_bound : ∀ R : List (List UInt8), (flat R).length = 8 * R.length + (R.map List.length).sum
  | [] => by simp [flat]
  | r :: R => by
    have := flat_bound R
    have e : flat (r :: R) = frame r ++ flat R := by simp [flat]
    rw [e, List.length_append, frame_length, this]
    simp only [List.length_cons, List.map_cons, List.sum_cons]
    omega
theorem endOf_le (R : List (List UInt8)) (k : Nat) : endOf R k ≤ 8 * R.length + (R.map List.length).sum := by
  have h : R = R.take k ++ R.drop k := (List.take_append_drop k R).symm
  have h1 := flat_bound (R.take k)
  have h2 : (flat R).length = (flat (R.take k)).length + (flat (R.drop k)).length := by
    rw [← List.length_append, ← flat_append, List.take_append_drop]
  have := flat_bound R
  unfold endOf
  omega
/-- The list of the first k ends. -/
def ends (R : List (List UInt8)) (k : Nat) : List Value := (List.range k).map fun j => Value.int .i64 (endOf R (j + 1) : Nat)
theorem ends_succ (R : List (List UInt8)) (k : Nat) : ends R (k + 1) = ends R k ++ [Value.int .i64 (endOf R (k + 1) : Nat)] := by
  unfold ends; rw [List.range_succ]; simp
theorem ends_len (R : List (List UInt8)) (k : Nat) : (ends R k).length = k := by simp [ends]
theorem ends_get (R : List (List UInt8)) {k j : Nat} (h : j < k) : (ends R k)[j]? = some (Value.int .i64 (endOf R (j + 1) : Nat)) := by
  simp [ends, h]

theorem scan1_prefix (r t : List UInt8) (hr : r.length ≤ 2097152) (m : Nat) (hm : m < 8 + r.length) : scan1 ((frame r ++ t).take m) = none := by
  rcases h : scan1 ((frame r ++ t).take m) with _ | r'
  · rfl
  · exfalso
    obtain ⟨h1, h2, h3⟩ := scan1_some h
    have h4 : frame r ++ t = frame r' ++ (((frame r ++ t).take m).drop (8 + r'.length) ++ (frame r ++ t).drop m) := by
      rw [← List.append_assoc, ← h1, List.take_append_drop]
    have h5 := scan1_frame r t hr
    rw [h4, scan1_frame _ _ h2] at h5
    injection h5 with h5
    subst h5
    rw [List.length_take] at h3
    omega

/-- The records of frames that are cut: those that are whole. -/
theorem scans_cut {R : List (List UInt8)} {c k : Nat} (hs : ∀ r ∈ R, r.length ≤ 2097152) (hk : k ≤ R.length) (hc : endOf R k ≤ c) (hn : k = R.length ∨ ∃ h : k < R.length, c < endOf R (k + 1)) (hcl : c ≤ (flat R).length) :
    Scans ((flat R).take c) (R.take k) (endOf R k) := by
  have hsplit : flat R = flat (R.take k) ++ flat (R.drop k) := by rw [← flat_append, List.take_append_drop]
  refine ⟨by rw [List.length_take]; omega, ?_, fun r hr => hs r (List.mem_of_mem_take hr), ?_⟩
  · show flat (R.take k) = _
    rw [List.take_take, Nat.min_eq_left hc, hsplit]
    unfold endOf
    rw [List.take_left]
  · rw [List.drop_take, hsplit]
    unfold endOf
    rw [List.drop_left]
    rcases hn with rfl | ⟨h, hlt⟩
    · have : R.drop R.length = [] := by simp
      rw [this]
      simp [flat, scan1]
    · have e : R.drop k = R[k] :: R.drop (k + 1) := List.drop_eq_getElem_cons h
      have e2 : flat (R.drop k) = frame R[k] ++ flat (R.drop (k + 1)) := by rw [e, flat_cons]
      rw [e2]
      apply scan1_prefix _ _ (hs _ (List.getElem_mem h))
      rw [endOf_succ h] at hlt
      unfold endOf at hlt
      have : (flat (R.take k)).length ≤ c := hc
      omega
end Go.Cv.Wal
end
section
/-
  A log on a disk, in plain words.
-/
set_option linter.unusedSimpArgs false
set_option linter.unusedVariables false
namespace Go.Cv.Wal
open Go Go.Cv.Dk
/-- A record is appended; a log is cleared; an error's number ahead. -/
def lapp (bump : Int → Int) (S : DS) (x b : List UInt8) : Nat × DS :=
  if 2097152 < b.length then (2, S) else if (Dk.app bump S x (frame b)).1 ≠ 0 then Dk.app bump S x (frame b) else Dk.syn bump (Dk.app bump S x (frame b)).2 x
def lclr (bump : Int → Int) (S : DS) (x : List UInt8) : Nat × DS := (if (Dk.trunc bump S x 0).1 = 9 then 0 else (Dk.trunc bump S x 0).1, (Dk.trunc bump S x 0).2)
/-- What an opening leaves of a file of which u bytes are whole frames. -/
def lcut (bump : Int → Int) (S : DS) (x : List UInt8) (u : Nat) : Nat × DS := if u < (cont S x).length then Dk.trunc bump S x u else (0, S)
theorem flat_nil : flat [] = [] := rfl
/-- What is whole, and whole frames behind it. -/
theorem scans_more {l : List UInt8} {R M : List (List UInt8)} {u : Nat} (h : Scans l R u) (hM : ∀ r ∈ M, r.length ≤ 2097152) : Scans (l.take u ++ flat M) (R ++ M) (l.take u ++ flat M).length := by
  refine ⟨Nat.le_refl _, ?_, fun r hr => ?_, ?_⟩
  · rw [List.take_length]
    show flat (R ++ M) = _
    rw [flat_append]
    congr 1
    exact h.eq
  · rcases List.mem_append.1 hr with hr | hr
    · exact h.small r hr
    · exact hM r hr
  · rw [List.drop_length]; rfl
theorem scans_all {M : List (List UInt8)} (hM : ∀ r ∈ M, r.length ≤ 2097152) : Scans (flat M) M (flat M).length := by
  have h := scans_more (l := []) (R := []) (u := 0) scans_empty hM
  simpa using h
theorem Scans.pos {l : List UInt8} {R : List (List UInt8)} {u : Nat} (h : Scans l R u) : (l.take u).length = u := by rw [List.length_take]; have := h.le; omega
/-- One file on a disk whose power is on and stays. -/
structure Lone (S : DS) (x b : List UInt8) : Prop where
  off : S.off = false
  bud : S.bud = -1
  l : ∃ y, S.l = [⟨x, b, y⟩]
theorem Lone.get {S : DS} {x b : List UInt8} (h : Lone S x b) : ∃ y, Dk.get S.l x = some ⟨x, b, y⟩ := by
  obtain ⟨y, hl⟩ := h.l
  exact ⟨y, by rw [hl]; simp [Dk.get]⟩
theorem Lone.cont {S : DS} {x b : List UInt8} (h : Lone S x b) : Dk.cont S x = b := by
  obtain ⟨y, hg⟩ := h.get
  unfold Dk.cont; rw [hg]
theorem Lone.fnd {S : DS} {x b : List UInt8} (h : Lone S x b) : fnd S x = 0 := by
  obtain ⟨y, hg⟩ := h.get
  unfold Dk.fnd Dk.has; rw [h.off, hg]; rfl
theorem Lone.len {S : DS} {x b : List UInt8} (h : Lone S x b) : S.l.length = 1 := by
  obtain ⟨y, hl⟩ := h.l
  rw [hl]; rfl
theorem Lone.used {S : DS} {x b : List UInt8} (h : Lone S x b) : used S.l = b.length := by
  obtain ⟨y, hl⟩ := h.l
  rw [hl]; simp [Dk.used]
variable {bump : Int → Int}
theorem Lone.step {S : DS} {x b : List UInt8} (h : Lone S x b) : stepd S bump = (true, { S with st := bump (S.st + 1) }) := by
  unfold stepd
  rw [if_neg (by rw [h.bud]; decide), if_neg (by rw [h.bud]; decide)]
theorem Lone.app {S : DS} {x b : List UInt8} (h : Lone S x b) (g : List UInt8) (hx : nameOk x = true) (hr : (b.length : Int) + g.length ≤ S.room) : (Dk.app bump S x g).1 = 0 ∧ Lone (Dk.app bump S x g).2 x (b ++ g) ∧ (Dk.app bump S x g).2.room = S.room := by
  obtain ⟨y, hl⟩ := h.l
  have hu := h.used
  have e : Dk.app bump S x g = (0, { S with st := bump (S.st + 1), l := [⟨x, b ++ g, y⟩] }) := by
    unfold Dk.app
    rw [if_neg (by rw [hx]; simp), if_neg (by rw [h.off]; simp), if_neg (by rw [hu]; omega), h.step]
    have hm : may S.l x = S.l := if_pos (by unfold Dk.has; obtain ⟨y, hg⟩ := h.get; rw [hg]; rfl)
    rw [hm, hl]
    simp [Dk.upd]
  rw [e]
  exact ⟨rfl, ⟨h.off, h.bud, y, rfl⟩, rfl⟩
theorem Lone.syn {S : DS} {x b : List UInt8} (h : Lone S x b) : (Dk.syn bump S x).1 = 0 ∧ Lone (Dk.syn bump S x).2 x b ∧ (Dk.syn bump S x).2.room = S.room := by
  obtain ⟨y, hl⟩ := h.l
  have e : Dk.syn bump S x = (0, { S with st := bump (S.st + 1), l := [⟨x, b, b.length⟩] }) := by
    unfold Dk.syn
    rw [if_neg (by rw [h.fnd]; simp), h.step, hl]
    simp [Dk.upd]
  rw [e]
  exact ⟨rfl, ⟨h.off, h.bud, _, rfl⟩, rfl⟩
theorem Lone.lapp {S : DS} {x b : List UInt8} (h : Lone S x b) (g : List UInt8) (hx : nameOk x = true) (hg : g.length ≤ 2097152) (hr : (b.length : Int) + (frame g).length ≤ S.room) : (lapp bump S x g).1 = 0 ∧ Lone (lapp bump S x g).2 x (b ++ frame g) ∧ (lapp bump S x g).2.room = S.room := by
  obtain ⟨h1, h2, h3⟩ := h.app (bump := bump) (frame g) hx hr
  unfold Wal.lapp
  rw [if_neg (by omega), if_neg (by rw [h1]; simp)]
  obtain ⟨h4, h5, h6⟩ := h2.syn (bump := bump)
  exact ⟨h4, h5, h6.trans h3⟩
theorem Lone.trunc {S : DS} {x b : List UInt8} (h : Lone S x b) (u : Nat) (hu : u ≤ b.length) : (Dk.trunc bump S x u).1 = 0 ∧ Lone (Dk.trunc bump S x u).2 x (b.take u) ∧ (Dk.trunc bump S x u).2.room = S.room := by
  obtain ⟨y, hl⟩ := h.l
  have e : Dk.trunc bump S x u = (0, { S with st := bump (S.st + 1), l := [⟨x, b.take u, u⟩] }) := by
    unfold Dk.trunc
    rw [if_neg (by rw [h.fnd]; simp), h.cont, if_neg (by omega), h.step, hl]
    simp [Dk.upd]
  rw [e]
  exact ⟨rfl, ⟨h.off, h.bud, _, rfl⟩, rfl⟩
theorem Lone.lcut {S : DS} {x b : List UInt8} (h : Lone S x b) (u : Nat) (hu : u ≤ b.length) : (lcut bump S x u).1 = 0 ∧ Lone (lcut bump S x u).2 x (b.take u) ∧ (lcut bump S x u).2.room = S.room := by
  unfold Wal.lcut
  rw [h.cont]
  split
  · exact h.trunc u hu
  · have : b.take u = b := List.take_of_length_le (by omega)
    rw [this]
    exact ⟨rfl, h, rfl⟩
theorem Lone.lclr {S : DS} {x b : List UInt8} (h : Lone S x b) : (lclr bump S x).1 = 0 ∧ Lone (lclr bump S x).2 x [] ∧ (lclr bump S x).2.room = S.room := by
  obtain ⟨h1, h2, h3⟩ := h.trunc (bump := bump) 0 (Nat.zero_le _)
  unfold Wal.lclr
  have h1' : (Dk.trunc bump S x 0).1 = 0 := h1
  rw [h1']
  exact ⟨rfl, h2, h3⟩
/-- A new disk's first file. -/
theorem lone_first (room : Int) (x b : List UInt8) (hx : nameOk x = true) (hr : (b.length : Int) ≤ room) : (Dk.app bump ⟨room, [], false, -1, 0⟩ x b).1 = 0 ∧ Lone (Dk.app bump ⟨room, [], false, -1, 0⟩ x b).2 x b ∧ (Dk.app bump ⟨room, [], false, -1, 0⟩ x b).2.room = room := by
  have e : Dk.app bump ⟨room, [], false, -1, 0⟩ x b = (0, ⟨room, [⟨x, b, 0⟩], false, -1, bump (0 + 1)⟩) := by
    unfold Dk.app
    rw [if_neg (by rw [hx]; simp), if_neg (by simp), if_neg (by show ¬ ((b.length : Int) > room - ((0 : Nat) : Int)); omega)]
    have : may [] x = [⟨x, [], 0⟩] := rfl
    unfold stepd
    simp [this, Dk.upd]
  rw [e]
  exact ⟨rfl, ⟨rfl, rfl, _, rfl⟩, rfl⟩
/-- A disk whose power is on: no file, or one, all of it synced. -/
structure Kp (S : DS) (x b : List UInt8) : Prop where
  off : S.off = false
  l : (S.l = [] ∧ b = []) ∨ S.l = [⟨x, b, b.length⟩]
/-- The power went while a record was written behind b. -/
structure Cutd (S : DS) (x b g : List UInt8) : Prop where
  off : S.off = true
  l : S.l = [⟨x, b ++ frame g, b.length⟩]
theorem Kp.used {S : DS} {x b : List UInt8} (h : Kp S x b) : used S.l = b.length := by
  rcases h.l with ⟨hl, rfl⟩ | hl
  · rw [hl]; rfl
  · rw [hl]; simp [Dk.used]
theorem Kp.cont {S : DS} {x b : List UInt8} (h : Kp S x b) : Dk.cont S x = b := by
  unfold Dk.cont
  rcases h.l with ⟨hl, rfl⟩ | hl
  · rw [hl]; rfl
  · rw [hl]; simp [Dk.get]
theorem Kp.len {S : DS} {x b : List UInt8} (h : Kp S x b) : S.l.length ≤ 1 := by
  rcases h.l with ⟨hl, rfl⟩ | hl <;> rw [hl] <;> simp
theorem Kp.app {S : DS} {x b : List UInt8} (h : Kp S x b) (g : List UInt8) (hx : nameOk x = true) (hr : (b.length : Int) + g.length ≤ S.room) :
    Dk.app bump S x g = (if S.bud = 0 then 11 else 0, { (stepd S bump).2 with l := [⟨x, b ++ g, b.length⟩] }) := by
  have hu := h.used
  unfold Dk.app
  rw [if_neg (by rw [hx]; simp), if_neg (by rw [h.off]; simp), if_neg (by rw [hu]; omega)]
  have hm : Dk.upd (may S.l x) x (fun f => { f with b := f.b ++ g }) = [⟨x, b ++ g, b.length⟩] := by
    rcases h.l with ⟨hl, rfl⟩ | hl
    · rw [hl]
      have : may [] x = [⟨x, [], 0⟩] := rfl
      rw [this]; simp [Dk.upd]
    · have : may S.l x = S.l := if_pos (by unfold Dk.has Dk.get; rw [hl]; simp)
      rw [this, hl]; simp [Dk.upd]
  rw [hm]
  have e : (if (stepd S bump).1 = true then 0 else 11) = if S.bud = 0 then 11 else 0 := by
    unfold stepd
    by_cases hb : S.bud = 0
    · rw [if_pos hb, if_pos hb]; rfl
    · rw [if_neg hb, if_neg hb]; rfl
  rw [e]
theorem Kp.lapp {S : DS} {x b : List UInt8} (h : Kp S x b) (g : List UInt8) (hx : nameOk x = true) (hg : g.length ≤ 2097152) (hr : (b.length : Int) + (frame g).length ≤ S.room) :
    (((lapp bump S x g).1 = 0 ∧ Kp (lapp bump S x g).2 x (b ++ frame g)) ∨ ((lapp bump S x g).1 = 11 ∧ Cutd (lapp bump S x g).2 x b g)) ∧ (lapp bump S x g).2.room = S.room := by
  have ha := h.app (bump := bump) (frame g) hx hr
  unfold Wal.lapp
  rw [if_neg (by omega), ha]
  by_cases hb : S.bud = 0
  · rw [if_pos hb]
    have e : stepd S bump = (false, { S with off := true }) := by unfold stepd; exact if_pos hb
    rw [e]
    exact ⟨.inr ⟨rfl, rfl, rfl⟩, rfl⟩
  · rw [if_neg hb]
    have e : stepd S bump = (true, { S with bud := if S.bud > 0 then S.bud - 1 else S.bud, st := bump (S.st + 1) }) := by unfold stepd; exact if_neg hb
    rw [e]
    have hf : fnd { ({ S with bud := if S.bud > 0 then S.bud - 1 else S.bud, st := bump (S.st + 1) } : DS) with l := [⟨x, b ++ frame g, b.length⟩] } x = 0 := by
      unfold Dk.fnd Dk.has Dk.get
      simp [h.off]
    simp only [ne_eq, not_true_eq_false, if_false]
    unfold Dk.syn
    rw [if_neg (by rw [hf]; simp)]
    generalize hS2 : ({ ({ S with bud := if S.bud > 0 then S.bud - 1 else S.bud, st := bump (S.st + 1) } : DS) with l := [⟨x, b ++ frame g, b.length⟩] } : DS) = S2 at *
    have hl2 : S2.l = [⟨x, b ++ frame g, b.length⟩] := by rw [← hS2]
    have ho2 : S2.off = false := by rw [← hS2]; exact h.off
    have hr2 : S2.room = S.room := by rw [← hS2]
    by_cases hb2 : S2.bud = 0
    · have e2 : stepd S2 bump = (false, { S2 with off := true }) := by unfold stepd; exact if_pos hb2
      rw [e2]
      exact ⟨.inr ⟨rfl, rfl, hl2⟩, hr2⟩
    · have e2 : stepd S2 bump = (true, { S2 with bud := if S2.bud > 0 then S2.bud - 1 else S2.bud, st := bump (S2.st + 1) }) := by unfold stepd; exact if_neg hb2
      rw [e2]
      refine ⟨.inl ⟨rfl, ho2, .inr ?_⟩, hr2⟩
      show Dk.upd S2.l x _ = _
      rw [hl2]
      simp [Dk.upd]
theorem Kp.pow {S : DS} {x b : List UInt8} (h : Kp S x b) (keep : Int) : Kp (Dk.pow S keep) x b ∧ (Dk.pow S keep).bud = -1 ∧ (Dk.pow S keep).room = S.room := by
  have e : Dk.pow S keep = { S with bud := -1 } := if_neg (by rw [h.off]; simp)
  rw [e]
  exact ⟨⟨h.off, h.l⟩, rfl, rfl⟩
theorem Kp.lone {S : DS} {x b : List UInt8} (h : Kp S x b) (hb : S.bud = -1) : (S.off = false ∧ S.l = [] ∧ b = []) ∨ Lone S x b := by
  rcases h.l with ⟨hl, rfl⟩ | hl
  · exact .inl ⟨h.off, hl, rfl⟩
  · exact .inr ⟨h.off, hb, _, hl⟩
/-- What the power leaves: a first part, no shorter than what was synced. -/
theorem Cutd.pow {S : DS} {x b g : List UInt8} (h : Cutd S x b g) (keep : Int) : ∃ c, b.length ≤ c ∧ c ≤ (b ++ frame g).length ∧ Lone (Dk.pow S keep) x ((b ++ frame g).take c) ∧ (Dk.pow S keep).room = S.room := by
  have e : Dk.pow S keep = { S with bud := -1, off := false, l := S.l.map (cutf keep) } := if_pos h.off
  have hm := Nat.mod_lt (max keep 0).toNat (show 0 < (b ++ frame g).length - b.length + 1 by omega)
  have hle : b.length ≤ (b ++ frame g).length := by simp
  refine ⟨b.length + (max keep 0).toNat % ((b ++ frame g).length - b.length + 1), by omega, by omega, ?_, ?_⟩
  · rw [e]
    refine ⟨rfl, rfl, b.length + (max keep 0).toNat % ((b ++ frame g).length - b.length + 1), ?_⟩
    show S.l.map (cutf keep) = _
    rw [h.l]; rfl
  · rw [e]
/-- What an opening finds behind a cut: k records, or one more. -/
theorem cut_scans {l : List (List UInt8)} {k c : Nat} (hk : k < l.length) (hs : ∀ r ∈ l.take (k + 1), r.length ≤ 2097152) (h1 : (flat (l.take k)).length ≤ c) (h2 : c ≤ (flat (l.take k) ++ frame l[k]).length) :
    ∃ j u, (j = k ∨ j = k + 1) ∧ j ≤ l.length ∧ Scans ((flat (l.take k) ++ frame l[k]).take c) (l.take j) u := by
  have hf := flat_succ hk
  rw [← hf] at h2 ⊢
  have hlen : (l.take (k + 1)).length = k + 1 := by rw [List.length_take]; omega
  have e1 : endOf (l.take (k + 1)) k = (flat (l.take k)).length := by
    unfold endOf
    rw [List.take_take, Nat.min_eq_left (by omega)]
  have e2 : endOf (l.take (k + 1)) (k + 1) = (flat (l.take (k + 1))).length := by
    unfold endOf
    rw [List.take_take, Nat.min_self]
  by_cases hc : c < (flat (l.take (k + 1))).length
  · have := scans_cut (R := l.take (k + 1)) (c := c) (k := k) hs (by omega) (by rw [e1]; exact h1) (.inr ⟨by omega, by rw [e2]; exact hc⟩) (by omega)
    rw [List.take_take, Nat.min_eq_left (by omega)] at this
    exact ⟨k, _, .inl rfl, by omega, this⟩
  · have := scans_cut (R := l.take (k + 1)) (c := c) (k := k + 1) hs (by omega) (by rw [e2]; omega) (.inl hlen.symm) (by omega)
    rw [List.take_take, Nat.min_self] at this
    exact ⟨k + 1, _, .inr rfl, by omega, this⟩
end Go.Cv.Wal
end
section
/-
  A store in plain words: its pairs, its batches, the bytes of its records.
-/
set_option linter.unusedSimpArgs false
set_option linter.unusedVariables false
namespace Go.Cv.Kv
open Go Go.Cv.Dk
/-- A write. -/
structure PW where
  k : List UInt8
  v : List UInt8
  d : Bool
/-- A pair. -/
structure PP where
  k : List UInt8
  v : List UInt8
/-- A store: the pairs by rising keys, how many batches were done. -/
structure KS where
  l : List PP
  n : Nat
def delK (l : List PP) (x : List UInt8) : List PP := l.filter fun p => !(p.k == x)
def setK (l : List PP) (x v : List UInt8) : List PP := ins PP.k ⟨x, v⟩ (delK l x)
def doW (l : List PP) (w : PW) : List PP := if w.d then delK l w.k else setK l w.k w.v
def doB (s : KS) (W : List PW) : KS := ⟨W.foldl doW s.l, s.n + 1⟩
def emptyK : KS := ⟨[], 0⟩
/-- A number's bytes, the lowest first. -/
def leN : Nat → Nat → List UInt8
  | 0, _ => []
  | n + 1, v => UInt8.ofNat v :: leN n (v / 256)
def num : List UInt8 → Nat
  | [] => 0
  | x :: r => x.toNat + 256 * num r
theorem leN_len : ∀ n v, (leN n v).length = n
  | 0, _ => rfl
  | n + 1, v => by simp [leN, leN_len n]
theorem leN_succ : ∀ n v, leN (n + 1) v = leN n v ++ [UInt8.ofNat (v / 256 ^ n)]
  | 0, v => by simp [leN]
  | n + 1, v => by
    rw [leN, leN_succ n (v / 256), leN, List.cons_append, Nat.div_div_eq_div_mul, Nat.pow_succ, Nat.mul_comm]
theorem num_lt : ∀ l : List UInt8, num l < 256 ^ l.length
  | [] => by simp [num]
  | x :: r => by
    have h1 := num_lt r
    have h2 := x.toNat_lt
    simp only [num, List.length_cons, Nat.pow_succ]
    omega
theorem num_leN : ∀ n v, num (leN n v) = v % 256 ^ n
  | 0, v => by simp [leN, num, Nat.mod_one]
  | n + 1, v => by
    simp only [leN, num]
    rw [num_leN n (v / 256)]
    have e : (UInt8.ofNat v).toNat = v % 256 := by simp
    rw [e, Nat.pow_succ, Nat.mul_comm (256 ^ n) 256, Nat.mod_mul]
theorem num_app : ∀ l m : List UInt8, num (l ++ m) = num l + 256 ^ l.length * num m
  | [], m => by simp [num]
  | x :: r, m => by
    simp only [List.cons_append, num, List.length_cons, Nat.pow_succ]
    rw [num_app r m, Nat.mul_add, Nat.mul_comm (256 ^ r.length) 256, Nat.mul_assoc, Nat.add_assoc]
theorem num_take_succ {l : List UInt8} {k : Nat} (h : k < l.length) : num (l.take (k + 1)) = num (l.take k) + 256 ^ k * l[k].toNat := by
  rw [List.take_succ_eq_append_getElem h, num_app, List.length_take, Nat.min_eq_left (by omega)]
  simp [num]
theorem num_drop {l : List UInt8} {k : Nat} (h : k < l.length) : num (l.drop k) = l[k].toNat + 256 * num (l.drop (k + 1)) := by
  rw [List.drop_eq_getElem_cons h]; rfl
/-- One write's bytes; a batch's record; the record of all that is kept. -/
def encW (w : PW) : List UInt8 := UInt8.ofNat w.k.length :: (w.k ++ if w.d then [1] else 0 :: (leN 4 w.v.length ++ w.v))
def recB (n : Nat) (W : List PW) : List UInt8 := leN 8 n ++ (leN 2 W.length ++ W.flatMap encW)
def encP (p : PP) : List UInt8 := UInt8.ofNat p.k.length :: (p.k ++ (leN 4 p.v.length ++ p.v))
def snpB (s : KS) : List UInt8 := leN 8 s.n ++ (leN 4 s.l.length ++ s.l.flatMap encP)
/-- The error's number of a batch that may not be done, but for its size. -/
def badK (w : PW) : Bool := decide (w.k.length < 1 ∨ 255 < w.k.length)
def badV (w : PW) : Bool := !w.d && decide (262144 < w.v.length)
def may0 (W : List PW) : Nat := if 4096 < W.length then 1 else if W.any badK = true then 1 else if W.any badV = true then 2 else 0
/-! ### reading -/
/-- So many bytes from the front, as the readers take them: what is taken, what is left, whether it failed. -/
def tkS (n : Nat) (b : List UInt8) : List UInt8 × List UInt8 × Bool := if n ≤ b.length then (b.take n, b.drop n, false) else ([], b, true)
theorem tkS_ok {n : Nat} {b : List UInt8} (h : n ≤ b.length) : tkS n b = (b.take n, b.drop n, false) := if_pos h
theorem tkS_no {n : Nat} {b : List UInt8} (h : ¬ n ≤ b.length) : tkS n b = ([], b, true) := if_neg h
theorem tkS_len (n : Nat) (b : List UInt8) : (tkS n b).1.length ≤ n ∧ (tkS n b).1.length ≤ b.length ∧ (tkS n b).2.1.length ≤ b.length := by
  unfold tkS
  split
  · simp; omega
  · simp
def keyS (b : List UInt8) : List UInt8 × List UInt8 × Bool :=
  ((tkS (num (tkS 1 b).1) (tkS 1 b).2.1).1, (tkS (num (tkS 1 b).1) (tkS 1 b).2.1).2.1, (tkS 1 b).2.2 || (num (tkS 1 b).1 == 0) || (tkS (num (tkS 1 b).1) (tkS 1 b).2.1).2.2)
def valS (b : List UInt8) : List UInt8 × List UInt8 × Bool :=
  if 262144 < num (tkS 4 b).1 then ([], (tkS 4 b).2.1, true) else
  ((tkS (num (tkS 4 b).1) (tkS 4 b).2.1).1, (tkS (num (tkS 4 b).1) (tkS 4 b).2.1).2.1, (tkS 4 b).2.2 || (tkS (num (tkS 4 b).1) (tkS 4 b).2.1).2.2)
/-- So many bytes from the front. -/
def tk (n : Nat) (b : List UInt8) : Option (List UInt8 × List UInt8) := if n ≤ b.length then some (b.take n, b.drop n) else none
def nm (n : Nat) (b : List UInt8) : Option (Nat × List UInt8) := (tk n b).map fun x => (num x.1, x.2)
def keyD (b : List UInt8) : Option (List UInt8 × List UInt8) := (nm 1 b).bind fun x => if x.1 = 0 then none else tk x.1 x.2
def valD (b : List UInt8) : Option (List UInt8 × List UInt8) := (nm 4 b).bind fun x => if 262144 < x.1 then none else tk x.1 x.2
def wrtD (b : List UInt8) : Option (PW × List UInt8) := (keyD b).bind fun x => (nm 1 x.2).bind fun y => if y.1 = 0 then (valD y.2).map fun z => (⟨x.1, z.1, false⟩, z.2) else if y.1 = 1 then some (⟨x.1, [], true⟩, y.2) else none
def wrtsD : Nat → List UInt8 → Option (List PW × List UInt8)
  | 0, b => some ([], b)
  | n + 1, b => (wrtD b).bind fun x => (wrtsD n x.2).map fun y => (x.1 :: y.1, y.2)
def batD (b : List UInt8) : Option (Nat × List PW) := (nm 8 b).bind fun x => (nm 2 x.2).bind fun y => (wrtsD y.1 y.2).bind fun z => if z.2 = [] ∧ 1 ≤ y.1 ∧ y.1 ≤ 4096 then some (x.1, z.1) else none
def prD (last : List UInt8) (b : List UInt8) : Option (PP × List UInt8) := (keyD b).bind fun x => (valD x.2).bind fun y => if bytesBefore last x.1 then some (⟨x.1, y.1⟩, y.2) else none
def prsD : Nat → List UInt8 → List UInt8 → Option (List PP × List UInt8)
  | 0, _, b => some ([], b)
  | n + 1, last, b => (prD last b).bind fun x => (prsD n x.1.k x.2).map fun y => (x.1 :: y.1, y.2)
def snpD (b : List UInt8) : Option KS := (nm 8 b).bind fun x => (nm 4 x.2).bind fun y => (prsD y.1 [] y.2).bind fun z => if z.2 = [] ∧ x.1 ≤ 4611686018427387904 then some ⟨z.1, x.1⟩ else none
def seqB (last : Option Nat) (n c : Nat) : Bool := match last with | some l => c != l + 1 | none => decide (n + 1 < c)
/-- One record of the log is done. -/
def opn1 (last : Option Nat) (s : KS) (r : List UInt8) : Option (Option Nat × KS) :=
  (batD r).bind fun x => if x.1 < 1 ∨ 9223372036854775808 ≤ x.1 ∨ seqB last s.n x.1 = true then none else some (some x.1, if s.n < x.1 then doB s x.2 else s)
def opnR : Option Nat → KS → List (List UInt8) → Option KS
  | _, s, [] => some s
  | last, s, r :: R => (opn1 last s r).bind fun x => opnR x.1 x.2 R
end Go.Cv.Kv
end
