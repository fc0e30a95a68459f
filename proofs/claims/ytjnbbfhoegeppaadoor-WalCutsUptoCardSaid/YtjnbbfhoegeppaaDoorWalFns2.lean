/-
  Plain laws on frames one behind the other, cut anywhere.
-/
import Derived.Test.YtjnbbfhoegeppaaDoorWalFns
set_option linter.unusedSimpArgs false
set_option linter.unusedVariables false
namespace Go.Cv.Wal

/-- All frames one behind the other. -/
def flat (R : List (List UInt8)) : List UInt8 := (R.map frame).flatten
theorem flat_append (R S : List (List UInt8)) : flat (R ++ S) = flat R ++ flat S := by simp [flat]
theorem flat_one (r : List UInt8) : flat [r] = frame r := by simp [flat]
theorem flat_cons (r : List UInt8) (R : List (List UInt8)) : flat (r :: R) = frame r ++ flat R := by simp [flat]
theorem flat_succ {R : List (List UInt8)} {k : Nat} (h : k < R.length) : flat (R.take (k + 1)) = flat (R.take k) ++ frame R[k] := by
  rw [List.take_succ_eq_append_getElem h, flat_append, flat_one]
/-- Where the k-th frame ends. -/
def endOf (R : List (List UInt8)) (k : Nat) : Nat := (flat (R.take k)).length
theorem endOf_zero (R : List (List UInt8)) : endOf R 0 = 0 := by simp [endOf, flat]
theorem endOf_succ {R : List (List UInt8)} {k : Nat} (h : k < R.length) : endOf R (k + 1) = endOf R k + (8 + R[k].length) := by
  unfold endOf
  rw [flat_succ h, List.length_append, frame_length]
theorem flat_bound : ∀ R : List (List UInt8), (flat R).length = 8 * R.length + (R.map List.length).sum
  | [] => by simp [flat]
  | r :: R => by
    have := flat_bound R
    have e : flat (r :: R) = frame r ++ flat R := by simp [flat]
    rw [e, List.length_append, frame_length, this]
    simp only [List.length_cons, List.map_cons, List.sum_cons]
    omega
theorem endOf_le (R : List (List UInt8)) (k : Nat) : endOf R k ≤ 8 * R.length + (R.map List.length).sum := by
  have h : R = R.take k ++ R.drop k := (List.take_append_drop k R).symm
  have h1 := flat_bound (R.take k)
  have h2 : (flat R).length = (flat (R.take k)).length + (flat (R.drop k)).length := by
    rw [← List.length_append, ← flat_append, List.take_append_drop]
  have := flat_bound R
  unfold endOf
  omega
/-- The list of the first k ends. -/
def ends (R : List (List UInt8)) (k : Nat) : List Value := (List.range k).map fun j => Value.int .i64 (endOf R (j + 1) : Nat)
theorem ends_succ (R : List (List UInt8)) (k : Nat) : ends R (k + 1) = ends R k ++ [Value.int .i64 (endOf R (k + 1) : Nat)] := by
  unfold ends; rw [List.range_succ]; simp
theorem ends_len (R : List (List UInt8)) (k : Nat) : (ends R k).length = k := by simp [ends]
theorem ends_get (R : List (List UInt8)) {k j : Nat} (h : j < k) : (ends R k)[j]? = some (Value.int .i64 (endOf R (j + 1) : Nat)) := by
  simp [ends, h]

theorem scan1_prefix (r t : List UInt8) (hr : r.length ≤ 2097152) (m : Nat) (hm : m < 8 + r.length) : scan1 ((frame r ++ t).take m) = none := by
  rcases h : scan1 ((frame r ++ t).take m) with _ | r'
  · rfl
  · exfalso
    obtain ⟨h1, h2, h3⟩ := scan1_some h
    have h4 : frame r ++ t = frame r' ++ (((frame r ++ t).take m).drop (8 + r'.length) ++ (frame r ++ t).drop m) := by
      rw [← List.append_assoc, ← h1, List.take_append_drop]
    have h5 := scan1_frame r t hr
    rw [h4, scan1_frame _ _ h2] at h5
    injection h5 with h5
    subst h5
    rw [List.length_take] at h3
    omega

/-- The records of frames that are cut: those that are whole. -/
theorem scans_cut {R : List (List UInt8)} {c k : Nat} (hs : ∀ r ∈ R, r.length ≤ 2097152) (hk : k ≤ R.length) (hc : endOf R k ≤ c) (hn : k = R.length ∨ ∃ h : k < R.length, c < endOf R (k + 1)) (hcl : c ≤ (flat R).length) :
    Scans ((flat R).take c) (R.take k) (endOf R k) := by
  have hsplit : flat R = flat (R.take k) ++ flat (R.drop k) := by rw [← flat_append, List.take_append_drop]
  refine ⟨by rw [List.length_take]; omega, ?_, fun r hr => hs r (List.mem_of_mem_take hr), ?_⟩
  · show flat (R.take k) = _
    rw [List.take_take, Nat.min_eq_left hc, hsplit]
    unfold endOf
    rw [List.take_left]
  · rw [List.drop_take, hsplit]
    unfold endOf
    rw [List.drop_left]
    rcases hn with rfl | ⟨h, hlt⟩
    · have : R.drop R.length = [] := by simp
      rw [this]
      simp [flat, scan1]
    · have e : R.drop k = R[k] :: R.drop (k + 1) := List.drop_eq_getElem_cons h
      have e2 : flat (R.drop k) = frame R[k] ++ flat (R.drop (k + 1)) := by rw [e, flat_cons]
      rw [e2]
      apply scan1_prefix _ _ (hs _ (List.getElem_mem h))
      rw [endOf_succ h] at hlt
      unfold endOf at hlt
      have : (flat (R.take k)).length ≤ c := hc
      omega
end Go.Cv.Wal
