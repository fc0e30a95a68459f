/-
  Walks of the element's functions: a number of 32 bytes read.
-/
import Derived.Test.YtndohjgfjbopnaaElD
set_option linter.unusedSimpArgs false
set_option linter.unusedVariables false
namespace Go.Cv
open Go.RowKit
theorem bcells_ex (f : Nat → UInt8) : ∃ c : Array Value, c = Array.ofFn (n := 32) (fun i => Value.int .u8 (n8 (f i))) := ⟨_, rfl⟩
/-- 32 bytes by their function, as cells. -/
noncomputable def bcells (f : Nat → UInt8) : Array Value := Classical.choose (bcells_ex f)
theorem bcells_def (f : Nat → UInt8) : bcells f = Array.ofFn (n := 32) (fun i => Value.int .u8 (n8 (f i))) := Classical.choose_spec (bcells_ex f)
@[simp, go_sem] theorem bcells_size (f : Nat → UInt8) : (bcells f).size = 32 := by rw [bcells_def]; simp
theorem bcells_get (f : Nat → UInt8) {i : Nat} (h : i < 32) : (bcells f)[i]? = some (.int .u8 (n8 (f i))) := by
  rw [bcells_def]
  simp [h]
/-- A word of a row of bytes: what stands in it behind k bytes. -/
def acw (f : Nat → UInt8) (i : Nat) : Nat → UInt64
  | 0 => 0
  | k + 1 => acw f i k ||| (f (8 * i + k)).toUInt64 * u64 (2 ^ (8 * k))
theorem bcell (f : Nat → UInt8) (w : World) (o1 o2 : Obj) (T : TypeId) (l : Nat × Array Obj) {i : Nat} (h : i < 32) :
    (grw (((w.alloc (.cells (bcells f) T)).alloc o1).alloc o2) l).cell? ⟨w.heap.size, i, none⟩ = some (.int .u8 (n8 (f i))) := by
  rw [grw_cell]
  · have h1 : ((w.alloc (.cells (bcells f) T))).cell? ⟨w.heap.size, i, none⟩ = some (.int .u8 (n8 (f i))) := by
      rw [World.cell?_alloc_at _ _ _ _ rfl]
      exact bcells_get f h
    exact Ext.cell (ext_alloc _ _) (Ext.cell (ext_alloc _ _) h1)
  · simp; omega
theorem acw0 (f : Nat → UInt8) (k : Nat) : acw f 0 (k + 1) = acw f 0 k ||| (f k).toUInt64 * u64 (2 ^ (8 * k)) := by
  show acw f 0 k ||| (f (8 * 0 + k)).toUInt64 * u64 (2 ^ (8 * k)) = _
  rw [Nat.mul_zero, Nat.zero_add]
/-- The number of n bytes. -/
def bsum (f : Nat → UInt8) : Nat → Nat
  | 0 => 0
  | n + 1 => bsum f n + 2 ^ (8 * n) * (f n).toNat
theorem bsum_lt (f : Nat → UInt8) : ∀ n, bsum f n < 2 ^ (8 * n)
  | 0 => by simp [bsum]
  | n + 1 => by
    have h := bsum_lt f n
    have h2 := (f n).toNat_lt
    have h3 : 2 ^ (8 * n) * (f n).toNat ≤ 2 ^ (8 * n) * 255 := Nat.mul_le_mul_left _ (by omega)
    simp only [bsum]
    rw [show 8 * (n + 1) = 8 * n + 8 from by omega, Nat.pow_add]
    omega
theorem bsum_add (f : Nat → UInt8) (m : Nat) : ∀ n, bsum f (m + n) = bsum f m + 2 ^ (8 * m) * bsum (fun j => f (m + j)) n
  | 0 => by simp [bsum]
  | n + 1 => by
    have ih := bsum_add f m n
    show bsum f (m + n) + 2 ^ (8 * (m + n)) * (f (m + n)).toNat = _
    rw [ih]
    simp only [bsum]
    rw [Nat.mul_add (2 ^ (8 * m)), ← Nat.mul_assoc (2 ^ (8 * m)), ← Nat.pow_add, show 8 * m + 8 * n = 8 * (m + n) from by omega]
    omega
theorem u64_pow {k : Nat} (h : k < 8) : (u64 (2 ^ (8 * k))).toNat = 2 ^ (8 * k) := by
  rcases (by omega : k = 0 ∨ k = 1 ∨ k = 2 ∨ k = 3 ∨ k = 4 ∨ k = 5 ∨ k = 6 ∨ k = 7) with rfl | rfl | rfl | rfl | rfl | rfl | rfl | rfl <;> rfl
theorem acw_toNat (f : Nat → UInt8) (i : Nat) : ∀ k, k ≤ 8 → (acw f i k).toNat = bsum (fun j => f (8 * i + j)) k
  | 0, _ => rfl
  | k + 1, h => by
    have ih := acw_toNat f i k (by omega)
    have hb := bsum_lt (fun j => f (8 * i + j)) k
    have h2 := (f (8 * i + k)).toNat_lt
    simp only [acw, bsum]
    rw [UInt64.toNat_or, UInt64.toNat_mul, u64_pow (by omega), ih, UInt8.toNat_toUInt64]
    have h4 : (f (8 * i + k)).toNat * 2 ^ (8 * k) < 2 ^ 64 := by
      have : 2 ^ (8 * k) ≤ 2 ^ 56 := Nat.pow_le_pow_right (by decide) (by omega)
      have : (f (8 * i + k)).toNat * 2 ^ (8 * k) ≤ 255 * 2 ^ 56 := Nat.mul_le_mul (by omega) this
      omega
    rw [Nat.mod_eq_of_lt h4, Nat.mul_comm _ (2 ^ (8 * k)), Nat.or_comm, ← Nat.two_pow_add_eq_or_of_lt hb]
    omega
def wd (f : Nat → UInt8) (i : Nat) : UInt64 := acw f i 8
theorem wd_val (f : Nat → UInt8) : val4 (wd f 0) (wd f 1) (wd f 2) (wd f 3) = bsum f 32 := by
  have h1 := bsum_add f 8 24
  have h2 := bsum_add (fun j => f (8 + j)) 8 16
  have h3 := bsum_add (fun j => f (8 + (8 + j))) 8 8
  unfold val4 wd
  rw [acw_toNat _ _ 8 (by decide), acw_toNat _ _ 8 (by decide), acw_toNat _ _ 8 (by decide), acw_toNat _ _ 8 (by decide)]
  simp only [Nat.mul_zero, Nat.zero_add, Nat.mul_one, Nat.reduceMul]
  simp only [← Nat.add_assoc, Nat.reduceAdd, Nat.reduceMul, Nat.reducePow] at h1 h2 h3
  rw [h1, h2, h3]
end Go.Cv
namespace Go.Proofs.Ytndohjgfjbopnaa
open Go.RowKit Go.Cv

set_option maxRecDepth 4000 in
set_option maxHeartbeats 4000000 in
theorem in_any (f : Nat → UInt8) (w : World) :
    Calls Try.prog 71 #[.agg (bcells f)] w fun e w' => e = .returned (el (wd f 0) (wd f 1) (wd f 2) (wd f 3)) ∧ Ext w w' := by
  go_enter Try.func71, Try.ntmps71
  go_wp2
  go_loopw [6] (fun i wr => ∃ (k : Nat) (ws : Nat → UInt64) (l : Nat × Array Obj), k ≤ 4 ∧ i = .int .i64 k ∧ wr = grw (((w.alloc (.cells (bcells f) 22)).alloc (.cells (w4 0 0 0 0) 73)).alloc (.cells (w4 (ws 0) (ws 1) (ws 2) (ws 3)) 73)) l ∧ (∀ j, j < k → ws j = wd f j) ∧ (∀ j, k ≤ j → ws j = 0)) (fun i _ => 4 - (intOf i).toNat)
  case atStart => exact ⟨0, fun _ => 0, _, by omega, rfl, grw_self _, fun _ h => absurd h (by omega), fun _ _ => rfl⟩
  case round =>
    obtain ⟨i, ws, l, hk, rfl, rfl, hv, hz⟩ := hrel
    have HV := Lib.hid hv
    have HZ := Lib.hid hz
    clear hv hz
    rcases (by omega : i = 0 ∨ i = 1 ∨ i = 2 ∨ i = 3 ∨ i = 4) with rfl | rfl | rfl | rfl | rfl
    · go_wp2
      go_loopw [9] (fun kk wr => ∃ (k : Nat) (l : Nat × Array Obj), k ≤ 8 ∧ kk = .int .i64 k ∧ wr = grw (((w.alloc (.cells (bcells f) 22)).alloc (.cells (w4 0 0 0 0) 73)).alloc (.cells (w4 (acw f 0 k) (ws 1) (ws 2) (ws 3)) 73)) l) (fun kk _ => 8 - (intOf kk).toNat)
      case atStart => exact ⟨0, _, by omega, rfl, by rw [show acw f 0 0 = 0 from rfl, ← HZ.out 0 (Nat.le_refl _)]⟩
      case round =>
        obtain ⟨k, l, hk, rfl, rfl⟩ := hrel
        by_cases hlt : k < 8
        · go_wp2_with fail
          have hb : ∀ l, (grw (((w.alloc (.cells (bcells f) 22)).alloc (.cells (w4 0 0 0 0) 73)).alloc (.cells (w4 (acw f 0 k) (ws 1) (ws 2) (ws 3)) 73)) l).cell? ⟨w.heap.size, 0 + k, none⟩ = some (.int .u8 (n8 (f (0 + k)))) := fun l => bcell f w _ _ _ l (by omega)
          have hd : ∀ l, (grw (((w.alloc (.cells (bcells f) 22)).alloc (.cells (w4 0 0 0 0) 73)).alloc (.cells (w4 (acw f 0 k) (ws 1) (ws 2) (ws 3)) 73)) l).drew = grw (((w.alloc (.cells (bcells f) 22)).alloc (.cells (w4 0 0 0 0) 73)).alloc (.cells (w4 (acw f 0 k) (ws 1) (ws 2) (ws 3)) 73)) (l.1 + 1, l.2) := fun l => rfl
          simp only [Nat.zero_add] at hb
          go_region
          all_goals
            go_wp2
            refine ⟨?_, by simp [intOf]; omega⟩
            exact ⟨k + 1, (l.1 + 1, l.2), by omega, by go_num, by rw [acw0]⟩
        · have hk8 : k = 8 := by omega
          subst hk8
          go_wp2
          refine ⟨?_, by simp [intOf]⟩
          refine ⟨1, upd ws 0 (wd f 0), _, by omega, rfl, rfl, fun j h => ?_, fun j h => ?_⟩
          · by_cases hj : j = 0
            · subst hj; exact if_pos rfl
            · rw [show upd ws 0 (wd f 0) j = ws j from if_neg hj]; exact HV.out j (by omega)
          · rw [show upd ws 0 (wd f 0) j = ws j from if_neg (by omega)]; exact HZ.out j (by omega)
    · go_wp2
      go_loopw [9] (fun kk wr => ∃ (k : Nat) (l : Nat × Array Obj), k ≤ 8 ∧ kk = .int .i64 k ∧ wr = grw (((w.alloc (.cells (bcells f) 22)).alloc (.cells (w4 0 0 0 0) 73)).alloc (.cells (w4 (ws 0) (acw f 1 k) (ws 2) (ws 3)) 73)) l) (fun kk _ => 8 - (intOf kk).toNat)
      case atStart => exact ⟨0, _, by omega, rfl, by rw [show acw f 1 0 = 0 from rfl, ← HZ.out 1 (Nat.le_refl _)]⟩
      case round =>
        obtain ⟨k, l, hk, rfl, rfl⟩ := hrel
        by_cases hlt : k < 8
        · go_wp2_with fail
          have hb : ∀ l, (grw (((w.alloc (.cells (bcells f) 22)).alloc (.cells (w4 0 0 0 0) 73)).alloc (.cells (w4 (ws 0) (acw f 1 k) (ws 2) (ws 3)) 73)) l).cell? ⟨w.heap.size, 8 + k, none⟩ = some (.int .u8 (n8 (f (8 + k)))) := fun l => bcell f w _ _ _ l (by omega)
          have hd : ∀ l, (grw (((w.alloc (.cells (bcells f) 22)).alloc (.cells (w4 0 0 0 0) 73)).alloc (.cells (w4 (ws 0) (acw f 1 k) (ws 2) (ws 3)) 73)) l).drew = grw (((w.alloc (.cells (bcells f) 22)).alloc (.cells (w4 0 0 0 0) 73)).alloc (.cells (w4 (ws 0) (acw f 1 k) (ws 2) (ws 3)) 73)) (l.1 + 1, l.2) := fun l => rfl
          skip
          go_region
          all_goals
            go_wp2
            refine ⟨?_, by simp [intOf]; omega⟩
            exact ⟨k + 1, (l.1 + 1, l.2), by omega, by go_num, rfl⟩
        · have hk8 : k = 8 := by omega
          subst hk8
          go_wp2
          refine ⟨?_, by simp [intOf]⟩
          refine ⟨2, upd ws 1 (wd f 1), _, by omega, rfl, rfl, fun j h => ?_, fun j h => ?_⟩
          · by_cases hj : j = 1
            · subst hj; exact if_pos rfl
            · rw [show upd ws 1 (wd f 1) j = ws j from if_neg hj]; exact HV.out j (by omega)
          · rw [show upd ws 1 (wd f 1) j = ws j from if_neg (by omega)]; exact HZ.out j (by omega)
    · go_wp2
      go_loopw [9] (fun kk wr => ∃ (k : Nat) (l : Nat × Array Obj), k ≤ 8 ∧ kk = .int .i64 k ∧ wr = grw (((w.alloc (.cells (bcells f) 22)).alloc (.cells (w4 0 0 0 0) 73)).alloc (.cells (w4 (ws 0) (ws 1) (acw f 2 k) (ws 3)) 73)) l) (fun kk _ => 8 - (intOf kk).toNat)
      case atStart => exact ⟨0, _, by omega, rfl, by rw [show acw f 2 0 = 0 from rfl, ← HZ.out 2 (Nat.le_refl _)]⟩
      case round =>
        obtain ⟨k, l, hk, rfl, rfl⟩ := hrel
        by_cases hlt : k < 8
        · go_wp2_with fail
          have hb : ∀ l, (grw (((w.alloc (.cells (bcells f) 22)).alloc (.cells (w4 0 0 0 0) 73)).alloc (.cells (w4 (ws 0) (ws 1) (acw f 2 k) (ws 3)) 73)) l).cell? ⟨w.heap.size, 16 + k, none⟩ = some (.int .u8 (n8 (f (16 + k)))) := fun l => bcell f w _ _ _ l (by omega)
          have hd : ∀ l, (grw (((w.alloc (.cells (bcells f) 22)).alloc (.cells (w4 0 0 0 0) 73)).alloc (.cells (w4 (ws 0) (ws 1) (acw f 2 k) (ws 3)) 73)) l).drew = grw (((w.alloc (.cells (bcells f) 22)).alloc (.cells (w4 0 0 0 0) 73)).alloc (.cells (w4 (ws 0) (ws 1) (acw f 2 k) (ws 3)) 73)) (l.1 + 1, l.2) := fun l => rfl
          skip
          go_region
          all_goals
            go_wp2
            refine ⟨?_, by simp [intOf]; omega⟩
            exact ⟨k + 1, (l.1 + 1, l.2), by omega, by go_num, rfl⟩
        · have hk8 : k = 8 := by omega
          subst hk8
          go_wp2
          refine ⟨?_, by simp [intOf]⟩
          refine ⟨3, upd ws 2 (wd f 2), _, by omega, rfl, rfl, fun j h => ?_, fun j h => ?_⟩
          · by_cases hj : j = 2
            · subst hj; exact if_pos rfl
            · rw [show upd ws 2 (wd f 2) j = ws j from if_neg hj]; exact HV.out j (by omega)
          · rw [show upd ws 2 (wd f 2) j = ws j from if_neg (by omega)]; exact HZ.out j (by omega)
    · go_wp2
      go_loopw [9] (fun kk wr => ∃ (k : Nat) (l : Nat × Array Obj), k ≤ 8 ∧ kk = .int .i64 k ∧ wr = grw (((w.alloc (.cells (bcells f) 22)).alloc (.cells (w4 0 0 0 0) 73)).alloc (.cells (w4 (ws 0) (ws 1) (ws 2) (acw f 3 k)) 73)) l) (fun kk _ => 8 - (intOf kk).toNat)
      case atStart => exact ⟨0, _, by omega, rfl, by rw [show acw f 3 0 = 0 from rfl, ← HZ.out 3 (Nat.le_refl _)]⟩
      case round =>
        obtain ⟨k, l, hk, rfl, rfl⟩ := hrel
        by_cases hlt : k < 8
        · go_wp2_with fail
          have hb : ∀ l, (grw (((w.alloc (.cells (bcells f) 22)).alloc (.cells (w4 0 0 0 0) 73)).alloc (.cells (w4 (ws 0) (ws 1) (ws 2) (acw f 3 k)) 73)) l).cell? ⟨w.heap.size, 24 + k, none⟩ = some (.int .u8 (n8 (f (24 + k)))) := fun l => bcell f w _ _ _ l (by omega)
          have hd : ∀ l, (grw (((w.alloc (.cells (bcells f) 22)).alloc (.cells (w4 0 0 0 0) 73)).alloc (.cells (w4 (ws 0) (ws 1) (ws 2) (acw f 3 k)) 73)) l).drew = grw (((w.alloc (.cells (bcells f) 22)).alloc (.cells (w4 0 0 0 0) 73)).alloc (.cells (w4 (ws 0) (ws 1) (ws 2) (acw f 3 k)) 73)) (l.1 + 1, l.2) := fun l => rfl
          skip
          go_region
          all_goals
            go_wp2
            refine ⟨?_, by simp [intOf]; omega⟩
            exact ⟨k + 1, (l.1 + 1, l.2), by omega, by go_num, rfl⟩
        · have hk8 : k = 8 := by omega
          subst hk8
          go_wp2
          refine ⟨?_, by simp [intOf]⟩
          refine ⟨4, upd ws 3 (wd f 3), _, by omega, rfl, rfl, fun j h => ?_, fun j h => ?_⟩
          · by_cases hj : j = 3
            · subst hj; exact if_pos rfl
            · rw [show upd ws 3 (wd f 3) j = ws j from if_neg hj]; exact HV.out j (by omega)
          · rw [show upd ws 3 (wd f 3) j = ws j from if_neg (by omega)]; exact HZ.out j (by omega)
    · go_wp2
      refine bodyPost_ret_by (by simp [results, Try.results71, go_sem]; rfl) rfl ?_
      rw [HV.out 0 (by decide), HV.out 1 (by decide), HV.out 2 (by decide), HV.out 3 (by decide)]
      exact ⟨rfl, (((ext_alloc _ _).trans (ext_alloc _ _)).trans (ext_alloc _ _)).trans (grw_ext _ _)⟩
end Go.Proofs.Ytndohjgfjbopnaa
