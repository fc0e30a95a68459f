/-
  The document's answer of layer 5: words turned, walked for any width.
-/
import Derived.Test.YtnlphndfnnmdaaaDoorHashK
set_option linter.unusedSimpArgs false
set_option linter.unusedVariables false
namespace Go.Cv.Hash
open Go.RowKit
/-- A word of b bits turned right. -/
def rotG (b : Nat) (M x : UInt64) (n : Nat) : UInt64 := (x >>> UInt64.ofNat n ||| x <<< UInt64.ofNat (b - n)) &&& M
def smallG (b : Nat) (M x : UInt64) (i j k : Nat) : UInt64 := rotG b M x i ^^^ rotG b M x j ^^^ x >>> UInt64.ofNat k
def greatG (b : Nat) (M x : UInt64) (i j k : Nat) : UInt64 := rotG b M x i ^^^ rotG b M x j ^^^ rotG b M x k
theorem mul_shl64 (x : UInt64) (s : Nat) (h : s < 64) : x * u64 ((2 : Int) ^ s) = x <<< UInt64.ofNat s := by
  apply UInt64.toNat_inj.1
  rw [UInt64.toNat_shiftLeft, ofNat_toNat64 s h, Nat.mod_eq_of_lt h, Nat.shiftLeft_eq, UInt64.toNat_mul]
  have h2 : ((u64 ((2 : Int) ^ s)).toNat : Int) = (2 : Int) ^ s % 18446744073709551616 := n64_u64 _
  have h3 : (2 : Int) ^ s < 18446744073709551616 := by
    have := Nat.pow_lt_pow_right (a := 2) (by decide) h
    have e : ((2 ^ s : Nat) : Int) = (2 : Int) ^ s := by simp
    omega
  have h4 : (u64 ((2 : Int) ^ s)).toNat = 2 ^ s := by
    have h5 : (0 : Int) ≤ (2 : Int) ^ s := Int.pow_nonneg (by decide)
    rw [Int.emod_eq_of_lt h5 h3] at h2
    have e : ((2 ^ s : Nat) : Int) = (2 : Int) ^ s := by simp
    omega
  rw [h4]
end Go.Cv.Hash
namespace Go.Proofs.YtnlphndfnnmdaaaDoor
open Go.RowKit Go.Cv Go.Cv.Hash Go.Cv.Dig
set_option maxHeartbeats 2000000 in
theorem rot_g (b k s0 s1 s2 s3 s4 s5 K : Nat) (M x : UInt64) (w : World) (hb : b ≤ 64) (h0 : 0 < k) (h1 : k < b) :
    Calls Tryd.prog 35 #[.agg #[.int .i64 (b : Int), .slice (some ⟨s0, 0, none⟩) 3 3, .slice (some ⟨s1, 0, none⟩) 3 3, .slice (some ⟨s2, 0, none⟩) 3 3, .slice (some ⟨s3, 0, none⟩) 3 3, .int .u64 (n64 M), .slice (some ⟨s4, 0, none⟩) K K, .slice (some ⟨s5, 0, none⟩) 8 8], .int .u64 (n64 x), .int .i64 (k : Int)] w fun e w' => e = .returned (.int .u64 (n64 (rotG b M x k))) ∧ Ext w w' := by
  have hl := mul_shl64 x (b - k) (by omega)
  have hr := shr_eq64 x k (by omega)
  have hk0 : 0 ≤ (k : Int) := by omega
  have hk1 : (k : Int) ≤ 64 := by omega
  have hsub : IntKind.i64.wrap ((b : Int) - (k : Int)) = ((b - k : Nat) : Int) := by rw [IntWalk.i64_in _ (by omega)]; omega
  have hsub' : (b : Int) - (k : Int) = ((b - k : Nat) : Int) := by omega
  have e : rotG b M x k = (x >>> UInt64.ofNat k ||| x <<< UInt64.ofNat (b - k)) &&& M := rfl
  rw [e]
  clear e
  generalize x >>> UInt64.ofNat k = z at *
  go_enter Tryd.func35, Tryd.ntmps35
  go_wp2
  go_region
  go_wp2
  go_ret
  exact ⟨rfl, Ext.drewN (ext_alloc _ _) _⟩
set_option maxRecDepth 20000 in
set_option maxHeartbeats 4000000 in
theorem small_g (b i j k s0 s1 s2 s3 s4 s5 K t : Nat) (M x : UInt64) (w : World) (hb : b ≤ 64) (hi : 0 < i) (hi1 : i < b) (hj : 0 < j) (hj1 : j < b) (hk1 : k < 64) (hT : Row w t 3 [.int .i64 (i : Int), .int .i64 (j : Int), .int .i64 (k : Int)]) :
    Calls Tryd.prog 31 #[.agg #[.int .i64 (b : Int), .slice (some ⟨s0, 0, none⟩) 3 3, .slice (some ⟨s1, 0, none⟩) 3 3, .slice (some ⟨s2, 0, none⟩) 3 3, .slice (some ⟨s3, 0, none⟩) 3 3, .int .u64 (n64 M), .slice (some ⟨s4, 0, none⟩) K K, .slice (some ⟨s5, 0, none⟩) 8 8], .int .u64 (n64 x), .slice (some ⟨t, 0, none⟩) 3 3] w fun e w' => e = .returned (.int .u64 (n64 (smallG b M x i j k))) ∧ Ext w w' := by
  have q1 := fun w => rot_g b i s0 s1 s2 s3 s4 s5 K M x w hb hi hi1
  have q2 := fun w => rot_g b j s0 s1 s2 s3 s4 s5 K M x w hb hj hj1
  have hr := shr_eq64 x k hk1
  have hk0 : 0 ≤ (k : Int) := by omega
  have hk2 : (k : Int) ≤ 64 := by omega
  have e : smallG b M x i j k = rotG b M x i ^^^ rotG b M x j ^^^ x >>> UInt64.ofNat k := rfl
  rw [e]
  clear e
  generalize x >>> UInt64.ofNat k = y3 at *
  generalize rotG b M x i = y1 at *
  generalize rotG b M x j = y2 at *
  go_enter Tryd.func31, Tryd.ntmps31
  go_wp2
  obtain ⟨w1, hw1⟩ : ∃ w1, w1 = w.alloc (.cells #[.int .i64 (b : Int), .slice (some ⟨s0, 0, none⟩) 3 3, .slice (some ⟨s1, 0, none⟩) 3 3, .slice (some ⟨s2, 0, none⟩) 3 3, .slice (some ⟨s3, 0, none⟩) 3 3, .int .u64 (n64 M), .slice (some ⟨s4, 0, none⟩) K K, .slice (some ⟨s5, 0, none⟩) 8 8] 53) := ⟨_, rfl⟩
  obtain ⟨B, hB⟩ : ∃ B, B = w.heap.size := ⟨_, rfl⟩
  rw [← hw1, ← hB]
  have hx1 : Ext w w1 := by rw [hw1]; exact ext_alloc _ _
  have hR : Row w1 B 53 [.int .i64 (b : Int), .slice (some ⟨s0, 0, none⟩) 3 3, .slice (some ⟨s1, 0, none⟩) 3 3, .slice (some ⟨s2, 0, none⟩) 3 3, .slice (some ⟨s3, 0, none⟩) 3 3, .int .u64 (n64 M), .slice (some ⟨s4, 0, none⟩) K K, .slice (some ⟨s5, 0, none⟩) 8 8] := by rw [hw1, hB]; exact Row.alloc w [.int .i64 (b : Int), .slice (some ⟨s0, 0, none⟩) 3 3, .slice (some ⟨s1, 0, none⟩) 3 3, .slice (some ⟨s2, 0, none⟩) 3 3, .slice (some ⟨s3, 0, none⟩) 3 3, .int .u64 (n64 M), .slice (some ⟨s4, 0, none⟩) K K, .slice (some ⟨s5, 0, none⟩) 8 8] _
  have hT1 := hT.ext hx1
  clear hw1 hB hT
  have c0 : w1.cell? ⟨B, 0, none⟩ = some (.int .i64 (b : Int)) := (hR.cell (i := 0) (by simp)).trans rfl
  have c1 : w1.cell? ⟨B, 1, none⟩ = some (.slice (some ⟨s0, 0, none⟩) 3 3) := (hR.cell (i := 1) (by simp)).trans rfl
  have c2 : w1.cell? ⟨B, 2, none⟩ = some (.slice (some ⟨s1, 0, none⟩) 3 3) := (hR.cell (i := 2) (by simp)).trans rfl
  have c3 : w1.cell? ⟨B, 3, none⟩ = some (.slice (some ⟨s2, 0, none⟩) 3 3) := (hR.cell (i := 3) (by simp)).trans rfl
  have c4 : w1.cell? ⟨B, 4, none⟩ = some (.slice (some ⟨s3, 0, none⟩) 3 3) := (hR.cell (i := 4) (by simp)).trans rfl
  have c5 : w1.cell? ⟨B, 5, none⟩ = some (.int .u64 (n64 M)) := (hR.cell (i := 5) (by simp)).trans rfl
  have c6 : w1.cell? ⟨B, 6, none⟩ = some (.slice (some ⟨s4, 0, none⟩) K K) := (hR.cell (i := 6) (by simp)).trans rfl
  have c7 : w1.cell? ⟨B, 7, none⟩ = some (.slice (some ⟨s5, 0, none⟩) 8 8) := (hR.cell (i := 7) (by simp)).trans rfl
  have d0 : w1.cell? ⟨t, 0, none⟩ = some (.int .i64 (i : Int)) := (hT1.cell (i := 0) (by simp)).trans rfl
  have d1 : w1.cell? ⟨t, 1, none⟩ = some (.int .i64 (j : Int)) := (hT1.cell (i := 1) (by simp)).trans rfl
  have d2 : w1.cell? ⟨t, 2, none⟩ = some (.int .i64 (k : Int)) := (hT1.cell (i := 2) (by simp)).trans rfl
  refine wp_region_sure (fun w' => Ext w1 w') (by kernel_rfl) (ext_drew _) ?_
  refine wpAnyS_go (i := 0) (some 7) (v := ?_) rfl rfl (by kernel_rfl) (by kernel_rfl) (by kernel_rfl) (fun _ _ _ h => h) (.inl ⟨by rfl, fun w hS => ?_⟩) ?_
  rotate_left
  · have e1 := Ext.cell hS c0; have e2 := Ext.cell hS c1; have e3 := Ext.cell hS c2; have e4 := Ext.cell hS c3; have e5 := Ext.cell hS c4; have e6 := Ext.cell hS c5; have e7 := Ext.cell hS c6; have e8 := Ext.cell hS c7
    go_simp
    refine ⟨?_, hS⟩
    with_reducible rfl
  simp only [Act.put, List.setIfInBounds_toArray, List.set_cons_zero, List.set_cons_succ]
  refine wpAnyS_go (i := 1) (some 8) (v := ?_) rfl rfl (by kernel_rfl) (by kernel_rfl) (by kernel_rfl) (fun _ _ _ h => h) (.inl ⟨by rfl, fun w hS => ?_⟩) ?_
  rotate_left
  · (try go_simp)
    refine ⟨?_, hS⟩
    with_reducible rfl
  simp only [Act.put, List.setIfInBounds_toArray, List.set_cons_zero, List.set_cons_succ]
  refine wpAnyS_go (i := 2) (some 9) (v := ?_) rfl rfl (by kernel_rfl) (by kernel_rfl) (by kernel_rfl) (fun _ _ _ h => h) (.inl ⟨by rfl, fun w hS => ?_⟩) ?_
  rotate_left
  · (try go_simp)
    refine ⟨?_, hS⟩
    with_reducible rfl
  simp only [Act.put, List.setIfInBounds_toArray, List.set_cons_zero, List.set_cons_succ]
  refine wpAnyS_go (i := 3) (some 10) (v := ?_) rfl rfl (by kernel_rfl) (by kernel_rfl) (by kernel_rfl) (fun _ _ _ h => h) (.inl ⟨by rfl, fun w hS => ?_⟩) ?_
  rotate_left
  · (try go_simp)
    refine ⟨?_, hS⟩
    with_reducible rfl
  simp only [Act.put, List.setIfInBounds_toArray, List.set_cons_zero, List.set_cons_succ]
  refine wpAnyS_go (i := 4) (some 11) (v := ?_) rfl rfl (by kernel_rfl) (by kernel_rfl) (by kernel_rfl) (fun _ _ _ h => h) (.inl ⟨by rfl, fun w hS => ?_⟩) ?_
  rotate_left
  · have e1 := Ext.cell hS d0
    go_simp
    refine ⟨?_, hS⟩
    with_reducible rfl
  simp only [Act.put, List.setIfInBounds_toArray, List.set_cons_zero, List.set_cons_succ]
  refine wpAnyS_go (i := 5) (some 12) (v := ?_) rfl rfl (by kernel_rfl) (by kernel_rfl) (by kernel_rfl) (fun _ _ _ h => h) (.inl ⟨by rfl, fun w hS => ?_⟩) ?_
  rotate_left
  · go_simp
    change Calls _ _ _ _ _
    refine Calls.mono (q1 _) ?_
    rintro e w' ⟨rfl, hx⟩
    refine ⟨?_, hS.trans hx⟩
    with_reducible rfl
  simp only [Act.put, List.setIfInBounds_toArray, List.set_cons_zero, List.set_cons_succ]
  refine wpAnyS_go (i := 6) (some 13) (v := ?_) rfl rfl (by kernel_rfl) (by kernel_rfl) (by kernel_rfl) (fun _ _ _ h => h) (.inl ⟨by rfl, fun w hS => ?_⟩) ?_
  rotate_left
  · have e1 := Ext.cell hS c0; have e2 := Ext.cell hS c1; have e3 := Ext.cell hS c2; have e4 := Ext.cell hS c3; have e5 := Ext.cell hS c4; have e6 := Ext.cell hS c5; have e7 := Ext.cell hS c6; have e8 := Ext.cell hS c7
    go_simp
    refine ⟨?_, hS⟩
    with_reducible rfl
  simp only [Act.put, List.setIfInBounds_toArray, List.set_cons_zero, List.set_cons_succ]
  refine wpAnyS_go (i := 7) (some 14) (v := ?_) rfl rfl (by kernel_rfl) (by kernel_rfl) (by kernel_rfl) (fun _ _ _ h => h) (.inl ⟨by rfl, fun w hS => ?_⟩) ?_
  rotate_left
  · (try go_simp)
    refine ⟨?_, hS⟩
    with_reducible rfl
  simp only [Act.put, List.setIfInBounds_toArray, List.set_cons_zero, List.set_cons_succ]
  refine wpAnyS_go (i := 8) (some 15) (v := ?_) rfl rfl (by kernel_rfl) (by kernel_rfl) (by kernel_rfl) (fun _ _ _ h => h) (.inl ⟨by rfl, fun w hS => ?_⟩) ?_
  rotate_left
  · (try go_simp)
    refine ⟨?_, hS⟩
    with_reducible rfl
  simp only [Act.put, List.setIfInBounds_toArray, List.set_cons_zero, List.set_cons_succ]
  refine wpAnyS_go (i := 9) (some 16) (v := ?_) rfl rfl (by kernel_rfl) (by kernel_rfl) (by kernel_rfl) (fun _ _ _ h => h) (.inl ⟨by rfl, fun w hS => ?_⟩) ?_
  rotate_left
  · (try go_simp)
    refine ⟨?_, hS⟩
    with_reducible rfl
  simp only [Act.put, List.setIfInBounds_toArray, List.set_cons_zero, List.set_cons_succ]
  refine wpAnyS_go (i := 10) (some 17) (v := ?_) rfl rfl (by kernel_rfl) (by kernel_rfl) (by kernel_rfl) (fun _ _ _ h => h) (.inl ⟨by rfl, fun w hS => ?_⟩) ?_
  rotate_left
  · have e1 := Ext.cell hS d1
    go_simp
    refine ⟨?_, hS⟩
    with_reducible rfl
  simp only [Act.put, List.setIfInBounds_toArray, List.set_cons_zero, List.set_cons_succ]
  refine wpAnyS_go (i := 11) (some 18) (v := ?_) rfl rfl (by kernel_rfl) (by kernel_rfl) (by kernel_rfl) (fun _ _ _ h => h) (.inl ⟨by rfl, fun w hS => ?_⟩) ?_
  rotate_left
  · go_simp
    change Calls _ _ _ _ _
    refine Calls.mono (q2 _) ?_
    rintro e w' ⟨rfl, hx⟩
    refine ⟨?_, hS.trans hx⟩
    with_reducible rfl
  simp only [Act.put, List.setIfInBounds_toArray, List.set_cons_zero, List.set_cons_succ]
  refine wpAnyS_go (i := 12) (some 19) (v := ?_) rfl rfl (by kernel_rfl) (by kernel_rfl) (by kernel_rfl) (fun _ _ _ h => h) (.inl ⟨by rfl, fun w hS => ?_⟩) ?_
  rotate_left
  · (try go_simp)
    refine ⟨?_, hS⟩
    with_reducible rfl
  simp only [Act.put, List.setIfInBounds_toArray, List.set_cons_zero, List.set_cons_succ]
  refine wpAnyS_go (i := 13) (some 20) (v := ?_) rfl rfl (by kernel_rfl) (by kernel_rfl) (by kernel_rfl) (fun _ _ _ h => h) (.inl ⟨by rfl, fun w hS => ?_⟩) ?_
  rotate_left
  · (try go_simp)
    refine ⟨?_, hS⟩
    with_reducible rfl
  simp only [Act.put, List.setIfInBounds_toArray, List.set_cons_zero, List.set_cons_succ]
  refine wpAnyS_go (i := 14) (some 21) (v := ?_) rfl rfl (by kernel_rfl) (by kernel_rfl) (by kernel_rfl) (fun _ _ _ h => h) (.inl ⟨by rfl, fun w hS => ?_⟩) ?_
  rotate_left
  · (try go_simp)
    refine ⟨?_, hS⟩
    with_reducible rfl
  simp only [Act.put, List.setIfInBounds_toArray, List.set_cons_zero, List.set_cons_succ]
  refine wpAnyS_go (i := 15) (some 22) (v := ?_) rfl rfl (by kernel_rfl) (by kernel_rfl) (by kernel_rfl) (fun _ _ _ h => h) (.inl ⟨by rfl, fun w hS => ?_⟩) ?_
  rotate_left
  · (try go_simp)
    refine ⟨?_, hS⟩
    with_reducible rfl
  simp only [Act.put, List.setIfInBounds_toArray, List.set_cons_zero, List.set_cons_succ]
  refine wpAnyS_go (i := 16) (some 23) (v := ?_) rfl rfl (by kernel_rfl) (by kernel_rfl) (by kernel_rfl) (fun _ _ _ h => h) (.inl ⟨by rfl, fun w hS => ?_⟩) ?_
  rotate_left
  · have e1 := Ext.cell hS d2
    go_simp
    refine ⟨?_, hS⟩
    with_reducible rfl
  simp only [Act.put, List.setIfInBounds_toArray, List.set_cons_zero, List.set_cons_succ]
  refine wpAnyS_go (i := 17) (some 24) (v := ?_) rfl rfl (by kernel_rfl) (by kernel_rfl) (by kernel_rfl) (fun _ _ _ h => h) (.inl ⟨by rfl, fun w hS => ?_⟩) ?_
  rotate_left
  · (try go_simp)
    refine ⟨?_, hS⟩
    with_reducible rfl
  simp only [Act.put, List.setIfInBounds_toArray, List.set_cons_zero, List.set_cons_succ]
  refine wpAnyS_go (i := 18) (some 25) (v := ?_) rfl rfl (by kernel_rfl) (by kernel_rfl) (by kernel_rfl) (fun _ _ _ h => h) (.inl ⟨by rfl, fun w hS => ?_⟩) ?_
  rotate_left
  · (try go_simp)
    refine ⟨?_, hS⟩
    with_reducible rfl
  simp only [Act.put, List.setIfInBounds_toArray, List.set_cons_zero, List.set_cons_succ]
  refine wpAnyS_go (i := 19) (some 6) (v := ?_) rfl rfl (by kernel_rfl) (by kernel_rfl) (by kernel_rfl) (fun _ _ _ h => h) (.inl ⟨by rfl, fun w hS => ?_⟩) ?_
  rotate_left
  · (try go_simp)
    refine ⟨?_, hS⟩
    with_reducible rfl
  simp only [Act.put, List.setIfInBounds_toArray, List.set_cons_zero, List.set_cons_succ]
  refine wpAnyS_done (by kernel_rfl) fun w hS => ?_
  go_wp2
  go_ret
  exact ⟨rfl, hx1.trans hS⟩
set_option maxRecDepth 20000 in
set_option maxHeartbeats 4000000 in
theorem great_g (b i j k s0 s1 s2 s3 s4 s5 K t : Nat) (M x : UInt64) (w : World) (hb : b ≤ 64) (hi : 0 < i) (hi1 : i < b) (hj : 0 < j) (hj1 : j < b) (hk : 0 < k) (hk1 : k < b) (hT : Row w t 3 [.int .i64 (i : Int), .int .i64 (j : Int), .int .i64 (k : Int)]) :
    Calls Tryd.prog 32 #[.agg #[.int .i64 (b : Int), .slice (some ⟨s0, 0, none⟩) 3 3, .slice (some ⟨s1, 0, none⟩) 3 3, .slice (some ⟨s2, 0, none⟩) 3 3, .slice (some ⟨s3, 0, none⟩) 3 3, .int .u64 (n64 M), .slice (some ⟨s4, 0, none⟩) K K, .slice (some ⟨s5, 0, none⟩) 8 8], .int .u64 (n64 x), .slice (some ⟨t, 0, none⟩) 3 3] w fun e w' => e = .returned (.int .u64 (n64 (greatG b M x i j k))) ∧ Ext w w' := by
  have q1 := fun w => rot_g b i s0 s1 s2 s3 s4 s5 K M x w hb hi hi1
  have q2 := fun w => rot_g b j s0 s1 s2 s3 s4 s5 K M x w hb hj hj1
  have q3 := fun w => rot_g b k s0 s1 s2 s3 s4 s5 K M x w hb hk hk1
  have e : greatG b M x i j k = rotG b M x i ^^^ rotG b M x j ^^^ rotG b M x k := rfl
  rw [e]
  clear e
  generalize rotG b M x k = y3 at *
  generalize rotG b M x i = y1 at *
  generalize rotG b M x j = y2 at *
  go_enter Tryd.func32, Tryd.ntmps32
  go_wp2
  obtain ⟨w1, hw1⟩ : ∃ w1, w1 = w.alloc (.cells #[.int .i64 (b : Int), .slice (some ⟨s0, 0, none⟩) 3 3, .slice (some ⟨s1, 0, none⟩) 3 3, .slice (some ⟨s2, 0, none⟩) 3 3, .slice (some ⟨s3, 0, none⟩) 3 3, .int .u64 (n64 M), .slice (some ⟨s4, 0, none⟩) K K, .slice (some ⟨s5, 0, none⟩) 8 8] 53) := ⟨_, rfl⟩
  obtain ⟨B, hB⟩ : ∃ B, B = w.heap.size := ⟨_, rfl⟩
  rw [← hw1, ← hB]
  have hx1 : Ext w w1 := by rw [hw1]; exact ext_alloc _ _
  have hR : Row w1 B 53 [.int .i64 (b : Int), .slice (some ⟨s0, 0, none⟩) 3 3, .slice (some ⟨s1, 0, none⟩) 3 3, .slice (some ⟨s2, 0, none⟩) 3 3, .slice (some ⟨s3, 0, none⟩) 3 3, .int .u64 (n64 M), .slice (some ⟨s4, 0, none⟩) K K, .slice (some ⟨s5, 0, none⟩) 8 8] := by rw [hw1, hB]; exact Row.alloc w [.int .i64 (b : Int), .slice (some ⟨s0, 0, none⟩) 3 3, .slice (some ⟨s1, 0, none⟩) 3 3, .slice (some ⟨s2, 0, none⟩) 3 3, .slice (some ⟨s3, 0, none⟩) 3 3, .int .u64 (n64 M), .slice (some ⟨s4, 0, none⟩) K K, .slice (some ⟨s5, 0, none⟩) 8 8] _
  have hT1 := hT.ext hx1
  clear hw1 hB hT
  have c0 : w1.cell? ⟨B, 0, none⟩ = some (.int .i64 (b : Int)) := (hR.cell (i := 0) (by simp)).trans rfl
  have c1 : w1.cell? ⟨B, 1, none⟩ = some (.slice (some ⟨s0, 0, none⟩) 3 3) := (hR.cell (i := 1) (by simp)).trans rfl
  have c2 : w1.cell? ⟨B, 2, none⟩ = some (.slice (some ⟨s1, 0, none⟩) 3 3) := (hR.cell (i := 2) (by simp)).trans rfl
  have c3 : w1.cell? ⟨B, 3, none⟩ = some (.slice (some ⟨s2, 0, none⟩) 3 3) := (hR.cell (i := 3) (by simp)).trans rfl
  have c4 : w1.cell? ⟨B, 4, none⟩ = some (.slice (some ⟨s3, 0, none⟩) 3 3) := (hR.cell (i := 4) (by simp)).trans rfl
  have c5 : w1.cell? ⟨B, 5, none⟩ = some (.int .u64 (n64 M)) := (hR.cell (i := 5) (by simp)).trans rfl
  have c6 : w1.cell? ⟨B, 6, none⟩ = some (.slice (some ⟨s4, 0, none⟩) K K) := (hR.cell (i := 6) (by simp)).trans rfl
  have c7 : w1.cell? ⟨B, 7, none⟩ = some (.slice (some ⟨s5, 0, none⟩) 8 8) := (hR.cell (i := 7) (by simp)).trans rfl
  have d0 : w1.cell? ⟨t, 0, none⟩ = some (.int .i64 (i : Int)) := (hT1.cell (i := 0) (by simp)).trans rfl
  have d1 : w1.cell? ⟨t, 1, none⟩ = some (.int .i64 (j : Int)) := (hT1.cell (i := 1) (by simp)).trans rfl
  have d2 : w1.cell? ⟨t, 2, none⟩ = some (.int .i64 (k : Int)) := (hT1.cell (i := 2) (by simp)).trans rfl
  refine wp_region_sure (fun w' => Ext w1 w') (by kernel_rfl) (ext_drew _) ?_
  refine wpAnyS_go (i := 0) (some 7) (v := ?_) rfl rfl (by kernel_rfl) (by kernel_rfl) (by kernel_rfl) (fun _ _ _ h => h) (.inl ⟨by rfl, fun w hS => ?_⟩) ?_
  rotate_left
  · have e1 := Ext.cell hS c0; have e2 := Ext.cell hS c1; have e3 := Ext.cell hS c2; have e4 := Ext.cell hS c3; have e5 := Ext.cell hS c4; have e6 := Ext.cell hS c5; have e7 := Ext.cell hS c6; have e8 := Ext.cell hS c7
    go_simp
    refine ⟨?_, hS⟩
    with_reducible rfl
  simp only [Act.put, List.setIfInBounds_toArray, List.set_cons_zero, List.set_cons_succ]
  refine wpAnyS_go (i := 1) (some 8) (v := ?_) rfl rfl (by kernel_rfl) (by kernel_rfl) (by kernel_rfl) (fun _ _ _ h => h) (.inl ⟨by rfl, fun w hS => ?_⟩) ?_
  rotate_left
  · (try go_simp)
    refine ⟨?_, hS⟩
    with_reducible rfl
  simp only [Act.put, List.setIfInBounds_toArray, List.set_cons_zero, List.set_cons_succ]
  refine wpAnyS_go (i := 2) (some 9) (v := ?_) rfl rfl (by kernel_rfl) (by kernel_rfl) (by kernel_rfl) (fun _ _ _ h => h) (.inl ⟨by rfl, fun w hS => ?_⟩) ?_
  rotate_left
  · (try go_simp)
    refine ⟨?_, hS⟩
    with_reducible rfl
  simp only [Act.put, List.setIfInBounds_toArray, List.set_cons_zero, List.set_cons_succ]
  refine wpAnyS_go (i := 3) (some 10) (v := ?_) rfl rfl (by kernel_rfl) (by kernel_rfl) (by kernel_rfl) (fun _ _ _ h => h) (.inl ⟨by rfl, fun w hS => ?_⟩) ?_
  rotate_left
  · (try go_simp)
    refine ⟨?_, hS⟩
    with_reducible rfl
  simp only [Act.put, List.setIfInBounds_toArray, List.set_cons_zero, List.set_cons_succ]
  refine wpAnyS_go (i := 4) (some 11) (v := ?_) rfl rfl (by kernel_rfl) (by kernel_rfl) (by kernel_rfl) (fun _ _ _ h => h) (.inl ⟨by rfl, fun w hS => ?_⟩) ?_
  rotate_left
  · have e1 := Ext.cell hS d0
    go_simp
    refine ⟨?_, hS⟩
    with_reducible rfl
  simp only [Act.put, List.setIfInBounds_toArray, List.set_cons_zero, List.set_cons_succ]
  refine wpAnyS_go (i := 5) (some 12) (v := ?_) rfl rfl (by kernel_rfl) (by kernel_rfl) (by kernel_rfl) (fun _ _ _ h => h) (.inl ⟨by rfl, fun w hS => ?_⟩) ?_
  rotate_left
  · go_simp
    change Calls _ _ _ _ _
    refine Calls.mono (q1 _) ?_
    rintro e w' ⟨rfl, hx⟩
    refine ⟨?_, hS.trans hx⟩
    with_reducible rfl
  simp only [Act.put, List.setIfInBounds_toArray, List.set_cons_zero, List.set_cons_succ]
  refine wpAnyS_go (i := 6) (some 13) (v := ?_) rfl rfl (by kernel_rfl) (by kernel_rfl) (by kernel_rfl) (fun _ _ _ h => h) (.inl ⟨by rfl, fun w hS => ?_⟩) ?_
  rotate_left
  · have e1 := Ext.cell hS c0; have e2 := Ext.cell hS c1; have e3 := Ext.cell hS c2; have e4 := Ext.cell hS c3; have e5 := Ext.cell hS c4; have e6 := Ext.cell hS c5; have e7 := Ext.cell hS c6; have e8 := Ext.cell hS c7
    go_simp
    refine ⟨?_, hS⟩
    with_reducible rfl
  simp only [Act.put, List.setIfInBounds_toArray, List.set_cons_zero, List.set_cons_succ]
  refine wpAnyS_go (i := 7) (some 14) (v := ?_) rfl rfl (by kernel_rfl) (by kernel_rfl) (by kernel_rfl) (fun _ _ _ h => h) (.inl ⟨by rfl, fun w hS => ?_⟩) ?_
  rotate_left
  · (try go_simp)
    refine ⟨?_, hS⟩
    with_reducible rfl
  simp only [Act.put, List.setIfInBounds_toArray, List.set_cons_zero, List.set_cons_succ]
  refine wpAnyS_go (i := 8) (some 15) (v := ?_) rfl rfl (by kernel_rfl) (by kernel_rfl) (by kernel_rfl) (fun _ _ _ h => h) (.inl ⟨by rfl, fun w hS => ?_⟩) ?_
  rotate_left
  · (try go_simp)
    refine ⟨?_, hS⟩
    with_reducible rfl
  simp only [Act.put, List.setIfInBounds_toArray, List.set_cons_zero, List.set_cons_succ]
  refine wpAnyS_go (i := 9) (some 16) (v := ?_) rfl rfl (by kernel_rfl) (by kernel_rfl) (by kernel_rfl) (fun _ _ _ h => h) (.inl ⟨by rfl, fun w hS => ?_⟩) ?_
  rotate_left
  · (try go_simp)
    refine ⟨?_, hS⟩
    with_reducible rfl
  simp only [Act.put, List.setIfInBounds_toArray, List.set_cons_zero, List.set_cons_succ]
  refine wpAnyS_go (i := 10) (some 17) (v := ?_) rfl rfl (by kernel_rfl) (by kernel_rfl) (by kernel_rfl) (fun _ _ _ h => h) (.inl ⟨by rfl, fun w hS => ?_⟩) ?_
  rotate_left
  · have e1 := Ext.cell hS d1
    go_simp
    refine ⟨?_, hS⟩
    with_reducible rfl
  simp only [Act.put, List.setIfInBounds_toArray, List.set_cons_zero, List.set_cons_succ]
  refine wpAnyS_go (i := 11) (some 18) (v := ?_) rfl rfl (by kernel_rfl) (by kernel_rfl) (by kernel_rfl) (fun _ _ _ h => h) (.inl ⟨by rfl, fun w hS => ?_⟩) ?_
  rotate_left
  · go_simp
    change Calls _ _ _ _ _
    refine Calls.mono (q2 _) ?_
    rintro e w' ⟨rfl, hx⟩
    refine ⟨?_, hS.trans hx⟩
    with_reducible rfl
  simp only [Act.put, List.setIfInBounds_toArray, List.set_cons_zero, List.set_cons_succ]
  refine wpAnyS_go (i := 12) (some 19) (v := ?_) rfl rfl (by kernel_rfl) (by kernel_rfl) (by kernel_rfl) (fun _ _ _ h => h) (.inl ⟨by rfl, fun w hS => ?_⟩) ?_
  rotate_left
  · (try go_simp)
    refine ⟨?_, hS⟩
    with_reducible rfl
  simp only [Act.put, List.setIfInBounds_toArray, List.set_cons_zero, List.set_cons_succ]
  refine wpAnyS_go (i := 13) (some 20) (v := ?_) rfl rfl (by kernel_rfl) (by kernel_rfl) (by kernel_rfl) (fun _ _ _ h => h) (.inl ⟨by rfl, fun w hS => ?_⟩) ?_
  rotate_left
  · have e1 := Ext.cell hS c0; have e2 := Ext.cell hS c1; have e3 := Ext.cell hS c2; have e4 := Ext.cell hS c3; have e5 := Ext.cell hS c4; have e6 := Ext.cell hS c5; have e7 := Ext.cell hS c6; have e8 := Ext.cell hS c7
    go_simp
    refine ⟨?_, hS⟩
    with_reducible rfl
  simp only [Act.put, List.setIfInBounds_toArray, List.set_cons_zero, List.set_cons_succ]
  refine wpAnyS_go (i := 14) (some 21) (v := ?_) rfl rfl (by kernel_rfl) (by kernel_rfl) (by kernel_rfl) (fun _ _ _ h => h) (.inl ⟨by rfl, fun w hS => ?_⟩) ?_
  rotate_left
  · (try go_simp)
    refine ⟨?_, hS⟩
    with_reducible rfl
  simp only [Act.put, List.setIfInBounds_toArray, List.set_cons_zero, List.set_cons_succ]
  refine wpAnyS_go (i := 15) (some 22) (v := ?_) rfl rfl (by kernel_rfl) (by kernel_rfl) (by kernel_rfl) (fun _ _ _ h => h) (.inl ⟨by rfl, fun w hS => ?_⟩) ?_
  rotate_left
  · (try go_simp)
    refine ⟨?_, hS⟩
    with_reducible rfl
  simp only [Act.put, List.setIfInBounds_toArray, List.set_cons_zero, List.set_cons_succ]
  refine wpAnyS_go (i := 16) (some 23) (v := ?_) rfl rfl (by kernel_rfl) (by kernel_rfl) (by kernel_rfl) (fun _ _ _ h => h) (.inl ⟨by rfl, fun w hS => ?_⟩) ?_
  rotate_left
  · (try go_simp)
    refine ⟨?_, hS⟩
    with_reducible rfl
  simp only [Act.put, List.setIfInBounds_toArray, List.set_cons_zero, List.set_cons_succ]
  refine wpAnyS_go (i := 17) (some 24) (v := ?_) rfl rfl (by kernel_rfl) (by kernel_rfl) (by kernel_rfl) (fun _ _ _ h => h) (.inl ⟨by rfl, fun w hS => ?_⟩) ?_
  rotate_left
  · have e1 := Ext.cell hS d2
    go_simp
    refine ⟨?_, hS⟩
    with_reducible rfl
  simp only [Act.put, List.setIfInBounds_toArray, List.set_cons_zero, List.set_cons_succ]
  refine wpAnyS_go (i := 18) (some 25) (v := ?_) rfl rfl (by kernel_rfl) (by kernel_rfl) (by kernel_rfl) (fun _ _ _ h => h) (.inl ⟨by rfl, fun w hS => ?_⟩) ?_
  rotate_left
  · go_simp
    change Calls _ _ _ _ _
    refine Calls.mono (q3 _) ?_
    rintro e w' ⟨rfl, hx⟩
    refine ⟨?_, hS.trans hx⟩
    with_reducible rfl
  simp only [Act.put, List.setIfInBounds_toArray, List.set_cons_zero, List.set_cons_succ]
  refine wpAnyS_go (i := 19) (some 26) (v := ?_) rfl rfl (by kernel_rfl) (by kernel_rfl) (by kernel_rfl) (fun _ _ _ h => h) (.inl ⟨by rfl, fun w hS => ?_⟩) ?_
  rotate_left
  · (try go_simp)
    refine ⟨?_, hS⟩
    with_reducible rfl
  simp only [Act.put, List.setIfInBounds_toArray, List.set_cons_zero, List.set_cons_succ]
  refine wpAnyS_go (i := 20) (some 6) (v := ?_) rfl rfl (by kernel_rfl) (by kernel_rfl) (by kernel_rfl) (fun _ _ _ h => h) (.inl ⟨by rfl, fun w hS => ?_⟩) ?_
  rotate_left
  · (try go_simp)
    refine ⟨?_, hS⟩
    with_reducible rfl
  simp only [Act.put, List.setIfInBounds_toArray, List.set_cons_zero, List.set_cons_succ]
  refine wpAnyS_done (by kernel_rfl) fun w hS => ?_
  go_wp2
  go_ret
  exact ⟨rfl, hx1.trans hS⟩
end Go.Proofs.YtnlphndfnnmdaaaDoor
