import Derived.Test.YtndohjgfjbopnaaRA
import Derived.Test.YtndohjgfjbopnaaRB
section
/-
  Plain laws of 23 sums that are settled into a number below 2^255.
-/
set_option linter.unusedSimpArgs false
set_option linter.unusedVariables false
namespace Go.Cv.Dig
open Go.RowKit
theorem dg_set' {l : List Nat} {i : Nat} (h : i < l.length) (x j : Nat) : dg (l.set i x) j = if j = i then x else dg l j := by
  unfold dg
  rw [List.getD_eq_getElem?_getD, List.getD_eq_getElem?_getD, List.getElem?_set]
  by_cases hj : j = i
  · subst hj; simp [h]
  · rw [if_neg (fun e => hj e.symm), if_neg hj]
theorem dg_le_dval {l : List Nat} {i : Nat} (h : i < l.length) : 16777216 ^ i * dg l i ≤ dval l := by
  rw [lo_hi l (Nat.le_of_lt h), hi_cons h, Nat.mul_add]
  omega
theorem small_of {l : List Nat} (h : ∀ j, dg l j < 16777216) : Small l := fun d hd => by
  obtain ⟨i, hi, rfl⟩ := List.mem_iff_getElem.1 hd
  rw [← dg_lt hi]; exact h i
/-- Behind i digits of the carrying. -/
structure CarryInv (X : Nat) (os : List Nat) (i : Nat) : Prop where
  len : os.length = 23
  low : ∀ j, j < i → dg os j < 16777216
  at_ : dg os i < 2 ^ 61
  far : ∀ j, i < j → dg os j < 2 ^ 60
  val : dval os = X
theorem CarryInv.start {os : List Nat} (hl : os.length = 23) (h : ∀ j, dg os j < 2 ^ 60) : CarryInv (dval os) os 0 :=
  ⟨hl, fun j hj => absurd hj (by omega), by have := h 0; omega, fun j _ => h j, rfl⟩
theorem CarryInv.step {X : Nat} {os : List Nat} {i : Nat} (h : CarryInv X os i) (hi : i < 22) :
    CarryInv X ((os.set (i + 1) (dg os (i + 1) + dg os i / 16777216)).set i (dg os i % 16777216)) (i + 1) := by
  obtain ⟨hl, h1, h2, h3, h4⟩ := h
  have h5 := h3 (i + 1) (by omega)
  have e1 := dval_set (l := os) (i := i + 1) (by omega) (dg os (i + 1) + dg os i / 16777216)
  have e2 := dval_set (l := os.set (i + 1) (dg os (i + 1) + dg os i / 16777216)) (i := i) (by rw [List.length_set]; omega) (dg os i % 16777216)
  rw [dg_set' (by omega), if_neg (by omega)] at e2
  have e3 := Nat.mod_add_div (dg os i) 16777216
  refine ⟨by simp [hl], fun j hj => ?_, ?_, fun j hj => ?_, ?_⟩
  · rw [dg_set' (by rw [List.length_set]; omega), dg_set' (by omega)]
    split
    · omega
    · rw [if_neg (by omega)]; exact h1 j (by omega)
  · rw [dg_set' (by rw [List.length_set]; omega), dg_set' (by omega), if_neg (by omega), if_pos rfl]
    omega
  · rw [dg_set' (by rw [List.length_set]; omega), dg_set' (by omega), if_neg (by omega), if_neg (by omega)]
    exact h3 j (by omega)
  · rw [← h4]
    rw [Nat.mul_add, Nat.pow_succ, Nat.mul_assoc] at e1
    have e4 : 16777216 ^ i * (dg os i % 16777216 + 16777216 * (dg os i / 16777216)) = 16777216 ^ i * dg os i := by rw [e3]
    rw [Nat.mul_add] at e4
    rw [Nat.mul_assoc (16777216 ^ i) 16777216 (dg os i / 16777216)] at e1
    omega
theorem CarryInv.done {X : Nat} {os : List Nat} (h : CarryInv X os 22) (hX : X < 16777216 ^ 23) : os.length = 23 ∧ Small os ∧ dval os = X := by
  refine ⟨h.len, small_of fun j => ?_, h.val⟩
  rcases Nat.lt_trichotomy j 22 with hj | rfl | hj
  · exact h.low j hj
  · have h1 := dg_le_dval (l := os) (i := 22) (by rw [h.len]; decide)
    rw [h.val] at h1
    rcases Nat.lt_or_ge (dg os 22) 16777216 with h2 | h2
    · exact h2
    · exfalso
      have h3 : 16777216 ^ 22 * 16777216 ≤ 16777216 ^ 22 * dg os 22 := Nat.mul_le_mul_left _ h2
      rw [← Nat.pow_succ] at h3
      omega
  · rw [dg_ge (by rw [h.len]; omega)]; decide
/-- Behind the digits 11 to k + 10 of the folding. -/
structure FoldInv (X : Nat) (os : List Nat) (k : Nat) (b : Bool) : Prop where
  len : os.length = 23
  far : ∀ j, k ≤ j → dg os j < 16777216
  all : ∀ j, dg os j < 2 ^ 39
  no : b = false → dval os = X ∧ Small os ∧ ∀ j, 11 ≤ j → j < k + 11 → dg os j = 0
  yes : b = true → dval os < X ∧ dval os % (2 ^ 255 - 19) = X % (2 ^ 255 - 19)
theorem FoldInv.start {X : Nat} {os : List Nat} (hl : os.length = 23) (hs : Small os) (hv : dval os = X) : FoldInv X os 0 false :=
  ⟨hl, fun j _ => hs.dg j, fun j => by have := hs.dg j; omega, fun _ => ⟨hv, hs, fun j h1 h2 => absurd h2 (by omega)⟩, fun h => by cases h⟩
theorem FoldInv.zero {X : Nat} {os : List Nat} {k : Nat} {b : Bool} (h : FoldInv X os k b) (h0 : dg os (k + 11) = 0) : FoldInv X os (k + 1) b := by
  obtain ⟨hl, h1, h2, h3, h4⟩ := h
  refine ⟨hl, fun j hj => h1 j (by omega), h2, fun hb => ?_, h4⟩
  obtain ⟨h5, h6, h7⟩ := h3 hb
  refine ⟨h5, h6, fun j hj1 hj2 => ?_⟩
  by_cases e : j = k + 11
  · rw [e]; exact h0
  · exact h7 j hj1 (by omega)
theorem fold_val {P a d X Y Z : Nat} (hd : 0 < d) (hP : 0 < P) (e1 : Y + P * a = X + P * (a + d * 19 * 512)) (e2 : Z + P * 16777216 ^ 11 * d = Y + P * 16777216 ^ 11 * 0) :
    Z < X ∧ Z % (2 ^ 255 - 19) = X % (2 ^ 255 - 19) := by
  have e3 : X = Z + (2 ^ 255 - 19) * (512 * (P * d)) := by
    have e4 : P * (d * 19 * 512) = P * d * 9728 := by rw [Nat.mul_assoc d, ← Nat.mul_assoc P]
    rw [Nat.mul_add, e4] at e1
    rw [Nat.mul_right_comm P] at e2
    generalize P * d = Q at *
    omega
  have h1 : 0 < P * d := Nat.mul_pos hP hd
  refine ⟨by omega, ?_⟩
  rw [e3, Nat.add_mul_mod_self_left]
theorem FoldInv.step {X : Nat} {os : List Nat} {k : Nat} {b : Bool} (h : FoldInv X os k b) (hk : k < 12) (h0 : 0 < dg os (k + 11)) :
    FoldInv X ((os.set k (dg os k + dg os (k + 11) * 19 * 512)).set (k + 11) 0) (k + 1) true := by
  obtain ⟨hl, h1, h2, h3, h4⟩ := h
  have e1 := dval_set (l := os) (i := k) (by omega) (dg os k + dg os (k + 11) * 19 * 512)
  have e2 := dval_set (l := os.set k (dg os k + dg os (k + 11) * 19 * 512)) (i := k + 11) (by rw [List.length_set]; omega) 0
  rw [dg_set' (by omega), if_neg (by omega), Nat.pow_add] at e2
  have hf := fold_val h0 (Nat.pow_pos (by decide)) e1 e2
  have hk1 := h1 k (Nat.le_refl _)
  have hk2 := h1 (k + 11) (by omega)
  refine ⟨by simp [hl], fun j hj => ?_, fun j => ?_, fun hb => (by cases hb), fun _ => ?_⟩
  · rw [dg_set' (by rw [List.length_set]; omega), dg_set' (by omega)]
    split
    · decide
    · rw [if_neg (by omega)]; exact h1 j (by omega)
  · rw [dg_set' (by rw [List.length_set]; omega), dg_set' (by omega)]
    split
    · decide
    · split
      · omega
      · exact h2 j
  · cases b with
    | false =>
      have := (h3 rfl).1
      rw [← this]
      exact hf
    | true =>
      have := h4 rfl
      exact ⟨Nat.lt_trans hf.1 this.1, hf.2.trans this.2⟩
theorem top_val {P a d X Y Z q r : Nat} (hq : 0 < q) (e : r + 32768 * q = d) (e1 : Y + 16777216 ^ 0 * a = X + 16777216 ^ 0 * (a + 19 * q)) (e2 : Z + 16777216 ^ 10 * d = Y + 16777216 ^ 10 * r) :
    Z < X ∧ Z % (2 ^ 255 - 19) = X % (2 ^ 255 - 19) := by
  subst e
  have e3 : X = Z + (2 ^ 255 - 19) * q := by omega
  refine ⟨by omega, ?_⟩
  rw [e3, Nat.add_mul_mod_self_left]
theorem top_step {os : List Nat} (hl : os.length = 23) (hs : Small os) (h : 32768 ≤ dg os 10) :
    dval ((os.set 0 (dg os 0 + 19 * (dg os 10 / 32768))).set 10 (dg os 10 % 32768)) < dval os ∧
    dval ((os.set 0 (dg os 0 + 19 * (dg os 10 / 32768))).set 10 (dg os 10 % 32768)) % (2 ^ 255 - 19) = dval os % (2 ^ 255 - 19) := by
  have e1 := dval_set (l := os) (i := 0) (by omega) (dg os 0 + 19 * (dg os 10 / 32768))
  have e2 := dval_set (l := os.set 0 (dg os 0 + 19 * (dg os 10 / 32768))) (i := 10) (by rw [List.length_set]; omega) (dg os 10 % 32768)
  rw [dg_set' (by omega), if_neg (by omega)] at e2
  exact top_val (P := 0) (by omega) (Nat.mod_add_div _ _) e1 e2
/-- Ahead of a round of settling. -/
structure SetInv (N : Nat) (os : List Nat) (b : Bool) : Prop where
  len : os.length = 23
  all : ∀ j, dg os j < 2 ^ 60
  val : dval os < 16777216 ^ 23
  mod : dval os % (2 ^ 255 - 19) = N
  no : b = false → Small os ∧ (∀ j, 11 ≤ j → dg os j = 0) ∧ dg os 10 < 32768
theorem SetInv.last {N : Nat} {os : List Nat} (h : SetInv N os false) : Small (os.take 11) ∧ dval (os.take 11) < 2 ^ 255 ∧ dval (os.take 11) % (2 ^ 255 - 19) = N := by
  obtain ⟨h1, h2, h3⟩ := h.no rfl
  have e : dval (os.take 11) = dval os := take_val h2
  refine ⟨h1.take _, ?_, by rw [e]; exact h.mod⟩
  have h4 : lo os 11 = lo os 10 + 16777216 ^ 10 * dg os 10 := lo_succ os 10
  have h5 := lo_lt h1 10
  have h6 : dval (os.take 11) = lo os 11 := rfl
  rw [h6, h4]
  omega
theorem SetInv.fold {X N : Nat} {os : List Nat} {b : Bool} (h : FoldInv X os 12 b) (hX : X < 16777216 ^ 23) (hN : X % (2 ^ 255 - 19) = N) (hb : b = true ∨ dg os 10 < 32768) :
    SetInv N os b ∧ (2 * dval os + if b then 1 else 0) < 2 * X + 1 := by
  obtain ⟨hl, h1, h2, h3, h4⟩ := h
  cases b with
  | false =>
    obtain ⟨h5, h6, h7⟩ := h3 rfl
    refine ⟨⟨hl, fun j => by have := h2 j; omega, by rw [h5]; exact hX, by rw [h5]; exact hN, fun _ => ⟨h6, fun j hj => ?_, ?_⟩⟩, ?_⟩
    · by_cases e : j < 23
      · exact h7 j hj e
      · exact dg_ge (by omega)
    · simpa using hb
    · rw [h5]; simp
  | true =>
    obtain ⟨h5, h6⟩ := h4 rfl
    refine ⟨⟨hl, fun j => by have := h2 j; omega, Nat.lt_trans h5 hX, by rw [h6]; exact hN, fun h => by cases h⟩, ?_⟩
    simp only [if_true]
    omega
theorem SetInv.top {X N : Nat} {os : List Nat} (h : FoldInv X os 12 false) (hX : X < 16777216 ^ 23) (hN : X % (2 ^ 255 - 19) = N) (h10 : 32768 ≤ dg os 10) :
    SetInv N ((os.set 0 (dg os 0 + 19 * (dg os 10 / 32768))).set 10 (dg os 10 % 32768)) true ∧
    (2 * dval ((os.set 0 (dg os 0 + 19 * (dg os 10 / 32768))).set 10 (dg os 10 % 32768)) + if true then 1 else 0) < 2 * X + 1 := by
  obtain ⟨hl, h1, h2, h3, h4⟩ := h
  obtain ⟨h5, h6, h7⟩ := h3 rfl
  have hd0 := h6.dg 0
  have hd1 := h6.dg 10
  obtain ⟨h8, h9⟩ := top_step hl h6 h10
  rw [h5] at h8 h9
  refine ⟨⟨by simp [hl], fun j => ?_, Nat.lt_trans h8 hX, h9.trans hN, fun h => by cases h⟩, ?_⟩
  · rw [dg_set' (by rw [List.length_set]; omega), dg_set' (by omega)]
    split
    · omega
    · split
      · omega
      · have := h2 j; omega
  · simp only [if_true]
    omega
end Go.Cv.Dig
end
section
/-
  Walks of the document's answer: 23 sums settled.
-/
set_option linter.unusedSimpArgs false
set_option linter.unusedVariables false
namespace Go.Cv
theorem leastN_round {P T : Nat → Prop} {M n : Nat} (h : P n) (hn : n < M) (hM : M = leastN T) : (∃ n, P n) ∧ leastN P < leastN T :=
  ⟨⟨n, h⟩, by rw [← hM]; exact leastN_lt h hn⟩
end Go.Cv
namespace Go.Proofs.Ytndohjgfjbopnaa
open Go.RowKit Go.Cv Go.Cv.Dig

set_option maxRecDepth 4000 in
set_option maxHeartbeats 4000000 in
theorem settle_any (w : World) (os0 : List Nat) (x0 : Nat × Array Obj) (N : Nat) (h0 : SetInv N os0 true) :
    Calls Try.prog 68 #[.slice (some ⟨w.heap.size, 0, none⟩) 23 23] (grw (w.alloc (.cells (icells os0) 3)) x0) fun e w' => ∃ v, e = .returned v ∧ Num w' v N 11 ∧ Ext w w' := by
  replace h0 := Lib.hid h0
  go_enter Try.func68, Try.ntmps68
  go_wp2
  obtain ⟨R, hR⟩ : ∃ R : World → Value → Nat → Prop, R = fun wr v n => ∃ (os : List Nat) (b : Bool) (x : Nat × Array Obj), n = 2 * dval os + (if b then 1 else 0) ∧ v = .bool b ∧ wr = grw (w.alloc (.cells (icells os) 3)) x ∧ Hid (SetInv N os b) := ⟨_, rfl⟩
  replace hR := Lib.hid hR
  go_loopw [3] (fun v wr => ∃ n, R wr v n) (fun v wr => leastN (R wr v))
  case atStart => exact ⟨_, by rw [hR.out]; exact ⟨os0, true, x0, rfl, rfl, rfl, h0⟩⟩
  case round =>
    have hsp := leastN_spec hrel
    clear hrel
    obtain ⟨M, hx⟩ : ∃ x, x = leastN (R wr u3) := ⟨_, rfl⟩
    rw [← hx, hR.out] at hsp
    replace hx := Lib.hid hx
    obtain ⟨os, b, x, hM, rfl, rfl, HS⟩ := hsp
    cases b with
    | false =>
      obtain ⟨l1, l2, l3⟩ := HS.out.last
      have hlen : (os.take 11).length = 11 := by rw [List.length_take, HS.out.len]; rfl
      have L := Lib.hid (And.intro l1 (And.intro l2 (And.intro l3 hlen)))
      clear l1 l2 l3 hlen
      have hrd : Rd (grw (w.alloc (.cells (icells os) 3)) x) (some ⟨w.heap.size, 0, none⟩) ((os.take 11).map iv) := by rw [List.map_take]; exact ((rd_icells w os _).ext (grw_ext _ _)).take 11
      go_wp2_with (first
        | (go_at_call 80; with_reducible refine (cut_any _ 11 _ (os.take 11) _ L.out.2.2.2 L.out.1 hrd (by decide) (by decide)).mono ?_; rintro e w' ⟨r, rfl, hri, hrv, hrc, rfl⟩)
        | (go_at_call 91; with_reducible refine (below_any _ r _ ((os.take 11).take r) _ (by rw [List.length_take, L.out.2.2.2, Nat.min_eq_left hri]) hrc (by rw [hrv]; exact L.out.2.1) (by rw [List.map_take]; exact hrd.take r) hri (by omega)).mono ?_; rintro e w' ⟨v, rfl, hv, hx9⟩))
      go_ret
      exact ⟨_, rfl, by rw [hrv, L.out.2.2.1] at hv; exact hv, ((ext_alloc _ _).trans (grw_ext _ _)).trans hx9⟩
    | true =>
      obtain ⟨X, hX⟩ : ∃ X, X = dval os := ⟨_, rfl⟩
      have HC : Hid (CarryInv X os 0) := Lib.hid (hX ▸ CarryInv.start HS.out.len HS.out.all)
      have HX : Hid (X < 16777216 ^ 23 ∧ X % (2 ^ 255 - 19) = N ∧ M = 2 * X + 1) := Lib.hid ⟨hX ▸ HS.out.val, hX ▸ HS.out.mod, by rw [hM, hX]; rfl⟩
      clear hM HS hX
      go_wp2
      go_loopw [4] (fun t wr => ∃ (i : Nat) (os : List Nat) (x : Nat × Array Obj), i ≤ 22 ∧ t = .int .i64 i ∧ wr = grw (w.alloc (.cells (icells os) 3)) x ∧ Hid (CarryInv X os i)) (fun t _ => 22 - (intOf t).toNat)
      case atStart => exact ⟨0, os, x, by decide, rfl, rfl, HC⟩
      case round =>
        clear HC
        obtain ⟨i, os, x, hi, rfl, rfl, HC⟩ := hrel
        have hlen : (icells os).size = 23 := by rw [icells_size, HC.out.len]
        by_cases hlt : i < 22
        · have h1 := HC.out.at_
          have h2 := HC.out.far (i + 1) (by omega)
          have hg : (icells os)[i]? = some (iv (dg os i)) := icells_get os (by rw [HC.out.len]; omega)
          have hg1 : ∀ h : i < (icells os).size, (icells os)[i]'h = iv (dg os i) := fun h => by rw [Array.getElem?_eq_getElem h] at hg; exact Option.some.inj hg
          have hg2 : (icells os)[i + 1]? = some (iv (dg os (i + 1))) := icells_get os (by rw [HC.out.len]; omega)
          have hg3 : ∀ h : i + 1 < (icells os).size, (icells os)[i + 1]'h = iv (dg os (i + 1)) := fun h => by rw [Array.getElem?_eq_getElem h] at hg2; exact Option.some.inj hg2
          have HT := Lib.hid (HC.out.step hlt)
          obtain ⟨e, he⟩ : ∃ e, e = dg os (i + 1) + dg os i / 16777216 := ⟨_, rfl⟩
          have w0 : IntKind.i64.wrap ((i : Int) + 1) = (i : Int) + 1 := IntWalk.i64_in _ (by omega)
          have w1 : IntKind.i64.wrap ((dg os i : Int) / 16777216) = (dg os i : Int) / 16777216 := IntWalk.i64_in _ (by omega)
          have w2 : IntKind.i64.wrap ((dg os (i + 1) : Int) + (dg os i : Int) / 16777216) = (e : Int) := by rw [IntWalk.i64_in _ (by omega), he]; rfl
          go_wp2
          go_region
          all_goals
            go_wp2
            refine ⟨⟨i + 1, (os.set (i + 1) (dg os (i + 1) + dg os i / 16777216)).set i (dg os i % 16777216), _, by omega, by go_num, by rw [← icells_set, ← icells_set]; rfl, HT⟩, by simp [intOf]; omega⟩
        · have hin : i = 22 := by omega
          subst hin
          have HD := Lib.hid (HC.out.done HX.out.1)
          have HF : Hid (FoldInv X os 0 false) := Lib.hid (FoldInv.start HD.out.1 HD.out.2.1 HD.out.2.2)
          clear HD HC hlen
          go_wp2
          go_loopw [3, 5] (fun v t wr => ∃ (k : Nat) (b : Bool) (os : List Nat) (x : Nat × Array Obj), k ≤ 12 ∧ v = .bool b ∧ t = .int .i64 ((k + 11 : Nat) : Int) ∧ wr = grw (w.alloc (.cells (icells os) 3)) x ∧ Hid (FoldInv X os k b)) (fun _ t _ => 23 - (intOf t).toNat)
          case atStart => exact ⟨0, false, os, x, by decide, rfl, rfl, rfl, HF⟩
          case round =>
            clear HF
            obtain ⟨k, b, os, x, hk, rfl, rfl, rfl, HF⟩ := hrel
            have hlen : (icells os).size = 23 := by rw [icells_size, HF.out.len]
            by_cases hlt : k < 12
            · have h1 := HF.out.far k (Nat.le_refl _)
              have h2 := HF.out.far (k + 11) (by omega)
              have hg : (icells os)[k]? = some (iv (dg os k)) := icells_get os (by rw [HF.out.len]; omega)
              have hg1 : ∀ h : k < (icells os).size, (icells os)[k]'h = iv (dg os k) := fun h => by rw [Array.getElem?_eq_getElem h] at hg; exact Option.some.inj hg
              have hg2 : (icells os)[k + 11]? = some (iv (dg os (k + 11))) := icells_get os (by rw [HF.out.len]; omega)
              have hg3 : ∀ h : k + 11 < (icells os).size, (icells os)[k + 11]'h = iv (dg os (k + 11)) := fun h => by rw [Array.getElem?_eq_getElem h] at hg2; exact Option.some.inj hg2
              have w0 : IntKind.i64.wrap (((k + 11 : Nat) : Int) - 11) = (k : Int) := by rw [IntWalk.i64_in _ (by omega)]; omega
              have w5 : ((k + 11 : Nat) : Int) < 23 := by omega
              by_cases hz : dg os (k + 11) = 0
              · have HT := Lib.hid (HF.out.zero hz)
                rw [hz] at hg2 hg3
                go_wp2
                refine ⟨⟨k + 1, b, os, x, by omega, rfl, by go_num, rfl, HT⟩, by simp [intOf]; omega⟩
              · have HT := Lib.hid (HF.out.step hlt (Nat.pos_of_ne_zero hz))
                have hz' : (0 : Int) < (dg os (k + 11) : Int) := by omega
                have w1 : IntKind.i64.wrap ((dg os (k + 11) : Int) * 19) = (dg os (k + 11) : Int) * 19 := IntWalk.i64_in _ (by omega)
                have w2 : IntKind.i64.wrap ((dg os (k + 11) : Int) * 19 * 512) = (dg os (k + 11) : Int) * 19 * 512 := IntWalk.i64_in _ (by omega)
                have w3 : IntKind.i64.wrap ((dg os k : Int) + (dg os (k + 11) : Int) * 19 * 512) = (dg os k : Int) + (dg os (k + 11) : Int) * 19 * 512 := IntWalk.i64_in _ (by omega)
                go_wp2
                go_region
                all_goals
                  go_wp2
                  refine ⟨⟨k + 1, true, (os.set k (dg os k + dg os (k + 11) * 19 * 512)).set (k + 11) 0, _, by omega, rfl, by go_num, by rw [← icells_set, ← icells_set]; rfl, HT⟩, by simp [intOf]; omega⟩
            · have hkn : k = 12 := by omega
              subst hkn
              have hg : (icells os)[10]? = some (iv (dg os 10)) := icells_get os (by rw [HF.out.len]; omega)
              have hg1 : ∀ h : 10 < (icells os).size, (icells os)[10]'h = iv (dg os 10) := fun h => by rw [Array.getElem?_eq_getElem h] at hg; exact Option.some.inj hg
              have hg2 : (icells os)[0]? = some (iv (dg os 0)) := icells_get os (by rw [HF.out.len]; omega)
              have hg3 : ∀ h : 0 < (icells os).size, (icells os)[0]'h = iv (dg os 0) := fun h => by rw [Array.getElem?_eq_getElem h] at hg2; exact Option.some.inj hg2
              have h10 := HF.out.all 10
              have h00 := HF.out.all 0
              cases b with
              | true =>
                have HT := Lib.hid (SetInv.fold HF.out HX.out.1 HX.out.2.1 (.inl rfl))
                go_wp2
                refine leastN_round (n := 2 * dval os + if true then 1 else 0) ?_ ?_ hx.out
                · rw [hR.out]
                  exact ⟨os, true, x, rfl, rfl, rfl, Lib.hid HT.out.1⟩
                · rw [HX.out.2.2]
                  exact HT.out.2
              | false =>
                by_cases hz : 32768 ≤ dg os 10
                · have hz' : decide ((32768 : Int) ≤ (dg os 10 : Int)) = true := decide_eq_true (by omega)
                  have HT := Lib.hid (SetInv.top HF.out HX.out.1 HX.out.2.1 hz)
                  have w1 : IntKind.i64.wrap ((dg os 10 : Int) / 32768) = (dg os 10 : Int) / 32768 := IntWalk.i64_in _ (by omega)
                  have w2 : IntKind.i64.wrap (19 * ((dg os 10 : Int) / 32768)) = 19 * ((dg os 10 : Int) / 32768) := IntWalk.i64_in _ (by omega)
                  have w3 : IntKind.i64.wrap ((dg os 0 : Int) + 19 * ((dg os 10 : Int) / 32768)) = (dg os 0 : Int) + 19 * ((dg os 10 : Int) / 32768) := IntWalk.i64_in _ (by omega)
                  clear hz
                  go_wp2
                  go_region
                  all_goals
                    go_wp2
                    refine leastN_round (n := 2 * dval ((os.set 0 (dg os 0 + 19 * (dg os 10 / 32768))).set 10 (dg os 10 % 32768)) + if true then 1 else 0) ?_ ?_ hx.out
                    · rw [hR.out]
                      exact ⟨(os.set 0 (dg os 0 + 19 * (dg os 10 / 32768))).set 10 (dg os 10 % 32768), true, _, rfl, rfl, by rw [← icells_set, ← icells_set]; rfl, Lib.hid HT.out.1⟩
                    · rw [HX.out.2.2]
                      exact HT.out.2
                · have hz' : decide ((32768 : Int) ≤ (dg os 10 : Int)) = false := decide_eq_false (by omega)
                  have HT := Lib.hid (SetInv.fold HF.out HX.out.1 HX.out.2.1 (.inr (by omega)))
                  clear hz
                  go_wp2
                  refine leastN_round (n := 2 * dval os + if false then 1 else 0) ?_ ?_ hx.out
                  · rw [hR.out]
                    exact ⟨os, false, x, rfl, rfl, rfl, Lib.hid HT.out.1⟩
                  · rw [HX.out.2.2]
                    exact HT.out.2
end Go.Proofs.Ytndohjgfjbopnaa
end
section
/-
  Plain laws of sums, differences and products in 23 digits.
-/
set_option linter.unusedSimpArgs false
set_option linter.unusedVariables false
namespace Go.Cv.Dig
open Go.RowKit
theorem dg_rep (n j : Nat) : dg (List.replicate n 0) j = 0 := by
  unfold dg
  rw [List.getD_eq_getElem?_getD, List.getElem?_replicate]
  split <;> rfl
theorem dval_rep (n : Nat) : dval (List.replicate n 0) = 0 := dval_zeros fun d hd => List.eq_of_mem_replicate hd
/-- Behind i digits of a sum. -/
structure AddInv (a b os : List Nat) (i : Nat) : Prop where
  len : os.length = 23
  all : ∀ j, dg os j < 2 ^ 26
  far : ∀ j, i ≤ j → dg os j = 0
  val : dval os = lo a i + lo b i
theorem AddInv.start (a b : List Nat) : AddInv a b (List.replicate 23 0) 0 :=
  ⟨by simp, fun j => by rw [dg_rep]; decide, fun j _ => dg_rep _ _, by rw [dval_rep, lo_zero, lo_zero]⟩
theorem AddInv.step {a b os : List Nat} {i : Nat} (ha : Small a) (hb : Small b) (h : AddInv a b os i) (hi : i < 11) :
    AddInv a b (os.set i (dg a i + dg b i)) (i + 1) := by
  obtain ⟨hl, h1, h2, h3⟩ := h
  have ha := ha.dg i
  have hb := hb.dg i
  have e1 := dval_set (l := os) (i := i) (by omega) (dg a i + dg b i)
  rw [h2 i (Nat.le_refl _), Nat.mul_zero, Nat.add_zero, Nat.mul_add] at e1
  refine ⟨by simp [hl], fun j => ?_, fun j hj => ?_, ?_⟩
  · rw [dg_set' (by omega)]
    split
    · omega
    · exact h1 j
  · rw [dg_set' (by omega), if_neg (by omega)]; exact h2 j (by omega)
  · rw [e1, lo_succ, lo_succ]; omega
theorem dval_bound {os : List Nat} (h0 : ∀ j, 12 ≤ j → dg os j = 0) (h : ∀ j, dg os j < 2 ^ 60) : dval os < 16777216 ^ 23 := by
  have key : ∀ n, lo os n ≤ 2 ^ 60 * 16777216 ^ n := by
    intro n
    induction n with
    | zero => rw [lo_zero]; omega
    | succ n ih =>
      rw [lo_succ, show (16777216 : Nat) ^ (n + 1) = 16777216 ^ n * 16777216 from Nat.pow_succ ..]
      have h1 := h n
      have h2 : 16777216 ^ n * dg os n ≤ 16777216 ^ n * 2 ^ 60 := Nat.mul_le_mul_left _ (Nat.le_of_lt h1)
      generalize 16777216 ^ n = P at *
      generalize P * dg os n = Q at *
      omega
  have e : dval os = lo os 12 := (take_val h0).symm
  have := key 12
  rw [e]
  omega
theorem AddInv.done {a b os : List Nat} (h : AddInv a b os 11) (ha : a.length ≤ 11) (hb : b.length ≤ 11) : SetInv ((dval a + dval b) % (2 ^ 255 - 19)) os true := by
  obtain ⟨hl, h1, h2, h3⟩ := h
  rw [lo_all ha, lo_all hb] at h3
  have h4 : ∀ j, dg os j < 2 ^ 60 := fun j => by have := h1 j; omega
  exact ⟨hl, h4, dval_bound (fun j hj => h2 j (by omega)) h4, by rw [h3], fun h => by cases h⟩
/-- Behind i digits of a difference. -/
structure SubInv (a b os : List Nat) (i : Nat) : Prop where
  len : os.length = 23
  all : ∀ j, dg os j < 2 ^ 26
  far : ∀ j, i ≤ j → dg os j = 0
  val : dval os + lo b i = lo a i + 2 * lo pdig i
theorem SubInv.start (a b : List Nat) : SubInv a b (List.replicate 23 0) 0 :=
  ⟨by simp, fun j => by rw [dg_rep]; decide, fun j _ => dg_rep _ _, by rw [dval_rep, lo_zero, lo_zero, lo_zero]⟩
theorem SubInv.step {a b os : List Nat} {i : Nat} (ha : Small a) (h : SubInv a b os i) (hi : i < 11) (hb : dg b i ≤ dg a i + 2 * dg pdig i) :
    SubInv a b (os.set i (dg a i + 2 * dg pdig i - dg b i)) (i + 1) := by
  obtain ⟨hl, h1, h2, h3⟩ := h
  have ha := ha.dg i
  have hp := pdig_canon.1.dg i
  have e1 := dval_set (l := os) (i := i) (by omega) (dg a i + 2 * dg pdig i - dg b i)
  rw [h2 i (Nat.le_refl _), Nat.mul_zero, Nat.add_zero] at e1
  have e2 : 16777216 ^ i * (dg a i + 2 * dg pdig i - dg b i) + 16777216 ^ i * dg b i = 16777216 ^ i * dg a i + 2 * (16777216 ^ i * dg pdig i) := by
    rw [← Nat.mul_add, Nat.sub_add_cancel hb, Nat.mul_add, Nat.mul_left_comm]
  refine ⟨by simp [hl], fun j => ?_, fun j hj => ?_, ?_⟩
  · rw [dg_set' (by omega)]
    split
    · omega
    · exact h1 j
  · rw [dg_set' (by omega), if_neg (by omega)]; exact h2 j (by omega)
  · rw [e1, lo_succ, lo_succ, lo_succ]; omega
theorem pdig_dg : ∀ i, i < 10 → 8388608 ≤ dg pdig i := by decide
theorem sub_ok {b : List Nat} (hb : Small b) (h10 : dg b 10 < 32768) (i : Nat) (hi : i < 11) : dg b i ≤ 2 * dg pdig i := by
  have h1 := hb.dg i
  by_cases h : i = 10
  · subst h
    have : dg pdig 10 = 32767 := by decide
    omega
  · have := pdig_dg i (by omega); omega
theorem top_dg {b : List Nat} (hv : dval b < 2 ^ 255) : dg b 10 < 32768 := by
  rcases Nat.lt_or_ge 10 b.length with h | h
  · have := dg_le_dval h; omega
  · rw [dg_ge h]; decide
theorem SubInv.done {a b os : List Nat} (h : SubInv a b os 11) (ha : a.length ≤ 11) (hb : b.length ≤ 11) : SetInv ((dval a + 2 * (2 ^ 255 - 19) - dval b) % (2 ^ 255 - 19)) os true := by
  obtain ⟨hl, h1, h2, h3⟩ := h
  have hp : lo pdig 11 = 2 ^ 255 - 19 := by rw [lo_all (by decide), pdig_val]
  rw [lo_all ha, lo_all hb, hp] at h3
  have h4 : ∀ j, dg os j < 2 ^ 60 := fun j => by have := h1 j; omega
  refine ⟨hl, h4, dval_bound (fun j hj => h2 j (by omega)) h4, ?_, fun h => by cases h⟩
  congr 1
  omega
/-- Behind the rows 0 to i - 1 and k digits of row i of a product. -/
structure MulInv (D : Nat) (a b os : List Nat) (i k : Nat) : Prop where
  len : os.length = 23
  near : ∀ j, j < i + k → dg os j ≤ (i + 1) * D
  far : ∀ j, i + k ≤ j → dg os j ≤ i * D
  val : dval os = lo a i * dval b + 16777216 ^ i * (dg a i * lo b k)
theorem MulInv.start (D : Nat) (a b : List Nat) : MulInv D a b (List.replicate 23 0) 0 0 :=
  ⟨by simp, fun j hj => absurd hj (by omega), fun j _ => by rw [dg_rep]; exact Nat.zero_le _, by rw [dval_rep, lo_zero, lo_zero]; simp⟩
theorem MulInv.step {D : Nat} (hD : D = 281474976710656) {a b os : List Nat} {i k : Nat} (ha : Small a) (hb : Small b) (h : MulInv D a b os i k) (hi : i + k < 23) :
    MulInv D a b (os.set (i + k) (dg os (i + k) + dg a i * dg b k)) i (k + 1) ∧ dg os (i + k) ≤ i * D ∧ dg a i * dg b k < D := by
  obtain ⟨hl, h1, h2, h3⟩ := h
  have ha := ha.dg i
  have hb := hb.dg k
  have hm : dg a i * dg b k ≤ 16777215 * 16777215 := Nat.mul_le_mul (by omega) (by omega)
  have hf := h2 (i + k) (Nat.le_refl _)
  have e1 := dval_set (l := os) (i := i + k) (by omega) (dg os (i + k) + dg a i * dg b k)
  refine ⟨⟨by simp [hl], fun j hj => ?_, fun j hj => ?_, ?_⟩, hf, by omega⟩
  · rw [dg_set' (by omega)]
    split
    · rw [Nat.add_mul]; omega
    · exact h1 j (by omega)
  · rw [dg_set' (by omega), if_neg (by omega)]; exact h2 j (by omega)
  · rw [Nat.mul_add] at e1
    have e2 : 16777216 ^ (i + k) * (dg a i * dg b k) = 16777216 ^ i * (dg a i * (16777216 ^ k * dg b k)) := by
      rw [Nat.pow_add, Nat.mul_assoc, Nat.mul_left_comm (16777216 ^ k)]
    rw [lo_succ, Nat.mul_add (dg a i), Nat.mul_add (16777216 ^ i), ← e2]
    omega
theorem MulInv.row {D : Nat} {a b os : List Nat} {i : Nat} (h : MulInv D a b os i b.length) : MulInv D a b os (i + 1) 0 := by
  obtain ⟨hl, h1, h2, h3⟩ := h
  refine ⟨hl, fun j hj => ?_, fun j hj => ?_, ?_⟩
  · rcases Nat.lt_or_ge j (i + b.length) with h | h
    · have := h1 j h; rw [Nat.add_mul]; omega
    · have := h2 j h; rw [Nat.add_mul, Nat.add_mul]; omega
  · rcases Nat.lt_or_ge j (i + b.length) with h | h
    · have := h1 j h; omega
    · have := h2 j h; rw [Nat.add_mul]; omega
  · rw [h3, lo_all (Nat.le_refl _), lo_zero, lo_succ, Nat.add_mul, ← Nat.mul_assoc, Nat.mul_zero, Nat.mul_zero, Nat.add_zero]
theorem prod_lt {x y : Nat} (hx : x < 16777216 ^ 11) (hy : y < 16777216 ^ 11) : x * y < 16777216 ^ 23 := by
  refine Nat.lt_of_le_of_lt (Nat.mul_le_mul (Nat.le_of_lt hx) (Nat.le_of_lt hy)) ?_
  rw [← Nat.pow_add]
  exact Nat.pow_lt_pow_right (by decide) (by decide)
theorem MulInv.done {D : Nat} (hD : D = 281474976710656) {a b os : List Nat} (h : MulInv D a b os a.length 0) (hla : a.length ≤ 11) (hlb : b.length ≤ 11) (ha : Small a) (hb : Small b) : SetInv ((dval a * dval b) % (2 ^ 255 - 19)) os true := by
  obtain ⟨hl, h1, h2, h3⟩ := h
  rw [lo_all (Nat.le_refl _), lo_zero, Nat.mul_zero, Nat.mul_zero, Nat.add_zero] at h3
  refine ⟨hl, fun j => ?_, ?_, by rw [h3], fun h => by cases h⟩
  · have : (a.length + 1) * D ≤ 12 * D := Nat.mul_le_mul_right _ (by omega)
    have h9 : a.length * D ≤ 12 * D := Nat.mul_le_mul_right _ (by omega)
    rcases Nat.lt_or_ge j (a.length + 0) with h | h
    · have := h1 j h; omega
    · have := h2 j h; omega
  · have h4 := ha.lt
    have h5 := hb.lt
    have h6 : 16777216 ^ a.length ≤ 16777216 ^ 11 := Nat.pow_le_pow_right (by decide) hla
    have h7 : 16777216 ^ b.length ≤ 16777216 ^ 11 := Nat.pow_le_pow_right (by decide) hlb
    rw [h3]
    exact prod_lt (by omega) (by omega)
end Go.Cv.Dig
end
